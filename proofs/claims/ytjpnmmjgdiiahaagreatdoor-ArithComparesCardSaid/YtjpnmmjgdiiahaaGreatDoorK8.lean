import Derived.Shelf.Small.Bits
import Derived.Test.YtjpnmmjgdiiahaaGreatDoorRows
import Derived.WalkKit
import Derived.Deep.QuietTactic
import Derived.BigQuiet
import Derived.Deep.RegionHeld3
import Derived.Deep.DrawnRows
import Derived.Deep.DeepCutAuto
import Derived.Deep.CutBlock
import Derived.Laws.BytesArg
import Derived.Laws.AppendOwnNone
import Derived.ProofKit
import Derived.OpenShut
import Derived.JoinedCond
import Derived.JoinedOf
import Derived.JoinedAt
import Derived.ChangeSame
import Derived.ChangeSlices
import Derived.RowKit3
import Derived.Carry
import Derived.Lib.SmallJoins
import Derived.Deep.LoopGhost
import Derived.Maps.AppendAt
import Derived.IntWalk
import Derived.StillTailTactics
import Derived.Laws.Cover2
import Derived.Laws.FloatArith
import Derived.Test.YtjpnmmjgdiiahaaGreatDoorK1
import Derived.Test.YtjpnmmjgdiiahaaGreatDoorK2
import Derived.Test.YtjpnmmjgdiiahaaGreatDoorK5
import Derived.Test.YtjpnmmjgdiiahaaGreatDoorK7
set_option linter.unusedVariables false
set_option linter.unusedSimpArgs false
namespace Go.Proofs.YtjpnmmjgdiiahaaGreatDoor
section
open Go.RowKit Hb
end
section
open Go.ChangeShapes Go.WideShapes Go.ChangeAt Go.RowKit Go.Joins Hb
section
end
end
section
open Go.RowKit Hb
section
end
section
end
section
end
theorem sign_cmp (x y:Int):(x - y).sign=cmpZ x y:=by
 unfold cmpZ
 split
 ·exact Int.sign_eq_neg_one_of_neg (by omega)
 ·split
  ·exact Int.sign_eq_one_of_pos (by omega)
  ·rw [show x - y=0 by omega];rfl
section
end
section
end
def PostB (w:World) (z:Int) (e:Ending) (w':World):Prop:=∃ v,e = .returned v∧ResB w' w.heap.size v z∧Below w.heap.size w w'
def lb (x:Nat):Nat→List Nat | 0=>[] | k+1=>lb x k ++ [x / 2 ^ k % 2]
theorem lb_length (x:Nat):∀ k,(lb x k).length=k | 0=>rfl | k+1=>by rw [lb,List.length_append,lb_length x k];rfl
theorem lb_dig (x:Nat):∀ k,Dig 2 (lb x k) | 0=>Dig.nil _ | k+1=>(lb_dig x k).append (Dig.cons (Nat.mod_lt _ (by decide)) (Dig.nil _))
theorem lb_nv (x:Nat):∀ k,nv 2 (lb x k)=x % 2 ^ k
 | 0=>by rw [Nat.pow_zero,Nat.mod_one];rfl
 | k+1=>by rw [lb,nv_snoc,lb_length,lb_nv x k,Nat.pow_succ,Nat.mod_mul]
def PostL (w:World) (v:Nat) (e:Ending) (w':World):Prop:=
 ∃ A c,e = .returned (.slice A (digs 2 v).length c)∧OwnI w' w.heap.size A (digs 2 v).length c (i64s (digs 2 v))∧Below w.heap.size w w'
theorem rcut_own {B:Nat} {A:Option Addr} {o:List Nat} {n c:Nat} {w:World} (ho:OwnI w B A n c (i64s o)) (hl:o.length=n) (hd:Dig 2 o) {v:Nat} (hv:nv 2 o=v) :
  Calls Tryz.prog 137 #[.slice A n c] w fun e w'=>e = .returned (.slice A (digs 2 v).length c)∧w=w':=by
 refine (rcut_any (ho.sl hd hl)).mono fun e w' ⟨he,hw⟩=>⟨?_,hw⟩
 rw [he,←hv,←tr_eq_digs (b:=2) (by decide) hd,tr_length]
theorem own_cut {w:World} {B:Nat} {A:Option Addr} {o:List Nat} {n c:Nat} (ho:OwnI w B A n c (i64s o)) (hl:o.length=n) (hd:Dig 2 o) {v:Nat} (hv:nv 2 o=v):OwnI w B A (digs 2 v).length c (i64s (digs 2 v)):=by
 have e1:=tr_eq_digs (b:=2) (by decide) hd
 rw [hv] at e1
 rw [←e1,tr_length,tr,←i64s_take]
 exact ho.take (by rw [←hl];exact tlen_le o)
theorem add_step2 {P v c x y X Y t:Nat} (h:v+P * c=X+Y) (ht:t=x+y+c):(v+P * (t % 2))+P * 2 * (t / 2)=(X+P * x)+(Y+P * y):=by
 have h1:P * (t % 2)+P * 2 * (t / 2)=P * t:=by rw [Nat.mul_assoc,←Nat.mul_add,Nat.mod_add_div]
 rw [Nat.add_assoc,h1,ht,Nat.mul_add,Nat.mul_add];omega
set_option maxRecDepth 100000 in
set_option maxHeartbeats 2000000 in
theorem radd_any {B B':Nat} {A A':Option Addr} {l m:List Nat} {n c n' c':Nat} {w:World} (hs:SlI w B A n c l) (ht:SlI w B' A' n' c' m) (hn:n≤2147483648) (hn':n'≤2147483648) (hB:B≤w.heap.size) (hB':B'≤w.heap.size) :
  Calls Tryz.prog 193 #[.slice A n c,.slice A' n' c'] w (PostL w (nv 2 l+nv 2 m)):=by
 have hl1:=hs.len
 have hl2:=ht.len
 have HB1:=Lib.hid (fun k w1 (hb:Below w.heap.size w w1)=>show Calls Tryz.prog 162 #[.slice A n c,.int .i64 ((k:Nat):Int)] w1 (fun e w'=>e = .returned (.int .i64 (l.getD k 0:Nat))∧w1=w') by
  have:=rbit_any (hs.below (C:=w.heap.size) hb hB) (k:Int);rwa [bitZ_nat] at this)
 have HB2:=Lib.hid (fun k w1 (hb:Below w.heap.size w w1)=>show Calls Tryz.prog 162 #[.slice A' n' c',.int .i64 ((k:Nat):Int)] w1 (fun e w'=>e = .returned (.int .i64 (m.getD k 0:Nat))∧w1=w') by
  have:=rbit_any (ht.below (C:=w.heap.size) hb hB') (k:Int);rwa [bitZ_nat] at this)
 have HD:=Lib.hid (And.intro (fun k=>hs.dig.getD (b:=2) (by decide) k) (fun k=>ht.dig.getD (b:=2) (by decide) k))
 have HE:=Lib.hid (fun k (h1:n≤k) (h2:n'≤k)=>show nvp 2 l k+nvp 2 m k=nv 2 l+nv 2 m by rw [nvp_all (by omega),nvp_all (by omega)])
 have HG:=Lib.hid (fun k (h1:n≤k) (h2:n'≤k)=>show l.getD k 0=0∧m.getD k 0=0 from ⟨getD_past (by omega),getD_past (by omega)⟩)
 have HR0:=Lib.hid (RAdd.start w l m)
 have hnI:(n:Int)≤2147483648:=by omega
 have hnI':(n':Int)≤2147483648:=by omega
 clear hs ht hB hB' hl1 hl2
 go_enter Tryz.func193,Tryz.ntmps193
 go_wp2_with fail
 go_loopw [5,6,7] (fun ov cv kv wr=>∃ k cc:Nat,k≤max n n'+1∧kv = .int .i64 (k:Int)∧cv = .int .i64 (cc:Int)∧(max n n'+1≤k→cc=0)∧RAdd w l m k cc ov wr) (fun _ _ kv _=>max n n'+1 - (intOf kv).toNat)
 case atStart=>exact ⟨0,0,by omega,rfl,rfl,fun _=>rfl,HR0.out⟩
 case round=>
  obtain ⟨k,cc,hk,rfl,rfl,hkc,A2,n2,c2,o,rfl,ho,hlo,hnk,hdo,hvo,hc1,hb⟩:=hrel
  obtain rfl:n2=k:=hnk
  have HO:=Lib.hid ho
  have HX:=Lib.hid (And.intro hlo (And.intro hdo hvo))
  have HB:=Lib.hid hb
  have HKC:=Lib.hid hkc
  have hz1:=hb.size
  have hk0:(0:Int)≤(n2:Int):=by omega
  have hc0:(0:Int)≤(cc:Int):=by omega
  clear ho hlo hdo hvo hb hkc HR0
  by_cases hgo:n2<n∨n2<n'∨0<cc
  ·have hk9:n2≤max n n':=by
    rcases hgo with h | h | h
    ·omega
    ·omega
    ·have:=mt HKC.out (show ¬cc=0 by omega);omega
   have hxb:=HD.out.1 n2
   have hyb:=HD.out.2 n2
   have HC1:=Lib.hid (HB1.out n2 wr HB.out)
   have HC2:=Lib.hid (HB2.out n2 wr HB.out)
   have HNs:=Lib.hid (And.intro (nvp_succ 2 l n2) (nvp_succ 2 m n2))
   have HGk:=Lib.hid (fun h1 h2=>HG.out n2 h1 h2)
   generalize l.getD n2 0=x at *
   generalize m.getD n2 0=y at *
   obtain ⟨t,htd⟩:∃ t,x+y+cc=t:=⟨_,rfl⟩
   obtain ⟨r,hr⟩:∃ r,t % 2=r:=⟨_,rfl⟩
   obtain ⟨q,hq⟩:∃ q,t / 2=q:=⟨_,rfl⟩
   have htI:(x:Int)+(y:Int)+(cc:Int)=(t:Int):=by omega
   have ht9:t≤3:=by omega
   have ht0:(0:Int)≤(t:Int):=by omega
   have hrI:(t:Int) % 2=(r:Int):=by omega
   have hqI:(t:Int) / 2=(q:Int):=by omega
   have hq1:q≤1:=by omega
   have hr2:r<2:=by omega
   have HST:=Lib.hid (show nv 2 (o ++ [r])+2 ^ (n2+1) * q=nvp 2 l (n2+1)+nvp 2 m (n2+1) by
    rw [nv_snoc,HX.out.1,HNs.out.1,HNs.out.2,Nat.pow_succ,←hr,←hq]
    exact add_step2 HX.out.2.2 htd.symm)
   have HQ0:=Lib.hid (show max n n'+1≤n2+1→q=0 by
    intro h
    obtain ⟨h1,h2⟩:=HGk.out (by omega) (by omega)
    omega)
   have HRN:=Lib.hid (fun A3 c3 w3 (h1:OwnI w3 w.heap.size A3 (n2+1) c3 (i64s (o ++ [r]))) (h2:Below w.heap.size w w3)=>show RAdd w l m (n2+1) q (.slice A3 (n2+1) c3) w3 from
    ⟨A3,n2+1,c3,o ++ [r],rfl,h1,by rw [List.length_append,HX.out.1];rfl,rfl,HX.out.2.1.append (Dig.cons hr2 (Dig.nil _)),HST.out,hq1,h2⟩)
   have hn2b:n2≤4294967296:=by omega
   have hrt:(t:Int).tmod 2=(r:Int):=by rw [Int.tmod_eq_emod_of_nonneg ht0];exact hrI
   have hx1:(x:Int)≤1:=by omega
   have hy1:(y:Int)≤1:=by omega
   have hx0:(0:Int)≤(x:Int):=by omega
   have hy0:(0:Int)≤(y:Int):=by omega
   clear htd hr hq hyb hxb HNs HGk HD HE HG HB1 HB2 HST hq1 hr2 HKC
   rcases Nat.lt_or_ge n2 n with h1 | h1
   ·have e1:(n2:Int)<(n:Int):=by omega
    clear hgo
    go_wp2_with (first
     | (go_at_call 162;(with_reducible refine HC1.out.mono ?_);rintro e w' ⟨rfl,rfl⟩)
     | (go_at_call 162;(with_reducible refine HC2.out.mono ?_);rintro e w' ⟨rfl,rfl⟩)
     | (at_builtin;refine wpList_append_i64 (by rfl) _ _ (by rfl) w.heap.size A2 n2 c2 o (by rfl) (Own.alloc HO.out _) wr.heap.size r (by rfl) (by simp [go_sem]) hn2b (by simp;omega) ?_;intro A3 c3 w3 ho3 hb3))
    have HRX:=Lib.hid (HRN.out A3 c3 w3 ho3 ((HB.out.alloc hz1 _).trans hb3))
    clear ho3 hb3
    go_wp2_with fail
    go_roundw
    case rel=>exact ⟨n2+1,q,by omega,by go_num,rfl,HQ0.out,HRX.out⟩
    case measure=>simp [intOf];omega
   ·have e1:¬(n2:Int)<(n:Int):=by omega
    rcases Nat.lt_or_ge n2 n' with h2 | h2
    ·have e2:(n2:Int)<(n':Int):=by omega
     clear hgo
     go_wp2_with (first
      | (go_at_call 162;(with_reducible refine HC1.out.mono ?_);rintro e w' ⟨rfl,rfl⟩)
      | (go_at_call 162;(with_reducible refine HC2.out.mono ?_);rintro e w' ⟨rfl,rfl⟩)
      | (at_builtin;refine wpList_append_i64 (by rfl) _ _ (by rfl) w.heap.size A2 n2 c2 o (by rfl) (Own.alloc HO.out _) wr.heap.size r (by rfl) (by simp [go_sem]) hn2b (by simp;omega) ?_;intro A3 c3 w3 ho3 hb3))
     have HRX:=Lib.hid (HRN.out A3 c3 w3 ho3 ((HB.out.alloc hz1 _).trans hb3))
     clear ho3 hb3
     go_wp2_with fail
     go_roundw
     case rel=>exact ⟨n2+1,q,by omega,by go_num,rfl,HQ0.out,HRX.out⟩
     case measure=>simp [intOf];omega
    ·have e2:¬(n2:Int)<(n':Int):=by omega
     have e3:(0:Int)<(cc:Int):=by omega
     clear hgo
     go_wp2_with (first
      | (go_at_call 162;(with_reducible refine HC1.out.mono ?_);rintro e w' ⟨rfl,rfl⟩)
      | (go_at_call 162;(with_reducible refine HC2.out.mono ?_);rintro e w' ⟨rfl,rfl⟩)
      | (at_builtin;refine wpList_append_i64 (by rfl) _ _ (by rfl) w.heap.size A2 n2 c2 o (by rfl) (Own.alloc HO.out _) wr.heap.size r (by rfl) (by simp [go_sem]) hn2b (by simp;omega) ?_;intro A3 c3 w3 ho3 hb3))
     have HRX:=Lib.hid (HRN.out A3 c3 w3 ho3 ((HB.out.alloc hz1 _).trans hb3))
     clear ho3 hb3
     go_wp2_with fail
     go_roundw
     case rel=>exact ⟨n2+1,q,by omega,by go_num,rfl,HQ0.out,HRX.out⟩
     case measure=>simp [intOf];omega
  ·obtain rfl:cc=0:=by omega
   have HV:=Lib.hid (show nv 2 o=nv 2 l+nv 2 m by have h1:=HX.out.2.2;rw [Nat.mul_zero,Nat.add_zero] at h1;rw [h1];exact HE.out n2 (by omega) (by omega))
   have e1:¬(n2:Int)<(n:Int):=by omega
   have e2:¬(n2:Int)<(n':Int):=by omega
   have HC:=Lib.hid (rcut_own HO.out HX.out.1 HX.out.2.1 HV.out)
   have HF:=Lib.hid (own_cut HO.out HX.out.1 HX.out.2.1 HV.out)
   generalize nv 2 l+nv 2 m=v at *
   clear hgo HD HE HG HB1 HB2 HKC HX HV HO
   go_wp2_with (go_at_call 137;(with_reducible refine HC.out.mono ?_);rintro e w' ⟨rfl,rfl⟩)
   go_ret
   exact ⟨_,_,rfl,HF.out,HB.out⟩
set_option maxRecDepth 100000 in
set_option maxHeartbeats 2000000 in
theorem rsub_any {B B':Nat} {A A':Option Addr} {l m:List Nat} {n c n' c':Nat} {w:World} (hs:SlI w B A n c l) (ht:SlI w B' A' n' c' m) (hn:n≤2147483648) (hB:B≤w.heap.size) (hB':B'≤w.heap.size) (hle:n'≤n) (hvl:nv 2 m≤nv 2 l) :
  Calls Tryz.prog 195 #[.slice A n c,.slice A' n' c'] w (PostL w (nv 2 l - nv 2 m)):=by
 have hl1:=hs.len
 have hl2:=ht.len
 have HB2:=Lib.hid (fun k w1 (hb:Below w.heap.size w w1)=>show Calls Tryz.prog 162 #[.slice A' n' c',.int .i64 ((k:Nat):Int)] w1 (fun e w'=>e = .returned (.int .i64 (m.getD k 0:Nat))∧w1=w') by
  have:=rbit_any (ht.below (C:=w.heap.size) hb hB') (k:Int);rwa [bitZ_nat] at this)
 have HD:=Lib.hid (And.intro (fun k=>hs.dig.getD (b:=2) (by decide) k) (fun k=>ht.dig.getD (b:=2) (by decide) k))
 have HE:=Lib.hid (show nvp 2 l n=nv 2 l∧nvp 2 m n=nv 2 m from ⟨nvp_all (by omega),nvp_all (by omega)⟩)
 have HA:=Lib.hid (fun k (hk:k<n) w1 (hb:Below w.heap.size w w1)=>show ∃ b o,A=some ⟨b,o,none⟩∧w1.cell? ⟨b,o+k,none⟩=some (.int .i64 (l.getD k 0:Nat)) from by
  obtain ⟨b,o,h1,_,h3⟩:=SlI.at_ (hs.below (C:=w.heap.size) hb hB) (by omega)
  exact ⟨b,o,h1,h3 k hk⟩)
 have HVL:=Lib.hid hvl
 have HR0:=Lib.hid (RSub.start w l m)
 have hnI:(n:Int)≤2147483648:=by omega
 clear hs ht hB hB' hl1 hl2 hvl
 go_enter Tryz.func195,Tryz.ntmps195
 go_wp2_with fail
 go_loopw [5,6,7] (fun ov cv kv wr=>∃ k cc:Nat,k≤n∧kv = .int .i64 (k:Int)∧cv = .int .i64 (cc:Int)∧RSub w l m k cc ov wr) (fun _ _ kv _=>n - (intOf kv).toNat)
 case atStart=>exact ⟨0,0,by omega,rfl,rfl,HR0.out⟩
 case round=>
  obtain ⟨k,cc,hk,rfl,rfl,A2,n2,c2,o,rfl,ho,hlo,hnk,hdo,hvo,hc1,hb⟩:=hrel
  obtain rfl:n2=k:=hnk
  have HO:=Lib.hid ho
  have HX:=Lib.hid (And.intro hlo (And.intro hdo hvo))
  have HB:=Lib.hid hb
  have hz1:=hb.size
  have hk0:(0:Int)≤(n2:Int):=by omega
  have hc0:(0:Int)≤(cc:Int):=by omega
  clear ho hlo hdo hvo hb HR0
  by_cases hgo:n2<n
  ·have e1:(n2:Int)<(n:Int):=by omega
   have hxb:=HD.out.1 n2
   have hyb:=HD.out.2 n2
   obtain ⟨ab,ao,hAe,hcell⟩:=HA.out n2 hgo wr HB.out
   subst hAe
   have HC2:=Lib.hid (fun w1 (hb:Below w.heap.size w w1)=>HB2.out n2 w1 hb)
   have HNs:=Lib.hid (And.intro (nvp_succ 2 l n2) (nvp_succ 2 m n2))
   generalize l.getD n2 0=x at *
   generalize m.getD n2 0=y at *
   obtain ⟨t,htd⟩:∃ t:Int,(x:Int) - (y:Int) - (cc:Int)=t:=⟨_,rfl⟩
   obtain ⟨r,q,hrq,hr2,hq1⟩:∃ r q:Nat,r+y+cc=x+2 * q∧r<2∧q≤1:=by
    by_cases h:x<y+cc
    ·exact ⟨x+2 - y - cc,1,by omega,by omega,by omega⟩
    ·exact ⟨x - y - cc,0,by omega,by omega,by omega⟩
   have hw1:IntKind.i64.wrap ((x:Int) - (y:Int))=(x:Int) - (y:Int):=IntWalk.i64_in _ (by omega)
   have hw2:IntKind.i64.wrap t=t:=IntWalk.i64_in _ (by omega)
   have HST:=Lib.hid (show nv 2 (o ++ [r])+nvp 2 m (n2+1)=nvp 2 l (n2+1)+2 ^ (n2+1) * q by
    rw [nv_snoc,HX.out.1,HNs.out.1,HNs.out.2]
    exact sub_step HX.out.2.2 hrq)
   have HRN:=Lib.hid (fun A3 c3 w3 (h1:OwnI w3 w.heap.size A3 (n2+1) c3 (i64s (o ++ [r]))) (h2:Below w.heap.size w w3)=>show RSub w l m (n2+1) q (.slice A3 (n2+1) c3) w3 from
    ⟨A3,n2+1,c3,o ++ [r],rfl,h1,by rw [List.length_append,HX.out.1];rfl,rfl,HX.out.2.1.append (Dig.cons hr2 (Dig.nil _)),HST.out,hq1,h2⟩)
   have hn2b:n2≤4294967296:=by omega
   have HBd:=Lib.hid (fun q'=>belowN HB.out q')
   have htb : -2≤t∧t≤1:=by omega
   have hcase:(t<0∧t+2=(r:Int)∧q=1)∨(0≤t∧t=(r:Int)∧q=0):=by omega
   obtain ⟨tb1,tb2⟩:=htb
   clear hrq hyb hxb HNs HD HE HA HB2 HST hq1 hr2 HVL
   rcases hcase with ⟨c1,c2',rfl⟩ | ⟨c1,c2',rfl⟩
   ·have d1:decide (t<0)=true:=decide_eq_true c1
    go_wp2_with fail
    go_quiet ((go_at_call 162;(with_reducible exact quiet_left (HC2.out _ (HBd.out _)))))
    clear hw1 hw2
    have HO6:=Lib.hid (show OwnI (wr.drewN nq) w.heap.size A2 n2 c2 (i64s o) from HO.out)
    have HB6:=Lib.hid (HBd.out nq)
    have hz6:=(HBd.out nq).size
    clear HO HB HBd hz1 HC2 hcell
    generalize wr.drewN nq=w6 at *
    go_wp2_with (at_builtin;refine wpList_append_i64 (by rfl) _ _ (by rfl) w.heap.size A2 n2 c2 o (by rfl) (Own.alloc HO6.out _) w6.heap.size r (by rfl) (by simp [go_sem]) hn2b (by simp;omega) ?_;intro A3 c3 w3 ho3 hb3)
    have HRX:=Lib.hid (HRN.out A3 c3 w3 ho3 ((HB6.out.alloc hz6 _).trans hb3))
    clear ho3 hb3
    go_wp2_with fail
    go_roundw
    case rel=>exact ⟨n2+1,1,by omega,by go_num,rfl,HRX.out⟩
    case measure=>simp [intOf];omega
   ·have d1:decide (t<0)=false:=decide_eq_false (by omega)
    obtain rfl:t=(r:Int):=c2'
    go_wp2_with fail
    go_quiet ((go_at_call 162;(with_reducible exact quiet_left (HC2.out _ (HBd.out _)))))
    clear hw1 hw2
    have HO6:=Lib.hid (show OwnI (wr.drewN nq) w.heap.size A2 n2 c2 (i64s o) from HO.out)
    have HB6:=Lib.hid (HBd.out nq)
    have hz6:=(HBd.out nq).size
    clear HO HB HBd hz1 HC2 hcell
    generalize wr.drewN nq=w6 at *
    go_wp2_with (at_builtin;refine wpList_append_i64 (by rfl) _ _ (by rfl) w.heap.size A2 n2 c2 o (by rfl) (Own.alloc HO6.out _) w6.heap.size r (by rfl) (by simp [go_sem]) hn2b (by simp;omega) ?_;intro A3 c3 w3 ho3 hb3)
    have HRX:=Lib.hid (HRN.out A3 c3 w3 ho3 ((HB6.out.alloc hz6 _).trans hb3))
    clear ho3 hb3
    go_wp2_with fail
    go_roundw
    case rel=>exact ⟨n2+1,0,by omega,by go_num,rfl,HRX.out⟩
    case measure=>simp [intOf];omega
  ·obtain rfl:n2=n:=by omega
   have hv1:=HX.out.2.2
   rw [HE.out.1,HE.out.2] at hv1
   have hlt:=nv_lt HX.out.2.1
   rw [HX.out.1] at hlt
   obtain rfl:cc=0:=by
    rcases Nat.eq_zero_or_pos cc with h | h
    ·exact h
    ·obtain rfl:cc=1:=by omega
     rw [Nat.mul_one] at hv1
     have:=HVL.out
     omega
   have HV:=Lib.hid (show nv 2 o=nv 2 l - nv 2 m by rw [Nat.mul_zero,Nat.add_zero] at hv1;omega)
   have HC:=Lib.hid (rcut_own HO.out HX.out.1 HX.out.2.1 HV.out)
   have HF:=Lib.hid (own_cut HO.out HX.out.1 HX.out.2.1 HV.out)
   generalize nv 2 l - nv 2 m=v at *
   clear hgo hv1 hlt HD HE HA HB2 HX HV HO HVL
   go_wp2_with (go_at_call 137;(with_reducible refine HC.out.mono ?_);rintro e w' ⟨rfl,rfl⟩)
   go_ret
   exact ⟨_,_,rfl,HF.out,HB.out⟩
theorem ret_bool' {a b:Bool} (h:a=b):Ending.returned (.bool a) = .returned (.bool b):=by rw [h]
set_option maxRecDepth 100000 in
set_option maxHeartbeats 1000000 in
theorem rless_any {B B':Nat} {A A':Option Addr} {l m:List Nat} {n c n' c':Nat} {w:World} (hs:SlI w B A n c l) (ht:SlI w B' A' n' c' m) (hnr:n≠n'→Nrm l∧Nrm m) {lt:Bool} (hlt:decide (nv 2 l<nv 2 m)=lt) :
  Calls Tryz.prog 194 #[.slice A n c,.slice A' n' c'] w fun e w'=>e = .returned (.bool lt)∧Dr w w':=by
 have hmx:=hs.max
 have hcap:=hs.cap
 unfold maxLen at hmx
 have e3:=hs.len
 have e4:=ht.len
 have d3:=hs.dig
 have d4:=ht.dig
 by_cases hne:n=n'
 ·subst hne
  have hlen:l.length=m.length:=by omega
  have HL:=Lib.hid (show ∀ j,j<n→l.drop (j+1)=m.drop (j+1)→l.getD j 0<m.getD j 0→lt=true from fun j hj h1 h2=>by rw [←hlt];exact decide_eq_true (nv_lt_at d3 d4 hlen (by omega) h1 h2))
  have HG:=Lib.hid (show ∀ j,j<n→l.drop (j+1)=m.drop (j+1)→m.getD j 0<l.getD j 0→lt=false from fun j hj h1 h2=>by
   rw [←hlt]
   have:=nv_lt_at d4 d3 hlen.symm (by omega) h1.symm h2
   exact decide_eq_false (by omega))
  have HS:=Lib.hid (show ∀ j,j<n→l.drop (j+1)=m.drop (j+1)→l.getD j 0=m.getD j 0→l.drop j=m.drop j from fun j hj h1 h2=>drop_step hlen (by omega) h1 h2)
  have H0:=Lib.hid (show l.drop 0=m.drop 0→lt=false from fun h=>by simp at h;rw [←hlt,h];simp)
  have HN:=Lib.hid (show l.drop n=m.drop n by rw [List.drop_eq_nil_of_le (by omega),List.drop_eq_nil_of_le (by omega)])
  have hN1:n≤9223372036854775807:=by omega
  clear hlen d3 d4 e3 e4 hmx hcap hnr hlt
  go_enter Tryz.func194,Tryz.ntmps194
  go_wp2_with fail
  go_loopw [5] (fun i wr=>∃ j:Nat,j≤n∧Hid (l.drop j=m.drop j)∧i = .int .i64 ((j:Int) - 1)∧Dr w wr) (fun i _=>(intOf i+1).toNat)
  case atStart=>exact ⟨n,Nat.le_refl _,HN,rfl,Dr.refl _⟩
  case round=>
   obtain ⟨j,hj,hd,rfl,hdr⟩:=hrel
   by_cases h0:j=0
   ·subst h0
    have HV:=Lib.hid (H0.out hd.out)
    clear hs ht
    go_wp2
    go_ret
    exact ⟨ret_bool' HV.out.symm,hdr⟩
   ·obtain ⟨i,rfl⟩:∃ i,j=i+1:=⟨j - 1,by omega⟩
    obtain ⟨b,o,rfl,_,hc1⟩:=hs.at_ (by omega)
    obtain ⟨b',o',rfl,_,hc2⟩:=ht.at_ (by omega)
    have hx:=(hdr.cell _).trans (hc1 i (by omega))
    have hy:=(hdr.cell _).trans (hc2 i (by omega))
    have F1:=Lib.hid (HL.out i (by omega) hd.out)
    have F2:=Lib.hid (HG.out i (by omega) hd.out)
    have F3:=Lib.hid (HS.out i (by omega) hd.out)
    generalize l.getD i 0=x at *
    generalize m.getD i 0=y at *
    clear hc1 hc2 hs ht HL HG HS H0 HN h0
    have hi0:(0:Int)≤(i:Int):=by omega
    have hi1:(i:Int)<(n:Int):=by omega
    rcases Nat.lt_trichotomy x y with h | h | h
    ·have g1:decide ((x:Int)<(y:Int))=true:=decide_eq_true (by omega)
     have g2:((x:Int) != (y:Int))=true:=by rw [bne_iff_ne];omega
     have g3:((x:Int)==(y:Int))=false:=beq_eq_false_iff_ne.2 (by omega)
     have HV:=Lib.hid (F1.out h)
     go_wp2
     go_quiet (fail)
     go_wp2
     go_quiet (fail)
     go_wp2
     go_ret
     exact ⟨ret_bool' HV.out.symm,by first | exact hdr.more _ | exact (hdr.more _).more _⟩
    ·subst h
     have HD:=Lib.hid (F3.out rfl)
     clear F1 F2 F3
     go_wp2
     go_quiet (fail)
     go_wp2
     go_roundw
     case rel=>exact ⟨i,by omega,HD,by go_num,by first | exact hdr.more _ | exact (hdr.more _).more _⟩
     case measure=>simp [intOf]
    ·have g1:decide ((x:Int)<(y:Int))=false:=decide_eq_false (by omega)
     have g2:((x:Int) != (y:Int))=true:=by rw [bne_iff_ne];omega
     have g3:((x:Int)==(y:Int))=false:=beq_eq_false_iff_ne.2 (by omega)
     have HV:=Lib.hid (F2.out h)
     go_wp2
     go_quiet (fail)
     go_wp2
     go_quiet (fail)
     go_wp2
     go_ret
     exact ⟨ret_bool' (by rw [HV.out];exact decide_eq_false (by omega)),by first | exact hdr.more _ | exact (hdr.more _).more _⟩
 ·obtain ⟨r1,r2⟩:=hnr hne
  have HV:=Lib.hid (show decide ((n:Int)<(n':Int))=lt by
   rw [←hlt]
   rcases Nat.lt_or_ge n n' with h | h
   ·rw [decide_eq_true (show (n:Int)<(n':Int) by omega),decide_eq_true (nv_lt_of_len (by decide) d3 r2 (by omega))]
   ·have h2:=nv_lt_of_len (b:=2) (by decide) d4 r1 (by omega)
    rw [decide_eq_false (show ¬(n:Int)<(n':Int) by omega),decide_eq_false (by omega)])
  have g2:((n:Int) != (n':Int))=true:=by rw [bne_iff_ne];omega
  have g3:((n:Int)==(n':Int))=false:=beq_eq_false_iff_ne.2 (by omega)
  clear hs ht hnr hlt r1 r2 hmx hcap e3 e4 d3 d4
  go_enter Tryz.func194,Tryz.ntmps194
  go_wp2
  go_ret
  exact ⟨ret_bool' (by rw [←HV.out];simp),Dr.refl _⟩
set_option maxRecDepth 100000 in
set_option maxHeartbeats 2000000 in
theorem rsum_same {sx sy:Bool} {B B':Nat} {A A':Option Addr} {l m:List Nat} {n c n' c':Nat} {w:World} (hs:SlI w B A n c l) (ht:SlI w B' A' n' c' m) (hn:n≤2147483648) (hn':n'≤2147483648) (hB:B≤w.heap.size) (hB':B'≤w.heap.size) (hxy:(sx==sy)=true) {z:Int} (hz:bval sx (digs 2 (nv 2 l+nv 2 m))=z) :
  Calls Tryz.prog 145 #[.agg #[.bool sx,.slice A n c],.agg #[.bool sy,.slice A' n' c']] w (PostB w z):=by
 have HW:=Lib.hid ((((Below.refl w.heap.size w).alloc (Nat.le_refl _) (.cells #[.bool sx,.slice A n c] 59)).alloc (by simp) (.cells #[.bool sy,.slice A' n' c'] 59)).alloc (by simp;omega) (.cells #[.bool false,.slice none 0 0] 59))
 have HK:=Lib.hid (fun C w2 (hb:Below C (((w.alloc (.cells #[.bool sx,.slice A n c] 59)).alloc (.cells #[.bool sy,.slice A' n' c'] 59)).alloc (.cells #[.bool false,.slice none 0 0] 59)) w2) (hC:w.heap.size+3≤C)=>three_boxes (Dr.refl _) hb hC)
 have HC3:=Lib.hid (show w.heap.size+3≤(((w.alloc (.cells #[.bool sx,.slice A n c] 59)).alloc (.cells #[.bool sy,.slice A' n' c'] 59)).alloc (.cells #[.bool false,.slice none 0 0] 59)).heap.size by simp)
 have HS1:=Lib.hid (fun w1 (hb:Below w.heap.size w w1)=>And.intro (hs.below (C:=w.heap.size) hb hB) (And.intro (ht.below (C:=w.heap.size) hb hB') (And.intro (Nat.le_trans hB hb.size) (Nat.le_trans hB' hb.size))))
 have HZ:=Lib.hid hz
 have HADD:=Lib.hid (fun w1 (hb:Below w.heap.size w w1)=>radd_any (HS1.out w1 hb).1 (HS1.out w1 hb).2.1 hn hn' (HS1.out w1 hb).2.2.1 (HS1.out w1 hb).2.2.2)
 generalize nv 2 l+nv 2 m=v at *
 clear hs ht hn hn' hB hB' hz
 go_enter Tryz.func145,Tryz.ntmps145
 go_wp2_with fail
 generalize (((w.alloc (.cells #[.bool sx,.slice A n c] 59)).alloc (.cells #[.bool sy,.slice A' n' c'] 59)).alloc (.cells #[.bool false,.slice none 0 0] 59))=wz at *
 have KA:=Lib.hid (Below.refl wz.heap.size wz)
 obtain ⟨wa,hwa⟩:∃ wa,wz=wa:=⟨_,rfl⟩
 subst hwa
 have HSS:=Lib.hid (fun w' (hb:Below wz.heap.size wz w')=>And.intro (HK.out _ _ (KA.out.trans (hb.mono KA.out.size)) HC3.out).1 (HK.out _ _ (KA.out.trans (hb.mono KA.out.size)) HC3.out).2.1)
 obtain ⟨⟨q0,q1⟩,⟨q2,q3⟩⟩:=HSS.out _ (Below.refl _ _)
 have HBa:=Lib.hid (HW.out.trans (KA.out.mono HW.out.size))
 have HCa:=Lib.hid (Nat.le_trans HC3.out KA.out.size)
 go_region_held3 (fun w'=>(w'.cell? ⟨w.heap.size,0,none⟩=some (.bool sx)∧w'.cell? ⟨w.heap.size,1,none⟩=some (.slice A n c))∧(w'.cell? ⟨w.heap.size+1,0,none⟩=some (.bool sy)∧w'.cell? ⟨w.heap.size+1,1,none⟩=some (.slice A' n' c')))
  (first | (go_keep;done) | exact HSS.out _ k5 | exact ⟨⟨far2 (HSS.out _ k5).1.1 (by show w.heap.size≠_;omega),far2 (HSS.out _ k5).1.2 (by show w.heap.size≠_;omega)⟩,⟨far2 (HSS.out _ k5).2.1 (by show w.heap.size+1≠_;omega),far2 (HSS.out _ k5).2.2 (by show w.heap.size+1≠_;omega)⟩⟩ | exact HSS.out _ k4 | exact HSS.out _ (Below.refl wz.heap.size wz).drew)
  (first
   | (go_at_call 193;(with_reducible refine (HADD.out _ HBa.out.drew).mono ?_);rintro e w4 ⟨A4,c4,rfl,ho4,hb4⟩;have k4:Below wz.heap.size wz w4:=(Below.refl wz.heap.size wz).drew.trans hb4;have kz4:=k4.size)
   | (go_at_call 138;(with_reducible refine (rlaid_at sx ho4 rfl (dig_digs (by decide) _) HZ.out).mono ?_);rintro e w5 ⟨rfl,ho5,hb5⟩;have k5:Below wz.heap.size wz w5:=k4.trans (hb5.mono kz4);obtain ⟨_,_,r0,r1,r2,r3⟩:=HK.out _ _ (KA.out.trans (k5.mono KA.out.size)) HC3.out))
 have HO5:=Lib.hid ho5
 have HB5:=Lib.hid (HBa.out.trans (k5.mono HBa.out.size))
 have hlt:w.heap.size+1+1<wz.heap.size:=by have:=HCa.out;omega
 have hlt4:w.heap.size+1+1<w4.heap.size:=Nat.lt_of_lt_of_le hlt kz4
 have HM:=Lib.hid (Own.mono HO5.out (Nat.le_refl _))
 clear ho4 ho5 hb4 hb5 k4 k5 q0 q1 q2 q3
 go_wp2
 have hr:=ResB.stored (w:=w) (g:=w.heap.size+1+1) (u:=.bool (decide (z<0))) (u':=.slice A4 (digs 2 z.natAbs).length c4) ⟨A4,c4,rfl,HM.out⟩ HB5.out (by first | exact hlt | exact hlt4 | (simp;omega)) (by omega)
 exact bodyPost_ret (v:=.agg #[.bool (decide (z<0)),.slice A4 (digs 2 z.natAbs).length c4]) (by simp [results,Tryz.results145,go_sem,r0,r1]) rfl ⟨_,rfl,hr.1,hr.2⟩
set_option maxRecDepth 100000 in
set_option maxHeartbeats 2000000 in
theorem rsum_lt {sx sy:Bool} {B B':Nat} {A A':Option Addr} {l m:List Nat} {n c n' c':Nat} {w:World} (hs:SlI w B A n c l) (ht:SlI w B' A' n' c' m) (hn:n≤2147483648) (hn':n'≤2147483648) (hB:B≤w.heap.size) (hB':B'≤w.heap.size) (hxy:(sx==sy)=false) (hnr:n≠n'→Nrm l∧Nrm m) (hle:n≤n') (hvl:nv 2 l<nv 2 m) {z:Int} (hz:bval sy (digs 2 (nv 2 m - nv 2 l))=z) :
  Calls Tryz.prog 145 #[.agg #[.bool sx,.slice A n c],.agg #[.bool sy,.slice A' n' c']] w (PostB w z):=by
 have HW:=Lib.hid ((((Below.refl w.heap.size w).alloc (Nat.le_refl _) (.cells #[.bool sx,.slice A n c] 59)).alloc (by simp) (.cells #[.bool sy,.slice A' n' c'] 59)).alloc (by simp;omega) (.cells #[.bool false,.slice none 0 0] 59))
 have HK:=Lib.hid (fun C w2 (hb:Below C (((w.alloc (.cells #[.bool sx,.slice A n c] 59)).alloc (.cells #[.bool sy,.slice A' n' c'] 59)).alloc (.cells #[.bool false,.slice none 0 0] 59)) w2) (hC:w.heap.size+3≤C)=>three_boxes (Dr.refl _) hb hC)
 have HC3:=Lib.hid (show w.heap.size+3≤(((w.alloc (.cells #[.bool sx,.slice A n c] 59)).alloc (.cells #[.bool sy,.slice A' n' c'] 59)).alloc (.cells #[.bool false,.slice none 0 0] 59)).heap.size by simp)
 have HS1:=Lib.hid (fun w1 (hb:Below w.heap.size w w1)=>And.intro (hs.below (C:=w.heap.size) hb hB) (And.intro (ht.below (C:=w.heap.size) hb hB') (And.intro (Nat.le_trans hB hb.size) (Nat.le_trans hB' hb.size))))
 have HZ:=Lib.hid hz
 have HL:=Lib.hid (fun w1 (hb:Below w.heap.size w w1)=>rless_any (HS1.out w1 hb).1 (HS1.out w1 hb).2.1 hnr (lt:=true) (by first | exact decide_eq_true hvl | exact decide_eq_false (by omega)))
 have HSB:=Lib.hid (fun w1 (hb:Below w.heap.size w w1)=>rsub_any (HS1.out w1 hb).2.1 (HS1.out w1 hb).1 (by omega) (HS1.out w1 hb).2.2.2 (HS1.out w1 hb).2.2.1 hle (by omega))
 generalize nv 2 m - nv 2 l=v at *
 clear hs ht hn hn' hB hB' hz hle hvl hnr
 go_enter Tryz.func145,Tryz.ntmps145
 go_wp2_with fail
 generalize (((w.alloc (.cells #[.bool sx,.slice A n c] 59)).alloc (.cells #[.bool sy,.slice A' n' c'] 59)).alloc (.cells #[.bool false,.slice none 0 0] 59))=wz at *
 obtain ⟨⟨q0,q1⟩,⟨q2,q3⟩,_⟩:=HK.out _ _ (Below.refl _ _) HC3.out
 go_wp2_with fail
 (with_reducible refine (HL.out _ HW.out).mono ?_)
 rintro ex wa ⟨rfl,hdr⟩
 have KA:=Lib.hid (hdr.below wz.heap.size)
 clear hdr q0 q1 q2 q3
 go_wp2_with fail
 have HSS:=Lib.hid (fun w' (hb:Below wa.heap.size wa w')=>And.intro (HK.out _ _ (KA.out.trans (hb.mono KA.out.size)) HC3.out).1 (HK.out _ _ (KA.out.trans (hb.mono KA.out.size)) HC3.out).2.1)
 obtain ⟨⟨q0,q1⟩,⟨q2,q3⟩⟩:=HSS.out _ (Below.refl _ _)
 have HBa:=Lib.hid (HW.out.trans (KA.out.mono HW.out.size))
 have HCa:=Lib.hid (Nat.le_trans HC3.out KA.out.size)
 go_region_held3 (fun w'=>(w'.cell? ⟨w.heap.size,0,none⟩=some (.bool sx)∧w'.cell? ⟨w.heap.size,1,none⟩=some (.slice A n c))∧(w'.cell? ⟨w.heap.size+1,0,none⟩=some (.bool sy)∧w'.cell? ⟨w.heap.size+1,1,none⟩=some (.slice A' n' c')))
  (first | (go_keep;done) | exact HSS.out _ k5 | exact ⟨⟨far2 (HSS.out _ k5).1.1 (by show w.heap.size≠_;omega),far2 (HSS.out _ k5).1.2 (by show w.heap.size≠_;omega)⟩,⟨far2 (HSS.out _ k5).2.1 (by show w.heap.size+1≠_;omega),far2 (HSS.out _ k5).2.2 (by show w.heap.size+1≠_;omega)⟩⟩ | exact HSS.out _ k4 | exact HSS.out _ (Below.refl wa.heap.size wa).drew)
  (first
   | (go_at_call 195;(with_reducible refine (HSB.out _ HBa.out.drew).mono ?_);rintro e w4 ⟨A4,c4,rfl,ho4,hb4⟩;have k4:Below wa.heap.size wa w4:=(Below.refl wa.heap.size wa).drew.trans hb4;have kz4:=k4.size)
   | (go_at_call 138;(with_reducible refine (rlaid_at sy ho4 rfl (dig_digs (by decide) _) HZ.out).mono ?_);rintro e w5 ⟨rfl,ho5,hb5⟩;have k5:Below wa.heap.size wa w5:=k4.trans (hb5.mono kz4);obtain ⟨_,_,r0,r1,r2,r3⟩:=HK.out _ _ (KA.out.trans (k5.mono KA.out.size)) HC3.out))
 have HO5:=Lib.hid ho5
 have HB5:=Lib.hid (HBa.out.trans (k5.mono HBa.out.size))
 have hlt:w.heap.size+1+1<wa.heap.size:=by have:=HCa.out;omega
 have hlt4:w.heap.size+1+1<w4.heap.size:=Nat.lt_of_lt_of_le hlt kz4
 have HM:=Lib.hid (Own.mono HO5.out (Nat.le_refl _))
 clear ho4 ho5 hb4 hb5 k4 k5 q0 q1 q2 q3
 go_wp2
 have hr:=ResB.stored (w:=w) (g:=w.heap.size+1+1) (u:=.bool (decide (z<0))) (u':=.slice A4 (digs 2 z.natAbs).length c4) ⟨A4,c4,rfl,HM.out⟩ HB5.out (by first | exact hlt | exact hlt4 | (simp;omega)) (by omega)
 exact bodyPost_ret (v:=.agg #[.bool (decide (z<0)),.slice A4 (digs 2 z.natAbs).length c4]) (by simp [results,Tryz.results145,go_sem,r0,r1]) rfl ⟨_,rfl,hr.1,hr.2⟩
set_option maxRecDepth 100000 in
set_option maxHeartbeats 2000000 in
theorem rsum_ge {sx sy:Bool} {B B':Nat} {A A':Option Addr} {l m:List Nat} {n c n' c':Nat} {w:World} (hs:SlI w B A n c l) (ht:SlI w B' A' n' c' m) (hn:n≤2147483648) (hn':n'≤2147483648) (hB:B≤w.heap.size) (hB':B'≤w.heap.size) (hxy:(sx==sy)=false) (hnr:n≠n'→Nrm l∧Nrm m) (hle:n'≤n) (hvl:nv 2 m≤nv 2 l) {z:Int} (hz:bval sx (digs 2 (nv 2 l - nv 2 m))=z) :
  Calls Tryz.prog 145 #[.agg #[.bool sx,.slice A n c],.agg #[.bool sy,.slice A' n' c']] w (PostB w z):=by
 have HW:=Lib.hid ((((Below.refl w.heap.size w).alloc (Nat.le_refl _) (.cells #[.bool sx,.slice A n c] 59)).alloc (by simp) (.cells #[.bool sy,.slice A' n' c'] 59)).alloc (by simp;omega) (.cells #[.bool false,.slice none 0 0] 59))
 have HK:=Lib.hid (fun C w2 (hb:Below C (((w.alloc (.cells #[.bool sx,.slice A n c] 59)).alloc (.cells #[.bool sy,.slice A' n' c'] 59)).alloc (.cells #[.bool false,.slice none 0 0] 59)) w2) (hC:w.heap.size+3≤C)=>three_boxes (Dr.refl _) hb hC)
 have HC3:=Lib.hid (show w.heap.size+3≤(((w.alloc (.cells #[.bool sx,.slice A n c] 59)).alloc (.cells #[.bool sy,.slice A' n' c'] 59)).alloc (.cells #[.bool false,.slice none 0 0] 59)).heap.size by simp)
 have HS1:=Lib.hid (fun w1 (hb:Below w.heap.size w w1)=>And.intro (hs.below (C:=w.heap.size) hb hB) (And.intro (ht.below (C:=w.heap.size) hb hB') (And.intro (Nat.le_trans hB hb.size) (Nat.le_trans hB' hb.size))))
 have HZ:=Lib.hid hz
 have HL:=Lib.hid (fun w1 (hb:Below w.heap.size w w1)=>rless_any (HS1.out w1 hb).1 (HS1.out w1 hb).2.1 hnr (lt:=false) (by first | exact decide_eq_true hvl | exact decide_eq_false (by omega)))
 have HSB:=Lib.hid (fun w1 (hb:Below w.heap.size w w1)=>rsub_any (HS1.out w1 hb).1 (HS1.out w1 hb).2.1 (by omega) (HS1.out w1 hb).2.2.1 (HS1.out w1 hb).2.2.2 hle (by omega))
 generalize nv 2 l - nv 2 m=v at *
 clear hs ht hn hn' hB hB' hz hle hvl hnr
 go_enter Tryz.func145,Tryz.ntmps145
 go_wp2_with fail
 generalize (((w.alloc (.cells #[.bool sx,.slice A n c] 59)).alloc (.cells #[.bool sy,.slice A' n' c'] 59)).alloc (.cells #[.bool false,.slice none 0 0] 59))=wz at *
 obtain ⟨⟨q0,q1⟩,⟨q2,q3⟩,_⟩:=HK.out _ _ (Below.refl _ _) HC3.out
 go_wp2_with fail
 (with_reducible refine (HL.out _ HW.out).mono ?_)
 rintro ex wa ⟨rfl,hdr⟩
 have KA:=Lib.hid (hdr.below wz.heap.size)
 clear hdr q0 q1 q2 q3
 go_wp2_with fail
 have HSS:=Lib.hid (fun w' (hb:Below wa.heap.size wa w')=>And.intro (HK.out _ _ (KA.out.trans (hb.mono KA.out.size)) HC3.out).1 (HK.out _ _ (KA.out.trans (hb.mono KA.out.size)) HC3.out).2.1)
 obtain ⟨⟨q0,q1⟩,⟨q2,q3⟩⟩:=HSS.out _ (Below.refl _ _)
 have HBa:=Lib.hid (HW.out.trans (KA.out.mono HW.out.size))
 have HCa:=Lib.hid (Nat.le_trans HC3.out KA.out.size)
 go_region_held3 (fun w'=>(w'.cell? ⟨w.heap.size,0,none⟩=some (.bool sx)∧w'.cell? ⟨w.heap.size,1,none⟩=some (.slice A n c))∧(w'.cell? ⟨w.heap.size+1,0,none⟩=some (.bool sy)∧w'.cell? ⟨w.heap.size+1,1,none⟩=some (.slice A' n' c')))
  (first | (go_keep;done) | exact HSS.out _ k5 | exact ⟨⟨far2 (HSS.out _ k5).1.1 (by show w.heap.size≠_;omega),far2 (HSS.out _ k5).1.2 (by show w.heap.size≠_;omega)⟩,⟨far2 (HSS.out _ k5).2.1 (by show w.heap.size+1≠_;omega),far2 (HSS.out _ k5).2.2 (by show w.heap.size+1≠_;omega)⟩⟩ | exact HSS.out _ k4 | exact HSS.out _ (Below.refl wa.heap.size wa).drew)
  (first
   | (go_at_call 195;(with_reducible refine (HSB.out _ HBa.out.drew).mono ?_);rintro e w4 ⟨A4,c4,rfl,ho4,hb4⟩;have k4:Below wa.heap.size wa w4:=(Below.refl wa.heap.size wa).drew.trans hb4;have kz4:=k4.size)
   | (go_at_call 138;(with_reducible refine (rlaid_at sx ho4 rfl (dig_digs (by decide) _) HZ.out).mono ?_);rintro e w5 ⟨rfl,ho5,hb5⟩;have k5:Below wa.heap.size wa w5:=k4.trans (hb5.mono kz4);obtain ⟨_,_,r0,r1,r2,r3⟩:=HK.out _ _ (KA.out.trans (k5.mono KA.out.size)) HC3.out))
 have HO5:=Lib.hid ho5
 have HB5:=Lib.hid (HBa.out.trans (k5.mono HBa.out.size))
 have hlt:w.heap.size+1+1<wa.heap.size:=by have:=HCa.out;omega
 have hlt4:w.heap.size+1+1<w4.heap.size:=Nat.lt_of_lt_of_le hlt kz4
 have HM:=Lib.hid (Own.mono HO5.out (Nat.le_refl _))
 clear ho4 ho5 hb4 hb5 k4 k5 q0 q1 q2 q3
 go_wp2
 have hr:=ResB.stored (w:=w) (g:=w.heap.size+1+1) (u:=.bool (decide (z<0))) (u':=.slice A4 (digs 2 z.natAbs).length c4) ⟨A4,c4,rfl,HM.out⟩ HB5.out (by first | exact hlt | exact hlt4 | (simp;omega)) (by omega)
 exact bodyPost_ret (v:=.agg #[.bool (decide (z<0)),.slice A4 (digs 2 z.natAbs).length c4]) (by simp [results,Tryz.results145,go_sem,r0,r1]) rfl ⟨_,rfl,hr.1,hr.2⟩
theorem bval_digs (z:Int):bval (decide (z<0)) (digs 2 z.natAbs)=z:=by
 unfold bval;rw [nv_digs (by decide)]
 by_cases h:z<0
 ·rw [decide_eq_true h,if_pos rfl];omega
 ·rw [decide_eq_false h,if_neg (by simp)];omega
theorem nrm_len_le {l m:List Nat} (dl:Dig 2 l) (dm:Dig 2 m) (rl:Nrm l) (rm:Nrm m) (h:nv 2 l≤nv 2 m):l.length≤m.length:=by
 refine Nat.le_of_not_lt fun h2=>?_
 have:=nv_lt_of_len (b:=2) (by decide) dm rl h2
 omega
theorem rsum_any {sx sy:Bool} {B B':Nat} {A A':Option Addr} {l m:List Nat} {n c n' c':Nat} {w:World} (hs:SlI w B A n c l) (ht:SlI w B' A' n' c' m) (hn:n≤2147483648) (hn':n'≤2147483648) (hB:B≤w.heap.size) (hB':B'≤w.heap.size) (rl:Nrm l) (rm:Nrm m)
  {x y z:Int} (hx:bval sx l=x) (hy:bval sy m=y) (hz:x+y=z) :
  Calls Tryz.prog 145 #[.agg #[.bool sx,.slice A n c],.agg #[.bool sy,.slice A' n' c']] w (PostB w z):=by
 have hb:∀ (s:Bool) (v:Nat),bval s (digs 2 v)=if s then -(v:Int) else (v:Int):=fun s v=>by unfold bval;rw [nv_digs (by decide)]
 subst hx;subst hy
 have e1:=hs.len
 have e2:=ht.len
 by_cases hxy:sx=sy
 ·subst hxy
  refine rsum_same hs ht hn hn' hB hB' (by simp) ?_
  rw [hb,←hz];unfold bval;split <;> omega
 ·have h1:(sx==sy)=false:=beq_eq_false_iff_ne.2 hxy
  by_cases hlt:nv 2 l<nv 2 m
  ·have h3:=nrm_len_le hs.dig ht.dig rl rm (Nat.le_of_lt hlt)
   refine rsum_lt hs ht hn hn' hB hB' h1 (fun _=>⟨rl,rm⟩) (by omega) hlt ?_
   rw [hb,←hz];unfold bval
   cases sx <;> cases sy <;> simp at hxy ⊢ <;> omega
  ·have h3:=nrm_len_le ht.dig hs.dig rm rl (by omega)
   refine rsum_ge hs ht hn hn' hB hB' h1 (fun _=>⟨rl,rm⟩) (by omega) (by omega) ?_
   rw [hb,←hz];unfold bval
   cases sx <;> cases sy <;> simp at hxy ⊢ <;> omega
set_option maxRecDepth 100000 in
set_option maxHeartbeats 1000000 in
theorem rminus_any {s:Bool} {B:Nat} {A:Option Addr} {l:List Nat} {n c:Nat} {w:World} (hs:SlI w B A n c l) (hB:B≤w.heap.size) (rl:Nrm l) :
  Calls Tryz.prog 163 #[.agg #[.bool s,.slice A n c]] w fun e w'=>e = .returned (.agg #[.bool (sg (!s) l),.slice A n c])∧Below w.heap.size w w':=by
 have HL:=Lib.hid (fun w1 (hb:Below w.heap.size w w1)=>show Calls Tryz.prog 138 #[.bool (!s),.slice A n c] w1 (fun e w'=>e = .returned (.agg #[.bool (sg (!s) l),.slice A n c])∧Below w1.heap.size w1 w') by
  have h:=rlaid_any (!s) (hs.below (C:=w.heap.size) hb hB) (Nat.le_trans hB hb.size)
  rwa [tlen_of_nrm rl,hs.len] at h)
 have HW:=Lib.hid (((Below.refl w.heap.size w).alloc (Nat.le_refl _) (.cells #[.bool s,.slice A n c] 59)).alloc (by simp) (.cells #[.bool false,.slice none 0 0] 59))
 have HX1:=Lib.hid (heap_second w (.cells #[.bool s,.slice A n c] 59) (.cells #[.bool false,.slice none 0 0] 59))
 generalize sg (!s) l=s' at *
 clear hs hB rl
 go_enter Tryz.func163,Tryz.ntmps163
 go_wp2_with fail
 (with_reducible refine (HL.out _ HW.out).mono ?_)
 rintro ex w3 ⟨rfl,hb3⟩
 obtain ⟨r0,r1,r2,r3⟩:=two_cells hb3 HX1.out (by simp)
 have HB3:=Lib.hid (HW.out.trans (hb3.mono (B':=w.heap.size) (by simp;omega)))
 clear hb3
 go_wp2
 exact bodyPost_ret (v:=.agg #[.bool s',.slice A n c]) (by simp [results,Tryz.results163,go_sem,r0,r1]) rfl ⟨rfl,(HB3.out.setCell (by simp) _).setCell (by simp) _⟩
end
end Go.Proofs.YtjpnmmjgdiiahaaGreatDoor
namespace Hb
end Hb
namespace Go.Proofs.YtjpnmmjgdiiahaaGreatDoor
section
open Go.RowKit Hb
def TmRel (w0:World) (G:Nat) (l m:List Nat) (N M i:Nat) (wr:World):Prop:=
 ∃ o:List Nat,o.length=N+M+1∧(∀ j,o.getD j 0≤i * M)∧nv 2 o=nvp 2 l i * nv 2 m∧OwnI wr G (some ⟨G,0,none⟩) (N+M+1) (N+M+1) (i64s o)∧Below G w0 wr
def TmIn (w0:World) (G:Nat) (l m:List Nat) (N M i k:Nat) (wr:World):Prop:=
 ∃ o:List Nat,o.length=N+M+1∧(∀ j,o.getD j 0≤i * M+k)∧nv 2 o=nvp 2 l i * nv 2 m+2 ^ i * nvp 2 m k∧OwnI wr G (some ⟨G,0,none⟩) (N+M+1) (N+M+1) (i64s o)∧Below G w0 wr
theorem TmRel.start (w:World) (l m:List Nat) (N M:Nat) (hn:N+M+1≤maxLen):TmRel w w.heap.size l m N M 0 (w.alloc (.cells (madeCells #[.int .i64 0] (N+M+1)) 3)):=
 ⟨List.replicate (N+M+1) 0,by simp,fun j=>by rw [getD_zeros];exact Nat.zero_le _,by rw [nv_replicate,nvp_zero,Nat.zero_mul],own_zerosI w _ (Nat.le_refl _) hn,(Below.refl _ _).alloc (Nat.le_refl _) _⟩
theorem TmRel.enter {w wr:World} {G:Nat} {l m:List Nat} {N M i:Nat} (h:TmRel w G l m N M i wr):TmIn w G l m N M i 0 wr:=by
 obtain ⟨o,h1,h2,h3,h4,h5⟩:=h
 exact ⟨o,h1,fun j=>by have:=h2 j;omega,by rw [nvp_zero];simpa using h3,h4,h5⟩
theorem TmRel.skip {w wr:World} {G:Nat} {l m:List Nat} {N M i:Nat} (h:TmRel w G l m N M i wr) (hx:l.getD i 0=0):TmRel w G l m N M (i+1) wr:=by
 obtain ⟨o,h1,h2,h3,h4,h5⟩:=h
 exact ⟨o,h1,fun j=>Nat.le_trans (h2 j) (Nat.mul_le_mul_right _ (by omega)),by rw [nvp_succ,hx,Nat.mul_zero,Nat.add_zero];exact h3,h4,h5⟩
theorem TmIn.leave {w wr:World} {G:Nat} {l m:List Nat} {N M i:Nat} (h:TmIn w G l m N M i M wr) (hx:l.getD i 0=1) (hm:m.length≤M):TmRel w G l m N M (i+1) wr:=by
 obtain ⟨o,h1,h2,h3,h4,h5⟩:=h
 refine ⟨o,h1,fun j=>by rw [Nat.add_mul,Nat.one_mul];exact h2 j,?_,h4,h5⟩
 rw [nvp_succ,hx,Nat.mul_one,Nat.add_mul,h3,nvp_all hm]
theorem TmRel.below {w wr:World} {G:Nat} {l m:List Nat} {N M i:Nat} (h:TmRel w G l m N M i wr):Below G w wr:=by
 obtain ⟨o,h1,h2,h3,h4,h5⟩:=h
 exact h5
theorem TmIn.below {w wr:World} {G:Nat} {l m:List Nat} {N M i k:Nat} (h:TmIn w G l m N M i k wr):Below G w wr:=by
 obtain ⟨o,h1,h2,h3,h4,h5⟩:=h
 exact h5
theorem TmIn.drew {w wr:World} {G:Nat} {l m:List Nat} {N M i k:Nat} (h:TmIn w G l m N M i k wr):TmIn w G l m N M i k wr.drew:=by
 obtain ⟨o,h1,h2,h3,h4,h5⟩:=h
 exact ⟨o,h1,h2,h3,h4,h5.drew⟩
theorem small_mul {i k N M:Nat} (hi:i≤N) (hk:k≤M) (hN:N≤1073741824) (hM:M≤1073741824):i * M+k≤1152921505680588800:=by
 have:=Nat.mul_le_mul (Nat.le_trans hi hN) hM
 omega
theorem TmIn.facts {w wr:World} {G:Nat} {l m:List Nat} {N M i k:Nat} (h:TmIn w G l m N M i k wr) (hi:i<N) (hk:k<M) (hN:N≤1073741824) (hM:M≤1073741824) :
  ∃ d:Nat,d≤1152921505680588800∧wr.cell? ⟨G,i+k,none⟩=some (.int .i64 (d:Int))∧wr.frozen? ⟨G,i+k,none⟩=false ∧
   ∀ y,m.getD k 0=y→y<2→TmIn w G l m N M i (k+1) (wr.setCell ⟨G,i+k,none⟩ (.int .i64 ((d+y:Nat):Int))):=by
 obtain ⟨o,h1,h2,h3,h4,h5⟩:=h
 refine ⟨o.getD (i+k) 0,Nat.le_trans (h2 _) (small_mul (Nat.le_of_lt hi) (Nat.le_of_lt hk) hN hM),by rw [h4.cell (by omega),i64s_get (by omega)],h4.frozen _,fun y hy hy2=>?_⟩
 refine ⟨o.set (i+k) (o.getD (i+k) 0+y),by simpa using h1,fun j=>?_,?_,?_,h5.setCell (Nat.le_refl _) _⟩
 ·by_cases hj:i+k=j
  ·subst hj
   have:=h2 (i+k)
   rw [List.getD_eq_getElem?_getD,List.getElem?_set_self (by omega)]
   show o.getD (i+k) 0+y≤_
   omega
  ·rw [lget_set_ne hj];have:=h2 j;omega
 ·have h6:=nv_set 2 (l:=o) (p:=i+k) (by omega) (o.getD (i+k) 0+y)
  rw [Nat.mul_add] at h6
  have h7:nv 2 (o.set (i+k) (o.getD (i+k) 0+y))=nv 2 o+2 ^ (i+k) * y:=by omega
  rw [h7,h3,nvp_succ,hy,Nat.mul_add,Nat.pow_add,Nat.mul_assoc,Nat.add_assoc]
 ·have:=h4.set_ (i+k) (.int .i64 ((o.getD (i+k) 0+y:Nat):Int))
  rwa [i64s_set] at this
def CyRel (w0:World) (G V N' i:Nat) (cv:Value) (wr:World):Prop:=
 ∃ (o:List Nat) (c:Nat),cv = .int .i64 (c:Int)∧c≤1152921505680588800∧o.length=N'∧(∀ j,j<i→o.getD j 0<2)∧(∀ j,o.getD j 0≤1152921505680588800)∧nv 2 o+2 ^ i * c=V∧OwnI wr G (some ⟨G,0,none⟩) N' N' (i64s o)∧Below G w0 wr
theorem TmRel.carry {w wr:World} {G:Nat} {l m:List Nat} {N M:Nat} (h:TmRel w G l m N M N wr) (hl:l.length≤N) (hN:N≤1073741824) (hM:M≤1073741824):CyRel w G (nv 2 l * nv 2 m) (N+M+1) 0 (.int .i64 0) wr:=by
 obtain ⟨o,h1,h2,h3,h4,h5⟩:=h
 refine ⟨o,0,rfl,by omega,h1,fun j hj=>absurd hj (by omega),fun j=>Nat.le_trans (h2 j) (Nat.le_trans (Nat.le_add_right _ 0) (small_mul (Nat.le_refl _) (Nat.zero_le _) hN hM)),?_,h4,h5⟩
 rw [h3,nvp_all hl];simp
theorem CyRel.facts {w wr:World} {G V N' i:Nat} {cv:Value} (h:CyRel w G V N' i cv wr) (hi:i<N') :
  ∃ c d:Nat,cv = .int .i64 (c:Int)∧c≤1152921505680588800∧d≤1152921505680588800∧wr.cell? ⟨G,i,none⟩=some (.int .i64 (d:Int))∧wr.frozen? ⟨G,i,none⟩=false ∧
   CyRel w G V N' (i+1) (.int .i64 (((d+c) / 2:Nat):Int)) (wr.setCell ⟨G,i,none⟩ (.int .i64 (((d+c) % 2:Nat):Int))):=by
 obtain ⟨o,c,rfl,hc,h1,h2,h2',h3,h4,h5⟩:=h
 refine ⟨c,o.getD i 0,rfl,hc,h2' i,by rw [h4.cell (by omega),i64s_get (by omega)],h4.frozen _,?_⟩
 have hd:=h2' i
 refine ⟨o.set i ((o.getD i 0+c) % 2),_,rfl,by omega,by simpa using h1,fun j hj=>?_,fun j=>?_,?_,?_,h5.setCell (Nat.le_refl _) _⟩
 ·by_cases hj2:i=j
  ·subst hj2
   rw [List.getD_eq_getElem?_getD,List.getElem?_set_self (by omega)]
   exact Nat.mod_lt _ (by decide)
  ·rw [lget_set_ne hj2];exact h2 j (by omega)
 ·by_cases hj2:i=j
  ·subst hj2
   rw [List.getD_eq_getElem?_getD,List.getElem?_set_self (by omega)]
   show (o.getD i 0+c) % 2≤_
   omega
  ·rw [lget_set_ne hj2];exact h2' j
 ·have h6:=nv_set 2 (l:=o) (p:=i) (by omega) ((o.getD i 0+c) % 2)
  generalize o.getD i 0=d at *
  have h7:2 ^ i * d+2 ^ i * c=2 ^ i * ((d+c) % 2)+2 ^ (i+1) * ((d+c) / 2):=by
   rw [pow_succ_mul,←Nat.mul_add,←Nat.mul_add]
   congr 1
   omega
  omega
 ·have:=h4.set_ i (.int .i64 (((o.getD i 0+c) % 2:Nat):Int))
  rwa [i64s_set] at this
theorem CyRel.end_ {w wr:World} {G V N':Nat} {cv:Value} (h:CyRel w G V N' N' cv wr) (hV:V<2 ^ N') :
  ∃ o:List Nat,o.length=N'∧Dig 2 o∧nv 2 o=V∧OwnI wr G (some ⟨G,0,none⟩) N' N' (i64s o)∧Below G w wr:=by
 obtain ⟨o,c,rfl,hc,h1,h2,h2',h3,h4,h5⟩:=h
 have hc0:c=0:=by
  refine Nat.eq_zero_of_not_pos fun h=>?_
  have:=Nat.mul_le_mul_left (2 ^ N') h
  omega
 subst hc0
 refine ⟨o,h1,fun x hx=>?_,by simpa using h3,h4,h5⟩
 obtain ⟨j,hj,rfl⟩:=List.mem_iff_getElem.1 hx
 have:=h2 j (by omega)
 rwa [getD_eq hj] at this
theorem CyRel.below {w wr:World} {G V N' i:Nat} {cv:Value} (h:CyRel w G V N' i cv wr):Below G w wr:=by
 obtain ⟨o,c,h0,hc,h1,h2,h2',h3,h4,h5⟩:=h
 exact h5
theorem bval_mul (sx sy:Bool) (l m:List Nat) {x y z:Int} (hx:bval sx l=x) (hy:bval sy m=y) (hz:x * y=z) {o:List Nat} (ho:nv 2 o=nv 2 l * nv 2 m):bval (!sx==sy) o=z:=by
 subst hx;subst hy;subst hz
 unfold bval
 rw [ho]
 cases sx <;> cases sy <;> simp [Int.neg_mul,Int.mul_neg]
set_option maxRecDepth 100000 in
set_option maxHeartbeats 2000000 in
theorem Times_any {sx sy:Bool} {B B':Nat} {A A':Option Addr} {l m:List Nat} {n c n' c':Nat} {w:World} (hs:SlI w B A n c l) (ht:SlI w B' A' n' c' m) (hn:n≤67108864) (hn':n'≤67108864) (hB:B≤w.heap.size) (hB':B'≤w.heap.size)
  {x y z:Int} (hx:bval sx l=x) (hy:bval sy m=y) (hz:x * y=z) :
  Calls Tryz.prog 73 #[.agg #[.bool sx,.slice A n c],.agg #[.bool sy,.slice A' n' c']] w (PostB w z):=by
 have hl1:=hs.len
 have hl2:=ht.len
 have B1:=(((Below.refl w.heap.size w).alloc (Nat.le_refl _) (.cells #[.bool sx,.slice A n c] 59)).alloc (by simp) (.cells #[.bool sy,.slice A' n' c'] 59)).alloc (by simp;omega) (.cells #[.bool false,.slice none 0 0] 59)
 have HB:=Lib.hid B1
 have HH2:=Lib.hid (heap_third w (.cells #[.bool sx,.slice A n c] 59) (.cells #[.bool sy,.slice A' n' c'] 59) (.cells #[.bool false,.slice none 0 0] 59))
 have HK:=Lib.hid (fun C w2 (hb:Below C (((w.alloc (.cells #[.bool sx,.slice A n c] 59)).alloc (.cells #[.bool sy,.slice A' n' c'] 59)).alloc (.cells #[.bool false,.slice none 0 0] 59)) w2) (hC:w.heap.size+3≤C)=>three_boxes (Dr.refl _) hb hC)
 have hsz:w.heap.size+3≤(((w.alloc (.cells #[.bool sx,.slice A n c] 59)).alloc (.cells #[.bool sy,.slice A' n' c'] 59)).alloc (.cells #[.bool false,.slice none 0 0] 59)).heap.size:=by simp
 have HS1:=Lib.hid (fun w1 (hb:Below w.heap.size w w1)=>And.intro (hs.below (C:=w.heap.size) hb hB) (ht.below (C:=w.heap.size) hb hB'))
 have HD:=Lib.hid (And.intro hs.dig ht.dig)
 have HL:=Lib.hid (And.intro hl1 hl2)
 have HV:=Lib.hid (show nv 2 l * nv 2 m<2 ^ (n+n'+1) from by
  have h1:=nv_lt hs.dig
  have h2:=nv_lt ht.dig
  rw [hl1] at h1
  rw [hl2] at h2
  have h3:=Nat.mul_le_mul (Nat.le_of_lt h1) (Nat.le_of_lt h2)
  rw [←Nat.pow_add] at h3
  have h4:2 ^ (n+n')<2 ^ (n+n'+1):=Nat.pow_lt_pow_right (by decide) (Nat.lt_succ_self _)
  omega)
 have HZ:=Lib.hid (fun o (ho:nv 2 o=nv 2 l * nv 2 m)=>bval_mul sx sy l m hx hy hz ho)
 have hmk:=fun w=>by
  have h:=makeI (n+n'+1) (by omega) w
  rw [show ((n+n'+1:Nat):Int)=(n:Int)+n'+1 from by omega] at h
  exact h
 have hn9:(n:Int)≤67108864:=by omega
 have hn8:(n':Int)≤67108864:=by omega
 clear hs ht hB hB' hx hy hz hl1 hl2 B1
 go_enter Tryz.func73,Tryz.ntmps73
 go_upto_region 1 with fail
 generalize (((w.alloc (.cells #[.bool sx,.slice A n c] 59)).alloc (.cells #[.bool sy,.slice A' n' c'] 59)).alloc (.cells #[.bool false,.slice none 0 0] 59))=W0 at *
 obtain ⟨⟨q0,q1⟩,⟨q2,q3⟩,_⟩:=HK.out _ _ (Below.refl _ W0) hsz
 have HR0:=Lib.hid (TmRel.start W0 l m n n' (by simp [maxLen];omega))
 obtain ⟨G,hG⟩:∃ G,W0.heap.size=G:=⟨_,rfl⟩
 rw [hG] at HR0 hsz
 go_wp2_with fail
 try rw [hG]
 go_loopw [6] (fun iv wr=>∃ i:Nat,i≤n∧iv = .int .i64 (i:Int)∧TmRel W0 G l m n n' i wr) (fun iv _=>n - (intOf iv).toNat)
 case atStart=>exact ⟨0,Nat.zero_le _,rfl,HR0.out⟩
 case round=>
  obtain ⟨i,hi,rfl,hrel⟩:=hrel
  have HRel:=Lib.hid hrel
  have HBr:=Lib.hid hrel.below
  have hi0:(0:Int)≤(i:Int):=by omega
  obtain ⟨⟨q0,q1⟩,⟨q2,q3⟩,_⟩:=HK.out _ _ HBr.out hsz
  have HBw:=Lib.hid (HB.out.trans (HBr.out.mono (by omega)))
  clear hrel HR0
  by_cases hin:i<n
  ·have hiI:(i:Int)<(n:Int):=by omega
   obtain ⟨b,off,rfl,_,hc⟩:=SlI.at_ (HS1.out wr HBw.out).1 (by omega)
   have hx:=hc i hin
   have hb2:=HD.out.1.getD (b:=2) (by decide) i
   clear hc
   by_cases h1:l.getD i 0=1
   ·have H1:=Lib.hid h1
    rw [h1] at hx
    have hx1:wr.cell? ⟨b,off+i,none⟩=some (.int .i64 1):=hx
    have HI:=Lib.hid HRel.out.enter
    clear hx hb2 h1
    go_wp2_with fail
    go_loopw [7] (fun kv wr2=>∃ k:Nat,k≤n'∧kv = .int .i64 (k:Int)∧TmIn W0 G l m n n' i k wr2) (fun kv _=>n' - (intOf kv).toNat)
    case atStart=>exact ⟨0,Nat.zero_le _,rfl,HI.out⟩
    case round=>
     obtain ⟨k,hk,rfl,hrel⟩:=hrel
     have HRk:=Lib.hid hrel
     have HBk:=Lib.hid hrel.below
     have hk0:(0:Int)≤(k:Int):=by omega
     obtain ⟨⟨p0,p1⟩,⟨p2,p3⟩,_⟩:=HK.out _ _ HBk.out hsz
     have HBv:=Lib.hid (HB.out.trans (HBk.out.mono (by omega)))
     clear hrel HI
     by_cases hkn:k<n'
     ·have hkI:(k:Int)<(n':Int):=by omega
      obtain ⟨b2,off2,rfl,_,hc⟩:=SlI.at_ (HS1.out _ HBv.out).2 (by omega)
      have hy:=hc k hkn
      have hyb:=HD.out.2.getD (b:=2) (by decide) k
      obtain ⟨d,hd,hcd,hfz,hstep⟩:=HRk.out.facts hin hkn (by omega) (by omega)
      have HS:=Lib.hid (hstep _ rfl hyb)
      obtain ⟨ik,hik⟩:∃ ik,i+k=ik:=⟨_,rfl⟩
      rw [hik] at HS hcd hfz
      generalize m.getD k 0=y at *
      obtain ⟨dy,hdy⟩:∃ dy,d+y=dy:=⟨_,rfl⟩
      rw [hdy] at HS
      have hw1:IntKind.i64.wrap ((i:Int)+(k:Int))=(ik:Int):=by rw [IntWalk.i64_in _ (by omega)];omega
      have hw2:IntKind.i64.wrap ((d:Int)+(y:Int))=(dy:Int):=by rw [IntWalk.i64_in _ (by omega)];omega
      have hik3:(ik:Int)<(n:Int)+(n':Int)+1:=by omega
      have hik4:ik<n+n'+1:=by omega
      have hik0:(0:Int)≤(ik:Int):=by omega
      clear hc hstep HRk hik hdy
      go_wp2_with fail
      go_still_tail 17,(by kernel_rfl)
      change wpList _ _ _ _ _ wr.drew
      go_wp2_with fail
      go_roundw
      case rel=>exact ⟨k+1,by omega,by go_num,HS.out.drew⟩
      case measure=>simp [intOf];omega
     ·obtain rfl:k=n':=by omega
      have HS:=Lib.hid (HRk.out.leave H1.out (by rw [HL.out.2];exact Nat.le_refl _))
      clear HRk
      go_wp2_with fail
      go_roundw
      case rel=>exact ⟨i+1,by omega,by go_num,HS.out⟩
      case measure=>simp [intOf];omega
   ·have h0:l.getD i 0=0:=by omega
    rw [h0] at hx
    have hx1:wr.cell? ⟨b,off+i,none⟩=some (.int .i64 0):=hx
    have HS:=Lib.hid (HRel.out.skip h0)
    clear hx h1 h0 hb2
    go_wp2_with fail
    go_roundw
    case rel=>exact ⟨i+1,by omega,by go_num,HS.out⟩
    case measure=>simp [intOf];omega
  ·obtain rfl:i=n:=by omega
   have HC:=Lib.hid (HRel.out.carry (by rw [HL.out.1];exact Nat.le_refl _) (by omega) (by omega))
   clear HRel
   go_wp2_with fail
   go_loopw [8,9] (fun cv jv wr2=>∃ j:Nat,j≤i+n'+1∧jv = .int .i64 (j:Int)∧CyRel W0 G (nv 2 l * nv 2 m) (i+n'+1) j cv wr2) (fun _ jv _=>i+n'+1 - (intOf jv).toNat)
   case atStart=>exact ⟨0,Nat.zero_le _,rfl,HC.out⟩
   case round=>
    obtain ⟨j,hj,rfl,hrel⟩:=hrel
    have HRj:=Lib.hid hrel
    have HBj:=Lib.hid hrel.below
    have hj0:(0:Int)≤(j:Int):=by omega
    clear hrel HC
    by_cases hjn:j<i+n'+1
    ·have hjI:(j:Int)<(i:Int)+(n':Int)+1:=by omega
     obtain ⟨cy,d,rfl,hcy,hd,hcd,hfz,hstep⟩:=HRj.out.facts hjn
     have HS:=Lib.hid hstep
     obtain ⟨t,ht⟩:∃ t,d+cy=t:=⟨_,rfl⟩
     have hdt:(d:Int)+(cy:Int)=(t:Int):=by omega
     rw [ht] at HS
     have htm:(t:Int).tmod 2=((t % 2:Nat):Int):=by rw [Int.tmod_eq_emod_of_nonneg (by omega)];omega
     have htd:(t:Int).tdiv 2=((t / 2:Nat):Int):=by rw [Int.tdiv_eq_ediv_of_nonneg (by omega)];omega
     have hb1:(t:Int)≤2305843011361177600:=by omega
     clear hstep HRj ht
     go_wp2_with fail
     go_roundw
     case rel=>exact ⟨j+1,by omega,by go_num,by first | exact HS.out | simpa using HS.out⟩
     case measure=>simp [intOf];omega
    ·obtain rfl:j=i+n'+1:=by omega
     obtain ⟨o,ho1,ho2,ho3,ho4,ho5⟩:=HRj.out.end_ HV.out
     have HO:=Lib.hid (And.intro ho1 (And.intro ho2 (And.intro (HZ.out o ho3) ho4)))
     obtain ⟨⟨p0,p1⟩,⟨p2,p3⟩,_⟩:=HK.out _ _ HBj.out hsz
     have HBv:=Lib.hid (HB.out.trans (HBj.out.mono (by omega)))
     have hjI:¬((i+n'+1:Nat):Int)<(i:Int)+(n':Int)+1:=by omega
     clear ho1 ho2 ho3 ho4 ho5 HRj HV HZ
     go_wp2_with fail
     (with_reducible refine (rlaid_at (!sx==sy) HO.out.2.2.2 HO.out.1 HO.out.2.1 HO.out.2.2.1).mono ?_)
     rintro ex w5 ⟨rfl,ho5,hb5⟩
     have hbz:=HBj.out.size
     obtain ⟨r0,r1,r2,r3⟩:=(HK.out _ _ (HBj.out.trans (hb5.mono (by omega))) hsz).2.2
     have HO5:=Lib.hid ho5
     have HB5:=Lib.hid (HBv.out.trans (hb5.mono (by have:=HBv.out.size;omega)))
     clear ho5 hb5 p0 p1 p2 p3
     go_wp2
     have hr:=ResB.stored (w:=w) (g:=w.heap.size+1+1) (u:=.bool (decide (z<0))) (u':=.slice (some ⟨G,0,none⟩) (digs 2 z.natAbs).length (i+n'+1)) ⟨_,_,rfl,HO5.out⟩ HB5.out (by omega) (by omega)
     exact bodyPost_ret (v:=.agg #[.bool (decide (z<0)),.slice (some ⟨G,0,none⟩) (digs 2 z.natAbs).length (i+n'+1)]) (by simp [results,Tryz.results73,go_sem,r0,r1]) rfl ⟨_,rfl,hr.1,hr.2⟩
end
section
open Go.ChangeShapes Go.WideShapes Go.ChangeAt Go.RowKit Go.Joins Hb
end
section
open Go.RowKit Hb
section
end
section
variable {w:World} {B B':Nat} {A A':Option Addr} {c c':Nat} {x y z:Int}
theorem sg_neg (y:Int):sg (!(decide (y<0))) (digs 2 y.natAbs)=decide (-y<0):=by
 rw [←bval_sg,bval,nv_digs (by decide)]
 refine decide_eq_decide.2 ?_
 by_cases h1:y<0
 ·rw [decide_eq_true h1]
  simp only [Bool.not_true,Bool.false_eq_true,if_false]
  omega
 ·rw [decide_eq_false h1]
  simp only [Bool.not_false,if_true]
  omega
theorem Minus_w {my:Int} (hm : -y=my) (hs:SlI w w.heap.size A (digs 2 y.natAbs).length c (digs 2 y.natAbs)) :
  Calls Tryz.prog 163 #[.agg #[.bool (decide (y<0)),.slice A (digs 2 y.natAbs).length c]] w fun e w'=>e = .returned (.agg #[.bool (decide (my<0)),.slice A (digs 2 y.natAbs).length c])∧Below w.heap.size w w':=by
 have h:=rminus_any (s:=decide (y<0)) hs (Nat.le_refl _) (nrm_digs (by decide) _)
 rwa [sg_neg,hm] at h
theorem Sum_m {my:Int} (hm : -y=my) (hs:SlI w w.heap.size A (digs 2 x.natAbs).length c (digs 2 x.natAbs)) (ht:SlI w w.heap.size A' (digs 2 y.natAbs).length c' (digs 2 y.natAbs)) (hn:(digs 2 x.natAbs).length≤33554432) (hn':(digs 2 y.natAbs).length≤33554432) (hz:x+my=z) :
  Calls Tryz.prog 145 #[.agg #[.bool (decide (x<0)),.slice A (digs 2 x.natAbs).length c],.agg #[.bool (decide (my<0)),.slice A' (digs 2 y.natAbs).length c']] w (PostB w z):=
 rsum_any hs ht (by omega) (by omega) (Nat.le_refl _) (Nat.le_refl _) (nrm_digs (by decide) _) (nrm_digs (by decide) _) (bval_digs x) (by have:=bval_digs my;rwa [←hm,Int.natAbs_neg,hm] at this) hz
end
theorem small_step (s:Bool) {N:Int} {X:Nat} (h:N=if s then -(X:Int) else X) (h0:N≠0) :
  0<X∧(N.tmod 2=0∧X % 2=0∨N.tmod 2=1∧X % 2=1∨N.tmod 2 = -1∧X % 2=1)∧N.tdiv 2=(if s then -((X / 2:Nat):Int) else ((X / 2:Nat):Int)):=by
 have e1:(X:Int).tmod 2=((X % 2:Nat):Int):=by rw [Int.tmod_eq_emod_of_nonneg (by omega)];omega
 have e2:(X:Int).tdiv 2=((X / 2:Nat):Int):=by rw [Int.tdiv_eq_ediv_of_nonneg (by omega)];omega
 cases s
 ·simp only [Bool.false_eq_true,if_false] at h ⊢
  subst h
  rw [e1,e2]
  omega
 ·simp only [if_true] at h ⊢
  subst h
  rw [Int.neg_tmod,Int.neg_tdiv,e1,e2]
  omega
def SmRel (W0:World) (s:Bool) (a:Nat) (xv bv:Value) (wr:World) (j X:Nat) (N:Int):Prop:=
 xv = .int .i64 N∧N=(if s then -(X:Int) else X)∧a / 2 ^ j=X∧OfRel W0 (lb a j) bv wr
set_option maxRecDepth 100000 in
set_option maxHeartbeats 2000000 in
theorem Small_any (k:Int) (hk : -9223372036854775808≤k∧k≤9223372036854775807) (w:World) :
  Calls Tryz.prog 57 #[.int .i64 k] w (PostB w k):=by
 obtain ⟨s,hs⟩:∃ s,decide (k<0)=s:=⟨_,rfl⟩
 obtain ⟨a,ha⟩:∃ a,k.natAbs=a:=⟨_,rfl⟩
 have HK:=Lib.hid hk
 have ha64:a≤9223372036854775808:=by omega
 have hks:k=(if s then -(a:Int) else a):=by
  cases s
  ·have:=of_decide_eq_false hs;simp;omega
  ·have:=of_decide_eq_true hs;simp;omega
 have HV:=Lib.hid (show bval s (digs 2 a)=k by unfold bval;rw [nv_digs (by decide),hks])
 have HVb:=Lib.hid (fun l (hl:nv 2 l=a)=>show bval s l=k by unfold bval;rw [hl,hks])
 have HS:=Lib.hid hs
 have HKS:=Lib.hid hks
 have HB:=Lib.hid ((Below.refl w.heap.size w).alloc (Nat.le_refl _) (.cells #[.bool false,.slice none 0 0] 59))
 have HX:=Lib.hid (show (w.alloc (.cells #[.bool false,.slice none 0 0] 59)).heap[w.heap.size]?=some (.cells #[.bool false,.slice none 0 0] 59 (0,0)) from heap_alloc_new w _)
 have hsz:w.heap.size<(w.alloc (.cells #[.bool false,.slice none 0 0] 59)).heap.size:=by simp
 have hd1:decide (k<0)=s:=hs
 clear ha hks hs
 go_enter Tryz.func57,Tryz.ntmps57
 go_wp2_with fail
 generalize (w.alloc (.cells #[.bool false,.slice none 0 0] 59))=W0 at *
 have HR0:=Lib.hid (show SmRel W0 s a (.int .i64 k) (.slice none 0 0) W0 0 a k from ⟨rfl,HKS.out,by rw [Nat.pow_zero,Nat.div_one],OfRel.start W0⟩)
 clear hk
 go_loopw [0,4] (fun xv bv wr=>∃ (j X:Nat) (N:Int),-9223372036854775808≤N∧N≤9223372036854775807∧SmRel W0 s a xv bv wr j X N) (fun xv _ _=>(intOf xv).natAbs)
 case atStart=>exact ⟨0,a,k,HK.out.1,HK.out.2,HR0.out⟩
 case round=>
  obtain ⟨j,X,N,hN1,hN2,rfl,hNX,hX,A1,n1,c1,rfl,ho1,hl1,hb1⟩:=hrel
  have HO:=Lib.hid ho1
  have HL:=Lib.hid hl1
  have HB1:=Lib.hid hb1
  have hz1:=hb1.size
  have HNX:=Lib.hid hNX
  have HXj:=Lib.hid hX
  clear ho1 hl1 hb1 HR0 hNX hX
  by_cases h0:N=0
  ·subst h0
   have hX0:X=0:=by have:=HNX.out;split at this <;> omega
   have HZ:=Lib.hid (HVb.out (lb a j) (by
    rw [lb_nv]
    refine Nat.mod_eq_of_lt ?_
    have h1:=HXj.out
    rw [hX0] at h1
    exact (Nat.div_eq_zero_iff.1 h1).resolve_left (Nat.ne_of_gt (Nat.pow_pos (by decide)))))
   have HBf:=Lib.hid (HB.out.trans (HB1.out.mono HB.out.size))
   clear HNX HXj hX0
   go_wp2_with fail
   (with_reducible refine (rlaid_at s HO.out HL.out (lb_dig a j) HZ.out).mono ?_)
   rintro ex w5 ⟨rfl,ho5,hb5⟩
   obtain ⟨r0,r1,r2,r3⟩:=two_cells (HB1.out.trans (hb5.mono hz1)) HX.out hsz
   have HO5:=Lib.hid ho5
   have HB5:=Lib.hid (HBf.out.trans (hb5.mono HBf.out.size))
   clear ho5 hb5
   go_wp2
   have hr:=ResB.stored (w:=w) (g:=w.heap.size) (u:=.bool s) (u':=.slice A1 (digs 2 k.natAbs).length c1) ⟨A1,c1,rfl,HO5.out⟩ HB5.out (by omega) (by omega)
   exact bodyPost_ret (v:=.agg #[.bool (decide (k<0)),.slice A1 (digs 2 k.natAbs).length c1]) (by simp [results,Tryz.results57,go_sem,r0,r1];exact HS.out.symm) rfl ⟨_,rfl,hr.1,hr.2⟩
  ·obtain ⟨hXp,hmod,hdiv⟩:=small_step s HNX.out h0
   obtain ⟨M,hM⟩:∃ M,N.tdiv 2=M:=⟨_,rfl⟩
   have HMd:=Lib.hid (show M=(if s then -((X / 2:Nat):Int) else ((X / 2:Nat):Int)) from hM ▸ hdiv)
   have hMb : -9223372036854775808≤M∧M≤9223372036854775807∧M.natAbs<N.natAbs:=by
    have h1:=HNX.out
    have h2:=HMd.out
    split at h1 <;> omega
   have hj:j≤64:=by
    refine Nat.le_of_lt (pow_lt_pow' (b:=2) (by decide) (Nat.lt_of_le_of_lt ?_ (show 9223372036854775808<2 ^ 64 by decide)))
    refine Nat.le_trans ?_ ha64
    have h1:=HXj.out
    refine Nat.le_of_not_lt fun h2=>?_
    rw [Nat.div_eq_of_lt h2] at h1
    omega
   have hn1:n1≤64:=by have h1:=HL.out;rw [lb_length] at h1;omega
   have HXq:=Lib.hid (show a / 2 ^ (j+1)=X / 2 by rw [Nat.pow_succ,←Nat.div_div_eq_div_mul,HXj.out])
   obtain ⟨hMb1,hMb2,hMb3⟩:=hMb
   clear hdiv HV HVb
   rcases hmod with ⟨hm,hy⟩ | ⟨hm,hy⟩ | ⟨hm,hy⟩
   all_goals
    have HLB:=Lib.hid (show lb a (j+1)=lb a j ++ [_] by rw [lb,HXj.out,hy])
    clear hy
    go_wp2_with (at_builtin;refine wpList_append_i64 (by rfl) _ _ (by rfl) W0.heap.size A1 n1 c1 (lb a j) (by rfl) (Own.alloc HO.out _) wr.heap.size _ (by rfl) (by simp [go_sem];rfl) (Nat.le_trans hn1 (by decide)) (by simp;omega) ?_;intro A3 c3 w3 ho3 hb3)
    have HR3:=Lib.hid (show OfRel W0 (lb a (j+1)) (.slice A3 (n1+1) c3) w3 from ⟨A3,n1+1,c3,rfl,by rw [HLB.out];exact ho3,by rw [HLB.out,List.length_append,HL.out];rfl,(HB1.out.alloc (by omega) _).trans hb3⟩)
    clear ho3 hb3
    go_wp2_with fail
    go_roundw
    case rel=>exact ⟨j+1,X / 2,M,hMb1,hMb2,rfl,HMd.out,HXq.out,HR3.out⟩
    case measure=>simp [intOf];omega
theorem wp_append_farI {o:Oper} {a:Act} {K:Act→World→Prop} {Q:Exit→Act→World→Prop} {w:World} (s x:Operand)
  (ho:o.op = .call { callee:=.builtin .append,args:=#[s,x],argTypes:=#[57,57] })
  {base B:Nat} {A A0:Option Addr} {n0 c0 m c:Nat} {l0 l:List Nat} (hs:a.eval s = .slice A0 n0 c0) (hown:OwnI w base A0 n0 c0 (i64s l0)) (hx:a.eval x = .slice A m c) (hA:A=none→c=0) (hrd:SlI w B A m c l)
  (hm:n0+m≤67108864) (hbase:base≤w.heap.size)
  (h:∀ A' c' w',OwnI w' base A' (n0+m) c' (i64s (l0 ++ l))→Below base w w'→(∀ g,g<w.heap.size→A0≠some ⟨g,0,none⟩→w'.heap[g]?=w.heap[g]?)→(∀ g,A'=some ⟨g,0,none⟩→A0=some ⟨g,0,none⟩∨w.heap.size≤g)→K (a.put o.dst (.slice A' (n0+m) c')) w'):o.wp Tryz.prog a w K Q:=by
 obtain ⟨i0,hi,hz0,hz1,hz2⟩:=info_parts infoI
 cases A with
 | none=>
  have hm0:m=0:=by
   rcases Nat.eq_zero_or_pos m with h0 | h0
   ·exact h0
   ·obtain ⟨b,o,h1,_⟩:=hrd.at_ h0;cases h1
  have hc0:=hA rfl
  subst hm0;subst hc0
  have hl:l = []:=List.length_eq_zero_iff.1 hrd.len
  subst hl
  have hrun:=run_append_owned_none (P:=Tryz.prog) (w:=w) base 57 o.type 3 i0 1 Tryz.underlying57 hi _ n0 (i64s l0) hown
  unfold Oper.wp
  simp [execOp,ho,resolve,invoke,builtin,hs,hx,hrun,Result.andThen]
  exact h A0 c0 w (by rw [List.append_nil];exact hown) (Below.refl _ _) (fun _ _ _=>rfl) (fun _ e=>.inl e)
 | some ad=>
  have hnews:∀ j u,(i64s l)[j]?=some u→w.cell? (ad.add j)=some u:=by
   intro j u hj
   have hj2:j<m:=by
    rw [←hrd.len,←i64s_length l]
    exact (List.getElem?_eq_some_iff.1 hj).1
   obtain ⟨b,o',h1,_,hc⟩:=hrd.at_ (by omega)
   obtain rfl:=Option.some.inj h1
   rw [addr_add,hc j hj2,←i64s_get (by rw [hrd.len];exact hj2),hj]
  obtain ⟨v',w',hr,hown',hg,_,hat⟩:=run_append_own_at (P:=Tryz.prog) w base 57 o.type 3 i0 (.int .i64 0) 1 8 Tryz.underlying57 hi hz0 hz1 hz2 rfl (by decide) _ n0 (i64s l0) hown ad m c (i64s l) (by rw [i64s_length,hrd.len];simp) hnews (i64s_one l) (by simp [maxLen];omega) (by omega) hbase
  have hf:∃ A' c',v' = .slice A' (n0+m) c':=by
   rcases hown'.2 with ⟨h1,h2⟩ | ⟨g',cap,cur,h1,_⟩
   ·exact ⟨none,0,by rw [h1,h2]⟩
   ·exact ⟨_,_,h1⟩
  obtain ⟨A',c',rfl⟩:=hf
  unfold Oper.wp execOp
  simp only [ho,resolve,invoke,builtin,Sem.run_bind,Sem.run_pure,Result.andThen_ok,List.map_toArray,List.map_cons,List.map_nil,hs,hx,hr]
  refine h A' c' w' (by have h3:=hown';rw [i64s_append] at h3;exact h3) ⟨hg.os,hg.tape,hg.output,hg.size,fun j hj=>hg.block j (by omega) ?_⟩ (fun j hj hne=>hg.block j hj ?_) (fun g e=>?_)
  ·rcases Own.form hown with ⟨rfl,_⟩ | ⟨g',rfl,h4,_⟩
   ·simp [Value.ownBlock]
   ·simp [Value.ownBlock];omega
  ·rcases Own.form hown with ⟨rfl,_⟩ | ⟨g',rfl,h4,_⟩
   ·simp [Value.ownBlock]
   ·simp [Value.ownBlock]
    rintro rfl
    exact hne rfl
  ·subst e
   rcases Own.form hown with ⟨rfl,_⟩ | ⟨g',rfl,h4,_⟩
   ·simp [Value.ownBlock] at hat
    exact .inr (by omega)
   ·simp [Value.ownBlock] at hat
    rcases hat with rfl | h5
    ·exact .inl rfl
    ·exact .inr (by omega)
end
end Go.Proofs.YtjpnmmjgdiiahaaGreatDoor
namespace Hb
theorem nv_twos (k:Nat) (b:Nat):nv 2 (List.replicate k 0 ++ digs 2 b)=2 ^ k * b:=by
 rw [nv_append,nv_replicate,List.length_replicate,nv_digs (by decide),Nat.zero_add]
theorem dig_twos (k:Nat) (b:Nat):Dig 2 (List.replicate k 0 ++ digs 2 b):=(Dig.replicate _ _ (by decide)).append (dig_digs (by decide) b)
end Hb
namespace Go.Proofs.YtjpnmmjgdiiahaaGreatDoor
section
open Go.RowKit Hb
section
end
def Bb (w:World) (g:Nat) (x y:Value):Prop:=w.heap[g]?=some (.cells #[x,y] 59 (0,0))
section
variable {w w':World} {g C:Nat} {x y:Value} {p:Addr}
theorem Bb.below (h:Bb w g x y) (hb:Below C w w') (hg:g<C):Bb w' g x y:=(hb.block g hg).trans h
theorem Bb.facts (h:Bb w g x y):w.cell? ⟨g,0,none⟩=some x∧w.cell? ⟨g,1,none⟩=some y∧w.frozen? ⟨g,0,none⟩=false∧w.frozen? ⟨g,1,none⟩=false:=
 two_cells (w0:=w) (C:=g+1) (Below.refl _ _) h (Nat.lt_succ_self g)
theorem Bb.lt (h:Bb w g x y):g<w.heap.size:=(Array.getElem?_eq_some_iff.1 h).1
theorem Bb.alloc (h:Bb w g x y) (o:Obj):Bb (w.alloc o) g x y:=((Below.refl w.heap.size w).alloc (Nat.le_refl _) o).block g (Bb.lt h) |>.trans h
theorem Bb.new (w:World) (x y:Value):Bb (w.alloc (.cells #[x,y] 59)) w.heap.size x y:=heap_alloc_new w _
end
set_option maxRecDepth 100000 in
set_option maxHeartbeats 4000000 in
theorem rShift_up {x:Int} {B:Nat} {A:Option Addr} {c:Nat} {w:World} (hs:SlI w B A (digs 2 x.natAbs).length c (digs 2 x.natAbs)) (hB:B≤w.heap.size) (hA:A=none→c=0) (hn:(digs 2 x.natAbs).length≤33554432) (k:Nat) (hk:k≤33554432) {z:Int} (hz:x * 2 ^ k=z) :
  Calls Tryz.prog 146 #[.agg #[.bool (decide (x<0)),.slice A (digs 2 x.natAbs).length c],.int .i64 (k:Int)] w (PostB w z):=by
 have HV:=Lib.hid (show bval (decide (x<0)) (List.replicate k 0 ++ digs 2 x.natAbs)=z by
  unfold bval
  rw [nv_twos,←hz]
  have e2:((2 ^ k * x.natAbs:Nat):Int)=2 ^ k * (x.natAbs:Int):=by rw [Int.natCast_mul,two_pow_cast]
  rw [e2]
  by_cases hx:x<0
  ·rw [decide_eq_true hx,if_pos rfl,show (x.natAbs:Int) = -x by omega,Int.mul_neg,Int.neg_neg,Int.mul_comm]
  ·rw [decide_eq_false hx,if_neg (by simp),show (x.natAbs:Int)=x by omega,Int.mul_comm])
 have HD:=Lib.hid (dig_twos k x.natAbs)
 have HLn:=Lib.hid (show (List.replicate k 0 ++ digs 2 x.natAbs).length=k+(digs 2 x.natAbs).length by simp)
 have HB:=Lib.hid (((Below.refl w.heap.size w).alloc (Nat.le_refl _) (.cells #[.bool (decide (x<0)),.slice A (digs 2 x.natAbs).length c] 59)).alloc (by simp) (.cells #[.bool false,.slice none 0 0] 59))
 have h1:Bb ((w.alloc (.cells #[.bool (decide (x<0)),.slice A (digs 2 x.natAbs).length c] 59)).alloc (.cells #[.bool false,.slice none 0 0] 59)) w.heap.size (.bool (decide (x<0))) (.slice A (digs 2 x.natAbs).length c):=Bb.alloc (Bb.new w _ _) _
 have h2:Bb ((w.alloc (.cells #[.bool (decide (x<0)),.slice A (digs 2 x.natAbs).length c] 59)).alloc (.cells #[.bool false,.slice none 0 0] 59)) (w.heap.size+1) (.bool false) (.slice none 0 0):=by
  have:=Bb.new (w.alloc (.cells #[.bool (decide (x<0)),.slice A (digs 2 x.natAbs).length c] 59)) (.bool false) (.slice none 0 0)
  simpa only [World.size_alloc] using this
 have HS:=Lib.hid (fun w1 (hb:Below w.heap.size w w1)=>hs.below (C:=w.heap.size) hb hB)
 have HAc:=Lib.hid hA
 have H1:=Lib.hid h1
 have H2:=Lib.hid h2
 have hsz:w.heap.size+1<((w.alloc (.cells #[.bool (decide (x<0)),.slice A (digs 2 x.natAbs).length c] 59)).alloc (.cells #[.bool false,.slice none 0 0] 59)).heap.size:=by simp
 have d0:decide ((0:Int)≤(k:Int))=true:=decide_eq_true (by omega)
 have hkI:(k:Int)≤33554432:=by omega
 have HMk:=Lib.hid (show k≤maxLen by unfold maxLen;omega)
 have hmk:=makeI k (by omega)
 clear hs hB hz h1 h2 hA
 generalize decide (x<0)=s at *
 generalize digs 2 x.natAbs=l at *
 generalize hl:l.length=n at *
 clear hl
 go_enter Tryz.func146,Tryz.ntmps146
 go_upto_region 2 with fail
 generalize ((w.alloc (.cells #[.bool s,.slice A n c] 59)).alloc (.cells #[.bool false,.slice none 0 0] 59))=W1 at *
 have hS:=Lib.hid (fun w' (hb:Below W1.heap.size W1 w')=>And.intro (H1.out.below hb (Bb.lt H1.out)).facts.1 (H1.out.below hb (Bb.lt H1.out)).facts.2.1)
 have hT:=Lib.hid (fun w' (hb:Below W1.heap.size W1 w')=>H2.out.below hb (Bb.lt H2.out))
 have KK:Below W1.heap.size W1 W1.drew:=(Below.refl _ _).drew
 refine wp_region_wait (fun w'=>w'.cell? ⟨w.heap.size,0,none⟩=some (.bool s)∧w'.cell? ⟨w.heap.size,1,none⟩=some (.slice A n c)) 8 (by kernel_rfl) ?_
 change wpAnyW _ _ _ _ _ _ _ _ _ W1.drew
 have zd:W1.heap.size≤W1.drew.heap.size:=Nat.le_refl _
 generalize W1.drew=u0 at *
 refine wpAnyW_take 8 (i:=0) (v:=.pointer (some ⟨w.heap.size,0,none⟩)) rfl (by kernel_rfl) (by kernel_rfl) (by kernel_rfl) (by kernel_rfl) (fun _ _ _ h=>h) (Or.inl ⟨by kernel_rfl,fun w5 hSw=>by go_simp⟩) (hS.out _ KK) ?_
 refine wpAnyW_take 8 (i:=1) (v:=.bool s) rfl (by kernel_rfl) (by kernel_rfl) (by kernel_rfl) (by kernel_rfl) (fun _ _ _ h=>h) (Or.inl ⟨by kernel_rfl,fun w5 hSw=>by go_simp⟩) (hS.out _ KK) ?_
 refine wpAnyW_take 8 (i:=2) (v:=.int .i64 (k:Int)) rfl (by kernel_rfl) (by kernel_rfl) (by kernel_rfl) (by kernel_rfl) (fun _ _ _ h=>h) (Or.inl ⟨by kernel_rfl,fun w5 hSw=>by go_simp⟩) (hS.out _ KK) ?_
 refine wpAnyW_take 8 (i:=4) (v:=.pointer (some ⟨w.heap.size,1,none⟩)) rfl (by kernel_rfl) (by kernel_rfl) (by kernel_rfl) (by kernel_rfl) (fun _ _ _ h=>h) (Or.inl ⟨by kernel_rfl,fun w5 hSw=>by go_simp⟩) (hS.out _ KK) ?_
 refine wpAnyW_take 8 (i:=5) (v:=.slice A n c) rfl (by kernel_rfl) (by kernel_rfl) (by kernel_rfl) (by kernel_rfl) (fun _ _ _ h=>h) (Or.inl ⟨by kernel_rfl,fun w5 hSw=>by go_simp⟩) (hS.out _ KK) ?_
 refine uW 3 fun K hK=>?_
 go_simp
 have omk:=own_zerosI u0 k (B:=W1.heap.size) KK.size HMk.out
 have zu1:u0.heap.size<(u0.alloc (.cells (madeCells #[.int .i64 0] k) 3)).heap.size:=by simp
 replace KK:=Below.alloc KK KK.size (.cells (madeCells #[.int .i64 0] k) 3)
 refine hK.out _ _ (fun _=>hS.out _ KK) ?_
 generalize u0.alloc (.cells (madeCells #[.int .i64 0] k) 3)=u1 at *
 generalize u0.heap.size=g2 at *
 refine uW 6 fun K hK=>?_
 have osl:=HS.out _ (HB.out.trans (KK.mono (B':=w.heap.size) (by omega)))
 refine wp_append_farI (base:=W1.heap.size) (l0:=List.replicate k 0) (l:=l) (A:=A) (A0:=some ⟨g2,0,none⟩) (n0:=k) (c0:=k) (m:=n) (c:=c) _ _ (by rfl) (by rfl) omk (by rfl) HAc.out osl (by omega) KK.size ?_
 intro Aap cap u5 oap hbb hff _
 replace KK:=KK.trans (hbb.mono (Nat.le_refl _))
 clear hbb hff omk osl
 refine hK.out _ _ (fun _=>hS.out _ KK) ?_
 refine uW 7 fun K hK=>?_
 go_simp
 (with_reducible refine (rlaid_at s oap HLn.out HD.out HV.out).mono ?_)
 rintro ex u6 ⟨rfl,ores,hbb⟩
 replace KK:=KK.trans (hbb.mono KK.size)
 clear hbb oap
 refine hK.out _ _ (fun _=>hS.out _ KK) ?_
 refine uW 8 fun K hK=>?_
 obtain ⟨t0,t1,t2,t3⟩:=(hT.out _ KK).facts
 go_simp
 refine hK.out _ _ (fun h=>absurd h (by simp)) ?_
 refine wpAnyW_done (by kernel_rfl) ?_ _
 go_wp2
 have hr:=ResB.stored (w:=w) (g:=w.heap.size+1) (u:=.bool (decide (z<0))) (u':=.slice Aap (digs 2 z.natAbs).length cap) ⟨Aap,cap,rfl,ores⟩ (HB.out.trans (KK.mono (B':=w.heap.size) (by omega))) (by omega) (by omega)
 exact bodyPost_ret (v:=.agg #[.bool (decide (z<0)),.slice Aap (digs 2 z.natAbs).length cap]) (by simp [results,Tryz.results146,go_sem,t0,t1]) rfl ⟨_,rfl,hr.1,hr.2⟩
section
end
theorem len_zero' {y:Int} : (digs 2 y.natAbs).length=0↔y=0:=by
 constructor
 ·intro h
  have h9:=nv_digs (b:=2) (by decide) y.natAbs
  rw [List.length_eq_zero_iff.1 h] at h9
  have:(0:Nat)=y.natAbs:=h9
  omega
 ·rintro rfl;rw [show (0:Int).natAbs=0 from rfl,digs_zero];rfl
set_option maxHeartbeats 1000000 in
theorem rsign_any (x:Int) (A:Option Addr) (c:Nat) (w:World) :
  Calls Tryz.prog 140 #[.agg #[.bool (decide (x<0)),.slice A (digs 2 x.natAbs).length c]] w fun e w'=>e = .returned (.int .i64 x.sign)∧Below w.heap.size w w':=by
 have HB:=Lib.hid ((Below.refl w.heap.size w).alloc (Nat.le_refl _) (.cells #[.bool (decide (x<0)),.slice A (digs 2 x.natAbs).length c] 59))
 have hl:=len_zero' (y:=x)
 obtain ⟨n,hn⟩:∃ n,(digs 2 x.natAbs).length=n:=⟨_,rfl⟩
 rw [hn] at hl HB ⊢
 obtain ⟨s,hs⟩:∃ s,decide (x<0)=s:=⟨_,rfl⟩
 rw [hs] at HB ⊢
 rcases (by omega:x=0∨0<x∨x<0) with hx | hx | hx
 ·have h0:=hl.2 hx
  subst h0
  have hsx:x.sign=0:=by rw [hx];rfl
  rw [hsx]
  clear hl hx hn hsx hs
  go_enter Tryz.func140,Tryz.ntmps140
  go_wp2
  go_ret
  exact ⟨rfl,HB.out⟩
 ·have h0:¬n=0:=fun h=>by have:=hl.1 h;omega
  obtain rfl:s=false:=by rw [←hs];exact decide_eq_false (by omega)
  have hsx:x.sign=1:=Int.sign_eq_one_of_pos hx
  rw [hsx]
  have hnb:((n:Int)==0)=false:=beq_eq_false_iff_ne.2 (by omega)
  clear hl hx hn hsx hs
  go_enter Tryz.func140,Tryz.ntmps140
  go_wp2
  go_ret
  exact ⟨rfl,HB.out⟩
 ·have h0:¬n=0:=fun h=>by have:=hl.1 h;omega
  obtain rfl:s=true:=by rw [←hs];exact decide_eq_true (by omega)
  have hsx:x.sign = -1:=Int.sign_eq_neg_one_of_neg hx
  rw [hsx]
  have hnb:((n:Int)==0)=false:=beq_eq_false_iff_ne.2 (by omega)
  clear hl hx hn hsx hs
  go_enter Tryz.func140,Tryz.ntmps140
  go_wp2
  go_ret
  exact ⟨rfl,HB.out⟩
theorem two_set {w:World} {g t:Nat} {x y u v:Value} (h:w.heap[g]?=some (.cells #[x,y] t (0,0))):((w.setCell ⟨g,0,none⟩ u).setCell ⟨g,1,none⟩ v).heap[g]?=some (.cells #[u,v] t (0,0)):=by
 simp [World.setCell,Array.getElem?_modify,h]
set_option maxRecDepth 100000 in
set_option maxHeartbeats 2000000 in
theorem rcmp_any {x y:Int} {B B':Nat} {A A':Option Addr} {c c':Nat} {w:World} (hs:SlI w B A (digs 2 x.natAbs).length c (digs 2 x.natAbs)) (ht:SlI w B' A' (digs 2 y.natAbs).length c' (digs 2 y.natAbs)) (hB:B≤w.heap.size) (hB':B'≤w.heap.size) (hn:(digs 2 x.natAbs).length≤33554432) (hn':(digs 2 y.natAbs).length≤33554432) {k:Int} (hk:cmpZ x y=k) :
  Calls Tryz.prog 72 #[.agg #[.bool (decide (x<0)),.slice A (digs 2 x.natAbs).length c],.agg #[.bool (decide (y<0)),.slice A' (digs 2 y.natAbs).length c']] w fun e w'=>e = .returned (.int .i64 k)∧Below w.heap.size w w':=by
 obtain ⟨my,hmy⟩:∃ m,-y=m:=⟨_,rfl⟩
 obtain ⟨d,hd⟩:∃ d,x+my=d:=⟨_,rfl⟩
 have HK:=Lib.hid (show d.sign=k by rw [←hk,←sign_cmp];congr 1;omega)
 have HB:=Lib.hid (((Below.refl w.heap.size w).alloc (Nat.le_refl _) (.cells #[.bool (decide (x<0)),.slice A (digs 2 x.natAbs).length c] 59)).alloc (by simp) (.cells #[.bool (decide (y<0)),.slice A' (digs 2 y.natAbs).length c'] 59))
 have HX0:=Lib.hid (heap_first2 w (.cells #[.bool (decide (x<0)),.slice A (digs 2 x.natAbs).length c] 59) (.cells #[.bool (decide (y<0)),.slice A' (digs 2 y.natAbs).length c'] 59))
 have HX1:=Lib.hid (heap_second w (.cells #[.bool (decide (x<0)),.slice A (digs 2 x.natAbs).length c] 59) (.cells #[.bool (decide (y<0)),.slice A' (digs 2 y.natAbs).length c'] 59))
 have HM:=Lib.hid (fun w1 (hb:Below w.heap.size w w1)=>Minus_w hmy ((ht.below (C:=w.heap.size) hb hB').mono (Nat.le_trans hB' hb.size)))
 have HSu:=Lib.hid (fun w1 (hb:Below w.heap.size w w1)=>Sum_m hmy ((hs.below (C:=w.heap.size) hb hB).mono (Nat.le_trans hB hb.size)) ((ht.below (C:=w.heap.size) hb hB').mono (Nat.le_trans hB' hb.size)) hn hn' hd)
 have hsz:w.heap.size+2≤((w.alloc (.cells #[.bool (decide (x<0)),.slice A (digs 2 x.natAbs).length c] 59)).alloc (.cells #[.bool (decide (y<0)),.slice A' (digs 2 y.natAbs).length c'] 59)).heap.size:=by simp
 generalize (digs 2 x.natAbs).length=n at *
 generalize (digs 2 y.natAbs).length=n' at *
 generalize decide (x<0)=sx at *
 generalize decide (y<0)=sy at *
 generalize decide (my<0)=sm at *
 clear hs ht hB hB' hn hn' hk hmy hd
 go_enter Tryz.func72,Tryz.ntmps72
 go_upto_region 1 with fail
 generalize ((w.alloc (.cells #[.bool sx,.slice A n c] 59)).alloc (.cells #[.bool sy,.slice A' n' c'] 59))=w2 at *
 refine wp_region_wait (fun w'=>(w'.cell? ⟨w.heap.size,0,none⟩=some (.bool sx)∧w'.cell? ⟨w.heap.size,1,none⟩=some (.slice A n c))∧(w'.cell? ⟨w.heap.size+1,0,none⟩=some (.bool sy)∧w'.cell? ⟨w.heap.size+1,1,none⟩=some (.slice A' n' c'))) 5 (by kernel_rfl) ?_
 change wpAnyW _ _ _ _ _ _ _ _ _ w2.drew
 have HSS:=Lib.hid (fun w' (hb:Below w2.heap.size w2 w')=>show ((w'.cell? ⟨w.heap.size,0,none⟩=some (.bool sx)∧w'.cell? ⟨w.heap.size,1,none⟩=some (.slice A n c))∧(w'.cell? ⟨w.heap.size+1,0,none⟩=some (.bool sy)∧w'.cell? ⟨w.heap.size+1,1,none⟩=some (.slice A' n' c'))) from
  ⟨⟨(two_cells hb HX0.out (by omega)).1,(two_cells hb HX0.out (by omega)).2.1⟩,⟨(two_cells hb HX1.out (by omega)).1,(two_cells hb HX1.out (by omega)).2.1⟩⟩)
 have HB3:=Lib.hid (Below.refl w2.heap.size w2).drew
 have hz3:w2.heap.size≤w2.drew.heap.size:=Nat.le_refl _
 generalize w2.drew=w3 at *
 have HSC:=Lib.hid (HSS.out _ HB3.out)
 refine wpAnyW_take 5 (i:=0) (v:=.agg #[.bool sx,.slice A n c]) rfl (by kernel_rfl) (by kernel_rfl) (by kernel_rfl) (by kernel_rfl) (fun _ _ _ h=>h) (Or.inl ⟨by kernel_rfl,fun w5 hSw=>by go_simp⟩) HSC.out ?_
 refine wpAnyW_take 5 (i:=1) (v:=.agg #[.bool sy,.slice A' n' c']) rfl (by kernel_rfl) (by kernel_rfl) (by kernel_rfl) (by kernel_rfl) (fun _ _ _ h=>h) (Or.inl ⟨by kernel_rfl,fun w5 hSw=>by go_simp⟩) HSC.out ?_
 go_simp
 refine wpAnyW_two (i:=2) (i2:=4) (by kernel_rfl) rfl rfl (fun K hK=>?_) (fun K hK=>?_)
 ·go_simp
  (refine (HM.out _ (HB.out.trans ((HB3.out).mono HB.out.size))).mono ?_)
  rintro ex w4 ⟨rfl,hbw4⟩
  have K4:Below w2.heap.size w2 w4:=HB3.out.trans (hbw4.mono (by first | omega | (simp;done) | (simp;omega)))
  have hz4:=K4.size
  refine hK.out _ _ (fun _=>HSS.out _ K4) ?_
  refine wpAnyW_two (i:=3) (i2:=4) (by kernel_rfl) rfl rfl (fun K hK=>?_) (fun K hK=>?_)
  ·go_simp
   (refine (HSu.out _ (HB.out.trans ((K4).mono HB.out.size))).mono ?_)
   rintro ex w5 ⟨v5,rfl,⟨A5,c5,rfl,ho5⟩,hbw5⟩
   have K5:Below w2.heap.size w2 w5:=K4.trans (hbw5.mono hz4)
   have hz5:=K5.size
   refine hK.out _ _ (fun _=>HSS.out _ K5) ?_
   refine uW 4 fun K hK=>?_
   go_simp
   refine hK.out _ _ (fun _=>HSS.out _ (K5.alloc hz5 (.cells #[.bool false,.slice none 0 0] 59))) ?_
   have hv8:=heap_alloc_new w5 (.cells #[.bool (decide (d<0)),.slice A5 (digs 2 d.natAbs).length c5] 59)
   have KB9:=Lib.hid (HB.out.trans (((K5).alloc hz5 (.cells #[.bool (decide (d<0)),.slice A5 (digs 2 d.natAbs).length c5] 59)).mono HB.out.size))
   refine uW 5 fun K hK=>?_
   go_simp
   refine hK.out _ _ (fun h=>absurd h (by simp)) ?_
   refine wpAnyW_done (by kernel_rfl) ?_ _
   generalize w5.alloc (.cells #[.bool (decide (d<0)),.slice A5 (digs 2 d.natAbs).length c5] 59)=w9 at *
   obtain ⟨q0,q1,_,_⟩:=two_cells (C:=w9.heap.size) (Below.refl _ _) hv8 (Array.getElem?_eq_some_iff.1 hv8).1
   go_wp2_with fail
   (refine (rsign_any d _ _ _).mono ?_)
   rintro ex w10 ⟨rfl,hb10⟩
   have KF:=Lib.hid (KB9.out.trans (hb10.mono KB9.out.size))
   clear hb10
   go_wp2
   go_ret
   exact ⟨ret_eq (by first | rfl | (rw [HK.out];rfl)),KF.out⟩
  ·go_simp
   have K5:Below w2.heap.size w2 (w4.alloc (.cells #[.bool false,.slice none 0 0] 59)):=K4.alloc hz4 (.cells #[.bool false,.slice none 0 0] 59)
   have hv4:(w4.alloc (.cells #[.bool false,.slice none 0 0] 59)).heap[w4.heap.size]?=some (.cells #[.bool false,.slice none 0 0] 59 (0,0)):=heap_alloc_new w4 _
   have hlt:w4.heap.size<(w4.alloc (.cells #[.bool false,.slice none 0 0] 59)).heap.size:=by simp
   refine hK.out _ _ (fun _=>HSS.out _ K5) ?_
   generalize w4.alloc (.cells #[.bool false,.slice none 0 0] 59)=w6 at *
   refine uW 3 fun K hK=>?_
   go_simp
   (refine (HSu.out _ (HB.out.trans ((K5).mono HB.out.size))).mono ?_)
   rintro ex w7 ⟨v5,rfl,⟨A5,c5,rfl,ho5⟩,hbw7⟩
   have K7:Below w2.heap.size w2 w7:=K5.trans (hbw7.mono K5.size)
   refine hK.out _ _ (fun _=>HSS.out _ K7) ?_
   have hv9:=(hbw7.block _ hlt).trans hv4
   obtain ⟨t0,t1,t2,t3⟩:=two_cells (C:=(w7).heap.size) (Below.refl _ _) hv9 (Nat.lt_of_lt_of_le hlt hbw7.size)
   have hv8:=two_set (u:=.bool (decide (d<0))) (v:=.slice A5 (digs 2 d.natAbs).length c5) hv9
   have KB9:=Lib.hid (HB.out.trans ((((K7).setCell (p:=⟨w4.heap.size,0,none⟩) hz4 (.bool (decide (d<0)))).setCell (p:=⟨w4.heap.size,1,none⟩) hz4 (.slice A5 (digs 2 d.natAbs).length c5)).mono HB.out.size))
   refine uW 5 fun K hK=>?_
   go_simp
   refine hK.out _ _ (fun h=>absurd h (by simp)) ?_
   refine wpAnyW_done (by kernel_rfl) ?_ _
   clear t0 t1 t2 t3 hv9
   generalize (((w7).setCell ⟨w4.heap.size,0,none⟩ (.bool (decide (d<0)))).setCell ⟨w4.heap.size,1,none⟩ (.slice A5 (digs 2 d.natAbs).length c5))=w9 at *
   obtain ⟨q0,q1,_,_⟩:=two_cells (C:=w9.heap.size) (Below.refl _ _) hv8 (Array.getElem?_eq_some_iff.1 hv8).1
   go_wp2_with fail
   (refine (rsign_any d _ _ _).mono ?_)
   rintro ex w10 ⟨rfl,hb10⟩
   have KF:=Lib.hid (KB9.out.trans (hb10.mono KB9.out.size))
   clear hb10
   go_wp2
   go_ret
   exact ⟨ret_eq (by first | rfl | (rw [HK.out];rfl)),KF.out⟩
 ·go_simp
  have K5:Below w2.heap.size w2 (w3.alloc (.cells #[.bool false,.slice none 0 0] 59)):=HB3.out.alloc (by first | omega | (simp;done) | (simp;omega)) (.cells #[.bool false,.slice none 0 0] 59)
  have hv4:(w3.alloc (.cells #[.bool false,.slice none 0 0] 59)).heap[w3.heap.size]?=some (.cells #[.bool false,.slice none 0 0] 59 (0,0)):=heap_alloc_new w3 _
  have hlt:w3.heap.size<(w3.alloc (.cells #[.bool false,.slice none 0 0] 59)).heap.size:=by simp
  have hz4:w2.heap.size≤w3.heap.size:=by omega
  refine hK.out _ _ (fun _=>HSS.out _ K5) ?_
  generalize w3.alloc (.cells #[.bool false,.slice none 0 0] 59)=w6 at *
  refine uW 2 fun K hK=>?_
  go_simp
  (refine (HM.out _ (HB.out.trans ((K5).mono HB.out.size))).mono ?_)
  rintro ex w4 ⟨rfl,hbw4⟩
  have K4:Below w2.heap.size w2 w4:=K5.trans (hbw4.mono K5.size)
  refine hK.out _ _ (fun _=>HSS.out _ K4) ?_
  refine uW 3 fun K hK=>?_
  go_simp
  (refine (HSu.out _ (HB.out.trans ((K4).mono HB.out.size))).mono ?_)
  rintro ex w7 ⟨v5,rfl,⟨A5,c5,rfl,ho5⟩,hbw7⟩
  have K7:Below w2.heap.size w2 w7:=K4.trans (hbw7.mono K4.size)
  refine hK.out _ _ (fun _=>HSS.out _ K7) ?_
  have hv9:=(hbw7.block _ (Nat.lt_of_lt_of_le hlt hbw4.size)).trans ((hbw4.block _ hlt).trans hv4)
  obtain ⟨t0,t1,t2,t3⟩:=two_cells (C:=(w7).heap.size) (Below.refl _ _) hv9 (Nat.lt_of_lt_of_le hlt (Nat.le_trans hbw4.size hbw7.size))
  have hv8:=two_set (u:=.bool (decide (d<0))) (v:=.slice A5 (digs 2 d.natAbs).length c5) hv9
  have KB9:=Lib.hid (HB.out.trans ((((K7).setCell (p:=⟨w3.heap.size,0,none⟩) hz4 (.bool (decide (d<0)))).setCell (p:=⟨w3.heap.size,1,none⟩) hz4 (.slice A5 (digs 2 d.natAbs).length c5)).mono HB.out.size))
  refine uW 5 fun K hK=>?_
  go_simp
  refine hK.out _ _ (fun h=>absurd h (by simp)) ?_
  refine wpAnyW_done (by kernel_rfl) ?_ _
  clear t0 t1 t2 t3 hv9
  generalize (((w7).setCell ⟨w3.heap.size,0,none⟩ (.bool (decide (d<0)))).setCell ⟨w3.heap.size,1,none⟩ (.slice A5 (digs 2 d.natAbs).length c5))=w9 at *
  obtain ⟨q0,q1,_,_⟩:=two_cells (C:=w9.heap.size) (Below.refl _ _) hv8 (Array.getElem?_eq_some_iff.1 hv8).1
  go_wp2_with fail
  (refine (rsign_any d _ _ _).mono ?_)
  rintro ex w10 ⟨rfl,hb10⟩
  have KF:=Lib.hid (KB9.out.trans (hb10.mono KB9.out.size))
  clear hb10
  go_wp2
  go_ret
  exact ⟨ret_eq (by first | rfl | (rw [HK.out];rfl)),KF.out⟩
end
end Go.Proofs.YtjpnmmjgdiiahaaGreatDoor
