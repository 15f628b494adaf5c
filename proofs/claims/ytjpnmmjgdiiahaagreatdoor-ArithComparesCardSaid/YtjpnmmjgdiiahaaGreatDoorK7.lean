import Derived.Shelf.Small.Bits
import Derived.Test.YtjpnmmjgdiiahaaGreatDoorRows
import Derived.WalkKit
import Derived.Deep.QuietTactic
import Derived.BigQuiet
import Derived.Deep.RegionHeld3
import Derived.Deep.DrawnRows
import Derived.Deep.DeepCutAuto
import Derived.Deep.CutBlock
import Derived.Laws.BytesArg
import Derived.Laws.AppendOwnNone
import Derived.ProofKit
import Derived.OpenShut
import Derived.JoinedCond
import Derived.JoinedOf
import Derived.JoinedAt
import Derived.ChangeSame
import Derived.ChangeSlices
import Derived.RowKit3
import Derived.Carry
import Derived.Lib.SmallJoins
import Derived.Deep.LoopGhost
import Derived.Maps.AppendAt
import Derived.IntWalk
import Derived.StillTailTactics
import Derived.Laws.Cover2
import Derived.Laws.FloatArith
import Derived.Test.YtjpnmmjgdiiahaaGreatDoorK1
import Derived.Test.YtjpnmmjgdiiahaaGreatDoorK2
import Derived.Test.YtjpnmmjgdiiahaaGreatDoorK3
import Derived.Test.YtjpnmmjgdiiahaaGreatDoorK4
import Derived.Test.YtjpnmmjgdiiahaaGreatDoorK5
import Derived.Test.YtjpnmmjgdiiahaaGreatDoorK6
set_option linter.unusedVariables false
set_option linter.unusedSimpArgs false
namespace Go.Proofs.YtjpnmmjgdiiahaaGreatDoor
section
open Go.Shelf
end
section
open Go.RowKit Hb
end
section
open Go.RowKit Hb
attribute [local go_sem ↓] Go.wp_at_zero Go.wp_at_succ
end
section
open Go.RowKit Hb
end
section
open Go.RowKit Hb
attribute [local go_sem ↓] Go.wp_at_zero Go.wp_at_succ
end
section
open Go.RowKit Hb
end
section
open Go.RowKit Hb
attribute [local go_sem ↓] Go.wp_at_zero Go.wp_at_succ
end
section
open Go.RowKit Hb
section
end
theorem infoB7:(Tryz.prog.info? 5).map (fun i=>(i.zero,i.size,i.bytes))=some (some (.int .u8 0),1,1):=by kernel_rfl
theorem u8s_length (l:List Nat):(u8s l).length=l.length:=by simp [u8s]
end
section
open Go.ChangeShapes Go.WideShapes Go.ChangeAt Go.RowKit Go.Joins Hb
section
end
end
section
open Go.RowKit Hb
section
end
section
end
section
end
section
end
section
end
end
end Go.Proofs.YtjpnmmjgdiiahaaGreatDoor
namespace Hb
end Hb
namespace Go.Proofs.YtjpnmmjgdiiahaaGreatDoor
section
open Go.RowKit Hb
theorem own_zerosI (w:World) {B:Nat} (n:Nat) (hB:B≤w.heap.size) (hm:n≤maxLen):OwnI (w.alloc (.cells (madeCells #[.int .i64 0] n) 3)) B (some ⟨w.heap.size,0,none⟩) n n (i64s (List.replicate n 0)):=by
 have:=Own.made w (.int .i64 0) n 3 hB hm
 rwa [i64s_zeros] at this
theorem getD_zeros (n j:Nat):(List.replicate n 0).getD j 0=0:=by
 rw [List.getD_eq_getElem?_getD,List.getElem?_replicate];split <;> rfl
end
end Go.Proofs.YtjpnmmjgdiiahaaGreatDoor
namespace Hb
end Hb
namespace Go.Proofs.YtjpnmmjgdiiahaaGreatDoor
section
open Go.RowKit Hb
section
end
end
section
open Go.ChangeShapes Go.WideShapes Go.ChangeAt Go.RowKit Go.Joins Hb
end
section
open Go.RowKit Hb
section
end
section
end
set_option maxHeartbeats 400000 in
theorem rdigit_any (c:Nat) (w:World) (hc:c<256):Calls Tryz.prog 161 #[.int .u8 (c:Int)] w fun e w'=>e = .returned (.int .i64 (dval c:Nat))∧w=w':=by
 have key:(c<48)∨(48≤c∧c≤57)∨(58≤c∧c<65)∨(65≤c∧c≤90)∨(91≤c∧c<97)∨(97≤c∧c≤122)∨(123≤c):=by omega
 rcases key with h | h | h | h | h | h | h
 ·have HD:=Lib.hid (show dval c=99 by simp only [dval];repeat (first | rw [if_pos (by omega)] | rw [if_neg (by omega)]))
  have:decide ((48:Int)≤(c:Int))=false:=decide_eq_false (by omega)
  have:decide ((c:Int)≤57)=true:=decide_eq_true (by omega)
  have:decide ((97:Int)≤(c:Int))=false:=decide_eq_false (by omega)
  have:decide ((c:Int)≤122)=true:=decide_eq_true (by omega)
  have:decide ((65:Int)≤(c:Int))=false:=decide_eq_false (by omega)
  have:decide ((c:Int)≤90)=true:=decide_eq_true (by omega)
  rw [HD.out]
  go_enter Tryz.func161,Tryz.ntmps161
  go_wp2
  go_ret
  exact ⟨ret_int (by omega),rfl⟩
 ·have HD:=Lib.hid (show dval c=c - 48 by simp only [dval];repeat (first | rw [if_pos (by omega)] | rw [if_neg (by omega)]))
  have:decide ((48:Int)≤(c:Int))=true:=decide_eq_true (by omega)
  have:decide ((c:Int)≤57)=true:=decide_eq_true (by omega)
  have:decide ((97:Int)≤(c:Int))=false:=decide_eq_false (by omega)
  have:decide ((c:Int)≤122)=true:=decide_eq_true (by omega)
  have:decide ((65:Int)≤(c:Int))=false:=decide_eq_false (by omega)
  have:decide ((c:Int)≤90)=true:=decide_eq_true (by omega)
  rw [HD.out]
  go_enter Tryz.func161,Tryz.ntmps161
  go_wp2
  go_ret
  exact ⟨ret_int (by omega),rfl⟩
 ·have HD:=Lib.hid (show dval c=99 by simp only [dval];repeat (first | rw [if_pos (by omega)] | rw [if_neg (by omega)]))
  have:decide ((48:Int)≤(c:Int))=true:=decide_eq_true (by omega)
  have:decide ((c:Int)≤57)=false:=decide_eq_false (by omega)
  have:decide ((97:Int)≤(c:Int))=false:=decide_eq_false (by omega)
  have:decide ((c:Int)≤122)=true:=decide_eq_true (by omega)
  have:decide ((65:Int)≤(c:Int))=false:=decide_eq_false (by omega)
  have:decide ((c:Int)≤90)=true:=decide_eq_true (by omega)
  rw [HD.out]
  go_enter Tryz.func161,Tryz.ntmps161
  go_wp2
  go_ret
  exact ⟨ret_int (by omega),rfl⟩
 ·have HD:=Lib.hid (show dval c=c - 55 by simp only [dval];repeat (first | rw [if_pos (by omega)] | rw [if_neg (by omega)]))
  have:decide ((48:Int)≤(c:Int))=true:=decide_eq_true (by omega)
  have:decide ((c:Int)≤57)=false:=decide_eq_false (by omega)
  have:decide ((97:Int)≤(c:Int))=false:=decide_eq_false (by omega)
  have:decide ((c:Int)≤122)=true:=decide_eq_true (by omega)
  have:decide ((65:Int)≤(c:Int))=true:=decide_eq_true (by omega)
  have:decide ((c:Int)≤90)=true:=decide_eq_true (by omega)
  rw [HD.out]
  go_enter Tryz.func161,Tryz.ntmps161
  go_wp2
  go_ret
  exact ⟨ret_int (by omega),rfl⟩
 ·have HD:=Lib.hid (show dval c=99 by simp only [dval];repeat (first | rw [if_pos (by omega)] | rw [if_neg (by omega)]))
  have:decide ((48:Int)≤(c:Int))=true:=decide_eq_true (by omega)
  have:decide ((c:Int)≤57)=false:=decide_eq_false (by omega)
  have:decide ((97:Int)≤(c:Int))=false:=decide_eq_false (by omega)
  have:decide ((c:Int)≤122)=true:=decide_eq_true (by omega)
  have:decide ((65:Int)≤(c:Int))=true:=decide_eq_true (by omega)
  have:decide ((c:Int)≤90)=false:=decide_eq_false (by omega)
  rw [HD.out]
  go_enter Tryz.func161,Tryz.ntmps161
  go_wp2
  go_ret
  exact ⟨ret_int (by omega),rfl⟩
 ·have HD:=Lib.hid (show dval c=c - 87 by simp only [dval];repeat (first | rw [if_pos (by omega)] | rw [if_neg (by omega)]))
  have:decide ((48:Int)≤(c:Int))=true:=decide_eq_true (by omega)
  have:decide ((c:Int)≤57)=false:=decide_eq_false (by omega)
  have:decide ((97:Int)≤(c:Int))=true:=decide_eq_true (by omega)
  have:decide ((c:Int)≤122)=true:=decide_eq_true (by omega)
  have:decide ((65:Int)≤(c:Int))=true:=decide_eq_true (by omega)
  have:decide ((c:Int)≤90)=false:=decide_eq_false (by omega)
  rw [HD.out]
  go_enter Tryz.func161,Tryz.ntmps161
  go_wp2
  go_ret
  exact ⟨ret_int (by omega),rfl⟩
 ·have HD:=Lib.hid (show dval c=99 by simp only [dval];repeat (first | rw [if_pos (by omega)] | rw [if_neg (by omega)]))
  have:decide ((48:Int)≤(c:Int))=true:=decide_eq_true (by omega)
  have:decide ((c:Int)≤57)=false:=decide_eq_false (by omega)
  have:decide ((97:Int)≤(c:Int))=true:=decide_eq_true (by omega)
  have:decide ((c:Int)≤122)=false:=decide_eq_false (by omega)
  have:decide ((65:Int)≤(c:Int))=true:=decide_eq_true (by omega)
  have:decide ((c:Int)≤90)=false:=decide_eq_false (by omega)
  rw [HD.out]
  go_enter Tryz.func161,Tryz.ntmps161
  go_wp2
  go_ret
  exact ⟨ret_int (by omega),rfl⟩
abbrev SlB:=Sl u8s 256
theorem SlB.at_ {w:World} {B n c:Nat} {A:Option Addr} {l:List Nat} (h:SlB w B A n c l) (hn:0<n):∃ b o,A=some ⟨b,o,none⟩∧b<B∧∀ i,i<n→w.cell? ⟨b,o+i,none⟩=some (.int .u8 (l.getD i 0:Nat)):=by
 obtain ⟨b,o,hA,hb,hc⟩:=h.rd (by intro e;have:=congrArg List.length e;rw [u8s_length,h.len] at this;simp at this;omega)
 exact ⟨b,o,hA,hb,fun i hi=>hc i _ (u8s_get (by rw [h.len];exact hi))⟩
theorem u8s_one (l:List Nat):∀ u∈u8s l,u.oneCell'=true:=by
 intro u hu;obtain ⟨x,_,rfl⟩:=List.mem_map.1 hu;rfl
theorem u8s_append (l m:List Nat):u8s l ++ u8s m=u8s (l ++ m):=by simp [u8s]
theorem wp_append_farB {o:Oper} {a:Act} {K:Act→World→Prop} {Q:Exit→Act→World→Prop} {w:World} (s x:Operand)
  (ho:o.op = .call { callee:=.builtin .append,args:=#[s,x],argTypes:=#[86,86] })
  {base B:Nat} {A A0:Option Addr} {n0 c0 m c:Nat} {l0 l:List Nat} (hs:a.eval s = .slice A0 n0 c0) (hown:OwnB w base A0 n0 c0 (u8s l0)) (hx:a.eval x = .slice A m c) (hA:A=none→c=0) (hrd:SlB w B A m c l)
  (hm:n0+m≤67108864) (hbase:base≤w.heap.size)
  (h:∀ A' c' w',OwnB w' base A' (n0+m) c' (u8s (l0 ++ l))→Below base w w'→(∀ g,g<w.heap.size→A0≠some ⟨g,0,none⟩→w'.heap[g]?=w.heap[g]?)→(∀ g,A'=some ⟨g,0,none⟩→A0=some ⟨g,0,none⟩∨w.heap.size≤g)→K (a.put o.dst (.slice A' (n0+m) c')) w'):o.wp Tryz.prog a w K Q:=by
 obtain ⟨i0,hi,hz0,hz1,hz2⟩:=info_parts infoB7
 cases A with
 | none=>
  have hm0:m=0:=by
   rcases Nat.eq_zero_or_pos m with h0 | h0
   ·exact h0
   ·obtain ⟨b,o,h1,_⟩:=SlB.at_ hrd h0;cases h1
  have hc0:=hA rfl
  subst hm0;subst hc0
  have hl:l = []:=List.length_eq_zero_iff.1 hrd.len
  subst hl
  have hrun:=run_append_owned_none (P:=Tryz.prog) (w:=w) base 86 o.type 5 i0 1 Tryz.underlying86 hi _ n0 (u8s l0) hown
  unfold Oper.wp
  simp [execOp,ho,resolve,invoke,builtin,hs,hx,hrun,Result.andThen]
  exact h A0 c0 w (by rw [List.append_nil];exact hown) (Below.refl _ _) (fun _ _ _=>rfl) (fun _ e=>.inl e)
 | some ad=>
  have hnews:∀ j u,(u8s l)[j]?=some u→w.cell? (ad.add j)=some u:=by
   intro j u hj
   have hj2:j<m:=by
    rw [←hrd.len,←u8s_length l]
    exact (List.getElem?_eq_some_iff.1 hj).1
   obtain ⟨b,o',h1,_,hc⟩:=SlB.at_ hrd (by omega)
   obtain rfl:=Option.some.inj h1
   rw [addr_add,hc j hj2,←u8s_get (by rw [hrd.len];exact hj2),hj]
  obtain ⟨v',w',hr,hown',hg,_,hat⟩:=run_append_own_at (P:=Tryz.prog) w base 86 o.type 5 i0 (.int .u8 0) 1 1 Tryz.underlying86 hi hz0 hz1 hz2 rfl (by decide) _ n0 (u8s l0) hown ad m c (u8s l) (by rw [u8s_length,hrd.len];simp) hnews (u8s_one l) (by simp [maxLen];omega) (by omega) hbase
  have hf:∃ A' c',v' = .slice A' (n0+m) c':=by
   rcases hown'.2 with ⟨h1,h2⟩ | ⟨g',cap,cur,h1,_⟩
   ·exact ⟨none,0,by rw [h1,h2]⟩
   ·exact ⟨_,_,h1⟩
  obtain ⟨A',c',rfl⟩:=hf
  unfold Oper.wp execOp
  simp only [ho,resolve,invoke,builtin,Sem.run_bind,Sem.run_pure,Result.andThen_ok,List.map_toArray,List.map_cons,List.map_nil,hs,hx,hr]
  refine h A' c' w' (by have h3:=hown';rw [u8s_append] at h3;exact h3) ⟨hg.os,hg.tape,hg.output,hg.size,fun j hj=>hg.block j (by omega) ?_⟩ (fun j hj hne=>hg.block j hj ?_) (fun g e=>?_)
  ·rcases Own.form hown with ⟨rfl,_⟩ | ⟨g',rfl,h4,_⟩
   ·simp [Value.ownBlock]
   ·simp [Value.ownBlock];omega
  ·rcases Own.form hown with ⟨rfl,_⟩ | ⟨g',rfl,h4,_⟩
   ·simp [Value.ownBlock]
   ·simp [Value.ownBlock]
    rintro rfl
    exact hne rfl
  ·subst e
   rcases Own.form hown with ⟨rfl,_⟩ | ⟨g',rfl,h4,_⟩
   ·simp [Value.ownBlock] at hat
    exact .inr (by omega)
   ·simp [Value.ownBlock] at hat
    rcases hat with rfl | h5
    ·exact .inl rfl
    ·exact .inr (by omega)
structure TxInv (l:List Nat) (n R s:Nat) (Q:List Nat) (rem:Nat):Prop where
 lq:Q.length=n
 dq:Dig 2 Q
 hq:∀ j,j<s→Q.getD j 0=0
 hr:rem<R
 hv:nv 2 (Q.drop s) * R+rem=nv 2 (l.drop s)
theorem TxInv.start {l:List Nat} {n R:Nat} (hl:l.length=n) (hR:0<R):TxInv l n R n (List.replicate n 0) 0:=
 ⟨by simp,Dig.replicate _ _ (by decide),fun j _=>getD_zeros _ _,hR,by rw [List.drop_eq_nil_of_le (by simp),List.drop_eq_nil_of_le (by omega)];simp [nv]⟩
theorem TxInv.low {l Q:List Nat} {n R i rem t:Nat} (h:TxInv l n R (i+1) Q rem) (hl:l.length=n) (hi:i<n) (ht:2 * rem+l.getD i 0=t) (hlt:t<R):TxInv l n R i Q t:=by
 refine ⟨h.lq,h.dq,fun j hj=>h.hq j (by omega),hlt,?_⟩
 have h1:=drop_nv 2 l (k:=i) (by omega)
 have h2:=drop_nv 2 Q (k:=i) (by rw [h.lq];exact hi)
 have h3:=h.hv
 rw [h1,h2,h.hq i (by omega),←h3,Nat.zero_add,Nat.mul_add,←ht,Nat.mul_assoc]
 omega
theorem TxInv.high {l Q:List Nat} {n R i rem t:Nat} (h:TxInv l n R (i+1) Q rem) (hl:l.length=n) (hd:Dig 2 l) (hi:i<n) (ht:2 * rem+l.getD i 0=t) (hge:R≤t):TxInv l n R i (Q.set i 1) (t - R):=by
 have hb:=hd.getD (b:=2) (by decide) i
 have h0:=h.hr
 refine ⟨by simpa using h.lq,h.dq.set (by decide) _,fun j hj=>by rw [lget_set_ne (by omega)];exact h.hq j (by omega),by omega,?_⟩
 have h1:=drop_nv 2 l (k:=i) (by omega)
 have h2:=drop_nv 2 (Q.set i 1) (k:=i) (by simp [h.lq];exact hi)
 have h3:=h.hv
 have h4:(Q.set i 1).getD i 0=1:=by rw [List.getD_eq_getElem?_getD,List.getElem?_set_self (by rw [h.lq];exact hi)];rfl
 have h5:(Q.set i 1).drop (i+1)=Q.drop (i+1):=by rw [List.drop_set,if_pos (by omega)]
 rw [h1,h2,h4,h5,←h3,Nat.add_mul,Nat.one_mul,Nat.mul_assoc]
 generalize nv 2 (Q.drop (i+1)) * R=p at *
 omega
theorem TxInv.done {l Q:List Nat} {n R rem:Nat} (h:TxInv l n R 0 Q rem):nv 2 Q=nv 2 l / R∧rem=nv 2 l % R:=by
 have h1:=h.hv
 rw [List.drop_zero,List.drop_zero] at h1
 have h2:=h.hr
 constructor
 ·rw [←h1,Nat.mul_comm,Nat.mul_add_div (by omega),Nat.div_eq_of_lt h2,Nat.add_zero]
 ·rw [←h1,Nat.mul_comm,Nat.mul_add_mod,Nat.mod_eq_of_lt h2]
theorem len_zero'' {y:Int} : (digs 2 y.natAbs).length=0↔y=0:=by
 constructor
 ·intro h
  have h9:=nv_digs (b:=2) (by decide) y.natAbs
  rw [List.length_eq_zero_iff.1 h] at h9
  have:(0:Nat)=y.natAbs:=h9
  omega
 ·rintro rfl;rw [show (0:Int).natAbs=0 from rfl,digs_zero];rfl
def XtRel (W0:World) (R N0:Nat) (ov bv:Value) (wr:World) (N:Nat):Prop:=
 ∃ A' c' Ab cb ds,ov = .slice A' ds.length c'∧bv = .slice Ab (digs 2 N).length cb∧digs R N0=ds ++ digs R N∧OwnB wr W0.heap.size A' ds.length c' (u8s (ds.map chrN))∧SlI wr wr.heap.size Ab (digs 2 N).length cb (digs 2 N)∧Below W0.heap.size W0 wr
theorem XtRel.len {R N0 N:Nat} {ds:List Nat} (h:digs R N0=ds ++ digs R N) (hb:(digs R N0).length≤4096):ds.length≤4096:=by
 rw [h,List.length_append] at hb;omega
theorem digs_len_k {R N k:Nat} (hR:2≤R) (hn:(digs 2 N).length≤k):(digs R N).length≤k:=
 digs_length_le (b:=R) (by omega) (Nat.lt_of_lt_of_le (lt_of_digs_length (b:=2) (by decide) hn) (Nat.pow_le_pow_left hR k))
theorem digs_len_x {R N:Nat} (hR:2≤R) (hn:(digs 2 N).length≤4096):(digs R N).length≤4096:=digs_len_k hR hn
theorem own_u8 (w:World) (a:Nat):OwnB (w.alloc (.cells #[.int .u8 (a:Int)] 5)) w.heap.size (some ⟨w.heap.size,0,none⟩) 1 1 (u8s [a]):=
 Own.of_block (xs:=u8s [a]) (by exact heap_alloc_new w _) (Nat.le_refl _) (by simp [u8s,maxLen])
theorem chrN_lt {d:Nat} (h:d<36):chrN d<256:=by unfold chrN;split <;> omega
set_option maxRecDepth 100000 in
set_option maxHeartbeats 4000000 in
theorem rText_any {x:Int} {B:Nat} {A:Option Addr} {c:Nat} {w:World} (hs:SlI w B A (digs 2 x.natAbs).length c (digs 2 x.natAbs)) (hB:B≤w.heap.size) (hn:(digs 2 x.natAbs).length≤4096) (R:Nat) (hR1:2≤R) (hR2:R≤36) :
  Calls Tryz.prog 56 #[.agg #[.bool (decide (x<0)),.slice A (digs 2 x.natAbs).length c],.int .i64 (R:Int)] w fun e w'=>e = .returned (.string (strN (txtZ x R)))∧Below w.heap.size w w':=by
 have hlz:=len_zero'' (y:=x)
 have HL:=Lib.hid (digs_len_x hR1 hn)
 have HB:=Lib.hid ((Below.refl w.heap.size w).alloc (Nat.le_refl _) (.cells #[.bool (decide (x<0)),.slice A (digs 2 x.natAbs).length c] 59))
 have HX:=Lib.hid (show (w.alloc (.cells #[.bool (decide (x<0)),.slice A (digs 2 x.natAbs).length c] 59)).heap[w.heap.size]?=some (.cells #[.bool (decide (x<0)),.slice A (digs 2 x.natAbs).length c] 59 (0,0)) from heap_alloc_new w _)
 have HS:=Lib.hid ((hs.below (C:=w.heap.size) HB.out hB).mono (Nat.le_trans hB HB.out.size))
 have hsz:w.heap.size<(w.alloc (.cells #[.bool (decide (x<0)),.slice A (digs 2 x.natAbs).length c] 59)).heap.size:=by simp
 have hRI1:(2:Int)≤(R:Int):=by omega
 have hRI2:(R:Int)≤36:=by omega
 by_cases hx:x=0
 ·have hl0:=hlz.2 hx
  have HT:=Lib.hid (show txtZ x R = [48] by rw [hx];rfl)
  clear hlz hx hs
  generalize (digs 2 x.natAbs).length=n0 at *
  subst hl0
  generalize decide (x<0)=s at *
  go_enter Tryz.func56,Tryz.ntmps56
  go_wp2
  go_ret
  exact ⟨ret_eq (by rw [HT.out];rfl),HB.out⟩
 ·have hl0:¬(digs 2 x.natAbs).length=0:=fun h=>hx (hlz.1 h)
  have hlb:(((digs 2 x.natAbs).length:Int)==0)=false:=beq_eq_false_iff_ne.2 (by omega)
  have HR0:=Lib.hid (show XtRel (w.alloc (.cells #[.bool (decide (x<0)),.slice A (digs 2 x.natAbs).length c] 59)) R x.natAbs (.slice none 0 0) (.slice A (digs 2 x.natAbs).length c) (w.alloc (.cells #[.bool (decide (x<0)),.slice A (digs 2 x.natAbs).length c] 59)) x.natAbs from
   ⟨none,0,A,c,[],rfl,rfl,by simp,⟨rfl,.inl ⟨rfl,rfl⟩⟩,HS.out,Below.refl _ _⟩)
  have HNx:=Lib.hid hx
  clear hlz hs hx
  go_enter Tryz.func56,Tryz.ntmps56
  go_upto_region 1 with fail
  obtain ⟨a0,a1,_,_⟩:=two_cells (C:=(w.alloc (.cells #[.bool (decide (x<0)),.slice A (digs 2 x.natAbs).length c] 59)).heap.size) (Below.refl _ _) HX.out hsz
  generalize (w.alloc (.cells #[.bool (decide (x<0)),.slice A (digs 2 x.natAbs).length c] 59))=W0 at *
  go_wp2_with fail
  go_loopw [5,6] (fun ov bv wr=>∃ N:Nat,(digs 2 N).length≤4096∧XtRel W0 R x.natAbs ov bv wr N) (fun _ bv _=>match bv with | .slice _ n _=>n | _=>0)
  case atStart=>exact ⟨x.natAbs,hn,HR0.out⟩
  case round=>
   obtain ⟨N,hN,A',c',Ab,cb,ds,rfl,rfl,hdg,hob,hsl,hbw⟩:=hrel
   have HOB:=Lib.hid hob
   have HSL:=Lib.hid hsl
   have HBW:=Lib.hid hbw
   have HDG:=Lib.hid hdg
   have hdl:=XtRel.len hdg HL.out
   have hbz:=hbw.size
   clear hob hsl hbw hdg HR0
   by_cases hN0:N=0
   ·subst hN0
    have hl9:(digs 2 0).length=0:=by rw [digs_zero];rfl
    rw [hl9]
    have HDS:=Lib.hid (show digs R x.natAbs=ds by have:=HDG.out;rwa [digs_zero,List.append_nil] at this)
    have HNa:=Lib.hid (show ¬x.natAbs=0 by have:=HNx.out;omega)
    have hd1:0<ds.length:=by
     rw [←HDS.out]
     rcases Nat.eq_zero_or_pos (digs R x.natAbs).length with h | h
     ·exact absurd ((digs_eq_nil (b:=R) (by omega) _).1 (List.length_eq_zero_iff.1 h)) HNa.out
     ·exact h
    obtain ⟨a0,a1,_,_⟩:=two_cells HBW.out HX.out hsz
    have HBX:=Lib.hid (HB.out.trans (HBW.out.mono HB.out.size))
    have hdI:(ds.length:Int)≤4096:=by omega
    clear hl9
    by_cases hneg:x<0
    ·have hdt:=decide_eq_true hneg
     rw [hdt] at a0
     have HDT:=Lib.hid hdt
     go_wp2_with (at_builtin;refine wpList_append_u8 (by rfl) _ _ (by rfl) W0.heap.size A' ds.length c' (ds.map chrN) (by rfl) (Own.alloc HOB.out _) wr.heap.size 45 (by rfl) ?hc (by omega) (by simp;omega) ?_;rotate_left;intro A5 c5 w5 ho5 hb5)
     case hc=>exact cell_of_row _ _ 0 _ _ (0,0) (heap_alloc_new wr _)
     have HBX5:=Lib.hid (HBX.out.trans (((Below.refl w.heap.size wr).alloc (Nat.le_trans HB.out.size hbz) _).trans (hb5.mono HB.out.size)))
     have HOL:=Lib.hid ho5
     have HLL:=Lib.hid (show (ds.map chrN ++ [45]).length=ds.length+1 by simp)
     have HTX:=Lib.hid (show txtZ x R=(ds.map chrN ++ [45]).reverse by
      rw [txtZ,txtL,if_neg HNa.out,HDS.out,HDT.out];simp)
     obtain ⟨LL,hLL⟩:∃ LL,ds.map chrN ++ [45]=LL:=⟨_,rfl⟩
     obtain ⟨m,hm⟩:∃ m,ds.length+1=m:=⟨_,rfl⟩
     rw [hLL] at HOL HLL HTX
     try rw [hm] at HOL HLL ⊢
     have hm9:(m:Int)≤5000:=by omega
     have hm1:0<m:=by omega
     have hmI:(0:Int)<(m:Int):=by omega
     have HBr:=Lib.hid (show Below w.heap.size w w5 from HBX5.out)
     have HT0:=Lib.hid (show OwnB w5 w5.heap.size none (m - m) 0 (u8s (LL.drop m).reverse) by rw [Nat.sub_self,List.drop_eq_nil_of_le (by rw [HLL.out];exact Nat.le_refl _)];exact ⟨rfl,.inl ⟨rfl,rfl⟩⟩)
     have HMC:=Lib.hid (show (ds.length:Int)+1=(m:Int) by omega)
     clear hLL hm ho5 hb5
     obtain ⟨w7,hw7⟩:∃ w7:World,w7=w5:=⟨_,rfl⟩
     subst hw7
     go_wp2_with fail
     go_loopw [10,11] (fun tv iv wr=>∃ (s:Nat) (A9:Option Addr) (c9:Nat),s≤m∧iv = .int .i64 ((s:Int) - 1)∧tv = .slice A9 (m - s) c9∧OwnB wr w7.heap.size A9 (m - s) c9 (u8s (LL.drop s).reverse)∧Below w7.heap.size w7 wr) (fun _ iv _=>(intOf iv+1).toNat)
     case atStart=>exact ⟨m,none,0,Nat.le_refl _,by first | rfl | exact congrArg (Value.int .i64) (by have:=HMC.out;omega) | simp,by rw [Nat.sub_self],HT0.out,Below.refl _ _⟩
     case round=>
      obtain ⟨s,A9,c9,hs,rfl,rfl,ho9,hb9⟩:=hrel
      have HO9:=Lib.hid ho9
      have HB9:=Lib.hid hb9
      have hz9:=hb9.size
      clear ho9 hb9
      by_cases hs0:s=0
      ·subst hs0
       have ho:=HO9.out
       rw [Nat.sub_zero,List.drop_zero] at ho
       obtain ⟨g9,hg9,_,_⟩:=ho.at_ hm1
       subst hg9
       have hcv:=conv_own ho (by rw [List.length_reverse];exact HLL.out)
       have HBf:=Lib.hid (HBr.out.trans (HB9.out.mono HBr.out.size))
       rw [Nat.sub_zero]
       clear ho
       go_wp2
       go_ret
       exact ⟨ret_eq (by rw [HTX.out,←strNums_rev];first | rfl | (rw [List.map_reverse];rfl)),HBf.out⟩
      ·obtain ⟨i,rfl⟩:∃ i,s=i+1:=⟨s - 1,by omega⟩
       have his:((i+1:Nat):Int) - 1=(i:Int):=by omega
       rw [his]
       have hi0:(0:Int)≤(i:Int):=by omega
       have him:(i:Int)<(m:Int):=by omega
       have holl:=HOL.out.below HB9.out (Nat.le_refl _)
       obtain ⟨g8,hg8,_,_⟩:=holl.at_ hm1
       subst hg8
       have hcell:=holl.cell (j:=i) (by omega)
       rw [u8s_get (by rw [HLL.out];omega)] at hcell
       have HDr:=Lib.hid (show (LL.drop i).reverse=(LL.drop (i+1)).reverse ++ [LL.getD i 0] by
        rw [List.drop_eq_getElem_cons (by rw [HLL.out];omega),List.reverse_cons,getD_eq (by rw [HLL.out];omega)])
       generalize LL.getD i 0=y at *
       obtain ⟨k,hk⟩:∃ k,m - (i+1)=k:=⟨_,rfl⟩
       rw [hk] at HO9 ⊢
       have hk1:m - i=k+1:=by omega
       have hk9:k≤67108864:=by omega
       have HK:=Lib.hid hk1
       clear holl hk hk1
       go_wp2_with (at_builtin;refine wpList_append_u8 (by rfl) _ _ (by rfl) w7.heap.size A9 k c9 (LL.drop (i+1)).reverse (by rfl) (Own.alloc HO9.out _) wr.heap.size y (by rfl) (by simp [go_sem]) hk9 (by simp;omega) ?_;intro A4 c4 w4 ho4 hb4)
       have HR4:=Lib.hid (show OwnB w4 w7.heap.size A4 (m - i) c4 (u8s (LL.drop i).reverse) by rw [HDr.out,HK.out];exact ho4)
       have HB4:=Lib.hid ((HB9.out.alloc hz9 _).trans hb4)
       clear ho4 hb4
       go_wp2_with fail
       go_roundw
       case rel=>exact ⟨i,A4,c4,by omega,by go_num,by rw [HK.out],HR4.out,HB4.out⟩
       case measure=>first | (simp [intOf];done) | (simp [intOf];omega)
    ·have hdf:=decide_eq_false hneg
     rw [hdf] at a0
     have HDF:=Lib.hid hdf
     have HOL:=Lib.hid (HOB.out)
     have HLL:=Lib.hid (show (ds.map chrN).length=ds.length by simp)
     have HTX:=Lib.hid (show txtZ x R=(ds.map chrN).reverse by
      rw [txtZ,txtL,if_neg HNa.out,HDS.out,HDF.out];simp)
     obtain ⟨LL,hLL⟩:∃ LL,ds.map chrN=LL:=⟨_,rfl⟩
     obtain ⟨m,hm⟩:∃ m,ds.length=m:=⟨_,rfl⟩
     rw [hLL] at HOL HLL HTX
     try rw [hm] at HOL HLL ⊢
     have hm9:(m:Int)≤5000:=by omega
     have hm1:0<m:=by omega
     have hmI:(0:Int)<(m:Int):=by omega
     have HBr:=Lib.hid (show Below w.heap.size w wr from HBX.out)
     have HT0:=Lib.hid (show OwnB wr wr.heap.size none (m - m) 0 (u8s (LL.drop m).reverse) by rw [Nat.sub_self,List.drop_eq_nil_of_le (by rw [HLL.out];exact Nat.le_refl _)];exact ⟨rfl,.inl ⟨rfl,rfl⟩⟩)
     clear hLL hm
     obtain ⟨w7,hw7⟩:∃ w7:World,w7=wr:=⟨_,rfl⟩
     subst hw7
     go_wp2_with fail
     go_loopw [10,11] (fun tv iv wr=>∃ (s:Nat) (A9:Option Addr) (c9:Nat),s≤m∧iv = .int .i64 ((s:Int) - 1)∧tv = .slice A9 (m - s) c9∧OwnB wr w7.heap.size A9 (m - s) c9 (u8s (LL.drop s).reverse)∧Below w7.heap.size w7 wr) (fun _ iv _=>(intOf iv+1).toNat)
     case atStart=>exact ⟨m,none,0,Nat.le_refl _,by first | rfl | exact congrArg (Value.int .i64) (by omega) | simp,by rw [Nat.sub_self],HT0.out,Below.refl _ _⟩
     case round=>
      obtain ⟨s,A9,c9,hs,rfl,rfl,ho9,hb9⟩:=hrel
      have HO9:=Lib.hid ho9
      have HB9:=Lib.hid hb9
      have hz9:=hb9.size
      clear ho9 hb9
      by_cases hs0:s=0
      ·subst hs0
       have ho:=HO9.out
       rw [Nat.sub_zero,List.drop_zero] at ho
       obtain ⟨g9,hg9,_,_⟩:=ho.at_ hm1
       subst hg9
       have hcv:=conv_own ho (by rw [List.length_reverse];exact HLL.out)
       have HBf:=Lib.hid (HBr.out.trans (HB9.out.mono HBr.out.size))
       rw [Nat.sub_zero]
       clear ho
       go_wp2
       go_ret
       exact ⟨ret_eq (by rw [HTX.out,←strNums_rev];first | rfl | (rw [List.map_reverse];rfl)),HBf.out⟩
      ·obtain ⟨i,rfl⟩:∃ i,s=i+1:=⟨s - 1,by omega⟩
       have his:((i+1:Nat):Int) - 1=(i:Int):=by omega
       rw [his]
       have hi0:(0:Int)≤(i:Int):=by omega
       have him:(i:Int)<(m:Int):=by omega
       have holl:=HOL.out.below HB9.out (Nat.le_refl _)
       obtain ⟨g8,hg8,_,_⟩:=holl.at_ hm1
       subst hg8
       have hcell:=holl.cell (j:=i) (by omega)
       rw [u8s_get (by rw [HLL.out];omega)] at hcell
       have HDr:=Lib.hid (show (LL.drop i).reverse=(LL.drop (i+1)).reverse ++ [LL.getD i 0] by
        rw [List.drop_eq_getElem_cons (by rw [HLL.out];omega),List.reverse_cons,getD_eq (by rw [HLL.out];omega)])
       generalize LL.getD i 0=y at *
       obtain ⟨k,hk⟩:∃ k,m - (i+1)=k:=⟨_,rfl⟩
       rw [hk] at HO9 ⊢
       have hk1:m - i=k+1:=by omega
       have hk9:k≤67108864:=by omega
       have HK:=Lib.hid hk1
       clear holl hk hk1
       go_wp2_with (at_builtin;refine wpList_append_u8 (by rfl) _ _ (by rfl) w7.heap.size A9 k c9 (LL.drop (i+1)).reverse (by rfl) (Own.alloc HO9.out _) wr.heap.size y (by rfl) (by simp [go_sem]) hk9 (by simp;omega) ?_;intro A4 c4 w4 ho4 hb4)
       have HR4:=Lib.hid (show OwnB w4 w7.heap.size A4 (m - i) c4 (u8s (LL.drop i).reverse) by rw [HDr.out,HK.out];exact ho4)
       have HB4:=Lib.hid ((HB9.out.alloc hz9 _).trans hb4)
       clear ho4 hb4
       go_wp2_with fail
       go_roundw
       case rel=>exact ⟨i,A4,c4,by omega,by go_num,by rw [HK.out],HR4.out,HB4.out⟩
       case measure=>first | (simp [intOf];done) | (simp [intOf];omega)
   ·have hnp:0<(digs 2 N).length:=by
     rcases Nat.eq_zero_or_pos (digs 2 N).length with h | h
     ·exact absurd ((digs_eq_nil (b:=2) (by decide) N).1 (List.length_eq_zero_iff.1 h)) hN0
     ·exact h
    have HDR:=Lib.hid (show digs R N=N % R :: digs R (N / R) from digs_pos (by omega) hN0)
    have HMs:=Lib.hid (show (digs 2 (N / R)).length<(digs 2 N).length by
     rw [digs_pos (b:=2) (n:=N) (by decide) hN0,List.length_cons]
     exact Nat.lt_succ_of_le (blen_mono (Nat.div_le_div_left (show 2≤R by omega) (by decide))))
    have HD2:=Lib.hid (dig_digs (b:=2) (by decide) N)
    have HV2:=Lib.hid (nv_digs (b:=2) (by decide) N)
    obtain ⟨l,hl⟩:∃ l,digs 2 N=l:=⟨_,rfl⟩
    obtain ⟨n,hln⟩:∃ n,l.length=n:=⟨_,rfl⟩
    rw [hl] at HSL HMs HD2 HV2 hN hnp ⊢
    rw [hln] at HSL HMs hN hnp ⊢
    have HLN:=Lib.hid hln
    clear hl hln
    have hmk:=makeI n (by omega)
    have hnI:(n:Int)≤4096:=by omega
    have hnI0:(0:Int)<(n:Int):=by omega
    obtain ⟨wo,hwo⟩:∃ wo:World,wo=wr:=⟨_,rfl⟩
    subst hwo
    obtain ⟨G,hG⟩:∃ G,wo.heap.size=G:=⟨_,rfl⟩
    have HG:=Lib.hid hG
    have hGW:W0.heap.size≤G:=by omega
    have HOQ:=Lib.hid (show OwnI (wo.alloc (.cells (madeCells #[.int .i64 0] n) 3)) G (some ⟨G,0,none⟩) n n (i64s (List.replicate n 0)) by
     have:=own_zerosI wo (B:=wo.heap.size) n (Nat.le_refl _) (by simp [maxLen];omega);rwa [hG] at this)
    have KQ:=Lib.hid (show Below G wo (wo.alloc (.cells (madeCells #[.int .i64 0] n) 3)) from (Below.refl G wo).alloc (by omega) _)
    have HI0:=Lib.hid (TxInv.start (R:=R) HLN.out (by omega))
    have HSG:=Lib.hid (show SlI wo G Ab n cb l by have:=HSL.out;rwa [hG] at this)
    go_wp2_with fail
    try rw [hG]
    go_loopw [7,9] (fun rv iv wr=>∃ (s rem:Nat) (Q:List Nat),s≤n∧iv = .int .i64 ((s:Int) - 1)∧rv = .int .i64 (rem:Int)∧Hid (TxInv l n R s Q rem)∧OwnI wr G (some ⟨G,0,none⟩) n n (i64s Q)∧Below G wo wr) (fun _ iv _=>(intOf iv+1).toNat)
    case atStart=>exact ⟨n,0,_,Nat.le_refl _,by first | rfl | simp,rfl,HI0,HOQ.out,KQ.out⟩
    case round=>
     obtain ⟨s,rem,Q,hs,rfl,rfl,HI,hoq,hbq⟩:=hrel
     have HQ:=Lib.hid hoq
     have HBq:=Lib.hid hbq
     have hbqz:=hbq.size
     clear hoq hbq hG
     by_cases hs0:s=0
     ·subst hs0
      obtain ⟨e1,e2⟩:=HI.out.done
      rw [HV2.out] at e1 e2
      have et:tr Q=digs 2 (N / R):=by rw [tr_eq_digs (b:=2) (by decide) HI.out.dq,e1]
      have em:tlen Q=(digs 2 (N / R)).length:=by rw [←et,tr_length]
      have hcut:=rcut_any (HQ.out.sl HI.out.dq HI.out.lq)
      rw [em] at hcut
      have HCut:=Lib.hid hcut
      have htk:=HQ.out.take (k:=tlen Q) (by rw [←HI.out.lq];exact tlen_le Q)
      rw [i64s_take] at htk
      have HTK:=Lib.hid (show OwnI wr G (some ⟨G,0,none⟩) (digs 2 (N / R)).length n (i64s (digs 2 (N / R))) by rw [←em,←et];exact htk)
      have hrr:rem<36:=by have:=HI.out.hr;omega
      have hrrI:(rem:Int)<36:=by omega
      have HE2:=Lib.hid e2
      have HNE:=Lib.hid (show A'≠some ⟨G,0,none⟩ from fun e=>by have h1:=(own_block HOB.out e).2;have h2:=HG.out;omega)
      have HO4:=Lib.hid (HOB.out.below HBq.out (Nat.le_of_eq HG.out))
      have hwz:wo.heap.size≤wr.heap.size:=hbqz
      have hGr:G<wr.heap.size:=(own_block HQ.out rfl).2
      have hW9:W0.heap.size≤wr.heap.size:=Nat.le_trans hbz hwz
      have hdl9:ds.length+1≤67108864:=by omega
      clear e1 e2 et em hcut htk
      go_wp2_with (first
       | (go_at_call 137;(with_reducible refine HCut.out.mono ?_);rintro e w2 ⟨rfl,rfl⟩)
       | (at_builtin;((refine wpList_plain (by rfl) fun K hK=>?_);(refine wp_append_farB (base:=W0.heap.size) (B:=wr.heap.size+1) (l0:=ds.map chrN) (l:=[chrN rem]) (A:=some ⟨wr.heap.size,0,none⟩) (A0:=A') (n0:=ds.length) (c0:=c') (m:=1) (c:=1) _ _ (by rfl) (by rfl) (Own.alloc HO4.out _) (by rfl) (fun h=>by cases h) ?hrd hdl9 (Nat.le_trans hW9 (by simp)) ?_);rotate_left;intro A'' c'' w4 ho4 hb4 hfar4 _;(refine hK _ _ ?_))))
      case hrd=>
       rw [alpha_get hrr]
       exact Sl.mono (Own.sl (own_u8 wr (chrN rem)) (Dig.cons (chrN_lt hrr) (Dig.nil _)) rfl) (by simp)
      have hq4:=(hfar4 G (by simp;omega) HNE.out).trans (heap_alloc_old wr _ (by omega))
      have hsl4:=Own.sl (Own.same HTK.out hq4) (dig_digs (b:=2) (by decide) (N / R)) rfl
      have hb49:=HBW.out.trans ((HBq.out.mono hGW).trans (((Below.refl W0.heap.size wr).alloc hW9 _).trans hb4))
      have HRN:=Lib.hid (show XtRel W0 R x.natAbs (.slice A'' (ds.length+1) c'') (.slice (some ⟨G,0,none⟩) (digs 2 (N / R)).length n) w4 (N / R) from
       ⟨A'',c'',some ⟨G,0,none⟩,n,ds ++ [rem],by simp,rfl,by rw [HDG.out,HDR.out,HE2.out];simp,by rw [List.map_append,List.length_append];exact ho4,hsl4,hb49⟩)
      clear hq4 hsl4 hb49 ho4 hb4 hfar4
      go_roundw
      case rel=>exact ⟨N / R,by have:=HMs.out;omega,HRN.out⟩
      case measure=>exact HMs.out
     ·obtain ⟨i,rfl⟩:∃ i,s=i+1:=⟨s - 1,by omega⟩
      have his:((i+1:Nat):Int) - 1=(i:Int):=by omega
      rw [his]
      have hi0:(0:Int)≤(i:Int):=by omega
      have hin:(i:Int)<(n:Int):=by omega
      obtain ⟨b,off,rfl,_,hc⟩:=SlI.at_ (HSG.out.below HBq.out (Nat.le_refl _)) (by omega)
      have hy:=hc i (by omega)
      have hyb:=HD2.out.getD (b:=2) (by decide) i
      have hrem:=HI.out.hr
      obtain ⟨t,ht⟩:∃ t,2 * rem+l.getD i 0=t:=⟨_,rfl⟩
      have HLo:=Lib.hid (fun h=>HI.out.low HLN.out (by omega) ht h)
      have HHi:=Lib.hid (fun h=>HI.out.high HLN.out HD2.out (by omega) ht h)
      generalize l.getD i 0=y at *
      have hti:2 * (rem:Int)+(y:Int)=(t:Int):=by omega
      have ht9:(t:Int)≤100:=by omega
      clear hc ht
      by_cases hge:R≤t
      ·have hgeI:(R:Int)≤(t:Int):=by omega
       have hd9:decide (R≤t)=true:=decide_eq_true hge
       have hsub:(t:Int) - (R:Int)=((t - R:Nat):Int):=by omega
       have hqc:=HQ.out.cell (j:=i) (by omega)
       rw [i64s_get (by rw [HI.out.lq];omega)] at hqc
       have hqf:=HQ.out.frozen i
       generalize Q.getD i 0=q0 at *
       have HQ2:=Lib.hid (show OwnI (wr.setCell ⟨G,i,none⟩ (.int .i64 1)) G (some ⟨G,0,none⟩) n n (i64s (Q.set i 1)) by
        have:=HQ.out.set_ i (.int .i64 ((1:Nat):Int));rwa [i64s_set] at this)
       have HB2:=Lib.hid (HBq.out.setCell (p:=⟨G,i,none⟩) (Nat.le_refl _) (.int .i64 1))
       go_wp2_with fail
       go_roundw
       case rel=>exact ⟨i,t - R,Q.set i 1,by omega,by go_num,by first | rfl | go_num,Lib.hid (HHi.out hge),HQ2.out,HB2.out⟩
       case measure=>first | (simp [intOf];done) | (simp [intOf];omega)
      ·have hgeI:¬(R:Int)≤(t:Int):=by omega
       have hd9:decide (R≤t)=false:=decide_eq_false hge
       go_wp2_with fail
       go_roundw
       case rel=>exact ⟨i,t,Q,by omega,by go_num,rfl,Lib.hid (HLo.out (by omega)),HQ.out,HBq.out⟩
       case measure=>first | (simp [intOf];done) | (simp [intOf];omega)
def RpPost (w:World) (z code:Int) (e:Ending) (w':World):Prop:=
 ∃ v,e = .returned (.tuple #[v,.int .i64 code])∧(code=0→ResB w' w.heap.size v z)∧(code≠0→v=zeroV)∧Below w.heap.size w w'
theorem RpPost.bad {w w':World} {z co k:Int} (hco:co=k) (hk:k≠0) (hb:Below w.heap.size w w'):RpPost w z co (.returned (.tuple #[zeroV,.int .i64 k])) w':=by
 subst hco;exact ⟨zeroV,rfl,fun h=>absurd h hk,fun _=>rfl,hb⟩
set_option maxRecDepth 100000 in
set_option maxHeartbeats 1000000 in
theorem rParse_radix (s:ByteArray) (r:Int) (w:World) (hr:r<2∨36<r) (z:Int) (co:Int) (hco:co=13) :
  Calls Tryz.prog 68 #[.string s,.int .i64 r] w (RpPost w z co):=by
 have HB:=Lib.hid ((Below.refl w.heap.size w).alloc (Nat.le_refl _) (.cells #[.bool false,.slice none 0 0] 59))
 have HC:=Lib.hid hco
 rcases hr with h | h
 ·have d1:decide (r<2)=true:=decide_eq_true h
  go_enter Tryz.func68,Tryz.ntmps68
  go_wp2
  exact bodyPost_ret (v:=.tuple #[zeroV,.int .i64 13]) (by simp [results,Tryz.results68,go_sem]) rfl (RpPost.bad HC.out (by decide) HB.out)
 ·have d1:decide (r<2)=false:=decide_eq_false (by omega)
  have d2:decide (36<r)=true:=decide_eq_true h
  go_enter Tryz.func68,Tryz.ntmps68
  go_wp2
  exact bodyPost_ret (v:=.tuple #[zeroV,.int .i64 13]) (by simp [results,Tryz.results68,go_sem]) rfl (RpPost.bad HC.out (by decide) HB.out)
theorem bytes_nil {s:ByteArray} (h:s.size=0):s=⟨#[]⟩:=by
 cases s with
 | mk d=>
  have:d.size=0:=h
  rw [Array.eq_empty_of_size_eq_zero this]
def RpRel (W0:World) (V:Nat) (bv:Value) (wr:World):Prop:=
 ∃ A c,bv = .slice A (digs 2 V).length c∧OwnI wr W0.heap.size A (digs 2 V).length c (i64s (digs 2 V))∧Below W0.heap.size W0 wr
theorem RpRel.start (W0:World):RpRel W0 0 (.slice none 0 0) W0:=
 ⟨none,0,by rw [digs_zero];rfl,by rw [digs_zero];exact ⟨rfl,.inl ⟨rfl,rfl⟩⟩,Below.refl _ _⟩
structure RmInv (l:List Nat) (n r d k cy:Nat) (O:List Nat):Prop where
 lo:O.length=k
 dO:Dig 2 O
 hc:cy≤36
 hb:n≤k→k+cy≤n+36
 hv:nv 2 O+2 ^ k * cy=nvp 2 l k * r+d
theorem RmInv.step {l O:List Nat} {n r d k cy y t:Nat} (h:RmInv l n r d k cy O) (hl:l.length=n) (hr:r≤36) (hy:l.getD k 0=y) (hy2:y<2) (ht:y * r+cy=t) (hgo:k<n∨0<cy):RmInv l n r d (k+1) (t / 2) (O ++ [t % 2]):=by
 have hyr:y * r≤36:=by
  rcases (by omega:y=0∨y=1) with e | e <;> rw [e] <;> omega
 refine ⟨by rw [List.length_append,h.lo];rfl,h.dO.append (Dig.cons (Nat.mod_lt _ (by decide)) (Dig.nil _)),by have:=h.hc;omega,fun hk=>?_,?_⟩
 ·rcases Nat.lt_or_ge k n with h1 | h1
  ·have:=h.hc;omega
  ·have hy0:y=0:=by rw [←hy];exact getD_past (by omega)
   rw [hy0,Nat.zero_mul,Nat.zero_add] at ht
   have:=h.hb h1
   omega
 ·rw [nv_snoc,h.lo,nvp_succ,hy,Nat.add_mul,pow_succ_mul,Nat.add_assoc,←Nat.mul_add]
  have h1:=h.hv
  have h2:t % 2+2 * (t / 2)=y * r+cy:=by omega
  rw [h2,Nat.mul_add,Nat.mul_assoc]
  omega
end
section
open Go.RowKit Hb
attribute [local go_sem] Oper.semAt_some
set_option maxRecDepth 100000 in
set_option maxHeartbeats 4000000 in
theorem rParse_goodL (s:ByteArray) (r:Nat) (w:World) (hs:s.size≤9223372036854775807) (hr:2≤r) (hr2:r≤36) :
  Calls Tryz.prog 68 #[.string s,.int .i64 (r:Int)] w (RpPost w (pVal s.data.toList r) (pCode s.data.toList r)):=by
 have HB:=Lib.hid ((Below.refl w.heap.size w).alloc (Nat.le_refl _) (.cells #[.bool false,.slice none 0 0] 59))
 have d1:decide ((r:Int)<2)=false:=decide_eq_false (by omega)
 have d2:decide ((36:Int)<(r:Int))=false:=decide_eq_false (by omega)
 have HP:=pNeg_cases s
 rcases HP with ⟨h1,hng⟩ | ⟨h1,hb,hng⟩ | ⟨h1,hb,hng,hs2,hsz2⟩
 ·obtain ⟨s',hs'⟩:∃ s':ByteArray,s'=s:=⟨_,rfl⟩
  have HS':=Lib.hid (And.intro (show s'.data.toList=pRest s.data.toList by rw [hs',pRest,hng];rfl) hng)
  have d5:decide ((0:Int)<(s'.size:Int))=false:=decide_eq_false (by rw [hs'];omega)
  have d6:decide (0<s'.size)=false:=decide_eq_false (by rw [hs'];omega)
  have hm:s'.size≤9223372036854775807:=by rw [hs'];omega
  have he0:s'.size=0:=by rw [hs'];exact h1
  rw [show (Value.string s) = .string s' by rw [hs']]
  clear hng h1 hs'
  go_enter Tryz.func68,Tryz.ntmps68
  have e1:=str_empty he0
  have HC:=Lib.hid (pCode_bad hr hr2 (pBad_empty (r:=r) HS'.out.1 he0))
  have hse:s'=⟨#[]⟩:=bytes_nil he0
  subst hse
  go_wp2
  exact bodyPost_ret (v:=.tuple #[zeroV,.int .i64 12]) (by simp [results,Tryz.results68,go_sem]) rfl (RpPost.bad HC.out (by decide) HB.out)
 ·obtain ⟨s',hs'⟩:∃ s':ByteArray,s'=s:=⟨_,rfl⟩
  have HS':=Lib.hid (And.intro (show s'.data.toList=pRest s.data.toList by rw [hs',pRest,hng];rfl) hng)
  have d5:decide ((0:Int)<(s'.size:Int))=true:=decide_eq_true (by rw [hs'];omega)
  have d6:decide (0<s'.size)=true:=decide_eq_true (by rw [hs'];exact h1)
  have hm:s'.size≤9223372036854775807:=by rw [hs'];omega
  have he:¬s'.size=0:=by rw [hs'];omega
  have hb9:∃ h:0<s'.size,s'[0].toNat≠45:=by subst hs';exact ⟨h1,hb⟩
  obtain ⟨h19,hb8⟩:=hb9
  rw [show (Value.string s) = .string s' by rw [hs']]
  have q2:(((s'[0]'h19).toNat:Int)==45)=false:=beq_eq_false_iff_ne.2 (by omega)
  clear hng h1 hs' hb hs hb8
  go_enter Tryz.func68,Tryz.ntmps68
  have hse:¬s'.size=0:=he
  have q1:=str_full hse
  go_wp2_with fail
  go_loop [7] (fun i=>∃ k:Nat,k≤s'.size∧i = .int .i64 k∧Hid (∀ j,j<k→(sdig s'.data.toList).getD j 0<r)) (fun i=>s'.size - (intOf i).toNat)
  case atStart=>exact ⟨0,Nat.zero_le _,rfl,Lib.hid (fun j hj=>absurd hj (Nat.not_lt_zero _))⟩
  case round=>
   obtain ⟨k,hk,rfl,hdj⟩:=hrel
   by_cases hks:k<s'.size
   ·have hk0:(0:Int)≤(k:Int):=by omega
    have hk1:(k:Int)<(s'.size:Int):=by omega
    have HV:=Lib.hid (fun w1=>rdigit_any s'[k].toNat w1 (UInt8.toNat_lt _))
    have HG:=Lib.hid (sdig_get s' hks)
    have H12:=Lib.hid (fun h=>pBad_at (r:=r) HS'.out.1 hks h)
    generalize hdv:dval s'[k].toNat=dv at *
    by_cases hlt:dv<r
    ·have d3:decide ((r:Int)≤(dv:Int))=false:=decide_eq_false (by omega)
     have d4:decide (r≤dv)=false:=decide_eq_false (by omega)
     clear hdv
     go_wp2_with (go_at_call 161;(with_reducible refine (HV.out _).mono ?_);rintro e w' ⟨rfl,rfl⟩)
     go_round
     case rel=>exact ⟨k+1,by omega,by go_num,Lib.hid (fun j hj=>by
      rcases Nat.lt_or_ge j k with h | h
      ·exact hdj.out j h
      ·obtain rfl:j=k:=by omega
       rw [HG.out];exact hlt)⟩
     case measure=>simp [intOf];omega
    ·have d3:decide ((r:Int)≤(dv:Int))=true:=decide_eq_true (by omega)
     have d4:decide (r≤dv)=true:=decide_eq_true (by omega)
     have HC:=Lib.hid (pCode_bad hr hr2 (H12.out (by omega)))
     clear hdv
     go_wp2_with (go_at_call 161;(with_reducible refine (HV.out _).mono ?_);rintro e w' ⟨rfl,rfl⟩)
     exact bodyPost_ret (v:=.tuple #[zeroV,.int .i64 12]) (by simp [results,Tryz.results68,go_sem]) rfl (RpPost.bad HC.out (by decide) HB.out)
   ·obtain rfl:k=s'.size:=by omega
    have HBd:=Lib.hid (pBad_none HS'.out.1 hse hdj.out)
    have HDJ:=hdj
    have hW0z:w.heap.size<(w.alloc (.cells #[.bool false,.slice none 0 0] 59)).heap.size:=by simp
    have HX:=Lib.hid (show (w.alloc (.cells #[.bool false,.slice none 0 0] 59)).heap[w.heap.size]?=some (.cells #[.bool false,.slice none 0 0] 59 (0,0)) from heap_alloc_new w _)
    go_wp2_with fail
    generalize (w.alloc (.cells #[.bool false,.slice none 0 0] 59))=W0 at *
    have HR0:=Lib.hid (RpRel.start W0)
    go_loopw [8,9] (fun bv iv wr=>∃ i:Nat,i≤s'.size∧iv = .int .i64 (i:Int)∧(digs 2 (pval r ((sdig s'.data.toList).take i))).length≤8192∧RpRel W0 (pval r ((sdig s'.data.toList).take i)) bv wr) (fun _ iv _=>s'.size - (intOf iv).toNat)
    case atStart=>exact ⟨0,Nat.zero_le _,rfl,by rw [List.take_zero];simp [pval,digs_zero],by rw [List.take_zero];exact HR0.out⟩
    case round=>
     obtain ⟨i,hi,rfl,hn8,A1,c1,rfl,ho1,hb1⟩:=hrel
     have HO:=Lib.hid ho1
     have HB1:=Lib.hid hb1
     have hz1:=hb1.size
     obtain ⟨V,hV⟩:∃ V,pval r ((sdig s'.data.toList).take i)=V:=⟨_,rfl⟩
     rw [hV] at HO hn8 ⊢
     have HV9:=Lib.hid hV
     have hi0:(0:Int)≤(i:Int):=by omega
     clear ho1 hb1 HR0 hV
     obtain ⟨n,hn⟩:∃ n,(digs 2 V).length=n:=⟨_,rfl⟩
     have HN:=Lib.hid hn
     rw [hn] at HO hn8 ⊢
     clear hn
     by_cases hgo:i<s'.size∧n≤4096
     ·have hiI:(i:Int)<(s'.size:Int):=by omega
      have hnI:(n:Int)≤4096:=by omega
      have hd6':decide (i<s'.size)=true:=decide_eq_true hgo.1
      have hd7':decide (n≤4096)=true:=decide_eq_true hgo.2
      have hd:=HDJ.out i hgo.1
      have HSn:=Lib.hid (show pval r ((sdig s'.data.toList).take (i+1))=V * r+dval s'[i].toNat by
       rw [List.take_succ_eq_append_getElem (by rw [sdig_length];exact hgo.1),pval_snoc,HV9.out,←sdig_get s' hgo.1,getD_eq (by rw [sdig_length];exact hgo.1)])
      rw [sdig_get s' hgo.1] at hd
      have HVd:=Lib.hid (fun w1=>rdigit_any s'[i].toNat w1 (UInt8.toNat_lt _))
      generalize dval s'[i].toNat=d at *
      obtain ⟨wo,hwo⟩:∃ wo:World,wo=wr:=⟨_,rfl⟩
      subst hwo
      have HDl:=Lib.hid (dig_digs (b:=2) (by decide) V)
      have HVl:=Lib.hid (nv_digs (b:=2) (by decide) V)
      generalize digs 2 V=l at *
      go_wp2_with (go_at_call 161;(with_reducible refine (HVd.out _).mono ?_);rintro e w' ⟨rfl,rfl⟩)
      go_loopw [10,11,12] (fun cv ov kv wr=>∃ (k cy:Nat) (O:List Nat) (A2:Option Addr) (c2:Nat),kv = .int .i64 (k:Int)∧cv = .int .i64 (cy:Int)∧ov = .slice A2 k c2∧Hid (RmInv l n r d k cy O)∧OwnI wr wo.heap.size A2 k c2 (i64s O)∧Below wo.heap.size wo wr) (fun cv _ kv _=>(n - (intOf kv).toNat) * 100+(intOf cv).toNat)
      case atStart=>exact ⟨0,d,[],none,0,rfl,rfl,rfl,Lib.hid ⟨rfl,Dig.nil _,by omega,fun _=>by omega,by simp [nvp_zero,nv]⟩,⟨rfl,.inl ⟨rfl,rfl⟩⟩,Below.refl _ _⟩
      case round=>
       obtain ⟨k,cy,O,A2,c2,rfl,rfl,rfl,HI,ho2,hb2⟩:=hrel
       have HO2:=Lib.hid ho2
       have HB2:=Lib.hid hb2
       have hz2:=hb2.size
       have hk0:(0:Int)≤(k:Int):=by omega
       have hcy:=HI.out.hc
       clear ho2 hb2
       by_cases hin:k<n∨0<cy
       ·have hk5:k≤5000:=by
         rcases Nat.lt_or_ge k n with h | h
         ·omega
         ·have:=HI.out.hb h;omega
        have HBt:=Lib.hid (show Calls Tryz.prog 162 #[.slice A1 n c1,.int .i64 (k:Int)] wr (fun e w'=>e = .returned (.int .i64 (l.getD k 0:Nat))∧wr=w') from by
         have h:=rbit_any ((HO.out.sl HDl.out HN.out).below (C:=wo.heap.size) HB2.out (Nat.le_refl _)) (k:Int)
         rwa [bitZ_nat] at h)
        have hyb:=HDl.out.getD (b:=2) (by decide) k
        have HSt:=Lib.hid (fun y t (hy:l.getD k 0=y) (hy2:y<2) (ht:y * r+cy=t)=>HI.out.step HN.out hr2 hy hy2 ht hin)
        obtain ⟨y,hy⟩:∃ y,l.getD k 0=y:=⟨_,rfl⟩
        rw [hy] at HBt hyb
        obtain ⟨p,hp⟩:∃ p,y * r=p:=⟨_,rfl⟩
        have hpi:(y:Int) * (r:Int)=(p:Int):=by rw [←hp];simp
        have hp36:p≤36:=by
         rcases (by omega:y=0∨y=1) with e | e <;> rw [←hp,e] <;> omega
        obtain ⟨t,ht⟩:∃ t,p+cy=t:=⟨_,rfl⟩
        have HS1:=Lib.hid (HSt.out y t hy hyb (by rw [hp];exact ht))
        have hti:(p:Int)+(cy:Int)=(t:Int):=by omega
        have ht9:(t:Int)≤72:=by omega
        have htm:(t:Int).tmod 2=((t % 2:Nat):Int):=by rw [Int.tmod_eq_emod_of_nonneg (by omega)];omega
        have htd:(t:Int).tdiv 2=((t / 2:Nat):Int):=by rw [Int.tdiv_eq_ediv_of_nonneg (by omega)];omega
        have hk5I:k≤4294967296:=by omega
        have hkI5:(k:Int)≤5000:=by omega
        have HME:=Lib.hid (show (n - (k+1)) * 100+t / 2<(n - k) * 100+cy by
         rcases Nat.lt_or_ge k n with h | h
         ·omega
         ·have hy0:y=0:=by rw [←hy];exact getD_past (by rw [HN.out];exact h)
          rw [hy0,Nat.zero_mul] at hp
          omega)
        clear hy hp ht HSt
        by_cases hkn:k<n
        case' pos=>
         have hkI:(k:Int)<(n:Int):=by omega
         have hkd:decide (k<n)=true:=decide_eq_true hkn
        case' neg=>
         have hkI:¬(k:Int)<(n:Int):=by omega
         have hkd:decide (k<n)=false:=decide_eq_false hkn
         have hcyI:(0:Int)<(cy:Int):=by omega
         have hcyd:decide (0<cy)=true:=decide_eq_true (by omega)
        all_goals
         go_wp2_with (first
          | (go_at_call 162;(with_reducible refine HBt.out.mono ?_);rintro e w' ⟨rfl,rfl⟩)
          | (at_builtin;refine wpList_append_i64 (by rfl) _ _ (by rfl) wo.heap.size A2 k c2 O (by rfl) (Own.alloc HO2.out _) wr.heap.size (t % 2) (by rfl) (by simp [go_sem]) hk5I (by simp;omega) ?_;intro A4 c4 w4 ho4 hb4))
         have HO4:=Lib.hid ho4
         have HB4:=Lib.hid ((HB2.out.alloc hz2 _).trans hb4)
         clear ho4 hb4
         go_wp2_with fail
         go_roundw
         case rel=>exact ⟨k+1,t / 2,O ++ [t % 2],A4,c4,by go_num,by first | rfl | go_num,rfl,HS1,HO4.out,HB4.out⟩
         case measure=>first | exact HME.out | (have:=HME.out;simp [intOf];omega)
       ·have hkn:n≤k:=by omega
        have hcy0:cy=0:=by omega
        subst hcy0
        have hk9:=HI.out.hb hkn
        have hv:=HI.out.hv
        rw [Nat.mul_zero,Nat.add_zero,nvp_all (by rw [HN.out];exact hkn),HVl.out] at hv
        have et:tr O=digs 2 (V * r+d):=by rw [tr_eq_digs (b:=2) (by decide) HI.out.dO,hv]
        have em:tlen O=(digs 2 (V * r+d)).length:=by rw [←et,tr_length]
        have hcut:=rcut_any (HO2.out.sl HI.out.dO HI.out.lo)
        rw [em] at hcut
        have HCut:=Lib.hid hcut
        have hml:tlen O≤k:=by rw [←HI.out.lo];exact tlen_le O
        have htk:=HO2.out.take hml
        rw [i64s_take] at htk
        have HR2:=Lib.hid (show RpRel W0 (pval r ((sdig s'.data.toList).take (i+1))) (.slice A2 (digs 2 (V * r+d)).length c2) wr from by
         rw [HSn.out]
         exact ⟨A2,c2,rfl,by rw [←em,←et];exact Own.mono htk hz1,HB1.out.trans (HB2.out.mono hz1)⟩)
        have HLe:=Lib.hid (show (digs 2 (pval r ((sdig s'.data.toList).take (i+1)))).length≤8192 by rw [HSn.out,←em];omega)
        have hk1:decide (k<n)=false:=decide_eq_false (by omega)
        have hk2:¬(k:Int)<(n:Int):=by omega
        clear hcut htk et em hv hml
        go_wp2_with (go_at_call 137;(with_reducible refine HCut.out.mono ?_);rintro e w2 ⟨rfl,rfl⟩)
        go_roundw
        case rel=>exact ⟨i+1,by omega,by go_num,HLe.out,HR2.out⟩
        case measure=>simp [intOf];omega
     ·have HPR:=Lib.hid HS'.out.1
      by_cases hbig:n≤4096
      ·obtain rfl:i=s'.size:=by omega
       have hVall:=HV9.out
       rw [List.take_of_length_le (by rw [sdig_length];exact Nat.le_refl _),HPR.out] at hVall
       have hVlt:=lt_of_digs_length (b:=2) (n:=V) (k:=4096) (by decide) (by rw [HN.out];exact hbig)
       have HC:=Lib.hid (pCode_ok hr hr2 HBd.out (by rw [hVall];exact hVlt))
       have HZ:=Lib.hid (show bval false (digs 2 V)=pVal s.data.toList (r:Int) by
        unfold bval pVal
        rw [nv_digs (by decide),HS'.out.2,Int.toNat_natCast,hVall])
       have hd6':decide (s'.size<s'.size)=false:=decide_eq_false (by omega)
       have hbigI:¬(4096:Int)<(n:Int):=by omega
       have hbd:decide (4096<n)=false:=decide_eq_false (by omega)
       have HDl:=Lib.hid (dig_digs (b:=2) (by decide) V)
       clear hVall hVlt
       generalize pVal s.data.toList (r:Int)=z at *
       generalize digs 2 V=l at *
       go_wp2_with fail
       (with_reducible refine (rlaid_at false HO.out HN.out HDl.out HZ.out).mono ?_)
       rintro ex w5 ⟨rfl,ho5,hb5⟩
       obtain ⟨r0,r1,r2,r3⟩:=two_cells (HB1.out.trans (hb5.mono hz1)) HX.out hW0z
       have HO5:=Lib.hid ho5
       have HB5:=Lib.hid (HB.out.trans ((HB1.out.trans (hb5.mono hz1)).mono HB.out.size))
       clear ho5 hb5
       go_wp2
       have hrr:=ResB.stored (w:=w) (g:=w.heap.size) (u:=.bool (decide (z<0))) (u':=.slice A1 (digs 2 z.natAbs).length c1) ⟨A1,c1,rfl,HO5.out⟩ HB5.out (by omega) (by omega)
       exact bodyPost_ret (v:=.tuple #[.agg #[.bool (decide (z<0)),.slice A1 (digs 2 z.natAbs).length c1],.int .i64 0]) (by simp [results,Tryz.results68,go_sem,r0,r1]) rfl
        ⟨_,by rw [HC.out],fun _=>hrr.1,fun h=>absurd HC.out h,hrr.2⟩
      ·have hVge:¬V<2 ^ 4096:=fun h=>hbig (by rw [←HN.out];exact digs_length_le (by decide) h)
       have HC:=Lib.hid (pCode_long hr hr2 HBd.out i (by rw [←HPR.out,HV9.out];exact hVge))
       have hbigI:(4096:Int)<(n:Int):=by omega
       have hbd:decide (4096<n)=true:=decide_eq_true (by omega)
       have hbd2:decide (n≤4096)=false:=decide_eq_false (by omega)
       have hbI2:¬(n:Int)≤4096:=by omega
       obtain ⟨r0,r1,r2,r3⟩:=two_cells HB1.out HX.out hW0z
       have HB5:=Lib.hid (HB.out.trans (HB1.out.mono HB.out.size))
       clear hVge
       by_cases his:i<s'.size
       case' pos=>
        have hisI:(i:Int)<(s'.size:Int):=by omega
        have hisd:decide (i<s'.size)=true:=decide_eq_true his
       case' neg=>
        have hisI:¬(i:Int)<(s'.size:Int):=by omega
        have hisd:decide (i<s'.size)=false:=decide_eq_false his
       all_goals
        go_wp2
        exact bodyPost_ret (v:=.tuple #[zeroV,.int .i64 10]) (by simp [results,Tryz.results68,go_sem,r0,r1]) rfl
         (RpPost.bad HC.out (by decide) ((HB5.out.setCell (Nat.le_refl _) _).setCell (Nat.le_refl _) _))
 ·obtain ⟨s',hs'⟩:∃ s',s.extract 1 s.size=s':=⟨_,rfl⟩
  have HS':=Lib.hid (And.intro (show s'.data.toList=pRest s.data.toList by rw [pRest,hng,if_pos rfl,←hs2,hs']) hng)
  rw [hs'] at hsz2
  have hsz3:s.size - 1=s'.size:=hsz2.symm
  have d5:decide ((0:Int)<(s.size:Int))=true:=decide_eq_true (by omega)
  have d6:decide (0<s.size)=true:=decide_eq_true h1
  have hm:s'.size≤9223372036854775807:=by omega
  have q2:(((s[0]'h1).toNat:Int)==45)=true:=by rw [hb];rfl
  clear hng hs2 hsz2
  go_enter Tryz.func68,Tryz.ntmps68
  by_cases he:s'.size=0
  ·have e1:=str_empty he
   have HC:=Lib.hid (pCode_bad hr hr2 (pBad_empty (r:=r) HS'.out.1 he))
   go_wp2
   exact bodyPost_ret (v:=.tuple #[zeroV,.int .i64 12]) (by simp [results,Tryz.results68,go_sem]) rfl (RpPost.bad HC.out (by decide) HB.out)
  ·skip
   have hse:¬s'.size=0:=he
   have q1:=str_full hse
   go_wp2_with fail
   clear hs' hsz3 hb d1 d2 d5 d6 h1 hs q2
   go_loop [7] (fun i=>∃ k:Nat,k≤s'.size∧i = .int .i64 k∧Hid (∀ j,j<k→(sdig s'.data.toList).getD j 0<r)) (fun i=>s'.size - (intOf i).toNat)
   case atStart=>exact ⟨0,Nat.zero_le _,rfl,Lib.hid (fun j hj=>absurd hj (Nat.not_lt_zero _))⟩
   case round=>
    obtain ⟨k,hk,rfl,hdj⟩:=hrel
    by_cases hks:k<s'.size
    ·have hk0:(0:Int)≤(k:Int):=by omega
     have hk1:(k:Int)<(s'.size:Int):=by omega
     have HV:=Lib.hid (fun w1=>rdigit_any s'[k].toNat w1 (UInt8.toNat_lt _))
     have HG:=Lib.hid (sdig_get s' hks)
     have H12:=Lib.hid (fun h=>pBad_at (r:=r) HS'.out.1 hks h)
     generalize hdv:dval s'[k].toNat=dv at *
     by_cases hlt:dv<r
     ·have d3:decide ((r:Int)≤(dv:Int))=false:=decide_eq_false (by omega)
      have d4:decide (r≤dv)=false:=decide_eq_false (by omega)
      clear hdv
      go_wp2_with (go_at_call 161;(with_reducible refine (HV.out _).mono ?_);rintro e w' ⟨rfl,rfl⟩)
      go_round
      case rel=>exact ⟨k+1,by omega,by go_num,Lib.hid (fun j hj=>by
       rcases Nat.lt_or_ge j k with h | h
       ·exact hdj.out j h
       ·obtain rfl:j=k:=by omega
        rw [HG.out];exact hlt)⟩
      case measure=>simp [intOf];omega
     ·have d3:decide ((r:Int)≤(dv:Int))=true:=decide_eq_true (by omega)
      have d4:decide (r≤dv)=true:=decide_eq_true (by omega)
      have HC:=Lib.hid (pCode_bad hr hr2 (H12.out (by omega)))
      clear hdv
      go_wp2_with (go_at_call 161;(with_reducible refine (HV.out _).mono ?_);rintro e w' ⟨rfl,rfl⟩)
      exact bodyPost_ret (v:=.tuple #[zeroV,.int .i64 12]) (by simp [results,Tryz.results68,go_sem]) rfl (RpPost.bad HC.out (by decide) HB.out)
    ·obtain rfl:k=s'.size:=by omega
     have HBd:=Lib.hid (pBad_none HS'.out.1 hse hdj.out)
     have HDJ:=hdj
     have hW0z:w.heap.size<(w.alloc (.cells #[.bool false,.slice none 0 0] 59)).heap.size:=by simp
     have HX:=Lib.hid (show (w.alloc (.cells #[.bool false,.slice none 0 0] 59)).heap[w.heap.size]?=some (.cells #[.bool false,.slice none 0 0] 59 (0,0)) from heap_alloc_new w _)
     go_wp2_with fail
     generalize (w.alloc (.cells #[.bool false,.slice none 0 0] 59))=W0 at *
     have HR0:=Lib.hid (RpRel.start W0)
     go_loopw [8,9] (fun bv iv wr=>∃ i:Nat,i≤s'.size∧iv = .int .i64 (i:Int)∧(digs 2 (pval r ((sdig s'.data.toList).take i))).length≤8192∧RpRel W0 (pval r ((sdig s'.data.toList).take i)) bv wr) (fun _ iv _=>s'.size - (intOf iv).toNat)
     case atStart=>exact ⟨0,Nat.zero_le _,rfl,by rw [List.take_zero];simp [pval,digs_zero],by rw [List.take_zero];exact HR0.out⟩
     case round=>
      obtain ⟨i,hi,rfl,hn8,A1,c1,rfl,ho1,hb1⟩:=hrel
      have HO:=Lib.hid ho1
      have HB1:=Lib.hid hb1
      have hz1:=hb1.size
      obtain ⟨V,hV⟩:∃ V,pval r ((sdig s'.data.toList).take i)=V:=⟨_,rfl⟩
      rw [hV] at HO hn8 ⊢
      have HV9:=Lib.hid hV
      have hi0:(0:Int)≤(i:Int):=by omega
      clear ho1 hb1 HR0 hV
      obtain ⟨n,hn⟩:∃ n,(digs 2 V).length=n:=⟨_,rfl⟩
      have HN:=Lib.hid hn
      rw [hn] at HO hn8 ⊢
      clear hn
      by_cases hgo:i<s'.size∧n≤4096
      ·have hiI:(i:Int)<(s'.size:Int):=by omega
       have hnI:(n:Int)≤4096:=by omega
       have hd6':decide (i<s'.size)=true:=decide_eq_true hgo.1
       have hd7':decide (n≤4096)=true:=decide_eq_true hgo.2
       have hd:=HDJ.out i hgo.1
       have HSn:=Lib.hid (show pval r ((sdig s'.data.toList).take (i+1))=V * r+dval s'[i].toNat by
        rw [List.take_succ_eq_append_getElem (by rw [sdig_length];exact hgo.1),pval_snoc,HV9.out,←sdig_get s' hgo.1,getD_eq (by rw [sdig_length];exact hgo.1)])
       rw [sdig_get s' hgo.1] at hd
       have HVd:=Lib.hid (fun w1=>rdigit_any s'[i].toNat w1 (UInt8.toNat_lt _))
       generalize dval s'[i].toNat=d at *
       obtain ⟨wo,hwo⟩:∃ wo:World,wo=wr:=⟨_,rfl⟩
       subst hwo
       have HDl:=Lib.hid (dig_digs (b:=2) (by decide) V)
       have HVl:=Lib.hid (nv_digs (b:=2) (by decide) V)
       generalize digs 2 V=l at *
       go_wp2_with (go_at_call 161;(with_reducible refine (HVd.out _).mono ?_);rintro e w' ⟨rfl,rfl⟩)
       go_loopw [10,11,12] (fun cv ov kv wr=>∃ (k cy:Nat) (O:List Nat) (A2:Option Addr) (c2:Nat),kv = .int .i64 (k:Int)∧cv = .int .i64 (cy:Int)∧ov = .slice A2 k c2∧Hid (RmInv l n r d k cy O)∧OwnI wr wo.heap.size A2 k c2 (i64s O)∧Below wo.heap.size wo wr) (fun cv _ kv _=>(n - (intOf kv).toNat) * 100+(intOf cv).toNat)
       case atStart=>exact ⟨0,d,[],none,0,rfl,rfl,rfl,Lib.hid ⟨rfl,Dig.nil _,by omega,fun _=>by omega,by simp [nvp_zero,nv]⟩,⟨rfl,.inl ⟨rfl,rfl⟩⟩,Below.refl _ _⟩
       case round=>
        obtain ⟨k,cy,O,A2,c2,rfl,rfl,rfl,HI,ho2,hb2⟩:=hrel
        have HO2:=Lib.hid ho2
        have HB2:=Lib.hid hb2
        have hz2:=hb2.size
        have hk0:(0:Int)≤(k:Int):=by omega
        have hcy:=HI.out.hc
        clear ho2 hb2
        by_cases hin:k<n∨0<cy
        ·have hk5:k≤5000:=by
          rcases Nat.lt_or_ge k n with h | h
          ·omega
          ·have:=HI.out.hb h;omega
         have HBt:=Lib.hid (show Calls Tryz.prog 162 #[.slice A1 n c1,.int .i64 (k:Int)] wr (fun e w'=>e = .returned (.int .i64 (l.getD k 0:Nat))∧wr=w') from by
          have h:=rbit_any ((HO.out.sl HDl.out HN.out).below (C:=wo.heap.size) HB2.out (Nat.le_refl _)) (k:Int)
          rwa [bitZ_nat] at h)
         have hyb:=HDl.out.getD (b:=2) (by decide) k
         have HSt:=Lib.hid (fun y t (hy:l.getD k 0=y) (hy2:y<2) (ht:y * r+cy=t)=>HI.out.step HN.out hr2 hy hy2 ht hin)
         obtain ⟨y,hy⟩:∃ y,l.getD k 0=y:=⟨_,rfl⟩
         rw [hy] at HBt hyb
         obtain ⟨p,hp⟩:∃ p,y * r=p:=⟨_,rfl⟩
         have hpi:(y:Int) * (r:Int)=(p:Int):=by rw [←hp];simp
         have hp36:p≤36:=by
          rcases (by omega:y=0∨y=1) with e | e <;> rw [←hp,e] <;> omega
         obtain ⟨t,ht⟩:∃ t,p+cy=t:=⟨_,rfl⟩
         have HS1:=Lib.hid (HSt.out y t hy hyb (by rw [hp];exact ht))
         have hti:(p:Int)+(cy:Int)=(t:Int):=by omega
         have ht9:(t:Int)≤72:=by omega
         have htm:(t:Int).tmod 2=((t % 2:Nat):Int):=by rw [Int.tmod_eq_emod_of_nonneg (by omega)];omega
         have htd:(t:Int).tdiv 2=((t / 2:Nat):Int):=by rw [Int.tdiv_eq_ediv_of_nonneg (by omega)];omega
         have hk5I:k≤4294967296:=by omega
         have hkI5:(k:Int)≤5000:=by omega
         have HME:=Lib.hid (show (n - (k+1)) * 100+t / 2<(n - k) * 100+cy by
          rcases Nat.lt_or_ge k n with h | h
          ·omega
          ·have hy0:y=0:=by rw [←hy];exact getD_past (by rw [HN.out];exact h)
           rw [hy0,Nat.zero_mul] at hp
           omega)
         clear hy hp ht HSt
         by_cases hkn:k<n
         case' pos=>
          have hkI:(k:Int)<(n:Int):=by omega
          have hkd:decide (k<n)=true:=decide_eq_true hkn
         case' neg=>
          have hkI:¬(k:Int)<(n:Int):=by omega
          have hkd:decide (k<n)=false:=decide_eq_false hkn
          have hcyI:(0:Int)<(cy:Int):=by omega
          have hcyd:decide (0<cy)=true:=decide_eq_true (by omega)
         all_goals
          go_wp2_with (first
           | (go_at_call 162;(with_reducible refine HBt.out.mono ?_);rintro e w' ⟨rfl,rfl⟩)
           | (at_builtin;refine wpList_append_i64 (by rfl) _ _ (by rfl) wo.heap.size A2 k c2 O (by rfl) (Own.alloc HO2.out _) wr.heap.size (t % 2) (by rfl) (by simp [go_sem]) hk5I (by simp;omega) ?_;intro A4 c4 w4 ho4 hb4))
          have HO4:=Lib.hid ho4
          have HB4:=Lib.hid ((HB2.out.alloc hz2 _).trans hb4)
          clear ho4 hb4
          go_wp2_with fail
          go_roundw
          case rel=>exact ⟨k+1,t / 2,O ++ [t % 2],A4,c4,by go_num,by first | rfl | go_num,rfl,HS1,HO4.out,HB4.out⟩
          case measure=>first | exact HME.out | (have:=HME.out;simp [intOf];omega)
        ·have hkn:n≤k:=by omega
         have hcy0:cy=0:=by omega
         subst hcy0
         have hk9:=HI.out.hb hkn
         have hv:=HI.out.hv
         rw [Nat.mul_zero,Nat.add_zero,nvp_all (by rw [HN.out];exact hkn),HVl.out] at hv
         have et:tr O=digs 2 (V * r+d):=by rw [tr_eq_digs (b:=2) (by decide) HI.out.dO,hv]
         have em:tlen O=(digs 2 (V * r+d)).length:=by rw [←et,tr_length]
         have hcut:=rcut_any (HO2.out.sl HI.out.dO HI.out.lo)
         rw [em] at hcut
         have HCut:=Lib.hid hcut
         have hml:tlen O≤k:=by rw [←HI.out.lo];exact tlen_le O
         have htk:=HO2.out.take hml
         rw [i64s_take] at htk
         have HR2:=Lib.hid (show RpRel W0 (pval r ((sdig s'.data.toList).take (i+1))) (.slice A2 (digs 2 (V * r+d)).length c2) wr from by
          rw [HSn.out]
          exact ⟨A2,c2,rfl,by rw [←em,←et];exact Own.mono htk hz1,HB1.out.trans (HB2.out.mono hz1)⟩)
         have HLe:=Lib.hid (show (digs 2 (pval r ((sdig s'.data.toList).take (i+1)))).length≤8192 by rw [HSn.out,←em];omega)
         have hk1:decide (k<n)=false:=decide_eq_false (by omega)
         have hk2:¬(k:Int)<(n:Int):=by omega
         clear hcut htk et em hv hml
         go_wp2_with (go_at_call 137;(with_reducible refine HCut.out.mono ?_);rintro e w2 ⟨rfl,rfl⟩)
         go_roundw
         case rel=>exact ⟨i+1,by omega,by go_num,HLe.out,HR2.out⟩
         case measure=>simp [intOf];omega
      ·have HPR:=Lib.hid HS'.out.1
       by_cases hbig:n≤4096
       ·obtain rfl:i=s'.size:=by omega
        have hVall:=HV9.out
        rw [List.take_of_length_le (by rw [sdig_length];exact Nat.le_refl _),HPR.out] at hVall
        have hVlt:=lt_of_digs_length (b:=2) (n:=V) (k:=4096) (by decide) (by rw [HN.out];exact hbig)
        have HC:=Lib.hid (pCode_ok hr hr2 HBd.out (by rw [hVall];exact hVlt))
        have HZ:=Lib.hid (show bval true (digs 2 V)=pVal s.data.toList (r:Int) by
         unfold bval pVal
         rw [nv_digs (by decide),HS'.out.2,Int.toNat_natCast,hVall])
        have hd6':decide (s'.size<s'.size)=false:=decide_eq_false (by omega)
        have hbigI:¬(4096:Int)<(n:Int):=by omega
        have hbd:decide (4096<n)=false:=decide_eq_false (by omega)
        have HDl:=Lib.hid (dig_digs (b:=2) (by decide) V)
        clear hVall hVlt
        generalize pVal s.data.toList (r:Int)=z at *
        generalize digs 2 V=l at *
        go_wp2_with fail
        (with_reducible refine (rlaid_at true HO.out HN.out HDl.out HZ.out).mono ?_)
        rintro ex w5 ⟨rfl,ho5,hb5⟩
        obtain ⟨r0,r1,r2,r3⟩:=two_cells (HB1.out.trans (hb5.mono hz1)) HX.out hW0z
        have HO5:=Lib.hid ho5
        have HB5:=Lib.hid (HB.out.trans ((HB1.out.trans (hb5.mono hz1)).mono HB.out.size))
        clear ho5 hb5
        go_wp2
        have hrr:=ResB.stored (w:=w) (g:=w.heap.size) (u:=.bool (decide (z<0))) (u':=.slice A1 (digs 2 z.natAbs).length c1) ⟨A1,c1,rfl,HO5.out⟩ HB5.out (by omega) (by omega)
        exact bodyPost_ret (v:=.tuple #[.agg #[.bool (decide (z<0)),.slice A1 (digs 2 z.natAbs).length c1],.int .i64 0]) (by simp [results,Tryz.results68,go_sem,r0,r1]) rfl
         ⟨_,by rw [HC.out],fun _=>hrr.1,fun h=>absurd HC.out h,hrr.2⟩
       ·have hVge:¬V<2 ^ 4096:=fun h=>hbig (by rw [←HN.out];exact digs_length_le (by decide) h)
        have HC:=Lib.hid (pCode_long hr hr2 HBd.out i (by rw [←HPR.out,HV9.out];exact hVge))
        have hbigI:(4096:Int)<(n:Int):=by omega
        have hbd:decide (4096<n)=true:=decide_eq_true (by omega)
        have hbd2:decide (n≤4096)=false:=decide_eq_false (by omega)
        have hbI2:¬(n:Int)≤4096:=by omega
        obtain ⟨r0,r1,r2,r3⟩:=two_cells HB1.out HX.out hW0z
        have HB5:=Lib.hid (HB.out.trans (HB1.out.mono HB.out.size))
        clear hVge
        by_cases his:i<s'.size
        case' pos=>
         have hisI:(i:Int)<(s'.size:Int):=by omega
         have hisd:decide (i<s'.size)=true:=decide_eq_true his
        case' neg=>
         have hisI:¬(i:Int)<(s'.size:Int):=by omega
         have hisd:decide (i<s'.size)=false:=decide_eq_false his
        all_goals
         go_wp2
         exact bodyPost_ret (v:=.tuple #[zeroV,.int .i64 10]) (by simp [results,Tryz.results68,go_sem,r0,r1]) rfl
          (RpPost.bad HC.out (by decide) ((HB5.out.setCell (Nat.le_refl _) _).setCell (Nat.le_refl _) _))
theorem rParse_anyL (s:ByteArray) (r:Int) (w:World) (hs:s.size≤9223372036854775807) :
  Calls Tryz.prog 68 #[.string s,.int .i64 r] w (RpPost w (pVal s.data.toList r) (pCode s.data.toList r)):=by
 by_cases h:r<2∨36<r
 ·exact rParse_radix s r w h _ _ (by rw [pCode,if_pos h])
 ·obtain ⟨n,rfl⟩:=Int.eq_ofNat_of_zero_le (show 0≤r by omega)
  exact rParse_goodL s n w hs (by omega) (by omega)
end
end Go.Proofs.YtjpnmmjgdiiahaaGreatDoor
