import Derived.Shelf.Small.Bits
import Derived.Test.YtpikjceodmepiaaGreatDoorRows
import Derived.WalkKit
import Derived.Deep.QuietTactic
import Derived.BigQuiet
import Derived.Deep.RegionHeld3
import Derived.Deep.DrawnRows
import Derived.Deep.DeepCutAuto
import Derived.Deep.CutBlock
import Derived.Laws.BytesArg
import Derived.Laws.AppendOwnNone
import Derived.ProofKit
import Derived.OpenShut
import Derived.JoinedCond
import Derived.JoinedOf
import Derived.JoinedAt
import Derived.ChangeSame
import Derived.ChangeSlices
import Derived.RowKit3
import Derived.Carry
import Derived.Lib.SmallJoins
import Derived.Deep.LoopGhost
import Derived.Maps.AppendAt
import Derived.IntWalk
import Derived.StillTailTactics
import Derived.Test.YtpikjceodmepiaaGreatDoorV1
import Derived.Test.YtpikjceodmepiaaGreatDoorV2
import Derived.Test.YtpikjceodmepiaaGreatDoorV3
import Derived.Test.YtpikjceodmepiaaGreatDoorV4
import Derived.Test.YtpikjceodmepiaaGreatDoorV6
import Derived.Test.YtpikjceodmepiaaGreatDoorV0
set_option maxRecDepth 1000000
set_option maxHeartbeats 64000000
set_option linter.unusedVariables false
set_option linter.unusedSimpArgs false
namespace Go.Proofs.YtpikjceodmepiaaGreatDoor
section
open Go.RowKit Hb
theorem far2 {w2:World} {g:Nat} {q:Addr} {u u' v:Value} (h:w2.cell? q=some v) (hne:q.block≠g):((w2.setCell ⟨g,0,none⟩ u).setCell ⟨g,1,none⟩ u').cell? q=some v:=by
 rw [World.cell?_setCell_other _ _ _ _ (fun e=>hne (by rw [←e])),World.cell?_setCell_other _ _ _ _ (fun e=>hne (by rw [←e])),h]
attribute [local go_sem ↓] Go.wp_at_zero Go.wp_at_succ
end
section
open Go.RowKit Hb
end
section
open Go.RowKit Hb
attribute [local go_sem ↓] Go.wp_at_zero Go.wp_at_succ
end
section
open Go.RowKit Hb
end
section
open Go.RowKit Hb
attribute [local go_sem ↓] Go.wp_at_zero Go.wp_at_succ
end
section
open Go.RowKit Hb
section
variable {w w':World} {C g:Nat} {x y u v:Value} {p:Addr}
theorem Bx.set1 (h:Bx w g x y) (v:Value):Bx (w.setCell ⟨g,1,none⟩ v) g x v:=by
 unfold Bx at h ⊢
 simp [World.setCell,Array.getElem?_modify,h]
end
theorem wpList_append_u32 {ops:Array Oper} {rest:List Oper} {o:Oper} {a:Act} {Q:Exit→Act→World→Prop} {w:World} (hgd:o.guard=none) (s x:Operand)
  (ho:o.op = .call { callee:=.builtin .append,args:=#[s,x],argTypes:=#[54,54] })
  (base:Nat) (A:Option Addr) (n cp:Nat) (l:List Nat) (hs:a.eval s = .slice A n cp) (hown:OwnU w base A n cp (u32s l))
  (g:Nat) (y:Nat) (hx:a.eval x = .slice (some ⟨g,0,none⟩) 1 1) (hc:w.cell? ⟨g,0,none⟩=some (.int .u32 (y:Int))) (hn:n≤67108864) (hbase:base≤w.heap.size)
  (h:∀ A' c' w',OwnU w' base A' (n+1) c' (u32s (l ++ [y]))→Below base w w'→wpList Tryz.prog ops Q rest (a.put o.dst (.slice A' (n+1) c')) w'):wpList Tryz.prog ops Q (o :: rest) a w:=by
 obtain ⟨i0,hi,hz0,hz1,hz2⟩:=info_parts infoU
 refine wpList_append_own _ hgd s x 54 ho base 101 i0 (.int .u32 0) 1 4 Tryz.underlying54 hi hz0 hz1 hz2 rfl (by decide) _ n (u32s l) hs hown ⟨g,0,none⟩ 1 1 [.int .u32 (y:Int)] hx rfl ?_ ?_ (by simp [maxLen];omega) (by omega) hbase ?_
 ·intro j u hj
  cases j with
  | zero=>simp at hj;subst hj;exact hc
  | succ j=>simp at hj
 ·intro u hu;simp at hu;subst hu;rfl
 ·intro v' w' hown' hg _
  have hf:∃ A' c',v' = .slice A' (n+1) c':=by
   rcases hown'.2 with ⟨h1,h2⟩ | ⟨g',cap,cur,h1,_⟩
   ·exact absurd h2 (by simp)
   ·exact ⟨_,_,h1⟩
  obtain ⟨A',c',rfl⟩:=hf
  refine h A' c' w' (by have h3:=hown';rw [show u32s l ++ [Value.int .u32 (y:Int)]=u32s (l ++ [y]) by simp [u32s]] at h3;exact h3) ⟨hg.os,hg.tape,hg.output,hg.size,fun j hj=>hg.block j (by omega) ?_⟩
  rcases Own.form hown with ⟨rfl,_⟩ | ⟨g',rfl,h4,_⟩
  ·simp [Value.ownBlock]
  ·simp [Value.ownBlock];omega
end
section
open Go.ChangeShapes Go.WideShapes Go.ChangeAt Go.RowKit Go.Joins Hb
section
end
end
section
open Go.RowKit Hb
section
end
section
end
section
end
theorem sign_cmp (x y:Int):(x - y).sign=cmpZ x y:=by
 unfold cmpZ
 split
 ·exact Int.sign_eq_neg_one_of_neg (by omega)
 ·split
  ·exact Int.sign_eq_one_of_pos (by omega)
  ·rw [show x - y=0 by omega];rfl
section
end
section
end
theorem rcut_any {B:Nat} {A:Option Addr} {l:List Nat} {n c:Nat} {w:World} (hs:SlI w B A n c l) :
  Calls Tryz.prog 105 #[.slice A n c] w fun e w'=>e = .returned (.slice A (tlen l) c)∧w=w':=by
 have hm:=hs.max
 have hc:=hs.cap
 have hlen:=hs.len
 unfold maxLen at hm
 have ht:=tlen_le l
 have hn1:n≤l.length:=by omega
 have hn2:l.length≤n:=by omega
 clear hlen
 go_enter Tryz.func105,Tryz.ntmps105
 go_wp2
 go_loop [3] (fun s=>∃ k:Nat,k≤n∧tlen l≤k∧s = .int .i64 (k:Int)) (fun s=>(intOf s).toNat)
 case atStart=>exact ⟨n,by omega,by omega,rfl⟩
 case round=>
  obtain ⟨k,hk,hkl,rfl⟩:=hrel
  by_cases h0:k=0
  ·subst h0
   have HZ:=Qh (show tlen l=0 by omega)
   clear ht hkl
   go_wp2
   go_ret
   exact ⟨ret_eq (by rw [HZ.out];rfl),rfl⟩
  ·obtain ⟨b,o,rfl,_,hcell⟩:=hs.at_ (by omega)
   have hx:=hcell (k - 1) (by omega)
   have hk1:1≤k:=by omega
   have hki:(0:Int)<(k:Int):=by omega
   have hks:(k:Int) - 1=((k - 1:Nat):Int):=by omega
   have hkn:((k - 1:Nat):Int)<(n:Int):=by omega
   have hz1:=tlen_take_last (l:=l) (n:=k - 1) (by omega)
   have hz2:=fun h=>tlen_eq_of (l:=l) (n:=k) hkl (.inr h)
   generalize l.getD (k - 1) 0=x at hx hz1 hz2
   clear hcell hs
   by_cases hz:x=0
   ·have hlt:=hz1 hz
    subst hz
    clear hz1 hz2
    go_wp2
    go_round
    case rel=>exact ⟨k - 1,by omega,by omega,rfl⟩
    case measure=>simp [intOf];omega
   ·have HZ:=Qh (hz2 hz)
    have hb:((x:Int)==0)=false:=beq_eq_false_iff_ne.2 (by omega)
    clear hz1 hz2
    go_wp2
    go_ret
    exact ⟨ret_eq (by rw [HZ.out];rfl),rfl⟩
def bitZ (l:List Nat) (i:Int):Nat:=if 0≤i then l.getD i.toNat 0 else 0
theorem getD_past {l:List Nat} {k:Nat} (h:l.length≤k):l.getD k 0=0:=by
 rw [List.getD_eq_getElem?_getD,List.getElem?_eq_none h];rfl
theorem rbit_any {B:Nat} {A:Option Addr} {l:List Nat} {n c:Nat} {w:World} (hs:SlI w B A n c l) (i:Int) :
  Calls Tryz.prog 115 #[.slice A n c,.int .i64 i] w fun e w'=>e = .returned (.int .i64 (bitZ l i:Nat))∧w=w':=by
 have hm:=hs.max
 have hc:=hs.cap
 have hlen:=hs.len
 unfold maxLen at hm
 by_cases h0:0≤i
 ·obtain ⟨k,rfl⟩:=Int.eq_ofNat_of_zero_le h0
  have hv:bitZ l (k:Int)=l.getD k 0:=by rw [bitZ,if_pos h0,Int.toNat_natCast]
  by_cases hk:k<n
  ·obtain ⟨b,o,rfl,_,hcell⟩:=hs.at_ (by omega)
   have hx:=hcell k hk
   have hkI:(k:Int)<(n:Int):=by omega
   rw [←hv] at hx
   generalize bitZ l (k:Int)=x at *
   clear hcell hs hlen hv
   go_enter Tryz.func115,Tryz.ntmps115
   go_wp2
   go_ret
   exact ⟨rfl,rfl⟩
  ·have hz:bitZ l (k:Int)=0:=by rw [hv];exact getD_past (by omega)
   rw [hz]
   have hkI:¬(k:Int)<(n:Int):=by omega
   clear hs hlen hv hz
   go_enter Tryz.func115,Tryz.ntmps115
   go_wp2
   go_ret
   exact ⟨rfl,rfl⟩
 ·have hz:bitZ l i=0:=by rw [bitZ,if_neg h0]
  rw [hz]
  have d0:decide (0≤i)=false:=decide_eq_false h0
  clear hs hlen hz h0
  go_enter Tryz.func115,Tryz.ntmps115
  go_wp2
  go_ret
  exact ⟨rfl,rfl⟩
theorem rlaid_any (neg:Bool) {B:Nat} {A:Option Addr} {l:List Nat} {n c:Nat} {w:World} (hs:SlI w B A n c l) (hB:B≤w.heap.size) :
  Calls Tryz.prog 94 #[.bool neg,.slice A n c] w fun e w'=>e = .returned (.agg #[.bool (sg neg l),.slice A (tlen l) c])∧Below w.heap.size w w':=by
 have HI:=Qh (fun w1 (hb:Below w.heap.size w w1)=>rcut_any (hs.below (C:=w.heap.size) hb hB))
 have HB:=Qh (Below.refl w.heap.size w)
 clear hs hB
 cases neg
 ·go_enter Tryz.func94,Tryz.ntmps94
  go_wp2_with (go_at_call 105;refine (HI.out _ (HB.out.alloc (Nat.le_refl _) _)).mono ?_;rintro e w' ⟨rfl,rfl⟩)
  exact bodyPost_ret (v:=.agg #[.bool false,.slice A (tlen l) c]) (by simp [results,Tryz.results94,go_sem]) rfl ⟨rfl,HB.out.alloc (Nat.le_refl _) _⟩
 ·by_cases h0:tlen l=0
  ·have HS:=Qh (sg_zero (neg:=true) h0)
   rw [h0] at HI ⊢
   clear h0
   go_enter Tryz.func94,Tryz.ntmps94
   go_wp2_with (go_at_call 105;refine (HI.out _ (HB.out.alloc (Nat.le_refl _) _)).mono ?_;rintro e w' ⟨rfl,rfl⟩)
   exact bodyPost_ret (v:=.agg #[.bool false,.slice A 0 c]) (by simp [results,Tryz.results94,go_sem]) rfl ⟨by rw [HS.out],HB.out.alloc (Nat.le_refl _) _⟩
  ·have h1:0<tlen l:=by omega
   have HS:=Qh (sg_pos (neg:=true) h1)
   generalize hk:tlen l=k at HI h1 ⊢
   clear h0 hk
   go_enter Tryz.func94,Tryz.ntmps94
   go_wp2_with (go_at_call 105;refine (HI.out _ (HB.out.alloc (Nat.le_refl _) _)).mono ?_;rintro e w' ⟨rfl,rfl⟩)
   exact bodyPost_ret (v:=.agg #[.bool true,.slice A k c]) (by simp [results,Tryz.results94,go_sem]) rfl ⟨by rw [HS.out],HB.out.alloc (Nat.le_refl _) _⟩
def bval (neg:Bool) (l:List Nat):Int:=if neg then -(nv 2 l:Int) else (nv 2 l:Int)
theorem bval_natAbs (neg:Bool) (l:List Nat):(bval neg l).natAbs=nv 2 l:=by unfold bval;split <;> omega
theorem bval_sg (neg:Bool) (l:List Nat):decide (bval neg l<0)=sg neg l:=by
 have h:=tlen_zero_iff (b:=2) (by decide) l
 cases neg
 ·simp [bval,sg]
 ·by_cases h0:tlen l=0
  ·rw [sg_zero h0];simp [bval,h.1 h0]
  ·rw [sg_pos (by omega)]
   have:nv 2 l≠0:=fun e=>h0 (h.2 e)
   simp [bval];omega
def PostB (w:World) (z:Int) (e:Ending) (w':World):Prop:=∃ v,e = .returned v∧ResB w' w.heap.size v z∧Below w.heap.size w w'
theorem rlaid_at (neg:Bool) {B:Nat} {A:Option Addr} {l:List Nat} {n c:Nat} {w:World} (h:OwnI w B A n c (i64s l)) (hl:l.length=n) (hd:Dig 2 l) {z:Int} (hz:bval neg l=z) :
  Calls Tryz.prog 94 #[.bool neg,.slice A n c] w fun e w'=>e = .returned (.agg #[.bool (decide (z<0)),.slice A (digs 2 z.natAbs).length c])∧OwnI w' B A (digs 2 z.natAbs).length c (i64s (digs 2 z.natAbs))∧Below w.heap.size w w':=by
 refine (rlaid_any neg (h.sl hd hl) (Nat.le_refl _)).mono fun e w' ⟨he,hb⟩=>?_
 have ht:tlen l≤n:=by rw [←hl];exact tlen_le l
 have e1:=tr_eq_digs (b:=2) (by decide) hd
 have e2:(digs 2 (nv 2 l)).length=tlen l:=by rw [←e1,tr_length]
 subst hz
 rw [bval_sg,bval_natAbs,e2,←e1]
 refine ⟨he,?_,hb⟩
 have:=(h.below hb (Nat.le_refl _)).take ht
 rwa [i64s_take] at this
theorem ResB.stored {w w2:World} {base g:Nat} {v u u':Value} {z:Int} (hr:ResB w2 base v z) (hb:Below w.heap.size w w2) (hg:g<base) (hwg:w.heap.size≤g) :
  ResB ((w2.setCell ⟨g,0,none⟩ u).setCell ⟨g,1,none⟩ u') w.heap.size v z∧Below w.heap.size w ((w2.setCell ⟨g,0,none⟩ u).setCell ⟨g,1,none⟩ u'):=by
 refine ⟨?_,(hb.setCell (by simpa using hwg) _).setCell (by simpa using hwg) _⟩
 obtain ⟨A,c,hv,ho⟩:=hr
 exact ⟨A,c,hv,Own.mono (Own.farB (Own.farB ho (p:=⟨g,0,none⟩) hg u) (p:=⟨g,1,none⟩) hg u') (by omega)⟩
def lb (x:Nat):Nat→List Nat | 0=>[] | k+1=>lb x k ++ [x / 2 ^ k % 2]
theorem lb_length (x:Nat):∀ k,(lb x k).length=k | 0=>rfl | k+1=>by rw [lb,List.length_append,lb_length x k];rfl
theorem lb_dig (x:Nat):∀ k,Dig 2 (lb x k) | 0=>Dig.nil _ | k+1=>(lb_dig x k).append (Dig.cons (Nat.mod_lt _ (by decide)) (Dig.nil _))
theorem lb_nv (x:Nat):∀ k,nv 2 (lb x k)=x % 2 ^ k
 | 0=>by rw [Nat.pow_zero,Nat.mod_one];rfl
 | k+1=>by rw [lb,nv_snoc,lb_length,lb_nv x k,Nat.pow_succ,Nat.mod_mul]
def ob (l:List Nat):List Nat:=(l.map fun x=>lb x 32).flatten
theorem ob_nil:ob [] = []:=rfl
theorem ob_snoc (l:List Nat) (x:Nat):ob (l ++ [x])=ob l ++ lb x 32:=by simp [ob]
theorem ob_length (l:List Nat):(ob l).length=32 * l.length:=by
 induction l with
 | nil=>rfl
 | cons x l ih=>rw [ob,List.map_cons,List.flatten_cons,List.length_append,lb_length];unfold ob at ih;rw [ih,List.length_cons];omega
theorem ob_dig (l:List Nat):Dig 2 (ob l):=by
 induction l with
 | nil=>exact Dig.nil _
 | cons x l ih=>rw [ob,List.map_cons,List.flatten_cons];exact (lb_dig x 32).append ih
theorem ob_nv {l:List Nat} (hd:Dig W l):nv 2 (ob l)=nv W l:=by
 induction l with
 | nil=>rfl
 | cons x l ih=>
  have h1:=ih hd.tail
  have hx:=hd.head
  rw [ob,List.map_cons,List.flatten_cons,nv_append,lb_length,lb_nv,nv_cons]
  unfold ob at h1
  rw [h1,Nat.mod_eq_of_lt hx]
theorem wpList_append_i64 {ops:Array Oper} {rest:List Oper} {o:Oper} {a:Act} {Q:Exit→Act→World→Prop} {w:World} (hgd:o.guard=none) (s x:Operand)
  (ho:o.op = .call { callee:=.builtin .append,args:=#[s,x],argTypes:=#[77,77] })
  (base:Nat) (A:Option Addr) (n cp:Nat) (l:List Nat) (hs:a.eval s = .slice A n cp) (hown:OwnI w base A n cp (i64s l))
  (g:Nat) (y:Nat) (hx:a.eval x = .slice (some ⟨g,0,none⟩) 1 1) (hc:w.cell? ⟨g,0,none⟩=some (.int .i64 (y:Int))) (hn:n≤4294967296) (hbase:base≤w.heap.size)
  (h:∀ A' c' w',OwnI w' base A' (n+1) c' (i64s (l ++ [y]))→Below base w w'→wpList Tryz.prog ops Q rest (a.put o.dst (.slice A' (n+1) c')) w'):wpList Tryz.prog ops Q (o :: rest) a w:=by
 obtain ⟨i0,hi,hz0,hz1,hz2⟩:=info_parts infoI
 refine wpList_append_own _ hgd s x 77 ho base 3 i0 (.int .i64 0) 1 8 Tryz.underlying77 hi hz0 hz1 hz2 rfl (by decide) _ n (i64s l) hs hown ⟨g,0,none⟩ 1 1 [.int .i64 (y:Int)] hx rfl ?_ ?_ (by simp [maxLen];omega) (by omega) hbase ?_
 ·intro j u hj
  cases j with
  | zero=>simp at hj;subst hj;exact hc
  | succ j=>simp at hj
 ·intro u hu;simp at hu;subst hu;rfl
 ·intro v' w' hown' hg _
  have hf:∃ A' c',v' = .slice A' (n+1) c':=by
   rcases hown'.2 with ⟨h1,h2⟩ | ⟨g',cap,cur,h1,_⟩
   ·exact absurd h2 (by simp)
   ·exact ⟨_,_,h1⟩
  obtain ⟨A',c',rfl⟩:=hf
  refine h A' c' w' (by have h3:=hown';rw [show i64s l ++ [Value.int .i64 (y:Int)]=i64s (l ++ [y]) by simp [i64s]] at h3;exact h3) ⟨hg.os,hg.tape,hg.output,hg.size,fun j hj=>hg.block j (by omega) ?_⟩
  rcases Own.form hown with ⟨rfl,_⟩ | ⟨g',rfl,h4,_⟩
  ·simp [Value.ownBlock]
  ·simp [Value.ownBlock];omega
def OfRel (W0:World) (bs:List Nat) (bv:Value) (wr:World):Prop:=
 ∃ A n c,bv = .slice A n c∧OwnI wr W0.heap.size A n c (i64s bs)∧bs.length=n∧Below W0.heap.size W0 wr
theorem OfRel.start (W0:World):OfRel W0 [] (.slice none 0 0) W0:=⟨none,0,0,rfl,⟨rfl,.inl ⟨rfl,rfl⟩⟩,rfl,Below.refl _ _⟩
theorem Of_any (neg:Bool) {B:Nat} {A:Option Addr} {l:List Nat} {n c:Nat} {w:World} (hs:SlU w B A n c l) (hn:n≤67108864) (hB:B≤w.heap.size) {z:Int} (hz:ival neg l=z) :
  Calls Tryz.prog 70 #[.agg #[.bool neg,.slice A n c]] w (PostB w z):=by
 have hlen:=hs.len
 have hd:=hs.dig
 have HZ:=Qh (show bval neg (ob l)=z by rw [←hz];unfold bval ival;rw [ob_nv hd])
 have HL:=Qh (show l.take n=l from List.take_of_length_le (by omega))
 have HSn:=Qh (fun k (hk:k<n)=>show ob (l.take (k+1))=ob (l.take k) ++ lb (l.getD k 0) 32 by rw [List.take_succ_eq_append_getElem (by omega),ob_snoc,getD_eq (by omega)])
 have HLn:=Qh (fun k (hk:k≤n)=>show (ob (l.take k)).length=32 * k by rw [ob_length,List.length_take,hlen,Nat.min_eq_left hk])
 have HDg:=Qh (fun k=>hd.getD (b:=4294967296) (by decide) k)
 have HOl:=Qh (ob_length l)
 have HOd:=Qh (ob_dig l)
 have B2:=Qh (((Below.refl w.heap.size w).alloc (Nat.le_refl _) (.cells #[.bool neg,.slice A n c] 56)).alloc (by simp) (.cells #[.bool false,.slice none 0 0] 79))
 have hb0:=(Bx.new w (.bool neg) (.slice A n c)).alloc (.cells #[.bool false,.slice none 0 0] 79)
 have HS2:=Qh (hs.below (C:=w.heap.size) B2.out hB)
 have HX0:=Qh hb0
 have HX1:=Qh (show ((w.alloc (.cells #[.bool neg,.slice A n c] 56)).alloc (.cells #[.bool false,.slice none 0 0] 79)).heap[w.heap.size+1]?=some (.cells #[.bool false,.slice none 0 0] 79 (0,0)) from heap_second w _ _)
 have hz2:w.heap.size+1<((w.alloc (.cells #[.bool neg,.slice A n c] 56)).alloc (.cells #[.bool false,.slice none 0 0] 79)).heap.size:=by simp
 have hn9:(n:Int)≤67108864:=by omega
 clear hs hlen hd hz hb0
 go_enter Tryz.func70,Tryz.ntmps70
 go_wp2_with fail
 generalize ((w.alloc (.cells #[.bool neg,.slice A n c] 56)).alloc (.cells #[.bool false,.slice none 0 0] 79))=W0 at *
 have HR0:=Qh (OfRel.start W0)
 go_loopw [3,4] (fun bv iv wr=>∃ i:Nat,i≤n∧iv = .int .i64 i∧OfRel W0 (ob (l.take i)) bv wr) (fun _ iv _=>n - (intOf iv).toNat)
 case atStart=>exact ⟨0,Nat.zero_le _,rfl,by simpa [ob_nil] using HR0.out⟩
 case round=>
  obtain ⟨i,hi,rfl,A1,n1,c1,rfl,ho1,hl1,hb1⟩:=hrel
  have HO:=Qh ho1
  have HLl:=Qh hl1
  have HB1:=Qh hb1
  have hz1:=hb1.size
  obtain ⟨a0,a1,_,_⟩:=(HX0.out.below hb1 (Bx.lt HX0.out)).facts
  have hi0:(0:Int)≤(i:Int):=by omega
  clear ho1 hl1 hb1
  by_cases hin:i<n
  ·have hiI:(i:Int)<(n:Int):=by omega
   have hcell:=SlU.at_ (HS2.out.below (C:=W0.heap.size) HB1.out (by omega)) (by omega)
   obtain ⟨b,off,hAe,hbb,hc⟩:=hcell
   subst hAe
   have hx:=hc i hin
   have hxb:=HDg.out i
   have HS3:=Qh (HSn.out i hin)
   have hl3:=HLn.out i hi
   generalize l.getD i 0=x at *
   clear hc HSn HDg HOl HOd HZ HL
   generalize ob (l.take i)=bs at *
   have hn1:n1≤2147483648:=by rw [←HLl.out,hl3];omega
   have HR1:=Qh (show OfRel W0 (bs ++ lb x 0) (.slice A1 n1 c1) wr from ⟨A1,n1,c1,rfl,by simpa [lb] using HO.out,by simpa [lb] using HLl.out,HB1.out⟩)
   have HBS:=Qh (show bs.length≤2147483648 by omega)
   clear hl3 hn1 HO HLl
   go_wp2_with fail
   go_loopw [3,5,6] (fun bv xv kv wr2=>∃ k X:Nat,k≤32∧kv = .int .i64 k∧xv = .int .u32 (X:Int)∧Hid (x / 2 ^ k=X)∧X<4294967296∧OfRel W0 (bs ++ lb x k) bv wr2) (fun _ _ kv _=>32 - (intOf kv).toNat)
   case atStart=>exact ⟨0,x,by omega,rfl,rfl,Qh (by rw [Nat.pow_zero,Nat.div_one]),hxb,HR1.out⟩
   case round=>
    obtain ⟨k,X,hk,rfl,rfl,hX,hXb,A2,n2,c2,rfl,ho2,hl2,hb2⟩:=hrel
    have HO2:=Qh ho2
    have HL2:=Qh hl2
    have HB2:=Qh hb2
    have hz3:=hb2.size
    have hk0:(0:Int)≤(k:Int):=by omega
    clear ho2 hl2 hb2 HR1
    by_cases hk32:k<32
    ·have hkI:(k:Int)<32:=by omega
     obtain ⟨y,hy⟩:∃ y,X % 2=y:=⟨_,rfl⟩
     obtain ⟨q,hq⟩:∃ q,X / 2=q:=⟨_,rfl⟩
     have hyI:(X:Int) % 2=(y:Int):=by omega
     have hqI:(X:Int) / 2=(q:Int):=by omega
     have hyt:(X:Int).tmod 2=(y:Int):=by rw [Int.tmod_eq_emod_of_nonneg (by omega)];exact hyI
     have hy2:y<2:=by omega
     have hn2:n2≤4294967296:=by
      have h1:=HL2.out
      rw [List.length_append,lb_length] at h1
      have:=HBS.out
      omega
     have HLB:=Qh (show lb x (k+1)=lb x k ++ [y] by rw [lb,hX.out,hy])
     have HXq:=Qh (show x / 2 ^ (k+1)=q by rw [Nat.pow_succ,←Nat.div_div_eq_div_mul,hX.out,hq])
     have hqb:q<4294967296:=by omega
     clear hy hq
     go_wp2_with (at_builtin;refine wpList_append_i64 (by rfl) _ _ (by rfl) W0.heap.size A2 n2 c2 (bs ++ lb x k) (by rfl) (Own.alloc HO2.out _) wr.heap.size y (by rfl) (by simp [go_sem]) hn2 (by simp;omega) ?_;intro A3 c3 w3 ho3 hb3)
     have HR3:=Qh (show OfRel W0 (bs ++ lb x (k+1)) (.slice A3 (n2+1) c3) w3 from ⟨A3,n2+1,c3,rfl,by rw [HLB.out,←List.append_assoc];exact ho3,by rw [HLB.out,←List.append_assoc,List.length_append,HL2.out];rfl,(HB2.out.alloc (by omega) _).trans hb3⟩)
     clear ho3 hb3
     go_wp2_with fail
     go_roundw
     case rel=>exact ⟨k+1,q,by omega,by go_num,rfl,HXq,hqb,HR3.out⟩
     case measure=>simp [intOf];omega
    ·obtain rfl:k=32:=by omega
     have HR4:=Qh (show OfRel W0 (ob (l.take (i+1))) (.slice A2 n2 c2) wr from ⟨A2,n2,c2,rfl,by rw [HS3.out];exact HO2.out,by rw [HS3.out];exact HL2.out,HB2.out⟩)
     clear HO2 HL2
     go_wp2_with fail
     go_roundw
     case rel=>exact ⟨i+1,by omega,by go_num,HR4.out⟩
     case measure=>simp [intOf];omega
  ·obtain rfl:i=n:=by omega
   have HOn:=Qh (show OwnI wr W0.heap.size A1 n1 c1 (i64s (ob l)) by have:=HO.out;rwa [HL.out] at this)
   have HLo:=Qh (show (ob l).length=n1 by have:=HLl.out;rwa [HL.out] at this)
   obtain ⟨r0,r1,r2,r3⟩:=two_cells HB1.out HX1.out hz2
   have HBf:=Qh (Qt B2.out HB1.out)
   clear HO HLl HR0 HSn HDg
   go_wp2_with fail
   (with_reducible refine (rlaid_at neg HOn.out HLo.out HOd.out HZ.out).mono ?_)
   rintro ex w5 ⟨rfl,ho5,hb5⟩
   obtain ⟨r0,r1,r2,r3⟩:=two_cells (Qt HB1.out hb5) HX1.out hz2
   have HO5:=Qh ho5
   have HB5:=Qh (Qt HBf.out hb5)
   have hz5:=hb5.size
   clear ho5 hb5
   go_wp2
   have hr:=ResB.stored (w:=w) (g:=w.heap.size+1) (u:=.bool (decide (z<0))) (u':=.slice A1 (digs 2 z.natAbs).length c1) ⟨A1,c1,rfl,HO5.out⟩ HB5.out (by omega) (by omega)
   exact bodyPost_ret (v:=.agg #[.bool (decide (z<0)),.slice A1 (digs 2 z.natAbs).length c1]) (by simp [results,Tryz.results70,go_sem,r0,r1]) rfl ⟨_,rfl,hr.1,hr.2⟩
def PostL (w:World) (v:Nat) (e:Ending) (w':World):Prop:=
 ∃ A c,e = .returned (.slice A (digs 2 v).length c)∧OwnI w' w.heap.size A (digs 2 v).length c (i64s (digs 2 v))∧Below w.heap.size w w'
theorem rcut_own {B:Nat} {A:Option Addr} {o:List Nat} {n c:Nat} {w:World} (ho:OwnI w B A n c (i64s o)) (hl:o.length=n) (hd:Dig 2 o) {v:Nat} (hv:nv 2 o=v) :
  Calls Tryz.prog 105 #[.slice A n c] w fun e w'=>e = .returned (.slice A (digs 2 v).length c)∧w=w':=by
 refine (rcut_any (ho.sl hd hl)).mono fun e w' ⟨he,hw⟩=>⟨?_,hw⟩
 rw [he,←hv,←tr_eq_digs (b:=2) (by decide) hd,tr_length]
theorem own_cut {w:World} {B:Nat} {A:Option Addr} {o:List Nat} {n c:Nat} (ho:OwnI w B A n c (i64s o)) (hl:o.length=n) (hd:Dig 2 o) {v:Nat} (hv:nv 2 o=v):OwnI w B A (digs 2 v).length c (i64s (digs 2 v)):=by
 have e1:=tr_eq_digs (b:=2) (by decide) hd
 rw [hv] at e1
 rw [←e1,tr_length,tr,←i64s_take]
 exact ho.take (by rw [←hl];exact tlen_le o)
theorem add_step2 {P v c x y X Y t:Nat} (h:v+P * c=X+Y) (ht:t=x+y+c):(v+P * (t % 2))+P * 2 * (t / 2)=(X+P * x)+(Y+P * y):=by
 have h1:P * (t % 2)+P * 2 * (t / 2)=P * t:=by rw [Nat.mul_assoc,←Nat.mul_add,Nat.mod_add_div]
 rw [Nat.add_assoc,h1,ht,Nat.mul_add,Nat.mul_add];omega
def RAdd (W0:World) (a b:List Nat) (k c:Nat) (ov:Value) (wr:World):Prop:=
 ∃ A n cp o,ov = .slice A n cp∧OwnI wr W0.heap.size A n cp (i64s o)∧o.length=n∧n=k∧Dig 2 o∧nv 2 o+2 ^ k * c=nvp 2 a k+nvp 2 b k∧c≤1∧Below W0.heap.size W0 wr
theorem RAdd.start (W0:World) (a b:List Nat):RAdd W0 a b 0 0 (.slice none 0 0) W0:=
 ⟨none,0,0,[],rfl,⟨rfl,.inl ⟨rfl,rfl⟩⟩,rfl,rfl,Dig.nil _,by simp [nv,nvp_zero],by omega,Below.refl _ _⟩
theorem bitZ_nat (l:List Nat) (k:Nat):bitZ l (k:Int)=l.getD k 0:=by rw [bitZ,if_pos (by omega),Int.toNat_natCast]
theorem radd_any {B B':Nat} {A A':Option Addr} {l m:List Nat} {n c n' c':Nat} {w:World} (hs:SlI w B A n c l) (ht:SlI w B' A' n' c' m) (hn:n≤2147483648) (hn':n'≤2147483648) (hB:B≤w.heap.size) (hB':B'≤w.heap.size) :
  Calls Tryz.prog 122 #[.slice A n c,.slice A' n' c'] w (PostL w (nv 2 l+nv 2 m)):=by
 have hl1:=hs.len
 have hl2:=ht.len
 have HB1:=Qh (fun k w1 (hb:Below w.heap.size w w1)=>show Calls Tryz.prog 115 #[.slice A n c,.int .i64 ((k:Nat):Int)] w1 (fun e w'=>e = .returned (.int .i64 (l.getD k 0:Nat))∧w1=w') by
  have:=rbit_any (hs.below (C:=w.heap.size) hb hB) (k:Int);rwa [bitZ_nat] at this)
 have HB2:=Qh (fun k w1 (hb:Below w.heap.size w w1)=>show Calls Tryz.prog 115 #[.slice A' n' c',.int .i64 ((k:Nat):Int)] w1 (fun e w'=>e = .returned (.int .i64 (m.getD k 0:Nat))∧w1=w') by
  have:=rbit_any (ht.below (C:=w.heap.size) hb hB') (k:Int);rwa [bitZ_nat] at this)
 have HD:=Qh (Qa (fun k=>hs.dig.getD (b:=2) (by decide) k) (fun k=>ht.dig.getD (b:=2) (by decide) k))
 have HE:=Qh (fun k (h1:n≤k) (h2:n'≤k)=>show nvp 2 l k+nvp 2 m k=nv 2 l+nv 2 m by rw [nvp_all (by omega),nvp_all (by omega)])
 have HG:=Qh (fun k (h1:n≤k) (h2:n'≤k)=>show l.getD k 0=0∧m.getD k 0=0 from ⟨getD_past (by omega),getD_past (by omega)⟩)
 have HR0:=Qh (RAdd.start w l m)
 have hnI:(n:Int)≤2147483648:=by omega
 have hnI':(n':Int)≤2147483648:=by omega
 clear hs ht hB hB' hl1 hl2
 go_enter Tryz.func122,Tryz.ntmps122
 go_wp2_with fail
 go_loopw [5,6,7] (fun ov cv kv wr=>∃ k cc:Nat,k≤max n n'+1∧kv = .int .i64 (k:Int)∧cv = .int .i64 (cc:Int)∧(max n n'+1≤k→cc=0)∧RAdd w l m k cc ov wr) (fun _ _ kv _=>max n n'+1 - (intOf kv).toNat)
 case atStart=>exact ⟨0,0,by omega,rfl,rfl,fun _=>rfl,HR0.out⟩
 case round=>
  obtain ⟨k,cc,hk,rfl,rfl,hkc,A2,n2,c2,o,rfl,ho,hlo,hnk,hdo,hvo,hc1,hb⟩:=hrel
  obtain rfl:n2=k:=hnk
  have HO:=Qh ho
  have HX:=Qh (Qa hlo (Qa hdo hvo))
  have HB:=Qh hb
  have HKC:=Qh hkc
  have hz1:=hb.size
  have hk0:(0:Int)≤(n2:Int):=by omega
  have hc0:(0:Int)≤(cc:Int):=by omega
  clear ho hlo hdo hvo hb hkc HR0
  by_cases hgo:n2<n∨n2<n'∨0<cc
  ·have hk9:n2≤max n n':=by
    rcases hgo with h | h | h
    ·omega
    ·omega
    ·have:=mt HKC.out (show ¬cc=0 by omega);omega
   have hxb:=HD.out.1 n2
   have hyb:=HD.out.2 n2
   have HC1:=Qh (HB1.out n2 wr HB.out)
   have HC2:=Qh (HB2.out n2 wr HB.out)
   have HNs:=Qh (Qa (nvp_succ 2 l n2) (nvp_succ 2 m n2))
   have HGk:=Qh (fun h1 h2=>HG.out n2 h1 h2)
   generalize l.getD n2 0=x at *
   generalize m.getD n2 0=y at *
   obtain ⟨t,htd⟩:∃ t,x+y+cc=t:=⟨_,rfl⟩
   obtain ⟨r,hr⟩:∃ r,t % 2=r:=⟨_,rfl⟩
   obtain ⟨q,hq⟩:∃ q,t / 2=q:=⟨_,rfl⟩
   have htI:(x:Int)+(y:Int)+(cc:Int)=(t:Int):=by omega
   have ht9:t≤3:=by omega
   have ht0:(0:Int)≤(t:Int):=by omega
   have hrI:(t:Int) % 2=(r:Int):=by omega
   have hqI:(t:Int) / 2=(q:Int):=by omega
   have hq1:q≤1:=by omega
   have hr2:r<2:=by omega
   have HST:=Qh (show nv 2 (o ++ [r])+2 ^ (n2+1) * q=nvp 2 l (n2+1)+nvp 2 m (n2+1) by
    rw [nv_snoc,HX.out.1,HNs.out.1,HNs.out.2,Nat.pow_succ,←hr,←hq]
    exact add_step2 HX.out.2.2 htd.symm)
   have HQ0:=Qh (show max n n'+1≤n2+1→q=0 by
    intro h
    obtain ⟨h1,h2⟩:=HGk.out (by omega) (by omega)
    omega)
   have HRN:=Qh (fun A3 c3 w3 (h1:OwnI w3 w.heap.size A3 (n2+1) c3 (i64s (o ++ [r]))) (h2:Below w.heap.size w w3)=>show RAdd w l m (n2+1) q (.slice A3 (n2+1) c3) w3 from
    ⟨A3,n2+1,c3,o ++ [r],rfl,h1,by rw [List.length_append,HX.out.1];rfl,rfl,HX.out.2.1.append (Dig.cons hr2 (Dig.nil _)),HST.out,hq1,h2⟩)
   have hn2b:n2≤4294967296:=by omega
   have hrt:(t:Int).tmod 2=(r:Int):=by rw [Int.tmod_eq_emod_of_nonneg ht0];exact hrI
   have hx1:(x:Int)≤1:=by omega
   have hy1:(y:Int)≤1:=by omega
   have hx0:(0:Int)≤(x:Int):=by omega
   have hy0:(0:Int)≤(y:Int):=by omega
   clear htd hr hq hyb hxb HNs HGk HD HE HG HB1 HB2 HST hq1 hr2 HKC
   rcases Nat.lt_or_ge n2 n with h1 | h1
   ·have e1:(n2:Int)<(n:Int):=by omega
    clear hgo
    go_wp2_with (first
     | (go_at_call 115;(with_reducible refine HC1.out.mono ?_);rintro e w' ⟨rfl,rfl⟩)
     | (go_at_call 115;(with_reducible refine HC2.out.mono ?_);rintro e w' ⟨rfl,rfl⟩)
     | (at_builtin;refine wpList_append_i64 (by rfl) _ _ (by rfl) w.heap.size A2 n2 c2 o (by rfl) (Own.alloc HO.out _) wr.heap.size r (by rfl) (by simp [go_sem]) hn2b (by simp;omega) ?_;intro A3 c3 w3 ho3 hb3))
    have HRX:=Qh (HRN.out A3 c3 w3 ho3 ((HB.out.alloc hz1 _).trans hb3))
    clear ho3 hb3
    go_wp2_with fail
    go_roundw
    case rel=>exact ⟨n2+1,q,by omega,by go_num,rfl,HQ0.out,HRX.out⟩
    case measure=>simp [intOf];omega
   ·have e1:¬(n2:Int)<(n:Int):=by omega
    rcases Nat.lt_or_ge n2 n' with h2 | h2
    ·have e2:(n2:Int)<(n':Int):=by omega
     clear hgo
     go_wp2_with (first
      | (go_at_call 115;(with_reducible refine HC1.out.mono ?_);rintro e w' ⟨rfl,rfl⟩)
      | (go_at_call 115;(with_reducible refine HC2.out.mono ?_);rintro e w' ⟨rfl,rfl⟩)
      | (at_builtin;refine wpList_append_i64 (by rfl) _ _ (by rfl) w.heap.size A2 n2 c2 o (by rfl) (Own.alloc HO.out _) wr.heap.size r (by rfl) (by simp [go_sem]) hn2b (by simp;omega) ?_;intro A3 c3 w3 ho3 hb3))
     have HRX:=Qh (HRN.out A3 c3 w3 ho3 ((HB.out.alloc hz1 _).trans hb3))
     clear ho3 hb3
     go_wp2_with fail
     go_roundw
     case rel=>exact ⟨n2+1,q,by omega,by go_num,rfl,HQ0.out,HRX.out⟩
     case measure=>simp [intOf];omega
    ·have e2:¬(n2:Int)<(n':Int):=by omega
     have e3:(0:Int)<(cc:Int):=by omega
     clear hgo
     go_wp2_with (first
      | (go_at_call 115;(with_reducible refine HC1.out.mono ?_);rintro e w' ⟨rfl,rfl⟩)
      | (go_at_call 115;(with_reducible refine HC2.out.mono ?_);rintro e w' ⟨rfl,rfl⟩)
      | (at_builtin;refine wpList_append_i64 (by rfl) _ _ (by rfl) w.heap.size A2 n2 c2 o (by rfl) (Own.alloc HO.out _) wr.heap.size r (by rfl) (by simp [go_sem]) hn2b (by simp;omega) ?_;intro A3 c3 w3 ho3 hb3))
     have HRX:=Qh (HRN.out A3 c3 w3 ho3 ((HB.out.alloc hz1 _).trans hb3))
     clear ho3 hb3
     go_wp2_with fail
     go_roundw
     case rel=>exact ⟨n2+1,q,by omega,by go_num,rfl,HQ0.out,HRX.out⟩
     case measure=>simp [intOf];omega
  ·obtain rfl:cc=0:=by omega
   have HV:=Qh (show nv 2 o=nv 2 l+nv 2 m by have h1:=HX.out.2.2;rw [Nat.mul_zero,Nat.add_zero] at h1;rw [h1];exact HE.out n2 (by omega) (by omega))
   have e1:¬(n2:Int)<(n:Int):=by omega
   have e2:¬(n2:Int)<(n':Int):=by omega
   have HC:=Qh (rcut_own HO.out HX.out.1 HX.out.2.1 HV.out)
   have HF:=Qh (own_cut HO.out HX.out.1 HX.out.2.1 HV.out)
   generalize nv 2 l+nv 2 m=v at *
   clear hgo HD HE HG HB1 HB2 HKC HX HV HO
   go_wp2_with (go_at_call 105;(with_reducible refine HC.out.mono ?_);rintro e w' ⟨rfl,rfl⟩)
   go_ret
   exact ⟨_,_,rfl,HF.out,HB.out⟩
def RSub (W0:World) (a b:List Nat) (k c:Nat) (ov:Value) (wr:World):Prop:=
 ∃ A n cp o,ov = .slice A n cp∧OwnI wr W0.heap.size A n cp (i64s o)∧o.length=n∧n=k∧Dig 2 o∧nv 2 o+nvp 2 b k=nvp 2 a k+2 ^ k * c∧c≤1∧Below W0.heap.size W0 wr
theorem RSub.start (W0:World) (a b:List Nat):RSub W0 a b 0 0 (.slice none 0 0) W0:=
 ⟨none,0,0,[],rfl,⟨rfl,.inl ⟨rfl,rfl⟩⟩,rfl,rfl,Dig.nil _,by simp [nv,nvp_zero],by omega,Below.refl _ _⟩
theorem rsub_any {B B':Nat} {A A':Option Addr} {l m:List Nat} {n c n' c':Nat} {w:World} (hs:SlI w B A n c l) (ht:SlI w B' A' n' c' m) (hn:n≤2147483648) (hB:B≤w.heap.size) (hB':B'≤w.heap.size) (hle:n'≤n) (hvl:nv 2 m≤nv 2 l) :
  Calls Tryz.prog 124 #[.slice A n c,.slice A' n' c'] w (PostL w (nv 2 l - nv 2 m)):=by
 have hl1:=hs.len
 have hl2:=ht.len
 have HB2:=Qh (fun k w1 (hb:Below w.heap.size w w1)=>show Calls Tryz.prog 115 #[.slice A' n' c',.int .i64 ((k:Nat):Int)] w1 (fun e w'=>e = .returned (.int .i64 (m.getD k 0:Nat))∧w1=w') by
  have:=rbit_any (ht.below (C:=w.heap.size) hb hB') (k:Int);rwa [bitZ_nat] at this)
 have HD:=Qh (Qa (fun k=>hs.dig.getD (b:=2) (by decide) k) (fun k=>ht.dig.getD (b:=2) (by decide) k))
 have HE:=Qh (show nvp 2 l n=nv 2 l∧nvp 2 m n=nv 2 m from ⟨nvp_all (by omega),nvp_all (by omega)⟩)
 have HA:=Qh (fun k (hk:k<n) w1 (hb:Below w.heap.size w w1)=>show ∃ b o,A=some ⟨b,o,none⟩∧w1.cell? ⟨b,o+k,none⟩=some (.int .i64 (l.getD k 0:Nat)) from by
  obtain ⟨b,o,h1,_,h3⟩:=SlI.at_ (hs.below (C:=w.heap.size) hb hB) (by omega)
  exact ⟨b,o,h1,h3 k hk⟩)
 have HVL:=Qh hvl
 have HR0:=Qh (RSub.start w l m)
 have hnI:(n:Int)≤2147483648:=by omega
 clear hs ht hB hB' hl1 hl2 hvl
 go_enter Tryz.func124,Tryz.ntmps124
 go_wp2_with fail
 go_loopw [5,6,7] (fun ov cv kv wr=>∃ k cc:Nat,k≤n∧kv = .int .i64 (k:Int)∧cv = .int .i64 (cc:Int)∧RSub w l m k cc ov wr) (fun _ _ kv _=>n - (intOf kv).toNat)
 case atStart=>exact ⟨0,0,by omega,rfl,rfl,HR0.out⟩
 case round=>
  obtain ⟨k,cc,hk,rfl,rfl,A2,n2,c2,o,rfl,ho,hlo,hnk,hdo,hvo,hc1,hb⟩:=hrel
  obtain rfl:n2=k:=hnk
  have HO:=Qh ho
  have HX:=Qh (Qa hlo (Qa hdo hvo))
  have HB:=Qh hb
  have hz1:=hb.size
  have hk0:(0:Int)≤(n2:Int):=by omega
  have hc0:(0:Int)≤(cc:Int):=by omega
  clear ho hlo hdo hvo hb HR0
  by_cases hgo:n2<n
  ·have e1:(n2:Int)<(n:Int):=by omega
   have hxb:=HD.out.1 n2
   have hyb:=HD.out.2 n2
   obtain ⟨ab,ao,hAe,hcell⟩:=HA.out n2 hgo wr HB.out
   subst hAe
   have HC2:=Qh (fun w1 (hb:Below w.heap.size w w1)=>HB2.out n2 w1 hb)
   have HNs:=Qh (Qa (nvp_succ 2 l n2) (nvp_succ 2 m n2))
   generalize l.getD n2 0=x at *
   generalize m.getD n2 0=y at *
   obtain ⟨t,htd⟩:∃ t:Int,(x:Int) - (y:Int) - (cc:Int)=t:=⟨_,rfl⟩
   obtain ⟨r,q,hrq,hr2,hq1⟩:∃ r q:Nat,r+y+cc=x+2 * q∧r<2∧q≤1:=by
    by_cases h:x<y+cc
    ·exact ⟨x+2 - y - cc,1,by omega,by omega,by omega⟩
    ·exact ⟨x - y - cc,0,by omega,by omega,by omega⟩
   have hw1:IntKind.i64.wrap ((x:Int) - (y:Int))=(x:Int) - (y:Int):=IntWalk.i64_in _ (by omega)
   have hw2:IntKind.i64.wrap t=t:=IntWalk.i64_in _ (by omega)
   have HST:=Qh (show nv 2 (o ++ [r])+nvp 2 m (n2+1)=nvp 2 l (n2+1)+2 ^ (n2+1) * q by
    rw [nv_snoc,HX.out.1,HNs.out.1,HNs.out.2]
    exact sub_step HX.out.2.2 hrq)
   have HRN:=Qh (fun A3 c3 w3 (h1:OwnI w3 w.heap.size A3 (n2+1) c3 (i64s (o ++ [r]))) (h2:Below w.heap.size w w3)=>show RSub w l m (n2+1) q (.slice A3 (n2+1) c3) w3 from
    ⟨A3,n2+1,c3,o ++ [r],rfl,h1,by rw [List.length_append,HX.out.1];rfl,rfl,HX.out.2.1.append (Dig.cons hr2 (Dig.nil _)),HST.out,hq1,h2⟩)
   have hn2b:n2≤4294967296:=by omega
   have HBd:=Qh (fun q'=>belowN HB.out q')
   have htb : -2≤t∧t≤1:=by omega
   have hcase:(t<0∧t+2=(r:Int)∧q=1)∨(0≤t∧t=(r:Int)∧q=0):=by omega
   obtain ⟨tb1,tb2⟩:=htb
   clear hrq hyb hxb HNs HD HE HA HB2 HST hq1 hr2 HVL
   rcases hcase with ⟨c1,c2',rfl⟩ | ⟨c1,c2',rfl⟩
   ·have d1:decide (t<0)=true:=decide_eq_true c1
    go_wp2_with fail
    go_quiet ((go_at_call 115;(with_reducible exact quiet_left (HC2.out _ (HBd.out _)))))
    clear hw1 hw2
    have HO6:=Qh (show OwnI (wr.drewN nq) w.heap.size A2 n2 c2 (i64s o) from HO.out)
    have HB6:=Qh (HBd.out nq)
    have hz6:=(HBd.out nq).size
    clear HO HB HBd hz1 HC2 hcell
    generalize wr.drewN nq=w6 at *
    go_wp2_with (at_builtin;refine wpList_append_i64 (by rfl) _ _ (by rfl) w.heap.size A2 n2 c2 o (by rfl) (Own.alloc HO6.out _) w6.heap.size r (by rfl) (by simp [go_sem]) hn2b (by simp;omega) ?_;intro A3 c3 w3 ho3 hb3)
    have HRX:=Qh (HRN.out A3 c3 w3 ho3 ((HB6.out.alloc hz6 _).trans hb3))
    clear ho3 hb3
    go_wp2_with fail
    go_roundw
    case rel=>exact ⟨n2+1,1,by omega,by go_num,rfl,HRX.out⟩
    case measure=>simp [intOf];omega
   ·have d1:decide (t<0)=false:=decide_eq_false (by omega)
    obtain rfl:t=(r:Int):=c2'
    go_wp2_with fail
    go_quiet ((go_at_call 115;(with_reducible exact quiet_left (HC2.out _ (HBd.out _)))))
    clear hw1 hw2
    have HO6:=Qh (show OwnI (wr.drewN nq) w.heap.size A2 n2 c2 (i64s o) from HO.out)
    have HB6:=Qh (HBd.out nq)
    have hz6:=(HBd.out nq).size
    clear HO HB HBd hz1 HC2 hcell
    generalize wr.drewN nq=w6 at *
    go_wp2_with (at_builtin;refine wpList_append_i64 (by rfl) _ _ (by rfl) w.heap.size A2 n2 c2 o (by rfl) (Own.alloc HO6.out _) w6.heap.size r (by rfl) (by simp [go_sem]) hn2b (by simp;omega) ?_;intro A3 c3 w3 ho3 hb3)
    have HRX:=Qh (HRN.out A3 c3 w3 ho3 ((HB6.out.alloc hz6 _).trans hb3))
    clear ho3 hb3
    go_wp2_with fail
    go_roundw
    case rel=>exact ⟨n2+1,0,by omega,by go_num,rfl,HRX.out⟩
    case measure=>simp [intOf];omega
  ·obtain rfl:n2=n:=by omega
   have hv1:=HX.out.2.2
   rw [HE.out.1,HE.out.2] at hv1
   have hlt:=nv_lt HX.out.2.1
   rw [HX.out.1] at hlt
   obtain rfl:cc=0:=by
    rcases Nat.eq_zero_or_pos cc with h | h
    ·exact h
    ·obtain rfl:cc=1:=by omega
     rw [Nat.mul_one] at hv1
     have:=HVL.out
     omega
   have HV:=Qh (show nv 2 o=nv 2 l - nv 2 m by rw [Nat.mul_zero,Nat.add_zero] at hv1;omega)
   have HC:=Qh (rcut_own HO.out HX.out.1 HX.out.2.1 HV.out)
   have HF:=Qh (own_cut HO.out HX.out.1 HX.out.2.1 HV.out)
   generalize nv 2 l - nv 2 m=v at *
   clear hgo hv1 hlt HD HE HA HB2 HX HV HO HVL
   go_wp2_with (go_at_call 105;(with_reducible refine HC.out.mono ?_);rintro e w' ⟨rfl,rfl⟩)
   go_ret
   exact ⟨_,_,rfl,HF.out,HB.out⟩
theorem ret_bool' {a b:Bool} (h:a=b):Ending.returned (.bool a) = .returned (.bool b):=by rw [h]
theorem rless_any {B B':Nat} {A A':Option Addr} {l m:List Nat} {n c n' c':Nat} {w:World} (hs:SlI w B A n c l) (ht:SlI w B' A' n' c' m) (hnr:n≠n'→Nrm l∧Nrm m) {lt:Bool} (hlt:decide (nv 2 l<nv 2 m)=lt) :
  Calls Tryz.prog 123 #[.slice A n c,.slice A' n' c'] w fun e w'=>e = .returned (.bool lt)∧Dr w w':=by
 have hmx:=hs.max
 have hcap:=hs.cap
 unfold maxLen at hmx
 have e3:=hs.len
 have e4:=ht.len
 have d3:=hs.dig
 have d4:=ht.dig
 by_cases hne:n=n'
 ·subst hne
  have hlen:l.length=m.length:=by omega
  have HL:=Qh (show ∀ j,j<n→l.drop (j+1)=m.drop (j+1)→l.getD j 0<m.getD j 0→lt=true from fun j hj h1 h2=>by rw [←hlt];exact decide_eq_true (nv_lt_at d3 d4 hlen (by omega) h1 h2))
  have HG:=Qh (show ∀ j,j<n→l.drop (j+1)=m.drop (j+1)→m.getD j 0<l.getD j 0→lt=false from fun j hj h1 h2=>by
   rw [←hlt]
   have:=nv_lt_at d4 d3 hlen.symm (by omega) h1.symm h2
   exact decide_eq_false (by omega))
  have HS:=Qh (show ∀ j,j<n→l.drop (j+1)=m.drop (j+1)→l.getD j 0=m.getD j 0→l.drop j=m.drop j from fun j hj h1 h2=>drop_step hlen (by omega) h1 h2)
  have H0:=Qh (show l.drop 0=m.drop 0→lt=false from fun h=>by simp at h;rw [←hlt,h];simp)
  have HN:=Qh (show l.drop n=m.drop n by rw [List.drop_eq_nil_of_le (by omega),List.drop_eq_nil_of_le (by omega)])
  have hN1:n≤9223372036854775807:=by omega
  clear hlen d3 d4 e3 e4 hmx hcap hnr hlt
  go_enter Tryz.func123,Tryz.ntmps123
  go_wp2_with fail
  go_loopw [5] (fun i wr=>∃ j:Nat,j≤n∧Hid (l.drop j=m.drop j)∧i = .int .i64 ((j:Int) - 1)∧Dr w wr) (fun i _=>(intOf i+1).toNat)
  case atStart=>exact ⟨n,Nat.le_refl _,HN,rfl,Dr.refl _⟩
  case round=>
   obtain ⟨j,hj,hd,rfl,hdr⟩:=hrel
   by_cases h0:j=0
   ·subst h0
    have HV:=Qh (H0.out hd.out)
    clear hs ht
    go_wp2
    go_ret
    exact ⟨ret_bool' HV.out.symm,hdr⟩
   ·obtain ⟨i,rfl⟩:∃ i,j=i+1:=⟨j - 1,by omega⟩
    obtain ⟨b,o,rfl,_,hc1⟩:=hs.at_ (by omega)
    obtain ⟨b',o',rfl,_,hc2⟩:=ht.at_ (by omega)
    have hx:=(hdr.cell _).trans (hc1 i (by omega))
    have hy:=(hdr.cell _).trans (hc2 i (by omega))
    have F1:=Qh (HL.out i (by omega) hd.out)
    have F2:=Qh (HG.out i (by omega) hd.out)
    have F3:=Qh (HS.out i (by omega) hd.out)
    generalize l.getD i 0=x at *
    generalize m.getD i 0=y at *
    clear hc1 hc2 hs ht HL HG HS H0 HN h0
    have hi0:(0:Int)≤(i:Int):=by omega
    have hi1:(i:Int)<(n:Int):=by omega
    rcases Nat.lt_trichotomy x y with h | h | h
    ·have g1:decide ((x:Int)<(y:Int))=true:=decide_eq_true (by omega)
     have g2:((x:Int) != (y:Int))=true:=by rw [bne_iff_ne];omega
     have g3:((x:Int)==(y:Int))=false:=beq_eq_false_iff_ne.2 (by omega)
     have HV:=Qh (F1.out h)
     go_wp2
     go_quiet (fail)
     go_wp2
     go_quiet (fail)
     go_wp2
     go_ret
     exact ⟨ret_bool' HV.out.symm,by first | exact hdr.more _ | exact (hdr.more _).more _⟩
    ·subst h
     have HD:=Qh (F3.out rfl)
     clear F1 F2 F3
     go_wp2
     go_quiet (fail)
     go_wp2
     go_roundw
     case rel=>exact ⟨i,by omega,HD,by go_num,by first | exact hdr.more _ | exact (hdr.more _).more _⟩
     case measure=>simp [intOf]
    ·have g1:decide ((x:Int)<(y:Int))=false:=decide_eq_false (by omega)
     have g2:((x:Int) != (y:Int))=true:=by rw [bne_iff_ne];omega
     have g3:((x:Int)==(y:Int))=false:=beq_eq_false_iff_ne.2 (by omega)
     have HV:=Qh (F2.out h)
     go_wp2
     go_quiet (fail)
     go_wp2
     go_quiet (fail)
     go_wp2
     go_ret
     exact ⟨ret_bool' (by rw [HV.out];exact decide_eq_false (by omega)),by first | exact hdr.more _ | exact (hdr.more _).more _⟩
 ·obtain ⟨r1,r2⟩:=hnr hne
  have HV:=Qh (show decide ((n:Int)<(n':Int))=lt by
   rw [←hlt]
   rcases Nat.lt_or_ge n n' with h | h
   ·rw [decide_eq_true (show (n:Int)<(n':Int) by omega),decide_eq_true (nv_lt_of_len (by decide) d3 r2 (by omega))]
   ·have h2:=nv_lt_of_len (b:=2) (by decide) d4 r1 (by omega)
    rw [decide_eq_false (show ¬(n:Int)<(n':Int) by omega),decide_eq_false (by omega)])
  have g2:((n:Int) != (n':Int))=true:=by rw [bne_iff_ne];omega
  have g3:((n:Int)==(n':Int))=false:=beq_eq_false_iff_ne.2 (by omega)
  clear hs ht hnr hlt r1 r2 hmx hcap e3 e4 d3 d4
  go_enter Tryz.func123,Tryz.ntmps123
  go_wp2
  go_ret
  exact ⟨ret_bool' (by rw [←HV.out];simp),Dr.refl _⟩
theorem rsum_same {sx sy:Bool} {B B':Nat} {A A':Option Addr} {l m:List Nat} {n c n' c':Nat} {w:World} (hs:SlI w B A n c l) (ht:SlI w B' A' n' c' m) (hn:n≤2147483648) (hn':n'≤2147483648) (hB:B≤w.heap.size) (hB':B'≤w.heap.size) (hxy:(sx==sy)=true) {z:Int} (hz:bval sx (digs 2 (nv 2 l+nv 2 m))=z) :
  Calls Tryz.prog 99 #[.agg #[.bool sx,.slice A n c],.agg #[.bool sy,.slice A' n' c']] w (PostB w z):=by
 have HW:=Qh ((((Below.refl w.heap.size w).alloc (Nat.le_refl _) (.cells #[.bool sx,.slice A n c] 79)).alloc (by simp) (.cells #[.bool sy,.slice A' n' c'] 79)).alloc (by simp;omega) (.cells #[.bool false,.slice none 0 0] 79))
 have HK:=Qh (fun C w2 (hb:Below C (((w.alloc (.cells #[.bool sx,.slice A n c] 79)).alloc (.cells #[.bool sy,.slice A' n' c'] 79)).alloc (.cells #[.bool false,.slice none 0 0] 79)) w2) (hC:w.heap.size+3≤C)=>three_boxes (Dr.refl _) hb hC)
 have HC3:=Qh (show w.heap.size+3≤(((w.alloc (.cells #[.bool sx,.slice A n c] 79)).alloc (.cells #[.bool sy,.slice A' n' c'] 79)).alloc (.cells #[.bool false,.slice none 0 0] 79)).heap.size by simp)
 have HS1:=Qh (fun w1 (hb:Below w.heap.size w w1)=>Qa (hs.below (C:=w.heap.size) hb hB) (Qa (ht.below (C:=w.heap.size) hb hB') (Qa (Nat.le_trans hB hb.size) (Nat.le_trans hB' hb.size))))
 have HZ:=Qh hz
 have HADD:=Qh (fun w1 (hb:Below w.heap.size w w1)=>radd_any (HS1.out w1 hb).1 (HS1.out w1 hb).2.1 hn hn' (HS1.out w1 hb).2.2.1 (HS1.out w1 hb).2.2.2)
 generalize nv 2 l+nv 2 m=v at *
 clear hs ht hn hn' hB hB' hz
 go_enter Tryz.func99,Tryz.ntmps99
 go_wp2_with fail
 generalize (((w.alloc (.cells #[.bool sx,.slice A n c] 79)).alloc (.cells #[.bool sy,.slice A' n' c'] 79)).alloc (.cells #[.bool false,.slice none 0 0] 79))=wz at *
 have KA:=Qh (Below.refl wz.heap.size wz)
 obtain ⟨wa,hwa⟩:∃ wa,wz=wa:=⟨_,rfl⟩
 subst hwa
 have HSS:=Qh (fun w' (hb:Below wz.heap.size wz w')=>Qa (HK.out _ _ (Qt KA.out hb) HC3.out).1 (HK.out _ _ (Qt KA.out hb) HC3.out).2.1)
 obtain ⟨⟨q0,q1⟩,⟨q2,q3⟩⟩:=HSS.out _ (Below.refl _ _)
 have HBa:=Qh (Qt HW.out KA.out)
 have HCa:=Qh (Nat.le_trans HC3.out KA.out.size)
 go_region_held3 (fun w'=>(w'.cell? ⟨w.heap.size,0,none⟩=some (.bool sx)∧w'.cell? ⟨w.heap.size,1,none⟩=some (.slice A n c))∧(w'.cell? ⟨w.heap.size+1,0,none⟩=some (.bool sy)∧w'.cell? ⟨w.heap.size+1,1,none⟩=some (.slice A' n' c')))
  (first | (go_keep;done) | exact HSS.out _ k5 | exact ⟨⟨far2 (HSS.out _ k5).1.1 (by show w.heap.size≠_;omega),far2 (HSS.out _ k5).1.2 (by show w.heap.size≠_;omega)⟩,⟨far2 (HSS.out _ k5).2.1 (by show w.heap.size+1≠_;omega),far2 (HSS.out _ k5).2.2 (by show w.heap.size+1≠_;omega)⟩⟩ | exact HSS.out _ k4 | exact HSS.out _ (Below.refl wz.heap.size wz).drew)
  (first
   | (go_at_call 122;(with_reducible refine (HADD.out _ HBa.out.drew).mono ?_);rintro e w4 ⟨A4,c4,rfl,ho4,hb4⟩;have k4:Below wz.heap.size wz w4:=(Below.refl wz.heap.size wz).drew.trans hb4;have kz4:=k4.size)
   | (go_at_call 94;(with_reducible refine (rlaid_at sx ho4 rfl (dig_digs (by decide) _) HZ.out).mono ?_);rintro e w5 ⟨rfl,ho5,hb5⟩;have k5:Below wz.heap.size wz w5:=k4.trans (hb5.mono kz4);obtain ⟨_,_,r0,r1,r2,r3⟩:=HK.out _ _ (KA.out.trans (k5.mono KA.out.size)) HC3.out))
 have HO5:=Qh ho5
 have HB5:=Qh (Qt HBa.out k5)
 have hlt:w.heap.size+1+1<wz.heap.size:=by have:=HCa.out;omega
 have hlt4:w.heap.size+1+1<w4.heap.size:=Ql hlt kz4
 have HM:=Qh (Own.mono HO5.out (Nat.le_refl _))
 clear ho4 ho5 hb4 hb5 k4 k5 q0 q1 q2 q3
 go_wp2
 have hr:=ResB.stored (w:=w) (g:=w.heap.size+1+1) (u:=.bool (decide (z<0))) (u':=.slice A4 (digs 2 z.natAbs).length c4) ⟨A4,c4,rfl,HM.out⟩ HB5.out (by first | exact hlt | exact hlt4 | (simp;omega)) (by omega)
 exact bodyPost_ret (v:=.agg #[.bool (decide (z<0)),.slice A4 (digs 2 z.natAbs).length c4]) (by simp [results,Tryz.results99,go_sem,r0,r1]) rfl ⟨_,rfl,hr.1,hr.2⟩
theorem rsum_lt {sx sy:Bool} {B B':Nat} {A A':Option Addr} {l m:List Nat} {n c n' c':Nat} {w:World} (hs:SlI w B A n c l) (ht:SlI w B' A' n' c' m) (hn:n≤2147483648) (hn':n'≤2147483648) (hB:B≤w.heap.size) (hB':B'≤w.heap.size) (hxy:(sx==sy)=false) (hnr:n≠n'→Nrm l∧Nrm m) (hle:n≤n') (hvl:nv 2 l<nv 2 m) {z:Int} (hz:bval sy (digs 2 (nv 2 m - nv 2 l))=z) :
  Calls Tryz.prog 99 #[.agg #[.bool sx,.slice A n c],.agg #[.bool sy,.slice A' n' c']] w (PostB w z):=by
 have HW:=Qh ((((Below.refl w.heap.size w).alloc (Nat.le_refl _) (.cells #[.bool sx,.slice A n c] 79)).alloc (by simp) (.cells #[.bool sy,.slice A' n' c'] 79)).alloc (by simp;omega) (.cells #[.bool false,.slice none 0 0] 79))
 have HK:=Qh (fun C w2 (hb:Below C (((w.alloc (.cells #[.bool sx,.slice A n c] 79)).alloc (.cells #[.bool sy,.slice A' n' c'] 79)).alloc (.cells #[.bool false,.slice none 0 0] 79)) w2) (hC:w.heap.size+3≤C)=>three_boxes (Dr.refl _) hb hC)
 have HC3:=Qh (show w.heap.size+3≤(((w.alloc (.cells #[.bool sx,.slice A n c] 79)).alloc (.cells #[.bool sy,.slice A' n' c'] 79)).alloc (.cells #[.bool false,.slice none 0 0] 79)).heap.size by simp)
 have HS1:=Qh (fun w1 (hb:Below w.heap.size w w1)=>Qa (hs.below (C:=w.heap.size) hb hB) (Qa (ht.below (C:=w.heap.size) hb hB') (Qa (Nat.le_trans hB hb.size) (Nat.le_trans hB' hb.size))))
 have HZ:=Qh hz
 have HL:=Qh (fun w1 (hb:Below w.heap.size w w1)=>rless_any (HS1.out w1 hb).1 (HS1.out w1 hb).2.1 hnr (lt:=true) (by first | exact decide_eq_true hvl | exact decide_eq_false (by omega)))
 have HSB:=Qh (fun w1 (hb:Below w.heap.size w w1)=>rsub_any (HS1.out w1 hb).2.1 (HS1.out w1 hb).1 (by omega) (HS1.out w1 hb).2.2.2 (HS1.out w1 hb).2.2.1 hle (by omega))
 generalize nv 2 m - nv 2 l=v at *
 clear hs ht hn hn' hB hB' hz hle hvl hnr
 go_enter Tryz.func99,Tryz.ntmps99
 go_wp2_with fail
 generalize (((w.alloc (.cells #[.bool sx,.slice A n c] 79)).alloc (.cells #[.bool sy,.slice A' n' c'] 79)).alloc (.cells #[.bool false,.slice none 0 0] 79))=wz at *
 obtain ⟨⟨q0,q1⟩,⟨q2,q3⟩,_⟩:=HK.out _ _ (Below.refl _ _) HC3.out
 go_wp2_with fail
 (with_reducible refine (HL.out _ HW.out).mono ?_)
 rintro ex wa ⟨rfl,hdr⟩
 have KA:=Qh (hdr.below wz.heap.size)
 clear hdr q0 q1 q2 q3
 go_wp2_with fail
 have HSS:=Qh (fun w' (hb:Below wa.heap.size wa w')=>Qa (HK.out _ _ (Qt KA.out hb) HC3.out).1 (HK.out _ _ (Qt KA.out hb) HC3.out).2.1)
 obtain ⟨⟨q0,q1⟩,⟨q2,q3⟩⟩:=HSS.out _ (Below.refl _ _)
 have HBa:=Qh (Qt HW.out KA.out)
 have HCa:=Qh (Nat.le_trans HC3.out KA.out.size)
 go_region_held3 (fun w'=>(w'.cell? ⟨w.heap.size,0,none⟩=some (.bool sx)∧w'.cell? ⟨w.heap.size,1,none⟩=some (.slice A n c))∧(w'.cell? ⟨w.heap.size+1,0,none⟩=some (.bool sy)∧w'.cell? ⟨w.heap.size+1,1,none⟩=some (.slice A' n' c')))
  (first | (go_keep;done) | exact HSS.out _ k5 | exact ⟨⟨far2 (HSS.out _ k5).1.1 (by show w.heap.size≠_;omega),far2 (HSS.out _ k5).1.2 (by show w.heap.size≠_;omega)⟩,⟨far2 (HSS.out _ k5).2.1 (by show w.heap.size+1≠_;omega),far2 (HSS.out _ k5).2.2 (by show w.heap.size+1≠_;omega)⟩⟩ | exact HSS.out _ k4 | exact HSS.out _ (Below.refl wa.heap.size wa).drew)
  (first
   | (go_at_call 124;(with_reducible refine (HSB.out _ HBa.out.drew).mono ?_);rintro e w4 ⟨A4,c4,rfl,ho4,hb4⟩;have k4:Below wa.heap.size wa w4:=(Below.refl wa.heap.size wa).drew.trans hb4;have kz4:=k4.size)
   | (go_at_call 94;(with_reducible refine (rlaid_at sy ho4 rfl (dig_digs (by decide) _) HZ.out).mono ?_);rintro e w5 ⟨rfl,ho5,hb5⟩;have k5:Below wa.heap.size wa w5:=k4.trans (hb5.mono kz4);obtain ⟨_,_,r0,r1,r2,r3⟩:=HK.out _ _ (KA.out.trans (k5.mono KA.out.size)) HC3.out))
 have HO5:=Qh ho5
 have HB5:=Qh (Qt HBa.out k5)
 have hlt:w.heap.size+1+1<wa.heap.size:=by have:=HCa.out;omega
 have hlt4:w.heap.size+1+1<w4.heap.size:=Ql hlt kz4
 have HM:=Qh (Own.mono HO5.out (Nat.le_refl _))
 clear ho4 ho5 hb4 hb5 k4 k5 q0 q1 q2 q3
 go_wp2
 have hr:=ResB.stored (w:=w) (g:=w.heap.size+1+1) (u:=.bool (decide (z<0))) (u':=.slice A4 (digs 2 z.natAbs).length c4) ⟨A4,c4,rfl,HM.out⟩ HB5.out (by first | exact hlt | exact hlt4 | (simp;omega)) (by omega)
 exact bodyPost_ret (v:=.agg #[.bool (decide (z<0)),.slice A4 (digs 2 z.natAbs).length c4]) (by simp [results,Tryz.results99,go_sem,r0,r1]) rfl ⟨_,rfl,hr.1,hr.2⟩
theorem rsum_ge {sx sy:Bool} {B B':Nat} {A A':Option Addr} {l m:List Nat} {n c n' c':Nat} {w:World} (hs:SlI w B A n c l) (ht:SlI w B' A' n' c' m) (hn:n≤2147483648) (hn':n'≤2147483648) (hB:B≤w.heap.size) (hB':B'≤w.heap.size) (hxy:(sx==sy)=false) (hnr:n≠n'→Nrm l∧Nrm m) (hle:n'≤n) (hvl:nv 2 m≤nv 2 l) {z:Int} (hz:bval sx (digs 2 (nv 2 l - nv 2 m))=z) :
  Calls Tryz.prog 99 #[.agg #[.bool sx,.slice A n c],.agg #[.bool sy,.slice A' n' c']] w (PostB w z):=by
 have HW:=Qh ((((Below.refl w.heap.size w).alloc (Nat.le_refl _) (.cells #[.bool sx,.slice A n c] 79)).alloc (by simp) (.cells #[.bool sy,.slice A' n' c'] 79)).alloc (by simp;omega) (.cells #[.bool false,.slice none 0 0] 79))
 have HK:=Qh (fun C w2 (hb:Below C (((w.alloc (.cells #[.bool sx,.slice A n c] 79)).alloc (.cells #[.bool sy,.slice A' n' c'] 79)).alloc (.cells #[.bool false,.slice none 0 0] 79)) w2) (hC:w.heap.size+3≤C)=>three_boxes (Dr.refl _) hb hC)
 have HC3:=Qh (show w.heap.size+3≤(((w.alloc (.cells #[.bool sx,.slice A n c] 79)).alloc (.cells #[.bool sy,.slice A' n' c'] 79)).alloc (.cells #[.bool false,.slice none 0 0] 79)).heap.size by simp)
 have HS1:=Qh (fun w1 (hb:Below w.heap.size w w1)=>Qa (hs.below (C:=w.heap.size) hb hB) (Qa (ht.below (C:=w.heap.size) hb hB') (Qa (Nat.le_trans hB hb.size) (Nat.le_trans hB' hb.size))))
 have HZ:=Qh hz
 have HL:=Qh (fun w1 (hb:Below w.heap.size w w1)=>rless_any (HS1.out w1 hb).1 (HS1.out w1 hb).2.1 hnr (lt:=false) (by first | exact decide_eq_true hvl | exact decide_eq_false (by omega)))
 have HSB:=Qh (fun w1 (hb:Below w.heap.size w w1)=>rsub_any (HS1.out w1 hb).1 (HS1.out w1 hb).2.1 (by omega) (HS1.out w1 hb).2.2.1 (HS1.out w1 hb).2.2.2 hle (by omega))
 generalize nv 2 l - nv 2 m=v at *
 clear hs ht hn hn' hB hB' hz hle hvl hnr
 go_enter Tryz.func99,Tryz.ntmps99
 go_wp2_with fail
 generalize (((w.alloc (.cells #[.bool sx,.slice A n c] 79)).alloc (.cells #[.bool sy,.slice A' n' c'] 79)).alloc (.cells #[.bool false,.slice none 0 0] 79))=wz at *
 obtain ⟨⟨q0,q1⟩,⟨q2,q3⟩,_⟩:=HK.out _ _ (Below.refl _ _) HC3.out
 go_wp2_with fail
 (with_reducible refine (HL.out _ HW.out).mono ?_)
 rintro ex wa ⟨rfl,hdr⟩
 have KA:=Qh (hdr.below wz.heap.size)
 clear hdr q0 q1 q2 q3
 go_wp2_with fail
 have HSS:=Qh (fun w' (hb:Below wa.heap.size wa w')=>Qa (HK.out _ _ (Qt KA.out hb) HC3.out).1 (HK.out _ _ (Qt KA.out hb) HC3.out).2.1)
 obtain ⟨⟨q0,q1⟩,⟨q2,q3⟩⟩:=HSS.out _ (Below.refl _ _)
 have HBa:=Qh (Qt HW.out KA.out)
 have HCa:=Qh (Nat.le_trans HC3.out KA.out.size)
 go_region_held3 (fun w'=>(w'.cell? ⟨w.heap.size,0,none⟩=some (.bool sx)∧w'.cell? ⟨w.heap.size,1,none⟩=some (.slice A n c))∧(w'.cell? ⟨w.heap.size+1,0,none⟩=some (.bool sy)∧w'.cell? ⟨w.heap.size+1,1,none⟩=some (.slice A' n' c')))
  (first | (go_keep;done) | exact HSS.out _ k5 | exact ⟨⟨far2 (HSS.out _ k5).1.1 (by show w.heap.size≠_;omega),far2 (HSS.out _ k5).1.2 (by show w.heap.size≠_;omega)⟩,⟨far2 (HSS.out _ k5).2.1 (by show w.heap.size+1≠_;omega),far2 (HSS.out _ k5).2.2 (by show w.heap.size+1≠_;omega)⟩⟩ | exact HSS.out _ k4 | exact HSS.out _ (Below.refl wa.heap.size wa).drew)
  (first
   | (go_at_call 124;(with_reducible refine (HSB.out _ HBa.out.drew).mono ?_);rintro e w4 ⟨A4,c4,rfl,ho4,hb4⟩;have k4:Below wa.heap.size wa w4:=(Below.refl wa.heap.size wa).drew.trans hb4;have kz4:=k4.size)
   | (go_at_call 94;(with_reducible refine (rlaid_at sx ho4 rfl (dig_digs (by decide) _) HZ.out).mono ?_);rintro e w5 ⟨rfl,ho5,hb5⟩;have k5:Below wa.heap.size wa w5:=k4.trans (hb5.mono kz4);obtain ⟨_,_,r0,r1,r2,r3⟩:=HK.out _ _ (KA.out.trans (k5.mono KA.out.size)) HC3.out))
 have HO5:=Qh ho5
 have HB5:=Qh (Qt HBa.out k5)
 have hlt:w.heap.size+1+1<wa.heap.size:=by have:=HCa.out;omega
 have hlt4:w.heap.size+1+1<w4.heap.size:=Ql hlt kz4
 have HM:=Qh (Own.mono HO5.out (Nat.le_refl _))
 clear ho4 ho5 hb4 hb5 k4 k5 q0 q1 q2 q3
 go_wp2
 have hr:=ResB.stored (w:=w) (g:=w.heap.size+1+1) (u:=.bool (decide (z<0))) (u':=.slice A4 (digs 2 z.natAbs).length c4) ⟨A4,c4,rfl,HM.out⟩ HB5.out (by first | exact hlt | exact hlt4 | (simp;omega)) (by omega)
 exact bodyPost_ret (v:=.agg #[.bool (decide (z<0)),.slice A4 (digs 2 z.natAbs).length c4]) (by simp [results,Tryz.results99,go_sem,r0,r1]) rfl ⟨_,rfl,hr.1,hr.2⟩
theorem bval_digs (z:Int):bval (decide (z<0)) (digs 2 z.natAbs)=z:=by
 unfold bval;rw [nv_digs (by decide)]
 by_cases h:z<0
 ·rw [decide_eq_true h,if_pos rfl];omega
 ·rw [decide_eq_false h,if_neg (by simp)];omega
theorem nrm_len_le {l m:List Nat} (dl:Dig 2 l) (dm:Dig 2 m) (rl:Nrm l) (rm:Nrm m) (h:nv 2 l≤nv 2 m):l.length≤m.length:=by
 refine Nat.le_of_not_lt fun h2=>?_
 have:=nv_lt_of_len (b:=2) (by decide) dm rl h2
 omega
theorem rsum_any {sx sy:Bool} {B B':Nat} {A A':Option Addr} {l m:List Nat} {n c n' c':Nat} {w:World} (hs:SlI w B A n c l) (ht:SlI w B' A' n' c' m) (hn:n≤2147483648) (hn':n'≤2147483648) (hB:B≤w.heap.size) (hB':B'≤w.heap.size) (rl:Nrm l) (rm:Nrm m)
  {x y z:Int} (hx:bval sx l=x) (hy:bval sy m=y) (hz:x+y=z) :
  Calls Tryz.prog 99 #[.agg #[.bool sx,.slice A n c],.agg #[.bool sy,.slice A' n' c']] w (PostB w z):=by
 have hb:∀ (s:Bool) (v:Nat),bval s (digs 2 v)=if s then -(v:Int) else (v:Int):=fun s v=>by unfold bval;rw [nv_digs (by decide)]
 subst hx;subst hy
 have e1:=hs.len
 have e2:=ht.len
 by_cases hxy:sx=sy
 ·subst hxy
  refine rsum_same hs ht hn hn' hB hB' (by simp) ?_
  rw [hb,←hz];unfold bval;split <;> omega
 ·have h1:(sx==sy)=false:=beq_eq_false_iff_ne.2 hxy
  by_cases hlt:nv 2 l<nv 2 m
  ·have h3:=nrm_len_le hs.dig ht.dig rl rm (Nat.le_of_lt hlt)
   refine rsum_lt hs ht hn hn' hB hB' h1 (fun _=>⟨rl,rm⟩) (by omega) hlt ?_
   rw [hb,←hz];unfold bval
   cases sx <;> cases sy <;> simp at hxy ⊢ <;> omega
  ·have h3:=nrm_len_le ht.dig hs.dig rm rl (by omega)
   refine rsum_ge hs ht hn hn' hB hB' h1 (fun _=>⟨rl,rm⟩) (by omega) (by omega) ?_
   rw [hb,←hz];unfold bval
   cases sx <;> cases sy <;> simp at hxy ⊢ <;> omega
theorem rminus_any {s:Bool} {B:Nat} {A:Option Addr} {l:List Nat} {n c:Nat} {w:World} (hs:SlI w B A n c l) (hB:B≤w.heap.size) (rl:Nrm l) :
  Calls Tryz.prog 106 #[.agg #[.bool s,.slice A n c]] w fun e w'=>e = .returned (.agg #[.bool (sg (!s) l),.slice A n c])∧Below w.heap.size w w':=by
 have HL:=Qh (fun w1 (hb:Below w.heap.size w w1)=>show Calls Tryz.prog 94 #[.bool (!s),.slice A n c] w1 (fun e w'=>e = .returned (.agg #[.bool (sg (!s) l),.slice A n c])∧Below w1.heap.size w1 w') by
  have h:=rlaid_any (!s) (hs.below (C:=w.heap.size) hb hB) (Nat.le_trans hB hb.size)
  rwa [tlen_of_nrm rl,hs.len] at h)
 have HW:=Qh (((Below.refl w.heap.size w).alloc (Nat.le_refl _) (.cells #[.bool s,.slice A n c] 79)).alloc (by simp) (.cells #[.bool false,.slice none 0 0] 79))
 have HX1:=Qh (heap_second w (.cells #[.bool s,.slice A n c] 79) (.cells #[.bool false,.slice none 0 0] 79))
 generalize sg (!s) l=s' at *
 clear hs hB rl
 go_enter Tryz.func106,Tryz.ntmps106
 go_wp2_with fail
 (with_reducible refine (HL.out _ HW.out).mono ?_)
 rintro ex w3 ⟨rfl,hb3⟩
 obtain ⟨r0,r1,r2,r3⟩:=two_cells hb3 HX1.out (by simp)
 have HB3:=Qh (HW.out.trans (hb3.mono (B':=w.heap.size) (by simp;omega)))
 clear hb3
 go_wp2
 exact bodyPost_ret (v:=.agg #[.bool s',.slice A n c]) (by simp [results,Tryz.results106,go_sem,r0,r1]) rfl ⟨rfl,(HB3.out.setCell (by simp) _).setCell (by simp) _⟩
def rlng (n:Nat):Bool:=decide (4096<n)
theorem rLong_any (s:Bool) (A:Option Addr) (n c:Nat) (w:World) :
  Calls Tryz.prog 33 #[.agg #[.bool s,.slice A n c]] w (LongPost (rlng n) w):=by
 have HB:=Qh ((Below.refl w.heap.size w).alloc (Nat.le_refl _) (.cells #[.bool s,.slice A n c] 79))
 have HR:=Qh (show decide (4096<n)=rlng n from rfl)
 go_enter Tryz.func33,Tryz.ntmps33
 go_wp2
 go_ret
 exact ⟨ret_bool' (by rw [←HR.out];exact decide_eq_decide.2 (by omega)),HB.out⟩
end
end Go.Proofs.YtpikjceodmepiaaGreatDoor
namespace Hb
def lim (B:List Nat) (i:Nat):Nat:=nv 2 ((B.drop (32 * i)).take 32)
def lims (B:List Nat):Nat→List Nat | 0=>[] | m+1=>lims B m ++ [lim B m]
theorem lims_length (B:List Nat):∀ m,(lims B m).length=m | 0=>rfl | m+1=>by rw [lims,List.length_append,lims_length B m];rfl
theorem lim_lt {B:List Nat} (hd:Dig 2 B) (i:Nat):lim B i<4294967296:=by
 have h:=nv_lt ((hd.drop (32 * i)).take 32)
 have h2:((B.drop (32 * i)).take 32).length≤32:=List.length_take_le _ _
 have h3:=Nat.pow_le_pow_right (n:=2) (by decide) h2
 exact Ql h h3
theorem lims_dig {B:List Nat} (hd:Dig 2 B):∀ m,Dig W (lims B m)
 | 0=>Dig.nil _
 | m+1=>(lims_dig hd m).append (Dig.cons (lim_lt hd m) (Dig.nil _))
theorem lims_nv (B:List Nat):∀ m,nv W (lims B m)=nv 2 (B.take (32 * m))
 | 0=>by simp [lims,nv]
 | m+1=>by
  rw [lims,nv_snoc,lims_length,lims_nv B m]
  have h:=nv_take_drop 2 (B.take (32 * (m+1))) (32 * m)
  rw [List.take_take,Nat.min_eq_left (by omega),List.drop_take,show 32 * (m+1) - 32 * m=32 by omega] at h
  rw [h]
  by_cases hl:32 * m≤B.length
  ·rw [List.length_take,show min (32 * m) (min (32 * (m+1)) B.length)=32 * m by omega,←W_pow_eq];rfl
  ·have e:lim B m=0:=by unfold lim;rw [List.drop_eq_nil_of_le (by omega)];rfl
   have e2:nv 2 ((B.drop (32 * m)).take 32)=0:=e
   rw [e,e2,Nat.mul_zero,Nat.mul_zero]
theorem lims_all {B:List Nat} {m:Nat} (h:B.length≤32 * m):nv W (lims B m)=nv 2 B:=by
 rw [lims_nv,List.take_of_length_le h]
theorem lims_digs {B:List Nat} (hd:Dig 2 B) (hn:Nrm B) {m:Nat} (h1:B.length≤32 * m) (h2:32 * m<B.length+32):lims B m=digs W (nv 2 B):=by
 rw [←lims_all h1]
 refine nrm_eq_digs (by decide) (lims_dig hd m) (nrm_of_getD fun hne=>?_)
 rw [lims_length]
 obtain ⟨k,rfl⟩:∃ k,m=k+1:=⟨m - 1,by
  rcases Nat.eq_zero_or_pos m with h | h
  ·subst h;exact absurd rfl hne
  ·omega⟩
 have e:(lims B (k+1)).getD (k+1 - 1) 0=lim B k:=by
  rw [lims,Nat.add_sub_cancel,List.getD_eq_getElem?_getD,List.getElem?_append_right (by rw [lims_length];omega),lims_length];simp
 rw [e]
 have h3:(B.drop (32 * k)).take 32=B.drop (32 * k):=List.take_of_length_le (by rw [List.length_drop];omega)
 unfold lim
 rw [h3]
 have hne2:B.drop (32 * k) ≠ []:=by
  intro e2
  have:=congrArg List.length e2
  rw [List.length_drop] at this
  simp at this;omega
 have hnd:Nrm (B.drop (32 * k)):=nrm_of_getD fun _=>by
  have hB:B ≠ []:=fun e2=>by subst e2;simp at hne2
  have h4:=nrm_getD hn hB
  rw [List.length_drop,List.getD_eq_getElem?_getD,List.getElem?_drop]
  rw [List.getD_eq_getElem?_getD] at h4
  rw [show 32 * k+(B.length - 32 * k - 1)=B.length - 1 by omega]
  exact h4
 exact Nat.ne_of_gt (nv_pos (by decide) hnd hne2)
end Hb
namespace Go.Proofs.YtpikjceodmepiaaGreatDoor
section
open Go.RowKit Hb
theorem limb_step {T:List Nat} (hd:Dig 2 T) (hl:T.length≤32) {k:Nat} (hk:k<32):nv 2 (T.drop k)=2 * nv 2 (T.drop (k+1))+T.getD k 0∧nv 2 (T.drop k)<4294967296∧2 * nv 2 (T.drop (k+1))<4294967296:=by
 have h1:nv 2 (T.drop k)=T.getD k 0+2 * nv 2 (T.drop (k+1)):=by
  by_cases h:k<T.length
  ·exact drop_nv 2 T h
  ·rw [List.drop_eq_nil_of_le (by omega),List.drop_eq_nil_of_le (by omega),getD_past (by omega)];rfl
 have h2:=nv_lt (hd.drop k)
 have h3:=Nat.pow_le_pow_right (n:=2) (by decide) (show (T.drop k).length≤32 by rw [List.length_drop];omega)
 have h4:(2:Nat) ^ 32=4294967296:=by decide
 omega
theorem bit_at (bs:List Nat) (i q:Nat) (hq:q<32):((bs.drop i).take 32).getD q 0=bs.getD (i+q) 0:=by
 rw [List.getD_eq_getElem?_getD,List.getD_eq_getElem?_getD,List.getElem?_take_of_lt hq,List.getElem?_drop]
def IntRel (W0:World) (G:Nat) (s:Bool) (bs:List Nat) (j:Nat) (wr:World):Prop:=
 ∃ A c,Bx wr G (.bool s) (.slice A j c)∧OwnU wr W0.heap.size A j c (u32s (lims bs j))∧Below G W0 wr
theorem IntRel.fill {W0 wr w3:World} {G j c3:Nat} {s:Bool} {bs:List Nat} {A3:Option Addr} {v0:Value} (hG:G<W0.heap.size) (hx:Bx wr G (.bool s) v0) (hb:Below G W0 wr) (hb3:Below W0.heap.size wr w3) (ho:OwnU w3 W0.heap.size A3 (j+1) c3 (u32s (lims bs j ++ [lim bs j]))) :
  IntRel W0 G s bs (j+1) (w3.setCell ⟨G,1,none⟩ (.slice A3 (j+1) c3)):=
 ⟨A3,c3,(hx.below hb3 hG).set1 _,Own.farB ho hG _,(hb.trans (hb3.mono (by omega))).setCell (Nat.le_refl _) _⟩
theorem Int_raw (s:Bool) {B:Nat} {A:Option Addr} {bs:List Nat} {n c:Nat} {w:World} (hs:SlI w B A n c bs) (rb:Nrm bs) (hn:n≤2147483648) (hB:B≤w.heap.size) {z:Int} (hz:z.natAbs=nv 2 bs) (hsz:s=decide (z<0)) :
  Calls Tryz.prog 116 #[.agg #[.bool s,.slice A n c]] w (PostI w z):=by
 have hlen:=hs.len
 have hd:=hs.dig
 have B1:=((Below.refl w.heap.size w).alloc (Nat.le_refl _) (.cells #[.bool s,.slice A n c] 79)).alloc (by simp) (.cells #[.bool false,.slice none 0 0] 56)
 have HB:=Qh (B1.alloc (by simp;omega) (.cells #[.bool s,.slice none 0 0] 56))
 have hh0:(((w.alloc (.cells #[.bool s,.slice A n c] 79)).alloc (.cells #[.bool false,.slice none 0 0] 56)).alloc (.cells #[.bool s,.slice none 0 0] 56)).heap[w.heap.size]?=some (.cells #[.bool s,.slice A n c] 79 (0,0)):=by
  rw [heap_alloc_old _ _ (by simp;omega)];exact heap_first2 w _ _
 have hh1:(((w.alloc (.cells #[.bool s,.slice A n c] 79)).alloc (.cells #[.bool false,.slice none 0 0] 56)).alloc (.cells #[.bool s,.slice none 0 0] 56)).heap[w.heap.size+1]?=some (.cells #[.bool false,.slice none 0 0] 56 (0,0)):=by
  rw [heap_alloc_old _ _ (by simp)];exact heap_second w _ _
 have hh2:Bx (((w.alloc (.cells #[.bool s,.slice A n c] 79)).alloc (.cells #[.bool false,.slice none 0 0] 56)).alloc (.cells #[.bool s,.slice none 0 0] 56)) (w.heap.size+1+1) (.bool s) (.slice none 0 0):=heap_third w _ _ _
 have HH0:=Qh hh0
 have HH1:=Qh hh1
 have HH2:=Qh hh2
 have hz0:w.heap.size+1+1<(((w.alloc (.cells #[.bool s,.slice A n c] 79)).alloc (.cells #[.bool false,.slice none 0 0] 56)).alloc (.cells #[.bool s,.slice none 0 0] 56)).heap.size:=by simp
 have HS:=Qh (fun w1 (hb:Below w.heap.size w w1)=>hs.below (C:=w.heap.size) hb hB)
 have HD:=Qh (Qa hd (Qa rb hlen))
 have HZ:=Qh (Qa hz hsz)
 have HLS:=Qh (fun j k (hk:k<32)=>limb_step (T:=(bs.drop (32 * j)).take 32) ((hd.drop _).take _) (List.length_take_le _ _) hk)
 have hnI:(n:Int)≤2147483648:=by omega
 clear hs rb hB hlen hd hz hsz B1 hh0 hh1 hh2
 go_enter Tryz.func116,Tryz.ntmps116
 go_upto_region 2 with fail
 generalize (((w.alloc (.cells #[.bool s,.slice A n c] 79)).alloc (.cells #[.bool false,.slice none 0 0] 56)).alloc (.cells #[.bool s,.slice none 0 0] 56))=W0 at *
 have HR0:=Qh (show IntRel W0 (w.heap.size+1+1) s bs 0 W0 from ⟨none,0,HH2.out,⟨rfl,.inl ⟨rfl,rfl⟩⟩,Below.refl _ _⟩)
 go_wp2_with fail
 go_loopw [4] (fun iv wr=>∃ j:Nat,32 * j<n+32∧iv = .int .i64 ((32 * j:Nat):Int)∧IntRel W0 (w.heap.size+1+1) s bs j wr) (fun iv _=>n+32 - (intOf iv).toNat)
 case atStart=>exact ⟨0,by omega,rfl,HR0.out⟩
 case round=>
  obtain ⟨j,hj,rfl,A2,c2,hx2,ho2,hb2⟩:=hrel
  have HX2:=Qh hx2
  have HO2:=Qh ho2
  have HB2:=Qh hb2
  have hz2:=hb2.size
  obtain ⟨i,hi⟩:∃ i,32 * j=i:=⟨_,rfl⟩
  rw [hi] at hj ⊢
  have HI:=Qh hi
  obtain ⟨a0,a1,_,_⟩:=two_cells hb2 HH0.out (by omega)
  have hi0:(0:Int)≤(i:Int):=by omega
  clear hx2 ho2 hb2 hi HR0
  by_cases hin:i<n
  ·have hiI:(i:Int)<(n:Int):=by omega
   have hcell:=SlI.at_ (HS.out wr (HB.out.trans (HB2.out.mono (by omega)))) (by omega)
   obtain ⟨b,off,hAe,hbb,hc⟩:=hcell
   subst hAe
   have HC:=Qh hc
   clear hc
   obtain ⟨T,hT⟩:∃ T,(bs.drop i).take 32=T:=⟨_,rfl⟩
   have HT:=Qh (show ∀ q,q<32→nv 2 (T.drop q)=2 * nv 2 (T.drop (q+1))+bs.getD (i+q) 0∧nv 2 (T.drop q)<4294967296∧2 * nv 2 (T.drop (q+1))<4294967296 from fun q hq=>by
    have h:=HLS.out j q hq
    rw [HI.out,hT] at h
    rw [←bit_at bs i q hq,hT];exact h)
   have HL0:=Qh (show nv 2 (T.drop 0)=lim bs j by rw [List.drop_zero,←hT,←HI.out];rfl)
   have HTN:=Qh (show nv 2 (T.drop 32)=0 by rw [List.drop_eq_nil_of_le (by rw [←hT];exact List.length_take_le _ _)];rfl)
   have HBd:=Qh (fun k=>HD.out.1.getD (b:=2) (by decide) k)
   have HPs:=Qh (fun k (hk:n≤k)=>show bs.getD k 0=0 from getD_past (by rw [HD.out.2.2];exact hk))
   clear hT
   go_wp2_with fail
   go_loop [5,6] (fun lv kv=>∃ k X:Nat,k≤32∧kv = .int .i64 ((k:Int) - 1)∧lv = .int .u32 (X:Int)∧Hid (nv 2 (T.drop k)=X)) (fun _ kv=>(intOf kv+1).toNat)
   case atStart=>exact ⟨32,0,Nat.le_refl _,rfl,rfl,Qh HTN.out⟩
   case round=>
    obtain ⟨k,X,hk,rfl,rfl,hX⟩:=hrel
    by_cases h0:k=0
    ·subst h0
     obtain rfl:X=lim bs j:=by rw [←hX.out];exact HL0.out
     have HLb:=Qh (lim_lt HD.out.1 j)
     obtain ⟨g0,g1,g2,g3⟩:=HX2.out.facts
     have hj9:j≤67108864:=by have:=HI.out;omega
     have hc32:w.heap.size+1+1<W0.heap.size:=hz0
     generalize hX9:lim bs j=X at *
     have HX9:=Qh hX9
     clear hX hX9 HT HL0 HTN HBd HPs HC hk
     go_wp2_with (at_builtin;refine wpList_append_u32 (by rfl) _ _ (by rfl) W0.heap.size A2 j c2 (lims bs j) (by rfl) (Own.alloc HO2.out _) wr.heap.size X (by rfl) (by simp [go_sem]) hj9 (by simp;omega) ?_;intro A3 c3 w3 ho3 hb3;obtain ⟨g5,g6,g7,g8⟩:=(HX2.out.below (((Below.refl wr.heap.size wr).alloc (Nat.le_refl _) (.cells #[.int .u32 (X:Int)] 101)).mono hz2 |>.trans hb3) hc32).facts)
     have HR3:=Qh (IntRel.fill hc32 HX2.out HB2.out (((Below.refl wr.heap.size wr).alloc (Nat.le_refl _) _).mono hz2 |>.trans hb3) (by rw [HX9.out];exact ho3))
     clear ho3 hb3
     go_roundw
     case rel=>exact ⟨j+1,by have:=HI.out;omega,by first | rfl | (rw [←HI.out];go_num),HR3.out⟩
     case measure=>simp [intOf];omega
    ·obtain ⟨q,rfl⟩:∃ q,k=q+1:=⟨k - 1,by omega⟩
     have hst:=HT.out q (by omega)
     rw [hX.out] at hst
     have hq0:(0:Int)≤(q:Int):=by omega
     have hyb:=HBd.out (i+q)
     obtain ⟨h1,h2,h3⟩:=hst
     by_cases hlt:i+q<n
     ·have hc:=HC.out (i+q) hlt
      have e1:(i:Int)+(q:Int)<(n:Int):=by omega
      generalize bs.getD (i+q) 0=y at *
      obtain ⟨Z,hZ⟩:∃ Z,nv 2 (T.drop q)=Z:=⟨_,rfl⟩
      have HZq:=Qh hZ
      have hZI:(X:Int) * 2+(y:Int)=(Z:Int):=by omega
      have hX2:(X:Int) * 2≤4294967295:=by omega
      have hX0:(0:Int)≤(X:Int) * 2:=by omega
      have hy0:(0:Int)≤(y:Int):=by omega
      have hy1:(y:Int)≤1:=by omega
      have hZ9:(Z:Int)≤4294967295:=by omega
      clear h1 h2 h3 hZ hX HT HL0 HTN HBd HPs HC hyb h0
      go_wp2_with fail
      go_round
      case rel=>exact ⟨q,Z,by omega,by go_num,rfl,HZq⟩
      case measure=>simp [intOf]
     ·have hy:=HPs.out (i+q) (by omega)
      have e1:¬(i:Int)+(q:Int)<(n:Int):=by omega
      rw [hy] at h1
      have HZq:=Qh (show nv 2 (T.drop q)=X * 2 by omega)
      have hX2:(X:Int) * 2≤4294967295:=by omega
      clear h1 h2 h3 hX HT HL0 HTN HBd HPs HC hyb h0 hy
      go_wp2_with fail
      go_round
      case rel=>exact ⟨q,X * 2,by omega,by go_num,by first | rfl | go_num,HZq⟩
      case measure=>simp [intOf]
  ·have HLm:=Qh (show lims bs j=digs W z.natAbs by rw [HZ.out.1];exact lims_digs HD.out.1 HD.out.2.1 (by rw [HD.out.2.2,HI.out];omega) (by rw [HD.out.2.2,HI.out];exact hj))
   have hjl:j=(digs W z.natAbs).length:=by rw [←HLm.out,lims_length]
   have HOz:=Qh (show OwnU wr W0.heap.size A2 (digs W z.natAbs).length c2 (u32s (digs W z.natAbs)) by have:=HO2.out;rw [HLm.out] at this;rwa [hjl] at this)
   have HBw:=Qh (HB.out.trans (HB2.out.mono (by omega)))
   obtain ⟨g0,g1,_,_⟩:=HX2.out.facts
   obtain ⟨r0,r1,r2,r3⟩:=two_cells HB2.out HH1.out (by omega)
   have HJ:=Qh hjl
   have hle:w.heap.size+1<W0.heap.size:=by omega
   have HSG:=Qh (show (Value.agg #[.bool s,.slice A2 j c2]) = .agg #[.bool (decide (z<0)),.slice A2 (digs W z.natAbs).length c2] by rw [HZ.out.2,←hjl])
   clear hjl HLS HO2
   go_wp2
   have hr:=ResI.stored (w:=w) (g:=w.heap.size+1) (u:=.bool s) (u':=.slice A2 j c2) ⟨A2,c2,rfl,HOz.out⟩ HBw.out hle (by omega)
   exact bodyPost_ret (v:=.agg #[.bool s,.slice A2 j c2]) (by simp [results,Tryz.results116,go_sem,r0,r1]) rfl ⟨_,rfl,by rw [HSG.out];exact hr.1,hr.2⟩
end
end Go.Proofs.YtpikjceodmepiaaGreatDoor
namespace Hb
end Hb
namespace Go.Proofs.YtpikjceodmepiaaGreatDoor
section
open Go.RowKit Hb
section
end
end
section
open Go.ChangeShapes Go.WideShapes Go.ChangeAt Go.RowKit Go.Joins Hb
end
section
open Go.RowKit Hb
section
end
section
variable {w:World} {B B':Nat} {A A':Option Addr} {c c':Nat} {x y z:Int}
theorem sg_neg (y:Int):sg (!(decide (y<0))) (digs 2 y.natAbs)=decide (-y<0):=by
 rw [←bval_sg,bval,nv_digs (by decide)]
 refine decide_eq_decide.2 ?_
 by_cases h1:y<0
 ·rw [decide_eq_true h1]
  simp only [Bool.not_true,Bool.false_eq_true,if_false]
  omega
 ·rw [decide_eq_false h1]
  simp only [Bool.not_false,if_true]
  omega
theorem Minus_w {my:Int} (hm : -y=my) (hs:SlI w w.heap.size A (digs 2 y.natAbs).length c (digs 2 y.natAbs)) :
  Calls Tryz.prog 106 #[.agg #[.bool (decide (y<0)),.slice A (digs 2 y.natAbs).length c]] w fun e w'=>e = .returned (.agg #[.bool (decide (my<0)),.slice A (digs 2 y.natAbs).length c])∧Below w.heap.size w w':=by
 have h:=rminus_any (s:=decide (y<0)) hs (Nat.le_refl _) (nrm_digs (by decide) _)
 rwa [sg_neg,hm] at h
theorem Sum_m {my:Int} (hm : -y=my) (hs:SlI w w.heap.size A (digs 2 x.natAbs).length c (digs 2 x.natAbs)) (ht:SlI w w.heap.size A' (digs 2 y.natAbs).length c' (digs 2 y.natAbs)) (hn:(digs 2 x.natAbs).length≤2000000000) (hn':(digs 2 y.natAbs).length≤2000000000) (hz:x+my=z) :
  Calls Tryz.prog 99 #[.agg #[.bool (decide (x<0)),.slice A (digs 2 x.natAbs).length c],.agg #[.bool (decide (my<0)),.slice A' (digs 2 y.natAbs).length c']] w (PostB w z):=
 rsum_any hs ht (by omega) (by omega) (Nat.le_refl _) (Nat.le_refl _) (nrm_digs (by decide) _) (nrm_digs (by decide) _) (bval_digs x) (by have:=bval_digs my;rwa [←hm,Int.natAbs_neg,hm] at this) hz
end
theorem small_step (s:Bool) {N:Int} {X:Nat} (h:N=if s then -(X:Int) else X) (h0:N≠0) :
  0<X∧(N.tmod 2=0∧X % 2=0∨N.tmod 2=1∧X % 2=1∨N.tmod 2 = -1∧X % 2=1)∧N.tdiv 2=(if s then -((X / 2:Nat):Int) else ((X / 2:Nat):Int)):=by
 have e1:(X:Int).tmod 2=((X % 2:Nat):Int):=by rw [Int.tmod_eq_emod_of_nonneg (by omega)];omega
 have e2:(X:Int).tdiv 2=((X / 2:Nat):Int):=by rw [Int.tdiv_eq_ediv_of_nonneg (by omega)];omega
 cases s
 ·simp only [Bool.false_eq_true,if_false] at h ⊢
  subst h
  rw [e1,e2]
  omega
 ·simp only [if_true] at h ⊢
  subst h
  rw [Int.neg_tmod,Int.neg_tdiv,e1,e2]
  omega
def SmRel (W0:World) (s:Bool) (a:Nat) (xv bv:Value) (wr:World) (j X:Nat) (N:Int):Prop:=
 xv = .int .i64 N∧N=(if s then -(X:Int) else X)∧a / 2 ^ j=X∧OfRel W0 (lb a j) bv wr
theorem Small_any (k:Int) (hk : -9223372036854775808≤k∧k≤9223372036854775807) (w:World) :
  Calls Tryz.prog 100 #[.int .i64 k] w (PostB w k):=by
 obtain ⟨s,hs⟩:∃ s,decide (k<0)=s:=⟨_,rfl⟩
 obtain ⟨a,ha⟩:∃ a,k.natAbs=a:=⟨_,rfl⟩
 have HK:=Qh hk
 have ha64:a≤9223372036854775808:=by omega
 have hks:k=(if s then -(a:Int) else a):=by
  cases s
  ·have:=of_decide_eq_false hs;simp;omega
  ·have:=of_decide_eq_true hs;simp;omega
 have HV:=Qh (show bval s (digs 2 a)=k by unfold bval;rw [nv_digs (by decide),hks])
 have HVb:=Qh (fun l (hl:nv 2 l=a)=>show bval s l=k by unfold bval;rw [hl,hks])
 have HS:=Qh hs
 have HKS:=Qh hks
 have HB:=Qh ((Below.refl w.heap.size w).alloc (Nat.le_refl _) (.cells #[.bool false,.slice none 0 0] 79))
 have HX:=Qh (show (w.alloc (.cells #[.bool false,.slice none 0 0] 79)).heap[w.heap.size]?=some (.cells #[.bool false,.slice none 0 0] 79 (0,0)) from heap_alloc_new w _)
 have hsz:w.heap.size<(w.alloc (.cells #[.bool false,.slice none 0 0] 79)).heap.size:=by simp
 have hd1:decide (k<0)=s:=hs
 clear ha hks hs
 go_enter Tryz.func100,Tryz.ntmps100
 go_wp2_with fail
 generalize (w.alloc (.cells #[.bool false,.slice none 0 0] 79))=W0 at *
 have HR0:=Qh (show SmRel W0 s a (.int .i64 k) (.slice none 0 0) W0 0 a k from ⟨rfl,HKS.out,by rw [Nat.pow_zero,Nat.div_one],OfRel.start W0⟩)
 clear hk
 go_loopw [0,4] (fun xv bv wr=>∃ (j X:Nat) (N:Int),-9223372036854775808≤N∧N≤9223372036854775807∧SmRel W0 s a xv bv wr j X N) (fun xv _ _=>(intOf xv).natAbs)
 case atStart=>exact ⟨0,a,k,HK.out.1,HK.out.2,HR0.out⟩
 case round=>
  obtain ⟨j,X,N,hN1,hN2,rfl,hNX,hX,A1,n1,c1,rfl,ho1,hl1,hb1⟩:=hrel
  have HO:=Qh ho1
  have HL:=Qh hl1
  have HB1:=Qh hb1
  have hz1:=hb1.size
  have HNX:=Qh hNX
  have HXj:=Qh hX
  clear ho1 hl1 hb1 HR0 hNX hX
  by_cases h0:N=0
  ·subst h0
   have hX0:X=0:=by have:=HNX.out;split at this <;> omega
   have HZ:=Qh (HVb.out (lb a j) (by
    rw [lb_nv]
    refine Nat.mod_eq_of_lt ?_
    have h1:=HXj.out
    rw [hX0] at h1
    exact (Nat.div_eq_zero_iff.1 h1).resolve_left (Nat.ne_of_gt (Nat.pow_pos (by decide)))))
   have HBf:=Qh (Qt HB.out HB1.out)
   clear HNX HXj hX0
   go_wp2_with fail
   (with_reducible refine (rlaid_at s HO.out HL.out (lb_dig a j) HZ.out).mono ?_)
   rintro ex w5 ⟨rfl,ho5,hb5⟩
   obtain ⟨r0,r1,r2,r3⟩:=two_cells (HB1.out.trans (hb5.mono hz1)) HX.out hsz
   have HO5:=Qh ho5
   have HB5:=Qh (Qt HBf.out hb5)
   clear ho5 hb5
   go_wp2
   have hr:=ResB.stored (w:=w) (g:=w.heap.size) (u:=.bool s) (u':=.slice A1 (digs 2 k.natAbs).length c1) ⟨A1,c1,rfl,HO5.out⟩ HB5.out (by omega) (by omega)
   exact bodyPost_ret (v:=.agg #[.bool (decide (k<0)),.slice A1 (digs 2 k.natAbs).length c1]) (by simp [results,Tryz.results100,go_sem,r0,r1];exact HS.out.symm) rfl ⟨_,rfl,hr.1,hr.2⟩
  ·obtain ⟨hXp,hmod,hdiv⟩:=small_step s HNX.out h0
   obtain ⟨M,hM⟩:∃ M,N.tdiv 2=M:=⟨_,rfl⟩
   have HMd:=Qh (show M=(if s then -((X / 2:Nat):Int) else ((X / 2:Nat):Int)) from hM ▸ hdiv)
   have hMb : -9223372036854775808≤M∧M≤9223372036854775807∧M.natAbs<N.natAbs:=by
    have h1:=HNX.out
    have h2:=HMd.out
    split at h1 <;> omega
   have hj:j≤64:=by
    refine Nat.le_of_lt (pow_lt_pow' (b:=2) (by decide) (Nat.lt_of_le_of_lt ?_ (show 9223372036854775808<2 ^ 64 by decide)))
    refine Nat.le_trans ?_ ha64
    have h1:=HXj.out
    refine Nat.le_of_not_lt fun h2=>?_
    rw [Nat.div_eq_of_lt h2] at h1
    omega
   have hn1:n1≤64:=by have h1:=HL.out;rw [lb_length] at h1;omega
   have HXq:=Qh (show a / 2 ^ (j+1)=X / 2 by rw [Nat.pow_succ,←Nat.div_div_eq_div_mul,HXj.out])
   obtain ⟨hMb1,hMb2,hMb3⟩:=hMb
   clear hdiv HV HVb
   rcases hmod with ⟨hm,hy⟩ | ⟨hm,hy⟩ | ⟨hm,hy⟩
   all_goals
    have HLB:=Qh (show lb a (j+1)=lb a j ++ [_] by rw [lb,HXj.out,hy])
    clear hy
    go_wp2_with (at_builtin;refine wpList_append_i64 (by rfl) _ _ (by rfl) W0.heap.size A1 n1 c1 (lb a j) (by rfl) (Own.alloc HO.out _) wr.heap.size _ (by rfl) (by simp [go_sem];rfl) (Nat.le_trans hn1 (by decide)) (by simp;omega) ?_;intro A3 c3 w3 ho3 hb3)
    have HR3:=Qh (show OfRel W0 (lb a (j+1)) (.slice A3 (n1+1) c3) w3 from ⟨A3,n1+1,c3,rfl,by rw [HLB.out];exact ho3,by rw [HLB.out,List.length_append,HL.out];rfl,(HB1.out.alloc (by omega) _).trans hb3⟩)
    clear ho3 hb3
    go_wp2_with fail
    go_roundw
    case rel=>exact ⟨j+1,X / 2,M,hMb1,hMb2,rfl,HMd.out,HXq.out,HR3.out⟩
    case measure=>simp [intOf];omega
theorem len_zero' {y:Int} : (digs 2 y.natAbs).length=0↔y=0:=by
 constructor
 ·intro h
  have h9:=nv_digs (b:=2) (by decide) y.natAbs
  rw [List.length_eq_zero_iff.1 h] at h9
  have:(0:Nat)=y.natAbs:=h9
  omega
 ·rintro rfl;rw [show (0:Int).natAbs=0 from rfl,digs_zero];rfl
theorem rsign_any (x:Int) (A:Option Addr) (c:Nat) (w:World) :
  Calls Tryz.prog 107 #[.agg #[.bool (decide (x<0)),.slice A (digs 2 x.natAbs).length c]] w fun e w'=>e = .returned (.int .i64 x.sign)∧Below w.heap.size w w':=by
 have HB:=Qh ((Below.refl w.heap.size w).alloc (Nat.le_refl _) (.cells #[.bool (decide (x<0)),.slice A (digs 2 x.natAbs).length c] 79))
 have hl:=len_zero' (y:=x)
 obtain ⟨n,hn⟩:∃ n,(digs 2 x.natAbs).length=n:=⟨_,rfl⟩
 rw [hn] at hl HB ⊢
 obtain ⟨s,hs⟩:∃ s,decide (x<0)=s:=⟨_,rfl⟩
 rw [hs] at HB ⊢
 rcases (by omega:x=0∨0<x∨x<0) with hx | hx | hx
 ·have h0:=hl.2 hx
  subst h0
  have hsx:x.sign=0:=by rw [hx];rfl
  rw [hsx]
  clear hl hx hn hsx hs
  go_enter Tryz.func107,Tryz.ntmps107
  go_wp2
  go_ret
  exact ⟨rfl,HB.out⟩
 ·have h0:¬n=0:=fun h=>by have:=hl.1 h;omega
  obtain rfl:s=false:=by rw [←hs];exact decide_eq_false (by omega)
  have hsx:x.sign=1:=Int.sign_eq_one_of_pos hx
  rw [hsx]
  have hnb:((n:Int)==0)=false:=beq_eq_false_iff_ne.2 (by omega)
  clear hl hx hn hsx hs
  go_enter Tryz.func107,Tryz.ntmps107
  go_wp2
  go_ret
  exact ⟨rfl,HB.out⟩
 ·have h0:¬n=0:=fun h=>by have:=hl.1 h;omega
  obtain rfl:s=true:=by rw [←hs];exact decide_eq_true (by omega)
  have hsx:x.sign = -1:=Int.sign_eq_neg_one_of_neg hx
  rw [hsx]
  have hnb:((n:Int)==0)=false:=beq_eq_false_iff_ne.2 (by omega)
  clear hl hx hn hsx hs
  go_enter Tryz.func107,Tryz.ntmps107
  go_wp2
  go_ret
  exact ⟨rfl,HB.out⟩
theorem two_set {w:World} {g t:Nat} {x y u v:Value} (h:w.heap[g]?=some (.cells #[x,y] t (0,0))):((w.setCell ⟨g,0,none⟩ u).setCell ⟨g,1,none⟩ v).heap[g]?=some (.cells #[u,v] t (0,0)):=by
 simp [World.setCell,Array.getElem?_modify,h]
theorem rcmp_any {x y:Int} {B B':Nat} {A A':Option Addr} {c c':Nat} {w:World} (hs:SlI w B A (digs 2 x.natAbs).length c (digs 2 x.natAbs)) (ht:SlI w B' A' (digs 2 y.natAbs).length c' (digs 2 y.natAbs)) (hB:B≤w.heap.size) (hB':B'≤w.heap.size) (hn:(digs 2 x.natAbs).length≤2000000000) (hn':(digs 2 y.natAbs).length≤2000000000) {k:Int} (hk:cmpZ x y=k) :
  Calls Tryz.prog 76 #[.agg #[.bool (decide (x<0)),.slice A (digs 2 x.natAbs).length c],.agg #[.bool (decide (y<0)),.slice A' (digs 2 y.natAbs).length c']] w fun e w'=>e = .returned (.int .i64 k)∧Below w.heap.size w w':=by
 obtain ⟨my,hmy⟩:∃ m,-y=m:=⟨_,rfl⟩
 obtain ⟨d,hd⟩:∃ d,x+my=d:=⟨_,rfl⟩
 have HK:=Qh (show d.sign=k by rw [←hk,←sign_cmp];congr 1;omega)
 have HB:=Qh (((Below.refl w.heap.size w).alloc (Nat.le_refl _) (.cells #[.bool (decide (x<0)),.slice A (digs 2 x.natAbs).length c] 79)).alloc (by simp) (.cells #[.bool (decide (y<0)),.slice A' (digs 2 y.natAbs).length c'] 79))
 have HX0:=Qh (heap_first2 w (.cells #[.bool (decide (x<0)),.slice A (digs 2 x.natAbs).length c] 79) (.cells #[.bool (decide (y<0)),.slice A' (digs 2 y.natAbs).length c'] 79))
 have HX1:=Qh (heap_second w (.cells #[.bool (decide (x<0)),.slice A (digs 2 x.natAbs).length c] 79) (.cells #[.bool (decide (y<0)),.slice A' (digs 2 y.natAbs).length c'] 79))
 have HM:=Qh (fun w1 (hb:Below w.heap.size w w1)=>Minus_w hmy ((ht.below (C:=w.heap.size) hb hB').mono (Nat.le_trans hB' hb.size)))
 have HSu:=Qh (fun w1 (hb:Below w.heap.size w w1)=>Sum_m hmy ((hs.below (C:=w.heap.size) hb hB).mono (Nat.le_trans hB hb.size)) ((ht.below (C:=w.heap.size) hb hB').mono (Nat.le_trans hB' hb.size)) hn hn' hd)
 have hsz:w.heap.size+2≤((w.alloc (.cells #[.bool (decide (x<0)),.slice A (digs 2 x.natAbs).length c] 79)).alloc (.cells #[.bool (decide (y<0)),.slice A' (digs 2 y.natAbs).length c'] 79)).heap.size:=by simp
 generalize (digs 2 x.natAbs).length=n at *
 generalize (digs 2 y.natAbs).length=n' at *
 generalize decide (x<0)=sx at *
 generalize decide (y<0)=sy at *
 generalize decide (my<0)=sm at *
 clear hs ht hB hB' hn hn' hk hmy hd
 go_enter Tryz.func76,Tryz.ntmps76
 go_upto_region 1 with fail
 generalize ((w.alloc (.cells #[.bool sx,.slice A n c] 79)).alloc (.cells #[.bool sy,.slice A' n' c'] 79))=w2 at *
 refine wp_region_wait (fun w'=>(w'.cell? ⟨w.heap.size,0,none⟩=some (.bool sx)∧w'.cell? ⟨w.heap.size,1,none⟩=some (.slice A n c))∧(w'.cell? ⟨w.heap.size+1,0,none⟩=some (.bool sy)∧w'.cell? ⟨w.heap.size+1,1,none⟩=some (.slice A' n' c'))) 5 (by kernel_rfl) ?_
 change wpAnyW _ _ _ _ _ _ _ _ _ w2.drew
 have HSS:=Qh (fun w' (hb:Below w2.heap.size w2 w')=>show ((w'.cell? ⟨w.heap.size,0,none⟩=some (.bool sx)∧w'.cell? ⟨w.heap.size,1,none⟩=some (.slice A n c))∧(w'.cell? ⟨w.heap.size+1,0,none⟩=some (.bool sy)∧w'.cell? ⟨w.heap.size+1,1,none⟩=some (.slice A' n' c'))) from
  ⟨⟨(two_cells hb HX0.out (by omega)).1,(two_cells hb HX0.out (by omega)).2.1⟩,⟨(two_cells hb HX1.out (by omega)).1,(two_cells hb HX1.out (by omega)).2.1⟩⟩)
 have HB3:=Qh (Below.refl w2.heap.size w2).drew
 have hz3:w2.heap.size≤w2.drew.heap.size:=Nat.le_refl _
 generalize w2.drew=w3 at *
 have HSC:=Qh (HSS.out _ HB3.out)
 refine wpAnyW_take 5 (i:=0) (v:=.agg #[.bool sx,.slice A n c]) rfl (by kernel_rfl) (by kernel_rfl) (by kernel_rfl) (by kernel_rfl) (fun _ _ _ h=>h) (Or.inl ⟨by kernel_rfl,fun w5 hSw=>by go_simp⟩) HSC.out ?_
 refine wpAnyW_take 5 (i:=1) (v:=.agg #[.bool sy,.slice A' n' c']) rfl (by kernel_rfl) (by kernel_rfl) (by kernel_rfl) (by kernel_rfl) (fun _ _ _ h=>h) (Or.inl ⟨by kernel_rfl,fun w5 hSw=>by go_simp⟩) HSC.out ?_
 go_simp
 refine wpAnyW_two (i:=2) (i2:=4) (by kernel_rfl) rfl rfl (fun K hK=>?_) (fun K hK=>?_)
 ·go_simp
  (refine (HM.out _ (Qt HB.out HB3.out)).mono ?_)
  rintro ex w4 ⟨rfl,hbw4⟩
  have K4:Below w2.heap.size w2 w4:=HB3.out.trans (hbw4.mono (by first | omega | (simp;done) | (simp;omega)))
  have hz4:=K4.size
  refine hK.out _ _ (fun _=>HSS.out _ K4) ?_
  refine wpAnyW_two (i:=3) (i2:=4) (by kernel_rfl) rfl rfl (fun K hK=>?_) (fun K hK=>?_)
  ·go_simp
   (refine (HSu.out _ (Qt HB.out K4)).mono ?_)
   rintro ex w5 ⟨v5,rfl,⟨A5,c5,rfl,ho5⟩,hbw5⟩
   have K5:Below w2.heap.size w2 w5:=K4.trans (hbw5.mono hz4)
   have hz5:=K5.size
   refine hK.out _ _ (fun _=>HSS.out _ K5) ?_
   refine uW 4 fun K hK=>?_
   go_simp
   refine hK.out _ _ (fun _=>HSS.out _ (K5.alloc hz5 (.cells #[.bool false,.slice none 0 0] 79))) ?_
   have hv8:=heap_alloc_new w5 (.cells #[.bool (decide (d<0)),.slice A5 (digs 2 d.natAbs).length c5] 79)
   have KB9:=Qh (HB.out.trans (((K5).alloc hz5 (.cells #[.bool (decide (d<0)),.slice A5 (digs 2 d.natAbs).length c5] 79)).mono HB.out.size))
   refine uW 5 fun K hK=>?_
   go_simp
   refine hK.out _ _ (fun h=>absurd h (by simp)) ?_
   refine wpAnyW_done (by kernel_rfl) ?_ _
   generalize w5.alloc (.cells #[.bool (decide (d<0)),.slice A5 (digs 2 d.natAbs).length c5] 79)=w9 at *
   obtain ⟨q0,q1,_,_⟩:=two_cells (C:=w9.heap.size) (Below.refl _ _) hv8 (Array.getElem?_eq_some_iff.1 hv8).1
   go_wp2_with fail
   (refine (rsign_any d _ _ _).mono ?_)
   rintro ex w10 ⟨rfl,hb10⟩
   have KF:=Qh (Qt KB9.out hb10)
   clear hb10
   go_wp2
   go_ret
   exact ⟨ret_eq (by first | rfl | (rw [HK.out];rfl)),KF.out⟩
  ·go_simp
   have K5:Below w2.heap.size w2 (w4.alloc (.cells #[.bool false,.slice none 0 0] 79)):=K4.alloc hz4 (.cells #[.bool false,.slice none 0 0] 79)
   have hv4:(w4.alloc (.cells #[.bool false,.slice none 0 0] 79)).heap[w4.heap.size]?=some (.cells #[.bool false,.slice none 0 0] 79 (0,0)):=heap_alloc_new w4 _
   have hlt:w4.heap.size<(w4.alloc (.cells #[.bool false,.slice none 0 0] 79)).heap.size:=by simp
   refine hK.out _ _ (fun _=>HSS.out _ K5) ?_
   generalize w4.alloc (.cells #[.bool false,.slice none 0 0] 79)=w6 at *
   refine uW 3 fun K hK=>?_
   go_simp
   (refine (HSu.out _ (Qt HB.out K5)).mono ?_)
   rintro ex w7 ⟨v5,rfl,⟨A5,c5,rfl,ho5⟩,hbw7⟩
   have K7:Below w2.heap.size w2 w7:=Qt K5 hbw7
   refine hK.out _ _ (fun _=>HSS.out _ K7) ?_
   have hv9:=(hbw7.block _ hlt).trans hv4
   obtain ⟨t0,t1,t2,t3⟩:=two_cells (C:=(w7).heap.size) (Below.refl _ _) hv9 (Ql hlt hbw7.size)
   have hv8:=two_set (u:=.bool (decide (d<0))) (v:=.slice A5 (digs 2 d.natAbs).length c5) hv9
   have KB9:=Qh (HB.out.trans ((((K7).setCell (p:=⟨w4.heap.size,0,none⟩) hz4 (.bool (decide (d<0)))).setCell (p:=⟨w4.heap.size,1,none⟩) hz4 (.slice A5 (digs 2 d.natAbs).length c5)).mono HB.out.size))
   refine uW 5 fun K hK=>?_
   go_simp
   refine hK.out _ _ (fun h=>absurd h (by simp)) ?_
   refine wpAnyW_done (by kernel_rfl) ?_ _
   clear t0 t1 t2 t3 hv9
   generalize (((w7).setCell ⟨w4.heap.size,0,none⟩ (.bool (decide (d<0)))).setCell ⟨w4.heap.size,1,none⟩ (.slice A5 (digs 2 d.natAbs).length c5))=w9 at *
   obtain ⟨q0,q1,_,_⟩:=two_cells (C:=w9.heap.size) (Below.refl _ _) hv8 (Array.getElem?_eq_some_iff.1 hv8).1
   go_wp2_with fail
   (refine (rsign_any d _ _ _).mono ?_)
   rintro ex w10 ⟨rfl,hb10⟩
   have KF:=Qh (Qt KB9.out hb10)
   clear hb10
   go_wp2
   go_ret
   exact ⟨ret_eq (by first | rfl | (rw [HK.out];rfl)),KF.out⟩
 ·go_simp
  have K5:Below w2.heap.size w2 (w3.alloc (.cells #[.bool false,.slice none 0 0] 79)):=HB3.out.alloc (by first | omega | (simp;done) | (simp;omega)) (.cells #[.bool false,.slice none 0 0] 79)
  have hv4:(w3.alloc (.cells #[.bool false,.slice none 0 0] 79)).heap[w3.heap.size]?=some (.cells #[.bool false,.slice none 0 0] 79 (0,0)):=heap_alloc_new w3 _
  have hlt:w3.heap.size<(w3.alloc (.cells #[.bool false,.slice none 0 0] 79)).heap.size:=by simp
  have hz4:w2.heap.size≤w3.heap.size:=by omega
  refine hK.out _ _ (fun _=>HSS.out _ K5) ?_
  generalize w3.alloc (.cells #[.bool false,.slice none 0 0] 79)=w6 at *
  refine uW 2 fun K hK=>?_
  go_simp
  (refine (HM.out _ (Qt HB.out K5)).mono ?_)
  rintro ex w4 ⟨rfl,hbw4⟩
  have K4:Below w2.heap.size w2 w4:=Qt K5 hbw4
  refine hK.out _ _ (fun _=>HSS.out _ K4) ?_
  refine uW 3 fun K hK=>?_
  go_simp
  (refine (HSu.out _ (Qt HB.out K4)).mono ?_)
  rintro ex w7 ⟨v5,rfl,⟨A5,c5,rfl,ho5⟩,hbw7⟩
  have K7:Below w2.heap.size w2 w7:=Qt K4 hbw7
  refine hK.out _ _ (fun _=>HSS.out _ K7) ?_
  have hv9:=(hbw7.block _ (Ql hlt hbw4.size)).trans ((hbw4.block _ hlt).trans hv4)
  obtain ⟨t0,t1,t2,t3⟩:=two_cells (C:=(w7).heap.size) (Below.refl _ _) hv9 (Ql hlt (Nat.le_trans hbw4.size hbw7.size))
  have hv8:=two_set (u:=.bool (decide (d<0))) (v:=.slice A5 (digs 2 d.natAbs).length c5) hv9
  have KB9:=Qh (HB.out.trans ((((K7).setCell (p:=⟨w3.heap.size,0,none⟩) hz4 (.bool (decide (d<0)))).setCell (p:=⟨w3.heap.size,1,none⟩) hz4 (.slice A5 (digs 2 d.natAbs).length c5)).mono HB.out.size))
  refine uW 5 fun K hK=>?_
  go_simp
  refine hK.out _ _ (fun h=>absurd h (by simp)) ?_
  refine wpAnyW_done (by kernel_rfl) ?_ _
  clear t0 t1 t2 t3 hv9
  generalize (((w7).setCell ⟨w3.heap.size,0,none⟩ (.bool (decide (d<0)))).setCell ⟨w3.heap.size,1,none⟩ (.slice A5 (digs 2 d.natAbs).length c5))=w9 at *
  obtain ⟨q0,q1,_,_⟩:=two_cells (C:=w9.heap.size) (Below.refl _ _) hv8 (Array.getElem?_eq_some_iff.1 hv8).1
  go_wp2_with fail
  (refine (rsign_any d _ _ _).mono ?_)
  rintro ex w10 ⟨rfl,hb10⟩
  have KF:=Qh (Qt KB9.out hb10)
  clear hb10
  go_wp2
  go_ret
  exact ⟨ret_eq (by first | rfl | (rw [HK.out];rfl)),KF.out⟩
end
end Go.Proofs.YtpikjceodmepiaaGreatDoor
