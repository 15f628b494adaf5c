import Derived.Shelf.Small.Bits
import Derived.Test.YtgfeainpeplphaaDoorRows
import Derived.WalkKit
import Derived.Deep.QuietTactic
import Derived.BigQuiet
import Derived.Deep.RegionHeld3
import Derived.Deep.DrawnRows
import Derived.Deep.DeepCutAuto
import Derived.Deep.CutBlock
import Derived.Laws.BytesArg
import Derived.Laws.AppendOwnNone
import Derived.ProofKit
import Derived.OpenShut
import Derived.JoinedCond
import Derived.JoinedOf
import Derived.JoinedAt
import Derived.ChangeSame
import Derived.ChangeSlices
import Derived.RowKit3
import Derived.Carry
import Derived.Lib.SmallJoins
import Derived.Deep.LoopGhost
import Derived.Maps.AppendAt
import Derived.IntWalk
import Derived.StillTailTactics
import Derived.Laws.Cover2
import Derived.Laws.FloatArith
import Derived.Lib.ValidU
import Derived.WalkLawsBesides
import Derived.Test.YtgfeainpeplphaaDoorV1
import Derived.Test.YtgfeainpeplphaaDoorV2
import Derived.Test.YtgfeainpeplphaaDoorV3
import Derived.Test.YtgfeainpeplphaaDoorV0
set_option maxRecDepth 1000000
set_option maxHeartbeats 64000000
set_option linter.unusedVariables false
set_option linter.unusedSimpArgs false
namespace Go.Proofs.YtgfeainpeplphaaDoor
open Go.RowKit Hb
theorem infoI:(Tryd.prog.info? 3).map (fun i=>(i.zero,i.size,i.bytes))=some (some (.int .i64 0),1,8):=by kernel_rfl
abbrev OwnI:=Own 3
theorem makeI (n:Nat) (hn:n≤4294967296) (w:World):(Instr.makeSlice 57 (.int .i64 (n:Int)) (.int .i64 (n:Int))).run Tryd.prog w = .ok (.slice (some ⟨w.heap.size,0,none⟩) n n) (w.alloc (.cells (madeCells #[.int .i64 0] n) 3)):=
 run_make_row' 57 3 (.int .i64 0) 8 Tryd.underlying57 infoI rfl .i64 .i64 n (by omega) (by omega) w
theorem u8s_length (l:List Nat):(u8s l).length=l.length:=by simp [u8s]
end Go.Proofs.YtgfeainpeplphaaDoor
namespace Go.Proofs.YtgfeainpeplphaaDoor
open Go.ChangeShapes Go.WideShapes Go.ChangeAt Go.RowKit Go.Joins Hb
section
end
end Go.Proofs.YtgfeainpeplphaaDoor
namespace Go.Proofs.YtgfeainpeplphaaDoor
open Go.RowKit Hb
structure VE where
 g:Nat
 neg:Bool
 A:Option Addr
 n:Nat
 c:Nat
 l:List Nat
section
variable {w0 w w':World} {vs:List VE} {v:VE}
theorem own_block {t:TypeId} {B n c:Nat} {A:Option Addr} {xs:List Value} (h:Own t w B A n c xs) {b o:Nat} (e:A=some ⟨b,o,none⟩):B≤b∧b<w.heap.size:=by
 rcases h.form with ⟨h1,_⟩ | ⟨g,h1,h2,h3⟩
 ·rw [h1] at e;cases e
 ·rw [h1] at e;injection e with e;injection e with e1 e2;omega
end
section
end
section
end
section
end
def txtZ (z:Int) (r:Nat):List Nat:=txtL (decide (z<0)) r z.natAbs
theorem Own.same {t:TypeId} {w w':World} {B g n c:Nat} {xs:List Value} (h:Own t w B (some ⟨g,0,none⟩) n c xs) (he:w'.heap[g]?=w.heap[g]?):Own t w' B (some ⟨g,0,none⟩) n c xs:=by
 refine ⟨h.1,?_⟩
 rcases h.2 with ⟨h1,_⟩ | ⟨g',cap,cur,h1,h2,h3,h4⟩
 ·cases h1
 ·have h5:=h1
  injection h5 with a b cc
  injection a with a
  injection a with a
  subst a
  exact .inr ⟨g,cap,cur,h1,h2,he.trans h3,h4⟩
section
end
theorem rcut_any {B:Nat} {A:Option Addr} {l:List Nat} {n c:Nat} {w:World} (hs:SlI w B A n c l) :
  Calls Tryd.prog 88 #[.slice A n c] w fun e w'=>e = .returned (.slice A (tlen l) c)∧w=w':=by
 have hm:=hs.max
 have hc:=hs.cap
 have hlen:=hs.len
 unfold maxLen at hm
 have ht:=tlen_le l
 have hn1:n≤l.length:=by omega
 have hn2:l.length≤n:=by omega
 clear hlen
 go_enter Tryd.func88,Tryd.ntmps88
 go_wp2
 go_loop [3] (fun s=>∃ k:Nat,k≤n∧tlen l≤k∧s = .int .i64 (k:Int)) (fun s=>(intOf s).toNat)
 case atStart=>exact ⟨n,by omega,by omega,rfl⟩
 case round=>
  obtain ⟨k,hk,hkl,rfl⟩:=hrel
  by_cases h0:k=0
  ·subst h0
   have HZ:=Qh (show tlen l=0 by omega)
   clear ht hkl
   go_wp2
   go_ret
   exact ⟨ret_eq (by rw [HZ.out];rfl),rfl⟩
  ·obtain ⟨b,o,rfl,_,hcell⟩:=hs.at_ (by omega)
   have hx:=hcell (k - 1) (by omega)
   have hk1:1≤k:=by omega
   have hki:(0:Int)<(k:Int):=by omega
   have hks:(k:Int) - 1=((k - 1:Nat):Int):=by omega
   have hkn:((k - 1:Nat):Int)<(n:Int):=by omega
   have hz1:=tlen_take_last (l:=l) (n:=k - 1) (by omega)
   have hz2:=fun h=>tlen_eq_of (l:=l) (n:=k) hkl (.inr h)
   generalize l.getD (k - 1) 0=x at hx hz1 hz2
   clear hcell hs
   by_cases hz:x=0
   ·have hlt:=hz1 hz
    subst hz
    clear hz1 hz2
    go_wp2
    go_round
    case rel=>exact ⟨k - 1,by omega,by omega,rfl⟩
    case measure=>simp [intOf];omega
   ·have HZ:=Qh (hz2 hz)
    have hb:((x:Int)==0)=false:=beq_eq_false_iff_ne.2 (by omega)
    clear hz1 hz2
    go_wp2
    go_ret
    exact ⟨ret_eq (by rw [HZ.out];rfl),rfl⟩
def bitZ (l:List Nat) (i:Int):Nat:=if 0≤i then l.getD i.toNat 0 else 0
theorem getD_past {l:List Nat} {k:Nat} (h:l.length≤k):l.getD k 0=0:=by
 rw [List.getD_eq_getElem?_getD,List.getElem?_eq_none h];rfl
theorem rbit_any {B:Nat} {A:Option Addr} {l:List Nat} {n c:Nat} {w:World} (hs:SlI w B A n c l) (i:Int) :
  Calls Tryd.prog 87 #[.slice A n c,.int .i64 i] w fun e w'=>e = .returned (.int .i64 (bitZ l i:Nat))∧w=w':=by
 have hm:=hs.max
 have hc:=hs.cap
 have hlen:=hs.len
 unfold maxLen at hm
 by_cases h0:0≤i
 ·obtain ⟨k,rfl⟩:=Int.eq_ofNat_of_zero_le h0
  have hv:bitZ l (k:Int)=l.getD k 0:=by rw [bitZ,if_pos h0,Int.toNat_natCast]
  by_cases hk:k<n
  ·obtain ⟨b,o,rfl,_,hcell⟩:=hs.at_ (by omega)
   have hx:=hcell k hk
   have hkI:(k:Int)<(n:Int):=by omega
   rw [←hv] at hx
   generalize bitZ l (k:Int)=x at *
   clear hcell hs hlen hv
   go_enter Tryd.func87,Tryd.ntmps87
   go_wp2
   go_ret
   exact ⟨rfl,rfl⟩
  ·have hz:bitZ l (k:Int)=0:=by rw [hv];exact getD_past (by omega)
   rw [hz]
   have hkI:¬(k:Int)<(n:Int):=by omega
   clear hs hlen hv hz
   go_enter Tryd.func87,Tryd.ntmps87
   go_wp2
   go_ret
   exact ⟨rfl,rfl⟩
 ·have hz:bitZ l i=0:=by rw [bitZ,if_neg h0]
  rw [hz]
  have d0:decide (0≤i)=false:=decide_eq_false h0
  clear hs hlen hz h0
  go_enter Tryd.func87,Tryd.ntmps87
  go_wp2
  go_ret
  exact ⟨rfl,rfl⟩
theorem rlaid_any (neg:Bool) {B:Nat} {A:Option Addr} {l:List Nat} {n c:Nat} {w:World} (hs:SlI w B A n c l) (hB:B≤w.heap.size) :
  Calls Tryd.prog 89 #[.bool neg,.slice A n c] w fun e w'=>e = .returned (.agg #[.bool (sg neg l),.slice A (tlen l) c])∧Below w.heap.size w w':=by
 have HI:=Qh (fun w1 (hb:Below w.heap.size w w1)=>rcut_any (hs.below (C:=w.heap.size) hb hB))
 have HB:=Qh (Below.refl w.heap.size w)
 clear hs hB
 cases neg
 ·go_enter Tryd.func89,Tryd.ntmps89
  go_wp2_with (go_at_call 88;refine (HI.out _ (HB.out.alloc (Nat.le_refl _) _)).mono ?_;rintro e w' ⟨rfl,rfl⟩)
  exact bodyPost_ret (v:=.agg #[.bool false,.slice A (tlen l) c]) (by simp [results,Tryd.results89,go_sem]) rfl ⟨rfl,HB.out.alloc (Nat.le_refl _) _⟩
 ·by_cases h0:tlen l=0
  ·have HS:=Qh (sg_zero (neg:=true) h0)
   rw [h0] at HI ⊢
   clear h0
   go_enter Tryd.func89,Tryd.ntmps89
   go_wp2_with (go_at_call 88;refine (HI.out _ (HB.out.alloc (Nat.le_refl _) _)).mono ?_;rintro e w' ⟨rfl,rfl⟩)
   exact bodyPost_ret (v:=.agg #[.bool false,.slice A 0 c]) (by simp [results,Tryd.results89,go_sem]) rfl ⟨by rw [HS.out],HB.out.alloc (Nat.le_refl _) _⟩
  ·have h1:0<tlen l:=by omega
   have HS:=Qh (sg_pos (neg:=true) h1)
   generalize hk:tlen l=k at HI h1 ⊢
   clear h0 hk
   go_enter Tryd.func89,Tryd.ntmps89
   go_wp2_with (go_at_call 88;refine (HI.out _ (HB.out.alloc (Nat.le_refl _) _)).mono ?_;rintro e w' ⟨rfl,rfl⟩)
   exact bodyPost_ret (v:=.agg #[.bool true,.slice A k c]) (by simp [results,Tryd.results89,go_sem]) rfl ⟨by rw [HS.out],HB.out.alloc (Nat.le_refl _) _⟩
def bval (neg:Bool) (l:List Nat):Int:=if neg then -(nv 2 l:Int) else (nv 2 l:Int)
theorem bval_natAbs (neg:Bool) (l:List Nat):(bval neg l).natAbs=nv 2 l:=by unfold bval;split <;> omega
theorem bval_sg (neg:Bool) (l:List Nat):decide (bval neg l<0)=sg neg l:=by
 have h:=tlen_zero_iff (b:=2) (by decide) l
 cases neg
 ·simp [bval,sg]
 ·by_cases h0:tlen l=0
  ·rw [sg_zero h0];simp [bval,h.1 h0]
  ·rw [sg_pos (by omega)]
   have:nv 2 l≠0:=fun e=>h0 (h.2 e)
   simp [bval];omega
def ResB (w:World) (B:Nat) (v:Value) (z:Int):Prop:=
 ∃ A c,v = .agg #[.bool (decide (z<0)),.slice A (digs 2 z.natAbs).length c]∧OwnI w B A (digs 2 z.natAbs).length c (i64s (digs 2 z.natAbs))
theorem rlaid_at (neg:Bool) {B:Nat} {A:Option Addr} {l:List Nat} {n c:Nat} {w:World} (h:OwnI w B A n c (i64s l)) (hl:l.length=n) (hd:Dig 2 l) {z:Int} (hz:bval neg l=z) :
  Calls Tryd.prog 89 #[.bool neg,.slice A n c] w fun e w'=>e = .returned (.agg #[.bool (decide (z<0)),.slice A (digs 2 z.natAbs).length c])∧OwnI w' B A (digs 2 z.natAbs).length c (i64s (digs 2 z.natAbs))∧Below w.heap.size w w':=by
 refine (rlaid_any neg (h.sl hd hl) (Nat.le_refl _)).mono fun e w' ⟨he,hb⟩=>?_
 have ht:tlen l≤n:=by rw [←hl];exact tlen_le l
 have e1:=tr_eq_digs (b:=2) (by decide) hd
 have e2:(digs 2 (nv 2 l)).length=tlen l:=by rw [←e1,tr_length]
 subst hz
 rw [bval_sg,bval_natAbs,e2,←e1]
 refine ⟨he,?_,hb⟩
 have:=(h.below hb (Nat.le_refl _)).take ht
 rwa [i64s_take] at this
theorem ResB.stored {w w2:World} {base g:Nat} {v u u':Value} {z:Int} (hr:ResB w2 base v z) (hb:Below w.heap.size w w2) (hg:g<base) (hwg:w.heap.size≤g) :
  ResB ((w2.setCell ⟨g,0,none⟩ u).setCell ⟨g,1,none⟩ u') w.heap.size v z∧Below w.heap.size w ((w2.setCell ⟨g,0,none⟩ u).setCell ⟨g,1,none⟩ u'):=by
 refine ⟨?_,(hb.setCell (by simpa using hwg) _).setCell (by simpa using hwg) _⟩
 obtain ⟨A,c,hv,ho⟩:=hr
 exact ⟨A,c,hv,Own.mono (Own.farB (Own.farB ho (p:=⟨g,0,none⟩) hg u) (p:=⟨g,1,none⟩) hg u') (by omega)⟩
theorem wpList_append_i64 {ops:Array Oper} {rest:List Oper} {o:Oper} {a:Act} {Q:Exit→Act→World→Prop} {w:World} (hgd:o.guard=none) (s x:Operand)
  (ho:o.op = .call { callee:=.builtin .append,args:=#[s,x],argTypes:=#[57,57] })
  (base:Nat) (A:Option Addr) (n cp:Nat) (l:List Nat) (hs:a.eval s = .slice A n cp) (hown:OwnI w base A n cp (i64s l))
  (g:Nat) (y:Nat) (hx:a.eval x = .slice (some ⟨g,0,none⟩) 1 1) (hc:w.cell? ⟨g,0,none⟩=some (.int .i64 (y:Int))) (hn:n≤4294967296) (hbase:base≤w.heap.size)
  (h:∀ A' c' w',OwnI w' base A' (n+1) c' (i64s (l ++ [y]))→Below base w w'→wpList Tryd.prog ops Q rest (a.put o.dst (.slice A' (n+1) c')) w'):wpList Tryd.prog ops Q (o :: rest) a w:=by
 obtain ⟨i0,hi,hz0,hz1,hz2⟩:=info_parts infoI
 refine wpList_append_own _ hgd s x 57 ho base 3 i0 (.int .i64 0) 1 8 Tryd.underlying57 hi hz0 hz1 hz2 rfl (by decide) _ n (i64s l) hs hown ⟨g,0,none⟩ 1 1 [.int .i64 (y:Int)] hx rfl ?_ ?_ (by simp [maxLen];omega) (by omega) hbase ?_
 ·intro j u hj
  cases j with
  | zero=>simp at hj;subst hj;exact hc
  | succ j=>simp at hj
 ·intro u hu;simp at hu;subst hu;rfl
 ·intro v' w' hown' hg _
  have hf:∃ A' c',v' = .slice A' (n+1) c':=by
   rcases hown'.2 with ⟨h1,h2⟩ | ⟨g',cap,cur,h1,_⟩
   ·exact absurd h2 (by simp)
   ·exact ⟨_,_,h1⟩
  obtain ⟨A',c',rfl⟩:=hf
  refine h A' c' w' (by have h3:=hown';rw [show i64s l ++ [Value.int .i64 (y:Int)]=i64s (l ++ [y]) by simp [i64s]] at h3;exact h3) ⟨hg.os,hg.tape,hg.output,hg.size,fun j hj=>hg.block j (by omega) ?_⟩
  rcases Own.form hown with ⟨rfl,_⟩ | ⟨g',rfl,h4,_⟩
  ·simp [Value.ownBlock]
  ·simp [Value.ownBlock];omega
theorem bitZ_nat (l:List Nat) (k:Nat):bitZ l (k:Int)=l.getD k 0:=by rw [bitZ,if_pos (by omega),Int.toNat_natCast]
end Go.Proofs.YtgfeainpeplphaaDoor
namespace Hb
end Hb
namespace Go.Proofs.YtgfeainpeplphaaDoor
open Go.RowKit Hb
theorem own_zerosI (w:World) {B:Nat} (n:Nat) (hB:B≤w.heap.size) (hm:n≤maxLen):OwnI (w.alloc (.cells (madeCells #[.int .i64 0] n) 3)) B (some ⟨w.heap.size,0,none⟩) n n (i64s (List.replicate n 0)):=by
 have:=Own.made w (.int .i64 0) n 3 hB hm
 rwa [i64s_zeros] at this
theorem getD_zeros (n j:Nat):(List.replicate n 0).getD j 0=0:=by
 rw [List.getD_eq_getElem?_getD,List.getElem?_replicate];split <;> rfl
end Go.Proofs.YtgfeainpeplphaaDoor
namespace Hb
def ib (z:Int) (i:Nat):Bool:=decide (z / (2:Int) ^ i % 2=1)
end Hb
namespace Go.Proofs.YtgfeainpeplphaaDoor
open Go.RowKit Hb
section
end
end Go.Proofs.YtgfeainpeplphaaDoor
namespace Go.Proofs.YtgfeainpeplphaaDoor
open Go.ChangeShapes Go.WideShapes Go.ChangeAt Go.RowKit Go.Joins Hb
end Go.Proofs.YtgfeainpeplphaaDoor
namespace Go.Proofs.YtgfeainpeplphaaDoor
open Go.RowKit Hb
section
end
section
end
def tb (z:Int):Nat→List Nat | 0=>[] | k+1=>tb z k ++ [(ib z k).toNat]
theorem rdigit_any (c:Nat) (w:World) (hc:c<256):Calls Tryd.prog 86 #[.int .u8 (c:Int)] w fun e w'=>e = .returned (.int .i64 (dval c:Nat))∧w=w':=by
 have key:(c<48)∨(48≤c∧c≤57)∨(58≤c∧c<65)∨(65≤c∧c≤90)∨(91≤c∧c<97)∨(97≤c∧c≤122)∨(123≤c):=by omega
 rcases key with h | h | h | h | h | h | h
 ·have HD:=Qh (show dval c=99 by simp only [dval];repeat (first | rw [if_pos (by omega)] | rw [if_neg (by omega)]))
  have:decide ((48:Int)≤(c:Int))=false:=decide_eq_false (by omega)
  have:decide ((c:Int)≤57)=true:=decide_eq_true (by omega)
  have:decide ((97:Int)≤(c:Int))=false:=decide_eq_false (by omega)
  have:decide ((c:Int)≤122)=true:=decide_eq_true (by omega)
  have:decide ((65:Int)≤(c:Int))=false:=decide_eq_false (by omega)
  have:decide ((c:Int)≤90)=true:=decide_eq_true (by omega)
  rw [HD.out]
  go_enter Tryd.func86,Tryd.ntmps86
  go_wp2
  go_ret
  exact ⟨ret_int (by omega),rfl⟩
 ·have HD:=Qh (show dval c=c - 48 by simp only [dval];repeat (first | rw [if_pos (by omega)] | rw [if_neg (by omega)]))
  have:decide ((48:Int)≤(c:Int))=true:=decide_eq_true (by omega)
  have:decide ((c:Int)≤57)=true:=decide_eq_true (by omega)
  have:decide ((97:Int)≤(c:Int))=false:=decide_eq_false (by omega)
  have:decide ((c:Int)≤122)=true:=decide_eq_true (by omega)
  have:decide ((65:Int)≤(c:Int))=false:=decide_eq_false (by omega)
  have:decide ((c:Int)≤90)=true:=decide_eq_true (by omega)
  rw [HD.out]
  go_enter Tryd.func86,Tryd.ntmps86
  go_wp2
  go_ret
  exact ⟨ret_int (by omega),rfl⟩
 ·have HD:=Qh (show dval c=99 by simp only [dval];repeat (first | rw [if_pos (by omega)] | rw [if_neg (by omega)]))
  have:decide ((48:Int)≤(c:Int))=true:=decide_eq_true (by omega)
  have:decide ((c:Int)≤57)=false:=decide_eq_false (by omega)
  have:decide ((97:Int)≤(c:Int))=false:=decide_eq_false (by omega)
  have:decide ((c:Int)≤122)=true:=decide_eq_true (by omega)
  have:decide ((65:Int)≤(c:Int))=false:=decide_eq_false (by omega)
  have:decide ((c:Int)≤90)=true:=decide_eq_true (by omega)
  rw [HD.out]
  go_enter Tryd.func86,Tryd.ntmps86
  go_wp2
  go_ret
  exact ⟨ret_int (by omega),rfl⟩
 ·have HD:=Qh (show dval c=c - 55 by simp only [dval];repeat (first | rw [if_pos (by omega)] | rw [if_neg (by omega)]))
  have:decide ((48:Int)≤(c:Int))=true:=decide_eq_true (by omega)
  have:decide ((c:Int)≤57)=false:=decide_eq_false (by omega)
  have:decide ((97:Int)≤(c:Int))=false:=decide_eq_false (by omega)
  have:decide ((c:Int)≤122)=true:=decide_eq_true (by omega)
  have:decide ((65:Int)≤(c:Int))=true:=decide_eq_true (by omega)
  have:decide ((c:Int)≤90)=true:=decide_eq_true (by omega)
  rw [HD.out]
  go_enter Tryd.func86,Tryd.ntmps86
  go_wp2
  go_ret
  exact ⟨ret_int (by omega),rfl⟩
 ·have HD:=Qh (show dval c=99 by simp only [dval];repeat (first | rw [if_pos (by omega)] | rw [if_neg (by omega)]))
  have:decide ((48:Int)≤(c:Int))=true:=decide_eq_true (by omega)
  have:decide ((c:Int)≤57)=false:=decide_eq_false (by omega)
  have:decide ((97:Int)≤(c:Int))=false:=decide_eq_false (by omega)
  have:decide ((c:Int)≤122)=true:=decide_eq_true (by omega)
  have:decide ((65:Int)≤(c:Int))=true:=decide_eq_true (by omega)
  have:decide ((c:Int)≤90)=false:=decide_eq_false (by omega)
  rw [HD.out]
  go_enter Tryd.func86,Tryd.ntmps86
  go_wp2
  go_ret
  exact ⟨ret_int (by omega),rfl⟩
 ·have HD:=Qh (show dval c=c - 87 by simp only [dval];repeat (first | rw [if_pos (by omega)] | rw [if_neg (by omega)]))
  have:decide ((48:Int)≤(c:Int))=true:=decide_eq_true (by omega)
  have:decide ((c:Int)≤57)=false:=decide_eq_false (by omega)
  have:decide ((97:Int)≤(c:Int))=true:=decide_eq_true (by omega)
  have:decide ((c:Int)≤122)=true:=decide_eq_true (by omega)
  have:decide ((65:Int)≤(c:Int))=true:=decide_eq_true (by omega)
  have:decide ((c:Int)≤90)=false:=decide_eq_false (by omega)
  rw [HD.out]
  go_enter Tryd.func86,Tryd.ntmps86
  go_wp2
  go_ret
  exact ⟨ret_int (by omega),rfl⟩
 ·have HD:=Qh (show dval c=99 by simp only [dval];repeat (first | rw [if_pos (by omega)] | rw [if_neg (by omega)]))
  have:decide ((48:Int)≤(c:Int))=true:=decide_eq_true (by omega)
  have:decide ((c:Int)≤57)=false:=decide_eq_false (by omega)
  have:decide ((97:Int)≤(c:Int))=true:=decide_eq_true (by omega)
  have:decide ((c:Int)≤122)=false:=decide_eq_false (by omega)
  have:decide ((65:Int)≤(c:Int))=true:=decide_eq_true (by omega)
  have:decide ((c:Int)≤90)=false:=decide_eq_false (by omega)
  rw [HD.out]
  go_enter Tryd.func86,Tryd.ntmps86
  go_wp2
  go_ret
  exact ⟨ret_int (by omega),rfl⟩
abbrev SlB:=Sl u8s 256
theorem SlB.at_ {w:World} {B n c:Nat} {A:Option Addr} {l:List Nat} (h:SlB w B A n c l) (hn:0<n):∃ b o,A=some ⟨b,o,none⟩∧b<B∧∀ i,i<n→w.cell? ⟨b,o+i,none⟩=some (.int .u8 (l.getD i 0:Nat)):=by
 obtain ⟨b,o,hA,hb,hc⟩:=h.rd (by intro e;have:=congrArg List.length e;rw [u8s_length,h.len] at this;simp at this;omega)
 exact ⟨b,o,hA,hb,fun i hi=>hc i _ (u8s_get (by rw [h.len];exact hi))⟩
theorem u8s_one (l:List Nat):∀ u∈u8s l,u.oneCell'=true:=by
 intro u hu;obtain ⟨x,_,rfl⟩:=List.mem_map.1 hu;rfl
theorem u8s_append (l m:List Nat):u8s l ++ u8s m=u8s (l ++ m):=by simp [u8s]
theorem wp_append_farB {o:Oper} {a:Act} {K:Act→World→Prop} {Q:Exit→Act→World→Prop} {w:World} (s x:Operand)
  (ho:o.op = .call { callee:=.builtin .append,args:=#[s,x],argTypes:=#[119,119] })
  {base B:Nat} {A A0:Option Addr} {n0 c0 m c:Nat} {l0 l:List Nat} (hs:a.eval s = .slice A0 n0 c0) (hown:OwnB w base A0 n0 c0 (u8s l0)) (hx:a.eval x = .slice A m c) (hA:A=none→c=0) (hrd:SlB w B A m c l)
  (hm:n0+m≤67108864) (hbase:base≤w.heap.size)
  (h:∀ A' c' w',OwnB w' base A' (n0+m) c' (u8s (l0 ++ l))→Below base w w'→(∀ g,g<w.heap.size→A0≠some ⟨g,0,none⟩→w'.heap[g]?=w.heap[g]?)→(∀ g,A'=some ⟨g,0,none⟩→A0=some ⟨g,0,none⟩∨w.heap.size≤g)→K (a.put o.dst (.slice A' (n0+m) c')) w'):o.wp Tryd.prog a w K Q:=by
 obtain ⟨i0,hi,hz0,hz1,hz2⟩:=info_parts infoB
 cases A with
 | none=>
  have hm0:m=0:=by
   rcases Nat.eq_zero_or_pos m with h0 | h0
   ·exact h0
   ·obtain ⟨b,o,h1,_⟩:=SlB.at_ hrd h0;cases h1
  have hc0:=hA rfl
  subst hm0;subst hc0
  have hl:l = []:=List.length_eq_zero_iff.1 hrd.len
  subst hl
  have hrun:=run_append_owned_none (P:=Tryd.prog) (w:=w) base 119 o.type 5 i0 1 Tryd.underlying119 hi _ n0 (u8s l0) hown
  unfold Oper.wp
  simp [execOp,ho,resolve,invoke,builtin,hs,hx,hrun,Result.andThen]
  exact h A0 c0 w (by rw [List.append_nil];exact hown) (Below.refl _ _) (fun _ _ _=>rfl) (fun _ e=>.inl e)
 | some ad=>
  have hnews:∀ j u,(u8s l)[j]?=some u→w.cell? (ad.add j)=some u:=by
   intro j u hj
   have hj2:j<m:=by
    rw [←hrd.len,←u8s_length l]
    exact (List.getElem?_eq_some_iff.1 hj).1
   obtain ⟨b,o',h1,_,hc⟩:=SlB.at_ hrd (by omega)
   obtain rfl:=Option.some.inj h1
   rw [addr_add,hc j hj2,←u8s_get (by rw [hrd.len];exact hj2),hj]
  obtain ⟨v',w',hr,hown',hg,_,hat⟩:=run_append_own_at (P:=Tryd.prog) w base 119 o.type 5 i0 (.int .u8 0) 1 1 Tryd.underlying119 hi hz0 hz1 hz2 rfl (by decide) _ n0 (u8s l0) hown ad m c (u8s l) (by rw [u8s_length,hrd.len];simp) hnews (u8s_one l) (by simp [maxLen];omega) (by omega) hbase
  have hf:∃ A' c',v' = .slice A' (n0+m) c':=by
   rcases hown'.2 with ⟨h1,h2⟩ | ⟨g',cap,cur,h1,_⟩
   ·exact ⟨none,0,by rw [h1,h2]⟩
   ·exact ⟨_,_,h1⟩
  obtain ⟨A',c',rfl⟩:=hf
  unfold Oper.wp execOp
  simp only [ho,resolve,invoke,builtin,Sem.run_bind,Sem.run_pure,Result.andThen_ok,List.map_toArray,List.map_cons,List.map_nil,hs,hx,hr]
  refine h A' c' w' (by have h3:=hown';rw [u8s_append] at h3;exact h3) ⟨hg.os,hg.tape,hg.output,hg.size,fun j hj=>hg.block j (by omega) ?_⟩ (fun j hj hne=>hg.block j hj ?_) (fun g e=>?_)
  ·rcases Own.form hown with ⟨rfl,_⟩ | ⟨g',rfl,h4,_⟩
   ·simp [Value.ownBlock]
   ·simp [Value.ownBlock];omega
  ·rcases Own.form hown with ⟨rfl,_⟩ | ⟨g',rfl,h4,_⟩
   ·simp [Value.ownBlock]
   ·simp [Value.ownBlock]
    rintro rfl
    exact hne rfl
  ·subst e
   rcases Own.form hown with ⟨rfl,_⟩ | ⟨g',rfl,h4,_⟩
   ·simp [Value.ownBlock] at hat
    exact .inr (by omega)
   ·simp [Value.ownBlock] at hat
    rcases hat with rfl | h5
    ·exact .inl rfl
    ·exact .inr (by omega)
structure TxInv (l:List Nat) (n R s:Nat) (Q:List Nat) (rem:Nat):Prop where
 lq:Q.length=n
 dq:Dig 2 Q
 hq:∀ j,j<s→Q.getD j 0=0
 hr:rem<R
 hv:nv 2 (Q.drop s) * R+rem=nv 2 (l.drop s)
theorem TxInv.start {l:List Nat} {n R:Nat} (hl:l.length=n) (hR:0<R):TxInv l n R n (List.replicate n 0) 0:=
 ⟨by simp,Dig.replicate _ _ (by decide),fun j _=>getD_zeros _ _,hR,by rw [List.drop_eq_nil_of_le (by simp),List.drop_eq_nil_of_le (by omega)];simp [nv]⟩
theorem TxInv.low {l Q:List Nat} {n R i rem t:Nat} (h:TxInv l n R (i+1) Q rem) (hl:l.length=n) (hi:i<n) (ht:2 * rem+l.getD i 0=t) (hlt:t<R):TxInv l n R i Q t:=by
 refine ⟨h.lq,h.dq,fun j hj=>h.hq j (by omega),hlt,?_⟩
 have h1:=drop_nv 2 l (k:=i) (by omega)
 have h2:=drop_nv 2 Q (k:=i) (by rw [h.lq];exact hi)
 have h3:=h.hv
 rw [h1,h2,h.hq i (by omega),←h3,Nat.zero_add,Nat.mul_add,←ht,Nat.mul_assoc]
 omega
theorem TxInv.high {l Q:List Nat} {n R i rem t:Nat} (h:TxInv l n R (i+1) Q rem) (hl:l.length=n) (hd:Dig 2 l) (hi:i<n) (ht:2 * rem+l.getD i 0=t) (hge:R≤t):TxInv l n R i (Q.set i 1) (t - R):=by
 have hb:=hd.getD (b:=2) (by decide) i
 have h0:=h.hr
 refine ⟨by simpa using h.lq,h.dq.set (by decide) _,fun j hj=>by rw [lget_set_ne (by omega)];exact h.hq j (by omega),by omega,?_⟩
 have h1:=drop_nv 2 l (k:=i) (by omega)
 have h2:=drop_nv 2 (Q.set i 1) (k:=i) (by simp [h.lq];exact hi)
 have h3:=h.hv
 have h4:(Q.set i 1).getD i 0=1:=by rw [List.getD_eq_getElem?_getD,List.getElem?_set_self (by rw [h.lq];exact hi)];rfl
 have h5:(Q.set i 1).drop (i+1)=Q.drop (i+1):=by rw [List.drop_set,if_pos (by omega)]
 rw [h1,h2,h4,h5,←h3,Nat.add_mul,Nat.one_mul,Nat.mul_assoc]
 generalize nv 2 (Q.drop (i+1)) * R=p at *
 omega
theorem TxInv.done {l Q:List Nat} {n R rem:Nat} (h:TxInv l n R 0 Q rem):nv 2 Q=nv 2 l / R∧rem=nv 2 l % R:=by
 have h1:=h.hv
 rw [List.drop_zero,List.drop_zero] at h1
 have h2:=h.hr
 constructor
 ·rw [←h1,Nat.mul_comm,Nat.mul_add_div (by omega),Nat.div_eq_of_lt h2,Nat.add_zero]
 ·rw [←h1,Nat.mul_comm,Nat.mul_add_mod,Nat.mod_eq_of_lt h2]
theorem len_zero'' {y:Int} : (digs 2 y.natAbs).length=0↔y=0:=by
 constructor
 ·intro h
  have h9:=nv_digs (b:=2) (by decide) y.natAbs
  rw [List.length_eq_zero_iff.1 h] at h9
  have:(0:Nat)=y.natAbs:=h9
  omega
 ·rintro rfl;rw [show (0:Int).natAbs=0 from rfl,digs_zero];rfl
def XtRel (W0:World) (R N0:Nat) (ov bv:Value) (wr:World) (N:Nat):Prop:=
 ∃ A' c' Ab cb ds,ov = .slice A' ds.length c'∧bv = .slice Ab (digs 2 N).length cb∧digs R N0=ds ++ digs R N∧OwnB wr W0.heap.size A' ds.length c' (u8s (ds.map chrN))∧SlI wr wr.heap.size Ab (digs 2 N).length cb (digs 2 N)∧Below W0.heap.size W0 wr
theorem XtRel.len {R N0 N:Nat} {ds:List Nat} (h:digs R N0=ds ++ digs R N) (hb:(digs R N0).length≤4096):ds.length≤4096:=by
 rw [h,List.length_append] at hb;omega
theorem digs_len_k {R N k:Nat} (hR:2≤R) (hn:(digs 2 N).length≤k):(digs R N).length≤k:=
 digs_length_le (b:=R) (by omega) (Ql (lt_of_digs_length (b:=2) (by decide) hn) (Nat.pow_le_pow_left hR k))
theorem digs_len_x {R N:Nat} (hR:2≤R) (hn:(digs 2 N).length≤4096):(digs R N).length≤4096:=digs_len_k hR hn
theorem own_u8 (w:World) (a:Nat):OwnB (w.alloc (.cells #[.int .u8 (a:Int)] 5)) w.heap.size (some ⟨w.heap.size,0,none⟩) 1 1 (u8s [a]):=
 Own.of_block (xs:=u8s [a]) (by exact heap_alloc_new w _) (Nat.le_refl _) (by simp [u8s,maxLen])
theorem chrN_lt {d:Nat} (h:d<36):chrN d<256:=by unfold chrN;split <;> omega
theorem rText_any {x:Int} {B:Nat} {A:Option Addr} {c:Nat} {w:World} (hs:SlI w B A (digs 2 x.natAbs).length c (digs 2 x.natAbs)) (hB:B≤w.heap.size) (hn:(digs 2 x.natAbs).length≤4096) (R:Nat) (hR1:2≤R) (hR2:R≤36) :
  Calls Tryd.prog 79 #[.agg #[.bool (decide (x<0)),.slice A (digs 2 x.natAbs).length c],.int .i64 (R:Int)] w fun e w'=>e = .returned (.string (strN (txtZ x R)))∧Below w.heap.size w w':=by
 have hlz:=len_zero'' (y:=x)
 have HL:=Qh (digs_len_x hR1 hn)
 have HB:=Qh ((Below.refl w.heap.size w).alloc (Nat.le_refl _) (.cells #[.bool (decide (x<0)),.slice A (digs 2 x.natAbs).length c] 106))
 have HX:=Qh (show (w.alloc (.cells #[.bool (decide (x<0)),.slice A (digs 2 x.natAbs).length c] 106)).heap[w.heap.size]?=some (.cells #[.bool (decide (x<0)),.slice A (digs 2 x.natAbs).length c] 106 (0,0)) from heap_alloc_new w _)
 have HS:=Qh ((hs.below (C:=w.heap.size) HB.out hB).mono (Nat.le_trans hB HB.out.size))
 have hsz:w.heap.size<(w.alloc (.cells #[.bool (decide (x<0)),.slice A (digs 2 x.natAbs).length c] 106)).heap.size:=by simp
 have hRI1:(2:Int)≤(R:Int):=by omega
 have hRI2:(R:Int)≤36:=by omega
 by_cases hx:x=0
 ·have hl0:=hlz.2 hx
  have HT:=Qh (show txtZ x R = [48] by rw [hx];rfl)
  clear hlz hx hs
  generalize (digs 2 x.natAbs).length=n0 at *
  subst hl0
  generalize decide (x<0)=s at *
  go_enter Tryd.func79,Tryd.ntmps79
  go_wp2
  go_ret
  exact ⟨ret_eq (by rw [HT.out];rfl),HB.out⟩
 ·have hl0:¬(digs 2 x.natAbs).length=0:=fun h=>hx (hlz.1 h)
  have hlb:(((digs 2 x.natAbs).length:Int)==0)=false:=beq_eq_false_iff_ne.2 (by omega)
  have HR0:=Qh (show XtRel (w.alloc (.cells #[.bool (decide (x<0)),.slice A (digs 2 x.natAbs).length c] 106)) R x.natAbs (.slice none 0 0) (.slice A (digs 2 x.natAbs).length c) (w.alloc (.cells #[.bool (decide (x<0)),.slice A (digs 2 x.natAbs).length c] 106)) x.natAbs from
   ⟨none,0,A,c,[],rfl,rfl,by simp,⟨rfl,.inl ⟨rfl,rfl⟩⟩,HS.out,Below.refl _ _⟩)
  have HNx:=Qh hx
  clear hlz hs hx
  go_enter Tryd.func79,Tryd.ntmps79
  go_upto_region 1 with fail
  obtain ⟨a0,a1,_,_⟩:=two_cells (C:=(w.alloc (.cells #[.bool (decide (x<0)),.slice A (digs 2 x.natAbs).length c] 106)).heap.size) (Below.refl _ _) HX.out hsz
  generalize (w.alloc (.cells #[.bool (decide (x<0)),.slice A (digs 2 x.natAbs).length c] 106))=W0 at *
  go_wp2_with fail
  go_loopw [5,6] (fun ov bv wr=>∃ N:Nat,(digs 2 N).length≤4096∧XtRel W0 R x.natAbs ov bv wr N) (fun _ bv _=>match bv with | .slice _ n _=>n | _=>0)
  case atStart=>exact ⟨x.natAbs,hn,HR0.out⟩
  case round=>
   obtain ⟨N,hN,A',c',Ab,cb,ds,rfl,rfl,hdg,hob,hsl,hbw⟩:=hrel
   have HOB:=Qh hob
   have HSL:=Qh hsl
   have HBW:=Qh hbw
   have HDG:=Qh hdg
   have hdl:=XtRel.len hdg HL.out
   have hbz:=hbw.size
   clear hob hsl hbw hdg HR0
   by_cases hN0:N=0
   ·subst hN0
    have hl9:(digs 2 0).length=0:=by rw [digs_zero];rfl
    rw [hl9]
    have HDS:=Qh (show digs R x.natAbs=ds by have:=HDG.out;rwa [digs_zero,List.append_nil] at this)
    have HNa:=Qh (show ¬x.natAbs=0 by have:=HNx.out;omega)
    have hd1:0<ds.length:=by
     rw [←HDS.out]
     rcases Nat.eq_zero_or_pos (digs R x.natAbs).length with h | h
     ·exact absurd ((digs_eq_nil (b:=R) (by omega) _).1 (List.length_eq_zero_iff.1 h)) HNa.out
     ·exact h
    obtain ⟨a0,a1,_,_⟩:=two_cells HBW.out HX.out hsz
    have HBX:=Qh (Qt HB.out HBW.out)
    have hdI:(ds.length:Int)≤4096:=by omega
    clear hl9
    by_cases hneg:x<0
    ·have hdt:=decide_eq_true hneg
     rw [hdt] at a0
     have HDT:=Qh hdt
     go_wp2_with (at_builtin;refine wpList_append_u8 (by rfl) _ _ (by rfl) W0.heap.size A' ds.length c' (ds.map chrN) (by rfl) (Own.alloc HOB.out _) wr.heap.size 45 (by rfl) ?hc (by omega) (by simp;omega) ?_;rotate_left;intro A5 c5 w5 ho5 hb5)
     case hc=>exact cell_of_row _ _ 0 _ _ (0,0) (heap_alloc_new wr _)
     have HBX5:=Qh (HBX.out.trans (((Below.refl w.heap.size wr).alloc (Nat.le_trans HB.out.size hbz) _).trans (hb5.mono HB.out.size)))
     have HOL:=Qh ho5
     have HLL:=Qh (show (ds.map chrN ++ [45]).length=ds.length+1 by simp)
     have HTX:=Qh (show txtZ x R=(ds.map chrN ++ [45]).reverse by
      rw [txtZ,txtL,if_neg HNa.out,HDS.out,HDT.out];simp)
     obtain ⟨LL,hLL⟩:∃ LL,ds.map chrN ++ [45]=LL:=⟨_,rfl⟩
     obtain ⟨m,hm⟩:∃ m,ds.length+1=m:=⟨_,rfl⟩
     rw [hLL] at HOL HLL HTX
     try rw [hm] at HOL HLL ⊢
     have hm9:(m:Int)≤5000:=by omega
     have hm1:0<m:=by omega
     have hmI:(0:Int)<(m:Int):=by omega
     have HBr:=Qh (show Below w.heap.size w w5 from HBX5.out)
     have HT0:=Qh (show OwnB w5 w5.heap.size none (m - m) 0 (u8s (LL.drop m).reverse) by rw [Nat.sub_self,List.drop_eq_nil_of_le (by rw [HLL.out];exact Nat.le_refl _)];exact ⟨rfl,.inl ⟨rfl,rfl⟩⟩)
     have HMC:=Qh (show (ds.length:Int)+1=(m:Int) by omega)
     clear hLL hm ho5 hb5
     obtain ⟨w7,hw7⟩:∃ w7:World,w7=w5:=⟨_,rfl⟩
     subst hw7
     go_wp2_with fail
     go_loopw [10,11] (fun tv iv wr=>∃ (s:Nat) (A9:Option Addr) (c9:Nat),s≤m∧iv = .int .i64 ((s:Int) - 1)∧tv = .slice A9 (m - s) c9∧OwnB wr w7.heap.size A9 (m - s) c9 (u8s (LL.drop s).reverse)∧Below w7.heap.size w7 wr) (fun _ iv _=>(intOf iv+1).toNat)
     case atStart=>exact ⟨m,none,0,Nat.le_refl _,by first | rfl | exact congrArg (Value.int .i64) (by have:=HMC.out;omega) | simp,by rw [Nat.sub_self],HT0.out,Below.refl _ _⟩
     case round=>
      obtain ⟨s,A9,c9,hs,rfl,rfl,ho9,hb9⟩:=hrel
      have HO9:=Qh ho9
      have HB9:=Qh hb9
      have hz9:=hb9.size
      clear ho9 hb9
      by_cases hs0:s=0
      ·subst hs0
       have ho:=HO9.out
       rw [Nat.sub_zero,List.drop_zero] at ho
       obtain ⟨g9,hg9,_,_⟩:=ho.at_ hm1
       subst hg9
       have hcv:=conv_own ho (by rw [List.length_reverse];exact HLL.out)
       have HBf:=Qh (Qt HBr.out HB9.out)
       rw [Nat.sub_zero]
       clear ho
       go_wp2
       go_ret
       exact ⟨ret_eq (by rw [HTX.out,←strNums_rev];first | rfl | (rw [List.map_reverse];rfl)),HBf.out⟩
      ·obtain ⟨i,rfl⟩:∃ i,s=i+1:=⟨s - 1,by omega⟩
       have his:((i+1:Nat):Int) - 1=(i:Int):=by omega
       rw [his]
       have hi0:(0:Int)≤(i:Int):=by omega
       have him:(i:Int)<(m:Int):=by omega
       have holl:=HOL.out.below HB9.out (Nat.le_refl _)
       obtain ⟨g8,hg8,_,_⟩:=holl.at_ hm1
       subst hg8
       have hcell:=holl.cell (j:=i) (by omega)
       rw [u8s_get (by rw [HLL.out];omega)] at hcell
       have HDr:=Qh (show (LL.drop i).reverse=(LL.drop (i+1)).reverse ++ [LL.getD i 0] by
        rw [List.drop_eq_getElem_cons (by rw [HLL.out];omega),List.reverse_cons,getD_eq (by rw [HLL.out];omega)])
       generalize LL.getD i 0=y at *
       obtain ⟨k,hk⟩:∃ k,m - (i+1)=k:=⟨_,rfl⟩
       rw [hk] at HO9 ⊢
       have hk1:m - i=k+1:=by omega
       have hk9:k≤67108864:=by omega
       have HK:=Qh hk1
       clear holl hk hk1
       go_wp2_with (at_builtin;refine wpList_append_u8 (by rfl) _ _ (by rfl) w7.heap.size A9 k c9 (LL.drop (i+1)).reverse (by rfl) (Own.alloc HO9.out _) wr.heap.size y (by rfl) (by simp [go_sem]) hk9 (by simp;omega) ?_;intro A4 c4 w4 ho4 hb4)
       have HR4:=Qh (show OwnB w4 w7.heap.size A4 (m - i) c4 (u8s (LL.drop i).reverse) by rw [HDr.out,HK.out];exact ho4)
       have HB4:=Qh ((HB9.out.alloc hz9 _).trans hb4)
       clear ho4 hb4
       go_wp2_with fail
       go_roundw
       case rel=>exact ⟨i,A4,c4,by omega,by go_num,by rw [HK.out],HR4.out,HB4.out⟩
       case measure=>first | (simp [intOf];done) | (simp [intOf];omega)
    ·have hdf:=decide_eq_false hneg
     rw [hdf] at a0
     have HDF:=Qh hdf
     have HOL:=Qh (HOB.out)
     have HLL:=Qh (show (ds.map chrN).length=ds.length by simp)
     have HTX:=Qh (show txtZ x R=(ds.map chrN).reverse by
      rw [txtZ,txtL,if_neg HNa.out,HDS.out,HDF.out];simp)
     obtain ⟨LL,hLL⟩:∃ LL,ds.map chrN=LL:=⟨_,rfl⟩
     obtain ⟨m,hm⟩:∃ m,ds.length=m:=⟨_,rfl⟩
     rw [hLL] at HOL HLL HTX
     try rw [hm] at HOL HLL ⊢
     have hm9:(m:Int)≤5000:=by omega
     have hm1:0<m:=by omega
     have hmI:(0:Int)<(m:Int):=by omega
     have HBr:=Qh (show Below w.heap.size w wr from HBX.out)
     have HT0:=Qh (show OwnB wr wr.heap.size none (m - m) 0 (u8s (LL.drop m).reverse) by rw [Nat.sub_self,List.drop_eq_nil_of_le (by rw [HLL.out];exact Nat.le_refl _)];exact ⟨rfl,.inl ⟨rfl,rfl⟩⟩)
     clear hLL hm
     obtain ⟨w7,hw7⟩:∃ w7:World,w7=wr:=⟨_,rfl⟩
     subst hw7
     go_wp2_with fail
     go_loopw [10,11] (fun tv iv wr=>∃ (s:Nat) (A9:Option Addr) (c9:Nat),s≤m∧iv = .int .i64 ((s:Int) - 1)∧tv = .slice A9 (m - s) c9∧OwnB wr w7.heap.size A9 (m - s) c9 (u8s (LL.drop s).reverse)∧Below w7.heap.size w7 wr) (fun _ iv _=>(intOf iv+1).toNat)
     case atStart=>exact ⟨m,none,0,Nat.le_refl _,by first | rfl | exact congrArg (Value.int .i64) (by omega) | simp,by rw [Nat.sub_self],HT0.out,Below.refl _ _⟩
     case round=>
      obtain ⟨s,A9,c9,hs,rfl,rfl,ho9,hb9⟩:=hrel
      have HO9:=Qh ho9
      have HB9:=Qh hb9
      have hz9:=hb9.size
      clear ho9 hb9
      by_cases hs0:s=0
      ·subst hs0
       have ho:=HO9.out
       rw [Nat.sub_zero,List.drop_zero] at ho
       obtain ⟨g9,hg9,_,_⟩:=ho.at_ hm1
       subst hg9
       have hcv:=conv_own ho (by rw [List.length_reverse];exact HLL.out)
       have HBf:=Qh (Qt HBr.out HB9.out)
       rw [Nat.sub_zero]
       clear ho
       go_wp2
       go_ret
       exact ⟨ret_eq (by rw [HTX.out,←strNums_rev];first | rfl | (rw [List.map_reverse];rfl)),HBf.out⟩
      ·obtain ⟨i,rfl⟩:∃ i,s=i+1:=⟨s - 1,by omega⟩
       have his:((i+1:Nat):Int) - 1=(i:Int):=by omega
       rw [his]
       have hi0:(0:Int)≤(i:Int):=by omega
       have him:(i:Int)<(m:Int):=by omega
       have holl:=HOL.out.below HB9.out (Nat.le_refl _)
       obtain ⟨g8,hg8,_,_⟩:=holl.at_ hm1
       subst hg8
       have hcell:=holl.cell (j:=i) (by omega)
       rw [u8s_get (by rw [HLL.out];omega)] at hcell
       have HDr:=Qh (show (LL.drop i).reverse=(LL.drop (i+1)).reverse ++ [LL.getD i 0] by
        rw [List.drop_eq_getElem_cons (by rw [HLL.out];omega),List.reverse_cons,getD_eq (by rw [HLL.out];omega)])
       generalize LL.getD i 0=y at *
       obtain ⟨k,hk⟩:∃ k,m - (i+1)=k:=⟨_,rfl⟩
       rw [hk] at HO9 ⊢
       have hk1:m - i=k+1:=by omega
       have hk9:k≤67108864:=by omega
       have HK:=Qh hk1
       clear holl hk hk1
       go_wp2_with (at_builtin;refine wpList_append_u8 (by rfl) _ _ (by rfl) w7.heap.size A9 k c9 (LL.drop (i+1)).reverse (by rfl) (Own.alloc HO9.out _) wr.heap.size y (by rfl) (by simp [go_sem]) hk9 (by simp;omega) ?_;intro A4 c4 w4 ho4 hb4)
       have HR4:=Qh (show OwnB w4 w7.heap.size A4 (m - i) c4 (u8s (LL.drop i).reverse) by rw [HDr.out,HK.out];exact ho4)
       have HB4:=Qh ((HB9.out.alloc hz9 _).trans hb4)
       clear ho4 hb4
       go_wp2_with fail
       go_roundw
       case rel=>exact ⟨i,A4,c4,by omega,by go_num,by rw [HK.out],HR4.out,HB4.out⟩
       case measure=>first | (simp [intOf];done) | (simp [intOf];omega)
   ·have hnp:0<(digs 2 N).length:=by
     rcases Nat.eq_zero_or_pos (digs 2 N).length with h | h
     ·exact absurd ((digs_eq_nil (b:=2) (by decide) N).1 (List.length_eq_zero_iff.1 h)) hN0
     ·exact h
    have HDR:=Qh (show digs R N=N % R :: digs R (N / R) from digs_pos (by omega) hN0)
    have HMs:=Qh (show (digs 2 (N / R)).length<(digs 2 N).length by
     rw [digs_pos (b:=2) (n:=N) (by decide) hN0,List.length_cons]
     exact Nat.lt_succ_of_le (blen_mono (Nat.div_le_div_left (show 2≤R by omega) (by decide))))
    have HD2:=Qh (dig_digs (b:=2) (by decide) N)
    have HV2:=Qh (nv_digs (b:=2) (by decide) N)
    obtain ⟨l,hl⟩:∃ l,digs 2 N=l:=⟨_,rfl⟩
    obtain ⟨n,hln⟩:∃ n,l.length=n:=⟨_,rfl⟩
    rw [hl] at HSL HMs HD2 HV2 hN hnp ⊢
    rw [hln] at HSL HMs hN hnp ⊢
    have HLN:=Qh hln
    clear hl hln
    have hmk:=makeI n (by omega)
    have hnI:(n:Int)≤4096:=by omega
    have hnI0:(0:Int)<(n:Int):=by omega
    obtain ⟨wo,hwo⟩:∃ wo:World,wo=wr:=⟨_,rfl⟩
    subst hwo
    obtain ⟨G,hG⟩:∃ G,wo.heap.size=G:=⟨_,rfl⟩
    have HG:=Qh hG
    have hGW:W0.heap.size≤G:=by omega
    have HOQ:=Qh (show OwnI (wo.alloc (.cells (madeCells #[.int .i64 0] n) 3)) G (some ⟨G,0,none⟩) n n (i64s (List.replicate n 0)) by
     have:=own_zerosI wo (B:=wo.heap.size) n (Nat.le_refl _) (by simp [maxLen];omega);rwa [hG] at this)
    have KQ:=Qh (show Below G wo (wo.alloc (.cells (madeCells #[.int .i64 0] n) 3)) from (Below.refl G wo).alloc (by omega) _)
    have HI0:=Qh (TxInv.start (R:=R) HLN.out (by omega))
    have HSG:=Qh (show SlI wo G Ab n cb l by have:=HSL.out;rwa [hG] at this)
    go_wp2_with fail
    try rw [hG]
    go_loopw [7,9] (fun rv iv wr=>∃ (s rem:Nat) (Q:List Nat),s≤n∧iv = .int .i64 ((s:Int) - 1)∧rv = .int .i64 (rem:Int)∧Hid (TxInv l n R s Q rem)∧OwnI wr G (some ⟨G,0,none⟩) n n (i64s Q)∧Below G wo wr) (fun _ iv _=>(intOf iv+1).toNat)
    case atStart=>exact ⟨n,0,_,Nat.le_refl _,by first | rfl | simp,rfl,HI0,HOQ.out,KQ.out⟩
    case round=>
     obtain ⟨s,rem,Q,hs,rfl,rfl,HI,hoq,hbq⟩:=hrel
     have HQ:=Qh hoq
     have HBq:=Qh hbq
     have hbqz:=hbq.size
     clear hoq hbq hG
     by_cases hs0:s=0
     ·subst hs0
      obtain ⟨e1,e2⟩:=HI.out.done
      rw [HV2.out] at e1 e2
      have et:tr Q=digs 2 (N / R):=by rw [tr_eq_digs (b:=2) (by decide) HI.out.dq,e1]
      have em:tlen Q=(digs 2 (N / R)).length:=by rw [←et,tr_length]
      have hcut:=rcut_any (HQ.out.sl HI.out.dq HI.out.lq)
      rw [em] at hcut
      have HCut:=Qh hcut
      have htk:=HQ.out.take (k:=tlen Q) (by rw [←HI.out.lq];exact tlen_le Q)
      rw [i64s_take] at htk
      have HTK:=Qh (show OwnI wr G (some ⟨G,0,none⟩) (digs 2 (N / R)).length n (i64s (digs 2 (N / R))) by rw [←em,←et];exact htk)
      have hrr:rem<36:=by have:=HI.out.hr;omega
      have hrrI:(rem:Int)<36:=by omega
      have HE2:=Qh e2
      have HNE:=Qh (show A'≠some ⟨G,0,none⟩ from fun e=>by have h1:=(own_block HOB.out e).2;have h2:=HG.out;omega)
      have HO4:=Qh (HOB.out.below HBq.out (Nat.le_of_eq HG.out))
      have hwz:wo.heap.size≤wr.heap.size:=hbqz
      have hGr:G<wr.heap.size:=(own_block HQ.out rfl).2
      have hW9:W0.heap.size≤wr.heap.size:=Nat.le_trans hbz hwz
      have hdl9:ds.length+1≤67108864:=by omega
      clear e1 e2 et em hcut htk
      go_wp2_with (first
       | (go_at_call 88;(with_reducible refine HCut.out.mono ?_);rintro e w2 ⟨rfl,rfl⟩)
       | (at_builtin;((refine wpList_plain (by rfl) fun K hK=>?_);(refine wp_append_farB (base:=W0.heap.size) (B:=wr.heap.size+1) (l0:=ds.map chrN) (l:=[chrN rem]) (A:=some ⟨wr.heap.size,0,none⟩) (A0:=A') (n0:=ds.length) (c0:=c') (m:=1) (c:=1) _ _ (by rfl) (by rfl) (Own.alloc HO4.out _) (by rfl) (fun h=>by cases h) ?hrd hdl9 (Nat.le_trans hW9 (by simp)) ?_);rotate_left;intro A'' c'' w4 ho4 hb4 hfar4 _;(refine hK _ _ ?_))))
      case hrd=>
       rw [alpha_get hrr]
       exact Sl.mono (Own.sl (own_u8 wr (chrN rem)) (Dig.cons (chrN_lt hrr) (Dig.nil _)) rfl) (by simp)
      have hq4:=(hfar4 G (by simp;omega) HNE.out).trans (heap_alloc_old wr _ (by omega))
      have hsl4:=Own.sl (Own.same HTK.out hq4) (dig_digs (b:=2) (by decide) (N / R)) rfl
      have hb49:=HBW.out.trans ((HBq.out.mono hGW).trans (((Below.refl W0.heap.size wr).alloc hW9 _).trans hb4))
      have HRN:=Qh (show XtRel W0 R x.natAbs (.slice A'' (ds.length+1) c'') (.slice (some ⟨G,0,none⟩) (digs 2 (N / R)).length n) w4 (N / R) from
       ⟨A'',c'',some ⟨G,0,none⟩,n,ds ++ [rem],by simp,rfl,by rw [HDG.out,HDR.out,HE2.out];simp,by rw [List.map_append,List.length_append];exact ho4,hsl4,hb49⟩)
      clear hq4 hsl4 hb49 ho4 hb4 hfar4
      go_roundw
      case rel=>exact ⟨N / R,by have:=HMs.out;omega,HRN.out⟩
      case measure=>exact HMs.out
     ·obtain ⟨i,rfl⟩:∃ i,s=i+1:=⟨s - 1,by omega⟩
      have his:((i+1:Nat):Int) - 1=(i:Int):=by omega
      rw [his]
      have hi0:(0:Int)≤(i:Int):=by omega
      have hin:(i:Int)<(n:Int):=by omega
      obtain ⟨b,off,rfl,_,hc⟩:=SlI.at_ (HSG.out.below HBq.out (Nat.le_refl _)) (by omega)
      have hy:=hc i (by omega)
      have hyb:=HD2.out.getD (b:=2) (by decide) i
      have hrem:=HI.out.hr
      obtain ⟨t,ht⟩:∃ t,2 * rem+l.getD i 0=t:=⟨_,rfl⟩
      have HLo:=Qh (fun h=>HI.out.low HLN.out (by omega) ht h)
      have HHi:=Qh (fun h=>HI.out.high HLN.out HD2.out (by omega) ht h)
      generalize l.getD i 0=y at *
      have hti:2 * (rem:Int)+(y:Int)=(t:Int):=by omega
      have ht9:(t:Int)≤100:=by omega
      clear hc ht
      by_cases hge:R≤t
      ·have hgeI:(R:Int)≤(t:Int):=by omega
       have hd9:decide (R≤t)=true:=decide_eq_true hge
       have hsub:(t:Int) - (R:Int)=((t - R:Nat):Int):=by omega
       have hqc:=HQ.out.cell (j:=i) (by omega)
       rw [i64s_get (by rw [HI.out.lq];omega)] at hqc
       have hqf:=HQ.out.frozen i
       generalize Q.getD i 0=q0 at *
       have HQ2:=Qh (show OwnI (wr.setCell ⟨G,i,none⟩ (.int .i64 1)) G (some ⟨G,0,none⟩) n n (i64s (Q.set i 1)) by
        have:=HQ.out.set_ i (.int .i64 ((1:Nat):Int));rwa [i64s_set] at this)
       have HB2:=Qh (HBq.out.setCell (p:=⟨G,i,none⟩) (Nat.le_refl _) (.int .i64 1))
       go_wp2_with fail
       go_roundw
       case rel=>exact ⟨i,t - R,Q.set i 1,by omega,by go_num,by first | rfl | go_num,Qh (HHi.out hge),HQ2.out,HB2.out⟩
       case measure=>first | (simp [intOf];done) | (simp [intOf];omega)
      ·have hgeI:¬(R:Int)≤(t:Int):=by omega
       have hd9:decide (R≤t)=false:=decide_eq_false hge
       go_wp2_with fail
       go_roundw
       case rel=>exact ⟨i,t,Q,by omega,by go_num,rfl,Qh (HLo.out (by omega)),HQ.out,HBq.out⟩
       case measure=>first | (simp [intOf];done) | (simp [intOf];omega)
def RpPost (w:World) (z code:Int) (e:Ending) (w':World):Prop:=
 ∃ v,e = .returned (.tuple #[v,.int .i64 code])∧(code=0→ResB w' w.heap.size v z)∧(code≠0→v=zeroV)∧Below w.heap.size w w'
theorem RpPost.bad {w w':World} {z co k:Int} (hco:co=k) (hk:k≠0) (hb:Below w.heap.size w w'):RpPost w z co (.returned (.tuple #[zeroV,.int .i64 k])) w':=by
 subst hco;exact ⟨zeroV,rfl,fun h=>absurd h hk,fun _=>rfl,hb⟩
theorem rParse_radix (s:ByteArray) (r:Int) (w:World) (hr:r<2∨36<r) (z:Int) (co:Int) (hco:co=13) :
  Calls Tryd.prog 78 #[.string s,.int .i64 r] w (RpPost w z co):=by
 have HB:=Qh ((Below.refl w.heap.size w).alloc (Nat.le_refl _) (.cells #[.bool false,.slice none 0 0] 106))
 have HC:=Qh hco
 rcases hr with h | h
 ·have d1:decide (r<2)=true:=decide_eq_true h
  go_enter Tryd.func78,Tryd.ntmps78
  go_wp2
  exact bodyPost_ret (v:=.tuple #[zeroV,.int .i64 13]) (by simp [results,Tryd.results78,go_sem]) rfl (RpPost.bad HC.out (by decide) HB.out)
 ·have d1:decide (r<2)=false:=decide_eq_false (by omega)
  have d2:decide (36<r)=true:=decide_eq_true h
  go_enter Tryd.func78,Tryd.ntmps78
  go_wp2
  exact bodyPost_ret (v:=.tuple #[zeroV,.int .i64 13]) (by simp [results,Tryd.results78,go_sem]) rfl (RpPost.bad HC.out (by decide) HB.out)
theorem bytes_nil {s:ByteArray} (h:s.size=0):s=⟨#[]⟩:=by
 cases s with
 | mk d=>
  have:d.size=0:=h
  rw [Array.eq_empty_of_size_eq_zero this]
def RpRel (W0:World) (V:Nat) (bv:Value) (wr:World):Prop:=
 ∃ A c,bv = .slice A (digs 2 V).length c∧OwnI wr W0.heap.size A (digs 2 V).length c (i64s (digs 2 V))∧Below W0.heap.size W0 wr
theorem RpRel.start (W0:World):RpRel W0 0 (.slice none 0 0) W0:=
 ⟨none,0,by rw [digs_zero];rfl,by rw [digs_zero];exact ⟨rfl,.inl ⟨rfl,rfl⟩⟩,Below.refl _ _⟩
structure RmInv (l:List Nat) (n r d k cy:Nat) (O:List Nat):Prop where
 lo:O.length=k
 dO:Dig 2 O
 hc:cy≤36
 hb:n≤k→k+cy≤n+36
 hv:nv 2 O+2 ^ k * cy=nvp 2 l k * r+d
theorem RmInv.step {l O:List Nat} {n r d k cy y t:Nat} (h:RmInv l n r d k cy O) (hl:l.length=n) (hr:r≤36) (hy:l.getD k 0=y) (hy2:y<2) (ht:y * r+cy=t) (hgo:k<n∨0<cy):RmInv l n r d (k+1) (t / 2) (O ++ [t % 2]):=by
 have hyr:y * r≤36:=by
  rcases (by omega:y=0∨y=1) with e | e <;> rw [e] <;> omega
 refine ⟨by rw [List.length_append,h.lo];rfl,h.dO.append (Dig.cons (Nat.mod_lt _ (by decide)) (Dig.nil _)),by have:=h.hc;omega,fun hk=>?_,?_⟩
 ·rcases Nat.lt_or_ge k n with h1 | h1
  ·have:=h.hc;omega
  ·have hy0:y=0:=by rw [←hy];exact getD_past (by omega)
   rw [hy0,Nat.zero_mul,Nat.zero_add] at ht
   have:=h.hb h1
   omega
 ·rw [nv_snoc,h.lo,nvp_succ,hy,Nat.add_mul,pow_succ_mul,Nat.add_assoc,←Nat.mul_add]
  have h1:=h.hv
  have h2:t % 2+2 * (t / 2)=y * r+cy:=by omega
  rw [h2,Nat.mul_add,Nat.mul_assoc]
  omega
end Go.Proofs.YtgfeainpeplphaaDoor
namespace Go.Proofs.YtgfeainpeplphaaDoor
open Go.ChangeShapes Go.WideShapes Go.ChangeAt Go.RowKit Go.Joins Hb
section
end
end Go.Proofs.YtgfeainpeplphaaDoor
namespace Go.Proofs.YtgfeainpeplphaaDoor
open Go.RowKit Hb
section
end
section
end
theorem lng_ival {neg:Bool} {l:List Nat} {z:Int} (h:ival neg l=z):lng l=tooLong z:=by
 rw [lng,tooLong,←h,ival_natAbs]
section
end
section
end
theorem txt_same {na nb:Bool} {r m n:Nat} (h:(if na then -(m:Int) else (m:Int))=(if nb then -(n:Int) else n)):txtL na r m=txtL nb r n:=by
 have hmn:m=n:=by cases na <;> cases nb <;> simp at h <;> omega
 subst hmn
 by_cases h0:m=0
 ·subst h0;rfl
 ·have:na=nb:=by cases na <;> cases nb <;> simp at h ⊢ <;> omega
  rw [this]
theorem ival_if (neg:Bool) (l:List Nat):ival neg l=if neg then -(nv W l:Int) else (nv W l:Int):=rfl
theorem txtZ_eq {neg:Bool} {l:List Nat} {z:Int} (h:ival neg l=z) (r:Nat):txtL neg r (nv W l)=txtZ z r:=by
 refine txt_same ?_
 rw [←ival_if,h]
 by_cases hz:z<0
 ·rw [if_pos (by simpa using hz)];omega
 ·rw [if_neg (by simpa using hz)];omega
def TextQ (w:World) (s:ByteArray) (e:Ending) (w':World):Prop:=e = .returned (.tuple #[.string s,.int .i64 0])∧Below w.heap.size w w'
section
end
end Go.Proofs.YtgfeainpeplphaaDoor
namespace Hb
open Ieee
def rv (r:Nat):Nat:=if r<2 ^ 52 then r else (2 ^ 52+r % 2 ^ 52) * 2 ^ (r / 2 ^ 52 - 1)
theorem rv_lt {r s:Nat} (h:r<s):rv r<rv s:=by
 unfold rv
 by_cases hr:r<2 ^ 52
 ·rw [if_pos hr]
  by_cases hs:s<2 ^ 52
  ·rw [if_pos hs];exact h
  ·rw [if_neg hs]
   have h1:1≤2 ^ (s / 2 ^ 52 - 1):=Nat.one_le_two_pow
   have h2:(2 ^ 52+s % 2 ^ 52) * 1≤(2 ^ 52+s % 2 ^ 52) * 2 ^ (s / 2 ^ 52 - 1):=Nat.mul_le_mul_left _ h1
   omega
 ·have hs:¬s<2 ^ 52:=by omega
  rw [if_neg hr,if_neg hs]
  have hq:r / 2 ^ 52≤s / 2 ^ 52:=Nat.div_le_div_right (Nat.le_of_lt h)
  rcases Nat.eq_or_lt_of_le hq with e | hlt
  ·rw [e]
   refine Nat.mul_lt_mul_of_pos_right ?_ (Nat.two_pow_pos _)
   have h1:=Nat.div_add_mod r (2 ^ 52)
   have h2:=Nat.div_add_mod s (2 ^ 52)
   rw [e] at h1
   omega
  ·have h1:r % 2 ^ 52<2 ^ 52:=Nat.mod_lt _ (by decide)
   have hr1:1≤r / 2 ^ 52:=(Nat.le_div_iff_mul_le (by decide)).2 (by omega)
   generalize r / 2 ^ 52=a at *
   generalize s / 2 ^ 52=b at *
   have h2:2 * 2 ^ (a - 1)≤2 ^ (b - 1):=by
    rw [Nat.mul_comm,←Nat.pow_succ]
    exact Nat.pow_le_pow_right (by decide) (by omega)
   have h3:(2 ^ 52+r % 2 ^ 52) * 2 ^ (a - 1)<(2 ^ 52 * 2) * 2 ^ (a - 1):=Nat.mul_lt_mul_of_pos_right (by omega) (Nat.two_pow_pos _)
   have h4:2 ^ 52 * (2 * 2 ^ (a - 1))≤2 ^ 52 * 2 ^ (b - 1):=Nat.mul_le_mul_left _ h2
   have h5:2 ^ 52 * 2 ^ (b - 1)≤(2 ^ 52+s % 2 ^ 52) * 2 ^ (b - 1):=Nat.mul_le_mul_right _ (by omega)
   rw [Nat.mul_assoc] at h3
   omega
theorem rv_inj {r s:Nat} : (rv r<rv s↔r<s):=by
 constructor
 ·intro h
  rcases Nat.lt_trichotomy r s with h1 | h1 | h1
  ·exact h1
  ·subst h1;omega
  ·have:=rv_lt h1;omega
 ·exact rv_lt
theorem read_pos {r:Nat} (h:r<9218868437227405312):∃ m p,double.read r = .number false m p∧(-1074:Int)≤p∧m * 2 ^ (p+1074).toNat=rv r:=by
 have h1:double.signWeight=9223372036854775808:=rfl
 have h2:double.binade=4503599627370496:=rfl
 have h3:double.infRung=9218868437227405312:=rfl
 have h4:double.leastPlace = -1074:=rfl
 have e1:r / 9223372036854775808 % 2=0:=by omega
 have e2:r % 9223372036854775808=r:=by omega
 unfold Format.read
 simp only [h1,h2,h3,h4,e1,e2]
 unfold rv
 by_cases hr:r<4503599627370496
 ·rw [if_pos hr,if_pos (show r<2 ^ 52 from hr)]
  exact ⟨r,-1074,rfl,Int.le_refl _,by simp⟩
 ·rw [if_neg hr,if_pos h,if_neg (show ¬r<2 ^ 52 from hr)]
  refine ⟨_,_,rfl,by omega,?_⟩
  have e3:(-1074+((r / 4503599627370496 - 1:Nat):Int)+1074).toNat=r / 4503599627370496 - 1:=by omega
  rw [e3]
theorem signed_pos (m u:Nat):signed false m u=((m * 2 ^ u:Nat):Int):=by
 rw [signed,if_neg (by simp),Nat.shiftLeft_eq]
theorem order_pos {x y:Nat} (hx:x<9218868437227405312) (hy:y<9218868437227405312):double.order x y=some (compare x y):=by
 obtain ⟨m,p,e1,hp,hm⟩:=read_pos hx
 obtain ⟨n,q,e2,hq,hn⟩:=read_pos hy
 unfold Format.order
 rw [e1,e2]
 show some (compare (signed false m (p - min p q).toNat) (signed false n (q - min p q).toNat))=_
 congr 1
 rw [signed_pos,signed_pos]
 obtain ⟨b,hb⟩:∃ b:Nat,(min p q+1074)=(b:Int):=⟨(min p q+1074).toNat,by omega⟩
 have k1:m * 2 ^ (p - min p q).toNat * 2 ^ b=rv x:=by
  rw [←hm,Nat.mul_assoc,←Nat.pow_add]
  congr 2
  omega
 have k2:n * 2 ^ (q - min p q).toNat * 2 ^ b=rv y:=by
  rw [←hn,Nat.mul_assoc,←Nat.pow_add]
  congr 2
  omega
 generalize m * 2 ^ (p - min p q).toNat=M at *
 generalize n * 2 ^ (q - min p q).toNat=N at *
 have hpos:=Nat.two_pow_pos b
 have hlt:(M<N↔x<y):=by
  rw [←rv_inj (r:=x) (s:=y),←k1,←k2]
  constructor
  ·intro h;exact Nat.mul_lt_mul_of_pos_right h hpos
  ·intro h;exact Nat.lt_of_mul_lt_mul_right h
 have hgt:(N<M↔y<x):=by
  rw [←rv_inj (r:=y) (s:=x),←k1,←k2]
  constructor
  ·intro h;exact Nat.mul_lt_mul_of_pos_right h hpos
  ·intro h;exact Nat.lt_of_mul_lt_mul_right h
 rcases Nat.lt_trichotomy x y with h | h | h
 ·rw [Nat.compare_eq_lt.2 h]
  have:=hlt.2 h
  exact Int.compare_eq_lt.2 (by omega)
 ·have h1:M=N:=by
   rcases Nat.lt_trichotomy M N with h2 | h2 | h2
   ·have:=hlt.1 h2;omega
   ·exact h2
   ·have:=hgt.1 h2;omega
  rw [Nat.compare_eq_eq.2 h]
  exact Int.compare_eq_eq.2 (by omega)
 ·rw [Nat.compare_eq_gt.2 h]
  have:=hgt.2 h
  exact Int.compare_eq_gt.2 (by omega)
theorem order_lt {x y:Nat} (hy:y<9218868437227405312) (h:x<y):double.order x y=some .lt:=by
 rw [order_pos (by omega) hy,Nat.compare_eq_lt.2 h]
theorem order_self {x:Nat} (hx:x<9218868437227405312):double.order x x=some .eq:=by
 rw [order_pos hx hx,Nat.compare_eq_eq.2 rfl]
end Hb
namespace Hb
end Hb
namespace Go.Proofs.YtgfeainpeplphaaDoor
open Hb
end Go.Proofs.YtgfeainpeplphaaDoor
namespace Hb
end Hb
namespace Go.Proofs.YtgfeainpeplphaaDoor
open Hb
end Go.Proofs.YtgfeainpeplphaaDoor
namespace Go.Proofs.YtgfeainpeplphaaDoor
open Go.RowKit Hb
theorem ofInt64 {a:Nat} (ha:a<18446744073709551616):(BitVec.ofInt 64 (a:Int)).toNat=a:=by
 rw [BitVec.toNat_ofInt]
 omega
theorem u64_wrap {p:Nat} (h:p<18446744073709551616):IntKind.u64.wrap (p:Int)=(p:Int):=IntWalk.u64_in _ (by omega)
theorem bits_andNot_u64 (a b:Nat) (ha:a<18446744073709551616) (hb:b<18446744073709551616):bits .andNot .u64 (a:Int) (b:Int)=((a &&& (18446744073709551615 - b):Nat):Int):=by
 unfold bits
 show IntKind.u64.wrap ((BitVec.ofInt 64 (a:Int) &&& ~~~ BitVec.ofInt 64 (b:Int)).toNat:Int)=_
 rw [BitVec.toNat_and,BitVec.toNat_not,ofInt64 ha,ofInt64 hb,u64_wrap (Nat.lt_of_le_of_lt Nat.and_le_left ha)]
theorem and_low (a k:Nat):a &&& (2 ^ k - 1)=a % 2 ^ k:=Nat.and_two_pow_sub_one_eq_mod a k
theorem run_bits (F:Nat) (w:World):(callFunc 101 #[.float .f64 F]).run Tryd.prog w = .ok (.value (.int .u64 (F:Int))) w:=by kernel_rfl
theorem run_frombits (F:Nat) (w:World):(callFunc 83 #[.int .u64 (F:Int)]).run Tryd.prog w = .ok (.value (.float .f64 F)) w:=by kernel_rfl
theorem order_inf (F:Nat) (hF:F≤9218868437227405312):(FloatKind.f64.format.order F 9218868437227405311==some .gt)=decide (F=9218868437227405312):=by
 by_cases h:F=9218868437227405312
 ·subst h;decide +kernel
 ·rw [decide_eq_false h]
  have h1:F<9218868437227405312:=by omega
  rcases Nat.lt_or_ge F 9218868437227405311 with h2 | h2
  ·rw [show FloatKind.f64.format.order F 9218868437227405311=some .lt from order_lt (by decide) h2];rfl
  ·obtain rfl:F=9218868437227405311:=by omega
   rw [show FloatKind.f64.format.order 9218868437227405311 9218868437227405311=some .eq from order_self h1];rfl
section
end
end Go.Proofs.YtgfeainpeplphaaDoor
namespace Go.Proofs.YtgfeainpeplphaaDoor
open Go.RowKit Hb Ht
attribute [local go_sem] Oper.semAt_some
def canonB (l:List UInt8):Bool:=decide (pCode l 10=0) && decide ((txtZ (pVal l 10) 10).map UInt8.ofNat=l)
theorem digs_W_le {n:Nat} {k:Nat} (h:blen n≤k):(digs W n).length≤k:=
 digs_length_le (by decide) (Ql (blen_le_iff.1 h) (Nat.pow_le_pow_left (by decide) k))
theorem code_ok {l:List UInt8} (h:pCode l 10=0):tooLong (pVal l 10)=false:=by
 unfold pCode at h
 rw [if_neg (by decide)] at h
 split at h
 ·cases h
 ·unfold err at h
  cases hb:tooLong (pVal l 10) with
  | false=>rfl
  | true=>rw [hb] at h;cases h
theorem short_blen {z:Int} (h:tooLong z=false):blen z.natAbs≤4096:=by
 unfold tooLong at h
 have:=of_decide_eq_false h
 omega
theorem ival_own (z:Int):ival (decide (z<0)) (digs W z.natAbs)=z:=by
 unfold ival
 rw [nv_digs (by decide)]
 by_cases h:z<0
 ·rw [decide_eq_true h,if_pos rfl];omega
 ·rw [decide_eq_false h,if_neg (by simp)];omega
theorem Text_z2 {w:World} {A:Option Addr} {n c:Nat} {l:List Nat} {neg:Bool} {z:Int} {s:ByteArray} (hs:SlU w w.heap.size A n c l) (hn:n≤67108864) (hx:ival neg l=z) (t1:tooLong z=false) (hq:strN (txtZ z 10)=s) :
  Calls Tryd.prog 92 #[.agg #[.bool neg,.slice A n c],.int .i64 10] w (TextQ w s):=by
 have h:=Text_any neg hs hn (Nat.le_refl _) 10
 rw [lng_ival hx,t1,tList,tCode,if_neg (by simp),if_neg (by omega),if_neg (by simp),if_neg (by omega),show (10:Int).toNat=10 from rfl,txtZ_eq hx] at h
 rw [←hq]
 exact h
theorem integer_any (s:ByteArray) (w:World) (hs:s.size≤maxLen) :
  Calls Tryd.prog 82 #[.string s] w fun e w'=>e = .returned (.bool (canonB s.data.toList))∧Below w.heap.size w w':=by
 have HP:=Qh (Parse_any s 10 w hs)
 obtain ⟨co,hco⟩:∃ co,pCode s.data.toList 10=co:=⟨_,rfl⟩
 obtain ⟨z,hz⟩:∃ z,pVal s.data.toList 10=z:=⟨_,rfl⟩
 obtain ⟨st,hst⟩:∃ st,strN (txtZ z 10)=st:=⟨_,rfl⟩
 have hC:canonB s.data.toList=(decide (co=0) && decide (st.data.toList=s.data.toList)):=by unfold canonB;rw [hco,hz,←hst];rfl
 rw [hC]
 obtain ⟨R,hR⟩:∃ R,(decide (co=0) && decide (st.data.toList=s.data.toList))=R:=⟨_,rfl⟩
 rw [hR]
 have HR:=Qh hR
 have HSt:=Qh hst
 rw [hco,hz] at HP
 have HT:=Qh (fun h:co=0=>show tooLong z=false by rw [←hz];exact code_ok (hco.trans h))
 clear hC hco hz hR hst
 go_enter Tryd.func82,Tryd.ntmps82
 go_wp2_with fail
 (with_reducible refine HP.out.mono ?_)
 rintro e w1 ⟨v,rfl,hv0,hv1,hb1⟩
 by_cases h0:co=0
 ·subst h0
  obtain ⟨A,c,rfl,ho⟩:=hv0 rfl
  have ht:=HT.out rfl
  have hbl:=short_blen ht
  have hdl:=digs_W_le hbl
  obtain ⟨n,hn⟩:∃ n,(digs W z.natAbs).length=n:=⟨_,rfl⟩
  rw [hn] at ho hdl
  have hsl:SlU w1 w1.heap.size A n c (digs W z.natAbs):=ho.sl (dig_digs (by decide) _) hn
  have HX:=Qh (Text_z2 (w:=w1.alloc (.cells #[.bool (decide (z<0)),.slice A n c] 127)) ((hsl.below (C:=w1.heap.size) (Qb) (Nat.le_refl _)).mono (by simp)) (by omega) (ival_own z) ht HSt.out)
  have HB:=Qh (show Below w.heap.size w (w1.alloc (.cells #[.bool (decide (z<0)),.slice A n c] 127)) from hb1.alloc hb1.size _)
  rw [hn]
  clear hv0 hv1 hb1 ho ht hbl hdl hsl hn
  go_wp2_with fail
  (with_reducible refine HX.out.mono ?_)
  rintro e w3 ⟨rfl,hb3⟩
  have HB3:=Qh (Qt HB.out hb3)
  clear hb3
  by_cases he:st.data.toList=s.data.toList
  ·have s1:(st.toList==s.toList)=true:=by rw [ByteArray.toList_eq,ByteArray.toList_eq,he];simp
   have HE:=Qh (show true=R by rw [←HR.out,decide_eq_true he];rfl)
   clear he
   go_wp2
   go_ret
   exact ⟨by rw [←HE.out];rfl,HB3.out⟩
  ·have s1:(st.toList==s.toList)=false:=by rw [ByteArray.toList_eq,ByteArray.toList_eq];exact beq_eq_false_iff_ne.2 he
   have HE:=Qh (show false=R by rw [←HR.out,decide_eq_false he];simp)
   clear he
   go_wp2
   go_ret
   exact ⟨by rw [←HE.out];rfl,HB3.out⟩
 ·have hv:=hv1 h0
  subst hv
  have h0b:(co != 0)=true:=by simpa using h0
  have HE:=Qh (show false=R by rw [←HR.out,decide_eq_false h0];simp)
  have HB:=Qh hb1
  clear hv0 hv1 h0 hb1
  go_wp2
  go_ret
  exact ⟨by rw [←HE.out];rfl,HB.out.alloc HB.out.size _⟩
end Go.Proofs.YtgfeainpeplphaaDoor
namespace Hb
open Ieee
theorem order_refl (F:Nat):double.order F F=if F % 9223372036854775808≤9218868437227405312 then some .eq else none:=by
 have h0:double.signWeight=9223372036854775808:=rfl
 have h1:double.binade=4503599627370496:=rfl
 have h2:double.infRung=9218868437227405312:=rfl
 unfold Format.order Format.read
 simp only [h0,h1,h2]
 by_cases a:F % 9223372036854775808<4503599627370496
 ·rw [if_pos a,if_pos (by omega)]
  unfold Datum.order
  simp only
  rw [Int.compare_eq_eq.2 rfl]
 ·rw [if_neg a]
  by_cases b:F % 9223372036854775808<9218868437227405312
  ·rw [if_pos b,if_pos (by omega)]
   unfold Datum.order
   simp only
   rw [Int.compare_eq_eq.2 rfl]
  ·rw [if_neg b]
   by_cases c:F % 9223372036854775808=9218868437227405312
   ·rw [if_pos c,if_pos (by omega)]
    unfold Datum.order
    simp only
    rw [Nat.compare_eq_eq.2 rfl]
   ·rw [if_neg c,if_neg (by omega)]
    rfl
theorem clear_any (F:Nat):F &&& (18446744073709551615 - 9223372036854775808)=F % 9223372036854775808:=Nat.and_two_pow_sub_one_eq_mod F 63
end Hb
namespace Go.Proofs.YtgfeainpeplphaaDoor
open Go.RowKit Hb Ht
attribute [local go_sem] Oper.semAt_some
def floN (F:Nat):Bool:=decide (F % 9223372036854775808<9218868437227405312) && decide (F≠9223372036854775808)
def floB (b:Int):Bool:=floN b.toNat
theorem floN_iff {F:Nat} (hF:F<18446744073709551616):(F / 4503599627370496 % 2048≠2047↔F % 9223372036854775808<9218868437227405312):=by omega
theorem clear_bits {F G:Nat} (hF:F<18446744073709551616) (hG:F % 9223372036854775808=G):bits .andNot .u64 (F:Int) 9223372036854775808=(G:Int):=by
 have h1:=bits_andNot_u64 F 9223372036854775808 hF (by decide)
 rw [show ((9223372036854775808:Nat):Int)=9223372036854775808 from rfl] at h1
 rw [h1,clear_any F,hG]
theorem AbsF_any (F G:Nat) (hF:F<18446744073709551616) (hG:F % 9223372036854775808=G) (w:World) :
  Calls Tryd.prog 93 #[.float .f64 F] w fun e w'=>e = .returned (.float .f64 G)∧w=w':=by
 have hb:=run_bits F
 have hb2:=run_frombits G
 have hb3:=clear_bits hF hG
 clear hG hF
 go_enter Tryd.func93,Tryd.ntmps93
 go_wp2
 go_ret
 exact ⟨rfl,rfl⟩
theorem Inf0_any (F G:Nat) (hF:F<18446744073709551616) (hG:F % 9223372036854775808=G) (hG2:G≤9218868437227405312) (w:World) :
  Calls Tryd.prog 85 #[.float .f64 F,.int .i64 0] w fun e w'=>e = .returned (.bool (decide (G=9218868437227405312)))∧w=w':=by
 obtain ⟨b,hb⟩:∃ b,decide (G=9218868437227405312)=b:=⟨_,rfl⟩
 have ho:=order_inf G hG2
 rw [hb] at ho ⊢
 have HA:=Qh (AbsF_any F G hF hG)
 clear hb hG
 go_enter Tryd.func85,Tryd.ntmps85
 go_wp2_with fail
 refine (HA.out _).mono ?_
 rintro ex w5 ⟨rfl,rfl⟩
 go_wp2
 go_ret
 exact ⟨rfl,rfl⟩
theorem NaN_any (F:Nat) (w:World) :
  Calls Tryd.prog 84 #[.float .f64 F] w fun e w'=>e = .returned (.bool (decide (9218868437227405312<F % 9223372036854775808)))∧w=w':=by
 by_cases h:9218868437227405312<F % 9223372036854775808
 ·rw [decide_eq_true h]
  have ho:FloatKind.f64.format.order F F=none:=by rw [show FloatKind.f64.format.order F F=_ from order_refl F,if_neg (by omega)]
  clear h
  go_enter Tryd.func84,Tryd.ntmps84
  go_wp2
  go_ret
  exact ⟨rfl,rfl⟩
 ·rw [decide_eq_false h]
  have ho:FloatKind.f64.format.order F F=some .eq:=by rw [show FloatKind.f64.format.order F F=_ from order_refl F,if_pos (by omega)]
  clear h
  go_enter Tryd.func84,Tryd.ntmps84
  go_wp2
  go_ret
  exact ⟨rfl,rfl⟩
theorem bits_and_u64 (a b:Nat) (ha:a<18446744073709551616) (hb:b<18446744073709551616):bits .and .u64 (a:Int) (b:Int)=((a &&& b:Nat):Int):=by
 unfold bits
 show IntKind.u64.wrap ((BitVec.ofInt 64 (a:Int) &&& BitVec.ofInt 64 (b:Int)).toNat:Int)=_
 rw [BitVec.toNat_and,ofInt64 ha,ofInt64 hb,u64_wrap (Nat.lt_of_le_of_lt Nat.and_le_left ha)]
theorem rfloats_any (F:Nat) (hF:F<18446744073709551616) (w:World) :
  Calls Tryd.prog 76 #[.int .u64 (F:Int)] w fun e w'=>e = .returned (.bool (floN F))∧w=w':=by
 have ha:bits .and .u64 ((F:Int) / 4503599627370496) 2047=((F / 4503599627370496 % 2048:Nat):Int):=by
  have h:=bits_and_u64 (F / 4503599627370496) (2 ^ 11 - 1) (by omega) (by decide)
  rw [and_low] at h
  exact h
 have hiff:=floN_iff hF
 unfold floN
 obtain ⟨r,hr⟩:∃ r,F / 4503599627370496 % 2048=r:=⟨_,rfl⟩
 rw [hr] at ha hiff
 by_cases h1:r=2047
 ·subst h1
  have h2:¬F % 9223372036854775808<9218868437227405312:=fun h=>(hiff.2 h) rfl
  rw [decide_eq_false h2]
  clear h2 hiff hr hF
  go_enter Tryd.func76,Tryd.ntmps76
  go_wp2
  go_ret
  exact ⟨rfl,rfl⟩
 ·have h2:F % 9223372036854775808<9218868437227405312:=hiff.1 h1
  have hrI:((r:Int) != 2047)=true:=by simpa using (show (r:Int)≠2047 by omega)
  have hrI2:¬(r:Int)=2047:=by omega
  rw [decide_eq_true h2]
  by_cases h3:F=9223372036854775808
  ·subst h3
   rw [show decide ((9223372036854775808:Nat)≠9223372036854775808)=false from by decide]
   clear h2 hiff hr hF h1
   go_enter Tryd.func76,Tryd.ntmps76
   go_wp2
   go_ret
   exact ⟨rfl,rfl⟩
  ·have hFI:((F:Int) != 9223372036854775808)=true:=by simpa using (show (F:Int)≠9223372036854775808 by omega)
   rw [decide_eq_true h3]
   clear h2 hiff hr hF h1 h3
   go_enter Tryd.func76,Tryd.ntmps76
   go_wp2
   go_ret
   exact ⟨rfl,rfl⟩
theorem blank_any {k b v:Int} {n m:List UInt8} {ts:List Tm} {nb mb:ByteArray} {A:Option Addr} {L c:Nat} (hk:1≤k∧k≤5) (hnb:(⟨n.toArray⟩:ByteArray)=nb) (hmb:(⟨m.toArray⟩:ByteArray)=mb) (hL:ts.length=L) (w:World) :
  Calls Tryd.prog 80 #[.agg (Q5 k nb mb b v (.slice A L c))] w fun e w'=>e = .returned (.bool (!stray (.mk k n m b v ts)))∧Below w.heap.size w w':=by
 have h5:k=1∨k=2∨k=3∨k=4∨k=5:=by omega
 obtain ⟨R,hR⟩:∃ R,(!stray (.mk k n m b v ts))=R:=⟨_,rfl⟩
 rw [hR]
 have hn:nb.toList=n:=by rw [ByteArray.toList_eq,←hnb]
 have hm:mb.toList=m:=by rw [ByteArray.toList_eq,←hmb]
 unfold stray at hR
 simp only [Tm.k,Tm.n,Tm.m,Tm.b,Tm.v,Tm.as,hL,←hn,←hm] at hR
 have HR:=Qh hR
 clear hR hn hm hnb hmb hL hk
 rcases h5 with rfl | rfl | rfl | rfl | rfl
 ·go_enter Tryd.func80,Tryd.ntmps80
  go_wp2
  all_goals
   go_ret
   have hR:=HR.out
   refine ⟨?_,Qb⟩
   simp_all
   try (subst hR;by_cases h0:L=0 <;> simp [h0])
 ·go_enter Tryd.func80,Tryd.ntmps80
  go_wp2
  all_goals
   go_ret
   have hR:=HR.out
   refine ⟨?_,Qb⟩
   simp_all
   try (subst hR;by_cases h0:L=0 <;> simp [h0])
 ·go_enter Tryd.func80,Tryd.ntmps80
  go_wp2
  all_goals
   go_ret
   have hR:=HR.out
   refine ⟨?_,Qb⟩
   simp_all
   try (subst hR;by_cases h0:L=0 <;> simp [h0])
 ·go_enter Tryd.func80,Tryd.ntmps80
  go_wp2
  all_goals
   go_ret
   have hR:=HR.out
   refine ⟨?_,Qb⟩
   simp_all
   try (subst hR;by_cases h0:L=0 <;> simp [h0])
 ·go_enter Tryd.func80,Tryd.ntmps80
  go_wp2
  all_goals
   go_ret
   have hR:=HR.out
   refine ⟨?_,Qb⟩
   simp_all
   try (subst hR;by_cases h0:L=0 <;> simp [h0])
def U0 (w0:World):Prop:=∀ w',Below w0.heap.size w0 w'→∀ s:ByteArray,s.size≤maxLen→Calls Tryd.prog 81 #[.string s] w' fun e w''=>e = .returned (.bool (Lib.validD s.data.toList))∧Below w'.heap.size w' w''
structure UOk (w0 w:World):Prop where
 bel:Below w0.heap.size w0 w
 u0:U0 w0
theorem UOk.below {w0 w w':World} (h:UOk w0 w) (hb:Below w.heap.size w w'):UOk w0 w':=⟨Qt h.bel hb,h.u0⟩
theorem UOk.go {w0 w:World} (h:UOk w0 w) {s:ByteArray} (hs:s.size≤maxLen):Calls Tryd.prog 81 #[.string s] w fun e w''=>e = .returned (.bool (Lib.validD s.data.toList))∧Below w.heap.size w w'':=h.u0 w h.bel s hs
abbrev oneP (t:Tm):Int:=one Lib.validD canonB floB t
abbrev errsP (t:Tm):Int:=errs Lib.validD canonB floB t
abbrev checkP (t:Tm):Int:=check Lib.validD canonB floB t
theorem node_any {w0 w:World} {t:Tm} {sl:Value} (h:TAt w w.heap.size t sl) (hU:UOk w0 w):Calls Tryd.prog 77 #[valT t sl] w fun e w'=>e = .returned (.int .i64 (oneP t))∧Below w.heap.size w w':=by
 obtain ⟨k,nl,ml,b,v,ts,nb,mb,A,c,rfl,rfl,hnb,hmb,hl1,hl2,hl3,hv,hs1,hs2⟩:=h.letters
 have hok:=h.ok
 obtain ⟨L,hL⟩:∃ L,ts.length=L:=⟨_,rfl⟩
 rw [hv]
 rw [hL] at h hl1 hl3 ⊢
 obtain ⟨W1,hW1⟩:∃ W1,w.alloc (.cells (Q5 k nb mb b v (.slice A L c)) 25)=W1:=⟨_,rfl⟩
 have hb1:Below w.heap.size w W1:=by rw [←hW1];exact Qb
 have hX:TBox W1 w.heap.size (.mk k nl ml b v ts) (.slice A L c):=by rw [←hW1];exact TBox.new w hnb hmb
 obtain ⟨x0,x1,x2,x3,x4,x5⟩:=hX.cells hnb hmb
 obtain ⟨S,hS⟩:∃ S,stray (.mk k nl ml b v ts)=S:=⟨_,rfl⟩
 obtain ⟨U,hUu⟩:∃ U,Lib.validD nl=U:=⟨_,rfl⟩
 obtain ⟨C,hC⟩:∃ C,canonB ml=C:=⟨_,rfl⟩
 obtain ⟨F,hF⟩:∃ F,floB b=F:=⟨_,rfl⟩
 obtain ⟨N,hN⟩:∃ N,nl.length=N:=⟨_,rfl⟩
 obtain ⟨R,hR⟩:∃ R,oneP (.mk k nl ml b v ts)=R:=⟨_,rfl⟩
 rw [hR]
 have hsz:nb.size=N:=by rw [←hN,←hnb];exact List.size_toArray
 have HR:=Qh (show (if k<1∨5<k∨S=true∨v<0∨(k=5∧(L=0∨64<L)) then (20:Int) else if U=false∨1000<N then 21 else if k=3∧C=false then 22 else if k=4∧F=false then 23 else 0)=R from by
  rw [←hR,←hS,←hUu,←hC,←hF,←hN,←hL]
  rfl)
 have HBk:=Qh (fun hk:1≤k∧k≤5=>show Calls Tryd.prog 80 #[.agg (Q5 k nb mb b v (.slice A L c))] W1 (fun e w'=>e = .returned (.bool (!S))∧Below W1.heap.size W1 w') from by
  rw [←hS];exact blank_any hk hnb hmb hL W1)
 have HUv:=Qh (fun (w':World) (hb:Below W1.heap.size W1 w')=>show Calls Tryd.prog 81 #[.string nb] w' (fun e w''=>e = .returned (.bool U)∧Below w'.heap.size w' w'') from by
  have h9:=((hU.below hb1).below hb).go hs1
  rw [←hUu]
  have e:nb.data.toList=nl:=by rw [←hnb]
  rw [e] at h9
  exact h9)
 have HIn:=Qh (fun (w':World)=>show Calls Tryd.prog 82 #[.string mb] w' (fun e w''=>e = .returned (.bool C)∧Below w'.heap.size w' w'') from by
  have h9:=integer_any mb w' hs2
  rw [←hC]
  have e:mb.data.toList=ml:=by rw [←hmb]
  rw [e] at h9
  exact h9)
 have HX:=Qh (Qa hb1 hX)
 have HM:=Qh (Qa hnb hmb)
 have HOk:=Qh hok
 have HFf:=Qh hF
 have hNI:(N:Int)≤9223372036854775807:=by rw [←hsz];unfold maxLen at hs1;omega
 have hLI:(L:Int)≤1759218604400:=by unfold maxArgs at hl3;omega
 subst hW1
 clear h hU hv hok hb1 hX hS hUu hC hF hN hR hnb hmb hL
 by_cases hk1:k<1
 ·have HE:=Qh (show (20:Int)=R by rw [←HR.out,if_pos (.inl hk1)])
  go_enter Tryd.func77,Tryd.ntmps77
  go_wp2
  go_ret
  exact ⟨by rw [←HE.out];rfl,HX.out.1⟩
 by_cases hk5:5<k
 ·have HE:=Qh (show (20:Int)=R by rw [←HR.out,if_pos (.inr (.inl hk5))])
  go_enter Tryd.func77,Tryd.ntmps77
  go_wp2
  go_ret
  exact ⟨by rw [←HE.out];rfl,HX.out.1⟩
 have HK:=Qh (show 1≤k∧k≤5 from ⟨by omega,by omega⟩)
 cases S
 ·by_cases hv0:v<0
  ·have HE:=Qh (show (20:Int)=R by rw [←HR.out];rw [if_pos (.inr (.inr (.inr (.inl hv0))))])
   go_enter Tryd.func77,Tryd.ntmps77
   go_wp2_with (go_at_call 80;(with_reducible refine (HBk.out HK.out).mono ?_);rintro e w2 ⟨rfl,hb2⟩;obtain ⟨y0,y1,y2,y3,y4,y5⟩:=(HX.out.2.below hb2).cells HM.out.1 HM.out.2;have HX2:=Qh (Qa (Qt HX.out.1 hb2) (Qa hb2 (HX.out.2.below hb2)));clear hb2)
   go_ret
   exact ⟨by rw [←HE.out];rfl,HX2.out.1⟩
  by_cases h5:k=5
  ·subst h5
   by_cases hL0:L=0
   ·subst hL0
    have HE:=Qh (show (20:Int)=R by rw [←HR.out];rw [if_pos (.inr (.inr (.inr (.inr ⟨rfl,.inl rfl⟩))))])
    go_enter Tryd.func77,Tryd.ntmps77
    go_wp2_with (go_at_call 80;(with_reducible refine (HBk.out HK.out).mono ?_);rintro e w2 ⟨rfl,hb2⟩;obtain ⟨y0,y1,y2,y3,y4,y5⟩:=(HX.out.2.below hb2).cells HM.out.1 HM.out.2;have HX2:=Qh (Qa (Qt HX.out.1 hb2) (Qa hb2 (HX.out.2.below hb2)));clear hb2)
    go_ret
    exact ⟨by rw [←HE.out];rfl,HX2.out.1⟩
   have hL0I:((L:Int)==0)=false:=beq_eq_false_iff_ne.2 (by omega)
   by_cases h64:64<L
   ·have h64I:(64:Int)<(L:Int):=by omega
    have HE:=Qh (show (20:Int)=R by rw [←HR.out];rw [if_pos (.inr (.inr (.inr (.inr ⟨rfl,.inr h64⟩))))])
    go_enter Tryd.func77,Tryd.ntmps77
    go_wp2_with (go_at_call 80;(with_reducible refine (HBk.out HK.out).mono ?_);rintro e w2 ⟨rfl,hb2⟩;obtain ⟨y0,y1,y2,y3,y4,y5⟩:=(HX.out.2.below hb2).cells HM.out.1 HM.out.2;have HX2:=Qh (Qa (Qt HX.out.1 hb2) (Qa hb2 (HX.out.2.below hb2)));clear hb2)
    go_ret
    exact ⟨by rw [←HE.out];rfl,HX2.out.1⟩
   have h64I:¬(64:Int)<(L:Int):=by omega
   have hcnd:¬((5:Int)<1∨(5:Int)<5∨false=true∨v<0∨((5:Int)=5∧(L=0∨64<L))):=by simp;omega
   cases U
   ·have HE:=Qh (show (21:Int)=R by rw [←HR.out];rw [if_neg hcnd,if_pos (.inl rfl)])
    go_enter Tryd.func77,Tryd.ntmps77
    go_wp2_with (first
     | (go_at_call 80;(with_reducible refine (HBk.out HK.out).mono ?_);rintro e w2 ⟨rfl,hb2⟩;obtain ⟨y0,y1,y2,y3,y4,y5⟩:=(HX.out.2.below hb2).cells HM.out.1 HM.out.2;have HX2:=Qh (Qa (Qt HX.out.1 hb2) (Qa hb2 (HX.out.2.below hb2)));clear hb2)
     | (go_at_call 81;(with_reducible refine (HUv.out _ HX2.out.2.1).mono ?_);rintro e w3 ⟨rfl,hb3⟩;obtain ⟨z0,z1,z2,z3,z4,z5⟩:=(HX2.out.2.2.below hb3).cells HM.out.1 HM.out.2;have HX3:=Qh (Qa (Qt HX2.out.1 hb3) (HX2.out.2.2.below hb3));clear hb3))
    go_ret
    exact ⟨by rw [←HE.out];rfl,HX3.out.1⟩
   ·by_cases h1000:1000<N
    ·have h1I:(1000:Int)<(N:Int):=by omega
     have HE:=Qh (show (21:Int)=R by rw [←HR.out];rw [if_neg hcnd,if_pos (.inr h1000)])
     clear h1000
     go_enter Tryd.func77,Tryd.ntmps77
     go_wp2_with (first
      | (go_at_call 80;(with_reducible refine (HBk.out HK.out).mono ?_);rintro e w2 ⟨rfl,hb2⟩;obtain ⟨y0,y1,y2,y3,y4,y5⟩:=(HX.out.2.below hb2).cells HM.out.1 HM.out.2;have HX2:=Qh (Qa (Qt HX.out.1 hb2) (Qa hb2 (HX.out.2.below hb2)));clear hb2)
      | (go_at_call 81;(with_reducible refine (HUv.out _ HX2.out.2.1).mono ?_);rintro e w3 ⟨rfl,hb3⟩;obtain ⟨z0,z1,z2,z3,z4,z5⟩:=(HX2.out.2.2.below hb3).cells HM.out.1 HM.out.2;have HX3:=Qh (Qa (Qt HX2.out.1 hb3) (HX2.out.2.2.below hb3));clear hb3))
     go_ret
     exact ⟨by rw [←HE.out];rfl,HX3.out.1⟩
    ·have h1I:¬(1000:Int)<(N:Int):=by omega
     have hU2:¬(true=false∨1000<N):=fun h=>h.elim (fun h=>by cases h) h1000
     have HE:=Qh (show (0:Int)=R by rw [←HR.out];rw [if_neg hcnd,if_neg hU2,if_neg (fun h=>absurd h.1 (by decide)),if_neg (fun h=>absurd h.1 (by decide))])
     clear h1000 hU2
     go_enter Tryd.func77,Tryd.ntmps77
     go_wp2_with (first
      | (go_at_call 80;(with_reducible refine (HBk.out HK.out).mono ?_);rintro e w2 ⟨rfl,hb2⟩;obtain ⟨y0,y1,y2,y3,y4,y5⟩:=(HX.out.2.below hb2).cells HM.out.1 HM.out.2;have HX2:=Qh (Qa (Qt HX.out.1 hb2) (Qa hb2 (HX.out.2.below hb2)));clear hb2)
      | (go_at_call 81;(with_reducible refine (HUv.out _ HX2.out.2.1).mono ?_);rintro e w3 ⟨rfl,hb3⟩;obtain ⟨z0,z1,z2,z3,z4,z5⟩:=(HX2.out.2.2.below hb3).cells HM.out.1 HM.out.2;have HX3:=Qh (Qa (Qt HX2.out.1 hb3) (HX2.out.2.2.below hb3));clear hb3))
     go_ret
     exact ⟨by rw [←HE.out];rfl,HX3.out.1⟩
  have hk5b:(k==5)=false:=beq_eq_false_iff_ne.2 h5
  have hcnd:¬(k<1∨5<k∨false=true∨v<0∨(k=5∧(L=0∨64<L))):=by simp;omega
  cases U
  ·have HE:=Qh (show (21:Int)=R by rw [←HR.out];rw [if_neg hcnd,if_pos (.inl rfl)])
   go_enter Tryd.func77,Tryd.ntmps77
   go_wp2_with (first
    | (go_at_call 80;(with_reducible refine (HBk.out HK.out).mono ?_);rintro e w2 ⟨rfl,hb2⟩;obtain ⟨y0,y1,y2,y3,y4,y5⟩:=(HX.out.2.below hb2).cells HM.out.1 HM.out.2;have HX2:=Qh (Qa (Qt HX.out.1 hb2) (Qa hb2 (HX.out.2.below hb2)));clear hb2)
    | (go_at_call 81;(with_reducible refine (HUv.out _ HX2.out.2.1).mono ?_);rintro e w3 ⟨rfl,hb3⟩;obtain ⟨z0,z1,z2,z3,z4,z5⟩:=(HX2.out.2.2.below hb3).cells HM.out.1 HM.out.2;have HX3:=Qh (Qa (Qt HX2.out.1 hb3) (HX2.out.2.2.below hb3));clear hb3))
   go_ret
   exact ⟨by rw [←HE.out];rfl,HX3.out.1⟩
  ·by_cases h1000:1000<N
   ·have h1I:(1000:Int)<(N:Int):=by omega
    have HE:=Qh (show (21:Int)=R by rw [←HR.out];rw [if_neg hcnd,if_pos (.inr h1000)])
    clear h1000
    go_enter Tryd.func77,Tryd.ntmps77
    go_wp2_with (first
     | (go_at_call 80;(with_reducible refine (HBk.out HK.out).mono ?_);rintro e w2 ⟨rfl,hb2⟩;obtain ⟨y0,y1,y2,y3,y4,y5⟩:=(HX.out.2.below hb2).cells HM.out.1 HM.out.2;have HX2:=Qh (Qa (Qt HX.out.1 hb2) (Qa hb2 (HX.out.2.below hb2)));clear hb2)
     | (go_at_call 81;(with_reducible refine (HUv.out _ HX2.out.2.1).mono ?_);rintro e w3 ⟨rfl,hb3⟩;obtain ⟨z0,z1,z2,z3,z4,z5⟩:=(HX2.out.2.2.below hb3).cells HM.out.1 HM.out.2;have HX3:=Qh (Qa (Qt HX2.out.1 hb3) (HX2.out.2.2.below hb3));clear hb3))
    go_ret
    exact ⟨by rw [←HE.out];rfl,HX3.out.1⟩
   ·have h1I:¬(1000:Int)<(N:Int):=by omega
    have hU2:¬(true=false∨1000<N):=fun h=>h.elim (fun h=>by cases h) h1000
    by_cases h3:k=3
    ·subst h3
     cases C
     ·have HE:=Qh (show (22:Int)=R by rw [←HR.out];rw [if_neg hcnd,if_neg hU2,if_pos ⟨rfl,rfl⟩])
      clear h1000 hU2
      go_enter Tryd.func77,Tryd.ntmps77
      go_wp2_with (first
       | (go_at_call 80;(with_reducible refine (HBk.out HK.out).mono ?_);rintro e w2 ⟨rfl,hb2⟩;obtain ⟨y0,y1,y2,y3,y4,y5⟩:=(HX.out.2.below hb2).cells HM.out.1 HM.out.2;have HX2:=Qh (Qa (Qt HX.out.1 hb2) (Qa hb2 (HX.out.2.below hb2)));clear hb2)
       | (go_at_call 81;(with_reducible refine (HUv.out _ HX2.out.2.1).mono ?_);rintro e w3 ⟨rfl,hb3⟩;obtain ⟨z0,z1,z2,z3,z4,z5⟩:=(HX2.out.2.2.below hb3).cells HM.out.1 HM.out.2;have HX3:=Qh (Qa (Qt HX2.out.1 hb3) (HX2.out.2.2.below hb3));clear hb3)
       | (go_at_call 82;(with_reducible refine (HIn.out _).mono ?_);rintro e w4 ⟨rfl,hb4⟩;obtain ⟨q0,q1,q2,q3,q4,q5⟩:=(HX3.out.2.below hb4).cells HM.out.1 HM.out.2;have HX4:=Qh (Qt HX3.out.1 hb4);clear hb4))
      go_ret
      exact ⟨by rw [←HE.out];rfl,HX4.out⟩
     ·have HE:=Qh (show (0:Int)=R by rw [←HR.out];rw [if_neg hcnd,if_neg hU2,if_neg (fun h=>by cases h.2),if_neg (fun h=>absurd h.1 (by decide))])
      clear h1000 hU2
      go_enter Tryd.func77,Tryd.ntmps77
      go_wp2_with (first
       | (go_at_call 80;(with_reducible refine (HBk.out HK.out).mono ?_);rintro e w2 ⟨rfl,hb2⟩;obtain ⟨y0,y1,y2,y3,y4,y5⟩:=(HX.out.2.below hb2).cells HM.out.1 HM.out.2;have HX2:=Qh (Qa (Qt HX.out.1 hb2) (Qa hb2 (HX.out.2.below hb2)));clear hb2)
       | (go_at_call 81;(with_reducible refine (HUv.out _ HX2.out.2.1).mono ?_);rintro e w3 ⟨rfl,hb3⟩;obtain ⟨z0,z1,z2,z3,z4,z5⟩:=(HX2.out.2.2.below hb3).cells HM.out.1 HM.out.2;have HX3:=Qh (Qa (Qt HX2.out.1 hb3) (HX2.out.2.2.below hb3));clear hb3)
       | (go_at_call 82;(with_reducible refine (HIn.out _).mono ?_);rintro e w4 ⟨rfl,hb4⟩;obtain ⟨q0,q1,q2,q3,q4,q5⟩:=(HX3.out.2.below hb4).cells HM.out.1 HM.out.2;have HX4:=Qh (Qt HX3.out.1 hb4);clear hb4))
      go_ret
      exact ⟨by rw [←HE.out];rfl,HX4.out⟩
    by_cases h4:k=4
    ·subst h4
     obtain ⟨B,rfl⟩:=Int.eq_ofNat_of_zero_le HOk.out.2.2.1.1
     have hB:B<18446744073709551616:=by have:=HOk.out.2.2.1.2;simp only [Tm.b] at this;omega
     have hfb:=run_frombits B
     obtain ⟨G,hG⟩:∃ G,B % 9223372036854775808=G:=⟨_,rfl⟩
     have hN0:=NaN_any B
     rw [hG] at hN0
     have hFl:F=(decide (G<9218868437227405312) && decide (B≠9223372036854775808)):=by rw [←HFf.out,←hG];rfl
     by_cases hn:9218868437227405312<G
     ·rw [decide_eq_true hn] at hN0
      have HNa:=Qh hN0
      have hF0:F=false:=by rw [hFl,decide_eq_false (by omega)];rfl
      have HE:=Qh (show (23:Int)=R by rw [←HR.out];rw [if_neg hcnd,if_neg hU2,if_neg (fun h=>absurd h.1 (by decide)),if_pos ⟨rfl,hF0⟩])
      clear h1000 hU2 hN0 hFl hn hG hF0 hB
      go_enter Tryd.func77,Tryd.ntmps77
      go_wp2_with (first
       | (go_at_call 80;(with_reducible refine (HBk.out HK.out).mono ?_);rintro e w2 ⟨rfl,hb2⟩;obtain ⟨y0,y1,y2,y3,y4,y5⟩:=(HX.out.2.below hb2).cells HM.out.1 HM.out.2;have HX2:=Qh (Qa (Qt HX.out.1 hb2) (Qa hb2 (HX.out.2.below hb2)));clear hb2)
       | (go_at_call 81;(with_reducible refine (HUv.out _ HX2.out.2.1).mono ?_);rintro e w3 ⟨rfl,hb3⟩;obtain ⟨z0,z1,z2,z3,z4,z5⟩:=(HX2.out.2.2.below hb3).cells HM.out.1 HM.out.2;have HX3:=Qh (Qa (Qt HX2.out.1 hb3) (HX2.out.2.2.below hb3));clear hb3)
       | (go_at_call 84;(with_reducible refine (HNa.out _).mono ?_);rintro e w5 ⟨rfl,rfl⟩))
      go_ret
      exact ⟨by rw [←HE.out];rfl,HX3.out.1⟩
     ·rw [decide_eq_false hn] at hN0
      have HNa:=Qh hN0
      have hI0:=Inf0_any B G hB hG (by omega)
      by_cases hi:G=9218868437227405312
      ·rw [decide_eq_true hi] at hI0
       have HIf:=Qh hI0
       have hF0:F=false:=by rw [hFl,decide_eq_false (by omega)];rfl
       have HE:=Qh (show (23:Int)=R by rw [←HR.out];rw [if_neg hcnd,if_neg hU2,if_neg (fun h=>absurd h.1 (by decide)),if_pos ⟨rfl,hF0⟩])
       clear h1000 hU2 hN0 hFl hn hG hF0 hI0 hi hB
       go_enter Tryd.func77,Tryd.ntmps77
       go_wp2_with (first
        | (go_at_call 80;(with_reducible refine (HBk.out HK.out).mono ?_);rintro e w2 ⟨rfl,hb2⟩;obtain ⟨y0,y1,y2,y3,y4,y5⟩:=(HX.out.2.below hb2).cells HM.out.1 HM.out.2;have HX2:=Qh (Qa (Qt HX.out.1 hb2) (Qa hb2 (HX.out.2.below hb2)));clear hb2)
        | (go_at_call 81;(with_reducible refine (HUv.out _ HX2.out.2.1).mono ?_);rintro e w3 ⟨rfl,hb3⟩;obtain ⟨z0,z1,z2,z3,z4,z5⟩:=(HX2.out.2.2.below hb3).cells HM.out.1 HM.out.2;have HX3:=Qh (Qa (Qt HX2.out.1 hb3) (HX2.out.2.2.below hb3));clear hb3)
        | (go_at_call 84;(with_reducible refine (HNa.out _).mono ?_);rintro e w5 ⟨rfl,rfl⟩)
        | (go_at_call 85;(with_reducible refine (HIf.out _).mono ?_);rintro e w6 ⟨rfl,rfl⟩))
       go_ret
       exact ⟨by rw [←HE.out];rfl,HX3.out.1⟩
      ·rw [decide_eq_false hi] at hI0
       have HIf:=Qh hI0
       by_cases hb63:B=9223372036854775808
       ·have hF0:F=false:=by rw [hFl,hb63];simp
        have hbI:((B:Int)==9223372036854775808)=true:=by rw [hb63];rfl
        have HE:=Qh (show (23:Int)=R by rw [←HR.out];rw [if_neg hcnd,if_neg hU2,if_neg (fun h=>absurd h.1 (by decide)),if_pos ⟨rfl,hF0⟩])
        clear h1000 hU2 hN0 hFl hn hG hF0 hI0 hi hB hb63
        go_enter Tryd.func77,Tryd.ntmps77
        go_wp2_with (first
         | (go_at_call 80;(with_reducible refine (HBk.out HK.out).mono ?_);rintro e w2 ⟨rfl,hb2⟩;obtain ⟨y0,y1,y2,y3,y4,y5⟩:=(HX.out.2.below hb2).cells HM.out.1 HM.out.2;have HX2:=Qh (Qa (Qt HX.out.1 hb2) (Qa hb2 (HX.out.2.below hb2)));clear hb2)
         | (go_at_call 81;(with_reducible refine (HUv.out _ HX2.out.2.1).mono ?_);rintro e w3 ⟨rfl,hb3⟩;obtain ⟨z0,z1,z2,z3,z4,z5⟩:=(HX2.out.2.2.below hb3).cells HM.out.1 HM.out.2;have HX3:=Qh (Qa (Qt HX2.out.1 hb3) (HX2.out.2.2.below hb3));clear hb3)
         | (go_at_call 84;(with_reducible refine (HNa.out _).mono ?_);rintro e w5 ⟨rfl,rfl⟩)
         | (go_at_call 85;(with_reducible refine (HIf.out _).mono ?_);rintro e w6 ⟨rfl,rfl⟩))
        go_ret
        exact ⟨by rw [←HE.out];rfl,HX3.out.1⟩
       ·have hF0:F=true:=by rw [hFl,decide_eq_true (by omega),decide_eq_true hb63];rfl
        have hbI:((B:Int)==9223372036854775808)=false:=beq_eq_false_iff_ne.2 (by omega)
        have HE:=Qh (show (0:Int)=R by rw [←HR.out];rw [if_neg hcnd,if_neg hU2,if_neg (fun h=>absurd h.1 (by decide)),if_neg (fun h=>by rw [hF0] at h;cases h.2)])
        clear h1000 hU2 hN0 hFl hn hG hF0 hI0 hi hB hb63
        go_enter Tryd.func77,Tryd.ntmps77
        go_wp2_with (first
         | (go_at_call 80;(with_reducible refine (HBk.out HK.out).mono ?_);rintro e w2 ⟨rfl,hb2⟩;obtain ⟨y0,y1,y2,y3,y4,y5⟩:=(HX.out.2.below hb2).cells HM.out.1 HM.out.2;have HX2:=Qh (Qa (Qt HX.out.1 hb2) (Qa hb2 (HX.out.2.below hb2)));clear hb2)
         | (go_at_call 81;(with_reducible refine (HUv.out _ HX2.out.2.1).mono ?_);rintro e w3 ⟨rfl,hb3⟩;obtain ⟨z0,z1,z2,z3,z4,z5⟩:=(HX2.out.2.2.below hb3).cells HM.out.1 HM.out.2;have HX3:=Qh (Qa (Qt HX2.out.1 hb3) (HX2.out.2.2.below hb3));clear hb3)
         | (go_at_call 84;(with_reducible refine (HNa.out _).mono ?_);rintro e w5 ⟨rfl,rfl⟩)
         | (go_at_call 85;(with_reducible refine (HIf.out _).mono ?_);rintro e w6 ⟨rfl,rfl⟩))
        go_ret
        exact ⟨by rw [←HE.out];rfl,HX3.out.1⟩
    have hk3:(k==3)=false:=beq_eq_false_iff_ne.2 h3
    have hk4:(k==4)=false:=beq_eq_false_iff_ne.2 h4
    have HE:=Qh (show (0:Int)=R by rw [←HR.out];rw [if_neg hcnd,if_neg hU2,if_neg (fun h=>h3 h.1),if_neg (fun h=>h4 h.1)])
    clear h1000 hU2 h3 h4
    go_enter Tryd.func77,Tryd.ntmps77
    go_wp2_with (first
     | (go_at_call 80;(with_reducible refine (HBk.out HK.out).mono ?_);rintro e w2 ⟨rfl,hb2⟩;obtain ⟨y0,y1,y2,y3,y4,y5⟩:=(HX.out.2.below hb2).cells HM.out.1 HM.out.2;have HX2:=Qh (Qa (Qt HX.out.1 hb2) (Qa hb2 (HX.out.2.below hb2)));clear hb2)
     | (go_at_call 81;(with_reducible refine (HUv.out _ HX2.out.2.1).mono ?_);rintro e w3 ⟨rfl,hb3⟩;obtain ⟨z0,z1,z2,z3,z4,z5⟩:=(HX2.out.2.2.below hb3).cells HM.out.1 HM.out.2;have HX3:=Qh (Qa (Qt HX2.out.1 hb3) (HX2.out.2.2.below hb3));clear hb3))
    go_ret
    exact ⟨by rw [←HE.out];rfl,HX3.out.1⟩
 ·have HE:=Qh (show (20:Int)=R by rw [←HR.out,if_pos (.inr (.inr (.inl rfl)))])
  go_enter Tryd.func77,Tryd.ntmps77
  go_wp2_with (go_at_call 80;(with_reducible refine (HBk.out HK.out).mono ?_);rintro e w' ⟨rfl,hb3⟩;have HB3:=Qh (Qt HX.out.1 hb3);clear hb3)
  go_ret
  exact ⟨by rw [←HE.out];rfl,HB3.out⟩
theorem errss_drop {ts:List Tm} {i:Nat} {a:Tm} (ha:ts[i]?=some a) {R:Int} (h:errss Lib.validD canonB floB (ts.drop i)=R):(errsP a≠0→errsP a=R)∧(errsP a=0→errss Lib.validD canonB floB (ts.drop (i+1))=R):=by
 obtain ⟨hil,e⟩:=List.getElem?_eq_some_iff.1 ha
 rw [List.drop_eq_getElem_cons hil,e,errss] at h
 by_cases h0:errs Lib.validD canonB floB a=0
 ·rw [if_neg (by simp [h0])] at h
  exact ⟨fun h1=>absurd h0 h1,fun _=>h⟩
 ·rw [if_pos h0] at h
  exact ⟨fun _=>h,fun h1=>absurd h1 h0⟩
def NodesOk (w0:World) (t:Tm):Prop:=∀ (w:World) (sl:Value),TAt w w.heap.size t sl→UOk w0 w→Calls Tryd.prog 69 #[valT t sl] w fun e w'=>e = .returned (.int .i64 (errsP t))∧Below w.heap.size w w'
theorem nodes_any (w0:World) (t:Tm):NodesOk w0 t:=by
 refine Tm.ind (p:=NodesOk w0) (fun k nl ml b v ts ih=>?_) t
 intro w sl h hU
 obtain ⟨A,c,rfl,hl1,hl2,hl3⟩:=h.slice
 obtain ⟨nb,hnb⟩:∃ nb:ByteArray,(⟨nl.toArray⟩:ByteArray)=nb:=⟨_,rfl⟩
 obtain ⟨mb,hmb⟩:∃ mb:ByteArray,(⟨ml.toArray⟩:ByteArray)=mb:=⟨_,rfl⟩
 obtain ⟨L,hL⟩:∃ L,ts.length=L:=⟨_,rfl⟩
 change ts.length≤c at hl1
 change ts.length≤maxArgs at hl3
 change TAt w w.heap.size (.mk k nl ml b v ts) (.slice A ts.length c) at h
 change Calls Tryd.prog 69 #[valT _ (.slice A ts.length c)] w _
 have hNd:=fun w1 (hb:Below w.heap.size w w1)=>node_any (w0:=w0) (h.to hb hb.size) (hU.below hb)
 simp only [valT_mk hnb hmb] at hNd
 rw [valT_mk hnb hmb]
 rw [hL] at h hl1 hl3 hNd ⊢
 obtain ⟨R,hR⟩:∃ R,errsP (.mk k nl ml b v ts)=R:=⟨_,rfl⟩
 obtain ⟨R0,hR0⟩:∃ R0,oneP (.mk k nl ml b v ts)=R0:=⟨_,rfl⟩
 rw [hR]
 have HR:=Qh (show (R0≠0→R0=R)∧(R0=0→errss Lib.validD canonB floB ts=R) from by
  have h9:(if oneP (.mk k nl ml b v ts)≠0 then oneP (.mk k nl ml b v ts) else errss Lib.validD canonB floB ts)=R:=hR
  rw [hR0] at h9
  by_cases h0:R0=0
  ·rw [if_neg (by simp [h0])] at h9;exact ⟨fun h=>absurd h0 h,fun _=>h9⟩
  ·rw [if_pos h0] at h9;exact ⟨fun _=>h9,fun h=>absurd h h0⟩)
 have HNd:=Qh hNd
 rw [hR0] at HNd
 have HIH:=Qh ih
 have HT:=Qh h
 have HU:=Qh hU
 have HL:=Qh hL
 have HM:=Qh (Qa hnb hmb)
 have hLI:(L:Int)≤1759218604400:=by unfold maxArgs at hl3;omega
 obtain ⟨W1,hW1⟩:∃ W1,w.alloc (.cells (Q5 k nb mb b v (.slice A L c)) 25)=W1:=⟨_,rfl⟩
 have hb1:Below w.heap.size w W1:=by rw [←hW1];exact Qb
 have hX:=TBox.new (ts:=ts) w (k:=k) (b:=b) (v:=v) (sl:=.slice A L c) hnb hmb
 rw [hW1] at hX
 obtain ⟨x0,x1,x2,x3,x4,x5⟩:=hX.cells hnb hmb
 have HB:=Qh (Qa hb1 hX)
 subst hW1
 clear ih h hU hR hR0 hL hnb hmb hX hb1 hNd
 go_enter Tryd.func69,Tryd.ntmps69
 go_wp2_with fail
 (with_reducible refine (HNd.out _ HB.out.1).mono ?_)
 rintro e w2 ⟨rfl,hb2⟩
 have HB2:=Qh (Qt HB.out.1 hb2)
 obtain ⟨y0,y1,y2,y3,y4,y5⟩:=(HB.out.2.below hb2).cells HM.out.1 HM.out.2
 clear hb2 x0 x1 x2 x3 x4 x5
 by_cases h0:R0=0
 ·subst h0
  have HRs:=Qh (HR.out.2 rfl)
  go_upto_region 5 with fail
  clear y0 y1 y2 y3 y4 y5
  go_loopw [15] (fun v15 wr=>∃ i:Nat,v15 = .int .i64 (i:Int)∧i≤L∧Hid (errss Lib.validD canonB floB (ts.drop i)=R∧Below w.heap.size w wr)) (fun v15 _=>((L:Int) - intOf v15).toNat)
  case atStart=>exact ⟨0,rfl,Nat.zero_le _,Qh ⟨HRs.out,HB2.out⟩⟩
  case round=>
   obtain ⟨i,rfl,hi,HI⟩:=hrel
   by_cases hlt:i<L
   ·have hltI:(i:Int)<(L:Int):=by omega
    have hi0:(0:Int)≤(i:Int):=by omega
    have hil:i<ts.length:=by rw [HL.out];exact hlt
    obtain ⟨a,ha⟩:∃ a,ts[i]?=some a:=⟨_,List.getElem?_eq_getElem hil⟩
    obtain ⟨g,o,rfl,hgB,helt⟩:=(HT.out.to HI.out.2 HI.out.2.size).arg ha
    have HD:=Qh (errss_drop ha HI.out.1)
    obtain ⟨A',c',k',n',m',b',v',ts',nb',mb',rfl,hnb',hmb',hta,e0,e1,e2,e3,e4,e5⟩:=EltAt.cells helt
    obtain ⟨q,hq⟩:∃ q,ts'.length=q:=⟨_,rfl⟩
    have HC:=Qh (HIH.out _ (List.mem_of_getElem? ha))
    have HN:=Qh (Qa hnb' hmb')
    have HTA:=Qh hta
    have HLT:=Qh hlt
    have HQ:=Qh hq
    rw [hq] at e5
    clear helt hta hnb' hmb' ha hil hlt hi hq
    go_upto_region 7 with fail
    have HX2:=Qh (TBox.new (ts:=ts') wr (k:=k') (b:=b') (v:=v') (sl:=.slice A' q c') HN.out.1 HN.out.2)
    have hb3:Below wr.heap.size wr (wr.alloc (.cells (Q5 k' nb' mb' b' v' (.slice A' q c')) 25)):=Qb
    have HB3:=Qh (Qt HI.out.2 hb3)
    have HCl:=Qh (HC.out _ _ (HTA.out.to hb3 hb3.size) (HU.out.below HB3.out))
    rw [valT_mk HN.out.1 HN.out.2,HQ.out] at HCl
    obtain ⟨R1,hR1⟩:∃ R1,errsP (.mk k' n' m' b' v' ts')=R1:=⟨_,rfl⟩
    rw [hR1] at HCl HD
    clear hR1 hb3
    generalize wr.alloc (.cells (Q5 k' nb' mb' b' v' (.slice A' q c')) 25)=W2 at *
    generalize wr.heap.size=gB at *
    obtain ⟨y0,y1,y2,y3,y4,y5⟩:=HX2.out.cells HN.out.1 HN.out.2
    clear e0 e1 e2 e3 e4 e5
    by_cases h1:R1=0
    ·subst h1
     have HE:=Qh (HD.out.2 rfl)
     go_wp2_with (go_at_call 69;(with_reducible refine HCl.out.mono ?_);rintro e w' ⟨rfl,hb4⟩;have HB4:=Qh (Qt HB3.out hb4);clear hb4)
     go_roundw
     case rel=>exact ⟨i+1,rfl,HLT.out,Qh ⟨HE.out,HB4.out⟩⟩
     case measure=>
      have:=HLT.out
      show ((L:Int) - ((i:Int)+1)).toNat<((L:Int) - (i:Int)).toNat
      omega
    ·have h1b:(R1 != 0)=true:=by simpa using h1
     have HE:=Qh (HD.out.1 h1)
     clear h1
     go_wp2_with (go_at_call 69;(with_reducible refine HCl.out.mono ?_);rintro e w' ⟨rfl,hb4⟩;have HB4:=Qh (Qt HB3.out hb4);clear hb4)
     go_ret
     exact ⟨by rw [←HE.out];rfl,HB4.out⟩
   ·have ei:i=L:=by omega
    subst ei
    have HE:=Qh (show (0:Int)=R∧Below w.heap.size w wr from by
     have h9:=HI.out
     rw [List.drop_of_length_le (by rw [HL.out];exact Nat.le_refl _)] at h9
     exact h9)
    clear hlt hi
    go_wp2
    go_ret
    exact ⟨by rw [←HE.out.1];rfl,HE.out.2⟩
 ·have h0b:(R0 != 0)=true:=by simpa using h0
  have HE:=Qh (HR.out.1 h0)
  clear h0
  go_wp2
  go_ret
  exact ⟨by rw [←HE.out];rfl,HB2.out⟩
theorem Check_any {w0 w:World} {t:Tm} {sl:Value} (h:TAt w w.heap.size t sl) (hU:UOk w0 w):Calls Tryd.prog 56 #[valT t sl] w fun e w'=>e = .returned (.int .i64 (checkP t))∧Below w.heap.size w w':=by
 obtain ⟨k,nl,ml,b,v,ts,nb,mb,A,c,rfl,rfl,hnb,hmb,hl1,hl2,hl3,hv,hs1,hs2⟩:=h.letters
 have hb1:Below w.heap.size w (w.alloc (.cells (Q5 k nb mb b v (.slice A ts.length c)) 25)):=Qb
 have HC:=Qh (Nodes_any (h.to hb1 hb1.size))
 have HN:=Qh (fun w2 (hb:Below _ (w.alloc (.cells (Q5 k nb mb b v (.slice A ts.length c)) 25)) w2)=>nodes_any w0 (.mk k nl ml b v ts) w2 (.slice A ts.length c) ((h.to hb1 hb1.size).to hb hb.size) ((hU.below hb1).below hb))
 rw [hv] at HC HN ⊢
 obtain ⟨n,hn⟩:∃ n,nodes (.mk k nl ml b v ts)=n:=⟨_,rfl⟩
 obtain ⟨E,hE⟩:∃ E,errsP (.mk k nl ml b v ts)=E:=⟨_,rfl⟩
 have hR:checkP (.mk k nl ml b v ts)=if 4000<n then 24 else E:=by rw [←hn,←hE];rfl
 have hnl:n≤4001:=by rw [←hn];unfold nodes;omega
 rw [hR]
 rw [hn] at HC
 rw [hE] at HN
 have hX:=TBox.new (ts:=ts) w (k:=k) (b:=b) (v:=v) (sl:=.slice A ts.length c) hnb hmb
 have HB:=Qh (Qa hb1 hX)
 have HM:=Qh (Qa hnb hmb)
 obtain ⟨x0,x1,x2,x3,x4,x5⟩:=hX.cells hnb hmb
 have hzI:(n:Int)≤4001:=by omega
 clear h hv hR hX hn hE hU hb1
 by_cases hz:4000<n
 ·have hzI:(4000:Int)<(n:Int):=by omega
  rw [if_pos hz]
  clear hz
  go_enter Tryd.func56,Tryd.ntmps56
  go_wp2_with (go_at_call 61;(with_reducible refine HC.out.mono ?_);rintro e w' ⟨rfl,hb3⟩;have HB3:=Qh (Qt HB.out.1 hb3);clear hb3)
  go_ret
  exact ⟨rfl,HB3.out⟩
 ·have hzI:¬(4000:Int)<(n:Int):=by omega
  rw [if_neg hz]
  clear hz
  go_enter Tryd.func56,Tryd.ntmps56
  go_wp2_with (first
   | (go_at_call 61;(with_reducible refine HC.out.mono ?_);rintro e w' ⟨rfl,hb3⟩;obtain ⟨y0,y1,y2,y3,y4,y5⟩:=(HB.out.2.below hb3).cells HM.out.1 HM.out.2;have HB3:=Qh (Qa (Qt HB.out.1 hb3) hb3);clear hb3)
   | (go_at_call 69;(with_reducible refine (HN.out _ HB3.out.2).mono ?_);rintro e w' ⟨rfl,hb4⟩;have HB4:=Qh (Qt HB3.out.1 hb4);clear hb4))
  go_ret
  exact ⟨rfl,HB4.out⟩
theorem RowP.elt {w:World} {P:Nat→Prop} {A:Option Addr} {n:Nat} {ps:List (Tm × Value)} (h:RowP w P A n ps) {i:Nat} {p:Tm × Value} (hp:ps[i]?=some p):∃ g o,A=some ⟨g,o,none⟩∧g<w.heap.size∧EltP w P g (o+i * 6) p.1:=by
 have hi:i<n:=by rw [←h.1];exact (List.getElem?_eq_some_iff.1 hp).1
 obtain ⟨g,o,e,hg,hc⟩:=h.2.2 (by omega)
 refine ⟨g,o,e,hg,p.2,fun j hj=>?_,h.2.1 p (List.mem_of_getElem? hp)⟩
 have hc2:=fl6_get hp hj
 have hlt:j<(cells6 p.1 p.2).length:=hj
 rw [List.getElem?_eq_getElem hlt] at hc2 ⊢
 rw [Nat.add_assoc]
 exact hc _ _ hc2
theorem EltP.at_ {w:World} {P:Nat→Prop} {g o:Nat} {a:Tm} (h:EltP w P g o a) (hP:∀ b,P b→b<w.heap.size):EltAt w w.heap.size g o a:=by
 obtain ⟨sl,h1,h2⟩:=h
 exact ⟨sl,h1,h2.at_ hP⟩
theorem RowP.below {w w':World} {P:Nat→Prop} {A:Option Addr} {n:Nat} {ps:List (Tm × Value)} (h:RowP w P A n ps) (hb:Below w.heap.size w w') (hP:∀ b,P b→b<w.heap.size):RowP w' P A n ps:=
 ⟨h.1,fun p hp=>(h.2.1 p hp).below hb hP,fun hn=>by
  obtain ⟨g,o,e,hg,hc⟩:=h.2.2 hn
  exact ⟨g,o,e,Ql hg hb.size,fun j u hj=>(hb.cell (p:=⟨g,o+j,none⟩) hg).trans (hc j u hj)⟩⟩
abbrev checksP (l:List Tm):Int:=checks Lib.validD canonB floB l
theorem checks_drop {ts:List Tm} {i:Nat} {a:Tm} (ha:ts[i]?=some a) {R:Int} (h:checksP (ts.drop i)=R):(checkP a≠0→checkP a=R)∧(checkP a=0→checksP (ts.drop (i+1))=R):=by
 obtain ⟨hil,e⟩:=List.getElem?_eq_some_iff.1 ha
 rw [List.drop_eq_getElem_cons hil,e,checksP,checks] at h
 by_cases h0:check Lib.validD canonB floB a=0
 ·rw [if_neg (by simp [h0])] at h
  exact ⟨fun h1=>absurd h0 h1,fun _=>h⟩
 ·rw [if_pos h0] at h
  exact ⟨fun _=>h,fun h1=>absurd h1 h0⟩
def errV (c:Int):Value:=if c=0 then .nilIface else .iface 32 (.int .i64 c)
theorem checks_any {w0 w:World} {P:Nat→Prop} {A:Option Addr} {n c:Nat} {ps:List (Tm × Value)} (h:RowP w P A n ps) (hP:∀ b,P b→b<w.heap.size) (hn:n≤maxArgs) (hc:n≤c) (hU:UOk w0 w) :
  Calls Tryd.prog 57 #[.slice A n c] w fun e w'=>e = .returned (.int .i64 (checksP (ps.map (·.1))))∧Below w.heap.size w w':=by
 obtain ⟨R,hR⟩:∃ R,checksP (ps.map (·.1))=R:=⟨_,rfl⟩
 rw [hR]
 obtain ⟨ts,hts⟩:∃ ts,ps.map (·.1)=ts:=⟨_,rfl⟩
 rw [hts] at hR
 have HL:=Qh (show ts.length=n from by rw [←hts,List.length_map,h.1])
 have HH:=Qh (Qa h (Qa hP hts))
 have HU:=Qh hU
 have HR:=Qh hR
 have hnI:(n:Int)≤1759218604400:=by unfold maxArgs at hn;omega
 clear h hP hR hU hts
 go_enter Tryd.func57,Tryd.ntmps57
 go_upto_region 2 with fail
 go_loopw [8] (fun vi wr=>∃ i:Nat,vi = .int .i64 (i:Int)∧i≤n∧Hid (checksP (ts.drop i)=R∧Below w.heap.size w wr)) (fun vi _=>((n:Int) - intOf vi).toNat)
 case atStart=>exact ⟨0,rfl,Nat.zero_le _,Qh ⟨HR.out,Below.refl _ _⟩⟩
 case round=>
  obtain ⟨i,rfl,hi,HI⟩:=hrel
  by_cases hlt:i<n
  ·have hltI:(i:Int)<(n:Int):=by omega
   have hi0:(0:Int)≤(i:Int):=by omega
   obtain ⟨p,hp⟩:∃ p,ps[i]?=some p:=⟨_,List.getElem?_eq_getElem (by rw [HH.out.1.1];exact hlt)⟩
   have ha:ts[i]?=some p.1:=by rw [←HH.out.2.2,List.getElem?_map,hp];rfl
   obtain ⟨g,o,rfl,hgB,helt0⟩:=(HH.out.1.below HI.out.2 HH.out.2.1).elt hp
   have helt:=EltP.at_ helt0 (fun b hb=>Ql (HH.out.2.1 b hb) HI.out.2.size)
   have HD:=Qh (checks_drop ha HI.out.1)
   obtain ⟨pt,psl⟩:=p
   obtain ⟨A',c',k',n',m',b',v',ts',nb',mb',rfl,hnb',hmb',hta,e0,e1,e2,e3,e4,e5⟩:=EltAt.cells helt
   obtain ⟨q,hq⟩:∃ q,ts'.length=q:=⟨_,rfl⟩
   have HN:=Qh (Qa hnb' hmb')
   have HTA:=Qh hta
   have HLT:=Qh hlt
   have HQ:=Qh hq
   rw [hq] at e5
   clear helt helt0 hta hnb' hmb' ha hlt hi hq hp
   go_upto_region 4 with fail
   have HX2:=Qh (TBox.new (ts:=ts') wr (k:=k') (b:=b') (v:=v') (sl:=.slice A' q c') HN.out.1 HN.out.2)
   have hb3:Below wr.heap.size wr (wr.alloc (.cells (Q5 k' nb' mb' b' v' (.slice A' q c')) 25)):=Qb
   have HB3:=Qh (Qt HI.out.2 hb3)
   have HCl:=Qh (Check_any (HTA.out.to hb3 hb3.size) (HU.out.below HB3.out))
   rw [valT_mk HN.out.1 HN.out.2,HQ.out] at HCl
   obtain ⟨R1,hR1⟩:∃ R1,checkP (.mk k' n' m' b' v' ts')=R1:=⟨_,rfl⟩
   rw [hR1] at HCl HD
   clear hR1 hb3
   generalize wr.alloc (.cells (Q5 k' nb' mb' b' v' (.slice A' q c')) 25)=W2 at *
   generalize wr.heap.size=gB at *
   obtain ⟨y0,y1,y2,y3,y4,y5⟩:=HX2.out.cells HN.out.1 HN.out.2
   clear e0 e1 e2 e3 e4 e5
   by_cases h1:R1=0
   ·subst h1
    have HE:=Qh (HD.out.2 rfl)
    go_wp2_with (go_at_call 56;(with_reducible refine HCl.out.mono ?_);rintro e w' ⟨rfl,hb4⟩;have HB4:=Qh (Qt HB3.out hb4);clear hb4)
    go_roundw
    case rel=>exact ⟨i+1,rfl,HLT.out,Qh ⟨HE.out,HB4.out⟩⟩
    case measure=>
     have:=HLT.out
     show ((n:Int) - ((i:Int)+1)).toNat<((n:Int) - (i:Int)).toNat
     omega
   ·have h1b:(R1 != 0)=true:=by simpa using h1
    have HE:=Qh (HD.out.1 h1)
    have H1:=Qh h1
    clear h1
    go_wp2_with (go_at_call 56;(with_reducible refine HCl.out.mono ?_);rintro e w' ⟨rfl,hb4⟩;have HB4:=Qh (Qt HB3.out hb4);clear hb4)
    have h1:=H1.out
    go_ret
    exact ⟨by rw [←HE.out];rfl,HB4.out⟩
  ·have ei:i=n:=by omega
   subst ei
   have HE:=Qh (show (0:Int)=R∧Below w.heap.size w wr from by
    have h9:=HI.out
    rw [List.drop_of_length_le (by rw [HL.out];exact Nat.le_refl _)] at h9
    exact h9)
   clear hlt hi
   go_wp2
   go_ret
   exact ⟨by rw [←HE.out.1];rfl,HE.out.2⟩
theorem dcheck_any {w0 w:World} {P:Nat→Prop} {A:Option Addr} {n c:Nat} {ps:List (Tm × Value)} (h:RowP w P A n ps) (hP:∀ b,P b→b<w.heap.size) (hn:n≤maxArgs) (hc:n≤c) (hU:UOk w0 w) :
  Calls Tryd.prog 27 #[.slice A n c] w fun e w'=>e = .returned (errV (checksP (ps.map (·.1))))∧Below w.heap.size w w':=by
 obtain ⟨R,hR⟩:∃ R,checksP (ps.map (·.1))=R:=⟨_,rfl⟩
 rw [hR]
 obtain ⟨ts,hts⟩:∃ ts,ps.map (·.1)=ts:=⟨_,rfl⟩
 rw [hts] at hR
 have HL:=Qh (show ts.length=n from by rw [←hts,List.length_map,h.1])
 have HH:=Qh (Qa h (Qa hP hts))
 have HU:=Qh hU
 have HR:=Qh hR
 have hnI:(n:Int)≤1759218604400:=by unfold maxArgs at hn;omega
 clear h hP hR hU hts
 go_enter Tryd.func27,Tryd.ntmps27
 go_upto_region 2 with fail
 go_loopw [8] (fun vi wr=>∃ i:Nat,vi = .int .i64 (i:Int)∧i≤n∧Hid (checksP (ts.drop i)=R∧Below w.heap.size w wr)) (fun vi _=>((n:Int) - intOf vi).toNat)
 case atStart=>exact ⟨0,rfl,Nat.zero_le _,Qh ⟨HR.out,Below.refl _ _⟩⟩
 case round=>
  obtain ⟨i,rfl,hi,HI⟩:=hrel
  by_cases hlt:i<n
  ·have hltI:(i:Int)<(n:Int):=by omega
   have hi0:(0:Int)≤(i:Int):=by omega
   obtain ⟨p,hp⟩:∃ p,ps[i]?=some p:=⟨_,List.getElem?_eq_getElem (by rw [HH.out.1.1];exact hlt)⟩
   have ha:ts[i]?=some p.1:=by rw [←HH.out.2.2,List.getElem?_map,hp];rfl
   obtain ⟨g,o,rfl,hgB,helt0⟩:=(HH.out.1.below HI.out.2 HH.out.2.1).elt hp
   have helt:=EltP.at_ helt0 (fun b hb=>Ql (HH.out.2.1 b hb) HI.out.2.size)
   have HD:=Qh (checks_drop ha HI.out.1)
   obtain ⟨pt,psl⟩:=p
   obtain ⟨A',c',k',n',m',b',v',ts',nb',mb',rfl,hnb',hmb',hta,e0,e1,e2,e3,e4,e5⟩:=EltAt.cells helt
   obtain ⟨q,hq⟩:∃ q,ts'.length=q:=⟨_,rfl⟩
   have HN:=Qh (Qa hnb' hmb')
   have HTA:=Qh hta
   have HLT:=Qh hlt
   have HQ:=Qh hq
   rw [hq] at e5
   clear helt helt0 hta hnb' hmb' ha hlt hi hq hp
   go_upto_region 4 with fail
   have HX2:=Qh (TBox.new (ts:=ts') wr (k:=k') (b:=b') (v:=v') (sl:=.slice A' q c') HN.out.1 HN.out.2)
   have hb3:Below wr.heap.size wr (wr.alloc (.cells (Q5 k' nb' mb' b' v' (.slice A' q c')) 25)):=Qb
   have HB3:=Qh (Qt HI.out.2 hb3)
   have HCl:=Qh (Check_any (HTA.out.to hb3 hb3.size) (HU.out.below HB3.out))
   rw [valT_mk HN.out.1 HN.out.2,HQ.out] at HCl
   obtain ⟨R1,hR1⟩:∃ R1,checkP (.mk k' n' m' b' v' ts')=R1:=⟨_,rfl⟩
   rw [hR1] at HCl HD
   clear hR1 hb3
   generalize wr.alloc (.cells (Q5 k' nb' mb' b' v' (.slice A' q c')) 25)=W2 at *
   generalize wr.heap.size=gB at *
   obtain ⟨y0,y1,y2,y3,y4,y5⟩:=HX2.out.cells HN.out.1 HN.out.2
   clear e0 e1 e2 e3 e4 e5
   by_cases h1:R1=0
   ·subst h1
    have HE:=Qh (HD.out.2 rfl)
    go_wp2_with (go_at_call 56;(with_reducible refine HCl.out.mono ?_);rintro e w' ⟨rfl,hb4⟩;have HB4:=Qh (Qt HB3.out hb4);clear hb4)
    go_roundw
    case rel=>exact ⟨i+1,rfl,HLT.out,Qh ⟨HE.out,HB4.out⟩⟩
    case measure=>
     have:=HLT.out
     show ((n:Int) - ((i:Int)+1)).toNat<((n:Int) - (i:Int)).toNat
     omega
   ·have h1b:(R1 != 0)=true:=by simpa using h1
    have HE:=Qh (HD.out.1 h1)
    have H1:=Qh h1
    clear h1
    go_wp2_with (go_at_call 56;(with_reducible refine HCl.out.mono ?_);rintro e w' ⟨rfl,hb4⟩;have HB4:=Qh (Qt HB3.out hb4);clear hb4)
    have h1:=H1.out
    go_ret
    exact ⟨by rw [←HE.out,errV,if_neg h1];rfl,HB4.out⟩
  ·have ei:i=n:=by omega
   subst ei
   have HE:=Qh (show (0:Int)=R∧Below w.heap.size w wr from by
    have h9:=HI.out
    rw [List.drop_of_length_le (by rw [HL.out];exact Nat.le_refl _)] at h9
    exact h9)
   clear hlt hi
   go_wp2
   go_ret
   exact ⟨by rw [←HE.out.1];rfl,HE.out.2⟩
end Go.Proofs.YtgfeainpeplphaaDoor
namespace Go.Proofs.YtgfeainpeplphaaDoor
open Go.RowKit Hb Ht
theorem stray_as {t:Tm} (h:stray t=false) (hk:t.k≠5):t.as = []:=by
 unfold stray at h
 simp only [Bool.or_eq_false_iff] at h
 have h2:=h.2
 by_cases h0:t.as.length=0
 ·exact List.length_eq_zero_iff.1 h0
 ·simp [h0,hk] at h2
theorem bare_errs (t:Tm):errsP t=0→Bare t:=by
 refine Tm.ind (p:=fun t=>errsP t=0→Bare t) (fun k n m b v ts ih h=>?_) t
 obtain ⟨h1,h2⟩:=errs_iff.1 h
 obtain ⟨_,hs,_⟩:=one_iff.1 h1
 exact ⟨fun hk=>stray_as hs hk,Bares.of (fun a ha=>ih a ha (h2 a ha))⟩
theorem bare_check {t:Tm} (h:checkP t=0):Bare t:=bare_errs t (check_iff.1 h).2
theorem bare_cmp {s:List UInt8} {l:List Tm} (h:∀ a∈l,Bare a):Bare (cmpT s l):=⟨fun h=>absurd rfl h,Bares.of h⟩
theorem names_ok:Names Lib.validD:=by
 unfold Names
 decide +kernel
theorem check_kind {t:Tm} (h:checkP t=0):1≤t.k∧t.k≤5:=(one_iff.1 (check_one h)).1
theorem grown_below {w w':World} {r:Option Nat} (h:Below w.heap.size w w'):w.grownBy w' r:=⟨h.os,h.tape,h.output,h.size,fun j hj _=>h.block j hj⟩
theorem grown_trans {a b c:World} {r:Option Nat} (h:a.grownBy b r) (k:b.grownBy c r):a.grownBy c r:=
 ⟨k.os.trans h.os,k.tape.trans h.tape,k.output.trans h.output,Nat.le_trans h.size k.size,fun j hj hn=>(k.block j (Ql hj h.size) hn).trans (h.block j hj hn)⟩
theorem grown_cell {w w':World} {N:Nat} (h:w.grownBy w' (some N)) {p:Addr} (hp:p.block<w.heap.size) (hn:p.block≠N):w'.cell? p=w.cell? p:=
 Qc (h.block _ hp (fun e=>hn (by injection e)))
theorem UOk.grown {w0 w w':World} {N:Nat} (h:UOk w0 w) (hg:w.grownBy w' (some N)) (hN:w0.heap.size≤N):UOk w0 w':=
 ⟨h.bel.grown hg h.bel.size (Qg (by omega)),h.u0⟩
end Go.Proofs.YtgfeainpeplphaaDoor
namespace Ht
theorem elems_dot {m:List UInt8} {b v:Int} {x y:Tm} : elems (.mk 5 sDot m b v [x,y])=(x :: (elems y).1,(elems y).2):=by
 rw [elems,if_pos ⟨rfl,rfl⟩]
theorem elems_not {k b v:Int} {n m:List UInt8} {ts:List Tm} (h:¬(k=5∧n=sDot∧ts.length=2)):elems (.mk k n m b v ts)=([],.mk k n m b v ts):=by
 rw [elems.eq_def]
 split
 ·next k' n' m' b' v' x y e=>
  cases e
  rw [if_neg (fun hh=>h ⟨hh.1,hh.2,rfl⟩)]
 ·rfl
end Ht
namespace Go.Proofs.YtgfeainpeplphaaDoor
open Go.RowKit Hb Ht
attribute [local go_sem] Oper.semAt_some
def BallAt (w:World) (b:Nat) (t:Tm):Prop:=∃ sl,w.heap[b]?=some (.cells (cells6 t sl).toArray 85 (0,0))∧TAt w w.heap.size t sl
def Threw (e:Ending) (w':World) (t:Tm):Prop:=∃ b,e = .panicked [{ v:=.iface 82 (.pointer (some ⟨b,0,none⟩)),recovered:=false }]∧BallAt w' b t
theorem throw_any {w:World} {t:Tm} {sl:Value} (h:TAt w w.heap.size t sl):Calls Tryd.prog 31 #[valT t sl] w fun e w'=>Threw e w' t∧Below w.heap.size w w':=by
 obtain ⟨k,n,m,b,v,ts,nb,mb,A,c,rfl,rfl,hnb,hmb,hl1,hl2,hl3,hv,hs1,hs2⟩:=h.letters
 rw [hv]
 obtain ⟨L,hL⟩:∃ L,ts.length=L:=⟨_,rfl⟩
 rw [hL] at h ⊢
 have hX:=TBox.new (ts:=ts) w (k:=k) (b:=b) (v:=v) (sl:=.slice A L c) hnb hmb
 obtain ⟨x0,x1,x2,x3,x4,x5⟩:=hX.cells hnb hmb
 have HB:=Qh (show Below w.heap.size w ((w.alloc (.cells (Q5 k nb mb b v (.slice A L c)) 25)).alloc (.cells (Q5 k nb mb b v (.slice A L c)) 85)) from (Qb).alloc (by simp) _)
 have HT:=Qh (h.to HB.out HB.out.size)
 have HM:=Qh (Qa hnb hmb)
 clear h hv hX hnb hmb
 go_enter Tryd.func31,Tryd.ntmps31
 go_wp2
 refine ⟨rfl,⟨_,rfl,.slice A L c,?_,HT.out⟩,HB.out⟩
 have h9:=heap_alloc_new (w.alloc (.cells (Q5 k nb mb b v (.slice A L c)) 25)) (.cells (Q5 k nb mb b v (.slice A L c)) 85)
 rw [World.size_alloc] at h9
 obtain ⟨rfl,rfl⟩:=HM.out
 exact h9
theorem termown_fresh (t:Tm) (w:World) (sl:Value) (h:TAt w w.heap.size t sl):Calls Tryd.prog 72 #[valT t sl] w fun e w'=>∃ sl',e = .returned (valT t sl')∧FreshT w w' t sl'∧Below w.heap.size w w':=
 (termown_any t w sl h).mono fun e w' ⟨sl',he,ho,hb⟩=>⟨sl',he,ho.atP,hb⟩
def lenOf:Value→Nat
 | .slice _ n _=>n
 | _=>0
abbrev RowB (w:World) (B:Nat) (A:Option Addr) (n c:Nat) (ps:List (Tm × Value)):Prop:=TRow w B (fun b=>B≤b∧b<w.heap.size) A n c ps
theorem RowB.below {w w':World} {B n c:Nat} {A:Option Addr} {ps:List (Tm × Value)} (h:RowB w B A n c ps) (hb:Below w.heap.size w w'):RowB w' B A n c ps:=
 (h.keep hb (fun b hb=>hb.2)).wide (fun b hb2=>⟨hb2.1,Ql hb2.2 hb.size⟩)
theorem RowB.grown {w w':World} {B n c G:Nat} {A:Option Addr} {ps:List (Tm × Value)} (h:RowB w B A n c ps) (hg:w.grownBy w' (some G)) (hG:G<B):RowB w' B A n c ps:=
 (h.keepP (fun b h1 h2=>hg.block b h2 (fun e=>by injection e with e;omega)) (fun b hb=>hg.block b hb.2 (fun e=>by injection e with e;omega))).wide (fun b hb2=>⟨hb2.1,Ql hb2.2 hg.size⟩)
theorem wpList_app1 {ops:Array Oper} {rest:List Oper} {o:Oper} {a:Act} {Q:Exit→Act→World→Prop} {wr w3:World} {B n c q c5:Nat} {A A5:Option Addr} {ps:List (Tm × Value)} {k b v:Int} {nl ml:List UInt8} {ts:List Tm} {nb mb:ByteArray}
  (hgd:o.guard=none) (s x:Operand) (ho:o.op = .call { callee:=.builtin .append,args:=#[s,x],argTypes:=#[23,23] })
  (hs:a.eval s = .slice A n c) (hx:a.eval x = .slice (some ⟨w3.heap.size,0,none⟩) 1 1)
  (hrow:RowB wr B A n c ps) (hB:B≤wr.heap.size) (hw:Below wr.heap.size wr w3) (hf:FreshT wr w3 (.mk k nl ml b v ts) (.slice A5 q c5)) (hnb:(⟨nl.toArray⟩:ByteArray)=nb) (hmb:(⟨ml.toArray⟩:ByteArray)=mb) (hm:n+1≤maxArgs)
  (hh:∀ A' c' w',RowB w' B A' (n+1) c' (ps ++ [((.mk k nl ml b v ts:Tm),.slice A5 q c5)])→Below B wr w'→wr.heap.size≤w'.heap.size→wpList Tryd.prog ops Q rest (a.put o.dst (.slice A' (n+1) c')) w') :
  wpList Tryd.prog ops Q (o :: rest) a (w3.alloc (.cells (Q5 k nb mb b v (.slice A5 q c5)) 25)):=by
 have hb6:Below w3.heap.size w3 (w3.alloc (.cells (Q5 k nb mb b v (.slice A5 q c5)) 25)):=Qb
 have hbw:=Qt hw hb6
 have hrow6:=RowB.below hrow hbw
 have hnews:=heap_alloc_new w3 (.cells (Q5 k nb mb b v (.slice A5 q c5)) 25)
 have hnw:∀ j u,(fl6 [((.mk k nl ml b v ts:Tm),Value.slice A5 q c5)])[j]?=some u→(w3.alloc (.cells (Q5 k nb mb b v (.slice A5 q c5)) 25)).cell? ((⟨w3.heap.size,0,none⟩:Addr).add j)=some u:=fun j u hj=>by
  rw [add_zero',cell_of_row _ w3.heap.size j _ _ (0,0) hnews,←hj,←hnb,←hmb]
  simp [fl6,cells6,Tm.k,Tm.n,Tm.m,Tm.b,Tm.v]
 have hkid:TAtP (w3.alloc (.cells (Q5 k nb mb b v (.slice A5 q c5)) 25)) (fun b'=>(B≤b'∧b'<(w3.alloc (.cells (Q5 k nb mb b v (.slice A5 q c5)) 25)).heap.size)∧(Value.slice A n c).ownBlock≠some b') (.mk k nl ml b v ts) (.slice A5 q c5):=TAtP.keep _ hf (fun b' hb=>by
  have hwb:wr.heap.size≤b':=hb.1
  refine ⟨⟨⟨by omega,Ql hb.2 hb6.size⟩,?_⟩,hb6.block b' hb.2⟩
  rcases hrow.block with ⟨h1,_⟩ | ⟨g1,h1,h2,h3,h4⟩
  ·subst h1;simp [Value.ownBlock]
  ·rw [h4];intro e;injection e with e;omega)
 generalize w3.alloc (.cells (Q5 k nb mb b v (.slice A5 q c5)) 25)=w6 at *
 refine wpList_append_T hgd s x ho [((.mk k nl ml b v ts:Tm),Value.slice A5 q c5)] hs hrow6 (fun b hb=>hb.2) ⟨w3.heap.size,0,none⟩ 1 1 hx rfl (fun y hy=>by rw [List.mem_singleton.1 hy];exact hkid) hnw hm (by have:=hbw.size;omega) ?_
 intro A' c' w' hr hb hg
 exact hh A' c' w' (hr.wide (fun b hb2=>⟨hb2.1,Ql hb2.2 hg.size⟩)) ((hbw.mono hB).trans hb) (Nat.le_trans hbw.size hg.size)
structure El0 (w:World) (G:Nat) (A:Option Addr) (n c:Nat) (ps:List (Tm × Value)) (cur:Tm) (sl:Value) (wr:World):Prop where
 bel:Below w.heap.size w wr
 le:G+1+1≤wr.heap.size
 t1:TBox wr G cur sl
 t2:TBox wr (G+1) zeroT (.slice none 0 0)
 row:RowB wr (G+1+1) A n c ps
theorem El0.app {w wr w6:World} {G n c n' c':Nat} {A A':Option Addr} {ps ps':List (Tm × Value)} {cur:Tm} {sl:Value} (h:El0 w G A n c ps cur sl wr) (hG:w.heap.size=G) (hr:RowB w6 (G+1+1) A' n' c' ps') (hb:Below (G+1+1) wr w6):El0 w G A' n' c' ps' cur sl w6:=
 ⟨h.bel.trans (hb.mono (by omega)),Nat.le_trans h.le hb.size,(hb.block G (by omega)).trans h.t1,(hb.block (G+1) (by omega)).trans h.t2,hr⟩
theorem El0.below {w wr w6:World} {G n c:Nat} {A:Option Addr} {ps:List (Tm × Value)} {cur:Tm} {sl:Value} (h:El0 w G A n c ps cur sl wr) (hb:Below wr.heap.size wr w6):El0 w G A n c ps cur sl w6:=
 ⟨Qt h.bel hb,Nat.le_trans h.le hb.size,h.t1.below hb,h.t2.below hb,RowB.below h.row hb⟩
theorem El0.set {w wr w6:World} {G n c:Nat} {A:Option Addr} {ps:List (Tm × Value)} {cur cur':Tm} {sl sl':Value} (h:El0 w G A n c ps cur sl wr) (hG:w.heap.size=G) (hbx:TBox w6 G cur' sl') (hg:wr.grownBy w6 (some G)):El0 w G A n c ps cur' sl' w6:=
 ⟨h.bel.grown hg h.bel.size (Qg (by omega)),Nat.le_trans h.le hg.size,hbx,(hg.block (G+1) h.t2.lt (fun e=>by injection e with e;omega)).trans h.t2,RowB.grown h.row hg (by omega)⟩
theorem el_len {T cur:Tm} {ps:List (Tm × Value)} {n:Nat} (h:elems T=(ps.map (·.1) ++ (elems cur).1,(elems cur).2)) (hn:ps.length=n):n+(elems cur).1.length=(elems T).1.length:=by
 rw [h,List.length_append,List.length_map,hn]
theorem Elements_any {w0 w:World} {t:Tm} {sl:Value} (h:TAt w w.heap.size t sl) (hU:UOk w0 w) (hc:checkP t=0) :
  Calls Tryd.prog 59 #[valT t sl] w fun e w'=>∃ A n c ps sl',e = .returned (.tuple #[.slice A n c,valT (elems t).2 sl',.int .i64 0])∧RowB w' w.heap.size A n c ps∧ps.map (·.1)=(elems t).1∧TAtP w' (fun b=>w.heap.size≤b∧b<w'.heap.size) (elems t).2 sl'∧n≤4000∧Below w.heap.size w w':=by
 obtain ⟨T,hT⟩:∃ T,t=T:=⟨_,rfl⟩
 have HLn:=Qh (show (elems T).1.length≤4000 by rw [←hT];have:=elems_len t;have:=(check_iff.1 hc).1;omega)
 rw [hT]
 obtain ⟨k,n,m,b,v,ts,nb,mb,A,c,hT2,rfl,hnb,hmb,hl1,hl2,hl3,hv,hs1,hs2⟩:=h.letters
 rw [hT] at hT2 hv h
 rw [hv]
 obtain ⟨L,hL⟩:∃ L,ts.length=L:=⟨_,rfl⟩
 rw [hL] at h ⊢
 obtain ⟨W1,hW1⟩:∃ W1,w.alloc (.cells (Q5 k nb mb b v (.slice A L c)) 25)=W1:=⟨_,rfl⟩
 obtain ⟨W2,hW2⟩:∃ W2,W1.alloc (.cells Qz 25)=W2:=⟨_,rfl⟩
 have hb1:Below w.heap.size w W1:=by rw [←hW1];exact Qb
 have s1:W1.heap.size=w.heap.size+1:=by rw [←hW1];simp
 have hb2:Below W1.heap.size W1 W2:=by rw [←hW2];exact Qb
 have s2:W2.heap.size=W1.heap.size+1:=by rw [←hW2];simp
 have hX1:TBox W1 w.heap.size (.mk k n m b v ts) (.slice A L c):=by rw [←hW1];exact TBox.new w hnb hmb
 have hX2:TBox W2 W1.heap.size zeroT (.slice none 0 0):=by rw [←hW2];exact heap_alloc_new W1 _
 have hX1':=hX1.below hb2
 rw [s1] at hX2
 obtain ⟨x0,x1,x2,x3,x4,x5⟩:=hX1'.cells hnb hmb
 have hb12:=hb1.trans (hb2.mono (by omega))
 have HI0:=Qh (show El0 w w.heap.size none 0 0 [] (.mk k n m b v ts) (.slice A L c) W2 from ⟨hb12,by omega,hX1',hX2,TRow.nil _ _ _⟩)
 rw [hT2] at h
 have HS0:=Qh (show TAt w w.heap.size (.mk k n m b v ts) (.slice A L c)∧elems T=(([]:List (Tm × Value)).map (·.1) ++ (elems (.mk k n m b v ts)).1,(elems (.mk k n m b v ts)).2) from ⟨h,by rw [hT2];rfl⟩)
 have HC:=Qh (Check_any (h.to HI0.out.bel HI0.out.bel.size) (hU.below HI0.out.bel))
 rw [show checkP (.mk k n m b v ts)=0 from by rw [←hT2,←hT];exact hc,valT_mk hnb hmb] at HC
 subst hW1
 subst hW2
 clear hv hX1 hX2 hX1' hb1 hb2 hb12 s1 s2 hT hT2 hs1 hs2 h
 go_enter Tryd.func59,Tryd.ntmps59
 go_upto_region 5 with (go_at_call 56;(with_reducible refine HC.out.mono ?_);rintro e W3 ⟨rfl,hb3⟩;have HB3:=Qh hb3;clear hb3)
 have HI1:=Qh (HI0.out.below HB3.out)
 clear HI0 HB3 HC x0 x1 x2 x3 x4 x5
 obtain ⟨G,hG⟩:∃ G,w.heap.size=G:=⟨_,rfl⟩
 have HG:=Qh hG
 rw [hG] at HI1 ⊢
 clear hG
 go_loopw [6] (fun vo wr=>∃ A n c ps cur sl,vo = .slice A n c∧Hid (El0 w G A n c ps cur sl wr∧TAt w w.heap.size cur sl∧elems T=(ps.map (·.1) ++ (elems cur).1,(elems cur).2))) (fun vo _=>4000 - lenOf vo)
 case atStart=>exact ⟨none,0,0,[],_,_,rfl,Qh ⟨HI1.out,HS0.out⟩⟩
 case round=>
  obtain ⟨A2,n2,c2,ps,cur,sl2,rfl,HI⟩:=hrel
  obtain ⟨k',n',m',b',v',ts',nb',mb',A',c',rfl,rfl,hnb',hmb',hm1,hm2,hm3,hv',hs1',hs2'⟩:=HI.out.2.1.letters
  obtain ⟨q,hq⟩:∃ q,ts'.length=q:=⟨_,rfl⟩
  rw [hq] at HI hm1 hm3
  have hqI:(q:Int)≤1759218604400:=by unfold maxArgs at hm3;omega
  obtain ⟨y0,y1,y2,y3,y4,y5⟩:=HI.out.1.t1.cells hnb' hmb'
  have HN:=Qh (Qa hnb' hmb')
  have hnl:nb'.toList=n':=by rw [ByteArray.toList_eq,←hnb']
  have HQ:=Qh hq
  by_cases hd:k'=5∧n'=sDot∧ts'.length=2
  ·obtain ⟨rfl,rfl,h2⟩:=hd
   have hq2:q=2:=by omega
   subst hq2
   obtain ⟨x,y,rfl⟩:∃ x y,ts' = [x,y]:=by
    match ts',h2 with
    | [x,y],_=>exact ⟨x,y,rfl⟩
   have s1:(nb'.toList == [46])=true:=by rw [hnl];rfl
   have hcu:=HI.out.2.1
   obtain ⟨g,o,rfl,hgw,ex0⟩:=hcu.arg (i:=0) (a:=x) rfl
   obtain ⟨g1,o1,e9,hg1,ey0⟩:=hcu.arg (i:=1) (a:=y) rfl
   cases e9
   have hbl:=HI.out.1.bel.block g hgw
   obtain ⟨A3,c3,k3,n3,m3,b3,v3,ts3,nb3,mb3,rfl,hnb3,hmb3,hta,e0,e1,e2,e3,e4,e5⟩:=EltAt.cells ex0
   obtain ⟨A4,c4,k4,n4,m4,b4,v4,ts4,nb4,mb4,rfl,hnb4,hmb4,htb,f0,f1,f2,f3,f4,f5⟩:=EltAt.cells ey0
   rw [Nat.zero_mul,Nat.add_zero] at e0 e1 e2 e3 e4 e5
   rw [Nat.one_mul] at f0 f1 f2 f3 f4 f5
   obtain ⟨q3,hq3⟩:∃ q,ts3.length=q:=⟨_,rfl⟩
   obtain ⟨q4,hq4⟩:∃ q,ts4.length=q:=⟨_,rfl⟩
   have HCl:=Qh (fresh_letters hnb3 hmb3 hq3 (termown_fresh _ wr _ (hta.to HI.out.1.bel HI.out.1.bel.size)))
   rw [valT_mk hnb3 hmb3,hq3] at HCl
   have HN3:=Qh (Qa hnb3 hmb3)
   have HN4:=Qh (Qa hnb4 hmb4)
   have hel:=elems_dot (m:=m') (b:=b') (v:=v') (x:=.mk k3 n3 m3 b3 v3 ts3) (y:=.mk k4 n4 m4 b4 v4 ts4)
   have HLt:=Qh (show n2<4000 by
    have h8:=el_len HI.out.2.2 HI.out.1.row.len
    rw [hel] at h8
    simp only [List.length_cons] at h8
    have:=HLn.out
    omega)
   rw [hq3] at e5
   rw [hq4] at f5 htb
   have HY2:=Qh (Qa htb (show elems T=((ps ++ [((.mk k3 n3 m3 b3 v3 ts3:Tm),Value.slice none 0 0)]).map (·.1) ++ (elems (.mk k4 n4 m4 b4 v4 ts4)).1,(elems (.mk k4 n4 m4 b4 v4 ts4)).2) from by
    have h9:=HI.out.2.2
    rw [hel] at h9
    rw [h9]
    simp))
   have HGW:=Qh (Qa hgw hbl)
   have HEf:=Qh (Qa f0 (Qa f1 (Qa f2 (Qa f3 (Qa f4 f5)))))
   have i0:=(Qc (a:=⟨g,o,none⟩) hbl).trans e0
   have i1:=(Qc (a:=⟨g,o+1,none⟩) hbl).trans e1
   have i2:=(Qc (a:=⟨g,o+2,none⟩) hbl).trans e2
   have i3:=(Qc (a:=⟨g,o+3,none⟩) hbl).trans e3
   have i4:=(Qc (a:=⟨g,o+4,none⟩) hbl).trans e4
   have i5:=(Qc (a:=⟨g,o+5,none⟩) hbl).trans e5
   clear ex0 ey0 hta htb hnb' hmb' hnb3 hmb3 hnb4 hmb4 hnl hq hq3 hq4 h2 hcu hgw hg1 hel hv' hs1' hs2' e0 e1 e2 e3 e4 e5 f0 f1 f2 f3 f4 f5 hbl
   go_wp2_with (first
    | (go_at_call 72;(with_reducible refine HCl.out.mono ?_);rintro e w3 ⟨A5,c5,rfl,hf5,hb5⟩;have HF5:=Qh (Qa hf5 hb5);clear hf5 hb5)
    | (at_builtin;refine wpList_app1 rfl _ _ rfl rfl rfl HI.out.1.row (by have:=HI.out.1.le;omega) HF5.out.2 HF5.out.1 HN3.out.1 HN3.out.2 (by have:=HLt.out;unfold maxArgs;omega) ?_;intro A6 c6 w6 hr6 hb6 hs6;have HE6:=Qh (HI.out.1.app HG.out hr6 hb6);have hgb:w6.heap[g]?=w.heap[g]?:=(hb6.block g (by have:=HGW.out.1;have:=HG.out;omega)).trans HGW.out.2;obtain ⟨f0,f1,f2,f3,f4,f5⟩:=HEf.out;have p0:=(Qc (a:=⟨g,o+6,none⟩) hgb).trans f0;have p1:=(Qc (a:=⟨g,o+6+1,none⟩) hgb).trans f1;have p2:=(Qc (a:=⟨g,o+6+2,none⟩) hgb).trans f2;have p3:=(Qc (a:=⟨g,o+6+3,none⟩) hgb).trans f3;have p4:=(Qc (a:=⟨g,o+6+4,none⟩) hgb).trans f4;have p5:=(Qc (a:=⟨g,o+6+5,none⟩) hgb).trans f5;obtain ⟨r0,r1,r2,r3,r4,r5⟩:=HE6.out.t1.cells HN.out.1 HN.out.2;obtain ⟨z0,z1,z2,z3,z4,z5⟩:=HE6.out.t1.frozens;clear f0 f1 f2 f3 f4 f5 hgb hr6 hb6 hs6))
   go_roundw
   case rel=>
    obtain ⟨hbx,hgr⟩:=HE6.out.t1.set6 (k:=k4) (b:=b4) (v:=v4) (n:=n4) (m:=m4) ts4 (.slice A4 q4 c4) HN4.out.1 HN4.out.2
    refine ⟨A6,n2+1,c6,_,_,_,rfl,Qh ⟨HE6.out.set HG.out hbx hgr,HY2.out.1,?_⟩⟩
    rw [HY2.out.2]
    simp
   case measure=>
    have:=HLt.out
    show 4000 - (n2+1)<4000 - n2
    omega
  ·have hel:=elems_not (m:=m') (b:=b') (v:=v') hd
   have h9:=HI.out.2.2
   rw [hel] at h9
   have HCl:=Qh (fresh_letters hnb' hmb' hq (termown_fresh _ wr _ (HI.out.2.1.to HI.out.1.bel HI.out.1.bel.size)))
   rw [valT_mk hnb' hmb'] at HCl
   have HE:=Qh (show elems T=(ps.map (·.1),.mk k' n' m' b' v' ts') from by rw [h9];simp)
   have HNn:=Qh (show n2≤4000 by have h8:=el_len HI.out.2.2 HI.out.1.row.len;have:=HLn.out;omega)
   have h3:(k'==5)=false∨(k'=5∧(nb'.toList == [46])=false)∨(k'=5∧(nb'.toList == [46])=true∧((q:Int)==2)=false):=by
    by_cases e1:k'=5
    ·by_cases e2:n'=sDot
     ·refine .inr (.inr ⟨e1,by rw [hnl,e2];rfl,beq_eq_false_iff_ne.2 (fun e=>hd ⟨e1,e2,by omega⟩)⟩)
     ·exact .inr (.inl ⟨e1,by rw [hnl];exact beq_eq_false_iff_ne.2 e2⟩)
    ·exact .inl (beq_eq_false_iff_ne.2 e1)
   clear h9 hel hd hnl hnb' hmb' hq hv' hs1' hs2'
   have h3:(k'==5)=false∨((k'==5)=true∧(nb'.toList == [46])=false)∨((k'==5)=true∧(nb'.toList == [46])=true∧((q:Int)==2)=false):=by
    rcases h3 with s0 | ⟨e5,s1⟩ | ⟨e5,s1,s2⟩
    ·exact .inl s0
    ·exact .inr (.inl ⟨by simp [e5],s1⟩)
    ·exact .inr (.inr ⟨by simp [e5],s1,s2⟩)
   rcases h3 with s0 | ⟨s0,s1⟩ | ⟨s0,s1,s2⟩
   all_goals
    go_wp2_with (go_at_call 72;(with_reducible refine HCl.out.mono ?_);rintro e w3 ⟨A5,c5,rfl,hf5,hb5⟩;have HI5:=Qh (HI.out.1.below hb5);have HF5:=Qh (Qa hf5 hb5);obtain ⟨u0,u1,u2,u3,u4,u5⟩:=HI5.out.t2.cells rfl rfl;obtain ⟨z0,z1,z2,z3,z4,z5⟩:=HI5.out.t2.frozens;clear hf5 hb5)
    obtain ⟨hbx,hgr⟩:=HI5.out.t2.set6 (k:=k') (b:=b') (v:=v') (n:=n') (m:=m') ts' (.slice A5 q c5) HN.out.1 HN.out.2
    generalize (((((w3.setCell ⟨G+1,0,none⟩ (.int .i64 k')).setCell ⟨G+1,1,none⟩ (.string nb')).setCell ⟨G+1,2,none⟩ (.string mb')).setCell ⟨G+1,3,none⟩ (.int .u64 b')).setCell ⟨G+1,4,none⟩ (.int .i64 v')).setCell ⟨G+1,5,none⟩ (.slice A5 q c5)=w6 at *
    obtain ⟨r0,r1,r2,r3,r4,r5⟩:=hbx.cells HN.out.1 HN.out.2
    have hG:=HG.out
    have hIle:=HI.out.1.le
    have hbel:=HI5.out.bel
    refine bodyPost_ret (v:=.tuple #[.slice A2 n2 c2,.agg (Q5 k' nb' mb' b' v' (.slice A5 q c5)),.int .i64 0]) (by simp [results,Tryd.results59,go_sem,r0,r1,r2,r3,r4,r5]) rfl ⟨A2,n2,c2,ps,.slice A5 q c5,?_,?_,?_,?_,HNn.out,?_⟩
    ·rw [HE.out,valT_mk HN.out.1 HN.out.2]
    ·refine ((HI5.out.row.keepP (w':=w6) (fun b h1 h2=>hgr.block b h2 (fun e=>by injection e with e;omega)) (fun b hb=>hgr.block b hb.2 (fun e=>by injection e with e;omega))).wide (fun b hb=>⟨by omega,Ql hb.2 hgr.size⟩)).lower (by omega)
    ·rw [HE.out]
    ·rw [HE.out]
     exact TAtP.keep _ HF5.out.1 (fun b hb=>⟨⟨by have:=hb.1;have:=HI.out.1.bel.size;omega,Ql hb.2 hgr.size⟩,hgr.block b hb.2 (fun e=>by injection e with e;have:=hb.1;omega)⟩)
    ·exact hbel.grown hgr hbel.size (Qg (by omega))
theorem rElements_any {w0 w:World} {t:Tm} {sl:Value} (h:TAt w w.heap.size t sl) (hz:sz t≤4000) :
  Calls Tryd.prog 66 #[valT t sl] w fun e w'=>∃ A n c ps sl',e = .returned (.tuple #[.slice A n c,valT (elems t).2 sl'])∧RowB w' w.heap.size A n c ps∧ps.map (·.1)=(elems t).1∧TAtP w' (fun b=>w.heap.size≤b∧b<w'.heap.size) (elems t).2 sl'∧n≤4000∧Below w.heap.size w w':=by
 obtain ⟨T,hT⟩:∃ T,t=T:=⟨_,rfl⟩
 have HLn:=Qh (show (elems T).1.length≤4000 by rw [←hT];have:=elems_len t;omega)
 rw [hT]
 obtain ⟨k,n,m,b,v,ts,nb,mb,A,c,hT2,rfl,hnb,hmb,hl1,hl2,hl3,hv,hs1,hs2⟩:=h.letters
 rw [hT] at hT2 hv h
 rw [hv]
 obtain ⟨L,hL⟩:∃ L,ts.length=L:=⟨_,rfl⟩
 rw [hL] at h ⊢
 obtain ⟨W1,hW1⟩:∃ W1,w.alloc (.cells (Q5 k nb mb b v (.slice A L c)) 25)=W1:=⟨_,rfl⟩
 obtain ⟨W2,hW2⟩:∃ W2,W1.alloc (.cells Qz 25)=W2:=⟨_,rfl⟩
 have hb1:Below w.heap.size w W1:=by rw [←hW1];exact Qb
 have s1:W1.heap.size=w.heap.size+1:=by rw [←hW1];simp
 have hb2:Below W1.heap.size W1 W2:=by rw [←hW2];exact Qb
 have s2:W2.heap.size=W1.heap.size+1:=by rw [←hW2];simp
 have hX1:TBox W1 w.heap.size (.mk k n m b v ts) (.slice A L c):=by rw [←hW1];exact TBox.new w hnb hmb
 have hX2:TBox W2 W1.heap.size zeroT (.slice none 0 0):=by rw [←hW2];exact heap_alloc_new W1 _
 have hX1':=hX1.below hb2
 rw [s1] at hX2
 obtain ⟨x0,x1,x2,x3,x4,x5⟩:=hX1'.cells hnb hmb
 have hb12:=hb1.trans (hb2.mono (by omega))
 have HI0:=Qh (show El0 w w.heap.size none 0 0 [] (.mk k n m b v ts) (.slice A L c) W2 from ⟨hb12,by omega,hX1',hX2,TRow.nil _ _ _⟩)
 rw [hT2] at h
 have HS0:=Qh (show TAt w w.heap.size (.mk k n m b v ts) (.slice A L c)∧elems T=(([]:List (Tm × Value)).map (·.1) ++ (elems (.mk k n m b v ts)).1,(elems (.mk k n m b v ts)).2) from ⟨h,by rw [hT2];rfl⟩)
 subst hW1
 subst hW2
 clear hv hX1 hX2 hX1' hb1 hb2 hb12 s1 s2 hT hT2 hs1 hs2 h
 go_enter Tryd.func66,Tryd.ntmps66
 go_upto_region 2 with fail
 have HI1:=HI0
 clear HI0 x0 x1 x2 x3 x4 x5
 obtain ⟨G,hG⟩:∃ G,w.heap.size=G:=⟨_,rfl⟩
 have HG:=Qh hG
 rw [hG] at HI1 ⊢
 clear hG
 go_loopw [4] (fun vo wr=>∃ A n c ps cur sl,vo = .slice A n c∧Hid (El0 w G A n c ps cur sl wr∧TAt w w.heap.size cur sl∧elems T=(ps.map (·.1) ++ (elems cur).1,(elems cur).2))) (fun vo _=>4000 - lenOf vo)
 case atStart=>exact ⟨none,0,0,[],_,_,rfl,Qh ⟨HI1.out,HS0.out⟩⟩
 case round=>
  obtain ⟨A2,n2,c2,ps,cur,sl2,rfl,HI⟩:=hrel
  obtain ⟨k',n',m',b',v',ts',nb',mb',A',c',rfl,rfl,hnb',hmb',hm1,hm2,hm3,hv',hs1',hs2'⟩:=HI.out.2.1.letters
  obtain ⟨q,hq⟩:∃ q,ts'.length=q:=⟨_,rfl⟩
  rw [hq] at HI hm1 hm3
  have hqI:(q:Int)≤1759218604400:=by unfold maxArgs at hm3;omega
  obtain ⟨y0,y1,y2,y3,y4,y5⟩:=HI.out.1.t1.cells hnb' hmb'
  have HN:=Qh (Qa hnb' hmb')
  have hnl:nb'.toList=n':=by rw [ByteArray.toList_eq,←hnb']
  have HQ:=Qh hq
  by_cases hd:k'=5∧n'=sDot∧ts'.length=2
  ·obtain ⟨rfl,rfl,h2⟩:=hd
   have hq2:q=2:=by omega
   subst hq2
   obtain ⟨x,y,rfl⟩:∃ x y,ts' = [x,y]:=by
    match ts',h2 with
    | [x,y],_=>exact ⟨x,y,rfl⟩
   have s1:(nb'.toList == [46])=true:=by rw [hnl];rfl
   have hcu:=HI.out.2.1
   obtain ⟨g,o,rfl,hgw,ex0⟩:=hcu.arg (i:=0) (a:=x) rfl
   obtain ⟨g1,o1,e9,hg1,ey0⟩:=hcu.arg (i:=1) (a:=y) rfl
   cases e9
   have hbl:=HI.out.1.bel.block g hgw
   obtain ⟨A3,c3,k3,n3,m3,b3,v3,ts3,nb3,mb3,rfl,hnb3,hmb3,hta,e0,e1,e2,e3,e4,e5⟩:=EltAt.cells ex0
   obtain ⟨A4,c4,k4,n4,m4,b4,v4,ts4,nb4,mb4,rfl,hnb4,hmb4,htb,f0,f1,f2,f3,f4,f5⟩:=EltAt.cells ey0
   rw [Nat.zero_mul,Nat.add_zero] at e0 e1 e2 e3 e4 e5
   rw [Nat.one_mul] at f0 f1 f2 f3 f4 f5
   obtain ⟨q3,hq3⟩:∃ q,ts3.length=q:=⟨_,rfl⟩
   obtain ⟨q4,hq4⟩:∃ q,ts4.length=q:=⟨_,rfl⟩
   have HCl:=Qh (fresh_letters hnb3 hmb3 hq3 (ROwn_any _ wr _ (hta.to HI.out.1.bel HI.out.1.bel.size)))
   rw [valT_mk hnb3 hmb3,hq3] at HCl
   have HN3:=Qh (Qa hnb3 hmb3)
   have HN4:=Qh (Qa hnb4 hmb4)
   have hel:=elems_dot (m:=m') (b:=b') (v:=v') (x:=.mk k3 n3 m3 b3 v3 ts3) (y:=.mk k4 n4 m4 b4 v4 ts4)
   have HLt:=Qh (show n2<4000 by
    have h8:=el_len HI.out.2.2 HI.out.1.row.len
    rw [hel] at h8
    simp only [List.length_cons] at h8
    have:=HLn.out
    omega)
   rw [hq3] at e5
   rw [hq4] at f5 htb
   have HY2:=Qh (Qa htb (show elems T=((ps ++ [((.mk k3 n3 m3 b3 v3 ts3:Tm),Value.slice none 0 0)]).map (·.1) ++ (elems (.mk k4 n4 m4 b4 v4 ts4)).1,(elems (.mk k4 n4 m4 b4 v4 ts4)).2) from by
    have h9:=HI.out.2.2
    rw [hel] at h9
    rw [h9]
    simp))
   have HGW:=Qh (Qa hgw hbl)
   have HEf:=Qh (Qa f0 (Qa f1 (Qa f2 (Qa f3 (Qa f4 f5)))))
   have i0:=(Qc (a:=⟨g,o,none⟩) hbl).trans e0
   have i1:=(Qc (a:=⟨g,o+1,none⟩) hbl).trans e1
   have i2:=(Qc (a:=⟨g,o+2,none⟩) hbl).trans e2
   have i3:=(Qc (a:=⟨g,o+3,none⟩) hbl).trans e3
   have i4:=(Qc (a:=⟨g,o+4,none⟩) hbl).trans e4
   have i5:=(Qc (a:=⟨g,o+5,none⟩) hbl).trans e5
   clear ex0 ey0 hta htb hnb' hmb' hnb3 hmb3 hnb4 hmb4 hnl hq hq3 hq4 h2 hcu hgw hg1 hel hv' hs1' hs2' e0 e1 e2 e3 e4 e5 f0 f1 f2 f3 f4 f5 hbl
   go_wp2_with (first
    | (go_at_call 8;(with_reducible refine HCl.out.mono ?_);rintro e w3 ⟨A5,c5,rfl,hf5,hb5⟩;have HF5:=Qh (Qa hf5 hb5);clear hf5 hb5)
    | (at_builtin;refine wpList_app1 rfl _ _ rfl rfl rfl HI.out.1.row (by have:=HI.out.1.le;omega) HF5.out.2 HF5.out.1 HN3.out.1 HN3.out.2 (by have:=HLt.out;unfold maxArgs;omega) ?_;intro A6 c6 w6 hr6 hb6 hs6;have HE6:=Qh (HI.out.1.app HG.out hr6 hb6);have hgb:w6.heap[g]?=w.heap[g]?:=(hb6.block g (by have:=HGW.out.1;have:=HG.out;omega)).trans HGW.out.2;obtain ⟨f0,f1,f2,f3,f4,f5⟩:=HEf.out;have p0:=(Qc (a:=⟨g,o+6,none⟩) hgb).trans f0;have p1:=(Qc (a:=⟨g,o+6+1,none⟩) hgb).trans f1;have p2:=(Qc (a:=⟨g,o+6+2,none⟩) hgb).trans f2;have p3:=(Qc (a:=⟨g,o+6+3,none⟩) hgb).trans f3;have p4:=(Qc (a:=⟨g,o+6+4,none⟩) hgb).trans f4;have p5:=(Qc (a:=⟨g,o+6+5,none⟩) hgb).trans f5;obtain ⟨r0,r1,r2,r3,r4,r5⟩:=HE6.out.t1.cells HN.out.1 HN.out.2;obtain ⟨z0,z1,z2,z3,z4,z5⟩:=HE6.out.t1.frozens;clear f0 f1 f2 f3 f4 f5 hgb hr6 hb6 hs6))
   go_roundw
   case rel=>
    obtain ⟨hbx,hgr⟩:=HE6.out.t1.set6 (k:=k4) (b:=b4) (v:=v4) (n:=n4) (m:=m4) ts4 (.slice A4 q4 c4) HN4.out.1 HN4.out.2
    refine ⟨A6,n2+1,c6,_,_,_,rfl,Qh ⟨HE6.out.set HG.out hbx hgr,HY2.out.1,?_⟩⟩
    rw [HY2.out.2]
    simp
   case measure=>
    have:=HLt.out
    show 4000 - (n2+1)<4000 - n2
    omega
  ·have hel:=elems_not (m:=m') (b:=b') (v:=v') hd
   have h9:=HI.out.2.2
   rw [hel] at h9
   have HCl:=Qh (fresh_letters hnb' hmb' hq (ROwn_any _ wr _ (HI.out.2.1.to HI.out.1.bel HI.out.1.bel.size)))
   rw [valT_mk hnb' hmb'] at HCl
   have HE:=Qh (show elems T=(ps.map (·.1),.mk k' n' m' b' v' ts') from by rw [h9];simp)
   have HNn:=Qh (show n2≤4000 by have h8:=el_len HI.out.2.2 HI.out.1.row.len;have:=HLn.out;omega)
   have h3:(k'==5)=false∨(k'=5∧(nb'.toList == [46])=false)∨(k'=5∧(nb'.toList == [46])=true∧((q:Int)==2)=false):=by
    by_cases e1:k'=5
    ·by_cases e2:n'=sDot
     ·refine .inr (.inr ⟨e1,by rw [hnl,e2];rfl,beq_eq_false_iff_ne.2 (fun e=>hd ⟨e1,e2,by omega⟩)⟩)
     ·exact .inr (.inl ⟨e1,by rw [hnl];exact beq_eq_false_iff_ne.2 e2⟩)
    ·exact .inl (beq_eq_false_iff_ne.2 e1)
   clear h9 hel hd hnl hnb' hmb' hq hv' hs1' hs2'
   have h3:(k'==5)=false∨((k'==5)=true∧(nb'.toList == [46])=false)∨((k'==5)=true∧(nb'.toList == [46])=true∧((q:Int)==2)=false):=by
    rcases h3 with s0 | ⟨e5,s1⟩ | ⟨e5,s1,s2⟩
    ·exact .inl s0
    ·exact .inr (.inl ⟨by simp [e5],s1⟩)
    ·exact .inr (.inr ⟨by simp [e5],s1,s2⟩)
   rcases h3 with s0 | ⟨s0,s1⟩ | ⟨s0,s1,s2⟩
   all_goals
    go_wp2_with (go_at_call 8;(with_reducible refine HCl.out.mono ?_);rintro e w3 ⟨A5,c5,rfl,hf5,hb5⟩;have HI5:=Qh (HI.out.1.below hb5);have HF5:=Qh (Qa hf5 hb5);obtain ⟨u0,u1,u2,u3,u4,u5⟩:=HI5.out.t2.cells rfl rfl;obtain ⟨z0,z1,z2,z3,z4,z5⟩:=HI5.out.t2.frozens;clear hf5 hb5)
    obtain ⟨hbx,hgr⟩:=HI5.out.t2.set6 (k:=k') (b:=b') (v:=v') (n:=n') (m:=m') ts' (.slice A5 q c5) HN.out.1 HN.out.2
    generalize (((((w3.setCell ⟨G+1,0,none⟩ (.int .i64 k')).setCell ⟨G+1,1,none⟩ (.string nb')).setCell ⟨G+1,2,none⟩ (.string mb')).setCell ⟨G+1,3,none⟩ (.int .u64 b')).setCell ⟨G+1,4,none⟩ (.int .i64 v')).setCell ⟨G+1,5,none⟩ (.slice A5 q c5)=w6 at *
    obtain ⟨r0,r1,r2,r3,r4,r5⟩:=hbx.cells HN.out.1 HN.out.2
    have hG:=HG.out
    have hIle:=HI.out.1.le
    have hbel:=HI5.out.bel
    refine bodyPost_ret (v:=.tuple #[.slice A2 n2 c2,.agg (Q5 k' nb' mb' b' v' (.slice A5 q c5))]) (by simp [results,Tryd.results66,go_sem,r0,r1,r2,r3,r4,r5]) rfl ⟨A2,n2,c2,ps,.slice A5 q c5,?_,?_,?_,?_,HNn.out,?_⟩
    ·rw [HE.out,valT_mk HN.out.1 HN.out.2]
    ·refine ((HI5.out.row.keepP (w':=w6) (fun b h1 h2=>hgr.block b h2 (fun e=>by injection e with e;omega)) (fun b hb=>hgr.block b hb.2 (fun e=>by injection e with e;omega))).wide (fun b hb=>⟨by omega,Ql hb.2 hgr.size⟩)).lower (by omega)
    ·rw [HE.out]
    ·rw [HE.out]
     exact TAtP.keep _ HF5.out.1 (fun b hb=>⟨⟨by have:=hb.1;have:=HI.out.1.bel.size;omega,Ql hb.2 hgr.size⟩,hgr.block b hb.2 (fun e=>by injection e with e;have:=hb.1;omega)⟩)
    ·exact hbel.grown hgr hbel.size (Qg (by omega))
theorem RowB.rowP {w:World} {B n c:Nat} {A:Option Addr} {ps:List (Tm × Value)} (h:RowB w B A n c ps):RowP w (fun b=>B≤b∧b<w.heap.size) A n ps:=by
 refine ⟨h.len,fun p hp=>(h.kid p hp).wide (fun b hb=>hb.1),fun hn=>?_⟩
 rcases h.block with ⟨_,h0⟩ | ⟨g,rfl,hB,hg,_⟩
 ·omega
 ·refine ⟨g,0,rfl,hg,fun j u hj=>?_⟩
  have h9:=World.ownsRow.cells h.own (g:=g) rfl _ _ hj
  rw [add_zero'] at h9
  rw [Nat.zero_add]
  exact h9
theorem RowB.lower' {w:World} {B B' n c:Nat} {A:Option Addr} {ps:List (Tm × Value)} (h:RowB w B A n c ps) (hB:B'≤B):RowB w B' A n c ps:=(TRow.lower h hB).wide (fun b hb=>⟨Nat.le_trans hB hb.1,hb.2⟩)
theorem built {w:World} {P:Nat→Prop} {ps:List (Tm × Value)} {cs:Array Value} {s:List UInt8} {n:Nat} (hcs:cs=(fl6 ps).toArray) (hn:ps.length=n) (hk:∀ p∈ps,TAtP w P p.1 p.2) (hP:∀ b,P b→b<w.heap.size) (hn2:n≤maxArgs) (hs:s.length≤maxLen) :
  TAtP (w.alloc (.cells cs 25)) (fun b=>P b∨b=w.heap.size) (cmpT s (ps.map (·.1))) (.slice (some ⟨w.heap.size,0,none⟩) n n):=by
 subst hcs hn
 have hb:Below w.heap.size w (w.alloc (.cells (fl6 ps).toArray 25)):=Qb
 have hr:=RowP.block (w:=w.alloc (.cells (fl6 ps).toArray 25)) (P:=fun b=>P b∨b=w.heap.size) (g:=w.heap.size) (ps:=ps) (heap_alloc_new w _) (fun p hp=>TAtP.keep _ (hk p hp) (fun b hb2=>⟨.inl hb2,hb.block b (hP b hb2)⟩))
 exact hr.term (t:=cmpT s (ps.map (·.1))) (fun g o _ e=>by injection e with e;injection e with e1 e2;exact .inr e1.symm) rfl (Nat.le_refl _) (by unfold maxArgs at hn2;unfold maxLen;omega) hn2 (okF_cmp hs)
theorem mem2 {α:Type} {p:α→Prop} {a b:α} (ha:p a) (hb:p b):∀ x ∈ [a,b],p x:=by
 intro x hx
 simp only [List.mem_cons,List.not_mem_nil,or_false] at hx
 rcases hx with rfl | rfl
 ·exact ha
 ·exact hb
theorem mem1 {α:Type} {p:α→Prop} {a:α} (ha:p a):∀ x ∈ [a],p x:=by
 intro x hx
 simp only [List.mem_cons,List.not_mem_nil,or_false] at hx
 rcases hx with rfl
 exact ha
def ListPost (w:World) (t:Tm) (e:Ending) (w':World):Prop:=
 ∃ A n c ps,e = .returned (.tuple #[.slice A n c,.bool (isNil (elems t).2)])∧RowB w' w.heap.size A n c ps∧ps.map (·.1)=(elems t).1∧n≤4000∧Below w.heap.size w w'
theorem list_any {w0 w:World} {t:Tm} {sl:Value} (h:TAt w w.heap.size t sl) (hU:UOk w0 w) (hc:checkP t=0):Calls Tryd.prog 34 #[valT t sl] w (ListPost w t):=by
 unfold ListPost
 obtain ⟨T,hT⟩:∃ T,t=T:=⟨_,rfl⟩
 obtain ⟨k,n,m,b,v,ts,nb,mb,A,c,hT2,rfl,hnb,hmb,hl1,hl2,hl3,hv,hs1,hs2⟩:=h.letters
 rw [hT] at hT2 hv h
 rw [hT,hv]
 obtain ⟨L,hL⟩:∃ L,ts.length=L:=⟨_,rfl⟩
 rw [hL] at h hv ⊢
 have hX:=TBox.new (ts:=ts) w (k:=k) (b:=b) (v:=v) (sl:=.slice A L c) hnb hmb
 obtain ⟨x0,x1,x2,x3,x4,x5⟩:=hX.cells hnb hmb
 have hB:Below w.heap.size w (w.alloc (.cells (Q5 k nb mb b v (.slice A L c)) 25)):=Qb
 have HC:=Qh (Elements_any (h.to hB hB.size) (hU.below hB) (by rw [←hT];exact hc))
 rw [hv] at HC
 have HB:=Qh hB
 clear h hv hX hnb hmb hB hT hT2 hs1 hs2
 go_enter Tryd.func34,Tryd.ntmps34
 go_wp2_with fail
 (with_reducible refine HC.out.mono ?_)
 rintro e w1 ⟨A1,n1,c1,ps,sl',rfl,hr,hps,hta,hn,hb1⟩
 obtain ⟨k',n',m',b',v',ts',nb',mb',A',c',hE,rfl,hnb',hmb',hm1,hm2,hm3,hv',hs1',hs2'⟩:=hta.letters
 have HE:=Qh (show isNil (elems T).2=(decide (k'=2) && decide (n'=sNil)) from by rw [hE];rfl)
 rw [hv']
 have HR:=Qh (Qa hr (Qa hps (Qa hn (Qt HB.out hb1))))
 have hnl:nb'.toList=n':=by rw [ByteArray.toList_eq,←hnb']
 have hX:=TBox.new (ts:=ts') w1 (k:=k') (b:=b') (v:=v') (sl:=.slice A' ts'.length c') hnb' hmb'
 obtain ⟨y0,y1,y2,y3,y4,y5⟩:=hX.cells hnb' hmb'
 have hb2:Below w1.heap.size w1 (w1.alloc (.cells (Q5 k' nb' mb' b' v' (.slice A' ts'.length c')) 25)):=Qb
 have HE2:=Qh (show ∀ q,RowB ((w1.alloc (.cells (Q5 k' nb' mb' b' v' (.slice A' ts'.length c')) 25)).drewN q) w.heap.size A1 n1 c1 ps∧Below w.heap.size w ((w1.alloc (.cells (Q5 k' nb' mb' b' v' (.slice A' ts'.length c')) 25)).drewN q) from fun q=>
  ⟨(RowB.below (RowB.lower' HR.out.1 HB.out.size) (belowN hb2 q)),HR.out.2.2.2.trans ((belowN hb2 q).mono HR.out.2.2.2.size)⟩)
 generalize ts'.length=q' at *
 clear hr hps hta hn hb1 hE hnb' hmb' hv' hs1' hs2' hX hb2
 by_cases h1:k'=2
 ·subst h1
  by_cases h2:n'=sNil
  ·have s1:(nb'.toList == [91,93])=true:=by rw [hnl,h2];rfl
   have HF:=Qh (show isNil (elems T).2=true from by rw [HE.out,decide_eq_true h2];rfl)
   clear h2 hnl
   go_upto_region 2 with fail
   go_quiet (fail)
   go_wp2
   go_ret2
   exact ⟨A1,n1,c1,ps,by rw [HF.out];rfl,(HE2.out _).1,HR.out.2.1,HR.out.2.2.1,(HE2.out _).2⟩
  ·have s1:(nb'.toList == [91,93])=false:=by rw [hnl];exact beq_eq_false_iff_ne.2 h2
   have HF:=Qh (show isNil (elems T).2=false from by rw [HE.out,decide_eq_false h2];rfl)
   clear h2 hnl
   go_upto_region 2 with fail
   go_quiet (fail)
   go_wp2
   go_ret2
   exact ⟨A1,n1,c1,ps,by rw [HF.out];rfl,(HE2.out _).1,HR.out.2.1,HR.out.2.2.1,(HE2.out _).2⟩
 ·have s0:(k'==2)=false:=beq_eq_false_iff_ne.2 h1
  have HF:=Qh (show isNil (elems T).2=false from by rw [HE.out,decide_eq_false h1];rfl)
  clear h1 hnl
  go_upto_region 2 with fail
  go_quiet (fail)
  go_wp2
  go_ret2
  exact ⟨A1,n1,c1,ps,by rw [HF.out];rfl,(HE2.out _).1,HR.out.2.1,HR.out.2.2.1,(HE2.out _).2⟩
theorem rlist_any {w0 w:World} {t:Tm} {sl:Value} (h:TAt w w.heap.size t sl) (hz:sz t≤4000):Calls Tryd.prog 46 #[valT t sl] w (ListPost w t):=by
 unfold ListPost
 obtain ⟨T,hT⟩:∃ T,t=T:=⟨_,rfl⟩
 obtain ⟨k,n,m,b,v,ts,nb,mb,A,c,hT2,rfl,hnb,hmb,hl1,hl2,hl3,hv,hs1,hs2⟩:=h.letters
 rw [hT] at hT2 hv h
 rw [hT,hv]
 obtain ⟨L,hL⟩:∃ L,ts.length=L:=⟨_,rfl⟩
 rw [hL] at h hv ⊢
 have hX:=TBox.new (ts:=ts) w (k:=k) (b:=b) (v:=v) (sl:=.slice A L c) hnb hmb
 obtain ⟨x0,x1,x2,x3,x4,x5⟩:=hX.cells hnb hmb
 have hB:Below w.heap.size w (w.alloc (.cells (Q5 k nb mb b v (.slice A L c)) 25)):=Qb
 have HC:=Qh (rElements_any (w0:=w0) (h.to hB hB.size) (by rw [←hT];exact hz))
 rw [hv] at HC
 have HB:=Qh hB
 clear h hv hX hnb hmb hB hT hT2 hs1 hs2
 go_enter Tryd.func46,Tryd.ntmps46
 go_wp2_with fail
 (with_reducible refine HC.out.mono ?_)
 rintro e w1 ⟨A1,n1,c1,ps,sl',rfl,hr,hps,hta,hn,hb1⟩
 obtain ⟨k',n',m',b',v',ts',nb',mb',A',c',hE,rfl,hnb',hmb',hm1,hm2,hm3,hv',hs1',hs2'⟩:=hta.letters
 have HE:=Qh (show isNil (elems T).2=(decide (k'=2) && decide (n'=sNil)) from by rw [hE];rfl)
 rw [hv']
 have HR:=Qh (Qa hr (Qa hps (Qa hn (Qt HB.out hb1))))
 have hnl:nb'.toList=n':=by rw [ByteArray.toList_eq,←hnb']
 have hX:=TBox.new (ts:=ts') w1 (k:=k') (b:=b') (v:=v') (sl:=.slice A' ts'.length c') hnb' hmb'
 obtain ⟨y0,y1,y2,y3,y4,y5⟩:=hX.cells hnb' hmb'
 have hb2:Below w1.heap.size w1 (w1.alloc (.cells (Q5 k' nb' mb' b' v' (.slice A' ts'.length c')) 25)):=Qb
 have HE2:=Qh (show ∀ q,RowB ((w1.alloc (.cells (Q5 k' nb' mb' b' v' (.slice A' ts'.length c')) 25)).drewN q) w.heap.size A1 n1 c1 ps∧Below w.heap.size w ((w1.alloc (.cells (Q5 k' nb' mb' b' v' (.slice A' ts'.length c')) 25)).drewN q) from fun q=>
  ⟨(RowB.below (RowB.lower' HR.out.1 HB.out.size) (belowN hb2 q)),HR.out.2.2.2.trans ((belowN hb2 q).mono HR.out.2.2.2.size)⟩)
 generalize ts'.length=q' at *
 clear hr hps hta hn hb1 hE hnb' hmb' hv' hs1' hs2' hX hb2
 by_cases h1:k'=2
 ·subst h1
  by_cases h2:n'=sNil
  ·have s1:(nb'.toList == [91,93])=true:=by rw [hnl,h2];rfl
   have HF:=Qh (show isNil (elems T).2=true from by rw [HE.out,decide_eq_true h2];rfl)
   clear h2 hnl
   go_upto_region 2 with fail
   go_quiet (fail)
   go_wp2
   go_ret2
   exact ⟨A1,n1,c1,ps,by rw [HF.out];rfl,(HE2.out _).1,HR.out.2.1,HR.out.2.2.1,(HE2.out _).2⟩
  ·have s1:(nb'.toList == [91,93])=false:=by rw [hnl];exact beq_eq_false_iff_ne.2 h2
   have HF:=Qh (show isNil (elems T).2=false from by rw [HE.out,decide_eq_false h2];rfl)
   clear h2 hnl
   go_upto_region 2 with fail
   go_quiet (fail)
   go_wp2
   go_ret2
   exact ⟨A1,n1,c1,ps,by rw [HF.out];rfl,(HE2.out _).1,HR.out.2.1,HR.out.2.2.1,(HE2.out _).2⟩
 ·have s0:(k'==2)=false:=beq_eq_false_iff_ne.2 h1
  have HF:=Qh (show isNil (elems T).2=false from by rw [HE.out,decide_eq_false h1];rfl)
  clear h1 hnl
  go_upto_region 2 with fail
  go_quiet (fail)
  go_wp2
  go_ret2
  exact ⟨A1,n1,c1,ps,by rw [HF.out];rfl,(HE2.out _).1,HR.out.2.1,HR.out.2.2.1,(HE2.out _).2⟩
end Go.Proofs.YtgfeainpeplphaaDoor
