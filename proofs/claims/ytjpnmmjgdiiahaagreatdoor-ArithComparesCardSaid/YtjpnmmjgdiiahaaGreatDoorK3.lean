import Derived.Shelf.Small.Bits
import Derived.Test.YtjpnmmjgdiiahaaGreatDoorRows
import Derived.WalkKit
import Derived.Deep.QuietTactic
import Derived.BigQuiet
import Derived.Deep.RegionHeld3
import Derived.Deep.DrawnRows
import Derived.Deep.DeepCutAuto
import Derived.Deep.CutBlock
import Derived.Laws.BytesArg
import Derived.Laws.AppendOwnNone
import Derived.ProofKit
import Derived.OpenShut
import Derived.JoinedCond
import Derived.JoinedOf
import Derived.JoinedAt
import Derived.ChangeSame
import Derived.ChangeSlices
import Derived.RowKit3
import Derived.Carry
import Derived.Lib.SmallJoins
import Derived.Deep.LoopGhost
import Derived.Maps.AppendAt
import Derived.IntWalk
import Derived.StillTailTactics
import Derived.Test.YtjpnmmjgdiiahaaGreatDoorK1
import Derived.Test.YtjpnmmjgdiiahaaGreatDoorK2
set_option linter.unusedVariables false
set_option linter.unusedSimpArgs false
namespace Go.Proofs.YtjpnmmjgdiiahaaGreatDoor
section
open Go.Shelf
def Tryz.lays128_ren:Go.Shelf.Ren:=⟨fun | 128=>74 | n=>n,fun | 51=>79 | 3=>3 | 4=>4 | 46=>80 | 5=>5 | 9=>9 | n=>n,fun | n=>n⟩
theorem Tryz.lays128:Go.Proofs.Lays.n128 Tryz.prog Tryz.lays128_ren:={
 mixed:=by kernel_rfl
 f128:=Tryz.func74.trans (congrArg some (by kernel_rfl))
 t3:=Tryz.underlying3
 a3:=Tryz.isAgg3
 z3:=Tryz.sizeOf3
 v3:=Tryz.zeroValue3
 t4:=Tryz.underlying4
 a4:=Tryz.isAgg4
 z4:=Tryz.sizeOf4
 v4:=Tryz.zeroValue4
 t5:=Tryz.underlying5
 a5:=Tryz.isAgg5
 z5:=Tryz.sizeOf5
 v5:=Tryz.zeroValue5
 t9:=Tryz.underlying9
 a9:=Tryz.isAgg9
 z9:=Tryz.sizeOf9
 v9:=Tryz.zeroValue9
 t46:=Tryz.underlying80
 a46:=Tryz.isAgg80
 z46:=Tryz.sizeOf80
 v46:=Tryz.zeroValue80
 t51:=Tryz.underlying79
 a51:=Tryz.isAgg79
 z51:=Tryz.sizeOf79
 v51:=Tryz.zeroValue79 }
theorem Tryz.bits_Len32 (x:Int) (w:World) (h0:0≤x) (h1:x≤4294967295) :
  Calls Tryz.prog 74 #[.int .u32 x] w fun e w'=>e = .returned (.int .i64 (Lib.bitLen x.toNat))∧w'=w:=Any.bits_Len32 Tryz.lays128 x w h0 h1
end
section
open Go.RowKit Hb
theorem ret_eq {v u:Value} (h:v=u):Ending.returned v=Ending.returned u:=by rw [h]
theorem ret_int {k:IntKind} {a b:Int} (h:a=b):Ending.returned (.int k a) = .returned (.int k b):=by rw [h]
theorem infoU:(Tryz.prog.info? 79).map (fun i=>(i.zero,i.size,i.bytes))=some (some (.int .u32 0),1,4):=by kernel_rfl
theorem infoI:(Tryz.prog.info? 3).map (fun i=>(i.zero,i.size,i.bytes))=some (some (.int .i64 0),1,8):=by kernel_rfl
theorem sizeU:(Tryz.prog.info? 79).map (·.size)=some 1:=by kernel_rfl
abbrev OwnU:=Own 79
theorem makeU (n:Nat) (hn:n≤4294967296) (w:World):(Instr.makeSlice 37 (.int .i64 (n:Int)) (.int .i64 (n:Int))).run Tryz.prog w = .ok (.slice (some ⟨w.heap.size,0,none⟩) n n) (w.alloc (.cells (madeCells #[.int .u32 0] n) 79)):=
 run_make_row' 37 79 (.int .u32 0) 4 Tryz.underlying37 infoU rfl .i64 .i64 n (by omega) (by omega) w
theorem makeI (n:Nat) (hn:n≤4294967296) (w:World):(Instr.makeSlice 57 (.int .i64 (n:Int)) (.int .i64 (n:Int))).run Tryz.prog w = .ok (.slice (some ⟨w.heap.size,0,none⟩) n n) (w.alloc (.cells (madeCells #[.int .i64 0] n) 3)):=
 run_make_row' 57 3 (.int .i64 0) 8 Tryz.underlying57 infoI rfl .i64 .i64 n (by omega) (by omega) w
set_option maxHeartbeats 400000 in
theorem trim_any {B:Nat} {A:Option Addr} {l:List Nat} {n c:Nat} {w:World} (hs:SlU w B A n c l) :
  Calls Tryz.prog 41 #[.slice A n c] w fun e w'=>e = .returned (.slice A (tlen l) c)∧w=w':=by
 have hm:=hs.max
 have hc:=hs.cap
 have hlen:=hs.len
 unfold maxLen at hm
 have ht:=tlen_le l
 have hn1:n≤l.length:=by omega
 have hn2:l.length≤n:=by omega
 clear hlen
 go_enter Tryz.func41,Tryz.ntmps41
 go_wp2
 go_loop [0] (fun s=>∃ k:Nat,k≤n∧tlen l≤k∧s = .slice A k c) (fun s=>match s with | .slice _ k _=>k | _=>0)
 case atStart=>exact ⟨n,by omega,by omega,rfl⟩
 case round=>
  obtain ⟨k,hk,hkl,rfl⟩:=hrel
  by_cases h0:k=0
  ·subst h0
   go_wp2
   go_ret
   exact ⟨ret_eq (by rw [show tlen l=0 by omega];rfl),rfl⟩
  ·obtain ⟨b,o,rfl,_,hcell⟩:=hs.at_ (by omega)
   have hx:=hcell (k - 1) (by omega)
   have hk1:1≤k:=by omega
   have hz1:=tlen_take_last (l:=l) (n:=k - 1) (by omega)
   have hz2:=fun h=>tlen_eq_of (l:=l) (n:=k) hkl (.inr h)
   generalize l.getD (k - 1) 0=x at hx hz1 hz2
   clear hcell hs
   by_cases hz:x=0
   ·have hlt:=hz1 hz
    subst hz
    clear hz1 hz2
    go_wp2
    go_round
    case rel=>exact ⟨k - 1,by omega,by omega,rfl⟩
    case measure=>show k - 1<k;omega
   ·have HZ:=Lib.hid (hz2 hz)
    have hb:((x:Int)==0)=false:=beq_eq_false_iff_ne.2 (by omega)
    clear hz1 hz2
    go_wp2
    go_ret
    exact ⟨ret_eq (by rw [HZ.out];rfl),rfl⟩
def FreshU (w:World) (l:List Nat) (e:Ending) (w':World):Prop:=
 ∃ A n c,e = .returned (.slice A n c)∧OwnU w' w.heap.size A n c (u32s l)∧l.length=n∧Below w.heap.size w w'
theorem madeU_block (w:World) (n:Nat):(w.alloc (.cells (madeCells #[Value.int .u32 0] n) 79)).heap[w.heap.size]?=some (.cells (madeCells #[Value.int .u32 0] n).toList.toArray 79 (0,0)):=by
 rw [Array.toArray_toList];exact heap_alloc_new w _
set_option maxHeartbeats 400000 in
theorem own_any {B:Nat} {A:Option Addr} {l:List Nat} {n c:Nat} {w:World} (hs:SlU w B A n c l) (hn:n≤4294967296) (hB:B≤w.heap.size) :
  Calls Tryz.prog 43 #[.slice A n c] w (FreshU w l):=by
 have hmk:=makeU n hn
 have HC:=Lib.hid (show (u32s l).length=Nat.min n n by rw [u32s_length,hs.len];exact (Nat.min_self n).symm)
 have hlen:(madeCells #[Value.int .u32 0] n).toList.length=n:=by simp [size_madeCells]
 have HF:=Lib.hid (show 0+(u32s l).length≤(madeCells #[Value.int .u32 0] n).toList.length by rw [hlen,u32s_length,hs.len];omega)
 have HE:=Lib.hid (show splice (madeCells #[Value.int .u32 0] n).toList 0 (u32s l)=u32s l by
  simp only [splice,List.take_zero,List.nil_append,Nat.zero_add]
  rw [List.drop_eq_nil_of_le (by rw [hlen,u32s_length,hs.len];omega),List.append_nil])
 have hpos:0<(u32s l).length→some (⟨w.heap.size,0,none⟩:Addr)=some ⟨w.heap.size,0,none⟩∧∃ ad,A=some ad∧∀ j v,(u32s l)[j]?=some v→(w.alloc (.cells (madeCells #[Value.int .u32 0] n) 79)).cell? (ad.add j)=some v:=by
  intro h
  obtain ⟨b,o,rfl,hb,hc⟩:=hs.rd (List.length_pos_iff.1 h)
  refine ⟨rfl,_,rfl,fun j v hj=>?_⟩
  rw [addr_add,World.cell?_alloc_past _ _ _ (by omega)]
  exact hc j v hj
 have HP:=Lib.hid hpos
 have HN:=Lib.hid hn
 have HL:=Lib.hid (show l.length≤maxLen by rw [hs.len];exact Nat.le_trans hs.cap hs.max)
 clear hpos hn hlen
 go_enter Tryz.func43,Tryz.ntmps43
 go_wp2_with (with_reducible refine wpList_copy_splice (o:=⟨some 9,_,_,_,_,_⟩) rfl (.tmp 7) (.tmp 8) 37 37 rfl 79 Tryz.underlying37 sizeU (some ⟨w.heap.size,0,none⟩) A n n n c rfl rfl w.heap.size 0 (madeCells #[.int .u32 0] n).toList 79 (madeU_block w n) (u32s l) HC.out HP.out HF.out (u32s_one l) w.heap.size w ((Below.refl _ _).alloc (Nat.le_refl _) _) (Nat.le_refl _) ?_)
 intro w1 hb1 hbel
 rw [HE.out] at hb1
 have hown:=Own.of_block (B:=w.heap.size) hb1.out (Nat.le_refl _) (by rw [u32s_length];exact HL.out)
 go_wp2
 go_ret
 rw [u32s_length,hs.len] at hown
 exact ⟨_,_,_,rfl,hown,hs.len,hbel⟩
theorem bitLenAux_blen (f:Nat):∀ x:Nat,x<2 ^ f→Lib.bitLenAux f x=blen x:=by
 induction f with
 | zero=>
      intro x h;obtain rfl:x=0:=by omega
      rw [blen_zero];rfl
 | succ f ih=>
  intro x h
  unfold Lib.bitLenAux
  by_cases h0:x=0
  ·subst h0;rw [if_pos rfl,blen_zero]
  ·rw [if_neg h0,ih (x / 2) (by rw [Nat.pow_succ] at h;omega),blen,blen,digs_pos (by omega) h0,List.length_cons,Nat.add_comm]
theorem bitLen_blen (x:Nat) (hx:x<4294967296):Lib.bitLen x=blen x:=
 bitLenAux_blen 64 x (Nat.lt_trans hx (by decide))
theorem len32_any (x:Nat) (w:World) (hx:x<4294967296) :
  Calls Tryz.prog 74 #[.int .u32 (x:Int)] w fun e w'=>e = .returned (.int .i64 (blen x))∧w=w':=
 (Tryz.bits_Len32 (x:Int) w (by omega) (by omega)).mono fun e w' ⟨he,hw⟩=>⟨by rw [he,Int.toNat_natCast,bitLen_blen x hx],hw.symm⟩
theorem blen32 {x:Nat} (hx:x<4294967296):blen x≤32:=blen_le_iff.2 hx
set_option maxHeartbeats 400000 in
theorem size_any {B:Nat} {A:Option Addr} {l:List Nat} {n c:Nat} {w:World} (hs:SlU w B A n c l) (hn:n≤35184372088832) :
  Calls Tryz.prog 38 #[.slice A n c] w fun e w'=>e = .returned (.int .i64 (blen (nv W l)))∧w=w':=by
 have ht:=tlen_le l
 have hlen:=hs.len
 have htn:tlen l≤35184372088832:=by omega
 have hi:=trim_any hs
 have HI:=Lib.hid hi
 clear hi
 by_cases h0:tlen l=0
 ·have HZ:=Lib.hid (show blen (nv W l)=0 by rw [(tlen_zero_iff (b:=W) (by decide) l).1 h0,blen_zero])
  rw [h0] at HI
  clear hlen ht htn hn h0
  go_enter Tryz.func38,Tryz.ntmps38
  go_wp2_with (go_at_call 41;refine HI.out.mono ?_;rintro e w' ⟨rfl,rfl⟩)
  go_ret
  exact ⟨ret_int (by rw [HZ.out];rfl),rfl⟩
 ·have HZ:=Lib.hid (blen_limbs hs.dig (by omega))
  obtain ⟨b,o,rfl,_,hcell⟩:=hs.at_ (by omega)
  have hx:=hcell (tlen l - 1) (by omega)
  have hd:=hs.dig.getD (by decide) (tlen l - 1)
  have hb32:=blen32 hd
  have HB:=Lib.hid (len32_any (l.getD (tlen l - 1) 0) w hd)
  generalize l.getD (tlen l - 1) 0=x at HB HZ hx hd hb32
  generalize hk:tlen l=k at HZ HI hx htn h0
  clear hcell hs hlen ht hn hd hk
  have hk1:1≤k:=by omega
  have hb:((k:Int)==0)=false:=beq_eq_false_iff_ne.2 (by omega)
  go_enter Tryz.func38,Tryz.ntmps38
  go_wp2_with (first | (go_at_call 41;refine HI.out.mono ?_;rintro e w' ⟨rfl,rfl⟩) | (go_at_call 74;refine HB.out.mono ?_;rintro e w' ⟨rfl,rfl⟩))
  go_ret
  exact ⟨ret_int (by rw [HZ.out];omega),rfl⟩
def sg (neg:Bool) (l:List Nat):Bool:=neg && decide (0<tlen l)
theorem sg_zero {neg:Bool} {l:List Nat} (h:tlen l=0):sg neg l=false:=by simp [sg,h]
theorem sg_pos {neg:Bool} {l:List Nat} (h:0<tlen l):sg neg l=neg:=by simp [sg,h]
set_option maxHeartbeats 400000 in
theorem laid_any (neg:Bool) {B:Nat} {A:Option Addr} {l:List Nat} {n c:Nat} {w:World} (hs:SlU w B A n c l) (hB:B≤w.heap.size) :
  Calls Tryz.prog 39 #[.bool neg,.slice A n c] w fun e w'=>e = .returned (.agg #[.bool (sg neg l),.slice A (tlen l) c])∧Below w.heap.size w w':=by
 have HI:=Lib.hid (fun w1 (hb:Below w.heap.size w w1)=>trim_any (hs.below (C:=w.heap.size) hb hB))
 have HB:=Lib.hid (Below.refl w.heap.size w)
 clear hs hB
 cases neg
 ·go_enter Tryz.func39,Tryz.ntmps39
  go_wp2_with (go_at_call 41;refine (HI.out _ (HB.out.alloc (Nat.le_refl _) _)).mono ?_;rintro e w' ⟨rfl,rfl⟩)
  exact bodyPost_ret (v:=.agg #[.bool false,.slice A (tlen l) c]) (by simp [results,Tryz.results39,go_sem]) rfl ⟨rfl,HB.out.alloc (Nat.le_refl _) _⟩
 ·by_cases h0:tlen l=0
  ·have HS:=Lib.hid (sg_zero (neg:=true) h0)
   rw [h0] at HI ⊢
   clear h0
   go_enter Tryz.func39,Tryz.ntmps39
   go_wp2_with (go_at_call 41;refine (HI.out _ (HB.out.alloc (Nat.le_refl _) _)).mono ?_;rintro e w' ⟨rfl,rfl⟩)
   exact bodyPost_ret (v:=.agg #[.bool false,.slice A 0 c]) (by simp [results,Tryz.results39,go_sem]) rfl ⟨by rw [HS.out],HB.out.alloc (Nat.le_refl _) _⟩
  ·have h1:0<tlen l:=by omega
   have HS:=Lib.hid (sg_pos (neg:=true) h1)
   generalize hk:tlen l=k at HI h1 ⊢
   clear h0 hk
   go_enter Tryz.func39,Tryz.ntmps39
   go_wp2_with (go_at_call 41;refine (HI.out _ (HB.out.alloc (Nat.le_refl _) _)).mono ?_;rintro e w' ⟨rfl,rfl⟩)
   exact bodyPost_ret (v:=.agg #[.bool true,.slice A k c]) (by simp [results,Tryz.results39,go_sem]) rfl ⟨by rw [HS.out],HB.out.alloc (Nat.le_refl _) _⟩
def ival (neg:Bool) (l:List Nat):Int:=if neg then -(nv W l:Int) else (nv W l:Int)
theorem ival_natAbs (neg:Bool) (l:List Nat):(ival neg l).natAbs=nv W l:=by unfold ival;split <;> omega
theorem ival_tr (neg:Bool) (l:List Nat):ival neg (tr l)=ival neg l:=by simp [ival,nv_tr]
theorem ival_sg (neg:Bool) (l:List Nat):decide (ival neg l<0)=sg neg l:=by
 have h:=tlen_zero_iff (b:=W) (by decide) l
 cases neg
 ·simp [ival,sg]
 ·by_cases h0:tlen l=0
  ·rw [sg_zero h0];simp [ival,h.1 h0]
  ·rw [sg_pos (by omega)]
   have:nv W l≠0:=fun e=>h0 (h.2 e)
   simp [ival];omega
def ResI (w:World) (B:Nat) (v:Value) (z:Int):Prop:=
 ∃ A c,v = .agg #[.bool (decide (z<0)),.slice A (digs W z.natAbs).length c]∧OwnU w B A (digs W z.natAbs).length c (u32s (digs W z.natAbs))
def PostI (w:World) (z:Int) (e:Ending) (w':World):Prop:=∃ v,e = .returned v∧ResI w' w.heap.size v z∧Below w.heap.size w w'
theorem ResI.mono {w:World} {B B':Nat} {v:Value} {z:Int} (h:ResI w B v z) (hB:B'≤B):ResI w B' v z:=by
 obtain ⟨A,c,hv,ho⟩:=h
 exact ⟨A,c,hv,ho.mono hB⟩
theorem ResI.zero (w:World) (B:Nat):ResI w B (.agg #[.bool false,.slice none 0 0]) 0:=
 ⟨none,0,by simp [digs_zero],by simp [digs_zero,u32s,Own,World.ownsRow_nil]⟩
theorem ResI.of_own {w w':World} {B:Nat} {A:Option Addr} {l:List Nat} {n c:Nat} (neg:Bool) (h:OwnU w B A n c (u32s l)) (hl:l.length=n) (hd:Dig W l) (hb:Below w.heap.size w w') :
  ResI w' B (.agg #[.bool (sg neg l),.slice A (tlen l) c]) (ival neg l):=by
 have ht:tlen l≤n:=by rw [←hl];exact tlen_le l
 have e:=tr_eq_digs (b:=W) (by decide) hd
 have e2:(digs W (nv W l)).length=tlen l:=by rw [←e,tr_length]
 refine ⟨A,c,by rw [ival_sg,ival_natAbs,e2],?_⟩
 rw [ival_natAbs,e2,←e]
 have:=(h.below hb (Nat.le_refl _)).take ht
 rwa [u32s_take] at this
theorem laid_own (neg:Bool) {B:Nat} {A:Option Addr} {l:List Nat} {n c:Nat} {w:World} (h:OwnU w B A n c (u32s l)) (hl:l.length=n) (hd:Dig W l) {z:Int} (hz:ival neg l=z) :
  Calls Tryz.prog 39 #[.bool neg,.slice A n c] w fun e w'=>∃ v,e = .returned v∧ResI w' B v z∧Below w.heap.size w w':=
 (laid_any neg (h.sl hd hl) (Nat.le_refl _)).mono fun e w' ⟨he,hb⟩=>⟨_,he,by rw [←hz];exact ResI.of_own neg h hl hd hb,hb⟩
theorem two_cells {w0 w2:World} {C g t:Nat} {x y:Value} (hb:Below C w0 w2) (h:w0.heap[g]?=some (.cells #[x,y] t (0,0))) (hg:g<C) :
  w2.cell? ⟨g,0,none⟩=some x∧w2.cell? ⟨g,1,none⟩=some y∧w2.frozen? ⟨g,0,none⟩=false∧w2.frozen? ⟨g,1,none⟩=false:=by
 have h2:=(hb.block g hg).trans h
 exact ⟨by rw [cell_of_row w2 g 0 _ t (0,0) h2];rfl,by rw [cell_of_row w2 g 1 _ t (0,0) h2];rfl,by simp [World.frozen?,h2],by simp [World.frozen?,h2]⟩
theorem heap_second (w:World) (a b:Obj):((w.alloc a).alloc b).heap[w.heap.size+1]?=some b:=by
 have:=heap_alloc_new (w.alloc a) b
 simpa using this
theorem heap_third (w:World) (a b c:Obj):(((w.alloc a).alloc b).alloc c).heap[w.heap.size+2]?=some c:=by
 have:=heap_alloc_new ((w.alloc a).alloc b) c
 simpa using this
theorem ResI.stored {w w2:World} {base g:Nat} {v u u':Value} {z:Int} (hr:ResI w2 base v z) (hb:Below w.heap.size w w2) (hg:g<base) (hwg:w.heap.size≤g) :
  ResI ((w2.setCell ⟨g,0,none⟩ u).setCell ⟨g,1,none⟩ u') w.heap.size v z∧Below w.heap.size w ((w2.setCell ⟨g,0,none⟩ u).setCell ⟨g,1,none⟩ u'):=by
 refine ⟨?_,(hb.setCell (by simpa using hwg) _).setCell (by simpa using hwg) _⟩
 obtain ⟨A,c,hv,ho⟩:=hr
 refine ⟨A,c,hv,((ho.mono (B':=w.heap.size) (by omega)).far ?_ _).far ?_ _⟩
 all_goals
  intro g' hA
  rcases ho.form with ⟨h1,_⟩ | ⟨g2,h1,h2,_⟩
  ·rw [h1] at hA;cases hA
  ·rw [h1] at hA
   injection hA with hA
   injection hA with hA
   simp;omega
theorem keepS {w1 w2:World} {C g:Nat} {u v:Value} (hb:Below C w1 w2) (hg:g<C) (h:w1.cell? ⟨g,0,none⟩=some u∧w1.cell? ⟨g,1,none⟩=some v) :
  w2.cell? ⟨g,0,none⟩=some u∧w2.cell? ⟨g,1,none⟩=some v:=
 ⟨(hb.cell (p:=⟨g,0,none⟩) hg).trans h.1,(hb.cell (p:=⟨g,1,none⟩) hg).trans h.2⟩
attribute [local go_sem ↓] Go.wp_at_zero Go.wp_at_succ
set_option maxHeartbeats 400000 in
theorem neg_any (neg:Bool) {B:Nat} {A:Option Addr} {l:List Nat} {n c:Nat} {w:World} (hs:SlU w B A n c l) (hn:n≤67108864) (hB:B≤w.heap.size) :
  Calls Tryz.prog 84 #[.agg #[.bool neg,.slice A n c]] w (PostI w (ival (!neg) l)):=by
 have ht:=tlen_le l
 have hlen:=hs.len
 have HI:=Lib.hid (fun w1 (hb:Below w.heap.size w w1)=>trim_any (hs.below (C:=w.heap.size) hb hB))
 have HO:=Lib.hid (fun w1 (hb:Below w.heap.size w w1)=>own_any ((hs.tr).below (C:=w.heap.size) hb hB) (by omega) (Nat.le_trans hB hb.size))
 have HB:=Lib.hid (Below.refl w.heap.size w)
 have HD:=Lib.hid hs.dig
 clear hs hB ht hlen hn
 go_enter Tryz.func84,Tryz.ntmps84
 go_wp2_with fail
 go_region_held3 (fun w'=>w'.cell? ⟨w.heap.size,0,none⟩=some (.bool neg)∧w'.cell? ⟨w.heap.size,1,none⟩=some (.slice A n c))
  (first | go_keep | exact keepS hb2 (by first | omega | (simp;omega)) (by assumption) | exact keepS hb1 (by first | omega | (simp;omega)) (by assumption))
  (first
   | (go_at_call 41;refine (HI.out _ ?_).mono ?_;(refine (Below.drew ?_);exact ((HB.out.alloc (Nat.le_refl _) _).alloc (by simp) _));rintro e w' ⟨rfl,rfl⟩)
   | (go_at_call 43;refine (HO.out _ ?_).mono ?_;(refine (Below.drew ?_);exact ((HB.out.alloc (Nat.le_refl _) _).alloc (by simp) _));rintro e w1 ⟨A1,n1,c1,rfl,ho1,hl1,hb1⟩;have hz1:=hb1.size;simp at hz1)
   | (go_at_call 39;refine (laid_own (!neg) ho1 hl1 HD.out.tr (ival_tr (!neg) l)).mono ?_;rintro e w2 ⟨v,rfl,⟨A2,c2,rfl,ho2⟩,hb2⟩;have hb3:=hb1.trans (hb2.mono hb1.size);obtain ⟨r0,r1,r2,r3⟩:=two_cells hb3 (heap_second w _ _) (by first | omega | (simp;omega) | simp)))
 go_wp2
 have hr:=ResI.stored (w:=w) (g:=w.heap.size+1) (u:=.bool (decide (ival (!neg) l<0))) (u':=.slice A2 (digs W (ival (!neg) l).natAbs).length c2) ⟨A2,c2,rfl,ho2⟩ ((((((Below.refl _ _).alloc (Nat.le_refl _) _).alloc (by simp) _).drew).trans (hb3.mono (B':=w.heap.size) (by simp;omega))):Below w.heap.size w w2) (by simp) (by omega)
 exact bodyPost_ret (v:=.agg #[.bool (decide (ival (!neg) l<0)),.slice A2 (digs W (ival (!neg) l).natAbs).length c2]) (by simp [results,Tryz.results84,go_sem,r0,r1]) rfl ⟨_,rfl,hr.1,hr.2⟩
end
section
open Go.RowKit Hb
theorem ival_zero {neg:Bool} {l:List Nat} (h:tlen l=0):ival neg l=0:=by
 have:=(tlen_zero_iff (b:=W) (by decide) l).1 h
 simp [ival,this]
theorem nv_pos_of {l:List Nat} (h:0<tlen l):0<nv W l:=by
 have:=mt (tlen_zero_iff (b:=W) (by decide) l).2 (by omega)
 omega
theorem sign_neg {l:List Nat} (h:0<tlen l):(ival true l).sign = -1:=by
 have:=nv_pos_of h
 rw [ival,if_pos rfl];exact Int.sign_eq_neg_one_of_neg (by omega)
theorem sign_pos {l:List Nat} (h:0<tlen l):(ival false l).sign=1:=by
 have:=nv_pos_of h
 rw [ival,if_neg (by simp)];exact Int.sign_eq_one_of_pos (by omega)
set_option maxHeartbeats 400000 in
theorem sign_any (neg:Bool) {B:Nat} {A:Option Addr} {l:List Nat} {n c:Nat} {w:World} (hs:SlU w B A n c l) (hB:B≤w.heap.size) :
  Calls Tryz.prog 21 #[.agg #[.bool neg,.slice A n c]] w fun e w'=>e = .returned (.int .i64 (ival neg l).sign)∧Below w.heap.size w w':=by
 have HI:=Lib.hid (fun w1 (hb:Below w.heap.size w w1)=>trim_any (hs.below (C:=w.heap.size) hb hB))
 have HB:=Lib.hid (Below.refl w.heap.size w)
 clear hs hB
 by_cases h0:tlen l=0
 ·have HS:=Lib.hid (show (ival neg l).sign=0 by rw [ival_zero h0];rfl)
  rw [h0] at HI
  clear h0
  go_enter Tryz.func21,Tryz.ntmps21
  go_wp2_with (go_at_call 41;refine (HI.out _ (HB.out.alloc (Nat.le_refl _) _)).mono ?_;rintro e w' ⟨rfl,rfl⟩)
  go_ret
  exact ⟨ret_int HS.out.symm,HB.out.alloc (Nat.le_refl _) _⟩
 ·have h1:0<tlen l:=by omega
  have HS:=Lib.hid (sign_neg h1)
  have HT:=Lib.hid (sign_pos h1)
  generalize tlen l=k at HI h1 h0
  have hk:((k:Int)==0)=false:=beq_eq_false_iff_ne.2 (by omega)
  cases neg
  all_goals
   go_enter Tryz.func21,Tryz.ntmps21
   go_wp2_with (go_at_call 41;refine (HI.out _ (HB.out.alloc (Nat.le_refl _) _)).mono ?_;rintro e w' ⟨rfl,rfl⟩)
   go_ret
   exact ⟨ret_int (by first | exact HS.out.symm | exact HT.out.symm),HB.out.alloc (Nat.le_refl _) _⟩
def cmpN (a b:Nat):Int:=if a<b then -1 else if b<a then 1 else 0
theorem cmpN_lt {a b:Nat} (h:a<b):cmpN a b = -1:=by simp [cmpN,h]
theorem cmpN_gt {a b:Nat} (h:b<a):cmpN a b=1:=by simp [cmpN,h];omega
theorem cmpN_eq (a:Nat):cmpN a a=0:=by simp [cmpN]
theorem nv_lt_at {b:Nat} {l m:List Nat} {i:Nat} (hl:Dig b l) (_hm:Dig b m) (hlen:l.length=m.length) (hi:i<l.length) (he:l.drop (i+1)=m.drop (i+1)) (h:l.getD i 0<m.getD i 0):nv b l<nv b m:=by
 rw [nv_take_drop b l i,nv_take_drop b m i,drop_nv b l hi,drop_nv b m (by omega),he,Nat.min_eq_left (by omega),Nat.min_eq_left (by omega)]
 have h1:=nv_lt (hl.take i)
 rw [List.length_take,Nat.min_eq_left (by omega)] at h1
 have h2:=Nat.mul_le_mul_left (b ^ i) (show l.getD i 0+b * nv b (m.drop (i+1))+1≤m.getD i 0+b * nv b (m.drop (i+1)) by omega)
 rw [Nat.mul_add] at h2
 omega
theorem drop_step {l m:List Nat} {i:Nat} (hlen:l.length=m.length) (hi:i<l.length) (he:l.drop (i+1)=m.drop (i+1)) (h:l.getD i 0=m.getD i 0):l.drop i=m.drop i:=by
 rw [List.drop_eq_getElem_cons hi,List.drop_eq_getElem_cons (show i<m.length by omega),he]
 rw [getD_eq hi,getD_eq (show i<m.length by omega)] at h
 rw [h]
def CmpPost (a b:Nat) (w:World) (e:Ending) (w':World):Prop:=e = .returned (.int .i64 (cmpN a b))∧Dr w w'
set_option maxHeartbeats 1000000 in
theorem cmp_len {B B':Nat} {A A':Option Addr} {l m:List Nat} {n c n' c':Nat} {w:World} (hs:SlU w B A n c l) (ht:SlU w B' A' n' c' m) (hne:tlen l≠tlen m) :
  Calls Tryz.prog 40 #[.slice A n c,.slice A' n' c'] w (CmpPost (nv W l) (nv W m) w):=by
 have H1:=Lib.hid (trim_any hs)
 have H2:=Lib.hid (trim_any ht)
 rcases Nat.lt_or_gt_of_ne hne with h | h
 ·have HV:=Lib.hid (cmpN_lt (by have:=nv_lt_of_len (b:=W) (by decide) hs.dig.tr (tr_nrm m) (by rw [tr_length,tr_length];exact h);rwa [nv_tr,nv_tr] at this))
  clear hs ht
  generalize tlen l=x at *
  generalize tlen m=y at *
  have hb:(((x:Nat):Int) != (y:Int))=true:=by rw [bne_iff_ne];omega
  have hd:decide (x<y)=true:=decide_eq_true h
  have hd':decide ((x:Int)<(y:Int))=true:=decide_eq_true (by omega)
  go_enter Tryz.func40,Tryz.ntmps40
  go_wp2_with fail
  refine H1.out.mono ?_;rintro e w' ⟨rfl,rfl⟩
  go_wp2_with fail
  refine H2.out.mono ?_;rintro e w' ⟨rfl,rfl⟩
  go_wp2
  go_ret
  exact ⟨ret_int HV.out.symm,Dr.refl _⟩
 ·have HV:=Lib.hid (cmpN_gt (by have:=nv_lt_of_len (b:=W) (by decide) ht.dig.tr (tr_nrm l) (by rw [tr_length,tr_length];exact h);rwa [nv_tr,nv_tr] at this))
  clear hs ht
  generalize tlen l=x at *
  generalize tlen m=y at *
  have hb:(((x:Nat):Int) != (y:Int))=true:=by rw [bne_iff_ne];omega
  have hd:decide (x<y)=false:=decide_eq_false (by omega)
  have hd':decide ((x:Int)<(y:Int))=false:=decide_eq_false (by omega)
  go_enter Tryz.func40,Tryz.ntmps40
  go_wp2_with fail
  refine H1.out.mono ?_;rintro e w' ⟨rfl,rfl⟩
  go_wp2_with fail
  refine H2.out.mono ?_;rintro e w' ⟨rfl,rfl⟩
  go_wp2
  go_ret
  exact ⟨ret_int HV.out.symm,Dr.refl _⟩
set_option maxHeartbeats 1000000 in
theorem cmp_same {B B':Nat} {A A':Option Addr} {l m:List Nat} {n c n' c':Nat} {w:World} (hs:SlU w B A n c l) (ht:SlU w B' A' n' c' m) (heq:tlen l=tlen m) :
  Calls Tryz.prog 40 #[.slice A n c,.slice A' n' c'] w (CmpPost (nv W l) (nv W m) w):=by
 have H1:=Lib.hid (trim_any hs)
 have H2:=Lib.hid (trim_any ht)
 have h3:=hs.tr
 have h4:=ht.tr
 have hmx:=hs.max
 have hcap:=h3.cap
 unfold maxLen at hmx
 rw [←nv_tr W l,←nv_tr W m]
 have e3:=h3.len
 have e4:=h4.len
 rw [←heq] at H2 e4 h4
 generalize tr l=l' at *
 generalize tr m=m' at *
 generalize tlen l=N at *
 clear hs ht heq
 have d3:=h3.dig
 have d4:=h4.dig
 have hlen:l'.length=m'.length:=by omega
 have HL:=Lib.hid (show ∀ j,j<N→l'.drop (j+1)=m'.drop (j+1)→l'.getD j 0<m'.getD j 0→cmpN (nv W l') (nv W m') = -1 from fun j hj h1 h2=>cmpN_lt (nv_lt_at d3 d4 hlen (by omega) h1 h2))
 have HG:=Lib.hid (show ∀ j,j<N→l'.drop (j+1)=m'.drop (j+1)→m'.getD j 0<l'.getD j 0→cmpN (nv W l') (nv W m')=1 from fun j hj h1 h2=>cmpN_gt (nv_lt_at d4 d3 hlen.symm (by omega) h1.symm h2))
 have HS:=Lib.hid (show ∀ j,j<N→l'.drop (j+1)=m'.drop (j+1)→l'.getD j 0=m'.getD j 0→l'.drop j=m'.drop j from fun j hj h1 h2=>drop_step hlen (by omega) h1 h2)
 have H0:=Lib.hid (show l'.drop 0=m'.drop 0→cmpN (nv W l') (nv W m')=0 from fun h=>by simp at h;rw [h];exact cmpN_eq _)
 have HN:=Lib.hid (show l'.drop N=m'.drop N by rw [List.drop_eq_nil_of_le (by omega),List.drop_eq_nil_of_le (by omega)])
 have hN1:N≤9223372036854775807:=by omega
 clear hlen d3 d4 e3 e4 hmx hcap
 go_enter Tryz.func40,Tryz.ntmps40
 go_wp2_with fail
 refine H1.out.mono ?_;rintro e w' ⟨rfl,rfl⟩
 go_wp2_with fail
 refine H2.out.mono ?_;rintro e w' ⟨rfl,rfl⟩
 go_wp2
 go_loopw [5] (fun i wr=>∃ j:Nat,j≤N∧Hid (l'.drop j=m'.drop j)∧i = .int .i64 ((j:Int) - 1)∧Dr w wr) (fun i _=>(intOf i+1).toNat)
 case atStart=>exact ⟨N,Nat.le_refl _,HN,rfl,Dr.refl _⟩
 case round=>
  obtain ⟨j,hj,hd,rfl,hdr⟩:=hrel
  by_cases h0:j=0
  ·subst h0
   have HV:=Lib.hid (H0.out hd.out)
   go_wp2
   go_ret
   exact ⟨ret_int HV.out.symm,hdr⟩
  ·obtain ⟨i,rfl⟩:∃ i,j=i+1:=⟨j - 1,by omega⟩
   obtain ⟨b,o,rfl,_,hc1⟩:=h3.at_ (by omega)
   obtain ⟨b',o',rfl,_,hc2⟩:=h4.at_ (by omega)
   have hx:=(hdr.cell _).trans (hc1 i (by omega))
   have hy:=(hdr.cell _).trans (hc2 i (by omega))
   have F1:=Lib.hid (HL.out i (by omega) hd.out)
   have F2:=Lib.hid (HG.out i (by omega) hd.out)
   have F3:=Lib.hid (HS.out i (by omega) hd.out)
   generalize l'.getD i 0=x at *
   generalize m'.getD i 0=y at *
   clear hc1 hc2 h3 h4 HL HG HS H0 HN h0
   have hi0:(0:Int)≤(i:Int):=by omega
   have hi1:(i:Int)<(N:Int):=by omega
   rcases Nat.lt_trichotomy x y with h | h | h
   ·have g1:decide ((x:Int)<(y:Int))=true:=decide_eq_true (by omega)
    have HV:=Lib.hid (F1.out h)
    go_wp2
    go_quiet (fail)
    go_wp2
    go_ret
    exact ⟨ret_int HV.out.symm,by first | exact hdr.more _ | exact (hdr.more _).more _⟩
   ·subst h
    have g1:decide ((x:Int)<(x:Int))=false:=decide_eq_false (by omega)
    have HD:=Lib.hid (F3.out rfl)
    clear F1 F2 F3
    go_wp2
    go_quiet (fail)
    go_wp2
    go_quiet (fail)
    go_wp2
    go_roundw
    case rel=>exact ⟨i,by omega,HD,by go_num,by first | exact hdr.more _ | exact (hdr.more _).more _⟩
    case measure=>simp [intOf]
   ·have g1:decide ((x:Int)<(y:Int))=false:=decide_eq_false (by omega)
    have g2:decide ((y:Int)<(x:Int))=true:=decide_eq_true (by omega)
    have HV:=Lib.hid (F2.out h)
    go_wp2
    go_quiet (fail)
    go_wp2
    go_quiet (fail)
    go_wp2
    go_ret
    exact ⟨ret_int HV.out.symm,by first | exact hdr.more _ | exact (hdr.more _).more _⟩
theorem cmp_any {B B':Nat} {A A':Option Addr} {l m:List Nat} {n c n' c':Nat} {w:World} (hs:SlU w B A n c l) (ht:SlU w B' A' n' c' m) :
  Calls Tryz.prog 40 #[.slice A n c,.slice A' n' c'] w (CmpPost (nv W l) (nv W m) w):=by
 by_cases h:tlen l=tlen m
 ·exact cmp_same hs ht h
 ·exact cmp_len hs ht h
def cmpZ (a b:Int):Int:=if a<b then -1 else if b<a then 1 else 0
theorem cmpZ_lt {a b:Int} (h:a<b):cmpZ a b = -1:=by simp [cmpZ,h]
theorem cmpZ_gt {a b:Int} (h:b<a):cmpZ a b=1:=by simp [cmpZ,h];omega
theorem cmpZ_sign {a b:Int} (h:a.sign<b.sign):a<b:=by
 rcases Int.lt_or_le a b with h1 | h1
 ·exact h1
 ·exfalso
  rcases Int.lt_trichotomy a 0 with ha | ha | ha <;> rcases Int.lt_trichotomy b 0 with hb | hb | hb
  all_goals first
   | omega
   | (subst ha;subst hb;simp at h)
   | (simp [Int.sign_eq_neg_one_of_neg,Int.sign_eq_one_of_pos, *] at h;done)
   | (rw [Int.sign_eq_neg_one_of_neg ha,Int.sign_eq_neg_one_of_neg hb] at h;omega)
   | (rw [Int.sign_eq_one_of_pos ha,Int.sign_eq_one_of_pos hb] at h;omega)
   | (rw [Int.sign_eq_one_of_pos ha,Int.sign_eq_neg_one_of_neg hb] at h;omega)
theorem ival_of_sign_neg {neg:Bool} {l:List Nat} (h:(ival neg l).sign<0):ival neg l = -(nv W l:Int):=by
 cases neg
 ·exfalso
  have:0≤(ival false l).sign:=Int.sign_nonneg_iff.2 (by simp [ival])
  omega
 ·simp [ival]
theorem ival_of_sign_nonneg {neg:Bool} {l:List Nat} (h:¬(ival neg l).sign<0):ival neg l=(nv W l:Int):=by
 cases neg
 ·simp [ival]
 ·have h1:0≤ival true l:=Int.sign_nonneg_iff.1 (by omega)
  simp [ival] at h1 ⊢
  omega
theorem cmpN_Z (a b:Nat):cmpN a b=cmpZ (a:Int) (b:Int):=by simp [cmpN,cmpZ]
theorem cmpN_Zneg (a b:Nat):cmpN b a=cmpZ (-(a:Int)) (-(b:Int)):=by
 unfold cmpN cmpZ
 by_cases h1:b<a
 ·rw [if_pos h1,if_pos (by omega)]
 ·by_cases h2:a<b
  ·rw [if_neg h1,if_pos h2,if_neg (by omega),if_pos (by omega)]
  ·rw [if_neg h1,if_neg h2,if_neg (by omega),if_neg (by omega)]
theorem heap_first2 (w:World) (a b:Obj):((w.alloc a).alloc b).heap[w.heap.size]?=some a:=by
 rw [Below.heap_alloc _ _ _ (by simp)];exact heap_alloc_new w a
theorem two_boxes {w w0 w2:World} {C t1 t2:Nat} {x y u v:Value} (hb:Below C w0 w2) (hw:w0.heap=((w.alloc (.cells #[x,y] t1)).alloc (.cells #[u,v] t2)).heap) (hC:w.heap.size+2≤C) :
  (w2.cell? ⟨w.heap.size,0,none⟩=some x∧w2.cell? ⟨w.heap.size,1,none⟩=some y)∧(w2.cell? ⟨w.heap.size+1,0,none⟩=some u∧w2.cell? ⟨w.heap.size+1,1,none⟩=some v):=by
 have h1:=two_cells hb (by rw [hw];exact heap_first2 w _ _) (by omega)
 have h2:=two_cells hb (by rw [hw];exact heap_second w _ _) (by omega)
 exact ⟨⟨h1.1,h1.2.1⟩,h2.1,h2.2.1⟩
def CmpZPost (z:Int) (w:World) (e:Ending) (w':World):Prop:=e = .returned (.int .i64 z)∧Below w.heap.size w w'
attribute [local go_sem ↓] Go.wp_at_zero Go.wp_at_succ
set_option maxHeartbeats 1000000 in
theorem Cmp_any (na nb:Bool) {B B':Nat} {A A':Option Addr} {l m:List Nat} {n c n' c':Nat} {w:World} (hs:SlU w B A n c l) (ht:SlU w B' A' n' c' m) (hB:B≤w.heap.size) (hB':B'≤w.heap.size) :
  Calls Tryz.prog 19 #[.agg #[.bool na,.slice A n c],.agg #[.bool nb,.slice A' n' c']] w (CmpZPost (cmpZ (ival na l) (ival nb m)) w):=by
 have H1:=Lib.hid (fun w1 (hb:Below w.heap.size w w1)=>sign_any na (hs.below (C:=w.heap.size) hb hB) (Nat.le_trans hB hb.size))
 have H2:=Lib.hid (fun w1 (hb:Below w.heap.size w w1)=>sign_any nb (ht.below (C:=w.heap.size) hb hB') (Nat.le_trans hB' hb.size))
 have H3:=Lib.hid (fun w1 (hb:Below w.heap.size w w1)=>cmp_any (hs.below (C:=w.heap.size) hb hB) (ht.below (C:=w.heap.size) hb hB'))
 have H4:=Lib.hid (fun w1 (hb:Below w.heap.size w w1)=>cmp_any (ht.below (C:=w.heap.size) hb hB') (hs.below (C:=w.heap.size) hb hB))
 have hW:Below w.heap.size w ((w.alloc (.cells #[.bool na,.slice A n c] 39)).alloc (.cells #[.bool nb,.slice A' n' c'] 39)):=((Below.refl _ _).alloc (Nat.le_refl _) _).alloc (by simp) _
 have HS:=Lib.hid (fun C w2 (hb:Below C ((w.alloc (.cells #[.bool na,.slice A n c] 39)).alloc (.cells #[.bool nb,.slice A' n' c'] 39)).drew w2) (hC:w.heap.size+2≤C)=>two_boxes hb (by rfl) hC)
 have HL:=Lib.hid (fun h=>cmpZ_lt (cmpZ_sign (a:=ival na l) (b:=ival nb m) h))
 have HG:=Lib.hid (fun h=>cmpZ_gt (cmpZ_sign (a:=ival nb m) (b:=ival na l) h))
 have HN:=Lib.hid (show (ival na l).sign<0→(ival nb m).sign<0→cmpN (nv W m) (nv W l)=cmpZ (ival na l) (ival nb m) from fun h1 h2=>by rw [ival_of_sign_neg h1,ival_of_sign_neg h2,cmpN_Zneg])
 have HP:=Lib.hid (show ¬(ival na l).sign<0→¬(ival nb m).sign<0→cmpN (nv W l) (nv W m)=cmpZ (ival na l) (ival nb m) from fun h1 h2=>by rw [ival_of_sign_nonneg h1,ival_of_sign_nonneg h2,cmpN_Z])
 clear hs ht hB hB'
 generalize cmpZ (ival na l) (ival nb m)=Z at *
 generalize (ival na l).sign=s at *
 generalize (ival nb m).sign=t at *
 have key:∃ b1 b2 b3:Bool,decide (s<t)=b1∧decide (t<s)=b2∧decide (s<0)=b3:=⟨_,_,_,rfl,rfl,rfl⟩
 obtain ⟨b1,b2,b3,k1,k2,k3⟩:=key
 have HW:=Lib.hid hW
 clear hW
 go_enter Tryz.func19,Tryz.ntmps19
 go_wp2_with fail
 go_region_held3 (fun w'=>(w'.cell? ⟨w.heap.size,0,none⟩=some (.bool na)∧w'.cell? ⟨w.heap.size,1,none⟩=some (.slice A n c))∧(w'.cell? ⟨w.heap.size+1,0,none⟩=some (.bool nb)∧w'.cell? ⟨w.heap.size+1,1,none⟩=some (.slice A' n' c')))
  (first | go_keep | exact HS.out _ _ (hb1.trans (hb2.mono hb1.size)) (by simp) | exact HS.out _ _ hb1 (by simp))
  (first
   | (go_at_call 21;(with_reducible refine (H1.out _ ?_).mono ?_);exact HW.out.drew;rintro e w1 ⟨rfl,hb1⟩)
   | (go_at_call 21;(with_reducible refine (H2.out _ ?_).mono ?_);exact HW.out.drew.trans (hb1.mono (by simp;omega));rintro e w2 ⟨rfl,hb2⟩))
 have hb3:=HW.out.drew.trans ((hb1.trans (hb2.mono hb1.size)).mono (B':=w.heap.size) (by simp;omega))
 clear hb1 hb2
 go_wp2_with fail
 ·have h:b1=true:=by assumption
  go_ret
  exact ⟨ret_int (HL.out (of_decide_eq_true (k1.trans h))).symm,hb3⟩
 ·have h:b2=true:=by assumption
  go_ret
  exact ⟨ret_int (HG.out (of_decide_eq_true (k2.trans h))).symm,hb3⟩
 ·have g1:b1=false:=by assumption
  have g2:b2=false:=by assumption
  have g3:b3=true:=by assumption
  have HV:=Lib.hid (HN.out (of_decide_eq_true (k3.trans g3)) (by have:=of_decide_eq_false (k1.trans g1);have:=of_decide_eq_false (k2.trans g2);have:=of_decide_eq_true (k3.trans g3);omega))
  refine (H4.out _ hb3).mono ?_;rintro e w3 ⟨rfl,hdr⟩
  go_wp2
  go_ret
  exact ⟨ret_int HV.out,hb3.trans (hdr.below _)⟩
 ·have g1:b1=false:=by assumption
  have g2:b2=false:=by assumption
  have g3:b3=false:=by assumption
  have HV:=Lib.hid (HP.out (by have:=of_decide_eq_false (k3.trans g3);omega) (by have:=of_decide_eq_false (k1.trans g1);have:=of_decide_eq_false (k2.trans g2);have:=of_decide_eq_false (k3.trans g3);omega))
  refine (H3.out _ hb3).mono ?_;rintro e w3 ⟨rfl,hdr⟩
  go_wp2
  go_ret
  exact ⟨ret_int HV.out,hb3.trans (hdr.below _)⟩
end
section
open Go.RowKit Hb
theorem fin {w w1 w2:World} {base g t:Nat} {x y v:Value} {z:Int} (hb:Below w.heap.size w w1) (hg:w1.heap[g]?=some (.cells #[x,y] t (0,0))) (hwg:w.heap.size≤g)
  (hb2:Below w1.heap.size w1 w2) (hr:ResI w2 base v z) (hgb:g<base) :
  w2.cell? ⟨g,0,none⟩=some x∧w2.cell? ⟨g,1,none⟩=some y∧w2.frozen? ⟨g,0,none⟩=false∧w2.frozen? ⟨g,1,none⟩=false ∧
   Hid (∀ u u',ResI ((w2.setCell ⟨g,0,none⟩ u).setCell ⟨g,1,none⟩ u') w.heap.size v z∧Below w.heap.size w ((w2.setCell ⟨g,0,none⟩ u).setCell ⟨g,1,none⟩ u')):=by
 have hlt:g<w1.heap.size:=(Array.getElem?_eq_some_iff.1 hg).1
 obtain ⟨r0,r1,r2,r3⟩:=two_cells hb2 hg hlt
 exact ⟨r0,r1,r2,r3,fun u u'=>ResI.stored hr (hb.trans (hb2.mono hb.size)) hgb hwg⟩
theorem own_two (w:World) {B g:Nat} (a b:Nat) (hg:w.heap.size=g) (hB:B≤g):OwnU (w.alloc (.cells #[.int .u32 (a:Int),.int .u32 (b:Int)] 79)) B (some ⟨g,0,none⟩) 2 2 (u32s [a,b]):=by
 subst hg
 exact Own.of_block (xs:=u32s [a,b]) (heap_alloc_new w _) hB (by simp [u32s_length,maxLen])
theorem dig_two {a b:Nat} (ha:a<4294967296) (hb:b<4294967296):Dig W [a,b]:=Dig.cons ha (Dig.cons hb (Dig.nil _))
theorem ival_two (neg:Bool) {m:Nat} : ival neg [m % W,m / W]=if neg then -(m:Int) else m:=by
 have:nv W [m % W,m / W]=m:=by simp only [nv];have:=Nat.mod_add_div m W;omega
 simp [ival,this]
set_option maxHeartbeats 1000000 in
theorem from_any (n:Int) (w:World) (h1 : -9223372036854775808≤n) (h2:n≤9223372036854775807) :
  Calls Tryz.prog 88 #[.int .i64 n] w (PostI w n):=by
 have HB:=Lib.hid (Below.refl w.heap.size w)
 obtain ⟨m,hm⟩:∃ m:Nat,m=n.natAbs:=⟨_,rfl⟩
 have hz:=ival_two (decide (n<0)) (m:=m)
 have hlt:m / 4294967296<4294967296:=by omega
 have hlt0:m % 4294967296<4294967296:=by omega
 obtain ⟨a,ha⟩:∃ a:Nat,a=m % 4294967296:=⟨_,rfl⟩
 obtain ⟨b,hb⟩:∃ b:Nat,b=m / 4294967296:=⟨_,rfl⟩
 have hz2:ival (decide (n<0)) [a,b]=n:=by
  rw [ha,hb];refine hz.trans ?_
  by_cases h:n<0
  ·rw [if_pos (by simpa using h)];omega
  ·rw [if_neg (by simpa using h)];omega
 have HM:=Lib.hid (laid_own (decide (n<0)) (own_two (w.alloc (.cells #[.bool false,.slice none 0 0] 39)) (B:=w.heap.size+1) a b (by simp) (Nat.le_refl _)) rfl (dig_two (by omega) (by omega)) hz2)
 by_cases h0:n<0
 ·have hd:decide (n<0)=true:=decide_eq_true h0
  have e:IntKind.u64.wrap (-IntKind.u64.wrap n)=(m:Int):=by simp only [IntKind.wrap_u64];omega
  have e2:(m:Int) / 4294967296 % 4294967296=(b:Int):=by omega
  have e3:(m:Int) % 4294967296=(a:Int):=by omega
  clear h0 h1 h2 hm hz hz2 hlt hlt0 ha hb
  go_enter Tryz.func88,Tryz.ntmps88
  go_wp2_with fail
  rw [hd] at HM
  refine HM.out.mono ?_
  rintro ex w2 ⟨v,rfl,⟨A2,c2,rfl,ho2⟩,hb2⟩
  obtain ⟨r0,r1,r2,r3,hF⟩:=fin (g:=w.heap.size) ((HB.out.alloc (Nat.le_refl _) _).alloc (by simp) _) (heap_first2 w _ _) (Nat.le_refl _) hb2 ⟨A2,c2,rfl,ho2⟩ (by omega)
  have HO:=Lib.hid ho2
  have H2:=Lib.hid hb2
  clear ho2 hb2 e e2 e3 hd
  go_wp2
  exact bodyPost_ret (v:=.agg #[.bool (decide (n<0)),.slice A2 (digs W n.natAbs).length c2]) (by simp [results,Tryz.results88,go_sem,r0,r1]) rfl ⟨_,rfl,(hF.out _ _).1,(hF.out _ _).2⟩
 ·have hd:decide (n<0)=false:=decide_eq_false h0
  have h3:0≤n:=by omega
  have e2:n / 4294967296=(b:Int):=by omega
  have e3:n % 4294967296=(a:Int):=by omega
  clear h0 h1 hm hz hz2 hlt hlt0 ha hb
  go_enter Tryz.func88,Tryz.ntmps88
  go_wp2_with fail
  rw [hd] at HM
  refine HM.out.mono ?_
  rintro ex w2 ⟨v,rfl,⟨A2,c2,rfl,ho2⟩,hb2⟩
  obtain ⟨r0,r1,r2,r3,hF⟩:=fin (g:=w.heap.size) ((HB.out.alloc (Nat.le_refl _) _).alloc (by simp) _) (heap_first2 w _ _) (Nat.le_refl _) hb2 ⟨A2,c2,rfl,ho2⟩ (by omega)
  have HO:=Lib.hid ho2
  have H2:=Lib.hid hb2
  clear ho2 hb2 e2 e3 hd
  go_wp2
  exact bodyPost_ret (v:=.agg #[.bool (decide (n<0)),.slice A2 (digs W n.natAbs).length c2]) (by simp [results,Tryz.results88,go_sem,r0,r1]) rfl ⟨_,rfl,(hF.out _ _).1,(hF.out _ _).2⟩
def FreshN (w:World) (v bound:Nat) (e:Ending) (w':World):Prop:=
 ∃ out A n c,e = .returned (.slice A n c)∧OwnU w' w.heap.size A n c (u32s out)∧out.length=n∧Dig W out∧nv W out=v∧n≤bound∧Below w.heap.size w w'
def AddRel (w:World) (l m:List Nat) (n k:Nat) (cv:Value) (wr:World):Prop:=
 ∃ (o:List Nat) (c:Nat),cv = .int .u32 (c:Int)∧c≤1∧o.length=k∧Dig W o∧nv W o+W ^ k * c=nvp W l k+nvp W m k ∧
  OwnU wr w.heap.size (some ⟨w.heap.size,0,none⟩) (n+1) (n+1) (u32s (o ++ List.replicate (n+1 - k) 0))∧Below w.heap.size w wr
theorem AddRel.start (w:World) (l m:List Nat) (n:Nat) (hn:n+1≤maxLen):AddRel w l m n 0 (.int .u32 0) (w.alloc (.cells (madeCells #[.int .u32 0] (n+1)) 79)):=by
 refine ⟨[],0,rfl,by omega,rfl,Dig.nil _,by simp [nv,nvp_zero],?_,(Below.refl _ _).alloc (Nat.le_refl _) _⟩
 have:=Own.made w (.int .u32 0) (n+1) 79 (B:=w.heap.size) (Nat.le_refl _) hn
 rw [u32s_zeros] at this
 simpa using this
theorem AddRel.facts {w wr:World} {l m:List Nat} {n k:Nat} {cv:Value} (h:AddRel w l m n k cv wr) (hk:k≤n) :
  (∃ u,wr.cell? ⟨w.heap.size,k,none⟩=some u)∧wr.frozen? ⟨w.heap.size,k,none⟩=false:=by
 obtain ⟨o,c,_,_,_,_,_,ho,_⟩:=h
 have h1:=ho.cell (j:=k) (by omega)
 have h2:=ho.length
 rw [List.getElem?_eq_getElem (by omega)] at h1
 exact ⟨⟨_,h1⟩,ho.frozen k⟩
theorem AddRel.end_ {w wr:World} {l m:List Nat} {n c:Nat} (h:AddRel w l m n n (.int .u32 (c:Int)) wr) (hl:l.length≤n) (hm:m.length≤n) :
  FreshN w (nv W l+nv W m) (n+1) (.returned (.slice (some ⟨w.heap.size,0,none⟩) (n+1) (n+1))) (wr.setCell ⟨w.heap.size,n,none⟩ (.int .u32 (c:Int))):=by
 obtain ⟨o,c',hc,hc1,hlen,hd,hv,ho,hb⟩:=h
 obtain rfl:c=c':=by injection hc with _ hc;omega
 have:=ho.set_ n (.int .u32 (c:Int))
 rw [u32s_set,set_zeros' hlen (by omega),Nat.sub_self,List.replicate_zero,List.append_nil] at this
 refine ⟨_,_,_,_,rfl,this,by simp [hlen],hd.append (Dig.cons (Nat.lt_of_le_of_lt hc1 (by decide)) (Dig.nil _)),?_,Nat.le_refl _,hb.setCell (Nat.le_refl _) _⟩
 rw [nv_snoc,hlen,hv,nvp_all hl,nvp_all hm]
def SubRel (w:World) (l m:List Nat) (n k:Nat) (cv:Value) (wr:World):Prop:=
 ∃ (o:List Nat) (c:Nat),cv = .int .u32 (c:Int)∧c≤1∧o.length=k∧Dig W o∧nv W o+nvp W m k=nvp W l k+W ^ k * c ∧
  OwnU wr w.heap.size (some ⟨w.heap.size,0,none⟩) n n (u32s (o ++ List.replicate (n - k) 0))∧Below w.heap.size w wr
theorem SubRel.start (w:World) (l m:List Nat) (n:Nat) (hn:n≤maxLen):SubRel w l m n 0 (.int .u32 0) (w.alloc (.cells (madeCells #[.int .u32 0] n) 79)):=by
 refine ⟨[],0,rfl,by omega,rfl,Dig.nil _,by simp [nv,nvp_zero],?_,(Below.refl _ _).alloc (Nat.le_refl _) _⟩
 have:=Own.made w (.int .u32 0) n 79 (B:=w.heap.size) (Nat.le_refl _) hn
 rw [u32s_zeros] at this
 simpa using this
theorem SubRel.facts {w wr:World} {l m:List Nat} {n k:Nat} {cv:Value} (h:SubRel w l m n k cv wr) (hk:k<n) :
  (∃ u,wr.cell? ⟨w.heap.size,k,none⟩=some u)∧wr.frozen? ⟨w.heap.size,k,none⟩=false:=by
 obtain ⟨o,c,_,_,_,_,_,ho,_⟩:=h
 have h1:=ho.cell (j:=k) (by omega)
 have h2:=ho.length
 rw [List.getElem?_eq_getElem (by omega)] at h1
 exact ⟨⟨_,h1⟩,ho.frozen k⟩
theorem SubRel.end_ {w wr:World} {l m:List Nat} {n:Nat} {cv:Value} (h:SubRel w l m n n cv wr) (hl:l.length≤n) (hm:m.length≤n) (hle:nv W m≤nv W l) :
  FreshN w (nv W l - nv W m) n (.returned (.slice (some ⟨w.heap.size,0,none⟩) n n)) wr:=by
 obtain ⟨o,c,hc,hc1,hlen,hd,hv,ho,hb⟩:=h
 rw [Nat.sub_self,List.replicate_zero,List.append_nil] at ho
 rw [nvp_all hl,nvp_all hm] at hv
 have hlt:=nv_lt hd
 rw [hlen] at hlt
 have h0:c=0:=by
  rcases Nat.eq_zero_or_pos c with h | h
  ·exact h
  ·obtain rfl:c=1:=by omega
   rw [Nat.mul_one] at hv;omega
 subst h0
 exact ⟨_,_,_,_,rfl,ho,hlen,hd,by omega,Nat.le_refl _,hb⟩
def lng (l:List Nat):Bool:=decide (4096<blen (nv W l))
def LongPost (b:Bool) (w:World) (e:Ending) (w':World):Prop:=e = .returned (.bool b)∧Below w.heap.size w w'
set_option maxHeartbeats 1000000 in
theorem long1_any {neg:Bool} {B g:Nat} {A:Option Addr} {l:List Nat} {n c:Nat} {w:World} (hs:SlU w B A n c l) (hn:n≤35184372088832) (hB:B≤w.heap.size)
  (h0:w.cell? ⟨g,0,none⟩=some (.bool neg)) (h1:w.cell? ⟨g,1,none⟩=some (.slice A n c)) :
  Calls Tryz.prog 42 #[.slice (some ⟨g,0,none⟩) 1 1] w (LongPost (lng l) w):=by
 have hS:=Lib.hid (fun w1 (hb:Below w.heap.size w w1)=>size_any (hs.below (C:=w.heap.size) hb hB) hn)
 have HB:=Lib.hid (Below.refl w.heap.size w)
 have hg:=World.block_lt_of_cell? w _ h0
 obtain ⟨b1,k1⟩:∃ b1,lng l=b1:=⟨_,rfl⟩
 rw [k1]
 unfold lng at k1
 generalize blen (nv W l)=x at *
 clear hs hn hB
 cases b1
 ·have k2:decide ((4096:Int)<(x:Int))=false:=by have:=of_decide_eq_false k1;exact decide_eq_false (by omega)
  clear k1
  go_enter Tryz.func42,Tryz.ntmps42
  go_wp2_with fail
  refine wp_loop_rounds 2 ?_
  rw [rounds_succ]
  go_wp2_with (go_at_call 38;refine (hS.out _ (HB.out.alloc (Nat.le_refl _) _)).mono ?_;rintro e w' ⟨rfl,rfl⟩)
  rw [rounds_succ]
  go_wp2_with fail
  go_ret
  exact ⟨rfl,HB.out.alloc (Nat.le_refl _) _⟩
 ·have k2:decide ((4096:Int)<(x:Int))=true:=by have:=of_decide_eq_true k1;exact decide_eq_true (by omega)
  clear k1
  go_enter Tryz.func42,Tryz.ntmps42
  go_wp2_with fail
  refine wp_loop_rounds 1 ?_
  rw [rounds_succ]
  go_wp2_with (go_at_call 38;refine (hS.out _ (HB.out.alloc (Nat.le_refl _) _)).mono ?_;rintro e w' ⟨rfl,rfl⟩)
  go_ret
  exact ⟨rfl,HB.out.alloc (Nat.le_refl _) _⟩
set_option maxHeartbeats 1000000 in
theorem long2_any {neg neg':Bool} {B B' g:Nat} {A A':Option Addr} {l m:List Nat} {n c n' c':Nat} {w:World} (hs:SlU w B A n c l) (hn:n≤67108864) (hB:B≤w.heap.size)
  (ht:SlU w B' A' n' c' m) (hn':n'≤67108864) (hB':B'≤w.heap.size)
  (h0:w.cell? ⟨g,0,none⟩=some (.bool neg)) (h1:w.cell? ⟨g,1,none⟩=some (.slice A n c)) (h2:w.cell? ⟨g,2,none⟩=some (.bool neg')) (h3:w.cell? ⟨g,3,none⟩=some (.slice A' n' c')) :
  Calls Tryz.prog 42 #[.slice (some ⟨g,0,none⟩) 2 2] w (LongPost (lng l || lng m) w):=by
 have hS:=Lib.hid (fun w1 (hb:Below w.heap.size w w1)=>size_any (hs.below (C:=w.heap.size) hb hB) (Nat.le_trans hn (by decide)))
 have hT:=Lib.hid (fun w1 (hb:Below w.heap.size w w1)=>size_any (ht.below (C:=w.heap.size) hb hB') (Nat.le_trans hn' (by decide)))
 have HB:=Lib.hid (Below.refl w.heap.size w)
 have hg:=World.block_lt_of_cell? w _ h0
 obtain ⟨b1,k1⟩:∃ b1,lng l=b1:=⟨_,rfl⟩
 obtain ⟨b2,k2⟩:∃ b2,lng m=b2:=⟨_,rfl⟩
 rw [k1,k2]
 unfold lng at k1 k2
 generalize blen (nv W l)=x at *
 generalize blen (nv W m)=y at *
 clear hs hn hB ht hn' hB'
 cases b1
 ·have k3:decide ((4096:Int)<(x:Int))=false:=by have:=of_decide_eq_false k1;exact decide_eq_false (by omega)
  clear k1
  cases b2
  ·have k4:decide ((4096:Int)<(y:Int))=false:=by have:=of_decide_eq_false k2;exact decide_eq_false (by omega)
   clear k2
   go_enter Tryz.func42,Tryz.ntmps42
   go_wp2_with fail
   refine wp_loop_rounds 3 ?_
   rw [rounds_succ]
   go_wp2_with (go_at_call 38;refine (hS.out _ (HB.out.alloc (Nat.le_refl _) _)).mono ?_;rintro e w' ⟨rfl,rfl⟩)
   rw [rounds_succ]
   go_wp2_with (go_at_call 38;refine (hT.out _ ((HB.out.alloc (Nat.le_refl _) _).alloc (by simp) _)).mono ?_;rintro e w' ⟨rfl,rfl⟩)
   rw [rounds_succ]
   go_wp2_with fail
   go_ret
   exact ⟨rfl,(HB.out.alloc (Nat.le_refl _) _).alloc (by simp) _⟩
  ·have k4:decide ((4096:Int)<(y:Int))=true:=by have:=of_decide_eq_true k2;exact decide_eq_true (by omega)
   clear k2
   go_enter Tryz.func42,Tryz.ntmps42
   go_wp2_with fail
   refine wp_loop_rounds 2 ?_
   rw [rounds_succ]
   go_wp2_with (go_at_call 38;refine (hS.out _ (HB.out.alloc (Nat.le_refl _) _)).mono ?_;rintro e w' ⟨rfl,rfl⟩)
   rw [rounds_succ]
   go_wp2_with (go_at_call 38;refine (hT.out _ ((HB.out.alloc (Nat.le_refl _) _).alloc (by simp) _)).mono ?_;rintro e w' ⟨rfl,rfl⟩)
   go_ret
   exact ⟨rfl,(HB.out.alloc (Nat.le_refl _) _).alloc (by simp) _⟩
 ·have k3:decide ((4096:Int)<(x:Int))=true:=by have:=of_decide_eq_true k1;exact decide_eq_true (by omega)
  clear k1 k2
  go_enter Tryz.func42,Tryz.ntmps42
  go_wp2_with fail
  refine wp_loop_rounds 1 ?_
  rw [rounds_succ]
  go_wp2_with (go_at_call 38;refine (hS.out _ (HB.out.alloc (Nat.le_refl _) _)).mono ?_;rintro e w' ⟨rfl,rfl⟩)
  go_ret
  exact ⟨rfl,HB.out.alloc (Nat.le_refl _) _⟩
theorem three_boxes {w W w2:World} {C t:Nat} {x y u v p q:Value} (hd:Dr (((w.alloc (.cells #[x,y] t)).alloc (.cells #[u,v] t)).alloc (.cells #[p,q] t)) W) (hb:Below C W w2) (hC:w.heap.size+3≤C) :
  (w2.cell? ⟨w.heap.size,0,none⟩=some x∧w2.cell? ⟨w.heap.size,1,none⟩=some y)∧(w2.cell? ⟨w.heap.size+1,0,none⟩=some u∧w2.cell? ⟨w.heap.size+1,1,none⟩=some v) ∧
  (w2.cell? ⟨w.heap.size+1+1,0,none⟩=some p∧w2.cell? ⟨w.heap.size+1+1,1,none⟩=some q∧w2.frozen? ⟨w.heap.size+1+1,0,none⟩=false∧w2.frozen? ⟨w.heap.size+1+1,1,none⟩=false):=by
 have h1:=two_cells (g:=w.heap.size) hb (by rw [hd.heap,Below.heap_alloc _ _ _ (by simp;omega)];exact heap_first2 w _ _) (by omega)
 have h2:=two_cells (g:=w.heap.size+1) hb (by rw [hd.heap,Below.heap_alloc _ _ _ (by simp)];exact heap_second w _ _) (by omega)
 have h3:=two_cells (g:=w.heap.size+1+1) hb (by rw [hd.heap];exact heap_third w _ _ _) (by omega)
 exact ⟨⟨h1.1,h1.2.1⟩,⟨h2.1,h2.2.1⟩,h3⟩
attribute [local go_sem ↓] Go.wp_at_zero Go.wp_at_succ
end
section
open Go.RowKit Hb
theorem lng_digs (k:Nat):lng (digs W k)=decide (4096<blen k):=by rw [lng,nv_digs (by decide)]
def KeptPost (v:Value) (code:Int) (w:World) (e:Ending) (w':World):Prop:=e = .returned (.tuple #[v,.int .i64 code])∧Below w.heap.size w w'
set_option maxHeartbeats 1000000 in
theorem kept_any {neg:Bool} {B:Nat} {A:Option Addr} {l:List Nat} {n c:Nat} {w:World} (hs:SlU w B A n c l) (hn:n≤67108864) (hB:B≤w.heap.size) :
  Calls Tryz.prog 175 #[.agg #[.bool neg,.slice A n c]] w
   (KeptPost (if lng l then .agg #[.bool false,.slice none 0 0] else .agg #[.bool neg,.slice A n c]) (if lng l then 10 else 0) w):=by
 have HW:=Lib.hid ((((Below.refl w.heap.size w).alloc (Nat.le_refl _) (.cells #[.bool neg,.slice A n c] 39)).alloc (by simp) (.cells #[.bool false,.slice none 0 0] 39)).alloc (by simp;omega) (.cells #[.bool neg,.slice A n c] 39))
 have HL:=Lib.hid (long1_any (neg:=neg) (g:=w.heap.size+1+1) (hs.below (C:=w.heap.size) HW.out hB) (Nat.le_trans hn (by decide)) (Nat.le_trans hB HW.out.size) (by simp [go_sem]) (by simp [go_sem]))
 have HK:=Lib.hid (fun C w2 (hb:Below C (((w.alloc (.cells #[.bool neg,.slice A n c] 39)).alloc (.cells #[.bool false,.slice none 0 0] 39)).alloc (.cells #[.bool neg,.slice A n c] 39)) w2) hC=>three_boxes (Dr.refl _) hb hC)
 clear hs hn hB
 cases hb:lng l
 all_goals
  rw [hb] at HL
  clear hb
  go_enter Tryz.func175,Tryz.ntmps175
  go_wp2_with fail
  refine HL.out.mono ?_
  rintro ex w3 ⟨rfl,hb3⟩
  obtain ⟨⟨q0,q1⟩,⟨r0,r1⟩,_⟩:=HK.out _ _ hb3 (by simp)
  have h1:=(hb3.frozen (p:=⟨w.heap.size+1,0,none⟩) (by simp)).trans (by simp [go_sem]:_=false)
  have h2:=(hb3.frozen (p:=⟨w.heap.size+1,1,none⟩) (by simp)).trans (by simp [go_sem]:_=false)
  have HB3:=Lib.hid hb3
  clear hb3
  go_wp2
 ·exact bodyPost_ret (v:=.tuple #[.agg #[.bool neg,.slice A n c],.int .i64 0]) (by simp [results,Tryz.results175,go_sem,r0,r1]) rfl
   ⟨by simp,((HW.out.trans (HB3.out.mono (by simp;omega))).setCell (by simp) _).setCell (by simp) _⟩
 ·exact bodyPost_ret (v:=.tuple #[.agg #[.bool false,.slice none 0 0],.int .i64 10]) (by simp [results,Tryz.results175,go_sem,r0,r1]) rfl
   ⟨by simp,((HW.out.trans (HB3.out.mono (by simp;omega))).setCell (by simp) _).setCell (by simp) _⟩
abbrev zeroV:Value:=.agg #[.bool false,.slice none 0 0]
def PostC (w:World) (z:Int) (code:Int) (e:Ending) (w':World):Prop:=
 ∃ v,e = .returned (.tuple #[v,.int .i64 code])∧(code=0→ResI w' w.heap.size v z)∧(code≠0→v=zeroV)∧Below w.heap.size w w'
theorem PostC.ok {w w':World} {z co:Int} {v:Value} (hco:co=0) (hr:ResI w' w.heap.size v z) (hb:Below w.heap.size w w'):PostC w z co (.returned (.tuple #[v,.int .i64 0])) w':=by
 subst hco;exact ⟨v,rfl,fun _=>hr,fun h=>absurd rfl h,hb⟩
theorem PostC.bad {w w':World} {z co k:Int} (hco:co=k) (hk:k≠0) (hb:Below w.heap.size w w'):PostC w z co (.returned (.tuple #[zeroV,.int .i64 k])) w':=by
 subst hco;exact ⟨zeroV,rfl,fun h=>absurd h hk,fun _=>rfl,hb⟩
def tooLong (z:Int):Bool:=decide (4096<blen z.natAbs)
def err (b:Bool):Int:=if b then 10 else 0
abbrev W2 (w:World) (na nb:Bool) (A A':Option Addr) (n c n' c':Nat):World:=
 (((w.alloc (.cells #[.bool na,.slice A n c] 39)).alloc (.cells #[.bool nb,.slice A' n' c'] 39)).alloc (.cells #[.bool false,.slice none 0 0] 39)).alloc (.cells #[.bool na,.slice A n c,.bool nb,.slice A' n' c'] 39)
theorem W2_below (w:World) (na nb:Bool) (A A':Option Addr) (n c n' c':Nat):Below w.heap.size w (W2 w na nb A A' n c n' c'):=
 ((((Below.refl w.heap.size w).alloc (Nat.le_refl _) _).alloc (by simp) _).alloc (by simp;omega) _).alloc (by simp;omega) _
theorem heap_fourth (w:World) (a b c d:Obj):((((w.alloc a).alloc b).alloc c).alloc d).heap[w.heap.size+1+1+1]?=some d:=by
 have:=heap_alloc_new (((w.alloc a).alloc b).alloc c) d
 simpa using this
theorem W2_cells {w w2:World} {na nb:Bool} {A A':Option Addr} {n c n' c' C:Nat} (hb:Below C (W2 w na nb A A' n c n' c') w2) (hC:w.heap.size+1+1+1+1≤C) :
  (w2.cell? ⟨w.heap.size,0,none⟩=some (.bool na)∧w2.cell? ⟨w.heap.size,1,none⟩=some (.slice A n c))∧(w2.cell? ⟨w.heap.size+1,0,none⟩=some (.bool nb)∧w2.cell? ⟨w.heap.size+1,1,none⟩=some (.slice A' n' c')) ∧
  (w2.cell? ⟨w.heap.size+1+1,0,none⟩=some (.bool false)∧w2.cell? ⟨w.heap.size+1+1,1,none⟩=some (.slice none 0 0)∧w2.frozen? ⟨w.heap.size+1+1,0,none⟩=false∧w2.frozen? ⟨w.heap.size+1+1,1,none⟩=false):=by
 refine three_boxes (t:=39) (W:=(((w.alloc (.cells #[.bool na,.slice A n c] 39)).alloc (.cells #[.bool nb,.slice A' n' c'] 39)).alloc (.cells #[.bool false,.slice none 0 0] 39))) (C:=w.heap.size+3) (Dr.refl _) ?_ (Nat.le_refl _)
 exact ((Below.refl _ _).alloc (by simp) _).trans (hb.mono (by omega))
theorem W2_held {w w2:World} {na nb:Bool} {A A':Option Addr} {n c n' c':Nat} (hb:Below (w.heap.size+1+1) (W2 w na nb A A' n c n' c') w2) :
  (w2.cell? ⟨w.heap.size,0,none⟩=some (.bool na)∧w2.cell? ⟨w.heap.size,1,none⟩=some (.slice A n c))∧(w2.cell? ⟨w.heap.size+1,0,none⟩=some (.bool nb)∧w2.cell? ⟨w.heap.size+1,1,none⟩=some (.slice A' n' c')):=by
 have h:=W2_cells (Below.refl (w.heap.size+1+1+1+1) (W2 w na nb A A' n c n' c')) (Nat.le_refl _)
 exact ⟨⟨(hb.cell (by first | omega | (simp;done) | (simp;omega))).trans h.1.1,(hb.cell (by first | omega | (simp;done) | (simp;omega))).trans h.1.2⟩,(hb.cell (by first | omega | (simp;done) | (simp;omega))).trans h.2.1.1,(hb.cell (by first | omega | (simp;done) | (simp;omega))).trans h.2.1.2⟩
theorem W2_long {w:World} {na nb:Bool} {B B':Nat} {A A':Option Addr} {l m:List Nat} {n c n' c':Nat} (hs:SlU w B A n c l) (ht:SlU w B' A' n' c' m) (hn:n≤67108864) (hn':n'≤67108864) (hB:B≤w.heap.size) (hB':B'≤w.heap.size) :
  Calls Tryz.prog 42 #[.slice (some ⟨w.heap.size+1+1+1,0,none⟩) 2 2] (W2 w na nb A A' n c n' c') (LongPost (lng l || lng m) (W2 w na nb A A' n c n' c')):=by
 have hb:=W2_below w na nb A A' n c n' c'
 have hg:=heap_fourth w (.cells #[.bool na,.slice A n c] 39) (.cells #[.bool nb,.slice A' n' c'] 39) (.cells #[.bool false,.slice none 0 0] 39) (.cells #[.bool na,.slice A n c,.bool nb,.slice A' n' c'] 39)
 exact long2_any (neg:=na) (neg':=nb) (hs.below hb hB) hn (Nat.le_trans hB hb.size) (ht.below hb hB') hn' (Nat.le_trans hB' hb.size)
  (cell_of_row _ _ 0 _ _ (0,0) hg) (cell_of_row _ _ 1 _ _ (0,0) hg) (cell_of_row _ _ 2 _ _ (0,0) hg) (cell_of_row _ _ 3 _ _ (0,0) hg)
theorem kept_res {w1:World} {B:Nat} {A2:Option Addr} {c2:Nat} {z:Int} (ho:OwnU w1 B A2 (digs W z.natAbs).length c2 (u32s (digs W z.natAbs))) (hl:(digs W z.natAbs).length≤67108864) :
  Calls Tryz.prog 175 #[.agg #[.bool (decide (z<0)),.slice A2 (digs W z.natAbs).length c2]] w1
   (KeptPost (if tooLong z then zeroV else .agg #[.bool (decide (z<0)),.slice A2 (digs W z.natAbs).length c2]) (err (tooLong z)) w1):=by
 have:=kept_any (neg:=decide (z<0)) (ho.sl (dig_digs (by decide) _) rfl) hl (Nat.le_refl _)
 rw [lng_digs] at this
 exact this
theorem kept_ok {w1:World} {B:Nat} {A2:Option Addr} {c2:Nat} {z:Int} (hT:tooLong z=false) (ho:OwnU w1 B A2 (digs W z.natAbs).length c2 (u32s (digs W z.natAbs))) (hl:(digs W z.natAbs).length≤67108864) :
  Calls Tryz.prog 175 #[.agg #[.bool (decide (z<0)),.slice A2 (digs W z.natAbs).length c2]] w1
   (KeptPost (.agg #[.bool (decide (z<0)),.slice A2 (digs W z.natAbs).length c2]) 0 w1):=by
 have:=kept_res ho hl
 simpa only [hT,err,Bool.false_eq_true,↓reduceIte] using this
theorem kept_bad {w1:World} {B:Nat} {A2:Option Addr} {c2:Nat} {z:Int} (hT:tooLong z=true) (ho:OwnU w1 B A2 (digs W z.natAbs).length c2 (u32s (digs W z.natAbs))) (hl:(digs W z.natAbs).length≤67108864) :
  Calls Tryz.prog 175 #[.agg #[.bool (decide (z<0)),.slice A2 (digs W z.natAbs).length c2]] w1 (KeptPost zeroV 10 w1):=by
 have:=kept_res ho hl
 simpa only [hT,err,↓reduceIte] using this
attribute [local go_sem ↓] Go.wp_at_zero Go.wp_at_succ
end
section
open Go.RowKit Hb
def MulRel (w:World) (l m:List Nat) (N M i:Nat) (wr:World):Prop:=
 ∃ o:List Nat,o.length=N+M∧Dig W o∧(∀ j,i+M≤j→o.getD j 0=0)∧nv W o=nvp W l i * nv W m ∧
  OwnU wr w.heap.size (some ⟨w.heap.size,0,none⟩) (N+M) (N+M) (u32s o)∧Below w.heap.size w wr
def MulIn (w:World) (l m:List Nat) (N M i k:Nat) (cv:Value) (wr:World):Prop:=
 ∃ (o:List Nat) (c:Nat),cv = .int .u64 (c:Int)∧c<4294967296∧o.length=N+M∧Dig W o∧(∀ j,i+M≤j→o.getD j 0=0) ∧
  nv W o+W ^ (i+k) * c=nvp W l i * nv W m+W ^ i * (l.getD i 0 * nvp W m k) ∧
  OwnU wr w.heap.size (some ⟨w.heap.size,0,none⟩) (N+M) (N+M) (u32s o)∧Below w.heap.size w wr
theorem MulRel.start (w:World) (l m:List Nat) (N M:Nat) (hn:N+M≤maxLen):MulRel w l m N M 0 (w.alloc (.cells (madeCells #[.int .u32 0] (N+M)) 79)):=by
 refine ⟨List.replicate (N+M) 0,by simp,Dig.replicate _ _ (by decide),fun j _=>?_,by rw [nv_replicate,nvp_zero,Nat.zero_mul],?_,(Below.refl _ _).alloc (Nat.le_refl _) _⟩
 ·rw [List.getD_eq_getElem?_getD,List.getElem?_replicate];split <;> rfl
 ·have:=Own.made w (.int .u32 0) (N+M) 79 (B:=w.heap.size) (Nat.le_refl _) hn
  rwa [u32s_zeros] at this
theorem MulRel.enter {w wr:World} {l m:List Nat} {N M i:Nat} (h:MulRel w l m N M i wr):MulIn w l m N M i 0 (.int .u64 0) wr:=by
 obtain ⟨o,h1,h2,h3,h4,h5,h6⟩:=h
 exact ⟨o,0,rfl,by omega,h1,h2,h3,by rw [nvp_zero];simpa using h4,h5,h6⟩
theorem MulIn.facts {w wr:World} {l m:List Nat} {N M i k:Nat} {cv:Value} (h:MulIn w l m N M i k cv wr) :
  ∃ c:Nat,cv = .int .u64 (c:Int)∧c<4294967296∧Below w.heap.size w wr ∧
   ∀ p,p<N+M→∃ d:Nat,d<4294967296∧wr.cell? ⟨w.heap.size,p,none⟩=some (.int .u32 (d:Int))∧wr.frozen? ⟨w.heap.size,p,none⟩=false∧(i+M≤p→d=0) ∧
    (p=i+k→∀ x y,l.getD i 0=x→m.getD k 0=y→k<M→Dig W l→Dig W m →
     MulIn w l m N M i (k+1) (.int .u64 (((x * y+d+c) / 4294967296:Nat):Int)) (wr.setCell ⟨w.heap.size,p,none⟩ (.int .u32 (((x * y+d+c) % 4294967296:Nat):Int)))) ∧
    (p=i+M→k=M→m.length≤M→MulRel w l m N M (i+1) (wr.setCell ⟨w.heap.size,p,none⟩ (.int .u32 (c:Int)))):=by
 obtain ⟨o,c,rfl,hc,h1,h2,h3,h4,h5,h6⟩:=h
 refine ⟨c,rfl,hc,h6,fun p hp=>⟨o.getD p 0,h2.getD (by decide) p,?_,h5.frozen p,h3 p,?_,?_⟩⟩
 ·rw [h5.cell hp,u32s_get (by omega)]
 ·rintro rfl x y rfl rfl hk hl hm
  have b1:l.getD i 0<4294967296:=hl.getD (by decide) i
  have b2:m.getD k 0<4294967296:=hm.getD (by decide) k
  have b3:o.getD (i+k) 0<4294967296:=h2.getD (by decide) (i+k)
  obtain ⟨hq,hlt⟩:=mul_lt b1 b2 b3 hc
  refine ⟨o.set (i+k) ((l.getD i 0 * m.getD k 0+o.getD (i+k) 0+c) % 4294967296),_,rfl,hlt,by simpa using h1,h2.set (Nat.mod_lt _ (by decide)) _,fun j hj=>?_,?_,?_,h6.setCell (Nat.le_refl _) _⟩
  ·rw [lget_set_ne (by omega)];exact h3 j hj
  ·have:=mul_step (b:=W) (t:=l.getD i 0 * m.getD k 0+o.getD (i+k) 0+c) (nv_set W (l:=o) (p:=i+k) (by omega) _) rfl h4
   rw [←Nat.add_assoc i k 1]
   refine this.trans ?_
   rw [nvp_succ,Nat.mul_add,Nat.mul_add,Nat.pow_add,←Nat.add_assoc]
   congr 1
   rw [Nat.mul_assoc,Nat.mul_left_comm (l.getD i 0)]
  ·have:=h5.set_ (i+k) (.int .u32 (((l.getD i 0 * m.getD k 0+o.getD (i+k) 0+c) % 4294967296:Nat):Int))
   rwa [u32s_set] at this
 ·rintro rfl rfl hm
  refine ⟨o.set (i+k) c,by simpa using h1,h2.set hc _,fun j hj=>?_,?_,?_,h6.setCell (Nat.le_refl _) _⟩
  ·rw [lget_set_ne (by omega)];exact h3 j (by omega)
  ·have h7:=nv_set W (l:=o) (p:=i+k) (by omega) c
   rw [h3 (i+k) (Nat.le_refl _),Nat.mul_zero,Nat.add_zero,h4,nvp_all hm] at h7
   rw [h7,nvp_succ,Nat.add_mul,Nat.mul_assoc]
  ·have:=h5.set_ (i+k) (.int .u32 (c:Int))
   rwa [u32s_set] at this
theorem MulRel.end_ {w wr:World} {l m:List Nat} {N M:Nat} (h:MulRel w l m N M N wr) (hl:l.length≤N) :
  FreshN w (nv W l * nv W m) (N+M) (.returned (.slice (some ⟨w.heap.size,0,none⟩) (N+M) (N+M))) wr:=by
 obtain ⟨o,h1,h2,h3,h4,h5,h6⟩:=h
 exact ⟨_,_,_,_,rfl,h5,h1,h2,by rw [h4,nvp_all hl],Nat.le_refl _,h6⟩
theorem MulRel.below {w wr:World} {l m:List Nat} {N M i:Nat} (h:MulRel w l m N M i wr):Below w.heap.size w wr:=by
 obtain ⟨o,h1,h2,h3,h4,h5,h6⟩:=h
 exact h6
set_option maxHeartbeats 2000000 in
theorem mul_any {B B':Nat} {A A':Option Addr} {l m:List Nat} {n c n' c':Nat} {w:World} (hs:SlU w B A n c l) (ht:SlU w B' A' n' c' m) (hn:n+n'≤67108864) (hB:B≤w.heap.size) (hB':B'≤w.heap.size) :
  Calls Tryz.prog 177 #[.slice A n c,.slice A' n' c'] w (FreshN w (nv W l * nv W m) (tlen l+tlen m)):=by
 have H1:=Lib.hid (trim_any hs)
 have H2:=Lib.hid (trim_any ht)
 have hl1:=tlen_le l
 have hl2:=tlen_le m
 have hl3:=hs.len
 have hl4:=ht.len
 rw [←nv_tr W l,←nv_tr W m]
 have h3:=hs.tr
 have h4:=ht.tr
 generalize tr l=l' at *
 generalize tr m=m' at *
 generalize tlen l=N at *
 generalize tlen m=M at *
 clear hs ht
 have e3:=h3.len
 have e4:=h4.len
 have hNM:N+M≤1000000000:=by omega
 have hmk:=fun w=>by
  have h:=makeU (N+M) (by omega) w
  rw [show ((N+M:Nat):Int)=(N:Int)+M from by omega] at h
  exact h
 have hst:=Lib.hid (MulRel.start w l' m' N M (by simp [maxLen];omega))
 have hdl:=Lib.hid h3.dig
 have hdm:=Lib.hid h4.dig
 have HE:=Lib.hid (fun wr (h:MulRel w l' m' N M N wr)=>h.end_ (by omega))
 have HM:=Lib.hid (show m'.length≤M by omega)
 clear hl1 hl2 hl3 hl4 hn e3 e4
 go_enter Tryz.func177,Tryz.ntmps177
 go_wp2_with fail
 refine H1.out.mono ?_;rintro e w' ⟨rfl,rfl⟩
 go_wp2_with fail
 refine H2.out.mono ?_;rintro e w' ⟨rfl,rfl⟩
 go_wp2_with fail
 go_loopw [24] (fun i wr=>∃ k:Nat,k≤N∧i = .int .i64 k∧MulRel w l' m' N M k wr) (fun i _=>N - (intOf i).toNat)
 case atStart=>exact ⟨0,Nat.zero_le _,rfl,hst.out⟩
 case round=>
  obtain ⟨i,hi,rfl,hrel⟩:=hrel
  by_cases hiN:i<N
  ·obtain ⟨b,off,hAe,hbb,hcell⟩:=h3.at_ (by omega)
   subst hAe
   have hx:=(hrel.below.cell (p:=⟨b,off+i,none⟩) (Nat.lt_of_lt_of_le hbb hB)).trans (hcell i hiN)
   obtain ⟨x,hxe⟩:∃ x,l'.getD i 0=x:=⟨_,rfl⟩
   have hxb:x<4294967296:=by rw [←hxe];exact hdl.out.getD (by decide) i
   rw [hxe] at hx
   have HX:=Lib.hid hxe
   have HI:=Lib.hid hrel.enter
   clear hxe hcell hrel hst HE
   have hi0:(0:Int)≤(i:Int):=by omega
   have hi1:(i:Int)<(N:Int):=by omega
   obtain ⟨wo,hwo⟩:∃ wo:World,wo=wr:=⟨_,rfl⟩
   subst hwo
   go_wp2_with fail
   go_loopw [8,31] (fun cv kv wr=>∃ k:Nat,k≤M∧kv = .int .i64 k∧MulIn w l' m' N M i k cv wr) (fun _ kv _=>M - (intOf kv).toNat)
   case atStart=>exact ⟨0,Nat.zero_le _,rfl,HI.out⟩
   case round=>
    obtain ⟨k,hk,rfl,hin⟩:=hrel
    obtain ⟨cy,rfl,hcy,hbel,hP⟩:=hin.facts
    have hk0:(0:Int)≤(k:Int):=by omega
    by_cases hkM:k<M
    ·obtain ⟨d,hd,hcd,hfz,_,hstep,_⟩:=hP (i+k) (by omega)
     obtain ⟨b2,off2,hAe,hbb2,hcell2⟩:=h4.at_ (by omega)
     subst hAe
     have hy:=(hbel.cell (p:=⟨b2,off2+k,none⟩) (Nat.lt_of_lt_of_le hbb2 hB')).trans (hcell2 k hkM)
     obtain ⟨y,hye⟩:∃ y,m'.getD k 0=y:=⟨_,rfl⟩
     have hyb:y<4294967296:=by rw [←hye];exact hdm.out.getD (by decide) k
     rw [hye] at hy
     have HS:=Lib.hid (hstep rfl x y HX.out hye hkM hdl.out hdm.out)
     obtain ⟨hq1,hq2⟩:=mul_lt hxb hyb hd hcy
     obtain ⟨q,hq⟩:∃ q,x * y=q:=⟨_,rfl⟩
     rw [hq] at HS hq1 hq2
     have hqi:(x:Int) * (y:Int)=(q:Int):=by rw [←hq];simp
     have hk1:(k:Int)<(M:Int):=by omega
     have hik:(i:Int)+(k:Int)<(N:Int)+(M:Int):=by omega
     clear hq hye hstep hcell2 hP hbel HI hin
     go_wp2_with fail
     go_roundw
     case rel=>exact ⟨k+1,by omega,by go_num,HS.out⟩
     case measure=>simp [intOf];omega
    ·obtain rfl:k=M:=by omega
     obtain ⟨d,hd,hcd,hfz,_,_,hstep⟩:=hP (i+k) (by omega)
     have HS:=Lib.hid (hstep rfl rfl HM.out)
     have hik:(i:Int)+(k:Int)<(N:Int)+(k:Int):=by omega
     have hcy2:(cy:Int) % 4294967296=cy:=by omega
     clear hstep hP hbel HI hin
     go_wp2_with fail
     go_roundw
     case rel=>exact ⟨i+1,by omega,by go_num,HS.out⟩
     case measure=>simp [intOf];omega
  ·obtain rfl:i=N:=by omega
   have HF:=Lib.hid (HE.out _ hrel)
   clear hrel hst HE
   go_wp2
   go_ret
   exact HF.out
theorem ival_mul (na nb:Bool) {l m out:List Nat} (h:nv W out=nv W l * nv W m):ival (!(na==nb)) out=ival na l * ival nb m:=by
 cases na <;> cases nb <;> simp [ival,h,Int.neg_mul,Int.mul_neg]
theorem ival_natAbs_mul (na nb:Bool) (l m:List Nat):(ival na l * ival nb m).natAbs=nv W l * nv W m:=by
 rw [Int.natAbs_mul,ival_natAbs,ival_natAbs]
theorem mul_len {l m:List Nat} (hl:Dig W l) (hm:Dig W m) {n n':Nat} (h1:l.length=n) (h2:m.length=n') (na nb:Bool):(digs W (ival na l * ival nb m).natAbs).length≤n+n':=by
 refine digs_length_le (by decide) ?_
 rw [ival_natAbs_mul,Nat.pow_add]
 have a:=nv_lt hl
 have b:=nv_lt hm
 rw [h1] at a
 rw [h2] at b
 rcases Nat.eq_zero_or_pos (nv W m) with h | h
 ·rw [h,Nat.mul_zero];exact Nat.mul_pos (Nat.pow_pos (by decide)) (Nat.pow_pos (by decide))
 ·exact Nat.lt_of_lt_of_le (Nat.mul_lt_mul_of_pos_right a h) (Nat.mul_le_mul_left _ (Nat.le_of_lt b))
attribute [local go_sem ↓] Go.wp_at_zero Go.wp_at_succ
set_option maxHeartbeats 1000000 in
theorem Mul_any (na nb:Bool) {B B':Nat} {A A':Option Addr} {l m:List Nat} {n c n' c':Nat} {w:World} (hs:SlU w B A n c l) (ht:SlU w B' A' n' c' m) (hn:n+n'≤67108864) (hB:B≤w.heap.size) (hB':B'≤w.heap.size) :
  Calls Tryz.prog 112 #[.agg #[.bool na,.slice A n c],.agg #[.bool nb,.slice A' n' c']] w (PostC w (ival na l * ival nb m) (err (lng l || lng m || tooLong (ival na l * ival nb m)))):=by
 have hl1:=hs.len
 have hl2:=ht.len
 have HL:=Lib.hid (W2_long (na:=na) (nb:=nb) hs ht (by omega) (by omega) hB hB')
 have HW:=Lib.hid (W2_below w na nb A A' n c n' c')
 have HK:=Lib.hid (fun C w2 (hb:Below C (W2 w na nb A A' n c n' c') w2) hC=>W2_cells hb hC)
 have HE:=Lib.hid (fun w2 (hb:Below (w.heap.size+1+1) (W2 w na nb A A' n c n' c') w2)=>W2_held hb)
 have HN:=Lib.hid (show (digs W (ival na l * ival nb m).natAbs).length≤67108864 from Nat.le_trans (mul_len hs.dig ht.dig hl1 hl2 na nb) (by omega))
 have HS:=Lib.hid (fun w1 (hb:Below w.heap.size w w1)=>mul_any (hs.below (C:=w.heap.size) hb hB) (ht.below (C:=w.heap.size) hb hB') (by omega) (Nat.le_trans hB hb.size) (Nat.le_trans hB' hb.size))
 have HV:=Lib.hid (fun out (h:nv W out=nv W l * nv W m)=>ival_mul na nb h)
 clear hs ht hn hB hB' hl1 hl2
 generalize ival na l * ival nb m=Z at *
 cases hb:(lng l || lng m)
 ·rw [hb] at HL
  clear hb
  cases hT:tooLong Z
  all_goals
   first | have HQ:=Lib.hid (fun w1 B2 A2 c2 (ho:OwnU w1 B2 A2 (digs W Z.natAbs).length c2 (u32s (digs W Z.natAbs)))=>kept_ok hT ho HN.out) | have HQ:=Lib.hid (fun w1 B2 A2 c2 (ho:OwnU w1 B2 A2 (digs W Z.natAbs).length c2 (u32s (digs W Z.natAbs)))=>kept_bad hT ho HN.out)
   have HT:=Lib.hid hT
   clear hT
   go_enter Tryz.func112,Tryz.ntmps112
   go_wp2_with fail
   refine HL.out.mono ?_
   rintro ex w3 ⟨rfl,hb3⟩
   obtain ⟨⟨q0,q1⟩,⟨q2,q3⟩,r0,r1,r2,r3⟩:=HK.out _ _ hb3 (by first | omega | (simp;done) | (simp;omega))
   have HB3:=Lib.hid (HW.out.trans (hb3.mono (B':=w.heap.size) (by first | omega | (simp;done) | (simp;omega))))
   have H3:=Lib.hid hb3
   have K3:=Lib.hid (hb3.mono (B':=w.heap.size+1+1) (by first | omega | (simp;done) | (simp;omega)))
   have hz3:=hb3.size
   simp at hz3
   clear hb3
   go_wp2_with fail
   clear r0 r1 r2 r3
   go_region_held3 (fun w'=>(w'.cell? ⟨w.heap.size,0,none⟩=some (.bool na)∧w'.cell? ⟨w.heap.size,1,none⟩=some (.slice A n c))∧(w'.cell? ⟨w.heap.size+1,0,none⟩=some (.bool nb)∧w'.cell? ⟨w.heap.size+1,1,none⟩=some (.slice A' n' c')))
    (first
     | (go_keep;done)
     | exact HE.out _ ((k6.setCell (by first | omega | (simp;done) | (simp;omega)) _).setCell (by first | omega | (simp;done) | (simp;omega)) _)
     | exact HE.out _ k6
     | exact HE.out _ k5
     | exact HE.out _ k4)
    (first
     | (go_at_call 177;(with_reducible refine (HS.out _ ?_).mono ?_);exact HB3.out.drew;rintro e w4 ⟨out,A2,n2,c2,rfl,ho2,hl2,hd2,hv2,_,hb4⟩;have hz4:=hb4.size;simp at hz4;have k4:=K3.out.drew.trans (hb4.mono (B':=w.heap.size+1+1) (by first | omega | (simp;done) | (simp;omega))))
     | (go_at_call 39;(with_reducible refine (laid_own (!(na==nb)) ho2 hl2 hd2 (HV.out _ hv2)).mono ?_);rintro e w5 ⟨v,rfl,⟨A3,c3,rfl,ho3⟩,hb5⟩;have hz5:=hb5.size;have k5:=k4.trans (hb5.mono (B':=w.heap.size+1+1) (by first | omega | (simp;done) | (simp;omega))))
     | (go_at_call 175;(with_reducible refine (HQ.out _ _ _ _ ho3).mono ?_);rintro e w6 ⟨rfl,hb6⟩;have hz6:=hb6.size;have k6:=k5.trans (hb6.mono (B':=w.heap.size+1+1) (by first | omega | (simp;done) | (simp;omega)));obtain ⟨r0,r1,r2,r3⟩:=(HK.out _ _ (H3.out.drew.trans ((hb4.trans ((hb5.mono hb4.size).trans (hb6.mono (Nat.le_trans hb4.size hb5.size)))).mono (by first | omega | (simp;done) | (simp;omega)))) (by first | omega | (simp;done) | (simp;omega))).2.2))
   have HB6:=HB3.out.drew.trans ((hb4.trans ((hb5.mono hb4.size).trans (hb6.mono (Nat.le_trans hb4.size hb5.size)))).mono (B':=w.heap.size) (by first | omega | (simp;done) | (simp;omega)))
   have ho6:=ho3.below hb6 (Nat.le_refl _)
   go_wp2
  ·have hr:=ResI.stored (w:=w) (g:=w.heap.size+1+1) (u:=.bool (decide (Z<0))) (u':=.slice A3 (digs W Z.natAbs).length c3) ⟨A3,c3,rfl,ho6⟩ HB6 (by first | omega | (simp;done) | (simp;omega)) (by first | omega | (simp;done) | (simp;omega))
   exact bodyPost_ret (v:=.tuple #[.agg #[.bool (decide (Z<0)),.slice A3 (digs W Z.natAbs).length c3],.int .i64 0]) (by simp [results,Tryz.results112,go_sem,r0,r1]) rfl
    (PostC.ok (by simp [err]) hr.1 hr.2)
  ·exact bodyPost_ret (v:=.tuple #[zeroV,.int .i64 10]) (by simp [results,Tryz.results112,go_sem,r0,r1]) rfl
    (PostC.bad (by simp [err]) (by decide) ((HB6.setCell (by first | omega | (simp;done) | (simp;omega)) _).setCell (by first | omega | (simp;done) | (simp;omega)) _))
 ·rw [hb] at HL
  clear hb
  go_enter Tryz.func112,Tryz.ntmps112
  go_wp2_with fail
  refine HL.out.mono ?_
  rintro ex w3 ⟨rfl,hb3⟩
  obtain ⟨⟨q0,q1⟩,⟨q2,q3⟩,r0,r1,r2,r3⟩:=HK.out _ _ hb3 (by simp)
  have HB3:=Lib.hid (HW.out.trans (hb3.mono (B':=w.heap.size) (by first | omega | (simp;done) | (simp;omega))))
  clear hb3
  go_wp2_with fail
  exact bodyPost_ret (v:=.tuple #[zeroV,.int .i64 10]) (by simp [results,Tryz.results112,go_sem,r0,r1]) rfl
   (PostC.bad (by simp [err]) (by decide) ((HB3.out.setCell (by first | omega | (simp;done) | (simp;omega)) _).setCell (by first | omega | (simp;done) | (simp;omega)) _))
end
section
open Go.RowKit Hb
theorem or_add {s a b:Nat} (ha:a<2 ^ s) (hb:b % 2 ^ s=0):a ||| b=a+b:=by
 have h:=Nat.two_pow_add_eq_or_of_lt ha (b / 2 ^ s)
 have e:2 ^ s * (b / 2 ^ s)=b:=by have:=Nat.mod_add_div b (2 ^ s);omega
 rw [e] at h
 rw [Nat.or_comm,←h,Nat.add_comm]
theorem u64_bv (n:Nat) (h1:n<18446744073709551616):(BitVec.ofInt 64 (n:Int)).toNat=n:=by
 rw [BitVec.ofInt_natCast,BitVec.toNat_ofNat]
 exact Nat.mod_eq_of_lt (by omega)
theorem bits_or_u64 (a b:Nat) (ha:a<18446744073709551616) (hb:b<18446744073709551616):bits .or .u64 (a:Int) (b:Int)=((a ||| b:Nat):Int):=by
 have hx:a ||| b<2 ^ 64:=Nat.or_lt_two_pow (by omega) (by omega)
 show IntKind.u64.wrap ((BitVec.ofInt 64 (a:Int) ||| BitVec.ofInt 64 (b:Int)).toNat:Int)=_
 rw [BitVec.toNat_or,u64_bv _ ha,u64_bv _ hb,IntKind.wrap_u64]
 omega
def ShlRel (w:World) (l:List Nat) (s n k:Nat) (wr:World):Prop:=
 ∃ o:List Nat,o.length=n+1∧Dig W o∧(∀ j,k<j→o.getD j 0=0)∧o.getD k 0<2 ^ s∧nv W o=nvp W l k * 2 ^ s ∧
  OwnU wr w.heap.size (some ⟨w.heap.size,0,none⟩) (n+1) (n+1) (u32s o)∧Below w.heap.size w wr
theorem getD_replicate (n j:Nat):(List.replicate n 0).getD j 0=0:=by
 rw [List.getD_eq_getElem?_getD,List.getElem?_replicate];split <;> rfl
theorem ShlRel.start (w:World) (l:List Nat) (s n:Nat) (hn:n+1≤maxLen):ShlRel w l s n 0 (w.alloc (.cells (madeCells #[.int .u32 0] (n+1)) 79)):=by
 refine ⟨List.replicate (n+1) 0,by simp,Dig.replicate _ _ (by decide),fun j _=>getD_replicate _ _,by rw [getD_replicate];exact Nat.pow_pos (by decide),by rw [nv_replicate,nvp_zero,Nat.zero_mul],?_,(Below.refl _ _).alloc (Nat.le_refl _) _⟩
 have:=Own.made w (.int .u32 0) (n+1) 79 (B:=w.heap.size) (Nat.le_refl _) hn
 rwa [u32s_zeros] at this
theorem shl_num {s x d:Nat} (hs:s<32) (hx:x<4294967296) (hd:d<2 ^ s) :
  x * 2 ^ s<9223372036854775808∧x * 2 ^ s / 4294967296<2 ^ s∧d+x * 2 ^ s % 4294967296<4294967296∧2 ^ s≤2147483648:=by
 have h31:(2:Nat) ^ s≤2 ^ 31:=Nat.pow_le_pow_right (by decide) (by omega)
 have h1:x * 2 ^ s≤4294967295 * 2 ^ s:=Nat.mul_le_mul_right _ (by omega)
 refine ⟨by omega,Nat.div_lt_of_lt_mul (by omega),?_,by omega⟩
 have h2:x * 2 ^ s % 4294967296 % 2 ^ s=0:=by
  rw [Nat.mod_mod_of_dvd _ (show 2 ^ s ∣ 4294967296 from Nat.pow_dvd_pow 2 (show s≤32 by omega))];exact Nat.mul_mod_left _ _
 have h3:x * 2 ^ s % 4294967296<4294967296:=Nat.mod_lt _ (by decide)
 obtain ⟨c,hc⟩:=Nat.dvd_of_mod_eq_zero h2
 obtain ⟨e,he⟩:2 ^ s ∣ 4294967296:=Nat.pow_dvd_pow 2 (show s≤32 by omega)
 rw [hc] at h3 ⊢
 have h4:c<e:=by
  rcases Nat.lt_or_ge c e with h | h
  ·exact h
  ·have:=Nat.mul_le_mul_left (2 ^ s) h;omega
 have:=Nat.mul_le_mul_left (2 ^ s) (show c+1≤e from h4)
 rw [Nat.mul_add] at this
 omega
theorem ShlRel.facts {w wr:World} {l:List Nat} {s n k:Nat} (h:ShlRel w l s n k wr) (hk:k<n) (hs:s<32) (hl:Dig W l) :
  ∃ d:Nat,d<2 ^ s∧wr.cell? ⟨w.heap.size,k,none⟩=some (.int .u32 (d:Int))∧wr.frozen? ⟨w.heap.size,k,none⟩=false ∧
   (∃ u,wr.cell? ⟨w.heap.size,k+1,none⟩=some u)∧wr.frozen? ⟨w.heap.size,k+1,none⟩=false ∧
   ShlRel w l s n (k+1) ((wr.setCell ⟨w.heap.size,k,none⟩ (.int .u32 ((d+l.getD k 0 * 2 ^ s % 4294967296:Nat):Int))).setCell ⟨w.heap.size,k+1,none⟩ (.int .u32 ((l.getD k 0 * 2 ^ s / 4294967296:Nat):Int))):=by
 obtain ⟨o,h1,h2,h3,h4,h5,h6,h7⟩:=h
 have hx:l.getD k 0<4294967296:=hl.getD (by decide) k
 obtain ⟨g1,g2,g3,g4⟩:=shl_num hs hx h4
 refine ⟨o.getD k 0,h4,by rw [h6.cell (by omega),u32s_get (by omega)],h6.frozen k,⟨_,by rw [h6.cell (by omega),u32s_get (by omega)]⟩,h6.frozen (k+1),?_⟩
 refine ⟨(o.set k (o.getD k 0+l.getD k 0 * 2 ^ s % 4294967296)).set (k+1) (l.getD k 0 * 2 ^ s / 4294967296),by simpa using h1,(h2.set g3 _).set (show _<4294967296 by omega) _,fun j hj=>?_,?_,?_,?_,(h7.setCell (Nat.le_refl _) _).setCell (Nat.le_refl _) _⟩
 ·rw [lget_set_ne (by omega),lget_set_ne (by omega)];exact h3 j (by omega)
 ·rw [List.getD_eq_getElem?_getD,List.getElem?_set_self (by simp;omega)];exact g2
 ·have e1:=nv_set W (l:=o) (p:=k) (by omega) (o.getD k 0+l.getD k 0 * 2 ^ s % 4294967296)
  have e2:=nv_set W (l:=o.set k (o.getD k 0+l.getD k 0 * 2 ^ s % 4294967296)) (p:=k+1) (by simp;omega) (l.getD k 0 * 2 ^ s / 4294967296)
  rw [lget_set_ne (by omega),h3 (k+1) (by omega),Nat.mul_zero,Nat.add_zero] at e2
  rw [Nat.mul_add] at e1
  rw [e2,nvp_succ,Nat.add_mul,pow_succ_mul,←h5]
  have e3:W ^ k * (l.getD k 0 * 2 ^ s % 4294967296)+W ^ k * (W * (l.getD k 0 * 2 ^ s / 4294967296))=W ^ k * l.getD k 0 * 2 ^ s:=by
   rw [←Nat.mul_add,Nat.mul_assoc]
   congr 1
   exact Nat.mod_add_div _ _
  omega
 ·have:=(h6.set_ k (.int .u32 ((o.getD k 0+l.getD k 0 * 2 ^ s % 4294967296:Nat):Int))).set_ (k+1) (.int .u32 ((l.getD k 0 * 2 ^ s / 4294967296:Nat):Int))
  rwa [u32s_set,u32s_set] at this
abbrev OwnI:=Own 3
abbrev UBu:=UB 79
def TakeRel (w:World) (g k _n q:Nat) (L vl:List Nat) (i:Nat) (bv cv:Value) (wr:World):Prop:=
 ∃ (L':List Nat) (bb cc:Nat),bv = .int .u64 (bb:Int)∧cv = .int .u64 (cc:Int)∧bb≤1∧cc<4294967296∧L'.length=L.length∧Dig W L'∧L'.take k=L.take k∧L'.drop (k+i)=L.drop (k+i) ∧
  nvp W (L'.drop k) i+q * nvp W vl i=nvp W (L.drop k) i+W ^ i * (cc+bb)∧UBu wr g L'∧w.grownBy wr (some g)
theorem take_set_lo {L:List Nat} {k p v:Nat} (h:k≤p):(L.set p v).take k=L.take k:=by
 rw [List.take_set];exact List.set_eq_of_length_le (by rw [List.length_take];omega)
theorem drop_set_hi {L:List Nat} {k p v:Nat} (h:p<k):(L.set p v).drop k=L.drop k:=by rw [List.drop_set,if_pos h]
theorem drop_set_in {L:List Nat} {k i v:Nat} : (L.set (k+i) v).drop k=(L.drop k).set i v:=by rw [List.drop_set,if_neg (by omega)];congr 1;omega
theorem nvp_set_hi {b:Nat} {l:List Nat} {i v:Nat} : nvp b (l.set i v) i=nvp b l i:=by unfold nvp;rw [take_set_lo (Nat.le_refl _)]
theorem nvp_set_at {b:Nat} {l:List Nat} {i v:Nat} (h:i<l.length):nvp b (l.set i v) (i+1)=nvp b l i+b ^ i * v:=by
 rw [nvp_succ,nvp_set_hi,List.getD_eq_getElem?_getD,List.getElem?_set_self h];rfl
theorem getD_drop (L:List Nat) (k i:Nat):(L.drop k).getD i 0=L.getD (k+i) 0:=by
 rw [List.getD_eq_getElem?_getD,List.getD_eq_getElem?_getD,List.getElem?_drop]
theorem getD_of_drop {L L':List Nat} {p:Nat} (h:L'.drop p=L.drop p):L'.getD p 0=L.getD p 0:=by
 have:=congrArg (fun l=>l.getD 0 0) h
 simpa [getD_drop] using this
theorem drop_more {L L':List Nat} {p q:Nat} (h:L'.drop p=L.drop p) (hq:p≤q):L'.drop q=L.drop q:=by
 obtain ⟨r,rfl⟩:∃ r,q=p+r:=⟨q - p,by omega⟩
 rw [←List.drop_drop,←List.drop_drop,h]
theorem take_num {d p bb t:Nat} (hd:d<4294967296) (hb:bb≤1) (ht:IntKind.u64.wrap (IntKind.u64.wrap ((d:Int) - (p:Int) % 4294967296) - (bb:Int))=(t:Int)) :
  t % 4294967296+p % 4294967296+bb=d+4294967296 * (t / 9223372036854775808)∧t / 9223372036854775808≤1∧t<18446744073709551616:=by
 rw [IntKind.wrap_u64,IntKind.wrap_u64] at ht
 omega
theorem take_step {b k v c x q d X Y p s bb b':Nat} (h:v+q * Y=X+b ^ k * (c+bb)) (hp:p=q * x+c) (hs:s+p % b+bb=d+b * b') :
  (v+b ^ k * s)+q * (Y+b ^ k * x)=(X+b ^ k * d)+b ^ (k+1) * (p / b+b'):=by
 have h2:=Nat.mod_add_div p b
 have h3:b ^ k * (s+p % b+bb)=b ^ k * (d+b * b'):=by rw [hs]
 have h4:b ^ k * (p % b+b * (p / b))=b ^ k * (q * x+c):=by rw [h2,hp]
 rw [pow_succ_mul]
 simp only [Nat.mul_add] at h h3 h4 ⊢
 rw [Nat.mul_left_comm q (b ^ k) x]
 omega
theorem TakeRel.facts {w wr:World} {g k n q i:Nat} {L vl:List Nat} {bv cv:Value} (h:TakeRel w g k n q L vl i bv cv wr) (hk:k+n+1≤L.length) (hi:i≤n) :
  ∃ bb cc d:Nat,bv = .int .u64 (bb:Int)∧cv = .int .u64 (cc:Int)∧bb≤1∧cc<4294967296∧d<4294967296∧L.getD (k+i) 0=d∧wr.cell? ⟨g,k+i,none⟩=some (.int .u32 (d:Int))∧wr.frozen? ⟨g,k+i,none⟩=false∧w.grownBy wr (some g) ∧
   (∀ x t p:Nat,i<n→vl.getD i 0=x→x<4294967296→q<4294967296→q * x+cc=p→IntKind.u64.wrap (IntKind.u64.wrap ((d:Int) - (p:Int) % 4294967296) - (bb:Int))=(t:Int) →
    TakeRel w g k n q L vl (i+1) (.int .u64 ((t / 9223372036854775808:Nat):Int)) (.int .u64 ((p / 4294967296:Nat):Int)) (wr.setCell ⟨g,k+i,none⟩ (.int .u32 ((t % 4294967296:Nat):Int)))):=by
 obtain ⟨L',bb,cc,rfl,rfl,hb,hc,h1,h2,h3,h4,h5,h6,h7⟩:=h
 have hg:=getD_of_drop h4
 refine ⟨bb,cc,L'.getD (k+i) 0,rfl,rfl,hb,hc,h2.getD (by decide) _,hg.symm,h6.cell (by omega),h6.frozen _,h7,?_⟩
 rintro x t p hin rfl hx hq rfl ht
 have hd:L'.getD (k+i) 0<4294967296:=h2.getD (by decide) _
 obtain ⟨e1,e2,e3⟩:=take_num hd hb ht
 have hml:=(mul_lt (c:=cc) hq hx (show 0<4294967296 by decide) hc).2
 refine ⟨L'.set (k+i) (t % 4294967296),_,_,rfl,rfl,e2,by simpa using hml,by simpa using h1,h2.set (Nat.mod_lt _ (by decide)) _,by rw [take_set_lo (by omega)];exact h3,?_,?_,h6.set_ _ _,gb_setCell h7 _ _⟩
 ·rw [drop_set_hi (by omega)];exact drop_more h4 (by omega)
 ·rw [drop_set_in,nvp_set_at (by rw [List.length_drop];omega),nvp_succ,nvp_succ,getD_drop,←hg]
  exact take_step h5 rfl e1
def RowSt (w:World) (g k n:Nat) (L L2:List Nat) (wr:World):Prop:=
 L2.length=L.length∧Dig W L2∧L2.take k=L.take k∧L2.drop (k+n+1)=L.drop (k+n+1)∧UBu wr g L2∧w.grownBy wr (some g)
def BackRel (w:World) (g k n:Nat) (L L2 vl:List Nat) (i:Nat) (cv:Value) (wr:World):Prop:=
 ∃ (L3:List Nat) (c:Nat),cv = .int .u32 (c:Int)∧c≤1∧RowSt w g k n L L3 wr∧L3.drop (k+i)=L2.drop (k+i)∧nvp W (L3.drop k) i+W ^ i * c=nvp W (L2.drop k) i+nvp W vl i
theorem BackRel.facts {w wr:World} {g k n i:Nat} {L L2 vl:List Nat} {cv:Value} (h:BackRel w g k n L L2 vl i cv wr) (hk:k+n+1≤L.length) (hi:i≤n) (hm:Dig W vl) :
  ∃ c d:Nat,cv = .int .u32 (c:Int)∧c≤1∧d<4294967296∧L2.getD (k+i) 0=d∧wr.cell? ⟨g,k+i,none⟩=some (.int .u32 (d:Int))∧wr.frozen? ⟨g,k+i,none⟩=false∧w.grownBy wr (some g) ∧
   (∀ x:Nat,i<n→vl.getD i 0=x →
    BackRel w g k n L L2 vl (i+1) (.int .u32 (((d+x+c) / 4294967296:Nat):Int)) (wr.setCell ⟨g,k+i,none⟩ (.int .u32 (((d+x+c) % 4294967296:Nat):Int)))) ∧
   (i=n→vl.length=n→∃ L3,RowSt w g k n L L3 (wr.setCell ⟨g,k+i,none⟩ (.int .u32 (((d+c) % 4294967296:Nat):Int))) ∧
    nvp W (L3.drop k) (n+1)+W ^ (n+1) * ((d+c) / 4294967296)=nvp W (L2.drop k) (n+1)+nv W vl):=by
 obtain ⟨L3,c,rfl,hc,⟨h1,h2,h3,h4,h5,h6⟩,h7,h8⟩:=h
 have hg:=getD_of_drop h7
 have hd:L3.getD (k+i) 0<4294967296:=h2.getD (by decide) _
 refine ⟨c,L3.getD (k+i) 0,rfl,hc,hd,hg.symm,h5.cell (by omega),h5.frozen _,h6,?_,?_⟩
 ·rintro x hin rfl
  have hx:vl.getD i 0<4294967296:=hm.getD (by decide) _
  refine ⟨L3.set (k+i) ((L3.getD (k+i) 0+vl.getD i 0+c) % 4294967296),_,rfl,by omega,⟨by simpa using h1,h2.set (Nat.mod_lt _ (by decide)) _,by rw [take_set_lo (by omega)];exact h3,?_,h5.set_ _ _,gb_setCell h6 _ _⟩,?_,?_⟩
  ·rw [drop_set_hi (by omega)];exact h4
  ·rw [drop_set_hi (by omega)];exact drop_more h7 (by omega)
  ·rw [drop_set_in,nvp_set_at (by rw [List.length_drop];omega),nvp_succ,nvp_succ,getD_drop,←hg]
   exact add_step h8
 ·rintro rfl hvl
  refine ⟨L3.set (k+i) ((L3.getD (k+i) 0+c) % 4294967296),⟨by simpa using h1,h2.set (Nat.mod_lt _ (by decide)) _,by rw [take_set_lo (by omega)];exact h3,?_,h5.set_ _ _,gb_setCell h6 _ _⟩,?_⟩
  ·rw [drop_set_hi (by omega)];exact h4
  ·rw [drop_set_in,nvp_set_at (by rw [List.length_drop];omega),nvp_succ,getD_drop,←hg]
   rw [nvp_all (Nat.le_of_eq hvl)] at h8
   have h9:=add_step (x:=L3.getD (k+i) 0) (y:=0) h8
   simpa using h9
def OneRel (w:World) (g y:Nat) (l:List Nat) (N j:Nat) (rv:Value) (wr:World):Prop:=
 ∃ (o:List Nat) (r:Nat),rv = .int .u32 (r:Int)∧r<y∧o.length=N∧Dig W o∧nv W (o.drop j) * y+r=nv W (l.drop j) ∧
  OwnU wr w.heap.size (some ⟨g,0,none⟩) N N (u32s o)∧Below w.heap.size w wr
theorem OneRel.facts {w wr:World} {g y:Nat} {l:List Nat} {N j:Nat} {rv:Value} (h:OneRel w g y l N (j+1) rv wr) (hj:j<N) (hl:Dig W l) (hlen:l.length=N) (hy:y<4294967296) (hg:w.heap.size≤g) :
  ∃ r x:Nat,rv = .int .u32 (r:Int)∧r<y∧l.getD j 0=x∧x<4294967296∧(∃ u,wr.cell? ⟨g,j,none⟩=some u)∧wr.frozen? ⟨g,j,none⟩=false∧Below w.heap.size w wr ∧
   OneRel w g y l N j (.int .u32 (((r * 4294967296+x) % y:Nat):Int)) (wr.setCell ⟨g,j,none⟩ (.int .u32 (((r * 4294967296+x) / y:Nat):Int))):=by
 obtain ⟨o,r,rfl,hr,h1,h2,h3,h4,h5⟩:=h
 have hx:l.getD j 0<4294967296:=hl.getD (by decide) j
 refine ⟨r,l.getD j 0,rfl,hr,rfl,hx,⟨_,by rw [h4.cell hj,u32s_get (by omega)]⟩,h4.frozen j,h5,?_⟩
 have hq:(r * 4294967296+l.getD j 0) / y<4294967296:=by
  refine Nat.div_lt_of_lt_mul ?_
  have:(r+1) * 4294967296≤y * 4294967296:=Nat.mul_le_mul_right _ hr
  omega
 refine ⟨o.set j ((r * 4294967296+l.getD j 0) / y),_,rfl,Nat.mod_lt _ (by omega),by simpa using h1,h2.set hq _,?_,?_,h5.setCell hg _⟩
 ·have e1:(o.set j ((r * 4294967296+l.getD j 0) / y)).drop j=((r * 4294967296+l.getD j 0) / y) :: o.drop (j+1):=by
   rw [List.drop_eq_getElem_cons (by simp;omega),List.getElem_set_self,drop_set_hi (by omega)]
  rw [e1,nv_cons,drop_nv W l (by omega),←h3]
  have hdm:=Nat.div_add_mod' (r * 4294967296+l.getD j 0) y
  rw [Nat.add_mul,Nat.mul_add,Nat.mul_assoc]
  have e:W * r=r * 4294967296:=Nat.mul_comm _ _
  omega
 ·have:=h4.set_ j (.int .u32 (((r * 4294967296+l.getD j 0) / y:Nat):Int))
  rwa [u32s_set] at this
attribute [local go_sem ↓] Go.wp_at_zero Go.wp_at_succ
end
section
open Go.RowKit Hb
def DownRel (Bo:Nat) (wb:World) (gu go_ N M s i:Nat) (L o:List Nat) (wr:World):Prop:=
 ∃ L3:List Nat,L3.length=N+1∧Dig W L3∧L3.drop i=L.drop i∧nvp W L3 i+W ^ i * (nv W (L.drop i) / 2 ^ s)=nv W L / 2 ^ s ∧
  UBu wr gu L3∧OwnU wr Bo (some ⟨go_,0,none⟩) (N - M+1) (N - M+1) (u32s o)∧Below gu wb wr
theorem DownRel.facts {Bo:Nat} {wb wr:World} {gu go_ N M s i:Nat} {L o:List Nat} (h:DownRel Bo wb gu go_ N M s i L o wr) (hs:s<32) (hL:Dig W L) (hLl:L.length=N+1) (hi:i<N) (hgg:gu<go_) :
  ∃ x y:Nat,x<4294967296∧y<4294967296∧wr.cell? ⟨gu,i,none⟩=some (.int .u32 (x:Int))∧wr.cell? ⟨gu,i+1,none⟩=some (.int .u32 (y:Int))∧wr.frozen? ⟨gu,i,none⟩=false ∧
   x / 2 ^ s+y * 2 ^ (32 - s) % 4294967296<4294967296 ∧
   DownRel Bo wb gu go_ N M s (i+1) L o (wr.setCell ⟨gu,i,none⟩ (.int .u32 ((x / 2 ^ s+y * 2 ^ (32 - s) % 4294967296:Nat):Int))):=by
 obtain ⟨L3,h1,h2,h3,h4,h5,h6,h7⟩:=h
 have hx:=getD_of_drop h3
 have hy:=getD_of_drop (drop_more h3 (show i≤i+1 by omega))
 have bx:L.getD i 0<4294967296:=hL.getD (by decide) i
 have by_:L.getD (i+1) 0<4294967296:=hL.getD (by decide) (i+1)
 have hb:(4294967296:Nat)=2 ^ s * 2 ^ (32 - s):=by rw [←Nat.pow_add,show s+(32 - s)=32 by omega]
 have hstep:=down_step (b:=W) (S:=2 ^ s) (D:=2 ^ (32 - s)) (x:=L.getD i 0) (y:=L.getD (i+1) 0) (X:=nv W (L.drop (i+1))) (Y:=nv W (L.drop (i+2))) hb (Nat.pow_pos (by decide)) (drop_nv W L (by omega))
 have hnew:L.getD i 0 / 2 ^ s+L.getD (i+1) 0 * 2 ^ (32 - s) % 4294967296<4294967296:=by
  have a1:L.getD i 0 / 2 ^ s<2 ^ (32 - s):=Nat.div_lt_of_lt_mul (by rw [←hb];exact bx)
  have a2:L.getD (i+1) 0 * 2 ^ (32 - s) % 4294967296=2 ^ (32 - s) * (L.getD (i+1) 0 % 2 ^ s):=by
   rw [hb,Nat.mul_comm (L.getD (i+1) 0),Nat.mul_comm (2 ^ s),Nat.mul_mod_mul_left]
  have a3:L.getD (i+1) 0 % 2 ^ s<2 ^ s:=Nat.mod_lt _ (Nat.pow_pos (by decide))
  have a4:=Nat.mul_le_mul_left (2 ^ (32 - s)) (show L.getD (i+1) 0 % 2 ^ s+1≤2 ^ s from a3)
  rw [Nat.mul_add,Nat.mul_comm (2 ^ (32 - s)) (2 ^ s),←hb] at a4
  rw [a2]
  omega
 refine ⟨L.getD i 0,L.getD (i+1) 0,bx,by_,by rw [h5.cell (by omega),hx],by rw [h5.cell (by omega),hy],h5.frozen i,hnew,L3.set i (L.getD i 0 / 2 ^ s+L.getD (i+1) 0 * 2 ^ (32 - s) % 4294967296),by simpa using h1,h2.set hnew _,?_,?_,h5.set_ _ _,h6.far ?_ _,h7.setCell (by simp) _⟩
 ·rw [drop_set_hi (by omega)];exact drop_more h3 (by omega)
 ·rw [nvp_set_at (by omega),pow_succ_mul,←h4,drop_nv W L (show i<L.length by omega),hstep,Nat.mul_add (W ^ i),Nat.add_assoc]
  congr 1
  rw [←Nat.mul_add,←Nat.mul_add]
 ·intro g hg
  injection hg with hg;injection hg with hg
  simp;omega
def Bx (w:World) (g:Nat) (x y:Value):Prop:=w.heap[g]?=some (.cells #[x,y] 39 (0,0))
section
variable {w w':World} {C g:Nat} {x y u v:Value} {p:Addr}
theorem Bx.below (h:Bx w g x y) (hb:Below C w w') (hg:g<C):Bx w' g x y:=(hb.block g hg).trans h
theorem Bx.facts (h:Bx w g x y):w.cell? ⟨g,0,none⟩=some x∧w.cell? ⟨g,1,none⟩=some y∧w.frozen? ⟨g,0,none⟩=false∧w.frozen? ⟨g,1,none⟩=false:=
 two_cells (Below.refl (g+1) w) h (by omega)
theorem Bx.lt (h:Bx w g x y):g<w.heap.size:=(Array.getElem?_eq_some_iff.1 h).1
theorem Bx.far (h:Bx w g x y) (hp:g≠p.block) (u:Value):Bx (w.setCell p u) g x y:=(Below.heap_setCell w p u g hp).trans h
theorem Bx.set (h:Bx w g x y) (u v:Value):Bx ((w.setCell ⟨g,0,none⟩ u).setCell ⟨g,1,none⟩ v) g u v:=by
 unfold Bx at h ⊢
 simp [World.setCell,Array.getElem?_modify,h]
theorem Bx.alloc (h:Bx w g x y) (o:Obj):Bx (w.alloc o) g x y:=by
 have:=h.lt
 unfold Bx at h ⊢
 rw [World.alloc]
 simp only [Array.getElem?_push]
 rw [if_neg (by omega)];exact h
theorem Bx.new (w:World) (x y:Value):Bx (w.alloc (.cells #[x,y] 39)) w.heap.size x y:=heap_alloc_new w _
end
theorem Own.farB {t:TypeId} {w:World} {B n c:Nat} {A:Option Addr} {xs:List Value} {p:Addr} (h:Own t w B A n c xs) (hp:p.block<B) (u:Value):Own t (w.setCell p u) B A n c xs:=by
 refine h.far ?_ u
 intro g' hA
 rcases h.form with ⟨h1,_⟩ | ⟨g2,h1,h2,_⟩
 ·rw [h1] at hA;cases hA
 ·rw [h1] at hA
  injection hA with hA
  injection hA with hA
  omega
def pval (r:Nat) (ds:List Nat):Nat:=ds.foldl (fun a d=>a * r+d) 0
theorem pval_snoc (r:Nat) (ds:List Nat) (d:Nat):pval r (ds ++ [d])=pval r ds * r+d:=by simp [pval]
theorem pval_take_succ (r:Nat) (ds:List Nat) {k:Nat} (h:k<ds.length):pval r (ds.take (k+1))=pval r (ds.take k) * r+ds.getD k 0:=by
 rw [List.take_succ_eq_append_getElem h,pval_snoc,getD_eq h]
theorem nrm_snoc {l:List Nat} {c:Nat} (hc:c≠0):Nrm (l ++ [c]):=by
 intro h;simpa using hc
theorem nrm_len {l:List Nat} (hn:Nrm l) {k:Nat} (h:nv W l<W ^ k):l.length≤k:=by
 by_cases hl:l = []
 ·simp [hl]
 ·have h1:=nv_ge (b:=W) hn hl
  have:=pow_lt_pow' (b:=W) (by decide) (Nat.lt_of_le_of_lt h1 h)
  have hlen:0<l.length:=List.length_pos_iff.2 hl
  omega
def PRel (W0:World) (r:Nat) (ds:List Nat) (i:Nat) (lv:Value) (wr:World):Prop:=
 ∃ A n c l,lv = .slice A n c∧OwnU wr W0.heap.size A n c (u32s l)∧l.length=n∧n≤128∧Dig W l∧Nrm l∧nv W l=pval r (ds.take i)∧nv W l<2 ^ 4096∧Below W0.heap.size W0 wr
def PIn (W0:World) (A:Option Addr) (n c:Nat) (l:List Nat) (r d k:Nat) (cv:Value) (wr:World):Prop:=
 ∃ (o:List Nat) (cy:Nat),cv = .int .u64 (cy:Int)∧cy<4294967296∧o.length=n∧Dig W o∧(∀ j,k≤j→o.getD j 0=l.getD j 0)∧nv W o+W ^ k * cy+nvp W l k=nvp W l k * r+d+nv W l ∧
  OwnU wr W0.heap.size A n c (u32s o)∧Below W0.heap.size W0 wr
theorem par_lt {x r c:Nat} (hx:x<4294967296) (hr:r≤36) (hc:c<4294967296):x * r≤154618822620∧(x * r+c) / 4294967296<4294967296:=by
 have h:x * r≤4294967295 * 36:=Nat.mul_le_mul (by omega) hr
 omega
theorem PIn.facts {W0 wr:World} {g n c:Nat} {l:List Nat} {r d k:Nat} {cv:Value} (h:PIn W0 (some ⟨g,0,none⟩) n c l r d k cv wr) (hk:k<n) (hr:r≤36) (hl:Dig W l) :
  ∃ cy:Nat,cv = .int .u64 (cy:Int)∧cy<4294967296∧wr.cell? ⟨g,k,none⟩=some (.int .u32 (l.getD k 0:Nat))∧wr.frozen? ⟨g,k,none⟩=false ∧
   PIn W0 (some ⟨g,0,none⟩) n c l r d (k+1) (.int .u64 (((l.getD k 0 * r+cy) / 4294967296:Nat):Int)) (wr.setCell ⟨g,k,none⟩ (.int .u32 (((l.getD k 0 * r+cy) % 4294967296:Nat):Int))):=by
 obtain ⟨o,cy,rfl,h1,h2,h3,h4,h5,h6,h7⟩:=h
 have hx:l.getD k 0<4294967296:=hl.getD (by decide) k
 obtain ⟨g1,g2⟩:=par_lt hx hr h1
 have hB:W0.heap.size≤g:=by
  obtain ⟨g',e,h8,_⟩:=Own.at_ h6 (by omega)
  injection e with e;injection e with e;omega
 refine ⟨cy,rfl,h1,by rw [Own.cell h6 hk,u32s_get (by omega),h4 k (Nat.le_refl _)],Own.frozen h6 k,?_⟩
 refine ⟨o.set k ((l.getD k 0 * r+cy) % 4294967296),_,rfl,g2,by simpa using h2,h3.set (Nat.mod_lt _ (by decide)) _,fun j hj=>?_,?_,?_,h7.setCell hB _⟩
 ·rw [lget_set_ne (by omega)];exact h4 j (by omega)
 ·have e1:=nv_set W (l:=o) (p:=k) (by omega) ((l.getD k 0 * r+cy) % 4294967296)
  rw [h4 k (Nat.le_refl _)] at e1
  rw [nvp_succ,pow_succ_mul]
  have e2:W ^ k * ((l.getD k 0 * r+cy) % 4294967296)+W ^ k * (W * ((l.getD k 0 * r+cy) / 4294967296))=W ^ k * (l.getD k 0 * r)+W ^ k * cy:=by
   rw [←Nat.mul_add,←Nat.mul_add]
   congr 1
   exact Nat.mod_add_div _ _
  rw [Nat.add_mul,Nat.mul_assoc (W ^ k)]
  omega
 ·have:=Own.set_ h6 k (.int .u32 (((l.getD k 0 * r+cy) % 4294967296:Nat):Int))
  rwa [u32s_set] at this
theorem PIn.done {W0 wr:World} {A:Option Addr} {n c:Nat} {l:List Nat} {r d:Nat} {cv:Value} (h:PIn W0 A n c l r d n cv wr) (hl:l.length=n) :
  ∃ (o:List Nat) (cy:Nat),cv = .int .u64 (cy:Int)∧cy<4294967296∧o.length=n∧Dig W o∧nv W o+W ^ n * cy=nv W l * r+d∧OwnU wr W0.heap.size A n c (u32s o)∧Below W0.heap.size W0 wr:=by
 obtain ⟨o,cy,rfl,h1,h2,h3,h4,h5,h6,h7⟩:=h
 rw [nvp_all (Nat.le_of_eq hl)] at h5
 exact ⟨o,cy,rfl,h1,h2,h3,by omega,h6,h7⟩
theorem PRel.more {W0 wr:World} {A:Option Addr} {n c:Nat} {l o:List Nat} {r i cy:Nat} {ds:List Nat} (hi:i<ds.length) (hv:nv W l=pval r (ds.take i)) (hcy:cy≠0) (hcy4:cy<4294967296)
  (h1:o.length=n) (h2:Dig W o) (h3:nv W o+W ^ n * cy=nv W l * r+ds.getD i 0) (h4:OwnU wr W0.heap.size A (n+1) c (u32s (o ++ [cy]))) (h5:Below W0.heap.size W0 wr) :
  nv W (o ++ [cy])=pval r (ds.take (i+1))∧(nv W (o ++ [cy])<2 ^ 4096→PRel W0 r ds (i+1) (.slice A (n+1) c) wr):=by
 have e:nv W (o ++ [cy])=pval r (ds.take (i+1)):=by rw [pval_take_succ r ds hi,←hv,←h3,nv_snoc,h1]
 have hl:(o ++ [cy]).length=n+1:=by simp [h1]
 refine ⟨e,fun hlt=>⟨A,n+1,c,o ++ [cy],rfl,h4,hl,?_,h2.append (Dig.cons hcy4 (Dig.nil _)),nrm_snoc hcy,e,hlt,h5⟩⟩
 have:=nrm_len (k:=128) (nrm_snoc (l:=o) hcy) (by rw [W128];exact hlt)
 omega
def chrN (d:Nat):Nat:=if d<10 then 48+d else 87+d
def u8s (l:List Nat):List Value:=l.map fun x:Nat=>Value.int .u8 (x:Int)
abbrev OwnB:=Own 5
theorem u8s_get {l:List Nat} {i:Nat} (h:i<l.length):(u8s l)[i]?=some (.int .u8 (l.getD i 0:Nat)):=by
 simp [u8s,h]
theorem u8s_set (l:List Nat) (k x:Nat):(u8s l).set k (.int .u8 (x:Int))=u8s (l.set k x):=by simp [u8s,List.map_set]
def TIn (W1:World) (B1 B2 g n c:Nat) (l:List Nat) (A':Option Addr) (n' c':Nat) (out:List Nat) (r i:Nat) (sv:Value) (wr:World):Prop:=
 ∃ (o:List Nat) (rem:Nat),sv = .int .u32 (rem:Int)∧rem<r∧o.length=n∧Dig W o∧(∀ j,j<i→o.getD j 0=l.getD j 0)∧nv W (o.drop i) * r+rem=nv W (l.drop i) ∧
  OwnU wr B1 (some ⟨g,0,none⟩) n c (u32s o)∧OwnB wr B2 A' n' c' (u8s out)∧Below B1 W1 wr
theorem drop_set_nv {o:List Nat} {j q:Nat} (h:j<o.length):nv W ((o.set j q).drop j)=q+W * nv W (o.drop (j+1)):=by
 rw [drop_nv W _ (by simpa using h),List.getD_eq_getElem?_getD,List.getElem?_set_self h,List.drop_set_of_lt (by omega)];rfl
theorem TIn.facts {W1 wr:World} {B1 B2 g n c:Nat} {l:List Nat} {A':Option Addr} {n' c':Nat} {out:List Nat} {r j:Nat} {sv:Value}
  (h:TIn W1 B1 B2 g n c l A' n' c' out r (j+1) sv wr) (hj:j<n) (hl:Dig W l) (hln:l.length=n) (hr:r≤36) (hg1:B1≤g) (hg2:g<B2) :
  ∃ rem:Nat,sv = .int .u32 (rem:Int)∧rem<r∧wr.cell? ⟨g,j,none⟩=some (.int .u32 (l.getD j 0:Nat))∧wr.frozen? ⟨g,j,none⟩=false ∧
   Hid (∀ w2,Dr wr w2→w2.cell? ⟨g,j,none⟩=some (.int .u32 (l.getD j 0:Nat))∧w2.frozen? ⟨g,j,none⟩=false∧TIn W1 B1 B2 g n c l A' n' c' out r j (.int .u32 (((rem * 4294967296+l.getD j 0) % r:Nat):Int)) (w2.setCell ⟨g,j,none⟩ (.int .u32 (((rem * 4294967296+l.getD j 0) / r:Nat):Int)))):=by
 obtain ⟨o,rem,rfl,h0,h1,h2,h3,h4,h5,h6,h7⟩:=h
 have hx:l.getD j 0<4294967296:=hl.getD (by decide) j
 have hc:wr.cell? ⟨g,j,none⟩=some (.int .u32 (l.getD j 0:Nat)):=by rw [Own.cell h5 hj,u32s_get (by omega),h3 j (by omega)]
 have hf:=Own.frozen h5 j
 have hq:(rem * 4294967296+l.getD j 0) / r<4294967296:=Nat.div_lt_of_lt_mul (by
  have:=Nat.mul_le_mul_right 4294967296 (show rem+1≤r from h0)
  rw [Nat.add_mul] at this
  rw [Nat.mul_comm r];omega)
 refine ⟨rem,rfl,h0,hc,hf,fun w2 hd=>⟨(hd.cell _).trans hc,(hd.frozen _).trans hf,?_⟩⟩
 have k5:OwnU w2 B1 (some ⟨g,0,none⟩) n c (u32s o):=by obtain ⟨k,rfl⟩:=hd;exact h5
 have k6:OwnB w2 B2 A' n' c' (u8s out):=by obtain ⟨k,rfl⟩:=hd;exact h6
 have k7:Below B1 W1 w2:=by obtain ⟨k,rfl⟩:=hd;exact belowN h7 k
 refine ⟨o.set j ((rem * 4294967296+l.getD j 0) / r),_,rfl,Nat.mod_lt _ (by omega),by simpa using h1,h2.set hq _,fun i hi=>?_,?_,?_,Own.farB k6 hg2 _,k7.setCell hg1 _⟩
 ·rw [lget_set_ne (by omega)];exact h3 i (by omega)
 ·rw [drop_set_nv (by omega),drop_nv W l (by omega),←h4]
  have e:=Nat.div_add_mod (rem * 4294967296+l.getD j 0) r
  show ((rem * 4294967296+l.getD j 0) / r+4294967296 * nv W (o.drop (j+1))) * r+_=l.getD j 0+4294967296 * _
  rw [Nat.add_mul,Nat.mul_add,Nat.mul_comm _ r,Nat.mul_assoc]
  omega
 ·have:=Own.set_ k5 j (.int .u32 (((rem * 4294967296+l.getD j 0) / r:Nat):Int))
  rwa [u32s_set] at this
theorem TIn.done {W1 wr:World} {B1 B2 g n c:Nat} {l:List Nat} {A':Option Addr} {n' c':Nat} {out:List Nat} {r:Nat} {sv:Value}
  (h:TIn W1 B1 B2 g n c l A' n' c' out r 0 sv wr) :
  ∃ o:List Nat,sv = .int .u32 ((nv W l % r:Nat):Int)∧nv W l % r<r∧o.length=n∧Dig W o∧nv W o=nv W l / r∧OwnU wr B1 (some ⟨g,0,none⟩) n c (u32s o)∧OwnB wr B2 A' n' c' (u8s out)∧Below B1 W1 wr:=by
 obtain ⟨o,rem,rfl,h0,h1,h2,h3,h4,h5,h6,h7⟩:=h
 simp only [List.drop_zero] at h4
 have e1:nv W l % r=rem:=by rw [←h4,Nat.mul_comm,Nat.mul_add_mod,Nat.mod_eq_of_lt h0]
 have e2:nv W l / r=nv W o:=by rw [←h4,Nat.mul_comm,Nat.mul_add_div (by omega),Nat.div_eq_of_lt h0,Nat.add_zero]
 exact ⟨o,by rw [e1],by rw [e1];exact h0,h1,h2,e2.symm,h5,h6,h7⟩
def TRel (W1:World) (B1 B2 g c r N:Nat) (lv ov:Value) (wr:World):Prop:=
 ∃ (n:Nat) (l:List Nat) (A':Option Addr) (n' c':Nat) (ds:List Nat),lv = .slice (some ⟨g,0,none⟩) n c∧ov = .slice A' n' c'∧l.length=n∧n≤128∧Dig W l∧Nrm l ∧
  digs r N=ds ++ digs r (nv W l)∧ds.length=n'∧n'≤4096∧OwnU wr B1 (some ⟨g,0,none⟩) n c (u32s l)∧OwnB wr B2 A' n' c' (u8s (ds.map chrN))∧Below B1 W1 wr
theorem TRel.lt {r N:Nat} {l:List Nat} {ds:List Nat} (hr:2≤r) (hn:l ≠ []) (hnrm:Nrm l) (h:digs r N=ds ++ digs r (nv W l)):ds.length<(digs r N).length:=by
 have h1:=nv_pos (b:=W) (by decide) hnrm hn
 rw [h,digs_pos (by omega) (by omega)]
 simp
def RvRel (w1:World) (B1 B2 n g c:Nat) (l:List Nat) (i:Nat) (wr:World):Prop:=
 ∃ o:List Nat,o.length=n∧(∀ j,j<n→o.getD j 0=if j<i∨n≤j+i then l.getD (n - 1 - j) 0 else l.getD j 0)∧OwnB wr B2 (some ⟨g,0,none⟩) n c (u8s o)∧Below B1 w1 wr
theorem RvRel.facts {w1 wr:World} {B1 B2 n g c i k:Nat} {l:List Nat} (h:RvRel w1 B1 B2 n g c l i wr) (hk:k+i+1=n) (hik:i<k) (hB:B1≤g) :
  wr.cell? ⟨g,i,none⟩=some (.int .u8 (l.getD i 0:Nat))∧wr.cell? ⟨g,k,none⟩=some (.int .u8 (l.getD k 0:Nat))∧wr.frozen? ⟨g,i,none⟩=false∧wr.frozen? ⟨g,k,none⟩=false ∧
   RvRel w1 B1 B2 n g c l (i+1) ((wr.setCell ⟨g,i,none⟩ (.int .u8 (l.getD k 0:Nat))).setCell ⟨g,k,none⟩ (.int .u8 (l.getD i 0:Nat))):=by
 obtain ⟨o,h1,h2,h3,h4⟩:=h
 have e1:=h2 i (by omega)
 rw [if_neg (by omega)] at e1
 have e2:=h2 k (by omega)
 rw [if_neg (by omega)] at e2
 refine ⟨by rw [Own.cell h3 (by omega),u8s_get (by omega),e1],by rw [Own.cell h3 (by omega),u8s_get (by omega),e2],Own.frozen h3 i,Own.frozen h3 k,?_⟩
 refine ⟨(o.set i (l.getD k 0)).set k (l.getD i 0),by simpa using h1,fun j hj=>?_,?_,(h4.setCell hB _).setCell hB _⟩
 ·by_cases hjk:j=k
  ·subst hjk
   rw [List.getD_eq_getElem?_getD,List.getElem?_set_self (by simp;omega),if_pos (by omega),show n - 1 - j=i by omega];rfl
  ·rw [lget_set_ne (by omega)]
   by_cases hji:j=i
   ·subst hji
    rw [List.getD_eq_getElem?_getD,List.getElem?_set_self (by omega),if_pos (by omega),show n - 1 - j=k by omega];rfl
   ·rw [lget_set_ne (by omega),h2 j hj]
    by_cases hc:j<i∨n≤j+i
    ·rw [if_pos hc,if_pos (by omega)]
    ·rw [if_neg hc,if_neg (by omega)]
 ·have:=Own.set_ (Own.set_ h3 i (.int .u8 (l.getD k 0:Nat))) k (.int .u8 (l.getD i 0:Nat))
  rwa [u8s_set,u8s_set] at this
theorem RvRel.done {w1 wr:World} {B1 B2 n g c i:Nat} {l:List Nat} (h:RvRel w1 B1 B2 n g c l i wr) (hl:l.length=n) (hi:n≤2 * i+1):OwnB wr B2 (some ⟨g,0,none⟩) n c (u8s l.reverse)∧Below B1 w1 wr:=by
 obtain ⟨o,h1,h2,h3,h4⟩:=h
 have:o=l.reverse:=by
  refine List.ext_getElem (by rw [List.length_reverse];omega) fun j hj hj2=>?_
  have e:=h2 j (by omega)
  rw [getD_eq hj] at e
  rw [e,List.getElem_reverse,←getD_eq]
  by_cases hc:j<i∨n≤j+i
  ·rw [if_pos hc,hl]
  ·rw [if_neg hc,hl,show n - 1 - j=j by omega]
 exact ⟨by rw [←this];exact h3,h4⟩
theorem Own.int {w:World} {B c:Nat} {A:Option Addr} {z:Int} (ho:OwnU w B A (digs W z.natAbs).length c (u32s (digs W z.natAbs))):SlU w w.heap.size A (digs W z.natAbs).length c (digs W z.natAbs):=
 Own.sl ho (dig_digs (by decide) _) rfl
end
section
open Go.ChangeShapes Go.WideShapes Go.ChangeAt Go.RowKit Go.Joins Hb
section
end
end
section
open Go.RowKit Hb
structure VE where
 g:Nat
 neg:Bool
 A:Option Addr
 n:Nat
 c:Nat
 l:List Nat
section
variable {w0 w w':World} {vs:List VE} {v:VE}
theorem SlU.to {w w':World} {B n c:Nat} {A:Option Addr} {l:List Nat} (h:SlU w B A n c l) (hb:Below w.heap.size w w') (hB:B≤w.heap.size):SlU w' w'.heap.size A n c l:=
 (h.below hb hB).mono (Nat.le_trans hB hb.size)
end
section
end
section
end
section
end
theorem Own.same {t:TypeId} {w w':World} {B g n c:Nat} {xs:List Value} (h:Own t w B (some ⟨g,0,none⟩) n c xs) (he:w'.heap[g]?=w.heap[g]?):Own t w' B (some ⟨g,0,none⟩) n c xs:=by
 refine ⟨h.1,?_⟩
 rcases h.2 with ⟨h1,_⟩ | ⟨g',cap,cur,h1,h2,h3,h4⟩
 ·cases h1
 ·have h5:=h1
  injection h5 with a b cc
  injection a with a
  injection a with a
  subst a
  exact .inr ⟨g,cap,cur,h1,h2,he.trans h3,h4⟩
theorem Bx.same {w w':World} {g:Nat} {x y:Value} (h:Bx w g x y) (he:w'.heap[g]?=w.heap[g]?):Bx w' g x y:=he.trans h
section
end
def ResB (w:World) (B:Nat) (v:Value) (z:Int):Prop:=
 ∃ A c,v = .agg #[.bool (decide (z<0)),.slice A (digs 2 z.natAbs).length c]∧OwnI w B A (digs 2 z.natAbs).length c (i64s (digs 2 z.natAbs))
end
section
open Go.RowKit Hb
attribute [local go_sem ↓] Go.wp_at_zero Go.wp_at_succ
end
section
open Go.RowKit Hb
end
section
open Go.RowKit Hb
attribute [local go_sem ↓] Go.wp_at_zero Go.wp_at_succ
end
section
open Go.RowKit Hb
end
section
open Go.RowKit Hb
attribute [local go_sem ↓] Go.wp_at_zero Go.wp_at_succ
end
section
open Go.RowKit Hb
section
end
theorem wpList_append_u32 {ops:Array Oper} {rest:List Oper} {o:Oper} {a:Act} {Q:Exit→Act→World→Prop} {w:World} (hgd:o.guard=none) (s x:Operand)
  (ho:o.op = .call { callee:=.builtin .append,args:=#[s,x],argTypes:=#[37,37] })
  (base:Nat) (A:Option Addr) (n cp:Nat) (l:List Nat) (hs:a.eval s = .slice A n cp) (hown:OwnU w base A n cp (u32s l))
  (g:Nat) (y:Nat) (hx:a.eval x = .slice (some ⟨g,0,none⟩) 1 1) (hc:w.cell? ⟨g,0,none⟩=some (.int .u32 (y:Int))) (hn:n≤67108864) (hbase:base≤w.heap.size)
  (h:∀ A' c' w',OwnU w' base A' (n+1) c' (u32s (l ++ [y]))→Below base w w'→wpList Tryz.prog ops Q rest (a.put o.dst (.slice A' (n+1) c')) w'):wpList Tryz.prog ops Q (o :: rest) a w:=by
 obtain ⟨i0,hi,hz0,hz1,hz2⟩:=info_parts infoU
 refine wpList_append_own _ hgd s x 37 ho base 79 i0 (.int .u32 0) 1 4 Tryz.underlying37 hi hz0 hz1 hz2 rfl (by decide) _ n (u32s l) hs hown ⟨g,0,none⟩ 1 1 [.int .u32 (y:Int)] hx rfl ?_ ?_ (by simp [maxLen];omega) (by omega) hbase ?_
 ·intro j u hj
  cases j with
  | zero=>simp at hj;subst hj;exact hc
  | succ j=>simp at hj
 ·intro u hu;simp at hu;subst hu;rfl
 ·intro v' w' hown' hg _
  have hf:∃ A' c',v' = .slice A' (n+1) c':=by
   rcases hown'.2 with ⟨h1,h2⟩ | ⟨g',cap,cur,h1,_⟩
   ·exact absurd h2 (by simp)
   ·exact ⟨_,_,h1⟩
  obtain ⟨A',c',rfl⟩:=hf
  refine h A' c' w' (by have h3:=hown';rw [show u32s l ++ [Value.int .u32 (y:Int)]=u32s (l ++ [y]) by simp [u32s]] at h3;exact h3) ⟨hg.os,hg.tape,hg.output,hg.size,fun j hj=>hg.block j (by omega) ?_⟩
  rcases Own.form hown with ⟨rfl,_⟩ | ⟨g',rfl,h4,_⟩
  ·simp [Value.ownBlock]
  ·simp [Value.ownBlock];omega
end
section
open Go.ChangeShapes Go.WideShapes Go.ChangeAt Go.RowKit Go.Joins Hb
section
end
end
section
open Go.RowKit Hb
section
end
section
end
section
end
section
end
section
end
set_option maxRecDepth 100000 in
set_option maxHeartbeats 1000000 in
theorem rcut_any {B:Nat} {A:Option Addr} {l:List Nat} {n c:Nat} {w:World} (hs:SlI w B A n c l) :
  Calls Tryz.prog 137 #[.slice A n c] w fun e w'=>e = .returned (.slice A (tlen l) c)∧w=w':=by
 have hm:=hs.max
 have hc:=hs.cap
 have hlen:=hs.len
 unfold maxLen at hm
 have ht:=tlen_le l
 have hn1:n≤l.length:=by omega
 have hn2:l.length≤n:=by omega
 clear hlen
 go_enter Tryz.func137,Tryz.ntmps137
 go_wp2
 go_loop [3] (fun s=>∃ k:Nat,k≤n∧tlen l≤k∧s = .int .i64 (k:Int)) (fun s=>(intOf s).toNat)
 case atStart=>exact ⟨n,by omega,by omega,rfl⟩
 case round=>
  obtain ⟨k,hk,hkl,rfl⟩:=hrel
  by_cases h0:k=0
  ·subst h0
   have HZ:=Lib.hid (show tlen l=0 by omega)
   clear ht hkl
   go_wp2
   go_ret
   exact ⟨ret_eq (by rw [HZ.out];rfl),rfl⟩
  ·obtain ⟨b,o,rfl,_,hcell⟩:=hs.at_ (by omega)
   have hx:=hcell (k - 1) (by omega)
   have hk1:1≤k:=by omega
   have hki:(0:Int)<(k:Int):=by omega
   have hks:(k:Int) - 1=((k - 1:Nat):Int):=by omega
   have hkn:((k - 1:Nat):Int)<(n:Int):=by omega
   have hz1:=tlen_take_last (l:=l) (n:=k - 1) (by omega)
   have hz2:=fun h=>tlen_eq_of (l:=l) (n:=k) hkl (.inr h)
   generalize l.getD (k - 1) 0=x at hx hz1 hz2
   clear hcell hs
   by_cases hz:x=0
   ·have hlt:=hz1 hz
    subst hz
    clear hz1 hz2
    go_wp2
    go_round
    case rel=>exact ⟨k - 1,by omega,by omega,rfl⟩
    case measure=>simp [intOf];omega
   ·have HZ:=Lib.hid (hz2 hz)
    have hb:((x:Int)==0)=false:=beq_eq_false_iff_ne.2 (by omega)
    clear hz1 hz2
    go_wp2
    go_ret
    exact ⟨ret_eq (by rw [HZ.out];rfl),rfl⟩
def bitZ (l:List Nat) (i:Int):Nat:=if 0≤i then l.getD i.toNat 0 else 0
theorem getD_past {l:List Nat} {k:Nat} (h:l.length≤k):l.getD k 0=0:=by
 rw [List.getD_eq_getElem?_getD,List.getElem?_eq_none h];rfl
set_option maxRecDepth 100000 in
set_option maxHeartbeats 1000000 in
theorem rbit_any {B:Nat} {A:Option Addr} {l:List Nat} {n c:Nat} {w:World} (hs:SlI w B A n c l) (i:Int) :
  Calls Tryz.prog 162 #[.slice A n c,.int .i64 i] w fun e w'=>e = .returned (.int .i64 (bitZ l i:Nat))∧w=w':=by
 have hm:=hs.max
 have hc:=hs.cap
 have hlen:=hs.len
 unfold maxLen at hm
 by_cases h0:0≤i
 ·obtain ⟨k,rfl⟩:=Int.eq_ofNat_of_zero_le h0
  have hv:bitZ l (k:Int)=l.getD k 0:=by rw [bitZ,if_pos h0,Int.toNat_natCast]
  by_cases hk:k<n
  ·obtain ⟨b,o,rfl,_,hcell⟩:=hs.at_ (by omega)
   have hx:=hcell k hk
   have hkI:(k:Int)<(n:Int):=by omega
   rw [←hv] at hx
   generalize bitZ l (k:Int)=x at *
   clear hcell hs hlen hv
   go_enter Tryz.func162,Tryz.ntmps162
   go_wp2
   go_ret
   exact ⟨rfl,rfl⟩
  ·have hz:bitZ l (k:Int)=0:=by rw [hv];exact getD_past (by omega)
   rw [hz]
   have hkI:¬(k:Int)<(n:Int):=by omega
   clear hs hlen hv hz
   go_enter Tryz.func162,Tryz.ntmps162
   go_wp2
   go_ret
   exact ⟨rfl,rfl⟩
 ·have hz:bitZ l i=0:=by rw [bitZ,if_neg h0]
  rw [hz]
  have d0:decide (0≤i)=false:=decide_eq_false h0
  clear hs hlen hz h0
  go_enter Tryz.func162,Tryz.ntmps162
  go_wp2
  go_ret
  exact ⟨rfl,rfl⟩
set_option maxHeartbeats 400000 in
theorem rlaid_any (neg:Bool) {B:Nat} {A:Option Addr} {l:List Nat} {n c:Nat} {w:World} (hs:SlI w B A n c l) (hB:B≤w.heap.size) :
  Calls Tryz.prog 138 #[.bool neg,.slice A n c] w fun e w'=>e = .returned (.agg #[.bool (sg neg l),.slice A (tlen l) c])∧Below w.heap.size w w':=by
 have HI:=Lib.hid (fun w1 (hb:Below w.heap.size w w1)=>rcut_any (hs.below (C:=w.heap.size) hb hB))
 have HB:=Lib.hid (Below.refl w.heap.size w)
 clear hs hB
 cases neg
 ·go_enter Tryz.func138,Tryz.ntmps138
  go_wp2_with (go_at_call 137;refine (HI.out _ (HB.out.alloc (Nat.le_refl _) _)).mono ?_;rintro e w' ⟨rfl,rfl⟩)
  exact bodyPost_ret (v:=.agg #[.bool false,.slice A (tlen l) c]) (by simp [results,Tryz.results138,go_sem]) rfl ⟨rfl,HB.out.alloc (Nat.le_refl _) _⟩
 ·by_cases h0:tlen l=0
  ·have HS:=Lib.hid (sg_zero (neg:=true) h0)
   rw [h0] at HI ⊢
   clear h0
   go_enter Tryz.func138,Tryz.ntmps138
   go_wp2_with (go_at_call 137;refine (HI.out _ (HB.out.alloc (Nat.le_refl _) _)).mono ?_;rintro e w' ⟨rfl,rfl⟩)
   exact bodyPost_ret (v:=.agg #[.bool false,.slice A 0 c]) (by simp [results,Tryz.results138,go_sem]) rfl ⟨by rw [HS.out],HB.out.alloc (Nat.le_refl _) _⟩
  ·have h1:0<tlen l:=by omega
   have HS:=Lib.hid (sg_pos (neg:=true) h1)
   generalize hk:tlen l=k at HI h1 ⊢
   clear h0 hk
   go_enter Tryz.func138,Tryz.ntmps138
   go_wp2_with (go_at_call 137;refine (HI.out _ (HB.out.alloc (Nat.le_refl _) _)).mono ?_;rintro e w' ⟨rfl,rfl⟩)
   exact bodyPost_ret (v:=.agg #[.bool true,.slice A k c]) (by simp [results,Tryz.results138,go_sem]) rfl ⟨by rw [HS.out],HB.out.alloc (Nat.le_refl _) _⟩
def bval (neg:Bool) (l:List Nat):Int:=if neg then -(nv 2 l:Int) else (nv 2 l:Int)
theorem bval_natAbs (neg:Bool) (l:List Nat):(bval neg l).natAbs=nv 2 l:=by unfold bval;split <;> omega
theorem bval_sg (neg:Bool) (l:List Nat):decide (bval neg l<0)=sg neg l:=by
 have h:=tlen_zero_iff (b:=2) (by decide) l
 cases neg
 ·simp [bval,sg]
 ·by_cases h0:tlen l=0
  ·rw [sg_zero h0];simp [bval,h.1 h0]
  ·rw [sg_pos (by omega)]
   have:nv 2 l≠0:=fun e=>h0 (h.2 e)
   simp [bval];omega
theorem rlaid_at (neg:Bool) {B:Nat} {A:Option Addr} {l:List Nat} {n c:Nat} {w:World} (h:OwnI w B A n c (i64s l)) (hl:l.length=n) (hd:Dig 2 l) {z:Int} (hz:bval neg l=z) :
  Calls Tryz.prog 138 #[.bool neg,.slice A n c] w fun e w'=>e = .returned (.agg #[.bool (decide (z<0)),.slice A (digs 2 z.natAbs).length c])∧OwnI w' B A (digs 2 z.natAbs).length c (i64s (digs 2 z.natAbs))∧Below w.heap.size w w':=by
 refine (rlaid_any neg (h.sl hd hl) (Nat.le_refl _)).mono fun e w' ⟨he,hb⟩=>?_
 have ht:tlen l≤n:=by rw [←hl];exact tlen_le l
 have e1:=tr_eq_digs (b:=2) (by decide) hd
 have e2:(digs 2 (nv 2 l)).length=tlen l:=by rw [←e1,tr_length]
 subst hz
 rw [bval_sg,bval_natAbs,e2,←e1]
 refine ⟨he,?_,hb⟩
 have:=(h.below hb (Nat.le_refl _)).take ht
 rwa [i64s_take] at this
theorem ResB.stored {w w2:World} {base g:Nat} {v u u':Value} {z:Int} (hr:ResB w2 base v z) (hb:Below w.heap.size w w2) (hg:g<base) (hwg:w.heap.size≤g) :
  ResB ((w2.setCell ⟨g,0,none⟩ u).setCell ⟨g,1,none⟩ u') w.heap.size v z∧Below w.heap.size w ((w2.setCell ⟨g,0,none⟩ u).setCell ⟨g,1,none⟩ u'):=by
 refine ⟨?_,(hb.setCell (by simpa using hwg) _).setCell (by simpa using hwg) _⟩
 obtain ⟨A,c,hv,ho⟩:=hr
 exact ⟨A,c,hv,Own.mono (Own.farB (Own.farB ho (p:=⟨g,0,none⟩) hg u) (p:=⟨g,1,none⟩) hg u') (by omega)⟩
theorem wpList_append_i64 {ops:Array Oper} {rest:List Oper} {o:Oper} {a:Act} {Q:Exit→Act→World→Prop} {w:World} (hgd:o.guard=none) (s x:Operand)
  (ho:o.op = .call { callee:=.builtin .append,args:=#[s,x],argTypes:=#[57,57] })
  (base:Nat) (A:Option Addr) (n cp:Nat) (l:List Nat) (hs:a.eval s = .slice A n cp) (hown:OwnI w base A n cp (i64s l))
  (g:Nat) (y:Nat) (hx:a.eval x = .slice (some ⟨g,0,none⟩) 1 1) (hc:w.cell? ⟨g,0,none⟩=some (.int .i64 (y:Int))) (hn:n≤4294967296) (hbase:base≤w.heap.size)
  (h:∀ A' c' w',OwnI w' base A' (n+1) c' (i64s (l ++ [y]))→Below base w w'→wpList Tryz.prog ops Q rest (a.put o.dst (.slice A' (n+1) c')) w'):wpList Tryz.prog ops Q (o :: rest) a w:=by
 obtain ⟨i0,hi,hz0,hz1,hz2⟩:=info_parts infoI
 refine wpList_append_own _ hgd s x 57 ho base 3 i0 (.int .i64 0) 1 8 Tryz.underlying57 hi hz0 hz1 hz2 rfl (by decide) _ n (i64s l) hs hown ⟨g,0,none⟩ 1 1 [.int .i64 (y:Int)] hx rfl ?_ ?_ (by simp [maxLen];omega) (by omega) hbase ?_
 ·intro j u hj
  cases j with
  | zero=>simp at hj;subst hj;exact hc
  | succ j=>simp at hj
 ·intro u hu;simp at hu;subst hu;rfl
 ·intro v' w' hown' hg _
  have hf:∃ A' c',v' = .slice A' (n+1) c':=by
   rcases hown'.2 with ⟨h1,h2⟩ | ⟨g',cap,cur,h1,_⟩
   ·exact absurd h2 (by simp)
   ·exact ⟨_,_,h1⟩
  obtain ⟨A',c',rfl⟩:=hf
  refine h A' c' w' (by have h3:=hown';rw [show i64s l ++ [Value.int .i64 (y:Int)]=i64s (l ++ [y]) by simp [i64s]] at h3;exact h3) ⟨hg.os,hg.tape,hg.output,hg.size,fun j hj=>hg.block j (by omega) ?_⟩
  rcases Own.form hown with ⟨rfl,_⟩ | ⟨g',rfl,h4,_⟩
  ·simp [Value.ownBlock]
  ·simp [Value.ownBlock];omega
def OfRel (W0:World) (bs:List Nat) (bv:Value) (wr:World):Prop:=
 ∃ A n c,bv = .slice A n c∧OwnI wr W0.heap.size A n c (i64s bs)∧bs.length=n∧Below W0.heap.size W0 wr
theorem OfRel.start (W0:World):OfRel W0 [] (.slice none 0 0) W0:=⟨none,0,0,rfl,⟨rfl,.inl ⟨rfl,rfl⟩⟩,rfl,Below.refl _ _⟩
def RAdd (W0:World) (a b:List Nat) (k c:Nat) (ov:Value) (wr:World):Prop:=
 ∃ A n cp o,ov = .slice A n cp∧OwnI wr W0.heap.size A n cp (i64s o)∧o.length=n∧n=k∧Dig 2 o∧nv 2 o+2 ^ k * c=nvp 2 a k+nvp 2 b k∧c≤1∧Below W0.heap.size W0 wr
theorem RAdd.start (W0:World) (a b:List Nat):RAdd W0 a b 0 0 (.slice none 0 0) W0:=
 ⟨none,0,0,[],rfl,⟨rfl,.inl ⟨rfl,rfl⟩⟩,rfl,rfl,Dig.nil _,by simp [nv,nvp_zero],by omega,Below.refl _ _⟩
theorem bitZ_nat (l:List Nat) (k:Nat):bitZ l (k:Int)=l.getD k 0:=by rw [bitZ,if_pos (by omega),Int.toNat_natCast]
def RSub (W0:World) (a b:List Nat) (k c:Nat) (ov:Value) (wr:World):Prop:=
 ∃ A n cp o,ov = .slice A n cp∧OwnI wr W0.heap.size A n cp (i64s o)∧o.length=n∧n=k∧Dig 2 o∧nv 2 o+nvp 2 b k=nvp 2 a k+2 ^ k * c∧c≤1∧Below W0.heap.size W0 wr
theorem RSub.start (W0:World) (a b:List Nat):RSub W0 a b 0 0 (.slice none 0 0) W0:=
 ⟨none,0,0,[],rfl,⟨rfl,.inl ⟨rfl,rfl⟩⟩,rfl,rfl,Dig.nil _,by simp [nv,nvp_zero],by omega,Below.refl _ _⟩
end
end Go.Proofs.YtjpnmmjgdiiahaaGreatDoor
namespace Hb
def lim (B:List Nat) (i:Nat):Nat:=nv 2 ((B.drop (32 * i)).take 32)
end Hb
namespace Go.Proofs.YtjpnmmjgdiiahaaGreatDoor
section
open Go.RowKit Hb
end
end Go.Proofs.YtjpnmmjgdiiahaaGreatDoor
namespace Hb
end Hb
namespace Go.Proofs.YtjpnmmjgdiiahaaGreatDoor
section
open Go.RowKit Hb
section
end
end
section
open Go.ChangeShapes Go.WideShapes Go.ChangeAt Go.RowKit Go.Joins Hb
end
section
open Go.RowKit Hb
section
end
section
end
theorem ret_tup {a b c d:Value} (h1:a=c) (h2:b=d):Ending.returned (.tuple #[a,b]) = .returned (.tuple #[c,d]):=by rw [h1,h2]
theorem int_eq {k:IntKind} {a b:Int} (h:a=b):Value.int k a=Value.int k b:=by rw [h]
theorem or_hi_lo (h lo:Nat) (hh:h<4294967296) (hl:lo<4294967296):bits .or .u64 ((h:Int) * 4294967296) (lo:Int)=((h * 4294967296+lo:Nat):Int):=by
 have:=bits_or_u64 (h * 4294967296) lo (by omega) (by omega)
 rw [Nat.or_comm,or_add (s:=32) (by omega) (by omega)] at this
 rw [show ((h:Int) * 4294967296)=((h * 4294967296:Nat):Int) by omega,this]
 omega
set_option maxHeartbeats 1000000 in
theorem div32_any (h lo y:Nat) (w:World) (hh:h<y) (hy:y<4294967296) (hl:lo<4294967296) :
  Calls Tryz.prog 44 #[.int .u32 (h:Int),.int .u32 (lo:Int),.int .u32 (y:Int)] w fun e w'=>
   e = .returned (.tuple #[.int .u32 ((h * 4294967296+lo) / y:Nat),.int .u32 ((h * 4294967296+lo) % y:Nat)])∧Dr w w':=by
 have h0:((y:Int) != 0)=true:=by rw [bne_iff_ne];omega
 have h1:decide ((y:Int)≤(h:Int))=false:=decide_eq_false (by omega)
 have h2:decide (y≤h)=false:=decide_eq_false (by omega)
 have h3:(1:Int)≤(y:Int):=by omega
 have hor:=or_hi_lo h lo (by omega) hl
 have hz:h * 4294967296+lo<y * 4294967296:=by omega
 have hzq:(h * 4294967296+lo) / y<4294967296:=Nat.div_lt_of_lt_mul (by omega)
 have hzr:(h * 4294967296+lo) % y<y:=Nat.mod_lt _ (by omega)
 have hz9:h * 4294967296+lo<18446744073709551616:=by omega
 generalize h * 4294967296+lo=z at *
 obtain ⟨q,hq⟩:∃ q,z / y=q:=⟨_,rfl⟩
 obtain ⟨r,hr⟩:∃ r,z % y=r:=⟨_,rfl⟩
 have hqi:(z:Int) / (y:Int)=(q:Int):=by rw [←hq];simp
 have hri:(z:Int) % (y:Int)=(r:Int):=by rw [←hr];simp
 rw [hq] at hzq ⊢
 rw [hr] at hzr ⊢
 clear hq hr hz
 go_enter Tryz.func44,Tryz.ntmps44
 go_wp2_with fail
 go_quiet (fail)
 go_wp2
 go_ret2
 exact ⟨ret_tup (int_eq (by omega)) (int_eq (by omega)),(Dr.refl _).more _⟩
theorem TakeRel.start {w wx:World} {g k n q:Nat} {L:List Nat} (hU:UBu w g L) (hL:Dig W L) (hd:Dr w wx) (vl:List Nat):TakeRel w g k n q L vl 0 (.int .u64 0) (.int .u64 0) wx:=by
 obtain ⟨m,rfl⟩:=hd
 exact ⟨L,0,0,rfl,rfl,by omega,by omega,rfl,hL,rfl,rfl,by simp [nvp_zero],hU.drewN m,gb_drewN (gb_refl _ _) m⟩
theorem BackRel.start {w wr:World} {g k n:Nat} {L L2:List Nat} (h:RowSt w g k n L L2 wr) (vl:List Nat):BackRel w g k n L L2 vl 0 (.int .u32 0) wr:=
 ⟨L2,0,rfl,by omega,h,rfl,by simp [nvp_zero]⟩
theorem BackRel.drew {w wr:World} {g k n i:Nat} {L L2 vl:List Nat} {cv:Value} (h:BackRel w g k n L L2 vl i cv wr):BackRel w g k n L L2 vl i cv wr.drew:=by
 obtain ⟨L3,c,e,hc,⟨h1,h2,h3,h4,h5,h6⟩,h7,h8⟩:=h
 exact ⟨L3,c,e,hc,⟨h1,h2,h3,h4,h5,gb_drewN h6 1⟩,h7,h8⟩
theorem OneRel.drewN {w wr:World} {g y:Nat} {l:List Nat} {N j:Nat} {rv:Value} (h:OneRel w g y l N j rv wr) (k:Nat):OneRel w g y l N j rv (wr.drewN k):=by
 obtain ⟨o,r,h1,h2,h3,h4,h5,h6,h7⟩:=h
 exact ⟨o,r,h1,h2,h3,h4,h5,h6,belowN h7 k⟩
theorem OneRel.start {w w0:World} {y:Nat} {l:List Nat} {N:Nat} (hy:0<y) (hl:l.length=N) (hn:N≤maxLen) (hb:Below w.heap.size w w0):OneRel w w0.heap.size y l N N (.int .u32 0) (w0.alloc (.cells (madeCells #[.int .u32 0] N) 79)):=by
 refine ⟨List.replicate N 0,0,rfl,hy,by simp,Dig.replicate _ _ (by decide),?_,?_,hb.alloc hb.size _⟩
 ·rw [List.drop_eq_nil_of_le (by simp),List.drop_eq_nil_of_le (by omega)];simp [nv]
 ·have:=Own.made w0 (.int .u32 0) N 79 (B:=w.heap.size) hb.size hn
  rwa [u32s_zeros] at this
attribute [local go_sem ↓] Go.wp_at_zero Go.wp_at_succ
end
section
open Go.RowKit Hb
theorem DownRel.drew {Bo:Nat} {wb wr:World} {gu go_ N M s i:Nat} {L o:List Nat} (h:DownRel Bo wb gu go_ N M s i L o wr):DownRel Bo wb gu go_ N M s i L o wr.drew:=by
 obtain ⟨L3,h1,h2,h3,h4,h5,h6,h7⟩:=h
 exact ⟨L3,h1,h2,h3,h4,h5,h6,h7.drew⟩
def dval (c:Nat):Nat:=if 48≤c∧c≤57 then c - 48 else if 97≤c∧c≤122 then c - 87 else if 65≤c∧c≤90 then c - 55 else 99
set_option maxHeartbeats 400000 in
theorem value_any (c:Nat) (w:World) (hc:c<256):Calls Tryz.prog 37 #[.int .u8 (c:Int)] w fun e w'=>e = .returned (.int .i64 (dval c:Nat))∧w=w':=by
 have key:(c<48)∨(48≤c∧c≤57)∨(58≤c∧c<65)∨(65≤c∧c≤90)∨(91≤c∧c<97)∨(97≤c∧c≤122)∨(123≤c):=by omega
 rcases key with h | h | h | h | h | h | h
 ·have HD:=Lib.hid (show dval c=99 by simp only [dval];repeat (first | rw [if_pos (by omega)] | rw [if_neg (by omega)]))
  have:decide ((48:Int)≤(c:Int))=false:=decide_eq_false (by omega)
  have:decide ((c:Int)≤57)=true:=decide_eq_true (by omega)
  have:decide ((97:Int)≤(c:Int))=false:=decide_eq_false (by omega)
  have:decide ((c:Int)≤122)=true:=decide_eq_true (by omega)
  have:decide ((65:Int)≤(c:Int))=false:=decide_eq_false (by omega)
  have:decide ((c:Int)≤90)=true:=decide_eq_true (by omega)
  rw [HD.out]
  go_enter Tryz.func37,Tryz.ntmps37
  go_wp2
  go_ret
  exact ⟨ret_int (by omega),rfl⟩
 ·have HD:=Lib.hid (show dval c=c - 48 by simp only [dval];repeat (first | rw [if_pos (by omega)] | rw [if_neg (by omega)]))
  have:decide ((48:Int)≤(c:Int))=true:=decide_eq_true (by omega)
  have:decide ((c:Int)≤57)=true:=decide_eq_true (by omega)
  have:decide ((97:Int)≤(c:Int))=false:=decide_eq_false (by omega)
  have:decide ((c:Int)≤122)=true:=decide_eq_true (by omega)
  have:decide ((65:Int)≤(c:Int))=false:=decide_eq_false (by omega)
  have:decide ((c:Int)≤90)=true:=decide_eq_true (by omega)
  rw [HD.out]
  go_enter Tryz.func37,Tryz.ntmps37
  go_wp2
  go_ret
  exact ⟨ret_int (by omega),rfl⟩
 ·have HD:=Lib.hid (show dval c=99 by simp only [dval];repeat (first | rw [if_pos (by omega)] | rw [if_neg (by omega)]))
  have:decide ((48:Int)≤(c:Int))=true:=decide_eq_true (by omega)
  have:decide ((c:Int)≤57)=false:=decide_eq_false (by omega)
  have:decide ((97:Int)≤(c:Int))=false:=decide_eq_false (by omega)
  have:decide ((c:Int)≤122)=true:=decide_eq_true (by omega)
  have:decide ((65:Int)≤(c:Int))=false:=decide_eq_false (by omega)
  have:decide ((c:Int)≤90)=true:=decide_eq_true (by omega)
  rw [HD.out]
  go_enter Tryz.func37,Tryz.ntmps37
  go_wp2
  go_ret
  exact ⟨ret_int (by omega),rfl⟩
 ·have HD:=Lib.hid (show dval c=c - 55 by simp only [dval];repeat (first | rw [if_pos (by omega)] | rw [if_neg (by omega)]))
  have:decide ((48:Int)≤(c:Int))=true:=decide_eq_true (by omega)
  have:decide ((c:Int)≤57)=false:=decide_eq_false (by omega)
  have:decide ((97:Int)≤(c:Int))=false:=decide_eq_false (by omega)
  have:decide ((c:Int)≤122)=true:=decide_eq_true (by omega)
  have:decide ((65:Int)≤(c:Int))=true:=decide_eq_true (by omega)
  have:decide ((c:Int)≤90)=true:=decide_eq_true (by omega)
  rw [HD.out]
  go_enter Tryz.func37,Tryz.ntmps37
  go_wp2
  go_ret
  exact ⟨ret_int (by omega),rfl⟩
 ·have HD:=Lib.hid (show dval c=99 by simp only [dval];repeat (first | rw [if_pos (by omega)] | rw [if_neg (by omega)]))
  have:decide ((48:Int)≤(c:Int))=true:=decide_eq_true (by omega)
  have:decide ((c:Int)≤57)=false:=decide_eq_false (by omega)
  have:decide ((97:Int)≤(c:Int))=false:=decide_eq_false (by omega)
  have:decide ((c:Int)≤122)=true:=decide_eq_true (by omega)
  have:decide ((65:Int)≤(c:Int))=true:=decide_eq_true (by omega)
  have:decide ((c:Int)≤90)=false:=decide_eq_false (by omega)
  rw [HD.out]
  go_enter Tryz.func37,Tryz.ntmps37
  go_wp2
  go_ret
  exact ⟨ret_int (by omega),rfl⟩
 ·have HD:=Lib.hid (show dval c=c - 87 by simp only [dval];repeat (first | rw [if_pos (by omega)] | rw [if_neg (by omega)]))
  have:decide ((48:Int)≤(c:Int))=true:=decide_eq_true (by omega)
  have:decide ((c:Int)≤57)=false:=decide_eq_false (by omega)
  have:decide ((97:Int)≤(c:Int))=true:=decide_eq_true (by omega)
  have:decide ((c:Int)≤122)=true:=decide_eq_true (by omega)
  have:decide ((65:Int)≤(c:Int))=true:=decide_eq_true (by omega)
  have:decide ((c:Int)≤90)=false:=decide_eq_false (by omega)
  rw [HD.out]
  go_enter Tryz.func37,Tryz.ntmps37
  go_wp2
  go_ret
  exact ⟨ret_int (by omega),rfl⟩
 ·have HD:=Lib.hid (show dval c=99 by simp only [dval];repeat (first | rw [if_pos (by omega)] | rw [if_neg (by omega)]))
  have:decide ((48:Int)≤(c:Int))=true:=decide_eq_true (by omega)
  have:decide ((c:Int)≤57)=false:=decide_eq_false (by omega)
  have:decide ((97:Int)≤(c:Int))=true:=decide_eq_true (by omega)
  have:decide ((c:Int)≤122)=false:=decide_eq_false (by omega)
  have:decide ((65:Int)≤(c:Int))=true:=decide_eq_true (by omega)
  have:decide ((c:Int)≤90)=false:=decide_eq_false (by omega)
  rw [HD.out]
  go_enter Tryz.func37,Tryz.ntmps37
  go_wp2
  go_ret
  exact ⟨ret_int (by omega),rfl⟩
theorem pval_le_go (r:Nat) (hr:1≤r) (ds:List Nat):∀ a,a≤ds.foldl (fun a d=>a * r+d) a:=by
 induction ds with
 | nil=>intro a;exact Nat.le_refl _
 | cons d ds ih=>
  intro a
  have h:=ih (a * r+d)
  have:a≤a * r:=Nat.le_mul_of_pos_right a hr
  exact Nat.le_trans (by omega) h
theorem pval_append (r:Nat) (ds es:List Nat):pval r (ds ++ es)=es.foldl (fun a d=>a * r+d) (pval r ds):=by simp [pval]
theorem pval_take_le {r:Nat} (hr:1≤r) (ds:List Nat) (k:Nat):pval r (ds.take k)≤pval r ds:=by
 conv=>rhs;rw [←List.take_append_drop k ds]
 rw [pval_append]
 exact pval_le_go r hr _ _
def sdig (s:List UInt8):List Nat:=s.map fun c=>dval c.toNat
theorem nrm_of_ge {l:List Nat} (hd:Dig W l) (h:l ≠ []→W ^ (l.length - 1)≤nv W l):Nrm l:=by
 refine nrm_of_getD fun hl=>?_
 intro h0
 have h1:=h hl
 have hlen:0<l.length:=List.length_pos_iff.2 hl
 have h2:nv W l=nv W (l.take (l.length - 1)):=by
  have:=take_succ_nv W l (k:=l.length - 1) (by omega)
  rw [h0,Nat.mul_zero,Nat.add_zero,show l.length - 1+1=l.length by omega,List.take_length] at this
  exact this
 have h3:=nv_lt (hd.take (l.length - 1))
 rw [List.length_take,Nat.min_eq_left (by omega)] at h3
 omega
theorem PIn.start {W0 wr:World} {A:Option Addr} {n c:Nat} {l:List Nat} {r d:Nat} (ho:OwnU wr W0.heap.size A n c (u32s l)) (hl:l.length=n) (hd:Dig W l) (hb:Below W0.heap.size W0 wr) (hd9:d<4294967296) :
  PIn W0 A n c l r d 0 (.int .u64 (d:Int)) wr:=
 ⟨l,d,rfl,hd9,hl,hd,fun _ _=>rfl,by rw [nvp_zero];simp;omega,ho,hb⟩
theorem PRel.stay {W0 wr:World} {A:Option Addr} {n c:Nat} {l o:List Nat} {r i:Nat} {ds:List Nat} (hi:i<ds.length) (hn:n≤128) (hln:l.length=n) (hnl:Nrm l) (hv:nv W l=pval r (ds.take i)) (hr:1≤r)
  (h1:o.length=n) (h2:Dig W o) (h3:nv W o+W ^ n * 0=nv W l * r+ds.getD i 0) (h4:OwnU wr W0.heap.size A n c (u32s o)) (h5:Below W0.heap.size W0 wr) :
  nv W o=pval r (ds.take (i+1))∧(nv W o<2 ^ 4096→PRel W0 r ds (i+1) (.slice A n c) wr):=by
 have e:nv W o=pval r (ds.take (i+1)):=by rw [pval_take_succ r ds hi,←hv,←h3];simp
 refine ⟨e,fun hlt=>⟨A,n,c,o,rfl,h4,h1,hn,h2,nrm_of_ge h2 fun hne=>?_,e,hlt,h5⟩⟩
 have hl0:l ≠ []:=by
  intro e;rw [e] at hln;simp at hln
  exact hne (List.length_eq_zero_iff.1 (by omega))
 have h6:=nv_ge (b:=W) hnl hl0
 have h7:nv W l≤nv W l * r:=Nat.le_mul_of_pos_right _ hr
 rw [h1,←hln]
 omega
def pNeg (bs:List UInt8):Bool:=bs.head?==some 45
def pRest (bs:List UInt8):List UInt8:=if pNeg bs then bs.tail else bs
def pBad (bs:List UInt8) (r:Int):Bool:=(pRest bs).isEmpty || (pRest bs).any fun c=>decide (r≤(dval c.toNat:Int))
def pVal (bs:List UInt8) (r:Int):Int:=if pNeg bs then -(pval r.toNat (sdig (pRest bs)):Int) else (pval r.toNat (sdig (pRest bs)):Int)
def pCode (bs:List UInt8) (r:Int):Int:=if r<2∨36<r then 13 else if pBad bs r then 12 else err (tooLong (pVal bs r))
set_option maxRecDepth 100000 in
set_option maxHeartbeats 1000000 in
theorem Parse_radix (s:ByteArray) (r:Int) (w:World) (hr:r<2∨36<r) (z:Int) (co:Int) (hco:co=13) :
  Calls Tryz.prog 18 #[.string s,.int .i64 r] w (PostC w z co):=by
 have HB:=Lib.hid (Below.refl w.heap.size w)
 have HC:=Lib.hid hco
 clear hco
 by_cases h:r<2
 ·have d1:decide (r<2)=true:=decide_eq_true h
  clear hr
  go_enter Tryz.func18,Tryz.ntmps18
  go_wp2
  exact bodyPost_ret (v:=.tuple #[zeroV,.int .i64 13]) (by simp [results,Tryz.results18,go_sem]) rfl
   (PostC.bad HC.out (by decide) (HB.out.alloc (Nat.le_refl _) _))
 ·have d1:decide (r<2)=false:=decide_eq_false h
  have d2:decide (36<r)=true:=decide_eq_true (by omega)
  clear hr
  go_enter Tryz.func18,Tryz.ntmps18
  go_wp2
  exact bodyPost_ret (v:=.tuple #[zeroV,.int .i64 13]) (by simp [results,Tryz.results18,go_sem]) rfl
   (PostC.bad HC.out (by decide) (HB.out.alloc (Nat.le_refl _) _))
theorem str_empty {s:ByteArray} (h:s.size=0):s.toList.isEmpty=true:=by
 rw [ByteArray.toList_eq]
 have:s.data.toList.length=0:=by simpa using h
 rw [List.length_eq_zero_iff.1 this];rfl
theorem str_full {s:ByteArray} (h:s.size≠0):s.toList.isEmpty=false:=by
 rw [ByteArray.toList_eq]
 cases hl:s.data.toList with
 | nil=>exact absurd (by have:=congrArg List.length hl;simpa using this) h
 | cons a l=>rfl
theorem sdig_length (s:ByteArray):(sdig s.data.toList).length=s.size:=by simp [sdig]
theorem sdig_get (s:ByteArray) {k:Nat} (h:k<s.size):(sdig s.data.toList).getD k 0=dval s[k].toNat:=by
 rw [getD_eq (by rw [sdig_length];exact h)]
 simp only [sdig,List.getElem_map]
 rfl
theorem pBad_empty {bs:List UInt8} {r:Int} {s:ByteArray} (h:s.data.toList=pRest bs) (h0:s.size=0):pBad bs r=true:=by
 have:s.data.toList = []:=List.length_eq_zero_iff.1 (by simpa using h0)
 simp [pBad,←h,this]
theorem pBad_at {bs:List UInt8} {r:Nat} {s:ByteArray} (h:s.data.toList=pRest bs) {k:Nat} (hk:k<s.size) (hd:r≤dval s[k].toNat):pBad bs r=true:=by
 simp only [pBad,←h,Bool.or_eq_true,List.any_eq_true]
 right
 refine ⟨s[k],?_,by simpa using hd⟩
 show s.data[k]∈_
 simp
theorem pBad_none {bs:List UInt8} {r:Nat} {s:ByteArray} (h:s.data.toList=pRest bs) (h0:s.size≠0) (hd:∀ j,j<s.size→(sdig s.data.toList).getD j 0<r):pBad bs r=false:=by
 have hne:=str_full h0
 rw [ByteArray.toList_eq] at hne
 rw [pBad,←h,hne,Bool.false_or,List.any_eq_false]
 intro c hc
 obtain ⟨j,hj,rfl⟩:=List.getElem_of_mem hc
 have hj2:j<s.size:=by simpa using hj
 have h3:=hd j hj2
 rw [sdig_get s hj2] at h3
 have:s.data.toList[j]=s[j]:=by simp;rfl
 rw [this]
 simp;omega
theorem pCode_bad {bs:List UInt8} {r:Nat} (h1:2≤r) (h2:r≤36) (h:pBad bs r=true):pCode bs r=12:=by
 rw [pCode,if_neg (by omega),h];rfl
theorem pVal_natAbs (bs:List UInt8) (r:Nat):(pVal bs r).natAbs=pval r (sdig (pRest bs)):=by
 unfold pVal;split <;> simp
theorem pCode_err {bs:List UInt8} {r:Nat} (h1:2≤r) (h2:r≤36) (h:pBad bs r=false):pCode bs r=err (tooLong (pVal bs r)):=by
 rw [pCode,if_neg (by omega),h];rfl
theorem tooLong_iff {z:Int} : tooLong z=decide (¬z.natAbs<2 ^ 4096):=by
 rw [tooLong]
 refine decide_eq_decide.2 ⟨fun h h2=>?_,fun h=>?_⟩
 ·have:=blen_le_iff.2 h2;omega
 ·rcases Nat.lt_or_ge 4096 (blen z.natAbs) with h2 | h2
  ·exact h2
  ·exact absurd (blen_le_iff.1 h2) h
theorem pCode_long {bs:List UInt8} {r:Nat} (h1:2≤r) (h2:r≤36) (h:pBad bs r=false) (k:Nat) (hl:¬pval r ((sdig (pRest bs)).take k)<2 ^ 4096):pCode bs r=10:=by
 rw [pCode_err h1 h2 h,tooLong_iff,pVal_natAbs]
 have:=pval_take_le (r:=r) (by omega) (sdig (pRest bs)) k
 have h3:¬pval r (sdig (pRest bs))<2 ^ 4096:=fun h=>hl (Nat.lt_of_le_of_lt this h)
 rw [decide_eq_true h3];rfl
theorem pCode_ok {bs:List UInt8} {r:Nat} (h1:2≤r) (h2:r≤36) (h:pBad bs r=false) (hl:pval r (sdig (pRest bs))<2 ^ 4096):pCode bs r=0:=by
 rw [pCode_err h1 h2 h,tooLong_iff,pVal_natAbs,decide_eq_false (Classical.not_not.2 hl)];rfl
theorem pNeg_cases (s:ByteArray):(s.size=0∧pNeg s.data.toList=false)∨(∃ h:0<s.size,s[0].toNat≠45∧pNeg s.data.toList=false)∨(∃ h:0<s.size,s[0].toNat=45∧pNeg s.data.toList=true∧(s.extract 1 s.size).data.toList=s.data.toList.tail∧(s.extract 1 s.size).size=s.size - 1):=by
 rcases Nat.eq_zero_or_pos s.size with h | h
 ·left
  have:s.data.toList = []:=List.length_eq_zero_iff.1 (by simpa using h)
  exact ⟨h,by rw [this];rfl⟩
 ·right
  have e:s.data.toList=s[0] :: s.data.toList.tail:=by
   have h2:0<s.data.toList.length:=by simpa using h
   have h3:s[0]=s.data.toList[0]:=by simp;rfl
   rw [h3]
   exact (List.cons_head_tail (by intro e;rw [e] at h2;simp at h2)).symm.trans (by rw [List.head_eq_getElem])
  have e2:pNeg s.data.toList=decide (s[0].toNat=45):=by
   rw [e,pNeg,List.head?_cons]
   by_cases h4:s[0].toNat=45
   ·have h5:s[0]=45:=UInt8.toNat_inj.1 h4
    rw [decide_eq_true h4,h5];rfl
   ·rw [decide_eq_false h4]
    rw [beq_eq_false_iff_ne]
    intro h5
    injection h5 with h5
    exact h4 (by rw [h5];rfl)
  by_cases h4:s[0].toNat=45
  ·right
   refine ⟨h,h4,by rw [e2];exact decide_eq_true h4,?_,?_⟩
   ·rw [ByteArray.data_extract]
    simp [List.drop_one]
    exact List.take_of_length_le (by simp)
   ·simp
  ·left
   exact ⟨h,h4,by rw [e2];exact decide_eq_false h4⟩
theorem PRel.start (w:World) (r:Nat) (ds:List Nat):PRel (w.alloc (.cells #[.bool false,.slice none 0 0] 39)) r ds 0 (.slice none 0 0) (w.alloc (.cells #[.bool false,.slice none 0 0] 39)):=
 ⟨none,0,0,[],rfl,⟨rfl,.inl ⟨rfl,rfl⟩⟩,rfl,by omega,Dig.nil _,Nrm.nil,rfl,M_pos,Below.refl _ _⟩
set_option maxRecDepth 100000 in
set_option maxHeartbeats 2000000 in
theorem Parse_good (s:ByteArray) (r:Nat) (w:World) (hs:s.size≤maxLen) (hr:2≤r) (hr2:r≤36) :
  Calls Tryz.prog 18 #[.string s,.int .i64 (r:Int)] w (PostC w (pVal s.data.toList r) (pCode s.data.toList r)):=by
 have HB:=Lib.hid (Below.refl w.heap.size w)
 have d1:decide ((r:Int)<2)=false:=decide_eq_false (by omega)
 have d2:decide ((36:Int)<(r:Int))=false:=decide_eq_false (by omega)
 unfold maxLen at hs
 have HP:(s.size=0∧pNeg s.data.toList=false)∨(∃ h:0<s.size,s[0].toNat≠45∧pNeg s.data.toList=false)∨(∃ h:0<s.size,s[0].toNat=45∧pNeg s.data.toList=true∧(s.extract 1 s.size).data.toList=s.data.toList.tail∧(s.extract 1 s.size).size=s.size - 1):=pNeg_cases s
 rcases HP with ⟨h1,hng⟩ | ⟨h1,hb,hng⟩ | ⟨h1,hb,hng,hs2,hsz2⟩
 ·obtain ⟨s',hs'⟩:∃ s':ByteArray,s'=s:=⟨_,rfl⟩
  have HS':=Lib.hid (And.intro (show s'.data.toList=pRest s.data.toList by rw [hs',pRest,hng];rfl) hng)
  have d5:decide ((0:Int)<(s'.size:Int))=false:=decide_eq_false (by rw [hs'];omega)
  have d6:decide (0<s'.size)=false:=decide_eq_false (by rw [hs'];omega)
  have hm:s'.size≤9223372036854775807:=by rw [hs'];omega
  rw [show (Value.string s) = .string s' by rw [hs']]
  clear hng h1 hs'
  go_enter Tryz.func18,Tryz.ntmps18
  go_wp2_with fail
  clear d1 d2 d5 d6 hs
  go_loop [33] (fun i=>∃ k:Nat,k≤s'.size∧i = .int .i64 k∧Hid (∀ j,j<k→(sdig s'.data.toList).getD j 0<r)) (fun i=>s'.size - (intOf i).toNat)
  case atStart=>exact ⟨0,Nat.zero_le _,rfl,fun j hj=>absurd hj (Nat.not_lt_zero _)⟩
  case round=>
   obtain ⟨k,hk,rfl,hdj⟩:=hrel
   by_cases hks:k<s'.size
   ·have hk0:(0:Int)≤(k:Int):=by omega
    have hk1:(k:Int)<(s'.size:Int):=by omega
    have HV:=Lib.hid (fun w1=>value_any s'[k].toNat w1 (UInt8.toNat_lt _))
    have HG:=Lib.hid (sdig_get s' hks)
    have H12:=Lib.hid (fun h=>pBad_at (r:=r) HS'.out.1 hks h)
    generalize hdv:dval s'[k].toNat=dv at *
    by_cases hlt:dv<r
    ·have d3:decide ((r:Int)≤(dv:Int))=false:=decide_eq_false (by omega)
     have d4:decide (r≤dv)=false:=decide_eq_false (by omega)
     clear hdv
     go_wp2_with (go_at_call 37;(with_reducible refine (HV.out _).mono ?_);rintro e w' ⟨rfl,rfl⟩)
     go_round
     case rel=>exact ⟨k+1,by omega,by go_num,fun j hj=>by
      rcases Nat.lt_or_ge j k with h | h
      ·exact hdj.out j h
      ·obtain rfl:j=k:=by omega
       rw [HG.out];exact hlt⟩
     case measure=>simp [intOf];omega
    ·have d3:decide ((r:Int)≤(dv:Int))=true:=decide_eq_true (by omega)
     have d4:decide (r≤dv)=true:=decide_eq_true (by omega)
     have HC:=Lib.hid (pCode_bad hr hr2 (H12.out (by omega)))
     clear hdv
     go_wp2_with (go_at_call 37;(with_reducible refine (HV.out _).mono ?_);rintro e w' ⟨rfl,rfl⟩)
     exact bodyPost_ret (v:=.tuple #[zeroV,.int .i64 12]) (by simp [results,Tryz.results18,go_sem]) rfl
      (PostC.bad HC.out (by decide) (HB.out.alloc (Nat.le_refl _) _))
   ·obtain rfl:k=s'.size:=by omega
    by_cases he:s'.size=0
    ·have e1:=str_empty he
     have HC:=Lib.hid (pCode_bad hr hr2 (pBad_empty (r:=r) HS'.out.1 he))
     go_wp2
     exact bodyPost_ret (v:=.tuple #[zeroV,.int .i64 12]) (by simp [results,Tryz.results18,go_sem]) rfl
      (PostC.bad HC.out (by decide) (HB.out.alloc (Nat.le_refl _) _))
    ·have e1:=str_full he
     have HBd:=Lib.hid (pBad_none HS'.out.1 he hdj.out)
     go_wp2_with fail
     have hN:=Lib.hid (PRel.start w r (sdig s'.data.toList))
     have HWB:=Lib.hid (Bx.new w (.bool false) (.slice none 0 0))
     generalize hW0:w.alloc (.cells #[.bool false,.slice none 0 0] 39)=W0 at *
     have hW0z:W0.heap.size=w.heap.size+1:=by rw [←hW0];simp
     have HW0:=Lib.hid (show Below w.heap.size w W0 by rw [←hW0];exact HB.out.alloc (Nat.le_refl _) _)
     have HWZ:=Lib.hid hW0z
     clear hW0 hW0z
     go_loopw [8,49] (fun lv i wr=>∃ k:Nat,k≤s'.size∧i = .int .i64 k∧PRel W0 r (sdig s'.data.toList) k lv wr) (fun _ i _=>s'.size - (intOf i).toNat)
     case atStart=>exact ⟨0,Nat.zero_le _,rfl,hN.out⟩
     case round=>
      obtain ⟨k,hk,rfl,hrel⟩:=hrel
      have hWb:Below W0.heap.size W0 wr:=by obtain ⟨_,_,_,_,_,_,_,_,_,_,_,_,h⟩:=hrel;exact h
      obtain ⟨r0,r1,r2,r3⟩:=(HWB.out.below hWb (by rw [HWZ.out];omega)).facts
      have HWr:=Lib.hid hWb
      clear hWb
      obtain ⟨A,n,c,l,rfl,ho,hln,hn128,hdl,hnl,hv,hlt,_⟩:=hrel
      by_cases hks:k<s'.size
      ·have hk0:(0:Int)≤(k:Int):=by omega
       have hk1:(k:Int)<(s'.size:Int):=by omega
       have HV:=Lib.hid (fun w1=>value_any s'[k].toNat w1 (UInt8.toNat_lt _))
       have hdg:=sdig_get s' hks
       have hdr:=hdj.out k hks
       rw [hdg] at hdr
       generalize hdv:dval s'[k].toNat=dv at *
       have hdv9:dv<4294967296:=by omega
       have HIn:=Lib.hid (PIn.start (r:=r) (d:=dv) ho hln hdl HWr.out hdv9)
       have HSt:=Lib.hid (fun o (cy:Nat) wr (h1:o.length=n) (h2:Dig W o) (h3:nv W o+W ^ n * 0=nv W l * r+dv) h4 h5=>PRel.stay (W0:=W0) (wr:=wr) (A:=A) (c:=c) (i:=k) (ds:=sdig s'.data.toList) (by rw [sdig_length];exact hks) hn128 hln hnl hv (by omega) h1 h2 (by rw [hdg];exact h3) h4 h5)
       have HMo:=Lib.hid (fun o (cy:Nat) A c wr (h0:cy≠0) (h9:cy<4294967296) (h1:o.length=n) (h2:Dig W o) (h3:nv W o+W ^ n * cy=nv W l * r+dv) h4 h5=>PRel.more (W0:=W0) (wr:=wr) (A:=A) (c:=c) (i:=k) (ds:=sdig s'.data.toList) (by rw [sdig_length];exact hks) hv h0 h9 h1 h2 (by rw [hdg];exact h3) h4 h5)
       have HDL:=Lib.hid (And.intro hln hdl)
       have hn9:n≤9223372036854775807:=by omega
       have hnI:(n:Int)≤128:=by omega
       obtain ⟨wo,hwo⟩:∃ wo:World,wo=wr:=⟨_,rfl⟩
       subst hwo
       clear ho hln hdl hnl hv hlt hdg hdv hN
       go_wp2_with (go_at_call 37;(with_reducible refine (HV.out _).mono ?_);rintro e w' ⟨rfl,rfl⟩)
       go_loopw [10,59] (fun cv kv wr=>∃ k2:Nat,k2≤n∧kv = .int .i64 k2∧PIn W0 A n c l r dv k2 cv wr) (fun _ kv _=>n - (intOf kv).toNat)
       case atStart=>exact ⟨0,Nat.zero_le _,rfl,HIn.out⟩
       case round=>
        obtain ⟨k2,hk2,rfl,hin⟩:=hrel
        by_cases hk2n:k2<n
        ·obtain ⟨g,rfl⟩:∃ g,A=some ⟨g,0,none⟩:=by
          obtain ⟨_,_,_,_,_,_,_,_,h,_⟩:=hin
          obtain ⟨g,h,_⟩:=Own.at_ h (by omega)
          exact ⟨g,h⟩
         obtain ⟨cy,rfl,hcy,hcl,hfz,hst⟩:=hin.facts hk2n hr2 HDL.out.2
         have hx:l.getD k2 0<4294967296:=HDL.out.2.getD (by decide) k2
         have HS:=Lib.hid hst
         generalize l.getD k2 0=x at *
         obtain ⟨hq1,hq2⟩:=par_lt hx hr2 hcy
         obtain ⟨q,hq⟩:∃ q,x * r=q:=⟨_,rfl⟩
         rw [hq] at HS hq1 hq2
         have hqi:(x:Int) * (r:Int)=(q:Int):=by rw [←hq];simp
         have hk20:(0:Int)≤(k2:Int):=by omega
         have hk21:(k2:Int)<(n:Int):=by omega
         clear hq hst hin
         go_wp2_with fail
         go_roundw
         case rel=>exact ⟨k2+1,by omega,by go_num,HS.out⟩
         case measure=>simp [intOf];omega
        ·obtain rfl:k2=n:=by omega
         obtain ⟨o,cy,rfl,hcy,h1,h2,h3,h4,h5⟩:=hin.done HDL.out.1
         obtain ⟨r0,r1,r2,r3⟩:=(HWB.out.below h5 (by rw [HWZ.out];omega)).facts
         clear hin
         by_cases hc0:cy=0
         ·subst hc0
          have hBW:Below W0.heap.size W0 wr:=h5
          have hM:=HSt.out o 0 wr h1 h2 h3 h4 h5
          have hblen:nv W o<2 ^ 4096↔blen (nv W o)≤4096:=(blen_le_iff (k:=4096)).symm
          have HSz:=Lib.hid (size_any (Own.sl h4 h2 h1) (by omega))
          by_cases hbig:nv W o<2 ^ 4096
          ·have hb3:=hblen.1 hbig
           have HPR:=Lib.hid (hM.2 hbig)
           generalize blen (nv W o)=x at *
           have hd8:decide ((4096:Int)<(x:Int))=false:=decide_eq_false (by omega)
           have hd9:decide (4096<x)=false:=decide_eq_false (by omega)
           clear hM hblen hbig h1 h2 h3 h4 h5 hBW
           go_wp2_with (go_at_call 38;(with_reducible refine HSz.out.mono ?_);rintro e w' ⟨rfl,rfl⟩)
           go_roundw
           case rel=>exact ⟨k+1,by omega,by go_num,HPR.out⟩
           case measure=>simp [intOf];omega
          ·have hb3:4096<blen (nv W o):=by
            rcases Nat.lt_or_ge 4096 (blen (nv W o)) with h | h
            ·exact h
            ·exact absurd (hblen.2 h) hbig
           have HC:=Lib.hid (pCode_long hr hr2 HBd.out (k+1) (by rw [←HS'.out.1,←hM.1];exact hbig))
           generalize blen (nv W o)=x at *
           have hd8:decide ((4096:Int)<(x:Int))=true:=decide_eq_true (by omega)
           have hd9:decide (4096<x)=true:=decide_eq_true (by omega)
           have HBZ:=Lib.hid (HW0.out.trans (hBW.mono (B':=w.heap.size) HW0.out.size))
           obtain ⟨r0,r1,r2,r3⟩:=(HWB.out.below hBW (by rw [HWZ.out];omega)).facts
           clear hM hblen hbig hBW h1 h2 h3 h4 h5
           go_wp2_with (go_at_call 38;(with_reducible refine HSz.out.mono ?_);rintro e w' ⟨rfl,rfl⟩)
           exact bodyPost_ret (v:=.tuple #[zeroV,.int .i64 10]) (by simp [results,Tryz.results18,go_sem,r0,r1]) rfl
            (PostC.bad HC.out (by decide) ((HBZ.out.setCell (by first | omega | (simp;done) | (simp;omega)) _).setCell (by first | omega | (simp;done) | (simp;omega)) _))
         ·have hd6:decide ((0:Int)<(cy:Int))=true:=decide_eq_true (by omega)
          have hd7:decide (0<cy)=true:=decide_eq_true (by omega)
          have hcm:(cy:Int) % 4294967296=(cy:Int):=by omega
          have HO:=Lib.hid h4
          have H5:=Lib.hid h5
          have HX:=Lib.hid (And.intro h1 (And.intro h2 h3))
          have hz5:=h5.size
          have HM2:=Lib.hid (fun A c wr h4 h5=>HMo.out o cy A c wr hc0 hcy h1 h2 h3 h4 h5)
          clear h4 h5 h1 h2 h3
          go_wp2_with (at_builtin;refine wpList_append_u32 (by rfl) _ _ (by rfl) _ A k2 c o (by rfl) (Own.alloc HO.out _) wr.heap.size cy (by rfl) (by simp [go_sem]) (by omega) (by simp;omega) ?_;intro A' c' w1 ho1 hb1)
          have hBW:Below W0.heap.size W0 w1:=(H5.out.alloc hz5 _).trans hb1
          have hM:=HM2.out A' c' w1 ho1 hBW
          have hblen:nv W (o ++ [cy])<2 ^ 4096↔blen (nv W (o ++ [cy]))≤4096:=(blen_le_iff (k:=4096)).symm
          have HSz:=Lib.hid (size_any (Own.sl ho1 (HX.out.2.1.append (Dig.cons hcy (Dig.nil _))) (by simp [HX.out.1])) (by omega))
          by_cases hbig:nv W (o ++ [cy])<2 ^ 4096
          ·have hb3:=hblen.1 hbig
           have HPR:=Lib.hid (hM.2 hbig)
           generalize blen (nv W (o ++ [cy]))=x at *
           have hd8:decide ((4096:Int)<(x:Int))=false:=decide_eq_false (by omega)
           have hd9:decide (4096<x)=false:=decide_eq_false (by omega)
           clear hM hblen hbig
           go_wp2_with (go_at_call 38;(with_reducible refine HSz.out.mono ?_);rintro e w' ⟨rfl,rfl⟩)
           go_roundw
           case rel=>exact ⟨k+1,by omega,by go_num,HPR.out⟩
           case measure=>simp [intOf];omega
          ·have hb3:4096<blen (nv W (o ++ [cy])):=by
            rcases Nat.lt_or_ge 4096 (blen (nv W (o ++ [cy]))) with h | h
            ·exact h
            ·exact absurd (hblen.2 h) hbig
           have HC:=Lib.hid (pCode_long hr hr2 HBd.out (k+1) (by rw [←HS'.out.1,←hM.1];exact hbig))
           generalize blen (nv W (o ++ [cy]))=x at *
           have hd8:decide ((4096:Int)<(x:Int))=true:=decide_eq_true (by omega)
           have hd9:decide (4096<x)=true:=decide_eq_true (by omega)
           have HBZ:=Lib.hid (HW0.out.trans (hBW.mono (B':=w.heap.size) HW0.out.size))
           obtain ⟨r0,r1,r2,r3⟩:=(HWB.out.below hBW (by rw [HWZ.out];omega)).facts
           clear hM hblen hbig hBW
           go_wp2_with (go_at_call 38;(with_reducible refine HSz.out.mono ?_);rintro e w' ⟨rfl,rfl⟩)
           exact bodyPost_ret (v:=.tuple #[zeroV,.int .i64 10]) (by simp [results,Tryz.results18,go_sem,r0,r1]) rfl
            (PostC.bad HC.out (by decide) ((HBZ.out.setCell (by first | omega | (simp;done) | (simp;omega)) _).setCell (by first | omega | (simp;done) | (simp;omega)) _))
      ·obtain rfl:k=s'.size:=by omega
       have HR:=Lib.hid (And.intro ho (And.intro hln (And.intro hdl hlt)))
       rw [List.take_of_length_le (by rw [sdig_length];exact Nat.le_refl _)] at hv
       have HZ:=Lib.hid (show ∀ b,pNeg s.data.toList=b→ival b l=pVal s.data.toList r by
        intro b hb;rw [ival,hv,pVal,hb,HS'.out.1,Int.toNat_natCast])
       have HC:=Lib.hid (pCode_ok hr hr2 HBd.out (by rw [←HS'.out.1,←hv];exact hlt))
       clear ho hln hdl hlt hv hnl
       go_wp2_with fail
       refine (laid_own _ HR.out.1 HR.out.2.1 HR.out.2.2.1 (HZ.out _ HS'.out.2)).mono ?_
       rintro ex w2 ⟨v,rfl,⟨A2,c2,rfl,ho2⟩,hb2⟩
       obtain ⟨r0,r1,r2,r3⟩:=(HWB.out.below (HWr.out.trans (hb2.mono HWr.out.size)) (by rw [HWZ.out];omega)).facts
       have hr9:=fun u u'=>ResI.stored (w:=w) (g:=w.heap.size) (u:=u) (u':=u') ⟨A2,c2,rfl,ho2⟩ (HW0.out.trans ((HWr.out.trans (hb2.mono HWr.out.size)).mono HW0.out.size)) (by rw [HWZ.out];omega) (Nat.le_refl _)
       have HR9:=Lib.hid hr9
       clear hr9 ho2 hb2
       go_wp2
       exact bodyPost_ret (v:=.tuple #[.agg #[.bool (decide (pVal s.data.toList r<0)),.slice A2 (digs W (pVal s.data.toList r).natAbs).length c2],.int .i64 0]) (by simp [results,Tryz.results18,go_sem,r0,r1]) rfl
        (PostC.ok HC.out (HR9.out _ _).1 (HR9.out _ _).2)
 ·obtain ⟨s',hs'⟩:∃ s':ByteArray,s'=s:=⟨_,rfl⟩
  have HS':=Lib.hid (And.intro (show s'.data.toList=pRest s.data.toList by rw [hs',pRest,hng];rfl) hng)
  have hh:0<s'.size:=by rw [hs'];exact h1
  have d5:decide ((0:Int)<(s'.size:Int))=true:=decide_eq_true (by omega)
  have d6:decide (0<s'.size)=true:=decide_eq_true hh
  have d7:((s'[0].toNat:Int)==45)=false:=beq_eq_false_iff_ne.2 (by subst hs';omega)
  have hm:s'.size≤9223372036854775807:=by rw [hs'];omega
  rw [show (Value.string s) = .string s' by rw [hs']]
  clear hng h1 hb hs'
  go_enter Tryz.func18,Tryz.ntmps18
  go_wp2_with fail
  generalize s'[0].toNat=c0 at *
  clear d1 d2 d5 d6 d7 hs hh
  go_loop [33] (fun i=>∃ k:Nat,k≤s'.size∧i = .int .i64 k∧Hid (∀ j,j<k→(sdig s'.data.toList).getD j 0<r)) (fun i=>s'.size - (intOf i).toNat)
  case atStart=>exact ⟨0,Nat.zero_le _,rfl,fun j hj=>absurd hj (Nat.not_lt_zero _)⟩
  case round=>
   obtain ⟨k,hk,rfl,hdj⟩:=hrel
   by_cases hks:k<s'.size
   ·have hk0:(0:Int)≤(k:Int):=by omega
    have hk1:(k:Int)<(s'.size:Int):=by omega
    have HV:=Lib.hid (fun w1=>value_any s'[k].toNat w1 (UInt8.toNat_lt _))
    have HG:=Lib.hid (sdig_get s' hks)
    have H12:=Lib.hid (fun h=>pBad_at (r:=r) HS'.out.1 hks h)
    generalize hdv:dval s'[k].toNat=dv at *
    by_cases hlt:dv<r
    ·have d3:decide ((r:Int)≤(dv:Int))=false:=decide_eq_false (by omega)
     have d4:decide (r≤dv)=false:=decide_eq_false (by omega)
     clear hdv
     go_wp2_with (go_at_call 37;(with_reducible refine (HV.out _).mono ?_);rintro e w' ⟨rfl,rfl⟩)
     go_round
     case rel=>exact ⟨k+1,by omega,by go_num,fun j hj=>by
      rcases Nat.lt_or_ge j k with h | h
      ·exact hdj.out j h
      ·obtain rfl:j=k:=by omega
       rw [HG.out];exact hlt⟩
     case measure=>simp [intOf];omega
    ·have d3:decide ((r:Int)≤(dv:Int))=true:=decide_eq_true (by omega)
     have d4:decide (r≤dv)=true:=decide_eq_true (by omega)
     have HC:=Lib.hid (pCode_bad hr hr2 (H12.out (by omega)))
     clear hdv
     go_wp2_with (go_at_call 37;(with_reducible refine (HV.out _).mono ?_);rintro e w' ⟨rfl,rfl⟩)
     exact bodyPost_ret (v:=.tuple #[zeroV,.int .i64 12]) (by simp [results,Tryz.results18,go_sem]) rfl
      (PostC.bad HC.out (by decide) (HB.out.alloc (Nat.le_refl _) _))
   ·obtain rfl:k=s'.size:=by omega
    by_cases he:s'.size=0
    ·have e1:=str_empty he
     have HC:=Lib.hid (pCode_bad hr hr2 (pBad_empty (r:=r) HS'.out.1 he))
     go_wp2
     exact bodyPost_ret (v:=.tuple #[zeroV,.int .i64 12]) (by simp [results,Tryz.results18,go_sem]) rfl
      (PostC.bad HC.out (by decide) (HB.out.alloc (Nat.le_refl _) _))
    ·have e1:=str_full he
     have HBd:=Lib.hid (pBad_none HS'.out.1 he hdj.out)
     go_wp2_with fail
     have hN:=Lib.hid (PRel.start w r (sdig s'.data.toList))
     have HWB:=Lib.hid (Bx.new w (.bool false) (.slice none 0 0))
     generalize hW0:w.alloc (.cells #[.bool false,.slice none 0 0] 39)=W0 at *
     have hW0z:W0.heap.size=w.heap.size+1:=by rw [←hW0];simp
     have HW0:=Lib.hid (show Below w.heap.size w W0 by rw [←hW0];exact HB.out.alloc (Nat.le_refl _) _)
     have HWZ:=Lib.hid hW0z
     clear hW0 hW0z
     go_loopw [8,49] (fun lv i wr=>∃ k:Nat,k≤s'.size∧i = .int .i64 k∧PRel W0 r (sdig s'.data.toList) k lv wr) (fun _ i _=>s'.size - (intOf i).toNat)
     case atStart=>exact ⟨0,Nat.zero_le _,rfl,hN.out⟩
     case round=>
      obtain ⟨k,hk,rfl,hrel⟩:=hrel
      have hWb:Below W0.heap.size W0 wr:=by obtain ⟨_,_,_,_,_,_,_,_,_,_,_,_,h⟩:=hrel;exact h
      obtain ⟨r0,r1,r2,r3⟩:=(HWB.out.below hWb (by rw [HWZ.out];omega)).facts
      have HWr:=Lib.hid hWb
      clear hWb
      obtain ⟨A,n,c,l,rfl,ho,hln,hn128,hdl,hnl,hv,hlt,_⟩:=hrel
      by_cases hks:k<s'.size
      ·have hk0:(0:Int)≤(k:Int):=by omega
       have hk1:(k:Int)<(s'.size:Int):=by omega
       have HV:=Lib.hid (fun w1=>value_any s'[k].toNat w1 (UInt8.toNat_lt _))
       have hdg:=sdig_get s' hks
       have hdr:=hdj.out k hks
       rw [hdg] at hdr
       generalize hdv:dval s'[k].toNat=dv at *
       have hdv9:dv<4294967296:=by omega
       have HIn:=Lib.hid (PIn.start (r:=r) (d:=dv) ho hln hdl HWr.out hdv9)
       have HSt:=Lib.hid (fun o (cy:Nat) wr (h1:o.length=n) (h2:Dig W o) (h3:nv W o+W ^ n * 0=nv W l * r+dv) h4 h5=>PRel.stay (W0:=W0) (wr:=wr) (A:=A) (c:=c) (i:=k) (ds:=sdig s'.data.toList) (by rw [sdig_length];exact hks) hn128 hln hnl hv (by omega) h1 h2 (by rw [hdg];exact h3) h4 h5)
       have HMo:=Lib.hid (fun o (cy:Nat) A c wr (h0:cy≠0) (h9:cy<4294967296) (h1:o.length=n) (h2:Dig W o) (h3:nv W o+W ^ n * cy=nv W l * r+dv) h4 h5=>PRel.more (W0:=W0) (wr:=wr) (A:=A) (c:=c) (i:=k) (ds:=sdig s'.data.toList) (by rw [sdig_length];exact hks) hv h0 h9 h1 h2 (by rw [hdg];exact h3) h4 h5)
       have HDL:=Lib.hid (And.intro hln hdl)
       have hn9:n≤9223372036854775807:=by omega
       have hnI:(n:Int)≤128:=by omega
       obtain ⟨wo,hwo⟩:∃ wo:World,wo=wr:=⟨_,rfl⟩
       subst hwo
       clear ho hln hdl hnl hv hlt hdg hdv hN
       go_wp2_with (go_at_call 37;(with_reducible refine (HV.out _).mono ?_);rintro e w' ⟨rfl,rfl⟩)
       go_loopw [10,59] (fun cv kv wr=>∃ k2:Nat,k2≤n∧kv = .int .i64 k2∧PIn W0 A n c l r dv k2 cv wr) (fun _ kv _=>n - (intOf kv).toNat)
       case atStart=>exact ⟨0,Nat.zero_le _,rfl,HIn.out⟩
       case round=>
        obtain ⟨k2,hk2,rfl,hin⟩:=hrel
        by_cases hk2n:k2<n
        ·obtain ⟨g,rfl⟩:∃ g,A=some ⟨g,0,none⟩:=by
          obtain ⟨_,_,_,_,_,_,_,_,h,_⟩:=hin
          obtain ⟨g,h,_⟩:=Own.at_ h (by omega)
          exact ⟨g,h⟩
         obtain ⟨cy,rfl,hcy,hcl,hfz,hst⟩:=hin.facts hk2n hr2 HDL.out.2
         have hx:l.getD k2 0<4294967296:=HDL.out.2.getD (by decide) k2
         have HS:=Lib.hid hst
         generalize l.getD k2 0=x at *
         obtain ⟨hq1,hq2⟩:=par_lt hx hr2 hcy
         obtain ⟨q,hq⟩:∃ q,x * r=q:=⟨_,rfl⟩
         rw [hq] at HS hq1 hq2
         have hqi:(x:Int) * (r:Int)=(q:Int):=by rw [←hq];simp
         have hk20:(0:Int)≤(k2:Int):=by omega
         have hk21:(k2:Int)<(n:Int):=by omega
         clear hq hst hin
         go_wp2_with fail
         go_roundw
         case rel=>exact ⟨k2+1,by omega,by go_num,HS.out⟩
         case measure=>simp [intOf];omega
        ·obtain rfl:k2=n:=by omega
         obtain ⟨o,cy,rfl,hcy,h1,h2,h3,h4,h5⟩:=hin.done HDL.out.1
         obtain ⟨r0,r1,r2,r3⟩:=(HWB.out.below h5 (by rw [HWZ.out];omega)).facts
         clear hin
         by_cases hc0:cy=0
         ·subst hc0
          have hBW:Below W0.heap.size W0 wr:=h5
          have hM:=HSt.out o 0 wr h1 h2 h3 h4 h5
          have hblen:nv W o<2 ^ 4096↔blen (nv W o)≤4096:=(blen_le_iff (k:=4096)).symm
          have HSz:=Lib.hid (size_any (Own.sl h4 h2 h1) (by omega))
          by_cases hbig:nv W o<2 ^ 4096
          ·have hb3:=hblen.1 hbig
           have HPR:=Lib.hid (hM.2 hbig)
           generalize blen (nv W o)=x at *
           have hd8:decide ((4096:Int)<(x:Int))=false:=decide_eq_false (by omega)
           have hd9:decide (4096<x)=false:=decide_eq_false (by omega)
           clear hM hblen hbig h1 h2 h3 h4 h5 hBW
           go_wp2_with (go_at_call 38;(with_reducible refine HSz.out.mono ?_);rintro e w' ⟨rfl,rfl⟩)
           go_roundw
           case rel=>exact ⟨k+1,by omega,by go_num,HPR.out⟩
           case measure=>simp [intOf];omega
          ·have hb3:4096<blen (nv W o):=by
            rcases Nat.lt_or_ge 4096 (blen (nv W o)) with h | h
            ·exact h
            ·exact absurd (hblen.2 h) hbig
           have HC:=Lib.hid (pCode_long hr hr2 HBd.out (k+1) (by rw [←HS'.out.1,←hM.1];exact hbig))
           generalize blen (nv W o)=x at *
           have hd8:decide ((4096:Int)<(x:Int))=true:=decide_eq_true (by omega)
           have hd9:decide (4096<x)=true:=decide_eq_true (by omega)
           have HBZ:=Lib.hid (HW0.out.trans (hBW.mono (B':=w.heap.size) HW0.out.size))
           obtain ⟨r0,r1,r2,r3⟩:=(HWB.out.below hBW (by rw [HWZ.out];omega)).facts
           clear hM hblen hbig hBW h1 h2 h3 h4 h5
           go_wp2_with (go_at_call 38;(with_reducible refine HSz.out.mono ?_);rintro e w' ⟨rfl,rfl⟩)
           exact bodyPost_ret (v:=.tuple #[zeroV,.int .i64 10]) (by simp [results,Tryz.results18,go_sem,r0,r1]) rfl
            (PostC.bad HC.out (by decide) ((HBZ.out.setCell (by first | omega | (simp;done) | (simp;omega)) _).setCell (by first | omega | (simp;done) | (simp;omega)) _))
         ·have hd6:decide ((0:Int)<(cy:Int))=true:=decide_eq_true (by omega)
          have hd7:decide (0<cy)=true:=decide_eq_true (by omega)
          have hcm:(cy:Int) % 4294967296=(cy:Int):=by omega
          have HO:=Lib.hid h4
          have H5:=Lib.hid h5
          have HX:=Lib.hid (And.intro h1 (And.intro h2 h3))
          have hz5:=h5.size
          have HM2:=Lib.hid (fun A c wr h4 h5=>HMo.out o cy A c wr hc0 hcy h1 h2 h3 h4 h5)
          clear h4 h5 h1 h2 h3
          go_wp2_with (at_builtin;refine wpList_append_u32 (by rfl) _ _ (by rfl) _ A k2 c o (by rfl) (Own.alloc HO.out _) wr.heap.size cy (by rfl) (by simp [go_sem]) (by omega) (by simp;omega) ?_;intro A' c' w1 ho1 hb1)
          have hBW:Below W0.heap.size W0 w1:=(H5.out.alloc hz5 _).trans hb1
          have hM:=HM2.out A' c' w1 ho1 hBW
          have hblen:nv W (o ++ [cy])<2 ^ 4096↔blen (nv W (o ++ [cy]))≤4096:=(blen_le_iff (k:=4096)).symm
          have HSz:=Lib.hid (size_any (Own.sl ho1 (HX.out.2.1.append (Dig.cons hcy (Dig.nil _))) (by simp [HX.out.1])) (by omega))
          by_cases hbig:nv W (o ++ [cy])<2 ^ 4096
          ·have hb3:=hblen.1 hbig
           have HPR:=Lib.hid (hM.2 hbig)
           generalize blen (nv W (o ++ [cy]))=x at *
           have hd8:decide ((4096:Int)<(x:Int))=false:=decide_eq_false (by omega)
           have hd9:decide (4096<x)=false:=decide_eq_false (by omega)
           clear hM hblen hbig
           go_wp2_with (go_at_call 38;(with_reducible refine HSz.out.mono ?_);rintro e w' ⟨rfl,rfl⟩)
           go_roundw
           case rel=>exact ⟨k+1,by omega,by go_num,HPR.out⟩
           case measure=>simp [intOf];omega
          ·have hb3:4096<blen (nv W (o ++ [cy])):=by
            rcases Nat.lt_or_ge 4096 (blen (nv W (o ++ [cy]))) with h | h
            ·exact h
            ·exact absurd (hblen.2 h) hbig
           have HC:=Lib.hid (pCode_long hr hr2 HBd.out (k+1) (by rw [←HS'.out.1,←hM.1];exact hbig))
           generalize blen (nv W (o ++ [cy]))=x at *
           have hd8:decide ((4096:Int)<(x:Int))=true:=decide_eq_true (by omega)
           have hd9:decide (4096<x)=true:=decide_eq_true (by omega)
           have HBZ:=Lib.hid (HW0.out.trans (hBW.mono (B':=w.heap.size) HW0.out.size))
           obtain ⟨r0,r1,r2,r3⟩:=(HWB.out.below hBW (by rw [HWZ.out];omega)).facts
           clear hM hblen hbig hBW
           go_wp2_with (go_at_call 38;(with_reducible refine HSz.out.mono ?_);rintro e w' ⟨rfl,rfl⟩)
           exact bodyPost_ret (v:=.tuple #[zeroV,.int .i64 10]) (by simp [results,Tryz.results18,go_sem,r0,r1]) rfl
            (PostC.bad HC.out (by decide) ((HBZ.out.setCell (by first | omega | (simp;done) | (simp;omega)) _).setCell (by first | omega | (simp;done) | (simp;omega)) _))
      ·obtain rfl:k=s'.size:=by omega
       have HR:=Lib.hid (And.intro ho (And.intro hln (And.intro hdl hlt)))
       rw [List.take_of_length_le (by rw [sdig_length];exact Nat.le_refl _)] at hv
       have HZ:=Lib.hid (show ∀ b,pNeg s.data.toList=b→ival b l=pVal s.data.toList r by
        intro b hb;rw [ival,hv,pVal,hb,HS'.out.1,Int.toNat_natCast])
       have HC:=Lib.hid (pCode_ok hr hr2 HBd.out (by rw [←HS'.out.1,←hv];exact hlt))
       clear ho hln hdl hlt hv hnl
       go_wp2_with fail
       refine (laid_own _ HR.out.1 HR.out.2.1 HR.out.2.2.1 (HZ.out _ HS'.out.2)).mono ?_
       rintro ex w2 ⟨v,rfl,⟨A2,c2,rfl,ho2⟩,hb2⟩
       obtain ⟨r0,r1,r2,r3⟩:=(HWB.out.below (HWr.out.trans (hb2.mono HWr.out.size)) (by rw [HWZ.out];omega)).facts
       have hr9:=fun u u'=>ResI.stored (w:=w) (g:=w.heap.size) (u:=u) (u':=u') ⟨A2,c2,rfl,ho2⟩ (HW0.out.trans ((HWr.out.trans (hb2.mono HWr.out.size)).mono HW0.out.size)) (by rw [HWZ.out];omega) (Nat.le_refl _)
       have HR9:=Lib.hid hr9
       clear hr9 ho2 hb2
       go_wp2
       exact bodyPost_ret (v:=.tuple #[.agg #[.bool (decide (pVal s.data.toList r<0)),.slice A2 (digs W (pVal s.data.toList r).natAbs).length c2],.int .i64 0]) (by simp [results,Tryz.results18,go_sem,r0,r1]) rfl
        (PostC.ok HC.out (HR9.out _ _).1 (HR9.out _ _).2)
 ·obtain ⟨s',hs'⟩:∃ s',s.extract 1 s.size=s':=⟨_,rfl⟩
  have HS':=Lib.hid (And.intro (show s'.data.toList=pRest s.data.toList by rw [pRest,hng,if_pos rfl,←hs2,hs']) hng)
  rw [hs'] at hsz2
  have hsz3:s.size - 1=s'.size:=hsz2.symm
  have d5:decide ((0:Int)<(s.size:Int))=true:=decide_eq_true (by omega)
  have d6:decide (0<s.size)=true:=decide_eq_true h1
  have hm:s'.size≤9223372036854775807:=by omega
  clear hng hs2 hsz2
  go_enter Tryz.func18,Tryz.ntmps18
  go_wp2_with fail
  clear hs' hsz3 hb d1 d2 d5 d6 h1 hs
  go_loop [33] (fun i=>∃ k:Nat,k≤s'.size∧i = .int .i64 k∧Hid (∀ j,j<k→(sdig s'.data.toList).getD j 0<r)) (fun i=>s'.size - (intOf i).toNat)
  case atStart=>exact ⟨0,Nat.zero_le _,rfl,fun j hj=>absurd hj (Nat.not_lt_zero _)⟩
  case round=>
   obtain ⟨k,hk,rfl,hdj⟩:=hrel
   by_cases hks:k<s'.size
   ·have hk0:(0:Int)≤(k:Int):=by omega
    have hk1:(k:Int)<(s'.size:Int):=by omega
    have HV:=Lib.hid (fun w1=>value_any s'[k].toNat w1 (UInt8.toNat_lt _))
    have HG:=Lib.hid (sdig_get s' hks)
    have H12:=Lib.hid (fun h=>pBad_at (r:=r) HS'.out.1 hks h)
    generalize hdv:dval s'[k].toNat=dv at *
    by_cases hlt:dv<r
    ·have d3:decide ((r:Int)≤(dv:Int))=false:=decide_eq_false (by omega)
     have d4:decide (r≤dv)=false:=decide_eq_false (by omega)
     clear hdv
     go_wp2_with (go_at_call 37;(with_reducible refine (HV.out _).mono ?_);rintro e w' ⟨rfl,rfl⟩)
     go_round
     case rel=>exact ⟨k+1,by omega,by go_num,fun j hj=>by
      rcases Nat.lt_or_ge j k with h | h
      ·exact hdj.out j h
      ·obtain rfl:j=k:=by omega
       rw [HG.out];exact hlt⟩
     case measure=>simp [intOf];omega
    ·have d3:decide ((r:Int)≤(dv:Int))=true:=decide_eq_true (by omega)
     have d4:decide (r≤dv)=true:=decide_eq_true (by omega)
     have HC:=Lib.hid (pCode_bad hr hr2 (H12.out (by omega)))
     clear hdv
     go_wp2_with (go_at_call 37;(with_reducible refine (HV.out _).mono ?_);rintro e w' ⟨rfl,rfl⟩)
     exact bodyPost_ret (v:=.tuple #[zeroV,.int .i64 12]) (by simp [results,Tryz.results18,go_sem]) rfl
      (PostC.bad HC.out (by decide) (HB.out.alloc (Nat.le_refl _) _))
   ·obtain rfl:k=s'.size:=by omega
    by_cases he:s'.size=0
    ·have e1:=str_empty he
     have HC:=Lib.hid (pCode_bad hr hr2 (pBad_empty (r:=r) HS'.out.1 he))
     go_wp2
     exact bodyPost_ret (v:=.tuple #[zeroV,.int .i64 12]) (by simp [results,Tryz.results18,go_sem]) rfl
      (PostC.bad HC.out (by decide) (HB.out.alloc (Nat.le_refl _) _))
    ·have e1:=str_full he
     have HBd:=Lib.hid (pBad_none HS'.out.1 he hdj.out)
     go_wp2_with fail
     have hN:=Lib.hid (PRel.start w r (sdig s'.data.toList))
     have HWB:=Lib.hid (Bx.new w (.bool false) (.slice none 0 0))
     generalize hW0:w.alloc (.cells #[.bool false,.slice none 0 0] 39)=W0 at *
     have hW0z:W0.heap.size=w.heap.size+1:=by rw [←hW0];simp
     have HW0:=Lib.hid (show Below w.heap.size w W0 by rw [←hW0];exact HB.out.alloc (Nat.le_refl _) _)
     have HWZ:=Lib.hid hW0z
     clear hW0 hW0z
     go_loopw [8,49] (fun lv i wr=>∃ k:Nat,k≤s'.size∧i = .int .i64 k∧PRel W0 r (sdig s'.data.toList) k lv wr) (fun _ i _=>s'.size - (intOf i).toNat)
     case atStart=>exact ⟨0,Nat.zero_le _,rfl,hN.out⟩
     case round=>
      obtain ⟨k,hk,rfl,hrel⟩:=hrel
      have hWb:Below W0.heap.size W0 wr:=by obtain ⟨_,_,_,_,_,_,_,_,_,_,_,_,h⟩:=hrel;exact h
      obtain ⟨r0,r1,r2,r3⟩:=(HWB.out.below hWb (by rw [HWZ.out];omega)).facts
      have HWr:=Lib.hid hWb
      clear hWb
      obtain ⟨A,n,c,l,rfl,ho,hln,hn128,hdl,hnl,hv,hlt,_⟩:=hrel
      by_cases hks:k<s'.size
      ·have hk0:(0:Int)≤(k:Int):=by omega
       have hk1:(k:Int)<(s'.size:Int):=by omega
       have HV:=Lib.hid (fun w1=>value_any s'[k].toNat w1 (UInt8.toNat_lt _))
       have hdg:=sdig_get s' hks
       have hdr:=hdj.out k hks
       rw [hdg] at hdr
       generalize hdv:dval s'[k].toNat=dv at *
       have hdv9:dv<4294967296:=by omega
       have HIn:=Lib.hid (PIn.start (r:=r) (d:=dv) ho hln hdl HWr.out hdv9)
       have HSt:=Lib.hid (fun o (cy:Nat) wr (h1:o.length=n) (h2:Dig W o) (h3:nv W o+W ^ n * 0=nv W l * r+dv) h4 h5=>PRel.stay (W0:=W0) (wr:=wr) (A:=A) (c:=c) (i:=k) (ds:=sdig s'.data.toList) (by rw [sdig_length];exact hks) hn128 hln hnl hv (by omega) h1 h2 (by rw [hdg];exact h3) h4 h5)
       have HMo:=Lib.hid (fun o (cy:Nat) A c wr (h0:cy≠0) (h9:cy<4294967296) (h1:o.length=n) (h2:Dig W o) (h3:nv W o+W ^ n * cy=nv W l * r+dv) h4 h5=>PRel.more (W0:=W0) (wr:=wr) (A:=A) (c:=c) (i:=k) (ds:=sdig s'.data.toList) (by rw [sdig_length];exact hks) hv h0 h9 h1 h2 (by rw [hdg];exact h3) h4 h5)
       have HDL:=Lib.hid (And.intro hln hdl)
       have hn9:n≤9223372036854775807:=by omega
       have hnI:(n:Int)≤128:=by omega
       obtain ⟨wo,hwo⟩:∃ wo:World,wo=wr:=⟨_,rfl⟩
       subst hwo
       clear ho hln hdl hnl hv hlt hdg hdv hN
       go_wp2_with (go_at_call 37;(with_reducible refine (HV.out _).mono ?_);rintro e w' ⟨rfl,rfl⟩)
       go_loopw [10,59] (fun cv kv wr=>∃ k2:Nat,k2≤n∧kv = .int .i64 k2∧PIn W0 A n c l r dv k2 cv wr) (fun _ kv _=>n - (intOf kv).toNat)
       case atStart=>exact ⟨0,Nat.zero_le _,rfl,HIn.out⟩
       case round=>
        obtain ⟨k2,hk2,rfl,hin⟩:=hrel
        by_cases hk2n:k2<n
        ·obtain ⟨g,rfl⟩:∃ g,A=some ⟨g,0,none⟩:=by
          obtain ⟨_,_,_,_,_,_,_,_,h,_⟩:=hin
          obtain ⟨g,h,_⟩:=Own.at_ h (by omega)
          exact ⟨g,h⟩
         obtain ⟨cy,rfl,hcy,hcl,hfz,hst⟩:=hin.facts hk2n hr2 HDL.out.2
         have hx:l.getD k2 0<4294967296:=HDL.out.2.getD (by decide) k2
         have HS:=Lib.hid hst
         generalize l.getD k2 0=x at *
         obtain ⟨hq1,hq2⟩:=par_lt hx hr2 hcy
         obtain ⟨q,hq⟩:∃ q,x * r=q:=⟨_,rfl⟩
         rw [hq] at HS hq1 hq2
         have hqi:(x:Int) * (r:Int)=(q:Int):=by rw [←hq];simp
         have hk20:(0:Int)≤(k2:Int):=by omega
         have hk21:(k2:Int)<(n:Int):=by omega
         clear hq hst hin
         go_wp2_with fail
         go_roundw
         case rel=>exact ⟨k2+1,by omega,by go_num,HS.out⟩
         case measure=>simp [intOf];omega
        ·obtain rfl:k2=n:=by omega
         obtain ⟨o,cy,rfl,hcy,h1,h2,h3,h4,h5⟩:=hin.done HDL.out.1
         obtain ⟨r0,r1,r2,r3⟩:=(HWB.out.below h5 (by rw [HWZ.out];omega)).facts
         clear hin
         by_cases hc0:cy=0
         ·subst hc0
          have hBW:Below W0.heap.size W0 wr:=h5
          have hM:=HSt.out o 0 wr h1 h2 h3 h4 h5
          have hblen:nv W o<2 ^ 4096↔blen (nv W o)≤4096:=(blen_le_iff (k:=4096)).symm
          have HSz:=Lib.hid (size_any (Own.sl h4 h2 h1) (by omega))
          by_cases hbig:nv W o<2 ^ 4096
          ·have hb3:=hblen.1 hbig
           have HPR:=Lib.hid (hM.2 hbig)
           generalize blen (nv W o)=x at *
           have hd8:decide ((4096:Int)<(x:Int))=false:=decide_eq_false (by omega)
           have hd9:decide (4096<x)=false:=decide_eq_false (by omega)
           clear hM hblen hbig h1 h2 h3 h4 h5 hBW
           go_wp2_with (go_at_call 38;(with_reducible refine HSz.out.mono ?_);rintro e w' ⟨rfl,rfl⟩)
           go_roundw
           case rel=>exact ⟨k+1,by omega,by go_num,HPR.out⟩
           case measure=>simp [intOf];omega
          ·have hb3:4096<blen (nv W o):=by
            rcases Nat.lt_or_ge 4096 (blen (nv W o)) with h | h
            ·exact h
            ·exact absurd (hblen.2 h) hbig
           have HC:=Lib.hid (pCode_long hr hr2 HBd.out (k+1) (by rw [←HS'.out.1,←hM.1];exact hbig))
           generalize blen (nv W o)=x at *
           have hd8:decide ((4096:Int)<(x:Int))=true:=decide_eq_true (by omega)
           have hd9:decide (4096<x)=true:=decide_eq_true (by omega)
           have HBZ:=Lib.hid (HW0.out.trans (hBW.mono (B':=w.heap.size) HW0.out.size))
           obtain ⟨r0,r1,r2,r3⟩:=(HWB.out.below hBW (by rw [HWZ.out];omega)).facts
           clear hM hblen hbig hBW h1 h2 h3 h4 h5
           go_wp2_with (go_at_call 38;(with_reducible refine HSz.out.mono ?_);rintro e w' ⟨rfl,rfl⟩)
           exact bodyPost_ret (v:=.tuple #[zeroV,.int .i64 10]) (by simp [results,Tryz.results18,go_sem,r0,r1]) rfl
            (PostC.bad HC.out (by decide) ((HBZ.out.setCell (by first | omega | (simp;done) | (simp;omega)) _).setCell (by first | omega | (simp;done) | (simp;omega)) _))
         ·have hd6:decide ((0:Int)<(cy:Int))=true:=decide_eq_true (by omega)
          have hd7:decide (0<cy)=true:=decide_eq_true (by omega)
          have hcm:(cy:Int) % 4294967296=(cy:Int):=by omega
          have HO:=Lib.hid h4
          have H5:=Lib.hid h5
          have HX:=Lib.hid (And.intro h1 (And.intro h2 h3))
          have hz5:=h5.size
          have HM2:=Lib.hid (fun A c wr h4 h5=>HMo.out o cy A c wr hc0 hcy h1 h2 h3 h4 h5)
          clear h4 h5 h1 h2 h3
          go_wp2_with (at_builtin;refine wpList_append_u32 (by rfl) _ _ (by rfl) _ A k2 c o (by rfl) (Own.alloc HO.out _) wr.heap.size cy (by rfl) (by simp [go_sem]) (by omega) (by simp;omega) ?_;intro A' c' w1 ho1 hb1)
          have hBW:Below W0.heap.size W0 w1:=(H5.out.alloc hz5 _).trans hb1
          have hM:=HM2.out A' c' w1 ho1 hBW
          have hblen:nv W (o ++ [cy])<2 ^ 4096↔blen (nv W (o ++ [cy]))≤4096:=(blen_le_iff (k:=4096)).symm
          have HSz:=Lib.hid (size_any (Own.sl ho1 (HX.out.2.1.append (Dig.cons hcy (Dig.nil _))) (by simp [HX.out.1])) (by omega))
          by_cases hbig:nv W (o ++ [cy])<2 ^ 4096
          ·have hb3:=hblen.1 hbig
           have HPR:=Lib.hid (hM.2 hbig)
           generalize blen (nv W (o ++ [cy]))=x at *
           have hd8:decide ((4096:Int)<(x:Int))=false:=decide_eq_false (by omega)
           have hd9:decide (4096<x)=false:=decide_eq_false (by omega)
           clear hM hblen hbig
           go_wp2_with (go_at_call 38;(with_reducible refine HSz.out.mono ?_);rintro e w' ⟨rfl,rfl⟩)
           go_roundw
           case rel=>exact ⟨k+1,by omega,by go_num,HPR.out⟩
           case measure=>simp [intOf];omega
          ·have hb3:4096<blen (nv W (o ++ [cy])):=by
            rcases Nat.lt_or_ge 4096 (blen (nv W (o ++ [cy]))) with h | h
            ·exact h
            ·exact absurd (hblen.2 h) hbig
           have HC:=Lib.hid (pCode_long hr hr2 HBd.out (k+1) (by rw [←HS'.out.1,←hM.1];exact hbig))
           generalize blen (nv W (o ++ [cy]))=x at *
           have hd8:decide ((4096:Int)<(x:Int))=true:=decide_eq_true (by omega)
           have hd9:decide (4096<x)=true:=decide_eq_true (by omega)
           have HBZ:=Lib.hid (HW0.out.trans (hBW.mono (B':=w.heap.size) HW0.out.size))
           obtain ⟨r0,r1,r2,r3⟩:=(HWB.out.below hBW (by rw [HWZ.out];omega)).facts
           clear hM hblen hbig hBW
           go_wp2_with (go_at_call 38;(with_reducible refine HSz.out.mono ?_);rintro e w' ⟨rfl,rfl⟩)
           exact bodyPost_ret (v:=.tuple #[zeroV,.int .i64 10]) (by simp [results,Tryz.results18,go_sem,r0,r1]) rfl
            (PostC.bad HC.out (by decide) ((HBZ.out.setCell (by first | omega | (simp;done) | (simp;omega)) _).setCell (by first | omega | (simp;done) | (simp;omega)) _))
      ·obtain rfl:k=s'.size:=by omega
       have HR:=Lib.hid (And.intro ho (And.intro hln (And.intro hdl hlt)))
       rw [List.take_of_length_le (by rw [sdig_length];exact Nat.le_refl _)] at hv
       have HZ:=Lib.hid (show ∀ b,pNeg s.data.toList=b→ival b l=pVal s.data.toList r by
        intro b hb;rw [ival,hv,pVal,hb,HS'.out.1,Int.toNat_natCast])
       have HC:=Lib.hid (pCode_ok hr hr2 HBd.out (by rw [←HS'.out.1,←hv];exact hlt))
       clear ho hln hdl hlt hv hnl
       go_wp2_with fail
       refine (laid_own _ HR.out.1 HR.out.2.1 HR.out.2.2.1 (HZ.out _ HS'.out.2)).mono ?_
       rintro ex w2 ⟨v,rfl,⟨A2,c2,rfl,ho2⟩,hb2⟩
       obtain ⟨r0,r1,r2,r3⟩:=(HWB.out.below (HWr.out.trans (hb2.mono HWr.out.size)) (by rw [HWZ.out];omega)).facts
       have hr9:=fun u u'=>ResI.stored (w:=w) (g:=w.heap.size) (u:=u) (u':=u') ⟨A2,c2,rfl,ho2⟩ (HW0.out.trans ((HWr.out.trans (hb2.mono HWr.out.size)).mono HW0.out.size)) (by rw [HWZ.out];omega) (Nat.le_refl _)
       have HR9:=Lib.hid hr9
       clear hr9 ho2 hb2
       go_wp2
       exact bodyPost_ret (v:=.tuple #[.agg #[.bool (decide (pVal s.data.toList r<0)),.slice A2 (digs W (pVal s.data.toList r).natAbs).length c2],.int .i64 0]) (by simp [results,Tryz.results18,go_sem,r0,r1]) rfl
        (PostC.ok HC.out (HR9.out _ _).1 (HR9.out _ _).2)
theorem Parse_any (s:ByteArray) (r:Int) (w:World) (hs:s.size≤maxLen) :
  Calls Tryz.prog 18 #[.string s,.int .i64 r] w (PostC w (pVal s.data.toList r) (pCode s.data.toList r)):=by
 by_cases h:r<2∨36<r
 ·exact Parse_radix s r w h _ _ (by rw [pCode,if_pos h])
 ·obtain ⟨n,rfl⟩:=Int.eq_ofNat_of_zero_le (show 0≤r by omega)
  exact Parse_good s n w hs (by omega) (by omega)
def txtL (neg:Bool) (r n:Nat):List Nat:=if n=0 then [48] else (if neg then [45] else []) ++ ((digs r n).map chrN).reverse
theorem infoB8:(Tryz.prog.info? 5).map (fun i=>(i.zero,i.size,i.bytes))=some (some (.int .u8 0),1,1):=by kernel_rfl
theorem Own.keep {t:TypeId} {w w':World} {B C n c g:Nat} {xs:List Value} (h:Own t w B (some ⟨g,0,none⟩) n c xs) (hb:Below C w w') (hg:g<C):Own t w' B (some ⟨g,0,none⟩) n c xs:=by
 refine ⟨h.1,?_⟩
 rcases h.2 with h1 | ⟨g',cap,cur,h1,h2,h3,h4⟩
 ·exact .inl h1
 ·injection h1 with a b d
  injection a with a
  injection a with a
  subst a;subst d
  exact .inr ⟨g,c,cur,rfl,h2,(hb.block g hg).trans h3,h4⟩
theorem Own.lt' {t:TypeId} {w:World} {B n c g:Nat} {xs:List Value} (h:Own t w B (some ⟨g,0,none⟩) n c xs):g<w.heap.size∧B≤g:=by
 rcases h.form with ⟨h1,_⟩ | ⟨g',h1,h2,h3⟩
 ·cases h1
 ·injection h1 with h1;injection h1 with h1;omega
theorem TIn.start {W1 wr:World} {B1 B2 g n c:Nat} {l:List Nat} {A':Option Addr} {n' c':Nat} {out:List Nat} {r:Nat} (hr:0<r) (hl:l.length=n) (hd:Dig W l) (h1:OwnU wr B1 (some ⟨g,0,none⟩) n c (u32s l)) (h2:OwnB wr B2 A' n' c' (u8s out)) (h3:Below B1 W1 wr) :
  TIn W1 B1 B2 g n c l A' n' c' out r n (.int .u32 0) wr:=
 ⟨l,0,rfl,hr,hl,hd,fun _ _=>rfl,by rw [List.drop_eq_nil_of_le (by omega)];simp [nv],h1,h2,h3⟩
theorem digs_len_r {r N:Nat} (hr:2≤r) (hN:N<2 ^ 4096):(digs r N).length≤4096:=
 digs_length_le (b:=r) (n:=N) (k:=4096) (by omega) (Nat.lt_of_lt_of_le hN (Nat.pow_le_pow_left (n:=2) (m:=r) hr 4096))
theorem TRel.next {W1 wr:World} {B1 B2 g n c r N n' c':Nat} {l o:List Nat} {A':Option Addr} {ds:List Nat} (hr:2≤r) (hN:N<2 ^ 4096) (hn:l ≠ []) (hnrm:Nrm l) (h:digs r N=ds ++ digs r (nv W l)) (hl:ds.length=n')
  (h1:o.length=n) (hn128:n≤128) (h2:Dig W o) (h3:nv W o=nv W l / r) (h4:OwnU wr B1 (some ⟨g,0,none⟩) n c (u32s o)) (h5:OwnB wr B2 A' (n'+1) c' (u8s (ds.map chrN ++ [chrN (nv W l % r)]))) (h6:Below B1 W1 wr) :
  TRel W1 B1 B2 g c r N (.slice (some ⟨g,0,none⟩) (tlen o) c) (.slice A' (n'+1) c') wr:=by
 have hp:=nv_pos (b:=W) (by decide) hnrm hn
 have e:digs r N=(ds ++ [nv W l % r]) ++ digs r (nv W (tr o)):=by
  rw [h,nv_tr,h3,List.append_assoc,digs_pos (by omega) (by omega:nv W l≠0)];rfl
 refine ⟨tlen o,tr o,A',n'+1,c',ds ++ [nv W l % r],rfl,rfl,tr_length o,Nat.le_trans (tlen_le o) (by omega),h2.tr,tr_nrm o,e,by simp [hl],?_,?_,by rw [List.map_append];exact h5,h6⟩
 ·have h7:=TRel.lt hr hn hnrm h
  have h8:=digs_len_r hr hN
  omega
 ·have:=Own.take h4 (k:=tlen o) (by rw [←h1];exact tlen_le o)
  rwa [u32s_take] at this
theorem wpList_append_u8 {ops:Array Oper} {rest:List Oper} {o:Oper} {a:Act} {Q:Exit→Act→World→Prop} {w:World} (hgd:o.guard=none) (s x:Operand)
  (ho:o.op = .call { callee:=.builtin .append,args:=#[s,x],argTypes:=#[86,86] })
  (base:Nat) (A:Option Addr) (n cp:Nat) (l:List Nat) (hs:a.eval s = .slice A n cp) (hown:OwnB w base A n cp (u8s l))
  (g:Nat) (y:Nat) (hx:a.eval x = .slice (some ⟨g,0,none⟩) 1 1) (hc:w.cell? ⟨g,0,none⟩=some (.int .u8 (y:Int))) (hn:n≤67108864) (hbase:base≤w.heap.size)
  (h:∀ A' c' w',OwnB w' base A' (n+1) c' (u8s (l ++ [y]))→Below base w w'→wpList Tryz.prog ops Q rest (a.put o.dst (.slice A' (n+1) c')) w'):wpList Tryz.prog ops Q (o :: rest) a w:=by
 obtain ⟨i0,hi,hz0,hz1,hz2⟩:=info_parts infoB8
 refine wpList_append_own _ hgd s x 86 ho base 5 i0 (.int .u8 0) 1 1 Tryz.underlying86 hi hz0 hz1 hz2 rfl (by decide) _ n (u8s l) hs hown ⟨g,0,none⟩ 1 1 [.int .u8 (y:Int)] hx rfl ?_ ?_ (by simp [maxLen];omega) (by omega) hbase ?_
 ·intro j u hj
  cases j with
  | zero=>simp at hj;subst hj;exact hc
  | succ j=>simp at hj
 ·intro u hu;simp at hu;subst hu;rfl
 ·intro v' w' hown' hg _
  have hf:∃ A' c',v' = .slice A' (n+1) c':=by
   rcases hown'.2 with ⟨h1,h2⟩ | ⟨g',cap,cur,h1,_⟩
   ·exact absurd h2 (by simp)
   ·exact ⟨_,_,h1⟩
  obtain ⟨A',c',rfl⟩:=hf
  refine h A' c' w' (by have h3:=hown';rw [show u8s l ++ [Value.int .u8 (y:Int)]=u8s (l ++ [y]) by simp [u8s]] at h3;exact h3) ⟨hg.os,hg.tape,hg.output,hg.size,fun j hj=>hg.block j (by omega) ?_⟩
  rcases Own.form hown with ⟨rfl,_⟩ | ⟨g',rfl,h4,_⟩
  ·simp [Value.ownBlock]
  ·simp [Value.ownBlock];omega
theorem RvRel.start {w1 wr:World} {B1 B2 n g c:Nat} {l:List Nat} (hl:l.length=n) (h:OwnB wr B2 (some ⟨g,0,none⟩) n c (u8s l)) (hb:Below B1 w1 wr):RvRel w1 B1 B2 n g c l 0 wr:=
 ⟨l,hl,fun j hj=>by rw [if_neg (by omega)],h,hb⟩
theorem RvRel.drew {w1 wr:World} {B1 B2 n g c i:Nat} {l:List Nat} (h:RvRel w1 B1 B2 n g c l i wr):RvRel w1 B1 B2 n g c l i wr.drew:=by
 obtain ⟨o,h1,h2,h3,h4⟩:=h
 exact ⟨o,h1,h2,h3,h4.drew⟩
theorem conv_own {wr:World} {B2 n g c:Nat} {l:List Nat} (h:OwnB wr B2 (some ⟨g,0,none⟩) n c (u8s l)) (hl:l.length=n):(convert 86 9 (.slice (some ⟨g,0,none⟩) n c)).run Tryz.prog wr = .ok (.string (strOfNums (l.map fun x:Nat=>(x:Int)))) wr:=by
 refine run_convert_bytes_arg wr 86 5 Tryz.underlying86 Tryz.underlying5 g 0 n c (l.map fun x:Nat=>(x:Int)) (by simpa using hl) (fun i hi=>?_) 9 Tryz.underlying9
 rw [Nat.zero_add,Own.cell h hi,u8s_get (by omega),getD_eq (by omega)]
 rw [List.getD_eq_getElem?_getD,List.getElem?_map,List.getElem?_eq_getElem (by omega)]
 rfl
def strN (l:List Nat):ByteArray:=⟨(l.map UInt8.ofNat).toArray⟩
def TextPost (w:World) (l:List Nat) (co:Int) (e:Ending) (w':World):Prop:=e = .returned (.tuple #[.string (strN l),.int .i64 co])∧Below w.heap.size w w'
def tCode (lg:Bool) (r:Int):Int:=if lg then 10 else if r<2∨36<r then 13 else 0
def tList (lg:Bool) (neg:Bool) (n:Nat) (r:Int):List Nat:=if lg then [] else if r<2∨36<r then [] else txtL neg r.toNat n
theorem TextPost.mk {w w':World} {l l':List Nat} {co co':Int} {s:ByteArray} (h1:l=l') (h2:co=co') (h3:s=strN l') (hb:Below w.heap.size w w'):TextPost w l co (.returned (.tuple #[.string s,.int .i64 co'])) w':=by
 subst h1;subst h2;subst h3;exact ⟨rfl,hb⟩
abbrev W1x (w:World) (neg:Bool) (A:Option Addr) (n c:Nat):World:=(w.alloc (.cells #[.bool neg,.slice A n c] 39)).alloc (.cells #[.bool neg,.slice A n c] 39)
theorem W1x_long {w:World} {neg:Bool} {B:Nat} {A:Option Addr} {l:List Nat} {n c:Nat} (hs:SlU w B A n c l) (hn:n≤35184372088832) (hB:B≤w.heap.size) :
  Calls Tryz.prog 42 #[.slice (some ⟨w.heap.size+1,0,none⟩) 1 1] (W1x w neg A n c) (LongPost (lng l) (W1x w neg A n c)):=by
 have hb:Below w.heap.size w (W1x w neg A n c):=((Below.refl _ _).alloc (Nat.le_refl _) _).alloc (by simp) _
 have hf:=(Bx.new (w.alloc (.cells #[.bool neg,.slice A n c] 39)) (.bool neg) (.slice A n c)).facts
 simp only [World.size_alloc] at hf
 exact long1_any (neg:=neg) (hs.below hb hB) hn (Nat.le_trans hB hb.size) hf.1 hf.2.1
set_option maxRecDepth 100000 in
set_option maxHeartbeats 1000000 in
theorem Text_bad (neg:Bool) {B:Nat} {A:Option Addr} {l:List Nat} {n c:Nat} {w:World} (hs:SlU w B A n c l) (hn:n≤35184372088832) (hB:B≤w.heap.size) (r:Int) (hbad:lng l=true∨r<2∨36<r) :
  Calls Tryz.prog 22 #[.agg #[.bool neg,.slice A n c],.int .i64 r] w (TextPost w (tList (lng l) neg (nv W l) r) (tCode (lng l) r)):=by
 have HL:=Lib.hid (W1x_long (neg:=neg) hs hn hB)
 have HB:=Lib.hid (Below.refl w.heap.size w)
 cases hb:lng l
 ·rw [hb] at HL
  have hr:r<2∨36<r:=by
   rcases hbad with h | h
   ·rw [hb] at h;cases h
   ·exact h
  have H1:=Lib.hid (show tList false neg (nv W l) r = [] by rw [tList,if_neg (by simp),if_pos hr])
  have H2:=Lib.hid (show tCode false r=13 by rw [tCode,if_neg (by simp),if_pos hr])
  clear hbad hb hs hn hB
  by_cases h2:r<2
  ·have d1:decide (r<2)=true:=decide_eq_true h2
   clear hr
   go_enter Tryz.func22,Tryz.ntmps22
   go_wp2_with fail
   refine HL.out.mono ?_
   rintro ex w3 ⟨rfl,hb3⟩
   go_wp2
   go_ret2
   exact TextPost.mk H1.out H2.out rfl (((HB.out.alloc (Nat.le_refl _) _).alloc (by simp) _).trans (hb3.mono (B':=w.heap.size) (by simp;omega)))
  ·have d1:decide (r<2)=false:=decide_eq_false h2
   have d2:decide (36<r)=true:=decide_eq_true (by omega)
   clear hr
   go_enter Tryz.func22,Tryz.ntmps22
   go_wp2_with fail
   refine HL.out.mono ?_
   rintro ex w3 ⟨rfl,hb3⟩
   go_wp2
   go_ret2
   exact TextPost.mk H1.out H2.out rfl (((HB.out.alloc (Nat.le_refl _) _).alloc (by simp) _).trans (hb3.mono (B':=w.heap.size) (by simp;omega)))
 ·rw [hb] at HL
  have H1:=Lib.hid (show tList true neg (nv W l) r = [] by rw [tList,if_pos rfl])
  have H2:=Lib.hid (show tCode true r=10 by rw [tCode,if_pos rfl])
  clear hbad hb hs hn hB
  go_enter Tryz.func22,Tryz.ntmps22
  go_wp2_with fail
  refine HL.out.mono ?_
  rintro ex w3 ⟨rfl,hb3⟩
  go_wp2
  go_ret2
  exact TextPost.mk H1.out H2.out rfl (((HB.out.alloc (Nat.le_refl _) _).alloc (by simp) _).trans (hb3.mono (B':=w.heap.size) (by simp;omega)))
theorem strNums_rev (l:List Nat):strOfNums (l.map (fun x:Nat=>(x:Int))).reverse=strN l.reverse:=by
 simp [strOfNums,strN,List.map_reverse]
theorem alpha_all:∀ i:Fin 36,((#[48,49,50,51,52,53,54,55,56,57,97,98,99,100,101,102,103,104,105,106,107,108,109,110,111,112,113,114,115,116,117,118,119,120,121,122]:Array UInt8)[i.1]!).toNat=chrN i.1:=by decide
theorem alpha_get {rr:Nat} (h:rr<36) (h':rr<(⟨#[48,49,50,51,52,53,54,55,56,57,97,98,99,100,101,102,103,104,105,106,107,108,109,110,111,112,113,114,115,116,117,118,119,120,121,122]⟩:ByteArray).size):((⟨#[48,49,50,51,52,53,54,55,56,57,97,98,99,100,101,102,103,104,105,106,107,108,109,110,111,112,113,114,115,116,117,118,119,120,121,122]⟩:ByteArray)[rr]'h').toNat=chrN rr:=by
 rw [←alpha_all ⟨rr,h⟩]
 show _=((#[48,49,50,51,52,53,54,55,56,57,97,98,99,100,101,102,103,104,105,106,107,108,109,110,111,112,113,114,115,116,117,118,119,120,121,122]:Array UInt8)[rr]!).toNat
 rw [getElem!_pos _ rr (by simpa using h)]
 rfl
set_option maxRecDepth 100000 in
set_option maxHeartbeats 2000000 in
theorem Text_good (neg:Bool) {B:Nat} {A:Option Addr} {l:List Nat} {n c:Nat} {w:World} (hs:SlU w B A n c l) (hn:n≤35184372088832) (hB:B≤w.heap.size) (r:Nat) (hr:2≤r) (hr2:r≤36) (hlg:lng l=false) :
  Calls Tryz.prog 22 #[.agg #[.bool neg,.slice A n c],.int .i64 (r:Int)] w (TextPost w (txtL neg r (nv W l)) 0):=by
 have HL:=Lib.hid (W1x_long (neg:=neg) hs hn hB)
 rw [hlg] at HL
 have HB:=Lib.hid (Below.refl w.heap.size w)
 have d1:decide ((r:Int)<2)=false:=decide_eq_false (by omega)
 have d2:decide ((36:Int)<(r:Int))=false:=decide_eq_false (by omega)
 have HI:=Lib.hid (fun w1 (hb:Below w.heap.size w w1)=>trim_any (hs.below (C:=w.heap.size) hb hB))
 have hlt:nv W l<2 ^ 4096:=by
  have:=of_decide_eq_false hlg
  exact (blen_le_iff (n:=nv W l) (k:=4096)).1 (by omega)
 have htl:tlen l≤128:=by
  rw [←tr_length l]
  exact nrm_len (k:=128) (tr_nrm l) (by rw [W128,nv_tr];exact hlt)
 have HO:=Lib.hid (fun w1 (hb:Below w.heap.size w w1)=>own_any ((hs.tr).below (C:=w.heap.size) hb hB) (by omega) (Nat.le_trans hB hb.size))
 have HD:=Lib.hid (And.intro hs.dig.tr (tr_nrm l))
 have hv:=nv_tr W l
 have HTz:=Lib.hid (show tlen l=0→txtL neg r (nv W (tr l)) = [48] from fun h=>by rw [nv_tr,(tlen_zero_iff (b:=W) (by decide) l).1 h];rfl)
 have HTp:=Lib.hid (show tlen l≠0→nv W (tr l)≠0 from fun h=>by rw [nv_tr];exact fun h2=>h ((tlen_zero_iff (b:=W) (by decide) l).2 h2))
 have HTL:=Lib.hid (tr_length l)
 rw [←hv] at hlt ⊢
 have h128:=Lib.hid (nrm_len (k:=128) (tr_nrm l) (by rw [W128];exact hlt))
 have HLT:=Lib.hid hlt
 generalize tr l=l2 at *
 generalize tlen l=tl at *
 clear hlg hs hn hB hv hlt
 go_enter Tryz.func22,Tryz.ntmps22
 go_wp2_with fail
 refine HL.out.mono ?_
 rintro ex w3 ⟨rfl,hb3⟩
 have HB3:=Lib.hid (((HB.out.alloc (Nat.le_refl _) (.cells #[.bool neg,.slice A n c] 39)).alloc (by simp) (.cells #[.bool neg,.slice A n c] 39)).trans (hb3.mono (B':=w.heap.size) (by simp;omega)))
 have hz3:=hb3.size
 simp at hz3
 have hbx:=((Bx.alloc (Bx.new w (.bool neg) (.slice A n c)) _).below hb3 (by simp;omega))
 obtain ⟨a0,a1,_,_⟩:=hbx.facts
 clear hb3
 go_wp2_with (go_at_call 41;refine (HI.out _ HB3.out).mono ?_;rintro e w' ⟨rfl,rfl⟩)
 refine (HO.out _ HB3.out).mono ?_
 rintro e w1 ⟨A1,n1,c1,rfl,ho1,hl1,hb1⟩
 obtain rfl:n1=tl:=by rw [←hl1];exact HTL.out
 by_cases h0:n1=0
 ·have HT:=Lib.hid (HTz.out h0)
  subst h0
  go_wp2
  go_ret2
  exact TextPost.mk HT.out rfl rfl (HB3.out.trans (hb1.mono (B':=w.heap.size) (by omega)))
 ·obtain ⟨g,rfl,hg1,hg2⟩:=Own.at_ ho1 (by omega)
  have hk0:((n1:Int)==0)=false:=beq_eq_false_iff_ne.2 (by omega)
  obtain ⟨b0,_,_,_⟩:=(hbx.below hb1 (by omega)).facts
  have HX:=Lib.hid (hbx.below hb1 (by omega))
  have H3:=Lib.hid hb1
  have HS:=Lib.hid (show TRel w1 w3.heap.size w1.heap.size g c1 r (nv W l2) (.slice (some ⟨g,0,none⟩) n1 c1) (.slice none 0 0) w1 from
   ⟨n1,l2,none,0,0,[],rfl,rfl,hl1,by rw [←hl1];exact h128.out,HD.out.1,HD.out.2,rfl,rfl,by omega,ho1,⟨rfl,.inl ⟨rfl,rfl⟩⟩,Below.refl _ _⟩)
  have HNz:=Lib.hid (HTp.out h0)
  clear ho1 hb1 a0 a1 hbx
  have hg2':=hg2
  have HLT2:=Lib.hid (digs_len_r hr HLT.out)
  generalize hN:nv W l2=N at *
  obtain ⟨K,hK⟩:∃ K,(digs r N).length=K:=⟨_,rfl⟩
  rw [hK] at HLT2
  have HK:=Lib.hid hK
  have HNN:=Lib.hid hN
  have HW:=Lib.hid (And.intro (HX.out) (And.intro hg1 hg2))
  generalize hB2:w1.heap.size=B2 at *
  have HB2:=Lib.hid hB2
  generalize hB1:w3.heap.size=B1 at *
  have HB1:=Lib.hid hB1
  clear hK hN hB1 hB2
  go_wp2_with fail
  go_loopw [6,7] (fun lv ov wr=>TRel w1 B1 B2 g c1 r N lv ov wr) (fun _ ov _=>K - (match ov with | .slice _ n _=>n | _=>0))
  case atStart=>exact HS.out
  case round=>
   obtain ⟨n,l,A',n',c',ds,rfl,rfl,hln,hn128,hdl,hnrm,hdg,hdn,hn4,ho,hob,hbw⟩:=hrel
   by_cases hn0:n=0
   ·have hl0:l = []:=List.length_eq_zero_iff.1 (by omega)
    subst hl0
    have hdr:digs r N=ds:=by rw [hdg,show nv W ([]:List Nat)=0 from rfl,digs_zero,List.append_nil]
    obtain ⟨b0,b1,_,_⟩:=(HW.out.1.below hbw (by omega)).facts
    have hKz:0<K:=by rw [←HK.out,digs_pos (by omega) HNz.out];simp
    have hKn:K=n':=by rw [←HK.out,hdr,hdn]
    have HKn:=Lib.hid hKn
    have hB2z:B2≤wr.heap.size:=by have:=hbw.size;rw [←HB2.out];exact this
    have hn'0:0<n':=by omega
    subst hn0
    clear hKn
    cases neg
    ·have HOB:=Lib.hid hob
     have HBW:=Lib.hid hbw
     clear hob hbw ho
     go_wp2_with fail
     have hn1:(ds.map chrN).length=n':=by simp [hdn]
     obtain ⟨g2,hA2,hg3,hg4⟩:=Own.at_ HOB.out (by omega)
     subst hA2
     have HRS:=Lib.hid (RvRel.start (B1:=B1) (w1:=w1) hn1 HOB.out HBW.out)
     have HTX:=Lib.hid (show txtL false r N=(ds.map chrN).reverse by rw [txtL,if_neg HNz.out,hdr];simp)
     have HLEN:=Lib.hid hn1
     have hnI:((n':Nat):Int)≤5000:=by omega
     have hnI0:(1:Int)≤((n':Nat):Int):=by omega
     have HG:=Lib.hid (show B1≤g2 by have:=HW.out.2;omega)
     generalize hnn:n'=nn at *
     have HNN2:=Lib.hid (show (nn:Int) - 1=(nn:Int) - 1 from rfl)
     clear hnn
     generalize ds.map chrN=ll at *
     clear hdg hdr hn1 hdn hn4
     go_loopw [10,11] (fun iv kv wr=>∃ i:Nat,2 * i≤nn+1∧iv = .int .i64 (i:Int)∧kv = .int .i64 ((nn:Int) - 1 - (i:Int))∧RvRel w1 B1 B2 nn g2 c' ll i wr) (fun _ kv _=>(intOf kv+1).toNat)
     case atStart=>exact ⟨0,by omega,rfl,congrArg (Value.int .i64) (by have:=HNN2.out;omega),HRS.out⟩
     case round=>
      obtain ⟨i,hi,rfl,rfl,hrv⟩:=hrel
      by_cases hik:2 * i+1<nn
      ·obtain ⟨k,hk⟩:∃ k:Nat,k+i+1=nn:=⟨nn - 1 - i,by omega⟩
       have hkI:(nn:Int) - 1 - (i:Int)=(k:Int):=by omega
       obtain ⟨f1,f2,f3,f4,hnx⟩:=hrv.facts hk (by omega) HG.out
       have HNX:=Lib.hid hnx
       have hi0:(0:Int)≤(i:Int):=by omega
       have hi1:(i:Int)<(nn:Int):=by omega
       have hk0:(0:Int)≤(k:Int):=by omega
       have hk1:(k:Int)<(nn:Int):=by omega
       have hik2:(i:Int)<(k:Int):=by omega
       have hne1:¬(i=k):=by omega
       have hne2:¬(k=i):=by omega
       generalize ll.getD i 0=x at *
       generalize ll.getD k 0=y at *
       rw [hkI]
       have HKI:=Lib.hid hkI
       clear hnx hrv hkI
       go_wp2_with fail
       go_region
       all_goals
        go_wp2
        exact ⟨⟨i+1,by omega,by go_num,congrArg (Value.int .i64) (by have:=HKI.out;omega),HNX.out.drew⟩,by simp [intOf]⟩
      ·obtain ⟨ho9,hb9⟩:=hrv.done HLEN.out (by omega)
       have hcv:=conv_own ho9 (by simpa using HLEN.out)
       have HB9:=Lib.hid hb9
       have hd5:decide ((i:Int)<(nn:Int) - 1 - (i:Int))=false:=decide_eq_false (by omega)
       clear ho9 hb9 hrv
       go_wp2
       go_ret2
       exact TextPost.mk HTX.out rfl (strNums_rev _) (HB3.out.trans ((H3.out.trans HB9.out).mono (by omega)))
    ·have HOB0:=Lib.hid hob
     have HBW0:=Lib.hid hbw
     have hbz:=hbw.size
     clear hob hbw ho
     go_wp2_with (at_builtin;refine wpList_append_u8 (by rfl) _ _ (by rfl) _ A' n' c' (ds.map chrN) (by rfl) (Own.alloc HOB0.out _) wr.heap.size 45 (by rfl) ?hc (by omega) (by simp;omega) ?_;rotate_left;intro A'' c'' w4 ho4 hb4)
     case hc=>exact cell_of_row _ _ 0 _ _ (0,0) (heap_alloc_new wr _)
     have HOB:=Lib.hid ho4
     have HBW:=Lib.hid ((HBW0.out.alloc (by have:=HW.out.2;omega) _).trans (hb4.mono (by have:=HW.out.2;omega)))
     clear ho4 hb4
     go_wp2_with fail
     have hn1:(ds.map chrN ++ [45]).length=n'+1:=by simp [hdn]
     obtain ⟨g2,hA2,hg3,hg4⟩:=Own.at_ HOB.out (by omega)
     subst hA2
     have HRS:=Lib.hid (RvRel.start (B1:=B1) (w1:=w1) hn1 HOB.out HBW.out)
     have HTX:=Lib.hid (show txtL true r N=(ds.map chrN ++ [45]).reverse by rw [txtL,if_neg HNz.out,hdr];simp)
     have HLEN:=Lib.hid hn1
     have hnI:((n'+1:Nat):Int)≤5000:=by omega
     have hnI0:(1:Int)≤((n'+1:Nat):Int):=by omega
     have HG:=Lib.hid (show B1≤g2 by have:=HW.out.2;omega)
     generalize hnn:n'+1=nn at *
     have HNN2:=Lib.hid (show (n':Int)=(nn:Int) - 1 by omega)
     clear hnn
     generalize ds.map chrN ++ [45]=ll at *
     clear hdg hdr hn1 hdn hn4
     go_loopw [10,11] (fun iv kv wr=>∃ i:Nat,2 * i≤nn+1∧iv = .int .i64 (i:Int)∧kv = .int .i64 ((nn:Int) - 1 - (i:Int))∧RvRel w1 B1 B2 nn g2 c'' ll i wr) (fun _ kv _=>(intOf kv+1).toNat)
     case atStart=>exact ⟨0,by omega,rfl,congrArg (Value.int .i64) (by have:=HNN2.out;omega),HRS.out⟩
     case round=>
      obtain ⟨i,hi,rfl,rfl,hrv⟩:=hrel
      by_cases hik:2 * i+1<nn
      ·obtain ⟨k,hk⟩:∃ k:Nat,k+i+1=nn:=⟨nn - 1 - i,by omega⟩
       have hkI:(nn:Int) - 1 - (i:Int)=(k:Int):=by omega
       obtain ⟨f1,f2,f3,f4,hnx⟩:=hrv.facts hk (by omega) HG.out
       have HNX:=Lib.hid hnx
       have hi0:(0:Int)≤(i:Int):=by omega
       have hi1:(i:Int)<(nn:Int):=by omega
       have hk0:(0:Int)≤(k:Int):=by omega
       have hk1:(k:Int)<(nn:Int):=by omega
       have hik2:(i:Int)<(k:Int):=by omega
       have hne1:¬(i=k):=by omega
       have hne2:¬(k=i):=by omega
       generalize ll.getD i 0=x at *
       generalize ll.getD k 0=y at *
       rw [hkI]
       have HKI:=Lib.hid hkI
       clear hnx hrv hkI
       go_wp2_with fail
       go_region
       all_goals
        go_wp2
        exact ⟨⟨i+1,by omega,by go_num,congrArg (Value.int .i64) (by have:=HKI.out;omega),HNX.out.drew⟩,by simp [intOf]⟩
      ·obtain ⟨ho9,hb9⟩:=hrv.done HLEN.out (by omega)
       have hcv:=conv_own ho9 (by simpa using HLEN.out)
       have HB9:=Lib.hid hb9
       have hd5:decide ((i:Int)<(nn:Int) - 1 - (i:Int))=false:=decide_eq_false (by omega)
       clear ho9 hb9 hrv
       go_wp2
       go_ret2
       exact TextPost.mk HTX.out rfl (strNums_rev _) (HB3.out.trans ((H3.out.trans HB9.out).mono (by omega)))
   ·have hne:l ≠ []:=by intro e;rw [e] at hln;exact hn0 hln.symm
    have hlt:=TRel.lt hr hne hnrm hdg
    rw [HK.out,hdn] at hlt
    have HIn:=Lib.hid (TIn.start (by omega) hln hdl ho hob hbw (r:=r))
    have HNx:=Lib.hid (fun n o A'' c'' wr=>TRel.next (W1:=w1) (wr:=wr) (B1:=B1) (B2:=B2) (g:=g) (n:=n) (c:=c1) (n':=n') (c':=c'') (A':=A'') (o:=o) hr HLT.out hne hnrm hdg hdn)
    have HLn:=Lib.hid (And.intro hln hdl)
    have hszB:∀ wr:World,w1.heap.size≤wr.heap.size→B2≤wr.heap.size:=by rw [HB2.out];exact fun _ h=>h
    have hd3:decide ((0:Int)<(n:Int))=true:=decide_eq_true (by omega)
    have hd4:decide (0<n)=true:=decide_eq_true (by omega)
    have hnI:(n:Int)≤128:=by omega
    have hnI0:(1:Int)≤(n:Int):=by omega
    obtain ⟨wo,hwo⟩:∃ wo:World,wo=wr:=⟨_,rfl⟩
    subst hwo
    clear ho hob hbw hln hdl hnrm hdg hdn hne
    go_wp2_with fail
    go_loopw [8,9] (fun sv iv wr=>∃ i:Nat,i≤n∧iv = .int .i64 ((i:Int) - 1)∧TIn w1 B1 B2 g n c1 l A' n' c' (ds.map chrN) r i sv wr) (fun _ iv _=>(intOf iv+1).toNat)
    case atStart=>exact ⟨n,Nat.le_refl _,rfl,HIn.out⟩
    case round=>
     obtain ⟨i,hi,rfl,hin⟩:=hrel
     by_cases hi0:i=0
     ·subst hi0
      obtain ⟨o,rfl,hrm,h1,h2,h3,h4,h5,h6⟩:=hin.done
      have HT:=Lib.hid (trim_any (Own.sl h4 h2 h1))
      have HO4:=Lib.hid (And.intro h1 (And.intro h2 (And.intro h3 (And.intro h4 (And.intro h5 h6)))))
      have hz:=(Own.lt' h4).1
      have hzb:=h6.size
      have hB2z:=hszB wr (by have:=h6.size;omega)
      have HNy:=Lib.hid (fun A'' c'' w2 k1 k2=>HNx.out n o A'' c'' w2 h1 hn128 h2 h3 k1 (by exact k2))
      generalize hrr:nv W l % r=rr at *
      have h36:rr<36:=by omega
      have h36I:(rr:Int)<36:=by omega
      clear hin h1 h2 h3 h4 h5 h6 hrr
      go_wp2_with (first
       | (go_at_call 41;(with_reducible refine HT.out.mono ?_);rintro e w2 ⟨rfl,rfl⟩)
       | (at_builtin;refine wpList_append_u8 (by rfl) _ _ (by rfl) _ A' n' c' (ds.map chrN) (by rfl) (Own.alloc HO4.out.2.2.2.2.1 _) wr.heap.size (chrN rr) (by rfl) ?hc (by omega) (by simp;omega) ?_;rotate_left;intro A'' c'' w4 ho4 hb4))
      case hc=>
       rw [alpha_get h36]
       exact cell_of_row _ _ 0 _ _ (0,0) (heap_alloc_new wr _)
      have HEnd:=Lib.hid (HNy.out A'' c'' w4 (Own.keep (Own.alloc HO4.out.2.2.2.1 _) (hb4.mono (by exact Nat.le_refl _)) (by exact HW.out.2.2)) ho4 ((HO4.out.2.2.2.2.2.alloc (by have:=HW.out.2.1;omega) _).trans (hb4.mono (by have:=HW.out.2;omega))))
      go_roundw
      case rel=>exact HEnd.out
      case measure=>simp;omega
     ·obtain ⟨j,rfl⟩:∃ j,i=j+1:=⟨i - 1,by omega⟩
      obtain ⟨rem,rfl,hrem,hc,hf,hst⟩:=hin.facts (by omega) HLn.out.2 HLn.out.1 hr2 HW.out.2.1 HW.out.2.2
      have hx:l.getD j 0<4294967296:=HLn.out.2.getD (by decide) j
      have HDv:=Lib.hid (fun w1=>div32_any rem (l.getD j 0) r w1 hrem (by omega) hx)
      generalize l.getD j 0=x at *
      have hj0:(0:Int)≤(j:Int):=by omega
      have hj1:(j:Int)<(n:Int):=by omega
      generalize hqq:(rem * 4294967296+x) / r=q at *
      generalize hmm:(rem * 4294967296+x) % r=m at *
      clear hin hqq hmm
      go_wp2_with (go_at_call 44;(with_reducible refine (HDv.out _).mono ?_);rintro e w2 ⟨rfl,hdr⟩;obtain ⟨k1,k2,hS⟩:=hst.out _ hdr;have HSS:=Lib.hid hS;clear hS)
      go_roundw
      case rel=>exact ⟨j,by omega,by go_num,HSS.out⟩
      case measure=>simp [intOf]
theorem Text_any (neg:Bool) {B:Nat} {A:Option Addr} {l:List Nat} {n c:Nat} {w:World} (hs:SlU w B A n c l) (hn:n≤35184372088832) (hB:B≤w.heap.size) (r:Int) :
  Calls Tryz.prog 22 #[.agg #[.bool neg,.slice A n c],.int .i64 r] w (TextPost w (tList (lng l) neg (nv W l) r) (tCode (lng l) r)):=by
 by_cases hbad:lng l=true∨r<2∨36<r
 ·exact Text_bad neg hs hn hB r hbad
 ·have hl:lng l=false:=by
   cases h:lng l with
   | false=>rfl
   | true=>exact absurd (.inl h) hbad
  obtain ⟨k,rfl⟩:=Int.eq_ofNat_of_zero_le (show 0≤r by omega)
  rw [hl,tList,tCode,if_neg (by simp),if_neg (by omega),if_neg (by simp),if_neg (by omega),Int.toNat_natCast]
  exact Text_good neg hs hn hB k (by omega) (by omega) hl
def PostR (w:World) (z:Int) (code:Int) (e:Ending) (w':World):Prop:=
 ∃ v,e = .returned (.tuple #[v,.int .i64 code])∧ResI w' w.heap.size v z∧Below w.heap.size w w'
theorem PostC.toR {w w':World} {z co:Int} {e:Ending} (h:PostC w z co e w'):PostR w (if co=0 then z else 0) co e w':=by
 obtain ⟨v,h1,h2,h3,h4⟩:=h
 refine ⟨v,h1,?_,h4⟩
 by_cases hc:co=0
 ·rw [if_pos hc];exact h2 hc
 ·rw [if_neg hc,h3 hc];exact ResI.zero _ _
theorem PostC.ok_ {w w':World} {z:Int} {e:Ending} {co:Int} (h:PostC w z co e w') (hco:co=0):PostR w z 0 e w':=by
 have:=h.toR
 subst hco
 rwa [if_pos rfl] at this
end
section
open Go.ChangeShapes Go.WideShapes Go.ChangeAt Go.RowKit Go.Joins Hb
section
end
end
section
open Go.RowKit Hb
section
end
section
end
theorem lng_ival {neg:Bool} {l:List Nat} {z:Int} (h:ival neg l=z):lng l=tooLong z:=by
 rw [lng,tooLong,←h,ival_natAbs]
section
end
section
end
theorem txt_same {na nb:Bool} {r m n:Nat} (h:(if na then -(m:Int) else (m:Int))=(if nb then -(n:Int) else n)):txtL na r m=txtL nb r n:=by
 have hmn:m=n:=by cases na <;> cases nb <;> simp at h <;> omega
 subst hmn
 by_cases h0:m=0
 ·subst h0;rfl
 ·have:na=nb:=by cases na <;> cases nb <;> simp at h ⊢ <;> omega
  rw [this]
theorem ival_if (neg:Bool) (l:List Nat):ival neg l=if neg then -(nv W l:Int) else (nv W l:Int):=rfl
def txtZ (z:Int) (r:Nat):List Nat:=txtL (decide (z<0)) r z.natAbs
theorem txtZ_eq {neg:Bool} {l:List Nat} {z:Int} (h:ival neg l=z) (r:Nat):txtL neg r (nv W l)=txtZ z r:=by
 refine txt_same ?_
 rw [←ival_if,h]
 by_cases hz:z<0
 ·rw [if_pos (by simpa using hz)];omega
 ·rw [if_neg (by simpa using hz)];omega
def TextQ (w:World) (s:ByteArray) (e:Ending) (w':World):Prop:=e = .returned (.tuple #[.string s,.int .i64 0])∧Below w.heap.size w w'
section
end
end
end Go.Proofs.YtjpnmmjgdiiahaaGreatDoor
