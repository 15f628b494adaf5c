import Derived.Shelf.Small.Bits
import Derived.Test.YtpikjceodmepiaaGreatDoorRows
import Derived.WalkKit
import Derived.Deep.QuietTactic
import Derived.BigQuiet
import Derived.Deep.RegionHeld3
import Derived.Deep.DrawnRows
import Derived.Test.YtpikjceodmepiaaGreatDoorV2
import Derived.Test.YtpikjceodmepiaaGreatDoorV0
set_option maxRecDepth 1000000
set_option maxHeartbeats 64000000
set_option linter.unusedVariables false
set_option linter.unusedSimpArgs false
namespace Go.Proofs.YtpikjceodmepiaaGreatDoor
section
open Go.Shelf
def Tryz.lays128_ren:Go.Shelf.Ren:=⟨fun | 128=>121 | n=>n,fun | 51=>101 | 3=>3 | 4=>4 | 46=>119 | 5=>5 | 9=>9 | n=>n,fun | n=>n⟩
theorem Tryz.lays128:Go.Proofs.Lays.n128 Tryz.prog Tryz.lays128_ren:={
 mixed:=by kernel_rfl
 f128:=Tryz.func121.trans (congrArg some (by kernel_rfl))
 t3:=Tryz.underlying3
 a3:=Tryz.isAgg3
 z3:=Tryz.sizeOf3
 v3:=Tryz.zeroValue3
 t4:=Tryz.underlying4
 a4:=Tryz.isAgg4
 z4:=Tryz.sizeOf4
 v4:=Tryz.zeroValue4
 t5:=Tryz.underlying5
 a5:=Tryz.isAgg5
 z5:=Tryz.sizeOf5
 v5:=Tryz.zeroValue5
 t9:=Tryz.underlying9
 a9:=Tryz.isAgg9
 z9:=Tryz.sizeOf9
 v9:=Tryz.zeroValue9
 t46:=Tryz.underlying119
 a46:=Tryz.isAgg119
 z46:=Tryz.sizeOf119
 v46:=Tryz.zeroValue119
 t51:=Tryz.underlying101
 a51:=Tryz.isAgg101
 z51:=Tryz.sizeOf101
 v51:=Tryz.zeroValue101 }
theorem Tryz.bits_Len32 (x:Int) (w:World) (h0:0≤x) (h1:x≤4294967295) :
  Calls Tryz.prog 121 #[.int .u32 x] w fun e w'=>e = .returned (.int .i64 (Lib.bitLen x.toNat))∧w'=w:=Any.bits_Len32 Tryz.lays128 x w h0 h1
end
section
open Go.RowKit Hb
theorem ret_eq {v u:Value} (h:v=u):Ending.returned v=Ending.returned u:=by rw [h]
theorem ret_int {k:IntKind} {a b:Int} (h:a=b):Ending.returned (.int k a) = .returned (.int k b):=by rw [h]
theorem infoU:(Tryz.prog.info? 101).map (fun i=>(i.zero,i.size,i.bytes))=some (some (.int .u32 0),1,4):=by kernel_rfl
theorem infoI:(Tryz.prog.info? 3).map (fun i=>(i.zero,i.size,i.bytes))=some (some (.int .i64 0),1,8):=by kernel_rfl
theorem sizeU:(Tryz.prog.info? 101).map (·.size)=some 1:=by kernel_rfl
abbrev OwnU:=Own 101
theorem makeU (n:Nat) (hn:n≤4294967296) (w:World):(Instr.makeSlice 54 (.int .i64 (n:Int)) (.int .i64 (n:Int))).run Tryz.prog w = .ok (.slice (some ⟨w.heap.size,0,none⟩) n n) (w.alloc (.cells (madeCells #[.int .u32 0] n) 101)):=
 run_make_row' 54 101 (.int .u32 0) 4 Tryz.underlying54 infoU rfl .i64 .i64 n (by omega) (by omega) w
theorem makeI (n:Nat) (hn:n≤4294967296) (w:World):(Instr.makeSlice 77 (.int .i64 (n:Int)) (.int .i64 (n:Int))).run Tryz.prog w = .ok (.slice (some ⟨w.heap.size,0,none⟩) n n) (w.alloc (.cells (madeCells #[.int .i64 0] n) 3)):=
 run_make_row' 77 3 (.int .i64 0) 8 Tryz.underlying77 infoI rfl .i64 .i64 n (by omega) (by omega) w
theorem trim_any {B:Nat} {A:Option Addr} {l:List Nat} {n c:Nat} {w:World} (hs:SlU w B A n c l) :
  Calls Tryz.prog 55 #[.slice A n c] w fun e w'=>e = .returned (.slice A (tlen l) c)∧w=w':=by
 have hm:=hs.max
 have hc:=hs.cap
 have hlen:=hs.len
 unfold maxLen at hm
 have ht:=tlen_le l
 have hn1:n≤l.length:=by omega
 have hn2:l.length≤n:=by omega
 clear hlen
 go_enter Tryz.func55,Tryz.ntmps55
 go_wp2
 go_loop [0] (fun s=>∃ k:Nat,k≤n∧tlen l≤k∧s = .slice A k c) (fun s=>match s with | .slice _ k _=>k | _=>0)
 case atStart=>exact ⟨n,by omega,by omega,rfl⟩
 case round=>
  obtain ⟨k,hk,hkl,rfl⟩:=hrel
  by_cases h0:k=0
  ·subst h0
   go_wp2
   go_ret
   exact ⟨ret_eq (by rw [show tlen l=0 by omega];rfl),rfl⟩
  ·obtain ⟨b,o,rfl,_,hcell⟩:=hs.at_ (by omega)
   have hx:=hcell (k - 1) (by omega)
   have hk1:1≤k:=by omega
   have hz1:=tlen_take_last (l:=l) (n:=k - 1) (by omega)
   have hz2:=fun h=>tlen_eq_of (l:=l) (n:=k) hkl (.inr h)
   generalize l.getD (k - 1) 0=x at hx hz1 hz2
   clear hcell hs
   by_cases hz:x=0
   ·have hlt:=hz1 hz
    subst hz
    clear hz1 hz2
    go_wp2
    go_round
    case rel=>exact ⟨k - 1,by omega,by omega,rfl⟩
    case measure=>show k - 1<k;omega
   ·have HZ:=Qh (hz2 hz)
    have hb:((x:Int)==0)=false:=beq_eq_false_iff_ne.2 (by omega)
    clear hz1 hz2
    go_wp2
    go_ret
    exact ⟨ret_eq (by rw [HZ.out];rfl),rfl⟩
def FreshU (w:World) (l:List Nat) (e:Ending) (w':World):Prop:=
 ∃ A n c,e = .returned (.slice A n c)∧OwnU w' w.heap.size A n c (u32s l)∧l.length=n∧Below w.heap.size w w'
theorem madeU_block (w:World) (n:Nat):(w.alloc (.cells (madeCells #[Value.int .u32 0] n) 101)).heap[w.heap.size]?=some (.cells (madeCells #[Value.int .u32 0] n).toList.toArray 101 (0,0)):=by
 rw [Array.toArray_toList];exact heap_alloc_new w _
theorem own_any {B:Nat} {A:Option Addr} {l:List Nat} {n c:Nat} {w:World} (hs:SlU w B A n c l) (hn:n≤4294967296) (hB:B≤w.heap.size) :
  Calls Tryz.prog 54 #[.slice A n c] w (FreshU w l):=by
 have hmk:=makeU n hn
 have HC:=Qh (show (u32s l).length=Nat.min n n by rw [u32s_length,hs.len];exact (Nat.min_self n).symm)
 have hlen:(madeCells #[Value.int .u32 0] n).toList.length=n:=by simp [size_madeCells]
 have HF:=Qh (show 0+(u32s l).length≤(madeCells #[Value.int .u32 0] n).toList.length by rw [hlen,u32s_length,hs.len];omega)
 have HE:=Qh (show splice (madeCells #[Value.int .u32 0] n).toList 0 (u32s l)=u32s l by
  simp only [splice,List.take_zero,List.nil_append,Nat.zero_add]
  rw [List.drop_eq_nil_of_le (by rw [hlen,u32s_length,hs.len];omega),List.append_nil])
 have hpos:0<(u32s l).length→some (⟨w.heap.size,0,none⟩:Addr)=some ⟨w.heap.size,0,none⟩∧∃ ad,A=some ad∧∀ j v,(u32s l)[j]?=some v→(w.alloc (.cells (madeCells #[Value.int .u32 0] n) 101)).cell? (ad.add j)=some v:=by
  intro h
  obtain ⟨b,o,rfl,hb,hc⟩:=hs.rd (List.length_pos_iff.1 h)
  refine ⟨rfl,_,rfl,fun j v hj=>?_⟩
  rw [addr_add,World.cell?_alloc_past _ _ _ (by omega)]
  exact hc j v hj
 have HP:=Qh hpos
 have HN:=Qh hn
 have HL:=Qh (show l.length≤maxLen by rw [hs.len];exact Nat.le_trans hs.cap hs.max)
 clear hpos hn hlen
 go_enter Tryz.func54,Tryz.ntmps54
 go_wp2_with (with_reducible refine wpList_copy_splice (o:=⟨some 9,_,_,_,_,_⟩) rfl (.tmp 7) (.tmp 8) 54 54 rfl 101 Tryz.underlying54 sizeU (some ⟨w.heap.size,0,none⟩) A n n n c rfl rfl w.heap.size 0 (madeCells #[.int .u32 0] n).toList 101 (madeU_block w n) (u32s l) HC.out HP.out HF.out (u32s_one l) w.heap.size w (Qb) (Nat.le_refl _) ?_)
 intro w1 hb1 hbel
 rw [HE.out] at hb1
 have hown:=Own.of_block (B:=w.heap.size) hb1.out (Nat.le_refl _) (by rw [u32s_length];exact HL.out)
 go_wp2
 go_ret
 rw [u32s_length,hs.len] at hown
 exact ⟨_,_,_,rfl,hown,hs.len,hbel⟩
theorem bitLenAux_blen (f:Nat):∀ x:Nat,x<2 ^ f→Lib.bitLenAux f x=blen x:=by
 induction f with
 | zero=>
      intro x h;obtain rfl:x=0:=by omega
      rw [blen_zero];rfl
 | succ f ih=>
  intro x h
  unfold Lib.bitLenAux
  by_cases h0:x=0
  ·subst h0;rw [if_pos rfl,blen_zero]
  ·rw [if_neg h0,ih (x / 2) (by rw [Nat.pow_succ] at h;omega),blen,blen,digs_pos (by omega) h0,List.length_cons,Nat.add_comm]
theorem bitLen_blen (x:Nat) (hx:x<4294967296):Lib.bitLen x=blen x:=
 bitLenAux_blen 64 x (Nat.lt_trans hx (by decide))
theorem len32_any (x:Nat) (w:World) (hx:x<4294967296) :
  Calls Tryz.prog 121 #[.int .u32 (x:Int)] w fun e w'=>e = .returned (.int .i64 (blen x))∧w=w':=
 (Tryz.bits_Len32 (x:Int) w (by omega) (by omega)).mono fun e w' ⟨he,hw⟩=>⟨by rw [he,Int.toNat_natCast,bitLen_blen x hx],hw.symm⟩
theorem blen32 {x:Nat} (hx:x<4294967296):blen x≤32:=blen_le_iff.2 hx
theorem size_any {B:Nat} {A:Option Addr} {l:List Nat} {n c:Nat} {w:World} (hs:SlU w B A n c l) (hn:n≤67108864) :
  Calls Tryz.prog 92 #[.slice A n c] w fun e w'=>e = .returned (.int .i64 (blen (nv W l)))∧w=w':=by
 have ht:=tlen_le l
 have hlen:=hs.len
 have htn:tlen l≤67108864:=by omega
 have hi:=trim_any hs
 have HI:=Qh hi
 clear hi
 by_cases h0:tlen l=0
 ·have HZ:=Qh (show blen (nv W l)=0 by rw [(tlen_zero_iff (b:=W) (by decide) l).1 h0,blen_zero])
  rw [h0] at HI
  clear hlen ht htn hn h0
  go_enter Tryz.func92,Tryz.ntmps92
  go_wp2_with (go_at_call 55;refine HI.out.mono ?_;rintro e w' ⟨rfl,rfl⟩)
  go_ret
  exact ⟨ret_int (by rw [HZ.out];rfl),rfl⟩
 ·have HZ:=Qh (blen_limbs hs.dig (by omega))
  obtain ⟨b,o,rfl,_,hcell⟩:=hs.at_ (by omega)
  have hx:=hcell (tlen l - 1) (by omega)
  have hd:=hs.dig.getD (by decide) (tlen l - 1)
  have hb32:=blen32 hd
  have HB:=Qh (len32_any (l.getD (tlen l - 1) 0) w hd)
  generalize l.getD (tlen l - 1) 0=x at HB HZ hx hd hb32
  generalize hk:tlen l=k at HZ HI hx htn h0
  clear hcell hs hlen ht hn hd hk
  have hk1:1≤k:=by omega
  have hb:((k:Int)==0)=false:=beq_eq_false_iff_ne.2 (by omega)
  go_enter Tryz.func92,Tryz.ntmps92
  go_wp2_with (first | (go_at_call 55;refine HI.out.mono ?_;rintro e w' ⟨rfl,rfl⟩) | (go_at_call 121;refine HB.out.mono ?_;rintro e w' ⟨rfl,rfl⟩))
  go_ret
  exact ⟨ret_int (by rw [HZ.out];omega),rfl⟩
def sg (neg:Bool) (l:List Nat):Bool:=neg && decide (0<tlen l)
theorem sg_zero {neg:Bool} {l:List Nat} (h:tlen l=0):sg neg l=false:=by simp [sg,h]
theorem sg_pos {neg:Bool} {l:List Nat} (h:0<tlen l):sg neg l=neg:=by simp [sg,h]
theorem laid_any (neg:Bool) {B:Nat} {A:Option Addr} {l:List Nat} {n c:Nat} {w:World} (hs:SlU w B A n c l) (hB:B≤w.heap.size) :
  Calls Tryz.prog 53 #[.bool neg,.slice A n c] w fun e w'=>e = .returned (.agg #[.bool (sg neg l),.slice A (tlen l) c])∧Below w.heap.size w w':=by
 have HI:=Qh (fun w1 (hb:Below w.heap.size w w1)=>trim_any (hs.below (C:=w.heap.size) hb hB))
 have HB:=Qh (Below.refl w.heap.size w)
 clear hs hB
 cases neg
 ·go_enter Tryz.func53,Tryz.ntmps53
  go_wp2_with (go_at_call 55;refine (HI.out _ (HB.out.alloc (Nat.le_refl _) _)).mono ?_;rintro e w' ⟨rfl,rfl⟩)
  exact bodyPost_ret (v:=.agg #[.bool false,.slice A (tlen l) c]) (by simp [results,Tryz.results53,go_sem]) rfl ⟨rfl,HB.out.alloc (Nat.le_refl _) _⟩
 ·by_cases h0:tlen l=0
  ·have HS:=Qh (sg_zero (neg:=true) h0)
   rw [h0] at HI ⊢
   clear h0
   go_enter Tryz.func53,Tryz.ntmps53
   go_wp2_with (go_at_call 55;refine (HI.out _ (HB.out.alloc (Nat.le_refl _) _)).mono ?_;rintro e w' ⟨rfl,rfl⟩)
   exact bodyPost_ret (v:=.agg #[.bool false,.slice A 0 c]) (by simp [results,Tryz.results53,go_sem]) rfl ⟨by rw [HS.out],HB.out.alloc (Nat.le_refl _) _⟩
  ·have h1:0<tlen l:=by omega
   have HS:=Qh (sg_pos (neg:=true) h1)
   generalize hk:tlen l=k at HI h1 ⊢
   clear h0 hk
   go_enter Tryz.func53,Tryz.ntmps53
   go_wp2_with (go_at_call 55;refine (HI.out _ (HB.out.alloc (Nat.le_refl _) _)).mono ?_;rintro e w' ⟨rfl,rfl⟩)
   exact bodyPost_ret (v:=.agg #[.bool true,.slice A k c]) (by simp [results,Tryz.results53,go_sem]) rfl ⟨by rw [HS.out],HB.out.alloc (Nat.le_refl _) _⟩
def ival (neg:Bool) (l:List Nat):Int:=if neg then -(nv W l:Int) else (nv W l:Int)
theorem ival_natAbs (neg:Bool) (l:List Nat):(ival neg l).natAbs=nv W l:=by unfold ival;split <;> omega
theorem ival_tr (neg:Bool) (l:List Nat):ival neg (tr l)=ival neg l:=by simp [ival,nv_tr]
theorem ival_sg (neg:Bool) (l:List Nat):decide (ival neg l<0)=sg neg l:=by
 have h:=tlen_zero_iff (b:=W) (by decide) l
 cases neg
 ·simp [ival,sg]
 ·by_cases h0:tlen l=0
  ·rw [sg_zero h0];simp [ival,h.1 h0]
  ·rw [sg_pos (by omega)]
   have:nv W l≠0:=fun e=>h0 (h.2 e)
   simp [ival];omega
def ResI (w:World) (B:Nat) (v:Value) (z:Int):Prop:=
 ∃ A c,v = .agg #[.bool (decide (z<0)),.slice A (digs W z.natAbs).length c]∧OwnU w B A (digs W z.natAbs).length c (u32s (digs W z.natAbs))
def PostI (w:World) (z:Int) (e:Ending) (w':World):Prop:=∃ v,e = .returned v∧ResI w' w.heap.size v z∧Below w.heap.size w w'
theorem ResI.of_own {w w':World} {B:Nat} {A:Option Addr} {l:List Nat} {n c:Nat} (neg:Bool) (h:OwnU w B A n c (u32s l)) (hl:l.length=n) (hd:Dig W l) (hb:Below w.heap.size w w') :
  ResI w' B (.agg #[.bool (sg neg l),.slice A (tlen l) c]) (ival neg l):=by
 have ht:tlen l≤n:=by rw [←hl];exact tlen_le l
 have e:=tr_eq_digs (b:=W) (by decide) hd
 have e2:(digs W (nv W l)).length=tlen l:=by rw [←e,tr_length]
 refine ⟨A,c,by rw [ival_sg,ival_natAbs,e2],?_⟩
 rw [ival_natAbs,e2,←e]
 have:=(h.below hb (Nat.le_refl _)).take ht
 rwa [u32s_take] at this
theorem laid_own (neg:Bool) {B:Nat} {A:Option Addr} {l:List Nat} {n c:Nat} {w:World} (h:OwnU w B A n c (u32s l)) (hl:l.length=n) (hd:Dig W l) {z:Int} (hz:ival neg l=z) :
  Calls Tryz.prog 53 #[.bool neg,.slice A n c] w fun e w'=>∃ v,e = .returned v∧ResI w' B v z∧Below w.heap.size w w':=
 (laid_any neg (h.sl hd hl) (Nat.le_refl _)).mono fun e w' ⟨he,hb⟩=>⟨_,he,by rw [←hz];exact ResI.of_own neg h hl hd hb,hb⟩
theorem two_cells {w0 w2:World} {C g t:Nat} {x y:Value} (hb:Below C w0 w2) (h:w0.heap[g]?=some (.cells #[x,y] t (0,0))) (hg:g<C) :
  w2.cell? ⟨g,0,none⟩=some x∧w2.cell? ⟨g,1,none⟩=some y∧w2.frozen? ⟨g,0,none⟩=false∧w2.frozen? ⟨g,1,none⟩=false:=by
 have h2:=(hb.block g hg).trans h
 exact ⟨by rw [cell_of_row w2 g 0 _ t (0,0) h2];rfl,by rw [cell_of_row w2 g 1 _ t (0,0) h2];rfl,by simp [World.frozen?,h2],by simp [World.frozen?,h2]⟩
theorem heap_second (w:World) (a b:Obj):((w.alloc a).alloc b).heap[w.heap.size+1]?=some b:=by
 have:=heap_alloc_new (w.alloc a) b
 simpa using this
theorem heap_third (w:World) (a b c:Obj):(((w.alloc a).alloc b).alloc c).heap[w.heap.size+2]?=some c:=by
 have:=heap_alloc_new ((w.alloc a).alloc b) c
 simpa using this
theorem ResI.stored {w w2:World} {base g:Nat} {v u u':Value} {z:Int} (hr:ResI w2 base v z) (hb:Below w.heap.size w w2) (hg:g<base) (hwg:w.heap.size≤g) :
  ResI ((w2.setCell ⟨g,0,none⟩ u).setCell ⟨g,1,none⟩ u') w.heap.size v z∧Below w.heap.size w ((w2.setCell ⟨g,0,none⟩ u).setCell ⟨g,1,none⟩ u'):=by
 refine ⟨?_,(hb.setCell (by simpa using hwg) _).setCell (by simpa using hwg) _⟩
 obtain ⟨A,c,hv,ho⟩:=hr
 refine ⟨A,c,hv,((ho.mono (B':=w.heap.size) (by omega)).far ?_ _).far ?_ _⟩
 all_goals
  intro g' hA
  rcases ho.form with ⟨h1,_⟩ | ⟨g2,h1,h2,_⟩
  ·rw [h1] at hA;cases hA
  ·rw [h1] at hA
   injection hA with hA
   injection hA with hA
   simp;omega
theorem keepS {w1 w2:World} {C g:Nat} {u v:Value} (hb:Below C w1 w2) (hg:g<C) (h:w1.cell? ⟨g,0,none⟩=some u∧w1.cell? ⟨g,1,none⟩=some v) :
  w2.cell? ⟨g,0,none⟩=some u∧w2.cell? ⟨g,1,none⟩=some v:=
 ⟨(hb.cell (p:=⟨g,0,none⟩) hg).trans h.1,(hb.cell (p:=⟨g,1,none⟩) hg).trans h.2⟩
attribute [local go_sem ↓] Go.wp_at_zero Go.wp_at_succ
theorem norm_any (neg:Bool) {B:Nat} {A:Option Addr} {l:List Nat} {n c:Nat} {w:World} (hs:SlU w B A n c l) (hn:n≤67108864) (hB:B≤w.heap.size) :
  Calls Tryz.prog 84 #[.agg #[.bool neg,.slice A n c]] w (PostI w (ival neg l)):=by
 have ht:=tlen_le l
 have hlen:=hs.len
 have HI:=Qh (fun w1 (hb:Below w.heap.size w w1)=>trim_any (hs.below (C:=w.heap.size) hb hB))
 have HO:=Qh (fun w1 (hb:Below w.heap.size w w1)=>own_any ((hs.tr).below (C:=w.heap.size) hb hB) (by omega) (Nat.le_trans hB hb.size))
 have HB:=Qh (Below.refl w.heap.size w)
 have HD:=Qh hs.dig
 clear hs hB ht hlen hn
 go_enter Tryz.func84,Tryz.ntmps84
 go_wp2_with fail
 go_region_held3 (fun w'=>w'.cell? ⟨w.heap.size,0,none⟩=some (.bool neg)∧w'.cell? ⟨w.heap.size,1,none⟩=some (.slice A n c))
  (first | go_keep | exact keepS hb2 (by first | omega | (simp;omega)) (by assumption) | exact keepS hb1 (by first | omega | (simp;omega)) (by assumption))
  (first
   | (go_at_call 55;refine (HI.out _ ?_).mono ?_;(refine (Below.drew ?_);exact ((HB.out.alloc (Nat.le_refl _) _).alloc (by simp) _));rintro e w' ⟨rfl,rfl⟩)
   | (go_at_call 54;refine (HO.out _ ?_).mono ?_;(refine (Below.drew ?_);exact ((HB.out.alloc (Nat.le_refl _) _).alloc (by simp) _));rintro e w1 ⟨A1,n1,c1,rfl,ho1,hl1,hb1⟩;have hz1:=hb1.size;simp at hz1)
   | (go_at_call 53;refine (laid_own neg ho1 hl1 HD.out.tr (ival_tr neg l)).mono ?_;rintro e w2 ⟨v,rfl,⟨A2,c2,rfl,ho2⟩,hb2⟩;have hb3:=Qt hb1 hb2;obtain ⟨r0,r1,r2,r3⟩:=two_cells hb3 (heap_second w _ _) (by first | omega | (simp;omega) | simp)))
 go_wp2
 have hr:=ResI.stored (w:=w) (g:=w.heap.size+1) (u:=.bool (decide (ival neg l<0))) (u':=.slice A2 (digs W (ival neg l).natAbs).length c2) ⟨A2,c2,rfl,ho2⟩ (((((Qb).alloc (by simp) _).drew).trans (hb3.mono (B':=w.heap.size) (by simp;omega))):Below w.heap.size w w2) (by simp) (by omega)
 exact bodyPost_ret (v:=.agg #[.bool (decide (ival neg l<0)),.slice A2 (digs W (ival neg l).natAbs).length c2]) (by simp [results,Tryz.results84,go_sem,r0,r1]) rfl ⟨_,rfl,hr.1,hr.2⟩
theorem neg_any (neg:Bool) {B:Nat} {A:Option Addr} {l:List Nat} {n c:Nat} {w:World} (hs:SlU w B A n c l) (hn:n≤67108864) (hB:B≤w.heap.size) :
  Calls Tryz.prog 19 #[.agg #[.bool neg,.slice A n c]] w (PostI w (ival (!neg) l)):=by
 have ht:=tlen_le l
 have hlen:=hs.len
 have HI:=Qh (fun w1 (hb:Below w.heap.size w w1)=>trim_any (hs.below (C:=w.heap.size) hb hB))
 have HO:=Qh (fun w1 (hb:Below w.heap.size w w1)=>own_any ((hs.tr).below (C:=w.heap.size) hb hB) (by omega) (Nat.le_trans hB hb.size))
 have HB:=Qh (Below.refl w.heap.size w)
 have HD:=Qh hs.dig
 clear hs hB ht hlen hn
 go_enter Tryz.func19,Tryz.ntmps19
 go_wp2_with fail
 go_region_held3 (fun w'=>w'.cell? ⟨w.heap.size,0,none⟩=some (.bool neg)∧w'.cell? ⟨w.heap.size,1,none⟩=some (.slice A n c))
  (first | go_keep | exact keepS hb2 (by first | omega | (simp;omega)) (by assumption) | exact keepS hb1 (by first | omega | (simp;omega)) (by assumption))
  (first
   | (go_at_call 55;refine (HI.out _ ?_).mono ?_;(refine (Below.drew ?_);exact ((HB.out.alloc (Nat.le_refl _) _).alloc (by simp) _));rintro e w' ⟨rfl,rfl⟩)
   | (go_at_call 54;refine (HO.out _ ?_).mono ?_;(refine (Below.drew ?_);exact ((HB.out.alloc (Nat.le_refl _) _).alloc (by simp) _));rintro e w1 ⟨A1,n1,c1,rfl,ho1,hl1,hb1⟩;have hz1:=hb1.size;simp at hz1)
   | (go_at_call 53;refine (laid_own (!neg) ho1 hl1 HD.out.tr (ival_tr (!neg) l)).mono ?_;rintro e w2 ⟨v,rfl,⟨A2,c2,rfl,ho2⟩,hb2⟩;have hb3:=Qt hb1 hb2;obtain ⟨r0,r1,r2,r3⟩:=two_cells hb3 (heap_second w _ _) (by first | omega | (simp;omega) | simp)))
 go_wp2
 have hr:=ResI.stored (w:=w) (g:=w.heap.size+1) (u:=.bool (decide (ival (!neg) l<0))) (u':=.slice A2 (digs W (ival (!neg) l).natAbs).length c2) ⟨A2,c2,rfl,ho2⟩ (((((Qb).alloc (by simp) _).drew).trans (hb3.mono (B':=w.heap.size) (by simp;omega))):Below w.heap.size w w2) (by simp) (by omega)
 exact bodyPost_ret (v:=.agg #[.bool (decide (ival (!neg) l<0)),.slice A2 (digs W (ival (!neg) l).natAbs).length c2]) (by simp [results,Tryz.results19,go_sem,r0,r1]) rfl ⟨_,rfl,hr.1,hr.2⟩
end
section
open Go.RowKit Hb
theorem ival_zero {neg:Bool} {l:List Nat} (h:tlen l=0):ival neg l=0:=by
 have:=(tlen_zero_iff (b:=W) (by decide) l).1 h
 simp [ival,this]
theorem nv_pos_of {l:List Nat} (h:0<tlen l):0<nv W l:=by
 have:=mt (tlen_zero_iff (b:=W) (by decide) l).2 (by omega)
 omega
theorem sign_neg {l:List Nat} (h:0<tlen l):(ival true l).sign = -1:=by
 have:=nv_pos_of h
 rw [ival,if_pos rfl];exact Int.sign_eq_neg_one_of_neg (by omega)
theorem sign_pos {l:List Nat} (h:0<tlen l):(ival false l).sign=1:=by
 have:=nv_pos_of h
 rw [ival,if_neg (by simp)];exact Int.sign_eq_one_of_pos (by omega)
theorem sign_any (neg:Bool) {B:Nat} {A:Option Addr} {l:List Nat} {n c:Nat} {w:World} (hs:SlU w B A n c l) (hB:B≤w.heap.size) :
  Calls Tryz.prog 21 #[.agg #[.bool neg,.slice A n c]] w fun e w'=>e = .returned (.int .i64 (ival neg l).sign)∧Below w.heap.size w w':=by
 have HI:=Qh (fun w1 (hb:Below w.heap.size w w1)=>trim_any (hs.below (C:=w.heap.size) hb hB))
 have HB:=Qh (Below.refl w.heap.size w)
 clear hs hB
 by_cases h0:tlen l=0
 ·have HS:=Qh (show (ival neg l).sign=0 by rw [ival_zero h0];rfl)
  rw [h0] at HI
  clear h0
  go_enter Tryz.func21,Tryz.ntmps21
  go_wp2_with (go_at_call 55;refine (HI.out _ (HB.out.alloc (Nat.le_refl _) _)).mono ?_;rintro e w' ⟨rfl,rfl⟩)
  go_ret
  exact ⟨ret_int HS.out.symm,HB.out.alloc (Nat.le_refl _) _⟩
 ·have h1:0<tlen l:=by omega
  have HS:=Qh (sign_neg h1)
  have HT:=Qh (sign_pos h1)
  generalize tlen l=k at HI h1 h0
  have hk:((k:Int)==0)=false:=beq_eq_false_iff_ne.2 (by omega)
  cases neg
  all_goals
   go_enter Tryz.func21,Tryz.ntmps21
   go_wp2_with (go_at_call 55;refine (HI.out _ (HB.out.alloc (Nat.le_refl _) _)).mono ?_;rintro e w' ⟨rfl,rfl⟩)
   go_ret
   exact ⟨ret_int (by first | exact HS.out.symm | exact HT.out.symm),HB.out.alloc (Nat.le_refl _) _⟩
theorem bits_any (neg:Bool) {B:Nat} {A:Option Addr} {l:List Nat} {n c:Nat} {w:World} (hs:SlU w B A n c l) (hn:n≤67108864) (hB:B≤w.heap.size) :
  Calls Tryz.prog 67 #[.agg #[.bool neg,.slice A n c]] w fun e w'=>e = .returned (.int .i64 (blen (nv W l)))∧Below w.heap.size w w':=by
 have HI:=Qh (fun w1 (hb:Below w.heap.size w w1)=>size_any (hs.below (C:=w.heap.size) hb hB) hn)
 have HB:=Qh (Below.refl w.heap.size w)
 clear hs hB hn
 go_enter Tryz.func67,Tryz.ntmps67
 go_wp2_with (go_at_call 92;refine (HI.out _ (HB.out.alloc (Nat.le_refl _) _)).mono ?_;rintro e w' ⟨rfl,rfl⟩)
 go_ret
 exact ⟨rfl,HB.out.alloc (Nat.le_refl _) _⟩
def cmpN (a b:Nat):Int:=if a<b then -1 else if b<a then 1 else 0
theorem cmpN_lt {a b:Nat} (h:a<b):cmpN a b = -1:=by simp [cmpN,h]
theorem cmpN_gt {a b:Nat} (h:b<a):cmpN a b=1:=by simp [cmpN,h];omega
theorem cmpN_eq (a:Nat):cmpN a a=0:=by simp [cmpN]
theorem nv_lt_at {b:Nat} {l m:List Nat} {i:Nat} (hl:Dig b l) (_hm:Dig b m) (hlen:l.length=m.length) (hi:i<l.length) (he:l.drop (i+1)=m.drop (i+1)) (h:l.getD i 0<m.getD i 0):nv b l<nv b m:=by
 rw [nv_take_drop b l i,nv_take_drop b m i,drop_nv b l hi,drop_nv b m (by omega),he,Nat.min_eq_left (by omega),Nat.min_eq_left (by omega)]
 have h1:=nv_lt (hl.take i)
 rw [List.length_take,Nat.min_eq_left (by omega)] at h1
 have h2:=Nat.mul_le_mul_left (b ^ i) (show l.getD i 0+b * nv b (m.drop (i+1))+1≤m.getD i 0+b * nv b (m.drop (i+1)) by omega)
 rw [Nat.mul_add] at h2
 omega
theorem drop_step {l m:List Nat} {i:Nat} (hlen:l.length=m.length) (hi:i<l.length) (he:l.drop (i+1)=m.drop (i+1)) (h:l.getD i 0=m.getD i 0):l.drop i=m.drop i:=by
 rw [List.drop_eq_getElem_cons hi,List.drop_eq_getElem_cons (show i<m.length by omega),he]
 rw [getD_eq hi,getD_eq (show i<m.length by omega)] at h
 rw [h]
def CmpPost (a b:Nat) (w:World) (e:Ending) (w':World):Prop:=e = .returned (.int .i64 (cmpN a b))∧Dr w w'
theorem cmp_len {B B':Nat} {A A':Option Addr} {l m:List Nat} {n c n' c':Nat} {w:World} (hs:SlU w B A n c l) (ht:SlU w B' A' n' c' m) (hne:tlen l≠tlen m) :
  Calls Tryz.prog 69 #[.slice A n c,.slice A' n' c'] w (CmpPost (nv W l) (nv W m) w):=by
 have H1:=Qh (trim_any hs)
 have H2:=Qh (trim_any ht)
 rcases Nat.lt_or_gt_of_ne hne with h | h
 ·have HV:=Qh (cmpN_lt (by have:=nv_lt_of_len (b:=W) (by decide) hs.dig.tr (tr_nrm m) (by rw [tr_length,tr_length];exact h);rwa [nv_tr,nv_tr] at this))
  clear hs ht
  generalize tlen l=x at *
  generalize tlen m=y at *
  have hb:(((x:Nat):Int) != (y:Int))=true:=by rw [bne_iff_ne];omega
  have hd:decide (x<y)=true:=decide_eq_true h
  have hd':decide ((x:Int)<(y:Int))=true:=decide_eq_true (by omega)
  go_enter Tryz.func69,Tryz.ntmps69
  go_wp2_with fail
  refine H1.out.mono ?_;rintro e w' ⟨rfl,rfl⟩
  go_wp2_with fail
  refine H2.out.mono ?_;rintro e w' ⟨rfl,rfl⟩
  go_wp2
  go_ret
  exact ⟨ret_int HV.out.symm,Dr.refl _⟩
 ·have HV:=Qh (cmpN_gt (by have:=nv_lt_of_len (b:=W) (by decide) ht.dig.tr (tr_nrm l) (by rw [tr_length,tr_length];exact h);rwa [nv_tr,nv_tr] at this))
  clear hs ht
  generalize tlen l=x at *
  generalize tlen m=y at *
  have hb:(((x:Nat):Int) != (y:Int))=true:=by rw [bne_iff_ne];omega
  have hd:decide (x<y)=false:=decide_eq_false (by omega)
  have hd':decide ((x:Int)<(y:Int))=false:=decide_eq_false (by omega)
  go_enter Tryz.func69,Tryz.ntmps69
  go_wp2_with fail
  refine H1.out.mono ?_;rintro e w' ⟨rfl,rfl⟩
  go_wp2_with fail
  refine H2.out.mono ?_;rintro e w' ⟨rfl,rfl⟩
  go_wp2
  go_ret
  exact ⟨ret_int HV.out.symm,Dr.refl _⟩
theorem cmp_same {B B':Nat} {A A':Option Addr} {l m:List Nat} {n c n' c':Nat} {w:World} (hs:SlU w B A n c l) (ht:SlU w B' A' n' c' m) (heq:tlen l=tlen m) :
  Calls Tryz.prog 69 #[.slice A n c,.slice A' n' c'] w (CmpPost (nv W l) (nv W m) w):=by
 have H1:=Qh (trim_any hs)
 have H2:=Qh (trim_any ht)
 have h3:=hs.tr
 have h4:=ht.tr
 have hmx:=hs.max
 have hcap:=h3.cap
 unfold maxLen at hmx
 rw [←nv_tr W l,←nv_tr W m]
 have e3:=h3.len
 have e4:=h4.len
 rw [←heq] at H2 e4 h4
 generalize tr l=l' at *
 generalize tr m=m' at *
 generalize tlen l=N at *
 clear hs ht heq
 have d3:=h3.dig
 have d4:=h4.dig
 have hlen:l'.length=m'.length:=by omega
 have HL:=Qh (show ∀ j,j<N→l'.drop (j+1)=m'.drop (j+1)→l'.getD j 0<m'.getD j 0→cmpN (nv W l') (nv W m') = -1 from fun j hj h1 h2=>cmpN_lt (nv_lt_at d3 d4 hlen (by omega) h1 h2))
 have HG:=Qh (show ∀ j,j<N→l'.drop (j+1)=m'.drop (j+1)→m'.getD j 0<l'.getD j 0→cmpN (nv W l') (nv W m')=1 from fun j hj h1 h2=>cmpN_gt (nv_lt_at d4 d3 hlen.symm (by omega) h1.symm h2))
 have HS:=Qh (show ∀ j,j<N→l'.drop (j+1)=m'.drop (j+1)→l'.getD j 0=m'.getD j 0→l'.drop j=m'.drop j from fun j hj h1 h2=>drop_step hlen (by omega) h1 h2)
 have H0:=Qh (show l'.drop 0=m'.drop 0→cmpN (nv W l') (nv W m')=0 from fun h=>by simp at h;rw [h];exact cmpN_eq _)
 have HN:=Qh (show l'.drop N=m'.drop N by rw [List.drop_eq_nil_of_le (by omega),List.drop_eq_nil_of_le (by omega)])
 have hN1:N≤9223372036854775807:=by omega
 clear hlen d3 d4 e3 e4 hmx hcap
 go_enter Tryz.func69,Tryz.ntmps69
 go_wp2_with fail
 refine H1.out.mono ?_;rintro e w' ⟨rfl,rfl⟩
 go_wp2_with fail
 refine H2.out.mono ?_;rintro e w' ⟨rfl,rfl⟩
 go_wp2
 go_loopw [5] (fun i wr=>∃ j:Nat,j≤N∧Hid (l'.drop j=m'.drop j)∧i = .int .i64 ((j:Int) - 1)∧Dr w wr) (fun i _=>(intOf i+1).toNat)
 case atStart=>exact ⟨N,Nat.le_refl _,HN,rfl,Dr.refl _⟩
 case round=>
  obtain ⟨j,hj,hd,rfl,hdr⟩:=hrel
  by_cases h0:j=0
  ·subst h0
   have HV:=Qh (H0.out hd.out)
   go_wp2
   go_ret
   exact ⟨ret_int HV.out.symm,hdr⟩
  ·obtain ⟨i,rfl⟩:∃ i,j=i+1:=⟨j - 1,by omega⟩
   obtain ⟨b,o,rfl,_,hc1⟩:=h3.at_ (by omega)
   obtain ⟨b',o',rfl,_,hc2⟩:=h4.at_ (by omega)
   have hx:=(hdr.cell _).trans (hc1 i (by omega))
   have hy:=(hdr.cell _).trans (hc2 i (by omega))
   have F1:=Qh (HL.out i (by omega) hd.out)
   have F2:=Qh (HG.out i (by omega) hd.out)
   have F3:=Qh (HS.out i (by omega) hd.out)
   generalize l'.getD i 0=x at *
   generalize m'.getD i 0=y at *
   clear hc1 hc2 h3 h4 HL HG HS H0 HN h0
   have hi0:(0:Int)≤(i:Int):=by omega
   have hi1:(i:Int)<(N:Int):=by omega
   rcases Nat.lt_trichotomy x y with h | h | h
   ·have g1:decide ((x:Int)<(y:Int))=true:=decide_eq_true (by omega)
    have HV:=Qh (F1.out h)
    go_wp2
    go_quiet (fail)
    go_wp2
    go_ret
    exact ⟨ret_int HV.out.symm,by first | exact hdr.more _ | exact (hdr.more _).more _⟩
   ·subst h
    have g1:decide ((x:Int)<(x:Int))=false:=decide_eq_false (by omega)
    have HD:=Qh (F3.out rfl)
    clear F1 F2 F3
    go_wp2
    go_quiet (fail)
    go_wp2
    go_quiet (fail)
    go_wp2
    go_roundw
    case rel=>exact ⟨i,by omega,HD,by go_num,by first | exact hdr.more _ | exact (hdr.more _).more _⟩
    case measure=>simp [intOf]
   ·have g1:decide ((x:Int)<(y:Int))=false:=decide_eq_false (by omega)
    have g2:decide ((y:Int)<(x:Int))=true:=decide_eq_true (by omega)
    have HV:=Qh (F2.out h)
    go_wp2
    go_quiet (fail)
    go_wp2
    go_quiet (fail)
    go_wp2
    go_ret
    exact ⟨ret_int HV.out.symm,by first | exact hdr.more _ | exact (hdr.more _).more _⟩
theorem cmp_any {B B':Nat} {A A':Option Addr} {l m:List Nat} {n c n' c':Nat} {w:World} (hs:SlU w B A n c l) (ht:SlU w B' A' n' c' m) :
  Calls Tryz.prog 69 #[.slice A n c,.slice A' n' c'] w (CmpPost (nv W l) (nv W m) w):=by
 by_cases h:tlen l=tlen m
 ·exact cmp_same hs ht h
 ·exact cmp_len hs ht h
def cmpZ (a b:Int):Int:=if a<b then -1 else if b<a then 1 else 0
theorem cmpZ_lt {a b:Int} (h:a<b):cmpZ a b = -1:=by simp [cmpZ,h]
theorem cmpZ_gt {a b:Int} (h:b<a):cmpZ a b=1:=by simp [cmpZ,h];omega
theorem cmpZ_sign {a b:Int} (h:a.sign<b.sign):a<b:=by
 rcases Int.lt_or_le a b with h1 | h1
 ·exact h1
 ·exfalso
  rcases Int.lt_trichotomy a 0 with ha | ha | ha <;> rcases Int.lt_trichotomy b 0 with hb | hb | hb
  all_goals first
   | omega
   | (subst ha;subst hb;simp at h)
   | (simp [Int.sign_eq_neg_one_of_neg,Int.sign_eq_one_of_pos, *] at h;done)
   | (rw [Int.sign_eq_neg_one_of_neg ha,Int.sign_eq_neg_one_of_neg hb] at h;omega)
   | (rw [Int.sign_eq_one_of_pos ha,Int.sign_eq_one_of_pos hb] at h;omega)
   | (rw [Int.sign_eq_one_of_pos ha,Int.sign_eq_neg_one_of_neg hb] at h;omega)
theorem ival_of_sign_neg {neg:Bool} {l:List Nat} (h:(ival neg l).sign<0):ival neg l = -(nv W l:Int):=by
 cases neg
 ·exfalso
  have:0≤(ival false l).sign:=Int.sign_nonneg_iff.2 (by simp [ival])
  omega
 ·simp [ival]
theorem ival_of_sign_nonneg {neg:Bool} {l:List Nat} (h:¬(ival neg l).sign<0):ival neg l=(nv W l:Int):=by
 cases neg
 ·simp [ival]
 ·have h1:0≤ival true l:=Int.sign_nonneg_iff.1 (by omega)
  simp [ival] at h1 ⊢
  omega
theorem cmpN_Z (a b:Nat):cmpN a b=cmpZ (a:Int) (b:Int):=by simp [cmpN,cmpZ]
theorem cmpN_Zneg (a b:Nat):cmpN b a=cmpZ (-(a:Int)) (-(b:Int)):=by
 unfold cmpN cmpZ
 by_cases h1:b<a
 ·rw [if_pos h1,if_pos (by omega)]
 ·by_cases h2:a<b
  ·rw [if_neg h1,if_pos h2,if_neg (by omega),if_pos (by omega)]
  ·rw [if_neg h1,if_neg h2,if_neg (by omega),if_neg (by omega)]
theorem heap_first2 (w:World) (a b:Obj):((w.alloc a).alloc b).heap[w.heap.size]?=some a:=by
 rw [Below.heap_alloc _ _ _ (by simp)];exact heap_alloc_new w a
theorem two_boxes {w w0 w2:World} {C t1 t2:Nat} {x y u v:Value} (hb:Below C w0 w2) (hw:w0.heap=((w.alloc (.cells #[x,y] t1)).alloc (.cells #[u,v] t2)).heap) (hC:w.heap.size+2≤C) :
  (w2.cell? ⟨w.heap.size,0,none⟩=some x∧w2.cell? ⟨w.heap.size,1,none⟩=some y)∧(w2.cell? ⟨w.heap.size+1,0,none⟩=some u∧w2.cell? ⟨w.heap.size+1,1,none⟩=some v):=by
 have h1:=two_cells hb (by rw [hw];exact heap_first2 w _ _) (by omega)
 have h2:=two_cells hb (by rw [hw];exact heap_second w _ _) (by omega)
 exact ⟨⟨h1.1,h1.2.1⟩,h2.1,h2.2.1⟩
def CmpZPost (z:Int) (w:World) (e:Ending) (w':World):Prop:=e = .returned (.int .i64 z)∧Below w.heap.size w w'
attribute [local go_sem ↓] Go.wp_at_zero Go.wp_at_succ
theorem Cmp_any (na nb:Bool) {B B':Nat} {A A':Option Addr} {l m:List Nat} {n c n' c':Nat} {w:World} (hs:SlU w B A n c l) (ht:SlU w B' A' n' c' m) (hB:B≤w.heap.size) (hB':B'≤w.heap.size) :
  Calls Tryz.prog 30 #[.agg #[.bool na,.slice A n c],.agg #[.bool nb,.slice A' n' c']] w (CmpZPost (cmpZ (ival na l) (ival nb m)) w):=by
 have H1:=Qh (fun w1 (hb:Below w.heap.size w w1)=>sign_any na (hs.below (C:=w.heap.size) hb hB) (Nat.le_trans hB hb.size))
 have H2:=Qh (fun w1 (hb:Below w.heap.size w w1)=>sign_any nb (ht.below (C:=w.heap.size) hb hB') (Nat.le_trans hB' hb.size))
 have H3:=Qh (fun w1 (hb:Below w.heap.size w w1)=>cmp_any (hs.below (C:=w.heap.size) hb hB) (ht.below (C:=w.heap.size) hb hB'))
 have H4:=Qh (fun w1 (hb:Below w.heap.size w w1)=>cmp_any (ht.below (C:=w.heap.size) hb hB') (hs.below (C:=w.heap.size) hb hB))
 have hW:Below w.heap.size w ((w.alloc (.cells #[.bool na,.slice A n c] 56)).alloc (.cells #[.bool nb,.slice A' n' c'] 56)):=(Qb).alloc (by simp) _
 have HS:=Qh (fun C w2 (hb:Below C ((w.alloc (.cells #[.bool na,.slice A n c] 56)).alloc (.cells #[.bool nb,.slice A' n' c'] 56)).drew w2) (hC:w.heap.size+2≤C)=>two_boxes hb (by rfl) hC)
 have HL:=Qh (fun h=>cmpZ_lt (cmpZ_sign (a:=ival na l) (b:=ival nb m) h))
 have HG:=Qh (fun h=>cmpZ_gt (cmpZ_sign (a:=ival nb m) (b:=ival na l) h))
 have HN:=Qh (show (ival na l).sign<0→(ival nb m).sign<0→cmpN (nv W m) (nv W l)=cmpZ (ival na l) (ival nb m) from fun h1 h2=>by rw [ival_of_sign_neg h1,ival_of_sign_neg h2,cmpN_Zneg])
 have HP:=Qh (show ¬(ival na l).sign<0→¬(ival nb m).sign<0→cmpN (nv W l) (nv W m)=cmpZ (ival na l) (ival nb m) from fun h1 h2=>by rw [ival_of_sign_nonneg h1,ival_of_sign_nonneg h2,cmpN_Z])
 clear hs ht hB hB'
 generalize cmpZ (ival na l) (ival nb m)=Z at *
 generalize (ival na l).sign=s at *
 generalize (ival nb m).sign=t at *
 have key:∃ b1 b2 b3:Bool,decide (s<t)=b1∧decide (t<s)=b2∧decide (s<0)=b3:=⟨_,_,_,rfl,rfl,rfl⟩
 obtain ⟨b1,b2,b3,k1,k2,k3⟩:=key
 have HW:=Qh hW
 clear hW
 go_enter Tryz.func30,Tryz.ntmps30
 go_wp2_with fail
 go_region_held3 (fun w'=>(w'.cell? ⟨w.heap.size,0,none⟩=some (.bool na)∧w'.cell? ⟨w.heap.size,1,none⟩=some (.slice A n c))∧(w'.cell? ⟨w.heap.size+1,0,none⟩=some (.bool nb)∧w'.cell? ⟨w.heap.size+1,1,none⟩=some (.slice A' n' c')))
  (first | go_keep | exact HS.out _ _ (Qt hb1 hb2) (by simp) | exact HS.out _ _ hb1 (by simp))
  (first
   | (go_at_call 21;(with_reducible refine (H1.out _ ?_).mono ?_);exact HW.out.drew;rintro e w1 ⟨rfl,hb1⟩)
   | (go_at_call 21;(with_reducible refine (H2.out _ ?_).mono ?_);exact HW.out.drew.trans (hb1.mono (by simp;omega));rintro e w2 ⟨rfl,hb2⟩))
 have hb3:=HW.out.drew.trans ((Qt hb1 hb2).mono (B':=w.heap.size) (by simp;omega))
 clear hb1 hb2
 go_wp2_with fail
 ·have h:b1=true:=by assumption
  go_ret
  exact ⟨ret_int (HL.out (of_decide_eq_true (k1.trans h))).symm,hb3⟩
 ·have h:b2=true:=by assumption
  go_ret
  exact ⟨ret_int (HG.out (of_decide_eq_true (k2.trans h))).symm,hb3⟩
 ·have g1:b1=false:=by assumption
  have g2:b2=false:=by assumption
  have g3:b3=true:=by assumption
  have HV:=Qh (HN.out (of_decide_eq_true (k3.trans g3)) (by have:=of_decide_eq_false (k1.trans g1);have:=of_decide_eq_false (k2.trans g2);have:=of_decide_eq_true (k3.trans g3);omega))
  refine (H4.out _ hb3).mono ?_;rintro e w3 ⟨rfl,hdr⟩
  go_wp2
  go_ret
  exact ⟨ret_int HV.out,hb3.trans (hdr.below _)⟩
 ·have g1:b1=false:=by assumption
  have g2:b2=false:=by assumption
  have g3:b3=false:=by assumption
  have HV:=Qh (HP.out (by have:=of_decide_eq_false (k3.trans g3);omega) (by have:=of_decide_eq_false (k1.trans g1);have:=of_decide_eq_false (k2.trans g2);have:=of_decide_eq_false (k3.trans g3);omega))
  refine (H3.out _ hb3).mono ?_;rintro e w3 ⟨rfl,hdr⟩
  go_wp2
  go_ret
  exact ⟨ret_int HV.out,hb3.trans (hdr.below _)⟩
end
section
open Go.RowKit Hb
theorem fin {w w1 w2:World} {base g t:Nat} {x y v:Value} {z:Int} (hb:Below w.heap.size w w1) (hg:w1.heap[g]?=some (.cells #[x,y] t (0,0))) (hwg:w.heap.size≤g)
  (hb2:Below w1.heap.size w1 w2) (hr:ResI w2 base v z) (hgb:g<base) :
  w2.cell? ⟨g,0,none⟩=some x∧w2.cell? ⟨g,1,none⟩=some y∧w2.frozen? ⟨g,0,none⟩=false∧w2.frozen? ⟨g,1,none⟩=false ∧
   Hid (∀ u u',ResI ((w2.setCell ⟨g,0,none⟩ u).setCell ⟨g,1,none⟩ u') w.heap.size v z∧Below w.heap.size w ((w2.setCell ⟨g,0,none⟩ u).setCell ⟨g,1,none⟩ u')):=by
 have hlt:g<w1.heap.size:=(Array.getElem?_eq_some_iff.1 hg).1
 obtain ⟨r0,r1,r2,r3⟩:=two_cells hb2 hg hlt
 exact ⟨r0,r1,r2,r3,fun u u'=>ResI.stored hr (Qt hb hb2) hgb hwg⟩
theorem own_two (w:World) {B g:Nat} (a b:Nat) (hg:w.heap.size=g) (hB:B≤g):OwnU (w.alloc (.cells #[.int .u32 (a:Int),.int .u32 (b:Int)] 101)) B (some ⟨g,0,none⟩) 2 2 (u32s [a,b]):=by
 subst hg
 exact Own.of_block (xs:=u32s [a,b]) (heap_alloc_new w _) hB (by simp [u32s_length,maxLen])
theorem dig_two {a b:Nat} (ha:a<4294967296) (hb:b<4294967296):Dig W [a,b]:=Dig.cons ha (Dig.cons hb (Dig.nil _))
theorem ival_two (neg:Bool) {m:Nat} : ival neg [m % W,m / W]=if neg then -(m:Int) else m:=by
 have:nv W [m % W,m / W]=m:=by simp only [nv];have:=Nat.mod_add_div m W;omega
 simp [ival,this]
theorem from_any (n:Int) (w:World) (h1 : -9223372036854775808≤n) (h2:n≤9223372036854775807) :
  Calls Tryz.prog 27 #[.int .i64 n] w (PostI w n):=by
 have HB:=Qh (Below.refl w.heap.size w)
 obtain ⟨m,hm⟩:∃ m:Nat,m=n.natAbs:=⟨_,rfl⟩
 have hz:=ival_two (decide (n<0)) (m:=m)
 have hlt:m / 4294967296<4294967296:=by omega
 have hlt0:m % 4294967296<4294967296:=by omega
 obtain ⟨a,ha⟩:∃ a:Nat,a=m % 4294967296:=⟨_,rfl⟩
 obtain ⟨b,hb⟩:∃ b:Nat,b=m / 4294967296:=⟨_,rfl⟩
 have hz2:ival (decide (n<0)) [a,b]=n:=by
  rw [ha,hb];refine hz.trans ?_
  by_cases h:n<0
  ·rw [if_pos (by simpa using h)];omega
  ·rw [if_neg (by simpa using h)];omega
 have HM:=Qh (laid_own (decide (n<0)) (own_two (w.alloc (.cells #[.bool false,.slice none 0 0] 56)) (B:=w.heap.size+1) a b (by simp) (Nat.le_refl _)) rfl (dig_two (by omega) (by omega)) hz2)
 by_cases h0:n<0
 ·have hd:decide (n<0)=true:=decide_eq_true h0
  have e:IntKind.u64.wrap (-IntKind.u64.wrap n)=(m:Int):=by simp only [IntKind.wrap_u64];omega
  have e2:(m:Int) / 4294967296 % 4294967296=(b:Int):=by omega
  have e3:(m:Int) % 4294967296=(a:Int):=by omega
  clear h0 h1 h2 hm hz hz2 hlt hlt0 ha hb
  go_enter Tryz.func27,Tryz.ntmps27
  go_wp2_with fail
  rw [hd] at HM
  refine HM.out.mono ?_
  rintro ex w2 ⟨v,rfl,⟨A2,c2,rfl,ho2⟩,hb2⟩
  obtain ⟨r0,r1,r2,r3,hF⟩:=fin (g:=w.heap.size) ((HB.out.alloc (Nat.le_refl _) _).alloc (by simp) _) (heap_first2 w _ _) (Nat.le_refl _) hb2 ⟨A2,c2,rfl,ho2⟩ (by omega)
  have HO:=Qh ho2
  have H2:=Qh hb2
  clear ho2 hb2 e e2 e3 hd
  go_wp2
  exact bodyPost_ret (v:=.agg #[.bool (decide (n<0)),.slice A2 (digs W n.natAbs).length c2]) (by simp [results,Tryz.results27,go_sem,r0,r1]) rfl ⟨_,rfl,(hF.out _ _).1,(hF.out _ _).2⟩
 ·have hd:decide (n<0)=false:=decide_eq_false h0
  have h3:0≤n:=by omega
  have e2:n / 4294967296=(b:Int):=by omega
  have e3:n % 4294967296=(a:Int):=by omega
  clear h0 h1 hm hz hz2 hlt hlt0 ha hb
  go_enter Tryz.func27,Tryz.ntmps27
  go_wp2_with fail
  rw [hd] at HM
  refine HM.out.mono ?_
  rintro ex w2 ⟨v,rfl,⟨A2,c2,rfl,ho2⟩,hb2⟩
  obtain ⟨r0,r1,r2,r3,hF⟩:=fin (g:=w.heap.size) ((HB.out.alloc (Nat.le_refl _) _).alloc (by simp) _) (heap_first2 w _ _) (Nat.le_refl _) hb2 ⟨A2,c2,rfl,ho2⟩ (by omega)
  have HO:=Qh ho2
  have H2:=Qh hb2
  clear ho2 hb2 e2 e3 hd
  go_wp2
  exact bodyPost_ret (v:=.agg #[.bool (decide (n<0)),.slice A2 (digs W n.natAbs).length c2]) (by simp [results,Tryz.results27,go_sem,r0,r1]) rfl ⟨_,rfl,(hF.out _ _).1,(hF.out _ _).2⟩
def FreshN (w:World) (v bound:Nat) (e:Ending) (w':World):Prop:=
 ∃ out A n c,e = .returned (.slice A n c)∧OwnU w' w.heap.size A n c (u32s out)∧out.length=n∧Dig W out∧nv W out=v∧n≤bound∧Below w.heap.size w w'
def lng (l:List Nat):Bool:=decide (4096<blen (nv W l))
def LongPost (b:Bool) (w:World) (e:Ending) (w':World):Prop:=e = .returned (.bool b)∧Below w.heap.size w w'
theorem long1_any {neg:Bool} {B g:Nat} {A:Option Addr} {l:List Nat} {n c:Nat} {w:World} (hs:SlU w B A n c l) (hn:n≤67108864) (hB:B≤w.heap.size)
  (h0:w.cell? ⟨g,0,none⟩=some (.bool neg)) (h1:w.cell? ⟨g,1,none⟩=some (.slice A n c)) :
  Calls Tryz.prog 86 #[.slice (some ⟨g,0,none⟩) 1 1] w (LongPost (lng l) w):=by
 have hS:=Qh (fun w1 (hb:Below w.heap.size w w1)=>size_any (hs.below (C:=w.heap.size) hb hB) hn)
 have HB:=Qh (Below.refl w.heap.size w)
 have hg:=World.block_lt_of_cell? w _ h0
 obtain ⟨b1,k1⟩:∃ b1,lng l=b1:=⟨_,rfl⟩
 rw [k1]
 unfold lng at k1
 generalize blen (nv W l)=x at *
 clear hs hn hB
 cases b1
 ·have k2:decide ((4096:Int)<(x:Int))=false:=by have:=of_decide_eq_false k1;exact decide_eq_false (by omega)
  clear k1
  go_enter Tryz.func86,Tryz.ntmps86
  go_wp2_with fail
  refine wp_loop_rounds 2 ?_
  rw [rounds_succ]
  go_wp2_with (go_at_call 92;refine (hS.out _ (HB.out.alloc (Nat.le_refl _) _)).mono ?_;rintro e w' ⟨rfl,rfl⟩)
  rw [rounds_succ]
  go_wp2_with fail
  go_ret
  exact ⟨rfl,HB.out.alloc (Nat.le_refl _) _⟩
 ·have k2:decide ((4096:Int)<(x:Int))=true:=by have:=of_decide_eq_true k1;exact decide_eq_true (by omega)
  clear k1
  go_enter Tryz.func86,Tryz.ntmps86
  go_wp2_with fail
  refine wp_loop_rounds 1 ?_
  rw [rounds_succ]
  go_wp2_with (go_at_call 92;refine (hS.out _ (HB.out.alloc (Nat.le_refl _) _)).mono ?_;rintro e w' ⟨rfl,rfl⟩)
  go_ret
  exact ⟨rfl,HB.out.alloc (Nat.le_refl _) _⟩
theorem long2_any {neg neg':Bool} {B B' g:Nat} {A A':Option Addr} {l m:List Nat} {n c n' c':Nat} {w:World} (hs:SlU w B A n c l) (hn:n≤67108864) (hB:B≤w.heap.size)
  (ht:SlU w B' A' n' c' m) (hn':n'≤67108864) (hB':B'≤w.heap.size)
  (h0:w.cell? ⟨g,0,none⟩=some (.bool neg)) (h1:w.cell? ⟨g,1,none⟩=some (.slice A n c)) (h2:w.cell? ⟨g,2,none⟩=some (.bool neg')) (h3:w.cell? ⟨g,3,none⟩=some (.slice A' n' c')) :
  Calls Tryz.prog 86 #[.slice (some ⟨g,0,none⟩) 2 2] w (LongPost (lng l || lng m) w):=by
 have hS:=Qh (fun w1 (hb:Below w.heap.size w w1)=>size_any (hs.below (C:=w.heap.size) hb hB) hn)
 have hT:=Qh (fun w1 (hb:Below w.heap.size w w1)=>size_any (ht.below (C:=w.heap.size) hb hB') hn')
 have HB:=Qh (Below.refl w.heap.size w)
 have hg:=World.block_lt_of_cell? w _ h0
 obtain ⟨b1,k1⟩:∃ b1,lng l=b1:=⟨_,rfl⟩
 obtain ⟨b2,k2⟩:∃ b2,lng m=b2:=⟨_,rfl⟩
 rw [k1,k2]
 unfold lng at k1 k2
 generalize blen (nv W l)=x at *
 generalize blen (nv W m)=y at *
 clear hs hn hB ht hn' hB'
 cases b1
 ·have k3:decide ((4096:Int)<(x:Int))=false:=by have:=of_decide_eq_false k1;exact decide_eq_false (by omega)
  clear k1
  cases b2
  ·have k4:decide ((4096:Int)<(y:Int))=false:=by have:=of_decide_eq_false k2;exact decide_eq_false (by omega)
   clear k2
   go_enter Tryz.func86,Tryz.ntmps86
   go_wp2_with fail
   refine wp_loop_rounds 3 ?_
   rw [rounds_succ]
   go_wp2_with (go_at_call 92;refine (hS.out _ (HB.out.alloc (Nat.le_refl _) _)).mono ?_;rintro e w' ⟨rfl,rfl⟩)
   rw [rounds_succ]
   go_wp2_with (go_at_call 92;refine (hT.out _ ((HB.out.alloc (Nat.le_refl _) _).alloc (by simp) _)).mono ?_;rintro e w' ⟨rfl,rfl⟩)
   rw [rounds_succ]
   go_wp2_with fail
   go_ret
   exact ⟨rfl,(HB.out.alloc (Nat.le_refl _) _).alloc (by simp) _⟩
  ·have k4:decide ((4096:Int)<(y:Int))=true:=by have:=of_decide_eq_true k2;exact decide_eq_true (by omega)
   clear k2
   go_enter Tryz.func86,Tryz.ntmps86
   go_wp2_with fail
   refine wp_loop_rounds 2 ?_
   rw [rounds_succ]
   go_wp2_with (go_at_call 92;refine (hS.out _ (HB.out.alloc (Nat.le_refl _) _)).mono ?_;rintro e w' ⟨rfl,rfl⟩)
   rw [rounds_succ]
   go_wp2_with (go_at_call 92;refine (hT.out _ ((HB.out.alloc (Nat.le_refl _) _).alloc (by simp) _)).mono ?_;rintro e w' ⟨rfl,rfl⟩)
   go_ret
   exact ⟨rfl,(HB.out.alloc (Nat.le_refl _) _).alloc (by simp) _⟩
 ·have k3:decide ((4096:Int)<(x:Int))=true:=by have:=of_decide_eq_true k1;exact decide_eq_true (by omega)
  clear k1 k2
  go_enter Tryz.func86,Tryz.ntmps86
  go_wp2_with fail
  refine wp_loop_rounds 1 ?_
  rw [rounds_succ]
  go_wp2_with (go_at_call 92;refine (hS.out _ (HB.out.alloc (Nat.le_refl _) _)).mono ?_;rintro e w' ⟨rfl,rfl⟩)
  go_ret
  exact ⟨rfl,HB.out.alloc (Nat.le_refl _) _⟩
theorem three_boxes {w W w2:World} {C t:Nat} {x y u v p q:Value} (hd:Dr (((w.alloc (.cells #[x,y] t)).alloc (.cells #[u,v] t)).alloc (.cells #[p,q] t)) W) (hb:Below C W w2) (hC:w.heap.size+3≤C) :
  (w2.cell? ⟨w.heap.size,0,none⟩=some x∧w2.cell? ⟨w.heap.size,1,none⟩=some y)∧(w2.cell? ⟨w.heap.size+1,0,none⟩=some u∧w2.cell? ⟨w.heap.size+1,1,none⟩=some v) ∧
  (w2.cell? ⟨w.heap.size+1+1,0,none⟩=some p∧w2.cell? ⟨w.heap.size+1+1,1,none⟩=some q∧w2.frozen? ⟨w.heap.size+1+1,0,none⟩=false∧w2.frozen? ⟨w.heap.size+1+1,1,none⟩=false):=by
 have h1:=two_cells (g:=w.heap.size) hb (by rw [hd.heap,Below.heap_alloc _ _ _ (by simp;omega)];exact heap_first2 w _ _) (by omega)
 have h2:=two_cells (g:=w.heap.size+1) hb (by rw [hd.heap,Below.heap_alloc _ _ _ (by simp)];exact heap_second w _ _) (by omega)
 have h3:=two_cells (g:=w.heap.size+1+1) hb (by rw [hd.heap];exact heap_third w _ _ _) (by omega)
 exact ⟨⟨h1.1,h1.2.1⟩,⟨h2.1,h2.2.1⟩,h3⟩
attribute [local go_sem ↓] Go.wp_at_zero Go.wp_at_succ
end
section
open Go.RowKit Hb
theorem lng_digs (k:Nat):lng (digs W k)=decide (4096<blen k):=by rw [lng,nv_digs (by decide)]
def KeptPost (v:Value) (code:Int) (w:World) (e:Ending) (w':World):Prop:=e = .returned (.tuple #[v,.int .i64 code])∧Below w.heap.size w w'
theorem kept_any {neg:Bool} {B:Nat} {A:Option Addr} {l:List Nat} {n c:Nat} {w:World} (hs:SlU w B A n c l) (hn:n≤67108864) (hB:B≤w.heap.size) :
  Calls Tryz.prog 87 #[.agg #[.bool neg,.slice A n c]] w
   (KeptPost (if lng l then .agg #[.bool false,.slice none 0 0] else .agg #[.bool neg,.slice A n c]) (if lng l then 10 else 0) w):=by
 have HW:=Qh ((((Below.refl w.heap.size w).alloc (Nat.le_refl _) (.cells #[.bool neg,.slice A n c] 56)).alloc (by simp) (.cells #[.bool false,.slice none 0 0] 56)).alloc (by simp;omega) (.cells #[.bool neg,.slice A n c] 56))
 have HL:=Qh (long1_any (neg:=neg) (g:=w.heap.size+1+1) (hs.below (C:=w.heap.size) HW.out hB) hn (Nat.le_trans hB HW.out.size) (by simp [go_sem]) (by simp [go_sem]))
 have HK:=Qh (fun C w2 (hb:Below C (((w.alloc (.cells #[.bool neg,.slice A n c] 56)).alloc (.cells #[.bool false,.slice none 0 0] 56)).alloc (.cells #[.bool neg,.slice A n c] 56)) w2) hC=>three_boxes (Dr.refl _) hb hC)
 clear hs hn hB
 cases hb:lng l
 all_goals
  rw [hb] at HL
  clear hb
  go_enter Tryz.func87,Tryz.ntmps87
  go_wp2_with fail
  refine HL.out.mono ?_
  rintro ex w3 ⟨rfl,hb3⟩
  obtain ⟨⟨q0,q1⟩,⟨r0,r1⟩,_⟩:=HK.out _ _ hb3 (by simp)
  have h1:=(hb3.frozen (p:=⟨w.heap.size+1,0,none⟩) (by simp)).trans (by simp [go_sem]:_=false)
  have h2:=(hb3.frozen (p:=⟨w.heap.size+1,1,none⟩) (by simp)).trans (by simp [go_sem]:_=false)
  have HB3:=Qh hb3
  clear hb3
  go_wp2
 ·exact bodyPost_ret (v:=.tuple #[.agg #[.bool neg,.slice A n c],.int .i64 0]) (by simp [results,Tryz.results87,go_sem,r0,r1]) rfl
   ⟨by simp,((HW.out.trans (HB3.out.mono (by simp;omega))).setCell (by simp) _).setCell (by simp) _⟩
 ·exact bodyPost_ret (v:=.tuple #[.agg #[.bool false,.slice none 0 0],.int .i64 10]) (by simp [results,Tryz.results87,go_sem,r0,r1]) rfl
   ⟨by simp,((HW.out.trans (HB3.out.mono (by simp;omega))).setCell (by simp) _).setCell (by simp) _⟩
abbrev zeroV:Value:=.agg #[.bool false,.slice none 0 0]
def PostC (w:World) (z:Int) (code:Int) (e:Ending) (w':World):Prop:=
 ∃ v,e = .returned (.tuple #[v,.int .i64 code])∧(code=0→ResI w' w.heap.size v z)∧(code≠0→v=zeroV)∧Below w.heap.size w w'
theorem PostC.ok {w w':World} {z co:Int} {v:Value} (hco:co=0) (hr:ResI w' w.heap.size v z) (hb:Below w.heap.size w w'):PostC w z co (.returned (.tuple #[v,.int .i64 0])) w':=by
 subst hco;exact ⟨v,rfl,fun _=>hr,fun h=>absurd rfl h,hb⟩
theorem PostC.bad {w w':World} {z co k:Int} (hco:co=k) (hk:k≠0) (hb:Below w.heap.size w w'):PostC w z co (.returned (.tuple #[zeroV,.int .i64 k])) w':=by
 subst hco;exact ⟨zeroV,rfl,fun h=>absurd h hk,fun _=>rfl,hb⟩
def tooLong (z:Int):Bool:=decide (4096<blen z.natAbs)
def err (b:Bool):Int:=if b then 10 else 0
abbrev W2 (w:World) (na nb:Bool) (A A':Option Addr) (n c n' c':Nat):World:=
 (((w.alloc (.cells #[.bool na,.slice A n c] 56)).alloc (.cells #[.bool nb,.slice A' n' c'] 56)).alloc (.cells #[.bool false,.slice none 0 0] 56)).alloc (.cells #[.bool na,.slice A n c,.bool nb,.slice A' n' c'] 56)
theorem W2_below (w:World) (na nb:Bool) (A A':Option Addr) (n c n' c':Nat):Below w.heap.size w (W2 w na nb A A' n c n' c'):=
 ((((Below.refl w.heap.size w).alloc (Nat.le_refl _) _).alloc (by simp) _).alloc (by simp;omega) _).alloc (by simp;omega) _
theorem heap_fourth (w:World) (a b c d:Obj):((((w.alloc a).alloc b).alloc c).alloc d).heap[w.heap.size+1+1+1]?=some d:=by
 have:=heap_alloc_new (((w.alloc a).alloc b).alloc c) d
 simpa using this
theorem W2_cells {w w2:World} {na nb:Bool} {A A':Option Addr} {n c n' c' C:Nat} (hb:Below C (W2 w na nb A A' n c n' c') w2) (hC:w.heap.size+1+1+1+1≤C) :
  (w2.cell? ⟨w.heap.size,0,none⟩=some (.bool na)∧w2.cell? ⟨w.heap.size,1,none⟩=some (.slice A n c))∧(w2.cell? ⟨w.heap.size+1,0,none⟩=some (.bool nb)∧w2.cell? ⟨w.heap.size+1,1,none⟩=some (.slice A' n' c')) ∧
  (w2.cell? ⟨w.heap.size+1+1,0,none⟩=some (.bool false)∧w2.cell? ⟨w.heap.size+1+1,1,none⟩=some (.slice none 0 0)∧w2.frozen? ⟨w.heap.size+1+1,0,none⟩=false∧w2.frozen? ⟨w.heap.size+1+1,1,none⟩=false):=by
 refine three_boxes (t:=56) (W:=(((w.alloc (.cells #[.bool na,.slice A n c] 56)).alloc (.cells #[.bool nb,.slice A' n' c'] 56)).alloc (.cells #[.bool false,.slice none 0 0] 56))) (C:=w.heap.size+3) (Dr.refl _) ?_ (Nat.le_refl _)
 exact ((Below.refl _ _).alloc (by simp) _).trans (hb.mono (by omega))
theorem W2_held {w w2:World} {na nb:Bool} {A A':Option Addr} {n c n' c':Nat} (hb:Below (w.heap.size+1+1) (W2 w na nb A A' n c n' c') w2) :
  (w2.cell? ⟨w.heap.size,0,none⟩=some (.bool na)∧w2.cell? ⟨w.heap.size,1,none⟩=some (.slice A n c))∧(w2.cell? ⟨w.heap.size+1,0,none⟩=some (.bool nb)∧w2.cell? ⟨w.heap.size+1,1,none⟩=some (.slice A' n' c')):=by
 have h:=W2_cells (Below.refl (w.heap.size+1+1+1+1) (W2 w na nb A A' n c n' c')) (Nat.le_refl _)
 exact ⟨⟨(hb.cell (by first | omega | (simp;done) | (simp;omega))).trans h.1.1,(hb.cell (by first | omega | (simp;done) | (simp;omega))).trans h.1.2⟩,(hb.cell (by first | omega | (simp;done) | (simp;omega))).trans h.2.1.1,(hb.cell (by first | omega | (simp;done) | (simp;omega))).trans h.2.1.2⟩
theorem W2_long {w:World} {na nb:Bool} {B B':Nat} {A A':Option Addr} {l m:List Nat} {n c n' c':Nat} (hs:SlU w B A n c l) (ht:SlU w B' A' n' c' m) (hn:n≤67108864) (hn':n'≤67108864) (hB:B≤w.heap.size) (hB':B'≤w.heap.size) :
  Calls Tryz.prog 86 #[.slice (some ⟨w.heap.size+1+1+1,0,none⟩) 2 2] (W2 w na nb A A' n c n' c') (LongPost (lng l || lng m) (W2 w na nb A A' n c n' c')):=by
 have hb:=W2_below w na nb A A' n c n' c'
 have hg:=heap_fourth w (.cells #[.bool na,.slice A n c] 56) (.cells #[.bool nb,.slice A' n' c'] 56) (.cells #[.bool false,.slice none 0 0] 56) (.cells #[.bool na,.slice A n c,.bool nb,.slice A' n' c'] 56)
 exact long2_any (neg:=na) (neg':=nb) (hs.below hb hB) hn (Nat.le_trans hB hb.size) (ht.below hb hB') hn' (Nat.le_trans hB' hb.size)
  (cell_of_row _ _ 0 _ _ (0,0) hg) (cell_of_row _ _ 1 _ _ (0,0) hg) (cell_of_row _ _ 2 _ _ (0,0) hg) (cell_of_row _ _ 3 _ _ (0,0) hg)
theorem kept_res {w1:World} {B:Nat} {A2:Option Addr} {c2:Nat} {z:Int} (ho:OwnU w1 B A2 (digs W z.natAbs).length c2 (u32s (digs W z.natAbs))) (hl:(digs W z.natAbs).length≤67108864) :
  Calls Tryz.prog 87 #[.agg #[.bool (decide (z<0)),.slice A2 (digs W z.natAbs).length c2]] w1
   (KeptPost (if tooLong z then zeroV else .agg #[.bool (decide (z<0)),.slice A2 (digs W z.natAbs).length c2]) (err (tooLong z)) w1):=by
 have:=kept_any (neg:=decide (z<0)) (ho.sl (dig_digs (by decide) _) rfl) hl (Nat.le_refl _)
 rw [lng_digs] at this
 exact this
theorem kept_ok {w1:World} {B:Nat} {A2:Option Addr} {c2:Nat} {z:Int} (hT:tooLong z=false) (ho:OwnU w1 B A2 (digs W z.natAbs).length c2 (u32s (digs W z.natAbs))) (hl:(digs W z.natAbs).length≤67108864) :
  Calls Tryz.prog 87 #[.agg #[.bool (decide (z<0)),.slice A2 (digs W z.natAbs).length c2]] w1
   (KeptPost (.agg #[.bool (decide (z<0)),.slice A2 (digs W z.natAbs).length c2]) 0 w1):=by
 have:=kept_res ho hl
 simpa only [hT,err,Bool.false_eq_true,↓reduceIte] using this
theorem kept_bad {w1:World} {B:Nat} {A2:Option Addr} {c2:Nat} {z:Int} (hT:tooLong z=true) (ho:OwnU w1 B A2 (digs W z.natAbs).length c2 (u32s (digs W z.natAbs))) (hl:(digs W z.natAbs).length≤67108864) :
  Calls Tryz.prog 87 #[.agg #[.bool (decide (z<0)),.slice A2 (digs W z.natAbs).length c2]] w1 (KeptPost zeroV 10 w1):=by
 have:=kept_res ho hl
 simpa only [hT,err,↓reduceIte] using this
attribute [local go_sem ↓] Go.wp_at_zero Go.wp_at_succ
end
section
open Go.RowKit Hb
def MulRel (w:World) (l m:List Nat) (N M i:Nat) (wr:World):Prop:=
 ∃ o:List Nat,o.length=N+M∧Dig W o∧(∀ j,i+M≤j→o.getD j 0=0)∧nv W o=nvp W l i * nv W m ∧
  OwnU wr w.heap.size (some ⟨w.heap.size,0,none⟩) (N+M) (N+M) (u32s o)∧Below w.heap.size w wr
def MulIn (w:World) (l m:List Nat) (N M i k:Nat) (cv:Value) (wr:World):Prop:=
 ∃ (o:List Nat) (c:Nat),cv = .int .u64 (c:Int)∧c<4294967296∧o.length=N+M∧Dig W o∧(∀ j,i+M≤j→o.getD j 0=0) ∧
  nv W o+W ^ (i+k) * c=nvp W l i * nv W m+W ^ i * (l.getD i 0 * nvp W m k) ∧
  OwnU wr w.heap.size (some ⟨w.heap.size,0,none⟩) (N+M) (N+M) (u32s o)∧Below w.heap.size w wr
theorem MulRel.start (w:World) (l m:List Nat) (N M:Nat) (hn:N+M≤maxLen):MulRel w l m N M 0 (w.alloc (.cells (madeCells #[.int .u32 0] (N+M)) 101)):=by
 refine ⟨List.replicate (N+M) 0,by simp,Dig.replicate _ _ (by decide),fun j _=>?_,by rw [nv_replicate,nvp_zero,Nat.zero_mul],?_,Qb⟩
 ·rw [List.getD_eq_getElem?_getD,List.getElem?_replicate];split <;> rfl
 ·have:=Own.made w (.int .u32 0) (N+M) 101 (B:=w.heap.size) (Nat.le_refl _) hn
  rwa [u32s_zeros] at this
theorem MulRel.enter {w wr:World} {l m:List Nat} {N M i:Nat} (h:MulRel w l m N M i wr):MulIn w l m N M i 0 (.int .u64 0) wr:=by
 obtain ⟨o,h1,h2,h3,h4,h5,h6⟩:=h
 exact ⟨o,0,rfl,by omega,h1,h2,h3,by rw [nvp_zero];simpa using h4,h5,h6⟩
theorem MulIn.facts {w wr:World} {l m:List Nat} {N M i k:Nat} {cv:Value} (h:MulIn w l m N M i k cv wr) :
  ∃ c:Nat,cv = .int .u64 (c:Int)∧c<4294967296∧Below w.heap.size w wr ∧
   ∀ p,p<N+M→∃ d:Nat,d<4294967296∧wr.cell? ⟨w.heap.size,p,none⟩=some (.int .u32 (d:Int))∧wr.frozen? ⟨w.heap.size,p,none⟩=false∧(i+M≤p→d=0) ∧
    (p=i+k→∀ x y,l.getD i 0=x→m.getD k 0=y→k<M→Dig W l→Dig W m →
     MulIn w l m N M i (k+1) (.int .u64 (((x * y+d+c) / 4294967296:Nat):Int)) (wr.setCell ⟨w.heap.size,p,none⟩ (.int .u32 (((x * y+d+c) % 4294967296:Nat):Int)))) ∧
    (p=i+M→k=M→m.length≤M→MulRel w l m N M (i+1) (wr.setCell ⟨w.heap.size,p,none⟩ (.int .u32 (c:Int)))):=by
 obtain ⟨o,c,rfl,hc,h1,h2,h3,h4,h5,h6⟩:=h
 refine ⟨c,rfl,hc,h6,fun p hp=>⟨o.getD p 0,h2.getD (by decide) p,?_,h5.frozen p,h3 p,?_,?_⟩⟩
 ·rw [h5.cell hp,u32s_get (by omega)]
 ·rintro rfl x y rfl rfl hk hl hm
  have b1:l.getD i 0<4294967296:=hl.getD (by decide) i
  have b2:m.getD k 0<4294967296:=hm.getD (by decide) k
  have b3:o.getD (i+k) 0<4294967296:=h2.getD (by decide) (i+k)
  obtain ⟨hq,hlt⟩:=mul_lt b1 b2 b3 hc
  refine ⟨o.set (i+k) ((l.getD i 0 * m.getD k 0+o.getD (i+k) 0+c) % 4294967296),_,rfl,hlt,by simpa using h1,h2.set (Nat.mod_lt _ (by decide)) _,fun j hj=>?_,?_,?_,h6.setCell (Nat.le_refl _) _⟩
  ·rw [lget_set_ne (by omega)];exact h3 j hj
  ·have:=mul_step (b:=W) (t:=l.getD i 0 * m.getD k 0+o.getD (i+k) 0+c) (nv_set W (l:=o) (p:=i+k) (by omega) _) rfl h4
   rw [←Nat.add_assoc i k 1]
   refine this.trans ?_
   rw [nvp_succ,Nat.mul_add,Nat.mul_add,Nat.pow_add,←Nat.add_assoc]
   congr 1
   rw [Nat.mul_assoc,Nat.mul_left_comm (l.getD i 0)]
  ·have:=h5.set_ (i+k) (.int .u32 (((l.getD i 0 * m.getD k 0+o.getD (i+k) 0+c) % 4294967296:Nat):Int))
   rwa [u32s_set] at this
 ·rintro rfl rfl hm
  refine ⟨o.set (i+k) c,by simpa using h1,h2.set hc _,fun j hj=>?_,?_,?_,h6.setCell (Nat.le_refl _) _⟩
  ·rw [lget_set_ne (by omega)];exact h3 j (by omega)
  ·have h7:=nv_set W (l:=o) (p:=i+k) (by omega) c
   rw [h3 (i+k) (Nat.le_refl _),Nat.mul_zero,Nat.add_zero,h4,nvp_all hm] at h7
   rw [h7,nvp_succ,Nat.add_mul,Nat.mul_assoc]
  ·have:=h5.set_ (i+k) (.int .u32 (c:Int))
   rwa [u32s_set] at this
theorem MulRel.end_ {w wr:World} {l m:List Nat} {N M:Nat} (h:MulRel w l m N M N wr) (hl:l.length≤N) :
  FreshN w (nv W l * nv W m) (N+M) (.returned (.slice (some ⟨w.heap.size,0,none⟩) (N+M) (N+M))) wr:=by
 obtain ⟨o,h1,h2,h3,h4,h5,h6⟩:=h
 exact ⟨_,_,_,_,rfl,h5,h1,h2,by rw [h4,nvp_all hl],Nat.le_refl _,h6⟩
theorem MulRel.below {w wr:World} {l m:List Nat} {N M i:Nat} (h:MulRel w l m N M i wr):Below w.heap.size w wr:=by
 obtain ⟨o,h1,h2,h3,h4,h5,h6⟩:=h
 exact h6
theorem mul_any {B B':Nat} {A A':Option Addr} {l m:List Nat} {n c n' c':Nat} {w:World} (hs:SlU w B A n c l) (ht:SlU w B' A' n' c' m) (hn:n+n'≤67108864) (hB:B≤w.heap.size) (hB':B'≤w.heap.size) :
  Calls Tryz.prog 88 #[.slice A n c,.slice A' n' c'] w (FreshN w (nv W l * nv W m) (tlen l+tlen m)):=by
 have H1:=Qh (trim_any hs)
 have H2:=Qh (trim_any ht)
 have hl1:=tlen_le l
 have hl2:=tlen_le m
 have hl3:=hs.len
 have hl4:=ht.len
 rw [←nv_tr W l,←nv_tr W m]
 have h3:=hs.tr
 have h4:=ht.tr
 generalize tr l=l' at *
 generalize tr m=m' at *
 generalize tlen l=N at *
 generalize tlen m=M at *
 clear hs ht
 have e3:=h3.len
 have e4:=h4.len
 have hNM:N+M≤1000000000:=by omega
 have hmk:=fun w=>by
  have h:=makeU (N+M) (by omega) w
  rw [show ((N+M:Nat):Int)=(N:Int)+M from by omega] at h
  exact h
 have hst:=Qh (MulRel.start w l' m' N M (by simp [maxLen];omega))
 have hdl:=Qh h3.dig
 have hdm:=Qh h4.dig
 have HE:=Qh (fun wr (h:MulRel w l' m' N M N wr)=>h.end_ (by omega))
 have HM:=Qh (show m'.length≤M by omega)
 clear hl1 hl2 hl3 hl4 hn e3 e4
 go_enter Tryz.func88,Tryz.ntmps88
 go_wp2_with fail
 refine H1.out.mono ?_;rintro e w' ⟨rfl,rfl⟩
 go_wp2_with fail
 refine H2.out.mono ?_;rintro e w' ⟨rfl,rfl⟩
 go_wp2_with fail
 go_loopw [24] (fun i wr=>∃ k:Nat,k≤N∧i = .int .i64 k∧MulRel w l' m' N M k wr) (fun i _=>N - (intOf i).toNat)
 case atStart=>exact ⟨0,Nat.zero_le _,rfl,hst.out⟩
 case round=>
  obtain ⟨i,hi,rfl,hrel⟩:=hrel
  by_cases hiN:i<N
  ·obtain ⟨b,off,hAe,hbb,hcell⟩:=h3.at_ (by omega)
   subst hAe
   have hx:=(hrel.below.cell (p:=⟨b,off+i,none⟩) (Ql hbb hB)).trans (hcell i hiN)
   obtain ⟨x,hxe⟩:∃ x,l'.getD i 0=x:=⟨_,rfl⟩
   have hxb:x<4294967296:=by rw [←hxe];exact hdl.out.getD (by decide) i
   rw [hxe] at hx
   have HX:=Qh hxe
   have HI:=Qh hrel.enter
   clear hxe hcell hrel hst HE
   have hi0:(0:Int)≤(i:Int):=by omega
   have hi1:(i:Int)<(N:Int):=by omega
   obtain ⟨wo,hwo⟩:∃ wo:World,wo=wr:=⟨_,rfl⟩
   subst hwo
   go_wp2_with fail
   go_loopw [8,31] (fun cv kv wr=>∃ k:Nat,k≤M∧kv = .int .i64 k∧MulIn w l' m' N M i k cv wr) (fun _ kv _=>M - (intOf kv).toNat)
   case atStart=>exact ⟨0,Nat.zero_le _,rfl,HI.out⟩
   case round=>
    obtain ⟨k,hk,rfl,hin⟩:=hrel
    obtain ⟨cy,rfl,hcy,hbel,hP⟩:=hin.facts
    have hk0:(0:Int)≤(k:Int):=by omega
    by_cases hkM:k<M
    ·obtain ⟨d,hd,hcd,hfz,_,hstep,_⟩:=hP (i+k) (by omega)
     obtain ⟨b2,off2,hAe,hbb2,hcell2⟩:=h4.at_ (by omega)
     subst hAe
     have hy:=(hbel.cell (p:=⟨b2,off2+k,none⟩) (Ql hbb2 hB')).trans (hcell2 k hkM)
     obtain ⟨y,hye⟩:∃ y,m'.getD k 0=y:=⟨_,rfl⟩
     have hyb:y<4294967296:=by rw [←hye];exact hdm.out.getD (by decide) k
     rw [hye] at hy
     have HS:=Qh (hstep rfl x y HX.out hye hkM hdl.out hdm.out)
     obtain ⟨hq1,hq2⟩:=mul_lt hxb hyb hd hcy
     obtain ⟨q,hq⟩:∃ q,x * y=q:=⟨_,rfl⟩
     rw [hq] at HS hq1 hq2
     have hqi:(x:Int) * (y:Int)=(q:Int):=by rw [←hq];simp
     have hk1:(k:Int)<(M:Int):=by omega
     have hik:(i:Int)+(k:Int)<(N:Int)+(M:Int):=by omega
     clear hq hye hstep hcell2 hP hbel HI hin
     go_wp2_with fail
     go_roundw
     case rel=>exact ⟨k+1,by omega,by go_num,HS.out⟩
     case measure=>simp [intOf];omega
    ·obtain rfl:k=M:=by omega
     obtain ⟨d,hd,hcd,hfz,_,_,hstep⟩:=hP (i+k) (by omega)
     have HS:=Qh (hstep rfl rfl HM.out)
     have hik:(i:Int)+(k:Int)<(N:Int)+(k:Int):=by omega
     have hcy2:(cy:Int) % 4294967296=cy:=by omega
     clear hstep hP hbel HI hin
     go_wp2_with fail
     go_roundw
     case rel=>exact ⟨i+1,by omega,by go_num,HS.out⟩
     case measure=>simp [intOf];omega
  ·obtain rfl:i=N:=by omega
   have HF:=Qh (HE.out _ hrel)
   clear hrel hst HE
   go_wp2
   go_ret
   exact HF.out
theorem ival_mul (na nb:Bool) {l m out:List Nat} (h:nv W out=nv W l * nv W m):ival (!(na==nb)) out=ival na l * ival nb m:=by
 cases na <;> cases nb <;> simp [ival,h,Int.neg_mul,Int.mul_neg]
theorem ival_natAbs_mul (na nb:Bool) (l m:List Nat):(ival na l * ival nb m).natAbs=nv W l * nv W m:=by
 rw [Int.natAbs_mul,ival_natAbs,ival_natAbs]
theorem mul_len {l m:List Nat} (hl:Dig W l) (hm:Dig W m) {n n':Nat} (h1:l.length=n) (h2:m.length=n') (na nb:Bool):(digs W (ival na l * ival nb m).natAbs).length≤n+n':=by
 refine digs_length_le (by decide) ?_
 rw [ival_natAbs_mul,Nat.pow_add]
 have a:=nv_lt hl
 have b:=nv_lt hm
 rw [h1] at a
 rw [h2] at b
 rcases Nat.eq_zero_or_pos (nv W m) with h | h
 ·rw [h,Nat.mul_zero];exact Nat.mul_pos (Nat.pow_pos (by decide)) (Nat.pow_pos (by decide))
 ·exact Ql (Nat.mul_lt_mul_of_pos_right a h) (Nat.mul_le_mul_left _ (Nat.le_of_lt b))
attribute [local go_sem ↓] Go.wp_at_zero Go.wp_at_succ
theorem Mul_any (na nb:Bool) {B B':Nat} {A A':Option Addr} {l m:List Nat} {n c n' c':Nat} {w:World} (hs:SlU w B A n c l) (ht:SlU w B' A' n' c' m) (hn:n+n'≤67108864) (hB:B≤w.heap.size) (hB':B'≤w.heap.size) :
  Calls Tryz.prog 60 #[.agg #[.bool na,.slice A n c],.agg #[.bool nb,.slice A' n' c']] w (PostC w (ival na l * ival nb m) (err (lng l || lng m || tooLong (ival na l * ival nb m)))):=by
 have hl1:=hs.len
 have hl2:=ht.len
 have HL:=Qh (W2_long (na:=na) (nb:=nb) hs ht (by omega) (by omega) hB hB')
 have HW:=Qh (W2_below w na nb A A' n c n' c')
 have HK:=Qh (fun C w2 (hb:Below C (W2 w na nb A A' n c n' c') w2) hC=>W2_cells hb hC)
 have HE:=Qh (fun w2 (hb:Below (w.heap.size+1+1) (W2 w na nb A A' n c n' c') w2)=>W2_held hb)
 have HN:=Qh (show (digs W (ival na l * ival nb m).natAbs).length≤67108864 from Nat.le_trans (mul_len hs.dig ht.dig hl1 hl2 na nb) (by omega))
 have HS:=Qh (fun w1 (hb:Below w.heap.size w w1)=>mul_any (hs.below (C:=w.heap.size) hb hB) (ht.below (C:=w.heap.size) hb hB') (by omega) (Nat.le_trans hB hb.size) (Nat.le_trans hB' hb.size))
 have HV:=Qh (fun out (h:nv W out=nv W l * nv W m)=>ival_mul na nb h)
 clear hs ht hn hB hB' hl1 hl2
 generalize ival na l * ival nb m=Z at *
 cases hb:(lng l || lng m)
 ·rw [hb] at HL
  clear hb
  cases hT:tooLong Z
  all_goals
   first | have HQ:=Qh (fun w1 B2 A2 c2 (ho:OwnU w1 B2 A2 (digs W Z.natAbs).length c2 (u32s (digs W Z.natAbs)))=>kept_ok hT ho HN.out) | have HQ:=Qh (fun w1 B2 A2 c2 (ho:OwnU w1 B2 A2 (digs W Z.natAbs).length c2 (u32s (digs W Z.natAbs)))=>kept_bad hT ho HN.out)
   have HT:=Qh hT
   clear hT
   go_enter Tryz.func60,Tryz.ntmps60
   go_wp2_with fail
   refine HL.out.mono ?_
   rintro ex w3 ⟨rfl,hb3⟩
   obtain ⟨⟨q0,q1⟩,⟨q2,q3⟩,r0,r1,r2,r3⟩:=HK.out _ _ hb3 (by first | omega | (simp;done) | (simp;omega))
   have HB3:=Qh (HW.out.trans (hb3.mono (B':=w.heap.size) (by first | omega | (simp;done) | (simp;omega))))
   have H3:=Qh hb3
   have K3:=Qh (hb3.mono (B':=w.heap.size+1+1) (by first | omega | (simp;done) | (simp;omega)))
   have hz3:=hb3.size
   simp at hz3
   clear hb3
   go_wp2_with fail
   clear r0 r1 r2 r3
   go_region_held3 (fun w'=>(w'.cell? ⟨w.heap.size,0,none⟩=some (.bool na)∧w'.cell? ⟨w.heap.size,1,none⟩=some (.slice A n c))∧(w'.cell? ⟨w.heap.size+1,0,none⟩=some (.bool nb)∧w'.cell? ⟨w.heap.size+1,1,none⟩=some (.slice A' n' c')))
    (first
     | (go_keep;done)
     | exact HE.out _ ((k6.setCell (by first | omega | (simp;done) | (simp;omega)) _).setCell (by first | omega | (simp;done) | (simp;omega)) _)
     | exact HE.out _ k6
     | exact HE.out _ k5
     | exact HE.out _ k4)
    (first
     | (go_at_call 88;(with_reducible refine (HS.out _ ?_).mono ?_);exact HB3.out.drew;rintro e w4 ⟨out,A2,n2,c2,rfl,ho2,hl2,hd2,hv2,_,hb4⟩;have hz4:=hb4.size;simp at hz4;have k4:=K3.out.drew.trans (hb4.mono (B':=w.heap.size+1+1) (by first | omega | (simp;done) | (simp;omega))))
     | (go_at_call 53;(with_reducible refine (laid_own (!(na==nb)) ho2 hl2 hd2 (HV.out _ hv2)).mono ?_);rintro e w5 ⟨v,rfl,⟨A3,c3,rfl,ho3⟩,hb5⟩;have hz5:=hb5.size;have k5:=k4.trans (hb5.mono (B':=w.heap.size+1+1) (by first | omega | (simp;done) | (simp;omega))))
     | (go_at_call 87;(with_reducible refine (HQ.out _ _ _ _ ho3).mono ?_);rintro e w6 ⟨rfl,hb6⟩;have hz6:=hb6.size;have k6:=k5.trans (hb6.mono (B':=w.heap.size+1+1) (by first | omega | (simp;done) | (simp;omega)));obtain ⟨r0,r1,r2,r3⟩:=(HK.out _ _ (H3.out.drew.trans ((hb4.trans ((hb5.mono hb4.size).trans (hb6.mono (Nat.le_trans hb4.size hb5.size)))).mono (by first | omega | (simp;done) | (simp;omega)))) (by first | omega | (simp;done) | (simp;omega))).2.2))
   have HB6:=HB3.out.drew.trans ((hb4.trans ((hb5.mono hb4.size).trans (hb6.mono (Nat.le_trans hb4.size hb5.size)))).mono (B':=w.heap.size) (by first | omega | (simp;done) | (simp;omega)))
   have ho6:=ho3.below hb6 (Nat.le_refl _)
   go_wp2
  ·have hr:=ResI.stored (w:=w) (g:=w.heap.size+1+1) (u:=.bool (decide (Z<0))) (u':=.slice A3 (digs W Z.natAbs).length c3) ⟨A3,c3,rfl,ho6⟩ HB6 (by first | omega | (simp;done) | (simp;omega)) (by first | omega | (simp;done) | (simp;omega))
   exact bodyPost_ret (v:=.tuple #[.agg #[.bool (decide (Z<0)),.slice A3 (digs W Z.natAbs).length c3],.int .i64 0]) (by simp [results,Tryz.results60,go_sem,r0,r1]) rfl
    (PostC.ok (by simp [err]) hr.1 hr.2)
  ·exact bodyPost_ret (v:=.tuple #[zeroV,.int .i64 10]) (by simp [results,Tryz.results60,go_sem,r0,r1]) rfl
    (PostC.bad (by simp [err]) (by decide) ((HB6.setCell (by first | omega | (simp;done) | (simp;omega)) _).setCell (by first | omega | (simp;done) | (simp;omega)) _))
 ·rw [hb] at HL
  clear hb
  go_enter Tryz.func60,Tryz.ntmps60
  go_wp2_with fail
  refine HL.out.mono ?_
  rintro ex w3 ⟨rfl,hb3⟩
  obtain ⟨⟨q0,q1⟩,⟨q2,q3⟩,r0,r1,r2,r3⟩:=HK.out _ _ hb3 (by simp)
  have HB3:=Qh (HW.out.trans (hb3.mono (B':=w.heap.size) (by first | omega | (simp;done) | (simp;omega))))
  clear hb3
  go_wp2_with fail
  exact bodyPost_ret (v:=.tuple #[zeroV,.int .i64 10]) (by simp [results,Tryz.results60,go_sem,r0,r1]) rfl
   (PostC.bad (by simp [err]) (by decide) ((HB3.out.setCell (by first | omega | (simp;done) | (simp;omega)) _).setCell (by first | omega | (simp;done) | (simp;omega)) _))
end
section
open Go.RowKit Hb
theorem or_add {s a b:Nat} (ha:a<2 ^ s) (hb:b % 2 ^ s=0):a ||| b=a+b:=by
 have h:=Nat.two_pow_add_eq_or_of_lt ha (b / 2 ^ s)
 have e:2 ^ s * (b / 2 ^ s)=b:=by have:=Nat.mod_add_div b (2 ^ s);omega
 rw [e] at h
 rw [Nat.or_comm,←h,Nat.add_comm]
theorem u64_bv (n:Nat) (h1:n<18446744073709551616):(BitVec.ofInt 64 (n:Int)).toNat=n:=by
 rw [BitVec.ofInt_natCast,BitVec.toNat_ofNat]
 exact Nat.mod_eq_of_lt (by omega)
theorem bits_or_u64 (a b:Nat) (ha:a<18446744073709551616) (hb:b<18446744073709551616):bits .or .u64 (a:Int) (b:Int)=((a ||| b:Nat):Int):=by
 have hx:a ||| b<2 ^ 64:=Nat.or_lt_two_pow (by omega) (by omega)
 show IntKind.u64.wrap ((BitVec.ofInt 64 (a:Int) ||| BitVec.ofInt 64 (b:Int)).toNat:Int)=_
 rw [BitVec.toNat_or,u64_bv _ ha,u64_bv _ hb,IntKind.wrap_u64]
 omega
end
end Go.Proofs.YtpikjceodmepiaaGreatDoor
