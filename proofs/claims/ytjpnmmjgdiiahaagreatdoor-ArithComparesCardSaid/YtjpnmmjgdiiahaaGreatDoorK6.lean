import Derived.Shelf.Small.Bits
import Derived.Test.YtjpnmmjgdiiahaaGreatDoorRows
import Derived.WalkKit
import Derived.Deep.QuietTactic
import Derived.BigQuiet
import Derived.Deep.RegionHeld3
import Derived.Deep.DrawnRows
import Derived.Deep.DeepCutAuto
import Derived.Deep.CutBlock
import Derived.Laws.BytesArg
import Derived.Laws.AppendOwnNone
import Derived.ProofKit
import Derived.OpenShut
import Derived.JoinedCond
import Derived.JoinedOf
import Derived.JoinedAt
import Derived.ChangeSame
import Derived.ChangeSlices
import Derived.RowKit3
import Derived.Carry
import Derived.Lib.SmallJoins
import Derived.Deep.LoopGhost
import Derived.Maps.AppendAt
import Derived.IntWalk
import Derived.StillTailTactics
import Derived.Laws.Cover2
import Derived.Laws.FloatArith
import Derived.Test.YtjpnmmjgdiiahaaGreatDoorK1
import Derived.Test.YtjpnmmjgdiiahaaGreatDoorK2
import Derived.Test.YtjpnmmjgdiiahaaGreatDoorK3
import Derived.Test.YtjpnmmjgdiiahaaGreatDoorK4
import Derived.Test.YtjpnmmjgdiiahaaGreatDoorK5
set_option linter.unusedVariables false
set_option linter.unusedSimpArgs false
namespace Go.Proofs.YtjpnmmjgdiiahaaGreatDoor
section
open Go.Shelf
def Tryz.lays133_ren:Go.Shelf.Ren:=⟨fun | 133=>212 | 128=>74 | n=>n,fun | 51=>79 | 3=>3 | 4=>4 | 46=>80 | 5=>5 | 9=>9 | n=>n,fun | n=>n⟩
theorem Tryz.lays133:Go.Proofs.Lays.n133 Tryz.prog Tryz.lays133_ren:={
 mixed:=by kernel_rfl
 f128:=Tryz.func74.trans (congrArg some (by kernel_rfl))
 f133:=Tryz.func212.trans (congrArg some (by kernel_rfl))
 t3:=Tryz.underlying3
 a3:=Tryz.isAgg3
 z3:=Tryz.sizeOf3
 v3:=Tryz.zeroValue3
 t4:=Tryz.underlying4
 a4:=Tryz.isAgg4
 z4:=Tryz.sizeOf4
 v4:=Tryz.zeroValue4
 t5:=Tryz.underlying5
 a5:=Tryz.isAgg5
 z5:=Tryz.sizeOf5
 v5:=Tryz.zeroValue5
 t9:=Tryz.underlying9
 a9:=Tryz.isAgg9
 z9:=Tryz.sizeOf9
 v9:=Tryz.zeroValue9
 t46:=Tryz.underlying80
 a46:=Tryz.isAgg80
 z46:=Tryz.sizeOf80
 v46:=Tryz.zeroValue80
 t51:=Tryz.underlying79
 a51:=Tryz.isAgg79
 z51:=Tryz.sizeOf79
 v51:=Tryz.zeroValue79 }
theorem Tryz.bits_LeadingZeros32 (x:Int) (w:World) (h0:0≤x) (h1:x≤4294967295) :
  Calls Tryz.prog 212 #[.int .u32 x] w fun e w'=>e = .returned (.int .i64 (32 - (Lib.bitLen x.toNat:Int)))∧w'=w:=Any.bits_LeadingZeros32 Tryz.lays133 x w h0 h1
end
section
open Go.RowKit Hb
set_option maxHeartbeats 400000 in
theorem bits_any (neg:Bool) {B:Nat} {A:Option Addr} {l:List Nat} {n c:Nat} {w:World} (hs:SlU w B A n c l) (hn:n≤35184372088832) (hB:B≤w.heap.size) :
  Calls Tryz.prog 20 #[.agg #[.bool neg,.slice A n c]] w fun e w'=>e = .returned (.int .i64 (blen (nv W l)))∧Below w.heap.size w w':=by
 have HI:=Lib.hid (fun w1 (hb:Below w.heap.size w w1)=>size_any (hs.below (C:=w.heap.size) hb hB) hn)
 have HB:=Lib.hid (Below.refl w.heap.size w)
 clear hs hB hn
 go_enter Tryz.func20,Tryz.ntmps20
 go_wp2_with (go_at_call 38;refine (HI.out _ (HB.out.alloc (Nat.le_refl _) _)).mono ?_;rintro e w' ⟨rfl,rfl⟩)
 go_ret
 exact ⟨rfl,HB.out.alloc (Nat.le_refl _) _⟩
def brw (x y c:Nat):Nat:=if x<y+c then 1 else 0
theorem brw_spec (x y c:Nat):(x<y+c∧brw x y c=1)∨(y+c≤x∧brw x y c=0):=by
 unfold brw;split
 ·exact .inl ⟨by assumption,rfl⟩
 ·exact .inr ⟨by omega,rfl⟩
theorem u32_bv (a:Int) (h0:0≤a) (h1:a<4294967296):(BitVec.ofInt 32 a).toNat=a.toNat:=by
 obtain ⟨n,rfl⟩:=Int.eq_ofNat_of_zero_le h0
 rw [BitVec.ofInt_natCast,BitVec.toNat_ofNat]
 simp;omega
theorem bits_u32 (op:BinOp) (a b:Int) (h:op = .and∨op = .or∨op = .xor):0≤bits op .u32 a b∧bits op .u32 a b<4294967296:=by
 rcases h with rfl | rfl | rfl
 all_goals
  show 0≤IntKind.u32.wrap _∧IntKind.u32.wrap _<4294967296
  rw [IntKind.wrap_u32];omega
theorem bv_bits_and (a b:Int):BitVec.ofInt 32 (bits .and .u32 a b)=BitVec.ofInt 32 a &&& BitVec.ofInt 32 b:=by
 apply BitVec.eq_of_toNat_eq
 obtain ⟨h0,h1⟩:=bits_u32 .and a b (by simp)
 rw [u32_bv _ h0 h1]
 have h2:=(BitVec.ofInt 32 a &&& BitVec.ofInt 32 b).isLt
 show (IntKind.u32.wrap ((BitVec.ofInt 32 a &&& BitVec.ofInt 32 b).toNat:Int)).toNat=_
 rw [IntKind.wrap_u32];omega
theorem bv_bits_or (a b:Int):BitVec.ofInt 32 (bits .or .u32 a b)=BitVec.ofInt 32 a ||| BitVec.ofInt 32 b:=by
 apply BitVec.eq_of_toNat_eq
 obtain ⟨h0,h1⟩:=bits_u32 .or a b (by simp)
 rw [u32_bv _ h0 h1]
 have h2:=(BitVec.ofInt 32 a ||| BitVec.ofInt 32 b).isLt
 show (IntKind.u32.wrap ((BitVec.ofInt 32 a ||| BitVec.ofInt 32 b).toNat:Int)).toNat=_
 rw [IntKind.wrap_u32];omega
theorem bv_bits_xor (a b:Int):BitVec.ofInt 32 (bits .xor .u32 a b)=BitVec.ofInt 32 a ^^^ BitVec.ofInt 32 b:=by
 apply BitVec.eq_of_toNat_eq
 obtain ⟨h0,h1⟩:=bits_u32 .xor a b (by simp)
 rw [u32_bv _ h0 h1]
 have h2:=(BitVec.ofInt 32 a ^^^ BitVec.ofInt 32 b).isLt
 show (IntKind.u32.wrap ((BitVec.ofInt 32 a ^^^ BitVec.ofInt 32 b).toNat:Int)).toNat=_
 rw [IntKind.wrap_u32];omega
theorem u32_msb (a:Int) (h0:0≤a) (h1:a<4294967296):(BitVec.ofInt 32 a).msb=decide (2147483648≤a):=by
 rw [BitVec.msb_eq_decide,u32_bv a h0 h1]
 exact decide_eq_decide.2 (by omega)
theorem sub32_carry (x y c:Nat) (hx:x<4294967296) (hy:y<4294967296) (hc:c≤1) :
  bits .or .u32 (bits .and .u32 (bits .xor .u32 IntKind.u32.max x) y) (bits .and .u32 (bits .xor .u32 IntKind.u32.max (bits .xor .u32 x y)) (((x:Int) - y - c) % 4294967296)) / 2147483648=(brw x y c:Int):=by
 obtain ⟨h0,h1⟩:=bits_u32 .or (bits .and .u32 (bits .xor .u32 IntKind.u32.max x) y) (bits .and .u32 (bits .xor .u32 IntKind.u32.max (bits .xor .u32 x y)) (((x:Int) - y - c) % 4294967296)) (by simp)
 have hm:=u32_msb _ h0 h1
 rw [bv_bits_or,bv_bits_and,bv_bits_and,bv_bits_xor,bv_bits_xor,bv_bits_xor,BitVec.msb_or,BitVec.msb_and,BitVec.msb_and,BitVec.msb_xor,BitVec.msb_xor,BitVec.msb_xor,
  u32_msb x (by omega) (by omega),u32_msb y (by omega) (by omega),u32_msb (((x:Int) - y - c) % 4294967296) (by omega) (by omega),show (BitVec.ofInt 32 IntKind.u32.max).msb=true by decide] at hm
 generalize bits .or .u32 (bits .and .u32 (bits .xor .u32 IntKind.u32.max x) y) (bits .and .u32 (bits .xor .u32 IntKind.u32.max (bits .xor .u32 x y)) (((x:Int) - y - c) % 4294967296))=r at *
 rcases brw_spec x y c with ⟨hb,e⟩ | ⟨hb,e⟩
 all_goals
  rw [e]
  by_cases g1:(2147483648:Int)≤x <;> by_cases g2:(2147483648:Int)≤y <;> by_cases g3:(2147483648:Int)≤((x:Int) - y - c) % 4294967296
  all_goals
   simp [g1,g2,g3] at hm
   omega
set_option maxHeartbeats 1000000 in
theorem add32_any (x y c:Nat) (w:World) (hx:x<4294967296) (hy:y<4294967296) (hc:c≤1) :
  Calls Tryz.prog 208 #[.int .u32 (x:Int),.int .u32 (y:Int),.int .u32 (c:Int)] w fun e w'=>e = .returned (.tuple #[.int .u32 ((x+y+c) % 4294967296:Nat),.int .u32 ((x+y+c) / 4294967296:Nat)])∧w=w':=by
 go_enter Tryz.func208,Tryz.ntmps208
 go_wp2
 go_ret2
 exact ⟨ret_tup (int_eq (by omega)) (int_eq (by omega)),rfl⟩
set_option maxHeartbeats 1000000 in
theorem sub32_any (x y c:Nat) (w:World) (hx:x<4294967296) (hy:y<4294967296) (hc:c≤1) :
  Calls Tryz.prog 218 #[.int .u32 (x:Int),.int .u32 (y:Int),.int .u32 (c:Int)] w fun e w'=>e = .returned (.tuple #[.int .u32 ((x+4294967296 - y - c) % 4294967296:Nat),.int .u32 (brw x y c:Nat)])∧w=w':=by
 have HS:=Lib.hid (sub32_carry x y c hx hy hc)
 go_enter Tryz.func218,Tryz.ntmps218
 go_wp2
 go_ret2
 exact ⟨ret_tup (int_eq (by omega)) (int_eq HS.out),rfl⟩
theorem AddRel.step {w wr:World} {l m:List Nat} {n k c:Nat} {x y:Nat} (h:AddRel w l m n k (.int .u32 (c:Int)) wr) (hk:k<n) (hx:l.getD k 0=x) (hy:m.getD k 0=y) (hl:Dig W l) (hm:Dig W m) :
  AddRel w l m n (k+1) (.int .u32 (((x+y+c) / 4294967296:Nat):Int)) (wr.setCell ⟨w.heap.size,k,none⟩ (.int .u32 (((x+y+c) % 4294967296:Nat):Int))):=by
 obtain ⟨o,c',hc,hc1,hlen,hd,hv,ho,hb⟩:=h
 obtain rfl:c=c':=by injection hc with _ hc;omega
 have b1:=hl.getD (by decide) k
 have b2:=hm.getD (by decide) k
 subst hx;subst hy
 refine ⟨o ++ [(l.getD k 0+m.getD k 0+c) % 4294967296],(l.getD k 0+m.getD k 0+c) / 4294967296,rfl,?_,by simp [hlen],hd.append (Dig.cons (Nat.mod_lt _ (by decide)) (Dig.nil _)),?_,?_,hb.setCell (Nat.le_refl _) _⟩
 ·have:l.getD k 0<4294967296:=b1
  have:m.getD k 0<4294967296:=b2
  omega
 ·rw [nv_snoc,nvp_succ,nvp_succ,hlen]
  exact add_step hv
 ·have:=ho.set_ k (.int .u32 (((l.getD k 0+m.getD k 0+c) % 4294967296:Nat):Int))
  rw [u32s_set,set_zeros' hlen (by omega)] at this
  exact this
theorem getD_out {l:List Nat} {k:Nat} (h:l.length≤k):l.getD k 0=0:=by
 rw [List.getD_eq_getElem?_getD,List.getElem?_eq_none h];rfl
set_option maxHeartbeats 1000000 in
theorem add_ge {B B':Nat} {A A':Option Addr} {l m:List Nat} {n c n' c':Nat} {w:World} (hs:SlU w B A n c l) (ht:SlU w B' A' n' c' m) (hn:n≤67108864) (hB:B≤w.heap.size) (hB':B'≤w.heap.size) (hle:n'≤n) :
  Calls Tryz.prog 210 #[.slice A n c,.slice A' n' c'] w (FreshN w (nv W l+nv W m) (n+1)):=by
 have hmk:=fun w=>by
  have h:=makeU (n+1) (by omega) w
  rw [show ((n+1:Nat):Int)=(n:Int)+1 from by omega] at h
  exact h
 have hd:decide (n<n')=false:=decide_eq_false (by omega)
 have hd':decide ((n:Int)<(n':Int))=false:=decide_eq_false (by omega)
 have hst:=Lib.hid (AddRel.start w l m n (by simp [maxLen];omega))
 have hdl:=Lib.hid hs.dig
 have hdm:=Lib.hid ht.dig
 have hl1:=hs.len
 have hl2:=ht.len
 have HE:=Lib.hid (fun (wr:World) (x:Nat) (h:AddRel w l m n n (.int .u32 (x:Int)) wr)=>AddRel.end_ h (Nat.le_of_eq hl1) (by omega))
 have HX:=Lib.hid (fun k (hk:n≤k)=>getD_out (l:=l) (k:=k) (by omega))
 have HY:=Lib.hid (fun k (hk:n'≤k)=>getD_out (l:=m) (k:=k) (by omega))
 have HN:=Lib.hid hn
 have hn9:n≤1000000000:=by omega
 clear hn hl1 hl2
 go_enter Tryz.func210,Tryz.ntmps210
 go_wp2_with fail
 go_loopw [6,22] (fun cv i wr=>∃ k:Nat,k≤n∧i = .int .i64 k∧AddRel w l m n k cv wr) (fun _ i _=>n - (intOf i).toNat)
 case atStart=>exact ⟨0,Nat.zero_le _,rfl,hst.out⟩
 case round=>
  obtain ⟨k,hk,rfl,hrel⟩:=hrel
  obtain ⟨⟨u,hcu⟩,hfz⟩:=hrel.facts hk
  have hrel2:=hrel
  obtain ⟨o,cc,rfl,hcc,_,_,_,_,hbel⟩:=hrel2
  have HR:=Lib.hid hrel
  have HBl:=Lib.hid hbel
  by_cases hkn:k<n
  ·obtain ⟨b,off,hAe,hbb,hcell⟩:=hs.at_ (by omega)
   subst hAe
   have hx:=((hbel.cell (p:=⟨b,off+k,none⟩) (Nat.lt_of_lt_of_le hbb hB)).trans (hcell k hkn))
   have hxb:=hdl.out.getD (by decide) k
   have hyb:=hdm.out.getD (by decide) k
   have hk0:(0:Int)≤(k:Int):=by omega
   have hki:(k:Int)<(n:Int):=by omega
   have hki2:(k:Int)<(n:Int)+1:=by omega
   have HA:=Lib.hid (fun w1=>add32_any (l.getD k 0) (m.getD k 0) cc w1 hxb hyb hcc)
   have HS:=Lib.hid (HR.out.step (x:=l.getD k 0) (y:=m.getD k 0) hkn rfl rfl hdl.out hdm.out)
   clear hrel hbel hcell hst HE
   by_cases hkm:k<n'
   ·obtain ⟨b2,off2,hAe,hbb2,hcell2⟩:=ht.at_ (by omega)
    subst hAe
    have hy:=((HBl.out.cell (p:=⟨b2,off2+k,none⟩) (Nat.lt_of_lt_of_le hbb2 hB')).trans (hcell2 k hkm))
    clear hcell2 HX HY
    generalize l.getD k 0=x at *
    generalize m.getD k 0=y at *
    have hkmi:(k:Int)<(n':Int):=by omega
    go_wp2_with (go_at_call 208;refine (HA.out _).mono ?_;rintro e w' ⟨rfl,rfl⟩)
    go_roundw
    case rel=>exact ⟨k+1,by omega,by go_num,HS.out⟩
    case measure=>simp [intOf];omega
   ·have hY:=HY.out k (by omega)
    rw [hY] at HA HS
    clear HX HY hY hyb
    generalize l.getD k 0=x at *
    have hkmi:¬(k:Int)<(n':Int):=by omega
    go_wp2_with (go_at_call 208;refine (HA.out _).mono ?_;rintro e w' ⟨rfl,rfl⟩)
    go_roundw
    case rel=>exact ⟨k+1,by omega,by go_num,HS.out⟩
    case measure=>simp [intOf];omega
  ·obtain rfl:k=n:=by omega
   have HF:=Lib.hid (HE.out _ _ HR.out)
   have hki2:(k:Int)<(k:Int)+1:=by omega
   have hk0:(0:Int)≤(k:Int):=by omega
   clear hrel hbel hst HE HR
   go_wp2
   go_ret
   exact HF.out
set_option maxHeartbeats 1000000 in
theorem add_lt {B B':Nat} {A A':Option Addr} {l m:List Nat} {n c n' c':Nat} {w:World} (hs:SlU w B A n c l) (ht:SlU w B' A' n' c' m) (hn:n'≤67108864) (hB:B≤w.heap.size) (hB':B'≤w.heap.size) (hle:n<n') :
  Calls Tryz.prog 210 #[.slice A n c,.slice A' n' c'] w (FreshN w (nv W m+nv W l) (n'+1)):=by
 have hmk:=fun w=>by
  have h:=makeU (n'+1) (by omega) w
  rw [show ((n'+1:Nat):Int)=(n':Int)+1 from by omega] at h
  exact h
 have hd:decide (n<n')=true:=decide_eq_true (by omega)
 have hd':decide ((n:Int)<(n':Int))=true:=decide_eq_true (by omega)
 have hst:=Lib.hid (AddRel.start w m l n' (by simp [maxLen];omega))
 have hdl:=Lib.hid ht.dig
 have hdm:=Lib.hid hs.dig
 have hl1:=ht.len
 have hl2:=hs.len
 have HE:=Lib.hid (fun (wr:World) (x:Nat) (h:AddRel w m l n' n' (.int .u32 (x:Int)) wr)=>AddRel.end_ h (Nat.le_of_eq hl1) (by omega))
 have HX:=Lib.hid (fun k (hk:n'≤k)=>getD_out (l:=m) (k:=k) (by omega))
 have HY:=Lib.hid (fun k (hk:n≤k)=>getD_out (l:=l) (k:=k) (by omega))
 have HN:=Lib.hid hn
 have hn9:n'≤1000000000:=by omega
 clear hn hl1 hl2
 go_enter Tryz.func210,Tryz.ntmps210
 go_wp2_with fail
 go_loopw [6,22] (fun cv i wr=>∃ k:Nat,k≤n'∧i = .int .i64 k∧AddRel w m l n' k cv wr) (fun _ i _=>n' - (intOf i).toNat)
 case atStart=>exact ⟨0,Nat.zero_le _,rfl,hst.out⟩
 case round=>
  obtain ⟨k,hk,rfl,hrel⟩:=hrel
  obtain ⟨⟨u,hcu⟩,hfz⟩:=hrel.facts hk
  have hrel2:=hrel
  obtain ⟨o,cc,rfl,hcc,_,_,_,_,hbel⟩:=hrel2
  have HR:=Lib.hid hrel
  have HBl:=Lib.hid hbel
  by_cases hkn:k<n'
  ·obtain ⟨b,off,hAe,hbb,hcell⟩:=ht.at_ (by omega)
   subst hAe
   have hx:=((hbel.cell (p:=⟨b,off+k,none⟩) (Nat.lt_of_lt_of_le hbb hB')).trans (hcell k hkn))
   have hxb:=hdl.out.getD (by decide) k
   have hyb:=hdm.out.getD (by decide) k
   have hk0:(0:Int)≤(k:Int):=by omega
   have hki:(k:Int)<(n':Int):=by omega
   have hki2:(k:Int)<(n':Int)+1:=by omega
   have HA:=Lib.hid (fun w1=>add32_any (m.getD k 0) (l.getD k 0) cc w1 hxb hyb hcc)
   have HS:=Lib.hid (HR.out.step (x:=m.getD k 0) (y:=l.getD k 0) hkn rfl rfl hdl.out hdm.out)
   clear hrel hbel hcell hst HE
   by_cases hkm:k<n
   ·obtain ⟨b2,off2,hAe,hbb2,hcell2⟩:=hs.at_ (by omega)
    subst hAe
    have hy:=((HBl.out.cell (p:=⟨b2,off2+k,none⟩) (Nat.lt_of_lt_of_le hbb2 hB)).trans (hcell2 k hkm))
    clear hcell2 HX HY
    generalize m.getD k 0=x at *
    generalize l.getD k 0=y at *
    have hkmi:(k:Int)<(n:Int):=by omega
    go_wp2_with (go_at_call 208;refine (HA.out _).mono ?_;rintro e w' ⟨rfl,rfl⟩)
    go_roundw
    case rel=>exact ⟨k+1,by omega,by go_num,HS.out⟩
    case measure=>simp [intOf];omega
   ·have hY:=HY.out k (by omega)
    rw [hY] at HA HS
    clear HX HY hY hyb
    generalize m.getD k 0=x at *
    have hkmi:¬(k:Int)<(n:Int):=by omega
    go_wp2_with (go_at_call 208;refine (HA.out _).mono ?_;rintro e w' ⟨rfl,rfl⟩)
    go_roundw
    case rel=>exact ⟨k+1,by omega,by go_num,HS.out⟩
    case measure=>simp [intOf];omega
  ·obtain rfl:k=n':=by omega
   have HF:=Lib.hid (HE.out _ _ HR.out)
   have hki2:(k:Int)<(k:Int)+1:=by omega
   have hk0:(0:Int)≤(k:Int):=by omega
   clear hrel hbel hst HE HR
   go_wp2
   go_ret
   exact HF.out
theorem add_any {B B':Nat} {A A':Option Addr} {l m:List Nat} {n c n' c':Nat} {w:World} (hs:SlU w B A n c l) (ht:SlU w B' A' n' c' m) (hn:n≤67108864) (hn':n'≤67108864) (hB:B≤w.heap.size) (hB':B'≤w.heap.size) :
  Calls Tryz.prog 210 #[.slice A n c,.slice A' n' c'] w (FreshN w (nv W l+nv W m) (max n n'+1)):=by
 rcases Nat.lt_or_ge n n' with h | h
 ·rw [Nat.add_comm,Nat.max_eq_right (by omega)];exact add_lt hs ht hn' hB hB' h
 ·rw [Nat.max_eq_left h];exact add_ge hs ht hn hB hB' h
theorem SubRel.step {w wr:World} {l m:List Nat} {n k c:Nat} {x y:Nat} (h:SubRel w l m n k (.int .u32 (c:Int)) wr) (hk:k<n) (hx:l.getD k 0=x) (hy:m.getD k 0=y) (hl:Dig W l) (hm:Dig W m) :
  SubRel w l m n (k+1) (.int .u32 ((brw x y c:Nat):Int)) (wr.setCell ⟨w.heap.size,k,none⟩ (.int .u32 (((x+4294967296 - y - c) % 4294967296:Nat):Int))):=by
 obtain ⟨o,c',hc,hc1,hlen,hd,hv,ho,hb⟩:=h
 obtain rfl:c=c':=by injection hc with _ hc;omega
 have b1:l.getD k 0<4294967296:=hl.getD (by decide) k
 have b2:m.getD k 0<4294967296:=hm.getD (by decide) k
 subst hx;subst hy
 have hs:=brw_spec (l.getD k 0) (m.getD k 0) c
 refine ⟨o ++ [(l.getD k 0+4294967296 - m.getD k 0 - c) % 4294967296],brw (l.getD k 0) (m.getD k 0) c,rfl,by omega,by simp [hlen],hd.append (Dig.cons (Nat.mod_lt _ (by decide)) (Dig.nil _)),?_,?_,hb.setCell (Nat.le_refl _) _⟩
 ·rw [nv_snoc,nvp_succ,nvp_succ,hlen]
  refine sub_step hv ?_
  show (l.getD k 0+4294967296 - m.getD k 0 - c) % 4294967296+m.getD k 0+c=l.getD k 0+4294967296 * brw (l.getD k 0) (m.getD k 0) c
  omega
 ·have:=ho.set_ k (.int .u32 (((l.getD k 0+4294967296 - m.getD k 0 - c) % 4294967296:Nat):Int))
  rw [u32s_set,set_zeros' hlen (by omega)] at this
  exact this
set_option maxHeartbeats 1000000 in
theorem sub_any {B B':Nat} {A A':Option Addr} {l m:List Nat} {n c n' c':Nat} {w:World} (hs:SlU w B A n c l) (ht:SlU w B' A' n' c' m) (hn:n≤67108864) (hB:B≤w.heap.size) (hB':B'≤w.heap.size) (hle:n'≤n) (hv:nv W m≤nv W l) :
  Calls Tryz.prog 211 #[.slice A n c,.slice A' n' c'] w (FreshN w (nv W l - nv W m) n):=by
 have hmk:=makeU n (by omega)
 have hst:=Lib.hid (SubRel.start w l m n (by simp [maxLen];omega))
 have hdl:=Lib.hid hs.dig
 have hdm:=Lib.hid ht.dig
 have hl1:=hs.len
 have hl2:=ht.len
 have HE:=Lib.hid (fun (wr:World) (cv:Value) (h:SubRel w l m n n cv wr)=>SubRel.end_ h (Nat.le_of_eq hl1) (by omega) hv)
 have HY:=Lib.hid (fun k (hk:n'≤k)=>getD_out (l:=m) (k:=k) (by omega))
 have hn9:n≤1000000000:=by omega
 clear hn hl1 hl2 hv
 go_enter Tryz.func211,Tryz.ntmps211
 go_wp2_with fail
 go_loopw [6,14] (fun cv i wr=>∃ k:Nat,k≤n∧i = .int .i64 k∧SubRel w l m n k cv wr) (fun _ i _=>n - (intOf i).toNat)
 case atStart=>exact ⟨0,Nat.zero_le _,rfl,hst.out⟩
 case round=>
  obtain ⟨k,hk,rfl,hrel⟩:=hrel
  have HR:=Lib.hid hrel
  by_cases hkn:k<n
  ·obtain ⟨⟨u,hcu⟩,hfz⟩:=hrel.facts hkn
   obtain ⟨o,cc,rfl,hcc,_,_,_,_,hbel⟩:=hrel
   have HBl:=Lib.hid hbel
   obtain ⟨b,off,hAe,hbb,hcell⟩:=hs.at_ (by omega)
   subst hAe
   have hx:=((hbel.cell (p:=⟨b,off+k,none⟩) (Nat.lt_of_lt_of_le hbb hB)).trans (hcell k hkn))
   have hxb:=hdl.out.getD (by decide) k
   have hyb:=hdm.out.getD (by decide) k
   have hk0:(0:Int)≤(k:Int):=by omega
   have hki:(k:Int)<(n:Int):=by omega
   have HA:=Lib.hid (fun w1=>sub32_any (l.getD k 0) (m.getD k 0) cc w1 hxb hyb hcc)
   have HS:=Lib.hid (HR.out.step (x:=l.getD k 0) (y:=m.getD k 0) hkn rfl rfl hdl.out hdm.out)
   clear hbel hcell hst HE
   by_cases hkm:k<n'
   ·obtain ⟨b2,off2,hAe,hbb2,hcell2⟩:=ht.at_ (by omega)
    subst hAe
    have hy:=((HBl.out.cell (p:=⟨b2,off2+k,none⟩) (Nat.lt_of_lt_of_le hbb2 hB')).trans (hcell2 k hkm))
    clear hcell2 HY
    generalize l.getD k 0=x at *
    generalize m.getD k 0=y at *
    have hkmi:(k:Int)<(n':Int):=by omega
    go_wp2_with (go_at_call 218;refine (HA.out _).mono ?_;rintro e w' ⟨rfl,rfl⟩)
    go_roundw
    case rel=>exact ⟨k+1,by omega,by go_num,HS.out⟩
    case measure=>simp [intOf];omega
   ·have hY:=HY.out k (by omega)
    rw [hY] at HA HS
    clear HY hY hyb
    generalize l.getD k 0=x at *
    have hkmi:¬(k:Int)<(n':Int):=by omega
    go_wp2_with (go_at_call 218;refine (HA.out _).mono ?_;rintro e w' ⟨rfl,rfl⟩)
    go_roundw
    case rel=>exact ⟨k+1,by omega,by go_num,HS.out⟩
    case measure=>simp [intOf];omega
  ·obtain rfl:k=n:=by omega
   have HF:=Lib.hid (HE.out _ _ HR.out)
   clear hrel hst HE HR
   go_wp2
   go_ret
   exact HF.out
theorem far2 {w2:World} {g:Nat} {q:Addr} {u u' v:Value} (h:w2.cell? q=some v) (hne:q.block≠g):((w2.setCell ⟨g,0,none⟩ u).setCell ⟨g,1,none⟩ u').cell? q=some v:=by
 rw [World.cell?_setCell_other _ _ _ _ (fun e=>hne (by rw [←e])),World.cell?_setCell_other _ _ _ _ (fun e=>hne (by rw [←e])),h]
def CmpV (v:Int) (w:World) (e:Ending) (w':World):Prop:=e = .returned (.int .i64 v)∧Dr w w'
theorem cmp_v {B B':Nat} {A A':Option Addr} {l m:List Nat} {n c n' c':Nat} {w:World} (hs:SlU w B A n c l) (ht:SlU w B' A' n' c' m) {v:Int} (hv:cmpN (nv W l) (nv W m)=v) :
  Calls Tryz.prog 40 #[.slice A n c,.slice A' n' c'] w (CmpV v w):=by
 subst hv;exact cmp_any hs ht
theorem sum_same (na:Bool) {l m out:List Nat} (h:nv W out=nv W (tr l)+nv W (tr m)):ival na out=ival na l+ival na m:=by
 rw [nv_tr,nv_tr] at h
 cases na <;> simp [ival,h] <;> omega
theorem sum_lt {na nb:Bool} (hab:na≠nb) {l m out:List Nat} (h:nv W out=nv W (tr m) - nv W (tr l)) (hle:nv W l<nv W m):ival nb out=ival na l+ival nb m:=by
 rw [nv_tr,nv_tr] at h
 cases na <;> cases nb <;> simp [ival,h] at hab ⊢ <;> omega
theorem sum_ge {na nb:Bool} (hab:na≠nb) {l m out:List Nat} (h:nv W out=nv W (tr l) - nv W (tr m)) (hle:nv W m≤nv W l):ival na out=ival na l+ival nb m:=by
 rw [nv_tr,nv_tr] at h
 cases na <;> cases nb <;> simp [ival,h] at hab ⊢ <;> omega
attribute [local go_sem ↓] Go.wp_at_zero Go.wp_at_succ
set_option maxHeartbeats 1000000 in
theorem sum_eqsign (na:Bool) {B B':Nat} {A A':Option Addr} {l m:List Nat} {n c n' c':Nat} {w:World} (hs:SlU w B A n c l) (ht:SlU w B' A' n' c' m) (hn:n≤67108864) (hn':n'≤67108864) (hB:B≤w.heap.size) (hB':B'≤w.heap.size) :
  Calls Tryz.prog 176 #[.agg #[.bool na,.slice A n c],.agg #[.bool na,.slice A' n' c']] w (PostI w (ival na l+ival na m)):=by
 have hl1:=tlen_le l
 have hl2:=tlen_le m
 have hl3:=hs.len
 have hl4:=ht.len
 have H1:=Lib.hid (fun w1 (hb:Below w.heap.size w w1)=>trim_any (hs.below (C:=w.heap.size) hb hB))
 have H2:=Lib.hid (fun w1 (hb:Below w.heap.size w w1)=>trim_any (ht.below (C:=w.heap.size) hb hB'))
 have HA:=Lib.hid (fun w1 (hb:Below w.heap.size w w1)=>add_any (hs.tr.below (C:=w.heap.size) hb hB) (ht.tr.below (C:=w.heap.size) hb hB') (by omega) (by omega) (Nat.le_trans hB hb.size) (Nat.le_trans hB' hb.size))
 have HW:=Lib.hid ((((Below.refl w.heap.size w).alloc (Nat.le_refl _) (.cells #[.bool na,.slice A n c] 39)).alloc (by simp) (.cells #[.bool na,.slice A' n' c'] 39)).alloc (by simp;omega) (.cells #[.bool false,.slice none 0 0] 39))
 have HK:=Lib.hid (fun C W w2 (hd:Dr (((w.alloc (.cells #[.bool na,.slice A n c] 39)).alloc (.cells #[.bool na,.slice A' n' c'] 39)).alloc (.cells #[.bool false,.slice none 0 0] 39)) W) (hb:Below C W w2) hC=>three_boxes hd hb hC)
 have HD:=Lib.hid (Dr.refl (((w.alloc (.cells #[.bool na,.slice A n c] 39)).alloc (.cells #[.bool na,.slice A' n' c'] 39)).alloc (.cells #[.bool false,.slice none 0 0] 39)))
 clear hs ht hn hn' hB hB' hl1 hl2 hl3 hl4
 go_enter Tryz.func176,Tryz.ntmps176
 go_wp2_with fail
 go_quiet ((go_at_call 41;first | (with_reducible exact quiet_left (H1.out _ (belowN HW.out _))) | (with_reducible exact quiet_left (H2.out _ (belowN HW.out _)))))
 go_wp2_with fail
 go_region_held3 (fun w'=>w'.cell? ⟨w.heap.size,0,none⟩=some (.bool na))
  (first | go_keep | exact far2 (by assumption) (by first | omega | (simp;omega) | simp) | exact (HK.out _ _ _ ((HD.out.more _).drew) (hb1.trans (hb2.mono hb1.size)) (by simp)).1.1 | exact (HK.out _ _ _ ((HD.out.more _).drew) hb1 (by simp)).1.1)
  (first
   | (go_at_call 210;(with_reducible refine (HA.out _ ?_).mono ?_);exact (belowN HW.out _).drew;rintro e w1 ⟨out,A1,n1,c1,rfl,ho1,hl1,hd1,hv1,_,hb1⟩)
   | (go_at_call 39;(with_reducible refine (laid_own na ho1 hl1 hd1 (sum_same na hv1)).mono ?_);rintro e w2 ⟨v,rfl,⟨A2,c2,rfl,ho2⟩,hb2⟩;obtain ⟨r0,r1,r2,r3⟩:=(HK.out _ _ _ ((HD.out.more _).drew) (hb1.trans (hb2.mono hb1.size)) (by simp)).2.2))
 go_wp2
 have hr:=ResI.stored (w:=w) (g:=w.heap.size+1+1) (u:=.bool (decide (ival na l+ival na m<0))) (u':=.slice A2 (digs W (ival na l+ival na m).natAbs).length c2) ⟨A2,c2,rfl,ho2⟩
  ((belowN HW.out _).drew.trans ((hb1.trans (hb2.mono hb1.size)).mono (B':=w.heap.size) (by simp;omega))) (by simp) (by omega)
 exact bodyPost_ret (v:=.agg #[.bool (decide (ival na l+ival na m<0)),.slice A2 (digs W (ival na l+ival na m).natAbs).length c2]) (by simp [results,Tryz.results176,go_sem,r0,r1]) rfl ⟨_,rfl,hr.1,hr.2⟩
set_option maxHeartbeats 1000000 in
theorem sum_ltsign (na nb:Bool) (hab:na≠nb) {B B':Nat} {A A':Option Addr} {l m:List Nat} {n c n' c':Nat} {w:World} (hs:SlU w B A n c l) (ht:SlU w B' A' n' c' m) (_hn:n≤67108864) (hn':n'≤67108864) (hB:B≤w.heap.size) (hB':B'≤w.heap.size) (hv:nv W l<nv W m) :
  Calls Tryz.prog 176 #[.agg #[.bool na,.slice A n c],.agg #[.bool nb,.slice A' n' c']] w (PostI w (ival na l+ival nb m)):=by
 have hl1:=tlen_le l
 have hl2:=tlen_le m
 have hl3:=hs.len
 have hl4:=ht.len
 have hcmp:tlen l≤tlen m:=by
  rcases Nat.lt_or_ge (tlen m) (tlen l) with h | h
  ·have:=nv_lt_of_len (b:=W) (by decide) ht.dig.tr (tr_nrm l) (by rw [tr_length,tr_length];exact h)
   rw [nv_tr,nv_tr] at this
   omega
  ·exact h
 have H1:=Lib.hid (fun w1 (hb:Below w.heap.size w w1)=>trim_any (hs.below (C:=w.heap.size) hb hB))
 have H2:=Lib.hid (fun w1 (hb:Below w.heap.size w w1)=>trim_any (ht.below (C:=w.heap.size) hb hB'))
 have HC:=Lib.hid (fun w1 (hb:Below w.heap.size w w1)=>cmp_v (hs.tr.below (C:=w.heap.size) hb hB) (ht.tr.below (C:=w.heap.size) hb hB') (v:=cmpN (nv W l) (nv W m)) (by rw [nv_tr,nv_tr]))
 have HA:=Lib.hid (fun w1 (hb:Below w.heap.size w w1)=>sub_any (ht.tr.below (C:=w.heap.size) hb hB') (hs.tr.below (C:=w.heap.size) hb hB) (by omega) (Nat.le_trans hB' hb.size) (Nat.le_trans hB hb.size) hcmp (by rw [nv_tr,nv_tr];omega))
 have HW:=Lib.hid ((((Below.refl w.heap.size w).alloc (Nat.le_refl _) (.cells #[.bool na,.slice A n c] 39)).alloc (by simp) (.cells #[.bool nb,.slice A' n' c'] 39)).alloc (by simp;omega) (.cells #[.bool false,.slice none 0 0] 39))
 have HK:=Lib.hid (fun C W w2 (hd:Dr (((w.alloc (.cells #[.bool na,.slice A n c] 39)).alloc (.cells #[.bool nb,.slice A' n' c'] 39)).alloc (.cells #[.bool false,.slice none 0 0] 39)) W) (hb:Below C W w2) hC=>three_boxes hd hb hC)
 have HD:=Lib.hid (Dr.refl (((w.alloc (.cells #[.bool na,.slice A n c] 39)).alloc (.cells #[.bool nb,.slice A' n' c'] 39)).alloc (.cells #[.bool false,.slice none 0 0] 39)))
 have hne:(na==nb)=false:=beq_eq_false_iff_ne.2 hab
 have hk:decide (cmpN (nv W l) (nv W m)<0)=true:=decide_eq_true (by rw [cmpN_lt hv];decide)
 generalize cmpN (nv W l) (nv W m)=cv at *
 have HV:=Lib.hid (fun out (hv1:nv W out=nv W (tr m) - nv W (tr l))=>sum_lt hab hv1 hv)
 generalize hz:ival na l+ival nb m=Z at *
 clear hs ht _hn hn' hB hB' hl1 hl2 hl3 hl4 hv hcmp hab hz
 go_enter Tryz.func176,Tryz.ntmps176
 go_wp2_with fail
 go_quiet ((go_at_call 41;first | (with_reducible exact quiet_left (H1.out _ (belowN HW.out _))) | (with_reducible exact quiet_left (H2.out _ (belowN HW.out _)))))
 have HC2:=Lib.hid (HC.out _ (belowN HW.out nq))
 have S0:=(HK.out _ _ _ (HD.out.more nq) (Below.refl (w.heap.size+3) _) (Nat.le_refl _))
 have HS:=Lib.hid S0
 have e1:=S0.1.1
 have e2:=S0.2.1.1
 clear S0
 go_wp2_with fail
 refine (HC2.out).mono ?_
 rintro ex w3 ⟨rfl,hdr⟩
 have HD3:=Lib.hid ((HD.out.more nq).trans hdr)
 have HB3:=Lib.hid ((belowN HW.out nq).trans (hdr.below _))
 have hsz:w3.heap.size=w.heap.size+1+1+1:=by rw [HD3.out.heap];simp
 have e1:=(hdr.cell _).trans e1
 have e2:=(hdr.cell _).trans e2
 clear hdr HC2 HS
 go_wp2_with fail
 have HZ:=Lib.hid hsz
 clear hsz
 go_region_held3 (fun w'=>w'.cell? ⟨w.heap.size+1,0,none⟩=some (.bool nb))
  (first | go_keep | exact far2 (by assumption) (by first | omega | (simp;omega) | simp) | exact (HK.out _ _ _ (HD3.out.drew) (hb1.trans (hb2.mono hb1.size)) (by have:=HZ.out;simp;omega)).2.1.1 | exact (HK.out _ _ _ (HD3.out.drew) hb1 (by have:=HZ.out;simp;omega)).2.1.1)
  (first
   | (go_at_call 211;(with_reducible refine (HA.out _ ?_).mono ?_);exact HB3.out.drew;rintro e w1 ⟨out,A1,n1,c1,rfl,ho1,hl1,hd1,hv1,_,hb1⟩)
   | (go_at_call 39;(with_reducible refine (laid_own nb ho1 hl1 hd1 (HV.out _ hv1)).mono ?_);rintro e w2 ⟨v,rfl,⟨A2,c2,rfl,ho2⟩,hb2⟩;obtain ⟨r0,r1,r2,r3⟩:=(HK.out _ _ _ (HD3.out.drew) (hb1.trans (hb2.mono hb1.size)) (by have:=HZ.out;simp;omega)).2.2))
 go_wp2
 have hr:=ResI.stored (w:=w) (g:=w.heap.size+1+1) (u:=.bool (decide (Z<0))) (u':=.slice A2 (digs W (Z).natAbs).length c2) ⟨A2,c2,rfl,ho2⟩
  (HB3.out.drew.trans ((hb1.trans (hb2.mono hb1.size)).mono (B':=w.heap.size) (by have:=HZ.out;simp;omega))) (by have:=HZ.out;simp;omega) (by omega)
 exact bodyPost_ret (v:=.agg #[.bool (decide (Z<0)),.slice A2 (digs W (Z).natAbs).length c2]) (by simp [results,Tryz.results176,go_sem,r0,r1]) rfl ⟨_,rfl,hr.1,hr.2⟩
set_option maxHeartbeats 1000000 in
theorem sum_gesign (na nb:Bool) (hab:na≠nb) {B B':Nat} {A A':Option Addr} {l m:List Nat} {n c n' c':Nat} {w:World} (hs:SlU w B A n c l) (ht:SlU w B' A' n' c' m) (hn:n≤67108864) (_hn':n'≤67108864) (hB:B≤w.heap.size) (hB':B'≤w.heap.size) (hv:nv W m≤nv W l) :
  Calls Tryz.prog 176 #[.agg #[.bool na,.slice A n c],.agg #[.bool nb,.slice A' n' c']] w (PostI w (ival na l+ival nb m)):=by
 have hl1:=tlen_le l
 have hl2:=tlen_le m
 have hl3:=hs.len
 have hl4:=ht.len
 have hcmp:tlen m≤tlen l:=by
  rcases Nat.lt_or_ge (tlen l) (tlen m) with h | h
  ·have:=nv_lt_of_len (b:=W) (by decide) hs.dig.tr (tr_nrm m) (by rw [tr_length,tr_length];exact h)
   rw [nv_tr,nv_tr] at this
   omega
  ·exact h
 have H1:=Lib.hid (fun w1 (hb:Below w.heap.size w w1)=>trim_any (hs.below (C:=w.heap.size) hb hB))
 have H2:=Lib.hid (fun w1 (hb:Below w.heap.size w w1)=>trim_any (ht.below (C:=w.heap.size) hb hB'))
 have HC:=Lib.hid (fun w1 (hb:Below w.heap.size w w1)=>cmp_v (hs.tr.below (C:=w.heap.size) hb hB) (ht.tr.below (C:=w.heap.size) hb hB') (v:=cmpN (nv W l) (nv W m)) (by rw [nv_tr,nv_tr]))
 have HA:=Lib.hid (fun w1 (hb:Below w.heap.size w w1)=>sub_any (hs.tr.below (C:=w.heap.size) hb hB) (ht.tr.below (C:=w.heap.size) hb hB') (by omega) (Nat.le_trans hB hb.size) (Nat.le_trans hB' hb.size) hcmp (by rw [nv_tr,nv_tr];omega))
 have HW:=Lib.hid ((((Below.refl w.heap.size w).alloc (Nat.le_refl _) (.cells #[.bool na,.slice A n c] 39)).alloc (by simp) (.cells #[.bool nb,.slice A' n' c'] 39)).alloc (by simp;omega) (.cells #[.bool false,.slice none 0 0] 39))
 have HK:=Lib.hid (fun C W w2 (hd:Dr (((w.alloc (.cells #[.bool na,.slice A n c] 39)).alloc (.cells #[.bool nb,.slice A' n' c'] 39)).alloc (.cells #[.bool false,.slice none 0 0] 39)) W) (hb:Below C W w2) hC=>three_boxes hd hb hC)
 have HD:=Lib.hid (Dr.refl (((w.alloc (.cells #[.bool na,.slice A n c] 39)).alloc (.cells #[.bool nb,.slice A' n' c'] 39)).alloc (.cells #[.bool false,.slice none 0 0] 39)))
 have hne:(na==nb)=false:=beq_eq_false_iff_ne.2 hab
 have hk:decide (cmpN (nv W l) (nv W m)<0)=false:=decide_eq_false (by unfold cmpN;split <;> (try split) <;> omega)
 generalize cmpN (nv W l) (nv W m)=cv at *
 have HV:=Lib.hid (fun out (hv1:nv W out=nv W (tr l) - nv W (tr m))=>sum_ge hab hv1 hv)
 generalize hz:ival na l+ival nb m=Z at *
 clear hs ht hn _hn' hB hB' hl1 hl2 hl3 hl4 hv hcmp hab hz
 go_enter Tryz.func176,Tryz.ntmps176
 go_wp2_with fail
 go_quiet ((go_at_call 41;first | (with_reducible exact quiet_left (H1.out _ (belowN HW.out _))) | (with_reducible exact quiet_left (H2.out _ (belowN HW.out _)))))
 have HC2:=Lib.hid (HC.out _ (belowN HW.out nq))
 have S0:=(HK.out _ _ _ (HD.out.more nq) (Below.refl (w.heap.size+3) _) (Nat.le_refl _))
 have HS:=Lib.hid S0
 have e1:=S0.1.1
 have e2:=S0.2.1.1
 clear S0
 go_wp2_with fail
 refine (HC2.out).mono ?_
 rintro ex w3 ⟨rfl,hdr⟩
 have HD3:=Lib.hid ((HD.out.more nq).trans hdr)
 have HB3:=Lib.hid ((belowN HW.out nq).trans (hdr.below _))
 have hsz:w3.heap.size=w.heap.size+1+1+1:=by rw [HD3.out.heap];simp
 have e1:=(hdr.cell _).trans e1
 have e2:=(hdr.cell _).trans e2
 clear hdr HC2 HS
 go_wp2_with fail
 have HZ:=Lib.hid hsz
 clear hsz
 go_region_held3 (fun w'=>w'.cell? ⟨w.heap.size,0,none⟩=some (.bool na))
  (first | go_keep | exact far2 (by assumption) (by first | omega | (simp;omega) | simp) | exact (HK.out _ _ _ (HD3.out.drew) (hb1.trans (hb2.mono hb1.size)) (by have:=HZ.out;simp;omega)).1.1 | exact (HK.out _ _ _ (HD3.out.drew) hb1 (by have:=HZ.out;simp;omega)).1.1)
  (first
   | (go_at_call 211;(with_reducible refine (HA.out _ ?_).mono ?_);exact HB3.out.drew;rintro e w1 ⟨out,A1,n1,c1,rfl,ho1,hl1,hd1,hv1,_,hb1⟩)
   | (go_at_call 39;(with_reducible refine (laid_own na ho1 hl1 hd1 (HV.out _ hv1)).mono ?_);rintro e w2 ⟨v,rfl,⟨A2,c2,rfl,ho2⟩,hb2⟩;obtain ⟨r0,r1,r2,r3⟩:=(HK.out _ _ _ (HD3.out.drew) (hb1.trans (hb2.mono hb1.size)) (by have:=HZ.out;simp;omega)).2.2))
 go_wp2
 have hr:=ResI.stored (w:=w) (g:=w.heap.size+1+1) (u:=.bool (decide (Z<0))) (u':=.slice A2 (digs W (Z).natAbs).length c2) ⟨A2,c2,rfl,ho2⟩
  (HB3.out.drew.trans ((hb1.trans (hb2.mono hb1.size)).mono (B':=w.heap.size) (by have:=HZ.out;simp;omega))) (by have:=HZ.out;simp;omega) (by omega)
 exact bodyPost_ret (v:=.agg #[.bool (decide (Z<0)),.slice A2 (digs W (Z).natAbs).length c2]) (by simp [results,Tryz.results176,go_sem,r0,r1]) rfl ⟨_,rfl,hr.1,hr.2⟩
theorem sum_any (na nb:Bool) {B B':Nat} {A A':Option Addr} {l m:List Nat} {n c n' c':Nat} {w:World} (hs:SlU w B A n c l) (ht:SlU w B' A' n' c' m) (hn:n≤67108864) (hn':n'≤67108864) (hB:B≤w.heap.size) (hB':B'≤w.heap.size) :
  Calls Tryz.prog 176 #[.agg #[.bool na,.slice A n c],.agg #[.bool nb,.slice A' n' c']] w (PostI w (ival na l+ival nb m)):=by
 by_cases h:na=nb
 ·subst h;exact sum_eqsign na hs ht hn hn' hB hB'
 ·rcases Nat.lt_or_ge (nv W l) (nv W m) with h2 | h2
  ·exact sum_ltsign na nb h hs ht hn hn' hB hB' h2
  ·exact sum_gesign na nb h hs ht hn hn' hB hB' h2
end
section
open Go.RowKit Hb
theorem digs_add_len {x y:Int} {k:Nat} (hx:x.natAbs<W ^ k) (hy:y.natAbs<W ^ k):(digs W (x+y).natAbs).length≤k+1:=by
 refine digs_length_le (by decide) ?_
 rw [Nat.pow_succ]
 have:(x+y).natAbs≤x.natAbs+y.natAbs:=Int.natAbs_add_le x y
 have h2:W ^ k * 2≤W ^ k * W:=Nat.mul_le_mul_left _ (by decide)
 omega
theorem ival_lt {neg:Bool} {l:List Nat} (hd:Dig W l) {k:Nat} (h:l.length≤k):(ival neg l).natAbs<W ^ k:=by
 rw [ival_natAbs]
 exact Nat.lt_of_lt_of_le (nv_lt hd) (Nat.pow_le_pow_right (by decide) h)
set_option maxHeartbeats 1000000 in
theorem Add_any (na nb:Bool) {B B':Nat} {A A':Option Addr} {l m:List Nat} {n c n' c':Nat} {w:World} (hs:SlU w B A n c l) (ht:SlU w B' A' n' c' m) (hn:n≤67108863) (hn':n'≤67108863) (hB:B≤w.heap.size) (hB':B'≤w.heap.size) :
  Calls Tryz.prog 108 #[.agg #[.bool na,.slice A n c],.agg #[.bool nb,.slice A' n' c']] w (PostC w (ival na l+ival nb m) (err (lng l || lng m || tooLong (ival na l+ival nb m)))):=by
 have hl1:=hs.len
 have hl2:=ht.len
 have HL:=Lib.hid (W2_long (na:=na) (nb:=nb) hs ht (by omega) (by omega) hB hB')
 have HW:=Lib.hid (W2_below w na nb A A' n c n' c')
 have HK:=Lib.hid (fun C w2 (hb:Below C (W2 w na nb A A' n c n' c') w2) hC=>W2_cells hb hC)
 have HS:=Lib.hid (fun w1 (hb:Below w.heap.size w w1)=>sum_any na nb (hs.below (C:=w.heap.size) hb hB) (ht.below (C:=w.heap.size) hb hB') (by omega) (by omega) (Nat.le_trans hB hb.size) (Nat.le_trans hB' hb.size))
 have HN:=Lib.hid (show (digs W (ival na l+ival nb m).natAbs).length≤67108864 from Nat.le_trans (digs_add_len (k:=max n n') (ival_lt (neg:=na) hs.dig (by omega)) (ival_lt (neg:=nb) ht.dig (by omega))) (by omega))
 clear hs ht hn hn' hB hB' hl1 hl2
 generalize ival na l+ival nb m=Z at *
 cases hb:(lng l || lng m)
 all_goals
  rw [hb] at HL
  clear hb
  go_enter Tryz.func108,Tryz.ntmps108
  go_wp2_with fail
  refine HL.out.mono ?_
  rintro ex w3 ⟨rfl,hb3⟩
  obtain ⟨⟨q0,q1⟩,⟨q2,q3⟩,r0,r1,r2,r3⟩:=HK.out _ _ hb3 (by simp)
  have HB3:=Lib.hid (HW.out.trans (hb3.mono (B':=w.heap.size) (by simp;omega)))
  have hz3:=hb3.size
  simp at hz3
  clear hb3
  go_wp2_with fail
 ·refine (HS.out _ HB3.out).mono ?_
  rintro ex w4 ⟨v,rfl,⟨A2,c2,rfl,ho2⟩,hb4⟩
  have HO:=Lib.hid ho2
  have HB4:=Lib.hid hb4
  have hz4:=hb4.size
  clear ho2 hb4
  go_wp2_with fail
  refine (kept_res HO.out HN.out).mono ?_
  rintro ex w5 ⟨rfl,hb5⟩
  have HB45:=Lib.hid (HB4.out.trans (hb5.mono hz4))
  have HB35:=Lib.hid (HB3.out.trans (HB45.out.mono (B':=w.heap.size) (by omega)))
  have HO5:=Lib.hid (HO.out.below (C:=w4.heap.size) hb5 (Nat.le_refl _))
  have r0:=(HB45.out.cell (p:=⟨w.heap.size+1+1,0,none⟩) (by simp;omega)).trans r0
  have r1:=(HB45.out.cell (p:=⟨w.heap.size+1+1,1,none⟩) (by simp;omega)).trans r1
  have r2:=(HB45.out.frozen (p:=⟨w.heap.size+1+1,0,none⟩) (by simp;omega)).trans r2
  have r3:=(HB45.out.frozen (p:=⟨w.heap.size+1+1,1,none⟩) (by simp;omega)).trans r3
  clear hb5
  cases hT:tooLong Z
  ·simp only [Bool.false_eq_true,↓reduceIte,err]
   go_wp2
   have hr:=ResI.stored (w:=w) (g:=w.heap.size+1+1) (u:=.bool (decide (Z<0))) (u':=.slice A2 (digs W Z.natAbs).length c2) ⟨A2,c2,rfl,HO5.out⟩ HB35.out (by omega) (by omega)
   exact bodyPost_ret (v:=.tuple #[.agg #[.bool (decide (Z<0)),.slice A2 (digs W Z.natAbs).length c2],.int .i64 0]) (by simp [results,Tryz.results108,go_sem,r0,r1]) rfl
    (PostC.ok (by simp [err,hT]) hr.1 hr.2)
  ·simp only [↓reduceIte,err]
   go_wp2
   exact bodyPost_ret (v:=.tuple #[zeroV,.int .i64 10]) (by simp [results,Tryz.results108,go_sem,r0,r1]) rfl
    (PostC.bad (by simp [err,hT]) (by decide) ((HB35.out.setCell (by simp;omega) _).setCell (by simp;omega) _))
 ·exact bodyPost_ret (v:=.tuple #[zeroV,.int .i64 10]) (by simp [results,Tryz.results108,go_sem,r0,r1]) rfl
   (PostC.bad (by simp [err]) (by decide) ((HB3.out.setCell (by simp;omega) _).setCell (by simp;omega) _))
theorem ival_digs (z:Int):ival (decide (z<0)) (digs W z.natAbs)=z:=by
 unfold ival
 rw [nv_digs (by decide)]
 by_cases h:z<0
 ·rw [if_pos (by simpa using h)];omega
 ·rw [if_neg (by simpa using h)];omega
theorem ival_not (neg:Bool) (l:List Nat):ival (!neg) l = - ival neg l:=by cases neg <;> simp [ival]
theorem sum_own (na:Bool) {B B':Nat} {A A':Option Addr} {l:List Nat} {n c c':Nat} {y:Int} {w:World} (hs:SlU w B A n c l) (hB:B≤w.heap.size) (hn:n≤67108864)
  (ho:OwnU w B' A' (digs W y.natAbs).length c' (u32s (digs W y.natAbs))) (hl:(digs W y.natAbs).length≤67108864) {Z:Int} (hZ:ival na l+y=Z) :
  Calls Tryz.prog 176 #[.agg #[.bool na,.slice A n c],.agg #[.bool (decide (y<0)),.slice A' (digs W y.natAbs).length c']] w (PostI w Z):=by
 have:=sum_any na (decide (y<0)) hs (ho.sl (dig_digs (by decide) _) rfl) hn hl hB (Nat.le_refl _)
 rw [ival_digs,hZ] at this
 exact this
attribute [local go_sem ↓] Go.wp_at_zero Go.wp_at_succ
set_option maxHeartbeats 1000000 in
theorem Sub_any (na nb:Bool) {B B':Nat} {A A':Option Addr} {l m:List Nat} {n c n' c':Nat} {w:World} (hs:SlU w B A n c l) (ht:SlU w B' A' n' c' m) (hn:n≤67108863) (hn':n'≤67108863) (hB:B≤w.heap.size) (hB':B'≤w.heap.size) :
  Calls Tryz.prog 110 #[.agg #[.bool na,.slice A n c],.agg #[.bool nb,.slice A' n' c']] w (PostC w (ival na l - ival nb m) (err (lng l || lng m || tooLong (ival na l - ival nb m)))):=by
 have hl1:=hs.len
 have hl2:=ht.len
 have HL:=Lib.hid (W2_long (na:=na) (nb:=nb) hs ht (by omega) (by omega) hB hB')
 have HW:=Lib.hid (W2_below w na nb A A' n c n' c')
 have HK:=Lib.hid (fun C w2 (hb:Below C (W2 w na nb A A' n c n' c') w2) hC=>W2_cells hb hC)
 have HE:=Lib.hid (fun w2 (hb:Below (w.heap.size+1+1) (W2 w na nb A A' n c n' c') w2)=>W2_held hb)
 have HN:=Lib.hid (show (digs W (ival na l - ival nb m).natAbs).length≤67108864 from Nat.le_trans (by
  have:=digs_add_len (k:=max n n') (ival_lt (neg:=na) hs.dig (by omega)) (ival_lt (neg:=!nb) ht.dig (by omega))
  rwa [ival_not] at this) (show max n n'+1≤67108864 by omega))
 have HM:=Lib.hid (show (digs W (ival (!nb) m).natAbs).length≤67108864 from Nat.le_trans (digs_length_le (by decide) (ival_lt (neg:=!nb) (k:=n') ht.dig (by omega))) (by omega))
 have HNg:=Lib.hid (fun w1 (hb:Below w.heap.size w w1)=>neg_any nb (ht.below (C:=w.heap.size) hb hB') (by omega) (Nat.le_trans hB' hb.size))
 have HS:=Lib.hid (fun w1 (hb:Below w.heap.size w w1) (B2:Nat) (A2:Option Addr) (c2:Nat) (ho:OwnU w1 B2 A2 (digs W (ival (!nb) m).natAbs).length c2 (u32s (digs W (ival (!nb) m).natAbs)))=>
  sum_own na (hs.below (C:=w.heap.size) hb hB) (Nat.le_trans hB hb.size) (by omega) ho HM.out (Z:=ival na l - ival nb m) (by rw [ival_not];omega))
 clear hs ht hn hn' hB hB' hl1 hl2
 generalize ival na l - ival nb m=Z at *
 generalize ival (!nb) m=Y at *
 cases hb:(lng l || lng m)
 ·rw [hb] at HL
  clear hb
  cases hT:tooLong Z
  all_goals
   first | have HQ:=Lib.hid (fun w1 B2 A2 c2 (ho:OwnU w1 B2 A2 (digs W Z.natAbs).length c2 (u32s (digs W Z.natAbs)))=>kept_ok hT ho HN.out) | have HQ:=Lib.hid (fun w1 B2 A2 c2 (ho:OwnU w1 B2 A2 (digs W Z.natAbs).length c2 (u32s (digs W Z.natAbs)))=>kept_bad hT ho HN.out)
   have HT:=Lib.hid hT
   clear hT
   go_enter Tryz.func110,Tryz.ntmps110
   go_wp2_with fail
   refine HL.out.mono ?_
   rintro ex w3 ⟨rfl,hb3⟩
   obtain ⟨⟨q0,q1⟩,⟨q2,q3⟩,r0,r1,r2,r3⟩:=HK.out _ _ hb3 (by first | omega | (simp;done) | (simp;omega))
   have HB3:=Lib.hid (HW.out.trans (hb3.mono (B':=w.heap.size) (by first | omega | (simp;done) | (simp;omega))))
   have H3:=Lib.hid hb3
   have K3:=Lib.hid (hb3.mono (B':=w.heap.size+1+1) (by first | omega | (simp;done) | (simp;omega)))
   have hz3:=hb3.size
   simp at hz3
   clear hb3
   go_wp2_with fail
   clear r0 r1 r2 r3
   go_region_held3 (fun w'=>(w'.cell? ⟨w.heap.size,0,none⟩=some (.bool na)∧w'.cell? ⟨w.heap.size,1,none⟩=some (.slice A n c))∧(w'.cell? ⟨w.heap.size+1,0,none⟩=some (.bool nb)∧w'.cell? ⟨w.heap.size+1,1,none⟩=some (.slice A' n' c')))
    (first
     | (go_keep;done)
     | exact HE.out _ ((k6.setCell (by first | omega | (simp;done) | (simp;omega)) _).setCell (by first | omega | (simp;done) | (simp;omega)) _)
     | exact HE.out _ k6
     | exact HE.out _ k5
     | exact HE.out _ k4)
    (first
     | (go_at_call 84;(with_reducible refine (HNg.out _ ?_).mono ?_);exact HB3.out.drew;rintro e w4 ⟨v,rfl,⟨A2,c2,rfl,ho2⟩,hb4⟩;have hz4:=hb4.size;simp at hz4;have k4:=K3.out.drew.trans (hb4.mono (B':=w.heap.size+1+1) (by first | omega | (simp;done) | (simp;omega))))
     | (go_at_call 176;(with_reducible refine (HS.out _ ?_ _ _ _ ho2).mono ?_);exact HB3.out.drew.trans (hb4.mono (by first | omega | (simp;done) | (simp;omega)));rintro e w5 ⟨v,rfl,⟨A3,c3,rfl,ho3⟩,hb5⟩;have hz5:=hb5.size;have k5:=k4.trans (hb5.mono (B':=w.heap.size+1+1) (by first | omega | (simp;done) | (simp;omega))))
     | (go_at_call 175;(with_reducible refine (HQ.out _ _ _ _ ho3).mono ?_);rintro e w6 ⟨rfl,hb6⟩;have hz6:=hb6.size;have k6:=k5.trans (hb6.mono (B':=w.heap.size+1+1) (by first | omega | (simp;done) | (simp;omega)));obtain ⟨r0,r1,r2,r3⟩:=(HK.out _ _ (H3.out.drew.trans ((hb4.trans ((hb5.mono hb4.size).trans (hb6.mono (Nat.le_trans hb4.size hb5.size)))).mono (by first | omega | (simp;done) | (simp;omega)))) (by first | omega | (simp;done) | (simp;omega))).2.2))
   have HB6:=HB3.out.drew.trans ((hb4.trans ((hb5.mono hb4.size).trans (hb6.mono (Nat.le_trans hb4.size hb5.size)))).mono (B':=w.heap.size) (by first | omega | (simp;done) | (simp;omega)))
   have ho6:=ho3.below hb6 (Nat.le_refl _)
   go_wp2
  ·have hr:=ResI.stored (w:=w) (g:=w.heap.size+1+1) (u:=.bool (decide (Z<0))) (u':=.slice A3 (digs W Z.natAbs).length c3) ⟨A3,c3,rfl,ho6⟩ HB6 (by first | omega | (simp;done) | (simp;omega)) (by first | omega | (simp;done) | (simp;omega))
   exact bodyPost_ret (v:=.tuple #[.agg #[.bool (decide (Z<0)),.slice A3 (digs W Z.natAbs).length c3],.int .i64 0]) (by simp [results,Tryz.results110,go_sem,r0,r1]) rfl
    (PostC.ok (by simp [err]) hr.1 hr.2)
  ·exact bodyPost_ret (v:=.tuple #[zeroV,.int .i64 10]) (by simp [results,Tryz.results110,go_sem,r0,r1]) rfl
    (PostC.bad (by simp [err]) (by decide) ((HB6.setCell (by first | omega | (simp;done) | (simp;omega)) _).setCell (by first | omega | (simp;done) | (simp;omega)) _))
 ·rw [hb] at HL
  clear hb
  go_enter Tryz.func110,Tryz.ntmps110
  go_wp2_with fail
  refine HL.out.mono ?_
  rintro ex w3 ⟨rfl,hb3⟩
  obtain ⟨⟨q0,q1⟩,⟨q2,q3⟩,r0,r1,r2,r3⟩:=HK.out _ _ hb3 (by simp)
  have HB3:=Lib.hid (HW.out.trans (hb3.mono (B':=w.heap.size) (by first | omega | (simp;done) | (simp;omega))))
  clear hb3
  go_wp2_with fail
  exact bodyPost_ret (v:=.tuple #[zeroV,.int .i64 10]) (by simp [results,Tryz.results110,go_sem,r0,r1]) rfl
   (PostC.bad (by simp [err]) (by decide) ((HB3.out.setCell (by first | omega | (simp;done) | (simp;omega)) _).setCell (by first | omega | (simp;done) | (simp;omega)) _))
end
section
open Go.RowKit Hb
theorem bits_or_u32 (a b:Nat) (ha:a<4294967296) (hb:b<4294967296):bits .or .u32 (a:Int) (b:Int)=((a ||| b:Nat):Int):=by
 have hx:a ||| b<2 ^ 32:=Nat.or_lt_two_pow (by omega) (by omega)
 show IntKind.u32.wrap ((BitVec.ofInt 32 (a:Int) ||| BitVec.ofInt 32 (b:Int)).toNat:Int)=_
 rw [BitVec.toNat_or,u32_bv _ (by omega) (by omega),u32_bv _ (by omega) (by omega),IntKind.wrap_u32,Int.toNat_natCast,Int.toNat_natCast]
 omega
theorem or_hi_lo_u32 {s:Nat} (d t:Nat) (hs:s≤32) (hd:d<2 ^ s) (ht:t % 2 ^ s=0) :
  bits .or .u32 (d:Int) ((t:Int) % 4294967296)=((d+t % 4294967296:Nat):Int):=by
 have h32:(2:Nat) ^ s≤4294967296:=Nat.pow_le_pow_right (by decide) hs
 have h1:t % 4294967296 % 2 ^ s=0:=by rw [Nat.mod_mod_of_dvd _ (show 2 ^ s ∣ 4294967296 from Nat.pow_dvd_pow 2 hs)];exact ht
 have:=bits_or_u32 d (t % 4294967296) (by omega) (Nat.mod_lt _ (by decide))
 rw [or_add hd h1] at this
 rw [show (t:Int) % 4294967296=((t % 4294967296:Nat):Int) by omega,this]
def ShlPost (w:World) (l:List Nat) (s n:Nat) (e:Ending) (w':World):Prop:=
 e = .returned (.slice (some ⟨w.heap.size,0,none⟩) (n+1) (n+1))∧∃ o:List Nat,o.length=n+1∧Dig W o∧o.getD n 0<2 ^ s∧nv W o=nv W l * 2 ^ s ∧
  OwnU w' w.heap.size (some ⟨w.heap.size,0,none⟩) (n+1) (n+1) (u32s o)∧Below w.heap.size w w'
set_option maxHeartbeats 1000000 in
theorem shl_any {B:Nat} {A:Option Addr} {l:List Nat} {n c s:Nat} {w:World} (hs:SlU w B A n c l) (hn:n≤67108864) (hB:B≤w.heap.size) (h32:s<32) :
  Calls Tryz.prog 204 #[.slice A n c,.int .i64 (s:Int)] w (ShlPost w l s n):=by
 have hmk:=fun w=>by
  have h:=makeU (n+1) (by omega) w
  rw [show ((n+1:Nat):Int)=(n:Int)+1 from by omega] at h
  exact h
 have hs0:(0:Int)≤(s:Int):=by omega
 have hs1:(s:Int)<32:=by omega
 have hst:=Lib.hid (ShlRel.start w l s n (by simp [maxLen];omega))
 have hdl:=Lib.hid hs.dig
 have hlen:=Lib.hid hs.len
 have hn9:n≤1000000000:=by omega
 clear hn
 go_enter Tryz.func204,Tryz.ntmps204
 go_wp2_with fail
 go_loopw [15] (fun i wr=>∃ k:Nat,k≤n∧i = .int .i64 k∧ShlRel w l s n k wr) (fun i _=>n - (intOf i).toNat)
 case atStart=>exact ⟨0,Nat.zero_le _,rfl,hst.out⟩
 case round=>
  obtain ⟨k,hk,rfl,hrel⟩:=hrel
  by_cases hkn:k<n
  ·obtain ⟨b,off,rfl,hbb,hcell⟩:=hs.at_ (by omega)
   have hbel:Below w.heap.size w wr:=by obtain ⟨o,h1,h2,h3,h4,h5,h6,h7⟩:=hrel;exact h7
   have hx:=(hbel.cell (p:=⟨b,off+k,none⟩) (Nat.lt_of_lt_of_le hbb hB)).trans (hcell k hkn)
   obtain ⟨d,hd,hcd,hfd,⟨u,hcu⟩,hfu,hS⟩:=hrel.facts hkn h32 hdl.out
   have hxb:l.getD k 0<4294967296:=hdl.out.getD (by decide) k
   obtain ⟨g1,g2,g3,g4⟩:=shl_num h32 hxb hd
   have hmod:(l.getD k 0 * 2 ^ s) % 2 ^ s=0:=Nat.mul_mod_left _ _
   have hor:=or_hi_lo_u32 d (l.getD k 0 * 2 ^ s) (by omega) hd hmod
   have HS:=Lib.hid hS
   generalize l.getD k 0=x at *
   obtain ⟨t,ht⟩:∃ t,x * 2 ^ s=t:=⟨_,rfl⟩
   obtain ⟨e,he⟩:∃ e,d+x * 2 ^ s % 4294967296=e:=⟨_,rfl⟩
   rw [he] at HS hor g3
   rw [ht] at HS hor g1 g2
   have hti:IntKind.u64.wrap ((x:Int) * 2 ^ s)=(t:Int):=by
    have:(x:Int) * 2 ^ s=(t:Int):=by rw [←ht];simp
    rw [this,IntKind.wrap_u64];omega
   have hk0:(0:Int)≤(k:Int):=by omega
   have hki:(k:Int)<(n:Int):=by omega
   have hki2:(k:Int)<(n:Int)+1:=by omega
   have hP:=Lib.hid g2
   have hP4:=Lib.hid g4
   have hg5:t / 4294967296<4294967296:=by omega
   clear ht he hmod hrel hcell hbel hS hd g2 g4 hst
   go_wp2_with fail
   go_roundw
   case rel=>exact ⟨k+1,by omega,by go_num,HS.out⟩
   case measure=>simp [intOf];omega
  ·obtain rfl:k=n:=by omega
   have HR:=Lib.hid hrel
   clear hrel hst
   go_wp2
   go_ret
   obtain ⟨o,h1,h2,h3,h4,h5,h6,h7⟩:=HR.out
   exact ⟨rfl,o,h1,h2,h4,by rw [h5,nvp_all (Nat.le_of_eq hlen.out)],h6,h7⟩
theorem nv_two {l:List Nat} (hd:Dig W l) (h:tlen l≤2):nv W l<18446744073709551616:=by
 have h1:=nv_lt hd.tr
 rw [nv_tr,tr_length] at h1
 exact Nat.lt_of_lt_of_le h1 (Nat.le_trans (Nat.pow_le_pow_right (by decide) h) (by decide))
end
end Go.Proofs.YtjpnmmjgdiiahaaGreatDoor
namespace Hb
structure Kn (b T u0 Ul v1 v0 Vl P U V:Nat):Prop where
 hU:U=(T * b+u0) * P+Ul
 hV:V=(v1 * b+v0) * P+Vl
 hUl:Ul<P
 hVl:Vl<P
 hu0:u0<b
 hv0:v0<b
 hv1:1≤v1
 hUV:U<b * V
section
variable {b T u0 Ul v1 v0 Vl P U V q r:Nat}
theorem Kn.guess (k:Kn b T u0 Ul v1 v0 Vl P U V):(T / v1) * v1+T % v1=T∧U<(T / v1+1) * V:=by
 have h1:=Nat.div_add_mod' T v1
 have h2:=Nat.mod_lt T (show 0<v1 by have:=k.hv1;omega)
 refine ⟨h1,?_⟩
 have hUl:=k.hUl
 have hu0:=k.hu0
 have h3:T+1≤(T / v1+1) * v1:=by rw [Nat.add_mul];omega
 have h4:(T * b+u0+1)≤(T+1) * b:=by rw [Nat.add_mul,Nat.one_mul];omega
 have h5:U<(T * b+u0+1) * P:=by rw [k.hU,Nat.add_mul (T * b+u0) 1];omega
 have h6:(T * b+u0+1) * P≤((T / v1+1) * v1 * b) * P:=Nat.mul_le_mul_right _ (Nat.le_trans h4 (Nat.mul_le_mul_right _ h3))
 have h7:((T / v1+1) * v1 * b) * P≤(T / v1+1) * V:=by
  rw [Nat.mul_assoc (T / v1+1),Nat.mul_assoc (T / v1+1)]
  refine Nat.mul_le_mul_left _ ?_
  rw [k.hV]
  have:v1 * b * P≤(v1 * b+v0) * P:=Nat.mul_le_mul_right _ (Nat.le_add_right _ _)
  omega
 omega
theorem Kn.down (k:Kn b T u0 Ul v1 v0 Vl P U V) (hq:q * v1+r=T) (ht:b≤q∨r * b+u0<q * v0):1≤q∧U<q * V:=by
 rcases ht with h | h
 ·have:=k.hUV
  have h2:b * V≤q * V:=Nat.mul_le_mul_right _ h
  have h3:=k.hu0
  exact ⟨by omega,by omega⟩
 ·have h0:1≤q:=by
   rcases Nat.eq_zero_or_pos q with h1 | h1
   ·subst h1;rw [Nat.zero_mul] at h;omega
   ·exact h1
  refine ⟨h0,?_⟩
  have h1:T * b+u0+1≤q * (v1 * b+v0):=by
   rw [←hq,Nat.mul_add,Nat.add_mul,Nat.mul_assoc]
   omega
  have h2:U<(T * b+u0+1) * P:=by have:=k.hUl;rw [k.hU,Nat.add_mul (T * b+u0) 1];omega
  have h3:(T * b+u0+1) * P≤q * (v1 * b+v0) * P:=Nat.mul_le_mul_right _ h1
  have h4:q * (v1 * b+v0) * P≤q * V:=by
   rw [Nat.mul_assoc];exact Nat.mul_le_mul_left _ (by rw [k.hV];omega)
  omega
theorem Kn.stop (k:Kn b T u0 Ul v1 v0 Vl P U V) (hq:q * v1+r=T) (hq1:q<b) (ht:q * v0≤r * b+u0):q * V≤U+V:=by
 rcases Nat.eq_zero_or_pos q with h0 | h0
 ·subst h0;rw [Nat.zero_mul];omega
 ·obtain ⟨p,rfl⟩:∃ p,q=p+1:=⟨q - 1,by omega⟩
  have h1:(p+1) * (v1 * b+v0)≤T * b+u0:=by
   rw [←hq,Nat.mul_add,Nat.add_mul ((p+1) * v1) r b,Nat.mul_assoc]
   omega
  have hv1:=k.hv1
  have hVl:=k.hVl
  have hp:p * 1≤(v1 * b+v0):=by
   have:1 * b≤v1 * b:=Nat.mul_le_mul_right _ (by omega)
   rw [Nat.one_mul] at this
   omega
  have h2:p * V≤p * ((v1 * b+v0+1) * P):=Nat.mul_le_mul_left _ (by rw [k.hV,Nat.add_mul (v1 * b+v0) 1 P];omega)
  have h3:p * ((v1 * b+v0+1) * P)≤(p+1) * (v1 * b+v0) * P:=by
   rw [←Nat.mul_assoc]
   refine Nat.mul_le_mul_right _ ?_
   rw [Nat.mul_add,Nat.add_mul]
   omega
  have h4:(p+1) * (v1 * b+v0) * P≤(T * b+u0) * P:=Nat.mul_le_mul_right _ h1
  have h5:(p+1) * V=p * V+V:=by rw [Nat.add_mul,Nat.one_mul]
  have hU:=k.hU
  omega
theorem Kn.top (k:Kn b T u0 Ul v1 v0 Vl P U V):T<(v1+1) * b:=by
 have hUV:=k.hUV
 have hVl:=k.hVl
 have hv0:=k.hv0
 have h1:V<(v1+1) * b * P:=by
  have:(v1 * b+v0+1) * P≤(v1+1) * b * P:=Nat.mul_le_mul_right _ (by rw [Nat.add_mul,Nat.one_mul];omega)
  rw [Nat.add_mul (v1 * b+v0) 1 P] at this
  have:=k.hV
  omega
 have h2:U<b * ((v1+1) * b * P):=Nat.lt_of_lt_of_le hUV (Nat.mul_le_mul_left _ (Nat.le_of_lt h1))
 rcases Nat.lt_or_ge T ((v1+1) * b) with h | h
 ·exact h
 ·exfalso
  have h3:(v1+1) * b * b * P≤T * b * P:=Nat.mul_le_mul_right _ (Nat.mul_le_mul_right _ h)
  have h4:T * b * P≤(T * b+u0) * P:=Nat.mul_le_mul_right _ (by omega)
  have h5:b * ((v1+1) * b * P)=(v1+1) * b * b * P:=by
   rw [Nat.mul_comm b,Nat.mul_assoc ((v1+1) * b),Nat.mul_comm P b,←Nat.mul_assoc]
  have:=k.hU
  omega
theorem Kn.broke (k:Kn b T u0 Ul v1 v0 Vl P U V) (hq:q * v1+r=T) (hr:b≤r):q<b∧q * v0≤r * b+u0:=by
 have ht:=k.top
 have h1:q<b:=by
  rcases Nat.lt_or_ge q b with h | h
  ·exact h
  ·exfalso
   have h2:b * v1≤q * v1:=Nat.mul_le_mul_right _ h
   rw [Nat.add_mul,Nat.one_mul,Nat.mul_comm v1 b] at ht
   omega
 refine ⟨h1,?_⟩
 have h2:q * v0≤b * b:=Nat.mul_le_mul (by omega) (Nat.le_of_lt k.hv0)
 have h3:b * b≤r * b:=Nat.mul_le_mul_right _ hr
 omega
end
theorem quo_of {U V q:Nat} (_hV:0<V) (h1:U<(q+1) * V) (h2:q * V≤U+V):(q * V≤U∧U / V=q∧U % V=U - q * V)∨(U<q * V∧1≤q∧U / V=q - 1∧U % V=U+V - q * V):=by
 rcases Nat.lt_or_ge U (q * V) with h | h
 ·right
  have h0:1≤q:=by
   rcases Nat.eq_zero_or_pos q with h1 | h1
   ·subst h1;omega
   ·exact h1
  obtain ⟨p,rfl⟩:∃ p,q=p+1:=⟨q - 1,by omega⟩
  have e:(p+1) * V=p * V+V:=by rw [Nat.add_mul,Nat.one_mul]
  have hd:U / V=p:=Nat.div_eq_of_lt_le (by omega) (by omega)
  have hm:=Nat.div_add_mod' U V
  rw [hd] at hm
  exact ⟨h,h0,by omega,by omega⟩
 ·left
  have hd:U / V=q:=Nat.div_eq_of_lt_le h h1
  have hm:=Nat.div_add_mod' U V
  rw [hd] at hm
  exact ⟨h,hd,by omega⟩
end Hb
namespace Go.Proofs.YtjpnmmjgdiiahaaGreatDoor
section
open Go.RowKit Hb
def GuessRel (T v1:Nat) (U V:Nat) (qv rv:Value):Prop:=
 ∃ q r:Nat,qv = .int .u64 (q:Int)∧rv = .int .u64 (r:Int)∧q * v1+r=T∧r<4294967296∧U<(q+1) * V∧q<18446744073709551616
def DigPost (w:World) (g k n U V:Nat) (L:List Nat) (e:Ending) (w':World):Prop:=
 e = .returned (.int .u32 ((U / V:Nat):Int))∧∃ L2,RowSt w g k n L L2 w'∧nvp W (L2.drop k) (n+1)=U % V
theorem last_num {d cc bb t:Nat} (hd:d<4294967296) (hc:cc<4294967296) (hb:bb≤1) (ht:IntKind.u64.wrap (IntKind.u64.wrap ((d:Int) - (cc:Int)) - (bb:Int))=(t:Int)) :
  t % 4294967296+(cc+bb)=d+4294967296 * (t / 9223372036854775808)∧t / 9223372036854775808≤1∧t<18446744073709551616:=by
 rw [IntKind.wrap_u64,IntKind.wrap_u64] at ht
 omega
theorem TakeRel.end_ {w wr:World} {g k n q:Nat} {L vl:List Nat} {bb cc d t:Nat} (h:TakeRel w g k n q L vl n (.int .u64 (bb:Int)) (.int .u64 (cc:Int)) wr) (hk:k+n+1≤L.length) (hvl:vl.length=n)
  (hd:L.getD (k+n) 0=d) (hL:Dig W L) (ht:IntKind.u64.wrap (IntKind.u64.wrap ((d:Int) - (cc:Int)) - (bb:Int))=(t:Int)) :
  ∃ L2,RowSt w g k n L L2 (wr.setCell ⟨g,k+n,none⟩ (.int .u32 ((t % 4294967296:Nat):Int)))∧L2.getD (k+n) 0=t % 4294967296 ∧
   nvp W (L2.drop k) (n+1)+q * nv W vl=nvp W (L.drop k) (n+1)+W ^ (n+1) * (t / 9223372036854775808)∧t / 9223372036854775808≤1∧t<18446744073709551616:=by
 obtain ⟨L',bb',cc',e1,e2,hb,hc,h1,h2,h3,h4,h5,h6,h7⟩:=h
 obtain rfl:bb=bb':=by injection e1 with _ e1;omega
 obtain rfl:cc=cc':=by injection e2 with _ e2;omega
 have hdb:d<4294967296:=by rw [←hd];exact hL.getD (by decide) _
 obtain ⟨f1,f2,f3⟩:=last_num hdb hc hb ht
 refine ⟨L'.set (k+n) (t % 4294967296),⟨by simpa using h1,h2.set (Nat.mod_lt _ (by decide)) _,by rw [take_set_lo (by omega)];exact h3,?_,h6.set_ _ _,gb_setCell h7 _ _⟩,?_,?_,f2,f3⟩
 ·rw [drop_set_hi (by omega)];exact drop_more h4 (by omega)
 ·rw [List.getD_eq_getElem?_getD,List.getElem?_set_self (by omega)];rfl
 ·rw [drop_set_in,nvp_set_at (by rw [List.length_drop];omega),nvp_succ,getD_drop,hd,pow_succ_mul]
  rw [nvp_all (Nat.le_of_eq hvl)] at h5
  have h8:W ^ n * (t % 4294967296+(cc+bb))=W ^ n * (d+4294967296 * (t / 9223372036854775808)):=by rw [f1]
  rw [Nat.mul_add,Nat.mul_add (W ^ n) d] at h8
  have e:W * (t / 9223372036854775808)=4294967296 * (t / 9223372036854775808):=rfl
  rw [e]
  omega
theorem digit_ok {U V q R N t:Nat} (hV:0<V) (h1:U<(q+1) * V) (h2:q * V≤U+V) (h:R+q * V=U+N * t) (ht:t=0):U / V=q∧U % V=R:=by
 subst ht
 rw [Nat.mul_zero,Nat.add_zero] at h
 rcases quo_of hV h1 h2 with ⟨a,b,c⟩ | ⟨a,b,c,d⟩
 ·exact ⟨b,by omega⟩
 ·omega
theorem digit_back {U V q R N t F z:Nat} (hV:0<V) (h1:U<(q+1) * V) (h2:q * V≤U+V) (h:R+q * V=U+N * t) (ht:t=1) (hR:R<N) (hF:F+N * z=R+V) (hFN:F<N) (hVN:V≤N) :
  1≤q∧U / V=q - 1∧U % V=F:=by
 subst ht
 rw [Nat.mul_one] at h
 rcases quo_of hV h1 h2 with ⟨a,b,c⟩ | ⟨a,b,c,d⟩
 ·omega
 ·have h3:U % V<V:=Nat.mod_lt _ hV
  have hz:z=1:=by
   rcases Nat.lt_or_ge z 1 with hz | hz
   ·obtain rfl:z=0:=by omega
    rw [Nat.mul_zero] at hF;omega
   ·rcases Nat.lt_or_ge 1 z with hz2 | hz2
    ·have:=Nat.mul_le_mul_left N hz2
     omega
    ·omega
  subst hz
  rw [Nat.mul_one] at hF
  exact ⟨b,c,by omega⟩
set_option maxHeartbeats 4000000 in
set_option maxRecDepth 100000 in
theorem digit_any {Bv g k n c:Nat} {A:Option Addr} {L vl:List Nat} {w:World} {T u0 Ul v1 v0 Vl P U V:Nat} (hv:SlU w Bv A n c vl) (hBg:Bv≤g) (hU:UBu w g L) (hL:Dig W L) (hn:2≤n) (hk:k+n+1≤L.length) (hmax:L.length≤1000000000)
  (ev1:vl.getD (n - 1) 0=v1) (ev0:vl.getD (n - 2) 0=v0) (eT:L.getD (k+n) 0 * 4294967296+L.getD (k+(n - 1)) 0=T) (eu0:L.getD (k+(n - 2)) 0=u0)
  (K:Kn W T u0 Ul v1 v0 Vl P U V) (hUe:nvp W (L.drop k) (n+1)=U) (hVe:nv W vl=V) :
  Calls Tryz.prog 213 #[.slice (some ⟨g,k,none⟩) (n+1) (n+1),.slice A n c] w (DigPost w g k n U V L):=by
 have HT0:=Lib.hid (fun q wx (hd:Dr w wx)=>TakeRel.start (n:=n) (k:=k) (q:=q) hU hL hd vl)
 have HBv:=Lib.hid (Nat.le_trans hBg (Nat.le_of_lt hU.lt))
 obtain ⟨b,off,rfl,hbb,hcell⟩:=hv.at_ (by omega)
 have HCX:=Lib.hid hcell
 have hxn:=hU.cell (i:=k+n) (by omega)
 have hxn1:=hU.cell (i:=k+(n - 1)) (by omega)
 have hxn2:=hU.cell (i:=k+(n - 2)) (by omega)
 have hy1:=hcell (n - 1) (by omega)
 have hy0:=hcell (n - 2) (by omega)
 rw [ev1] at hy1
 rw [ev0] at hy0
 rw [eu0] at hxn2
 have b1:L.getD (k+n) 0<4294967296:=hL.getD (by decide) _
 have b2:L.getD (k+(n - 1)) 0<4294967296:=hL.getD (by decide) _
 have bv1:v1<4294967296:=by rw [←ev1];exact hv.dig.getD (by decide) _
 have hor:=or_hi_lo _ _ b1 b2
 have hn1:(1:Int)≤(n:Int):=by omega
 have hn2:(2:Int)≤(n:Int):=by omega
 have hv1:=K.hv1
 have hv1i:(1:Int)≤(v1:Int):=by omega
 have hT18:T<18446744073709551616:=by omega
 rw [eT] at hor
 have hdm:=K.guess
 have hr0:T % v1<v1:=Nat.mod_lt _ (by omega)
 have hq0:T / v1<18446744073709551616:=Nat.lt_of_le_of_lt (Nat.div_le_self _ _) hT18
 obtain ⟨q0,hq0e⟩:∃ q0,T / v1=q0:=⟨_,rfl⟩
 obtain ⟨r0,hr0e⟩:∃ r0,T % v1=r0:=⟨_,rfl⟩
 have hqi:(T:Int) / (v1:Int)=(q0:Int):=by rw [←hq0e];simp
 have hri:(T:Int) % (v1:Int)=(r0:Int):=by rw [←hr0e];simp
 rw [hq0e] at hdm hq0
 rw [hr0e] at hdm hr0
 have hG:=Lib.hid (show GuessRel T v1 U V (.int .u64 (q0:Int)) (.int .u64 (r0:Int)) from ⟨q0,r0,rfl,rfl,hdm.1,by omega,hdm.2,hq0⟩)
 generalize L.getD (k+n) 0=un at *
 generalize L.getD (k+(n - 1)) 0=un1 at *
 clear hdm hr0 hq0e hr0e ev1 ev0 eT eu0 hcell
 have HK:=Lib.hid K
 have HV0:=Lib.hid (show 0<V by rcases Nat.eq_zero_or_pos V with h | h;(· have:=K.hUV;rw [h,Nat.mul_zero] at this;omega);(· exact h))
 clear K
 go_enter Tryz.func213,Tryz.ntmps213
 go_wp2_with fail
 go_quiet (fail)
 go_upto_block 0 with fail
 have HRI:=Lib.hid hri
 clear hri hqi hor hxn hxn1 hq0 b1 b2
 go_cut [7] from 48 to 81 (fun qv wx=>∃ q:Nat,qv = .int .u64 (q:Int)∧q<4294967296∧Hid (U<(q+1) * V∧q * V≤U+V)∧Dr w wx)
 case first=>
  go_wp2_with fail
  go_loopw [7,8] (fun qv rv wr=>GuessRel T v1 U V qv rv∧Dr w wr) (fun qv _ _=>(intOf qv).toNat)
  case atStart=>exact ⟨by rw [HRI.out];exact hG.out,(Dr.refl _).more _⟩
  case round=>
   obtain ⟨⟨q,r,rfl,rfl,hq,hr,hU1,hq18⟩,hdr⟩:=hrel
   have HQ:=Lib.hid hq
   have HU1:=Lib.hid hU1
   have hxn2:=(hdr.cell _).trans hxn2
   have hy1:=(hdr.cell _).trans hy1
   have hy0:=(hdr.cell _).trans hy0
   clear hU hq hU1
   by_cases hqW:4294967296≤q
   ·have HT:4294967296≤q∨r * W+u0<q * v0:=.inl hqW
    have hqWd:decide ((4294967296:Int)≤(q:Int))=true:=decide_eq_true (by omega)
    have hd1:=HK.out.down (q:=q) (r:=r) HQ.out HT
    obtain ⟨p,hpe⟩:∃ p,q=p+1:=⟨q - 1,by omega⟩
    have HU2:=Lib.hid (show U<(p+1) * V from hpe ▸ hd1.2)
    have hp1:(q:Int) - 1=(p:Int):=by omega
    have hq2:p * v1+(r+v1)=T:=by have:=HQ.out;rw [hpe,Nat.add_mul] at this;omega
    have HQ2:=Lib.hid hq2
    have hq1:(1:Int)≤(q:Int):=by omega
    have HPE:=Lib.hid hpe
    clear hd1 hq2 hpe HT
    by_cases hrb:4294967296≤r+v1
    ·have hb:=HK.out.broke HQ2.out hrb
     have hs:=HK.out.stop HQ2.out hb.1 hb.2
     have HF:=Lib.hid (show U<(p+1) * V∧p * V≤U+V from ⟨HU2.out,hs⟩)
     have hp9:=hb.1
     have hrb2:decide ((4294967296:Int)≤(r:Int)+(v1:Int))=true:=decide_eq_true (by omega)
     clear hb hs
     go_wp2_with fail
     go_quiet (fail)
     go_wp2_with fail
     go_meet
     exact ⟨p,by go_num,hp9,HF,hdr.more _⟩
    ·have hrb2:decide ((4294967296:Int)≤(r:Int)+(v1:Int))=false:=decide_eq_false (by omega)
     go_wp2_with fail
     go_quiet (fail)
     go_wp2_with fail
     go_roundw
     case rel=>exact ⟨⟨p,r+v1,by go_num,by go_num,HQ2.out,by omega,HU2.out,by omega⟩,hdr.more _⟩
     case measure=>have:=HPE.out;simp [intOf];omega
   ·have hqWd:decide ((4294967296:Int)≤(q:Int))=false:=decide_eq_false (by omega)
    have hu0:u0<4294967296:=HK.out.hu0
    have hv0:v0<4294967296:=HK.out.hv0
    have hz:=(mul_lt (x:=q) (y:=v0) (d:=0) (c:=0) (by omega) hv0 (by omega) (by omega)).1
    have hor2:=or_hi_lo r u0 hr hu0
    obtain ⟨z,hze⟩:∃ z,q * v0=z:=⟨_,rfl⟩
    obtain ⟨y,hye⟩:∃ y,r * 4294967296+u0=y:=⟨_,rfl⟩
    have hzi:(q:Int) * (v0:Int)=(z:Int):=by rw [←hze];simp
    have hy18:y<18446744073709551616:=by omega
    rw [hye] at hor2
    rw [hze] at hz
    by_cases hyz:y<z
    ·have HT:4294967296≤q∨r * W+u0<q * v0:=.inr (by rw [hze];show r * 4294967296+u0<z;rw [hye];exact hyz)
     have hyzd:decide ((y:Int)<(z:Int))=true:=decide_eq_true (by omega)
     have hyzd':decide (y<z)=true:=decide_eq_true (by omega)
     clear hze hye
     have hd1:=HK.out.down (q:=q) (r:=r) HQ.out HT
     obtain ⟨p,hpe⟩:∃ p,q=p+1:=⟨q - 1,by omega⟩
     have HU2:=Lib.hid (show U<(p+1) * V from hpe ▸ hd1.2)
     have hp1:(q:Int) - 1=(p:Int):=by omega
     have hq2:p * v1+(r+v1)=T:=by have:=HQ.out;rw [hpe,Nat.add_mul] at this;omega
     have HQ2:=Lib.hid hq2
     have hq1:(1:Int)≤(q:Int):=by omega
     have HPE:=Lib.hid hpe
     clear hd1 hq2 hpe HT
     by_cases hrb:4294967296≤r+v1
     ·have hb:=HK.out.broke HQ2.out hrb
      have hs:=HK.out.stop HQ2.out hb.1 hb.2
      have HF:=Lib.hid (show U<(p+1) * V∧p * V≤U+V from ⟨HU2.out,hs⟩)
      have hp9:=hb.1
      have hrb2:decide ((4294967296:Int)≤(r:Int)+(v1:Int))=true:=decide_eq_true (by omega)
      clear hb hs
      go_wp2_with fail
      go_quiet (fail)
      go_wp2_with fail
      go_meet
      exact ⟨p,by go_num,hp9,HF,hdr.more _⟩
     ·have hrb2:decide ((4294967296:Int)≤(r:Int)+(v1:Int))=false:=decide_eq_false (by omega)
      go_wp2_with fail
      go_quiet (fail)
      go_wp2_with fail
      go_roundw
      case rel=>exact ⟨⟨p,r+v1,by go_num,by go_num,HQ2.out,by omega,HU2.out,by omega⟩,hdr.more _⟩
      case measure=>have:=HPE.out;simp [intOf];omega
    ·have hs:=HK.out.stop HQ.out (show q<4294967296 by omega) (by rw [hze];show z≤r * 4294967296+u0;rw [hye];omega)
     have hyzd:decide ((y:Int)<(z:Int))=false:=decide_eq_false (by omega)
     have hyzd':decide (y<z)=false:=decide_eq_false (by omega)
     have HF:=Lib.hid (show U<(q+1) * V∧q * V≤U+V from ⟨HU1.out,hs⟩)
     have hq9:q<4294967296:=by omega
     clear hze hye hs
     go_wp2_with fail
     go_quiet (fail)
     go_wp2_with fail
     go_meet
     exact ⟨q,rfl,hq9,HF,hdr.more _⟩
 case rest=>
  obtain ⟨q,rfl,hq,HQ,hdr⟩:=hcut
  go_wp2_with fail
  go_loopw [9,10,84] (fun bv cv iv wr=>∃ i:Nat,i≤n∧iv = .int .i64 i∧TakeRel w g k n q L vl i bv cv wr) (fun _ _ iv _=>n - (intOf iv).toNat)
  case atStart=>exact ⟨0,Nat.zero_le _,rfl,HT0.out _ _ hdr⟩
  case round=>
   obtain ⟨i,hi,rfl,hrel⟩:=hrel
   by_cases hin:i<n
   ·obtain ⟨bb,cc,d,rfl,rfl,hbb1,hcc1,hd,_,hcd,hf,hgb,hstep⟩:=hrel.facts hk (Nat.le_of_lt hin)
    have hcx:=(((gb_below hgb hBg HBv.out).cell (p:=⟨b,off+i,none⟩) hbb)).trans (HCX.out i hin)
    obtain ⟨x,hxe⟩:∃ x,vl.getD i 0=x:=⟨_,rfl⟩
    have hx:x<4294967296:=by rw [←hxe];exact hv.dig.getD (by decide) i
    rw [hxe] at hcx
    have hz:=(mul_lt hq hx hcc1 hcc1).1
    obtain ⟨z,hze⟩:∃ z,q * x=z:=⟨_,rfl⟩
    have hzi:(q:Int) * (x:Int)=(z:Int):=by rw [←hze];simp
    rw [hze] at hz
    obtain ⟨t,hte⟩:∃ t:Nat,t=(IntKind.u64.wrap (IntKind.u64.wrap ((d:Int) - ((z:Int)+(cc:Int)) % 4294967296) - (bb:Int))).toNat:=⟨_,rfl⟩
    have htw:IntKind.u64.wrap (IntKind.u64.wrap ((d:Int) - ((z:Int)+(cc:Int)) % 4294967296) - (bb:Int))=(t:Int):=by
     rw [hte,IntKind.wrap_u64];omega
    have ht18:=(take_num (p:=z+cc) (t:=t) hd hbb1 (by rw [show ((z+cc:Nat):Int)=(z:Int)+(cc:Int) by omega];exact htw)).2.2
    have HS:=Lib.hid (hstep x t (z+cc) hin hxe hx hq (by rw [hze]) (by rw [show ((z+cc:Nat):Int)=(z:Int)+(cc:Int) by omega];exact htw))
    have hi0:(0:Int)≤(i:Int):=by omega
    have hi1:(i:Int)<(n:Int):=by omega
    have hi2:(i:Int)<(n:Int)+1:=by omega
    clear hze hte hxe hstep hgb hrel
    go_wp2_with fail
    go_roundw
    case rel=>exact ⟨i+1,by omega,by go_num,HS.out⟩
    case measure=>simp [intOf];omega
   ·obtain rfl:i=n:=by omega
    obtain ⟨bb,cc,d,rfl,rfl,hbb1,hcc1,hd,hde,hcd,hf,hgb,_⟩:=hrel.facts hk (Nat.le_refl _)
    obtain ⟨t,hte⟩:∃ t:Nat,t=(IntKind.u64.wrap (IntKind.u64.wrap ((d:Int) - (cc:Int)) - (bb:Int))).toNat:=⟨_,rfl⟩
    have htw:IntKind.u64.wrap (IntKind.u64.wrap ((d:Int) - (cc:Int)) - (bb:Int))=(t:Int):=by
     rw [hte,IntKind.wrap_u64];omega
    obtain ⟨L2,hL2,hL2d,hval,ht1,ht18⟩:=hrel.end_ hk hv.len hde hL htw
    have HQ3:=HQ.out
    have hi0:(0:Int)≤(i:Int):=by omega
    have hi2:(i:Int)<(i:Int)+1:=by omega
    rw [hUe,hVe] at hval
    by_cases ht0:t / 9223372036854775808=0
    ·have HF:=Lib.hid (digit_ok HV0.out HQ3.1 HQ3.2 hval ht0)
     have HL2:=Lib.hid hL2
     have htz:((t:Int) / 9223372036854775808==0)=true:=beq_iff_eq.2 (by omega)
     clear hL2 hval ht0 ht1 hte hrel hde HQ3 hgb hL2d
     go_wp2_with fail
     go_ret
     exact ⟨ret_int (by rw [HF.out.1]),L2,HL2.out,HF.out.2.symm⟩
    ·have HL2:=Lib.hid hL2
     have HVal:=Lib.hid hval
     have HT1:=Lib.hid (show t / 9223372036854775808=1 by omega)
     have HD2:=Lib.hid hL2d
     have htz:((t:Int) / 9223372036854775808==0)=false:=beq_eq_false_iff_ne.2 (by omega)
     clear hL2 hval ht0 ht1 hte hrel hde HQ3 hgb hL2d hxn2 hy1 hy0 hU hdr
     go_wp2_with fail
     clear hcd hf
     go_loopw [15,138] (fun cv iv wr=>∃ j:Nat,j≤i∧iv = .int .i64 j∧BackRel w g k i L L2 vl j cv wr) (fun _ iv _=>i - (intOf iv).toNat)
     case atStart=>exact ⟨0,Nat.zero_le _,rfl,BackRel.start HL2.out vl⟩
     case round=>
      obtain ⟨j,hj,rfl,hback⟩:=hrel
      obtain ⟨cy,d3,rfl,hcy,hd3,hd3e,hcd3,hf3,hgb3,hstep3,hend3⟩:=hback.facts hk hj hv.dig
      by_cases hji:j<i
      ·have hcx:=(((gb_below hgb3 hBg HBv.out).cell (p:=⟨b,off+j,none⟩) hbb)).trans (HCX.out j hji)
       obtain ⟨x,hxe⟩:∃ x,vl.getD j 0=x:=⟨_,rfl⟩
       have hx:x<4294967296:=by rw [←hxe];exact hv.dig.getD (by decide) j
       rw [hxe] at hcx
       have HS:=Lib.hid (hstep3 x hji hxe)
       have HA:=Lib.hid (fun w1=>add32_any d3 x cy w1 hd3 hx hcy)
       have hj0:(0:Int)≤(j:Int):=by omega
       have hj1:(j:Int)<(i:Int):=by omega
       have hj2:(j:Int)<(i:Int)+1:=by omega
       clear hxe hstep3 hend3 hgb3 hback
       go_wp2_with fail
       go_region_with (first | (go_at_call 208;(with_reducible refine (HA.out _).mono ?_);rintro e w' ⟨rfl,rfl⟩))
       all_goals
        go_wp2_with fail
        go_roundw
        case rel=>exact ⟨j+1,by omega,by go_num,HS.out.drew⟩
        case measure=>simp [intOf];omega
      ·obtain rfl:j=i:=by omega
       obtain ⟨L3,hL3,hval3⟩:=hend3 rfl hv.len
       have hR:nvp W (L2.drop k) (j+1)<W ^ (j+1):=nvp_lt ((HL2.out.2.1).drop _) (by decide) _
       have hF:nvp W (L3.drop k) (j+1)<W ^ (j+1):=nvp_lt ((hL3.2.1).drop _) (by decide) _
       have hVN:V≤W ^ (j+1):=by
        have:=nv_lt hv.dig
        rw [hv.len,hVe] at this
        exact Nat.le_trans (Nat.le_of_lt this) (Nat.pow_le_pow_right (by decide) (by omega))
       have HF:=Lib.hid (digit_back HV0.out HQ.out.1 HQ.out.2 HVal.out HT1.out hR (by rw [hVe] at hval3;exact hval3) hF hVN)
       have HL3:=Lib.hid hL3
       have hj0:(0:Int)≤(j:Int):=by omega
       have hj2:(j:Int)<(j:Int)+1:=by omega
       have hq1:(1:Int)≤(q:Int):=by have:=HF.out.1;omega
       have hdc:IntKind.u32.wrap ((d3:Int)+(cy:Int))=(((d3+cy) % 4294967296:Nat):Int):=by rw [IntKind.wrap_u32];omega
       clear hL3 hval3 hstep3 hend3 hgb3 hback hR hF hVN
       go_wp2_with fail
       go_ret
       exact ⟨ret_int (by rw [HF.out.2.1];have:=HF.out.1;omega),L3,HL3.out,HF.out.2.2.symm⟩
def DivPost (w:World) (a b bound:Nat) (e:Ending) (w':World):Prop:=
 ∃ (A1 A2:Option Addr) (n1 c1 n2 c2:Nat) (o1 o2:List Nat),e = .returned (.tuple #[.slice A1 n1 c1,.slice A2 n2 c2]) ∧
  OwnU w' w.heap.size A1 n1 c1 (u32s o1)∧o1.length=n1∧Dig W o1∧nv W o1=a / b∧n1≤bound ∧
  OwnU w' w.heap.size A2 n2 c2 (u32s o2)∧o2.length=n2∧Dig W o2∧nv W o2=a % b∧n2≤bound∧(A1=none∨A1≠A2)∧Below w.heap.size w w'
set_option maxHeartbeats 1000000 in
theorem div_small {B B':Nat} {A A':Option Addr} {l m:List Nat} {n c n' c':Nat} {w:World} (hs:SlU w B A n c l) (ht:SlU w B' A' n' c' m) (hn:n≤67108863) (hB:B≤w.heap.size) (_hB':B'≤w.heap.size) (hlt:nv W l<nv W m) :
  Calls Tryz.prog 179 #[.slice A n c,.slice A' n' c'] w (DivPost w (nv W l) (nv W m) (n+1)):=by
 have H1:=Lib.hid (trim_any hs)
 have H2:=Lib.hid (trim_any ht)
 have HC:=Lib.hid (cmp_v hs.tr ht.tr (v:=-1) (by rw [nv_tr,nv_tr,cmpN_lt hlt]))
 have hl1:=tlen_le l
 have hl2:=hs.len
 have HO:=Lib.hid (fun w1 (hd:Dr w w1)=>own_any ((hs.tr).below (hd.below w.heap.size) hB) (by omega) (by rw [hd.heap];exact hB))
 have HD:=Lib.hid hs.dig.tr
 have HN:=Lib.hid (show tlen l≤n+1 by omega)
 have HLt:=Lib.hid hlt
 clear hs ht hn hB _hB' hl1 hl2 hlt
 go_enter Tryz.func179,Tryz.ntmps179
 go_wp2_with fail
 refine H1.out.mono ?_;rintro e w' ⟨rfl,rfl⟩
 go_wp2_with fail
 refine H2.out.mono ?_;rintro e w' ⟨rfl,rfl⟩
 go_wp2_with fail
 refine HC.out.mono ?_;rintro e w1 ⟨rfl,hdr⟩
 go_wp2_with fail
 refine (HO.out _ hdr).mono ?_;rintro e w2 ⟨A2,n2,c2,rfl,ho,hl,hb⟩
 have HR:=Lib.hid (And.intro ho (And.intro hl hb))
 have HH:=Lib.hid hdr.heap
 have HB:=Lib.hid (hdr.below w.heap.size)
 clear ho hl hb hdr
 go_wp2_with fail
 go_ret2
 obtain ⟨ho,hl,hb⟩:=HR.out
 rw [HH.out] at ho hb
 have hq:=HLt.out
 exact ⟨none,A2,0,0,n2,c2,[],tr l,rfl,World.ownsRow_nil _ _ _ _,rfl,Dig.nil _,by rw [Nat.div_eq_of_lt hq];rfl,Nat.zero_le _,ho,hl,HD.out,by rw [nv_tr,Nat.mod_eq_of_lt hq],by rw [←hl,tr_length];exact HN.out,.inl rfl,HB.out.trans hb⟩
theorem far1 {w2:World} {g i:Nat} {q:Addr} {u v:Value} (h:w2.cell? q=some v) (hne:q.block≠g):(w2.setCell ⟨g,i,none⟩ u).cell? q=some v:=by
 rw [World.cell?_setCell_other _ _ _ _ (fun e=>hne (by rw [←e])),h]
theorem OneRel.dr {w wr wr':World} {g y:Nat} {l:List Nat} {N j:Nat} {rv:Value} (h:OneRel w g y l N j rv wr) (hd:Dr wr wr'):OneRel w g y l N j rv wr':=by
 obtain ⟨k,rfl⟩:=hd
 exact h.drewN k
attribute [local go_sem ↓] Go.wp_at_zero Go.wp_at_succ
set_option maxHeartbeats 2000000 in
theorem div_one {B B':Nat} {A A':Option Addr} {l m:List Nat} {n c n' c':Nat} {w:World} (hs:SlU w B A n c l) (ht:SlU w B' A' n' c' m) (hn:n≤67108863) (hB:B≤w.heap.size) (hB':B'≤w.heap.size) (hge:nv W m≤nv W l) (hone:tlen m=1) :
  Calls Tryz.prog 179 #[.slice A n c,.slice A' n' c'] w (DivPost w (nv W l) (nv W m) (n+1)):=by
 have H1:=Lib.hid (trim_any hs)
 have H2:=Lib.hid (trim_any ht)
 obtain ⟨cv,hcv⟩:∃ cv,cmpN (nv W l) (nv W m)=cv:=⟨_,rfl⟩
 have hcd:decide (cv<0)=false:=decide_eq_false (by rw [←hcv];unfold cmpN;split <;> (try split) <;> omega)
 have HC:=Lib.hid (cmp_v hs.tr ht.tr (v:=cv) (by rw [nv_tr,nv_tr,hcv]))
 have hl1:=tlen_le l
 have hl2:=hs.len
 have h3:=hs.tr
 have h4:=ht.tr
 have hmv:=nv_pos_of (l:=m) (by omega)
 rw [←nv_tr W l,←nv_tr W m]
 rw [←nv_tr W m] at hmv
 rw [hone] at H2 h4 HC
 generalize tr l=l' at *
 generalize tr m=m' at *
 generalize tlen l=N at *
 have hmk:=makeU N (by omega)
 obtain ⟨y,rfl⟩:∃ y,m' = [y]:=by
  have:=h4.len
  match m',this with
  | [y],_=>exact ⟨y,rfl⟩
 rw [nv_single] at hmv ⊢
 have hy:y<4294967296:=h4.dig.head
 obtain ⟨bb,oo,rfl,hbb,hcy⟩:=h4.at_ (by omega)
 have hcy:=hcy 0 (by omega)
 simp only [List.getD_cons_zero,Nat.add_zero] at hcy
 have hlen:=h3.len
 have HST:=Lib.hid (fun w1 (hd:Dr w w1)=>OneRel.start (w:=w) (w0:=w1) (y:=y) hmv hlen (by simp [maxLen];omega) (hd.below _))
 have HDl:=Lib.hid h3.dig
 have HLen:=Lib.hid hlen
 have hN9:N≤1000000000:=by omega
 have HNn:=Lib.hid (show N≤n+1 by omega)
 clear hs ht hn hl1 hl2 hone hge hcv h4 hlen
 go_enter Tryz.func179,Tryz.ntmps179
 go_wp2_with fail
 refine H1.out.mono ?_;rintro e w' ⟨rfl,rfl⟩
 go_wp2_with fail
 refine H2.out.mono ?_;rintro e w' ⟨rfl,rfl⟩
 go_wp2_with fail
 refine HC.out.mono ?_;rintro e w1 ⟨rfl,hdr⟩
 go_wp2_with fail
 have HS1:=Lib.hid (HST.out _ hdr)
 have HG:=Lib.hid (show w.heap.size≤w1.heap.size by rw [hdr.heap];exact Nat.le_refl _)
 clear hdr
 go_loopw [7,8] (fun rv iv wr=>∃ j:Nat,j≤N∧iv = .int .i64 ((j:Int) - 1)∧OneRel w w1.heap.size y l' N j rv wr) (fun _ iv _=>(intOf iv+1).toNat)
 case atStart=>exact ⟨N,Nat.le_refl _,rfl,HS1.out⟩
 case round=>
  obtain ⟨j,hj,rfl,hrel⟩:=hrel
  by_cases h0:j=0
  ·subst h0
   obtain ⟨o,r,rfl,hr,h1,h2,h5,h6,h7⟩:=hrel
   have HO:=Lib.hid h6
   have HB:=Lib.hid h7
   have HO2:=Lib.hid (h6.alloc (.cells #[.int .u32 (r:Int)] 79))
   have HR2:=Lib.hid (Own.of_block (B:=w.heap.size) (xs:=u32s [r]) (t:=79) (heap_alloc_new wr _) h7.size (by simp [u32s_length,maxLen]))
   have HV:=Lib.hid h5
   have HI:=Lib.hid h1
   have HDo:=Lib.hid h2
   have HRy:=Lib.hid hr
   have HLT:=Lib.hid (show w1.heap.size<wr.heap.size by
    rcases h6.form with ⟨h,_⟩ | ⟨g,hg,_,hlt⟩
    ·cases h
    ·injection hg with hg;injection hg with hg;omega)
   clear h6 h7 h5 h1 h2 hr hcy hmk
   go_wp2_with fail
   go_ret2
   have hv:=HV.out
   rw [List.drop_zero,List.drop_zero] at hv
   have hq:nv W l' / y=nv W o:=by rw [←hv,Nat.add_comm,Nat.add_mul_div_right _ _ hmv,Nat.div_eq_of_lt HRy.out,Nat.zero_add]
   have hrr:nv W l' % y=r:=by rw [←hv,Nat.add_comm,Nat.add_mul_mod_self_right,Nat.mod_eq_of_lt HRy.out]
   refine ⟨_,_,_,_,_,_,o,[r],rfl,HO2.out,HI.out,HDo.out,hq.symm,HNn.out,HR2.out,rfl,Dig.cons (Nat.lt_trans HRy.out hy) (Dig.nil _),by rw [hrr];simp [nv],by omega,.inr ?_,HB.out.alloc (by exact HB.out.size) _⟩
   intro e
   have:=HLT.out
   injection e with e;injection e with e
   omega
  ·obtain ⟨i,rfl⟩:∃ i,j=i+1:=⟨j - 1,by omega⟩
   obtain ⟨b,off,rfl,hba,hcell⟩:=h3.at_ (by omega)
   obtain ⟨r,x,rfl,hr,hxe,hx,⟨u,hcu⟩,hfz,hbel,hstep⟩:=hrel.facts (by omega) HDl.out HLen.out hy HG.out
   have hcx:=(hbel.cell (p:=⟨b,off+i,none⟩) (Nat.lt_of_lt_of_le hba hB)).trans (hcell i (by omega))
   have hcy:=(hbel.cell (p:=⟨bb,oo,none⟩) (Nat.lt_of_lt_of_le hbb hB')).trans hcy
   rw [hxe] at hcx
   have HS:=Lib.hid hstep
   have HA:=Lib.hid (fun w1=>div32_any r x y w1 hr hy hx)
   have hne1:b≠w1.heap.size:=by have:=HG.out;omega
   have hne2:bb≠w1.heap.size:=by have:=HG.out;omega
   have hi0:(0:Int)≤(i:Int):=by omega
   have hi1:(i:Int)<(N:Int):=by omega
   clear hstep hxe hcell hrel h3 h0 HS1 hmk
   go_wp2_with fail
   go_region_held3 (fun w'=>w'.cell? ⟨b,off+i,none⟩=some (.int .u32 (x:Int))∧w'.cell? ⟨bb,oo,none⟩=some (.int .u32 (y:Int)))
    (first
     | (go_keep;done)
     | (obtain ⟨S1,S2⟩:_∧_:=by assumption
        first | exact ⟨(hdr2.cell _).trans S1,(hdr2.cell _).trans S2⟩ | exact ⟨far1 S1 hne1,far1 S2 hne2⟩))
    (first
     | (go_at_call 44;(with_reducible refine (HA.out _).mono ?_);rintro e w5 ⟨rfl,hdr2⟩;have hcu5:=(hdr2.cell _).trans hcu;have hfz5:=(hdr2.frozen _).trans hfz))
   all_goals
    go_wp2_with fail
    go_roundw
    case rel=>exact ⟨i,by omega,by go_num,HS.out.dr ((Dr.trans (Dr.refl wr).drew hdr2).setCell _ _)⟩
    case measure=>simp [intOf]
end
section
open Go.RowKit Hb
theorem lead_num {top:Nat} (h0:top≠0) (hlt:top<4294967296):32 - blen top<32∧2147483648≤top * 2 ^ (32 - blen top)∧top * 2 ^ (32 - blen top)<4294967296∧blen top≤32∧(top+1) * 2 ^ (32 - blen top)≤4294967296:=by
 obtain ⟨h1,h2⟩:=blen_bounds h0
 have hp:=blen_pos h0
 have h32:=blen32 hlt
 have e1:2 ^ (blen top - 1) * 2 ^ (32 - blen top)=2147483648:=by rw [←Nat.pow_add,show blen top - 1+(32 - blen top)=31 by omega]
 have e2:2 ^ blen top * 2 ^ (32 - blen top)=4294967296:=by rw [←Nat.pow_add,show blen top+(32 - blen top)=32 by omega]
 have h3:=Nat.mul_le_mul_right (2 ^ (32 - blen top)) h1
 have h4:=Nat.mul_le_mul_right (2 ^ (32 - blen top)) (show top+1≤2 ^ blen top from h2)
 have h5:(top+1) * 2 ^ (32 - blen top)=top * 2 ^ (32 - blen top)+2 ^ (32 - blen top):=by rw [Nat.add_mul,Nat.one_mul]
 have h6:0<2 ^ (32 - blen top):=Nat.pow_pos (by decide)
 omega
theorem nv_top {l:List Nat} {M:Nat} (hd:Dig W l) (hl:l.length=M+1):l.getD M 0 * W ^ M≤nv W l∧nv W l<(l.getD M 0+1) * W ^ M:=by
 have h1:=nvp_succ W l M
 rw [nvp_all (by omega)] at h1
 have h2:=nvp_lt hd (by decide) M
 rw [Nat.add_mul,Nat.one_mul,Nat.mul_comm _ (W ^ M)]
 omega
theorem shifted_len {m o:List Nat} {M s:Nat} (hm:Dig W m) (hml:m.length=M+1) (ho:Dig W o) (hol:o.length=M+1+1) (ht0:m.getD M 0≠0) (hs:s=32 - blen (m.getD M 0)) (hv:nv W o=nv W m * 2 ^ s) :
  tlen o=M+1∧2147483648≤(tr o).getD M 0:=by
 have htl:m.getD M 0<4294967296:=hm.getD (by decide) M
 obtain ⟨_,g1,g2,_,g3⟩:=lead_num ht0 htl
 rw [←hs] at g1 g2 g3
 obtain ⟨t1,t2⟩:=nv_top hm hml
 have hp:0<W ^ M:=Nat.pow_pos (by decide)
 have hhi:nv W o<W ^ (M+1):=by
  rw [hv]
  have a:=Nat.mul_lt_mul_of_pos_right t2 (show 0<2 ^ s from Nat.pow_pos (by decide))
  have b:(m.getD M 0+1) * W ^ M * 2 ^ s≤W ^ (M+1):=by
   rw [Nat.mul_right_comm,Nat.pow_succ,Nat.mul_comm (W ^ M) W]
   exact Nat.mul_le_mul_right _ g3
  omega
 have hlo:2147483648 * W ^ M≤nv W o:=by
  rw [hv]
  have a:=Nat.mul_le_mul_right (2 ^ s) t1
  have b:2147483648 * W ^ M≤m.getD M 0 * W ^ M * 2 ^ s:=by
   rw [Nat.mul_right_comm];exact Nat.mul_le_mul_right _ g1
  omega
 have hd:=ho.tr
 have hlen:(tr o).length=M+1:=by
  rw [tr_eq_digs (b:=W) (by decide) ho]
  have a:(digs W (nv W o)).length≤M+1:=digs_length_le (by decide) hhi
  rcases Nat.lt_or_ge M (digs W (nv W o)).length with h | h
  ·omega
  ·have b:=lt_of_digs_length (b:=W) (by decide) h
   have e:1 * W ^ M≤2147483648 * W ^ M:=Nat.mul_le_mul_right _ (by decide)
   rw [Nat.one_mul] at e
   omega
 refine ⟨by rw [←tr_length,hlen],?_⟩
 obtain ⟨u1,u2⟩:=nv_top hd hlen
 rw [nv_tr] at u2
 rcases Nat.lt_or_ge ((tr o).getD M 0) 2147483648 with h | h
 ·have a:=Nat.mul_le_mul_right (W ^ M) (show (tr o).getD M 0+1≤2147483648 from h)
  omega
 ·exact h
def QRel (Bo:Nat) (wb:World) (gu go_ N M j:Nat) (V U0:Nat) (wr:World):Prop:=
 ∃ L o:List Nat,L.length=N+1∧Dig W L∧o.length=N - M+1∧Dig W o∧nv W L+V * (W ^ j * nv W (o.drop j))=U0∧nv W (L.drop j)<V ∧
  UBu wr gu L∧OwnU wr Bo (some ⟨go_,0,none⟩) (N - M+1) (N - M+1) (u32s o)∧Below gu wb wr
theorem kn_arith (b p x y z l:Nat):l+p * x+p * b * y+p * b * b * z=((z * b+y) * b+x) * p+l:=by
 simp only [Nat.add_mul,Nat.mul_assoc]
 have c1:p * (b * (b * z))=z * (b * (b * p)):=by simp only [Nat.mul_comm,Nat.mul_left_comm]
 have c2:p * (b * y)=y * (b * p):=by simp only [Nat.mul_comm,Nat.mul_left_comm]
 have c3:p * x=x * p:=Nat.mul_comm _ _
 omega
theorem kn_arith2 (b p x y l:Nat):l+p * x+p * b * y=(y * b+x) * p+l:=by
 simp only [Nat.add_mul,Nat.mul_assoc]
 have c2:p * (b * y)=y * (b * p):=by simp only [Nat.mul_comm,Nat.mul_left_comm]
 have c3:p * x=x * p:=Nat.mul_comm _ _
 omega
theorem QRel.kn {L vl:List Nat} {N M k V:Nat} (hL:Dig W L) (hLl:L.length=N+1) (hvl:Dig W vl) (hvlen:vl.length=M) (hM:2≤M) (hk:k+M+1≤N+1) (hV:nv W vl=V) (htop:2147483648≤vl.getD (M - 1) 0) (hlt:nv W (L.drop (k+1))<V) :
  Kn W (L.getD (k+M) 0 * 4294967296+L.getD (k+(M - 1)) 0) (L.getD (k+(M - 2)) 0) (nvp W (L.drop k) (M - 2)) (vl.getD (M - 1) 0) (vl.getD (M - 2) 0) (nvp W vl (M - 2)) (W ^ (M - 2)) (nvp W (L.drop k) (M+1)) V ∧
   nv W (L.drop k)=nvp W (L.drop k) (M+1)∧nv W (L.drop (k+M+1))=0:=by
 have hVlt:V<W ^ M:=by rw [←hV,←hvlen];exact nv_lt hvl
 have e0:=drop_nv W L (k:=k) (by omega)
 have hz:nv W (L.drop (k+M+1))=0:=by
  have:=nv_drop_zero (b:=W) (l:=L.drop (k+1)) (M:=M) (by decide) (by omega) (by rw [List.length_drop];omega)
  rwa [List.drop_drop,show k+1+M=k+M+1 by omega] at this
 have hk0:L.getD k 0<4294967296:=hL.getD (by decide) k
 have e1:nv W (L.drop k)=nvp W (L.drop k) (M+1):=by
  have:=nv_split (b:=W) (l:=L.drop k) (k:=M+1) (by rw [List.length_drop];omega)
  rw [List.drop_drop,show k+(M+1)=k+M+1 by omega,hz,Nat.mul_zero,Nat.add_zero] at this
  exact this
 obtain ⟨P,rfl⟩:∃ P,M=P+2:=⟨M - 2,by omega⟩
 simp only [Nat.add_sub_cancel,show P+2 - 1=P+1 by omega] at *
 have a1:=nvp_succ W (L.drop k) P
 have a2:=nvp_succ W (L.drop k) (P+1)
 have a3:=nvp_succ W (L.drop k) (P+2)
 have b1:=nvp_succ W vl P
 have b2:=nvp_succ W vl (P+1)
 rw [getD_drop] at a1 a2 a3
 rw [nvp_all (by omega),hV] at b2
 refine ⟨⟨?_,?_,nvp_lt (hL.drop k) (by decide) P,nvp_lt hvl (by decide) P,hL.getD (by decide) _,hvl.getD (by decide) _,by omega,?_⟩,e1,hz⟩
 ·rw [a3,a2,a1,Nat.pow_succ,Nat.pow_succ]
  exact kn_arith W (W ^ P) _ _ _ _
 ·rw [b2,b1,Nat.pow_succ]
  exact kn_arith2 W (W ^ P) _ _ _
 ·rw [←e1,e0]
  have:=Nat.mul_le_mul_left W (show nv W (L.drop (k+1))+1≤V from hlt)
  rw [Nat.mul_add] at this
  have hW:W * 1=4294967296:=rfl
  omega
theorem UB_far {t:TypeId} {w:World} {g:Nat} {L:List Nat} (h:UB t w g L) {p:Addr} (hp:g≠p.block) (u:Value):UB t (w.setCell p u) g L:=(Below.heap_setCell w p u g hp).trans h
theorem QRel.start {Bo:Nat} {wb wr:World} {gu go_ N M V U0:Nat} {L:List Nat} (hL:Dig W L) (hLl:L.length=N+1) (hU:nv W L=U0) (hlt:nv W (L.drop (N - M+1))<V) (hub:UBu wr gu L) (ho:OwnU wr Bo (some ⟨go_,0,none⟩) (N - M+1) (N - M+1) (u32s (List.replicate (N - M+1) 0))) (hb:Below gu wb wr) :
  QRel Bo wb gu go_ N M (N - M+1) V U0 wr:=
 ⟨L,_,hLl,hL,by simp,Dig.replicate _ _ (by decide),by rw [List.drop_eq_nil_of_le (by rw [List.length_replicate];exact Nat.le_refl _),nv_nil,Nat.mul_zero,Nat.mul_zero,Nat.add_zero];exact hU,hlt,hub,ho,hb⟩
theorem QRel.use {Bo:Nat} {wb wr:World} {gu go_ N M k V U0:Nat} {vl:List Nat} (h:QRel Bo wb gu go_ N M (k+1) V U0 wr) (hkM:k+M≤N) (hM:2≤M) (hvl:Dig W vl) (hvlen:vl.length=M) (hV:nv W vl=V) (htop:2147483648≤vl.getD (M - 1) 0) (hgg:gu<go_) :
  ∃ L,UBu wr gu L∧Dig W L∧L.length=N+1∧Below gu wb wr ∧
   Kn W (L.getD (k+M) 0 * 4294967296+L.getD (k+(M - 1)) 0) (L.getD (k+(M - 2)) 0) (nvp W (L.drop k) (M - 2)) (vl.getD (M - 1) 0) (vl.getD (M - 2) 0) (nvp W vl (M - 2)) (W ^ (M - 2)) (nvp W (L.drop k) (M+1)) V ∧
   ∀ L2 w',RowSt wr gu k M L L2 w'→nvp W (L2.drop k) (M+1)=nvp W (L.drop k) (M+1) % V →
    (∃ u,w'.cell? ⟨go_,k,none⟩=some u)∧w'.frozen? ⟨go_,k,none⟩=false∧QRel Bo wb gu go_ N M k V U0 (w'.setCell ⟨go_,k,none⟩ (.int .u32 ((nvp W (L.drop k) (M+1) / V:Nat):Int))):=by
 obtain ⟨L,o,h1,h2,h3,h4,h5,h6,h7,h8,h9⟩:=h
 obtain ⟨hK,e1,e2⟩:=QRel.kn h2 h1 hvl hvlen hM (by omega) hV htop h6
 refine ⟨L,h7,h2,h1,h9,hK,?_⟩
 rintro L2 w' ⟨r1,r2,r3,r4,r5,r6⟩ hr
 have hV0:0<V:=by omega
 have ho':OwnU w' Bo (some ⟨go_,0,none⟩) (N - M+1) (N - M+1) (u32s o):=
  World.ownsRow.kept h8 r6 (.inr (by simp [Value.ownBlock];omega))
 have hq:nvp W (L.drop k) (M+1) / V<4294967296:=Nat.div_lt_of_lt_mul (by have:=hK.hUV;rwa [Nat.mul_comm] at this)
 refine ⟨⟨_,by rw [ho'.cell (by omega),u32s_get (by omega)]⟩,ho'.frozen k,L2,o.set k (nvp W (L.drop k) (M+1) / V),by omega,r2,by simpa using h3,h4.set hq _,?_,?_,UB_far r5 (by simp;omega) _,?_,(h9.trans (gb_below r6 (Nat.le_refl _) (Nat.le_of_lt h7.lt))).setCell (by simp;omega) _⟩
 ·
  have s1:=nv_split (b:=W) (l:=L) (k:=k) (by omega)
  have s2:=nv_split (b:=W) (l:=L2) (k:=k) (by omega)
  have s3:nv W (L2.drop k)=nvp W (L2.drop k) (M+1):=by
   have:=nv_split (b:=W) (l:=L2.drop k) (k:=M+1) (by rw [List.length_drop];omega)
   rw [List.drop_drop,show k+(M+1)=k+M+1 by omega,r4,e2,Nat.mul_zero,Nat.add_zero] at this
   exact this
  have e3:(o.set k (nvp W (L.drop k) (M+1) / V)).drop k=(nvp W (L.drop k) (M+1) / V) :: o.drop (k+1):=by
   rw [List.drop_eq_getElem_cons (by simp;omega),List.getElem_set_self,drop_set_hi (by omega)]
  rw [e3,nv_cons,s2,s3,hr,r3,Nat.mul_add,Nat.mul_add]
  rw [s1,e1] at h5
  have hdm:=Nat.div_add_mod (nvp W (L.drop k) (M+1)) V
  have h10:W ^ k * (V * (nvp W (L.drop k) (M+1) / V)+nvp W (L.drop k) (M+1) % V)=W ^ k * nvp W (L.drop k) (M+1):=by rw [hdm]
  rw [Nat.mul_add] at h10
  rw [Nat.pow_succ,Nat.mul_assoc (W ^ k)] at h5
  have h11:V * (W ^ k * (nvp W (L.drop k) (M+1) / V))=W ^ k * (V * (nvp W (L.drop k) (M+1) / V)):=Nat.mul_left_comm _ _ _
  omega
 ·have s3:nv W (L2.drop k)=nvp W (L2.drop k) (M+1):=by
   have:=nv_split (b:=W) (l:=L2.drop k) (k:=M+1) (by rw [List.length_drop];omega)
   rw [List.drop_drop,show k+(M+1)=k+M+1 by omega,r4,e2,Nat.mul_zero,Nat.add_zero] at this
   exact this
  rw [s3,hr];exact Nat.mod_lt _ hV0
 ·have:=ho'.set_ k (.int .u32 ((nvp W (L.drop k) (M+1) / V:Nat):Int))
  rwa [u32s_set] at this
theorem lz_any (x:Nat) (w:World) (hx:x<4294967296) :
  Calls Tryz.prog 212 #[.int .u32 (x:Int)] w fun e w'=>e = .returned (.int .i64 ((32 - blen x:Nat):Int))∧w=w':=
 (Tryz.bits_LeadingZeros32 (x:Int) w (by omega) (by omega)).mono fun e w' ⟨he,hw⟩=>⟨by rw [he,Int.toNat_natCast,bitLen_blen x hx];exact ret_int (by have:=blen32 hx;omega),hw.symm⟩
theorem down_expr {s x y:Nat} (hs:s<32) (hx:x<4294967296) (hy:y<4294967296) :
  bits .or .u32 ((x:Int) / 2 ^ s) (IntKind.u64.wrap ((y:Int) * 2 ^ (32 - s)) % 4294967296)=((x / 2 ^ s+y * 2 ^ (32 - s) % 4294967296:Nat):Int):=by
 have hb:(4294967296:Nat)=2 ^ s * 2 ^ (32 - s):=by rw [←Nat.pow_add,show s+(32 - s)=32 by omega]
 have h1:x / 2 ^ s<2 ^ (32 - s):=Nat.div_lt_of_lt_mul (by rw [←hb];exact hx)
 have h2:(2:Nat) ^ (32 - s)≤2 ^ 32:=Nat.pow_le_pow_right (by decide) (by omega)
 have h3:y * 2 ^ (32 - s)≤4294967295 * 2 ^ (32 - s):=Nat.mul_le_mul_right _ (by omega)
 have e1:(x:Int) / 2 ^ s=((x / 2 ^ s:Nat):Int):=by simp
 have e2:(y:Int) * 2 ^ (32 - s)=((y * 2 ^ (32 - s):Nat):Int):=by simp
 rw [e1,e2,IntKind.wrap_u64,show ((y * 2 ^ (32 - s):Nat):Int) % 18446744073709551616=((y * 2 ^ (32 - s):Nat):Int) by omega]
 exact or_hi_lo_u32 _ _ (by omega) h1 (Nat.mul_mod_left _ _)
set_option maxRecDepth 100000 in
set_option maxHeartbeats 4000000 in
theorem div_long {B B':Nat} {A A':Option Addr} {l m:List Nat} {n c n' c':Nat} {w:World} (hs:SlU w B A n c l) (ht:SlU w B' A' n' c' m) (hn:n≤67108863) (hB:B≤w.heap.size) (hB':B'≤w.heap.size) (hge:nv W m≤nv W l) (hM:2≤tlen m) :
  Calls Tryz.prog 179 #[.slice A n c,.slice A' n' c'] w (DivPost w (nv W l) (nv W m) (n+1)):=by
 have H1:=Lib.hid (trim_any hs)
 have H2:=Lib.hid (trim_any ht)
 obtain ⟨cv,hcv⟩:∃ cv,cmpN (nv W l) (nv W m)=cv:=⟨_,rfl⟩
 have hcd:decide (cv<0)=false:=decide_eq_false (by rw [←hcv];unfold cmpN;split <;> (try split) <;> omega)
 have HC:=Lib.hid (cmp_v hs.tr ht.tr (v:=cv) (by rw [nv_tr,nv_tr,hcv]))
 have hl1:=tlen_le l
 have hl2:=hs.len
 have h3:=hs.tr
 have h4:=ht.tr
 have hMN:tlen m≤tlen l:=by
  rcases Nat.lt_or_ge (tlen l) (tlen m) with h | h
  ·have:=nv_lt_of_len (b:=W) (by decide) hs.dig.tr (tr_nrm m) (by rw [tr_length,tr_length];exact h)
   rw [nv_tr,nv_tr] at this
   omega
  ·exact h
 have htop0:(tr m).getD (tlen m - 1) 0≠0:=by
  have:=nrm_getD (tr_nrm m) (by rw [←List.length_pos_iff,tr_length];omega)
  rwa [tr_length] at this
 rw [←nv_tr W l,←nv_tr W m]
 generalize tr l=l' at *
 generalize tr m=m' at *
 generalize tlen l=N at *
 generalize tlen m=M at *
 have htb:m'.getD (M - 1) 0<4294967296:=h4.dig.getD (by decide) _
 obtain ⟨bb,oo,rfl,hbb,hcy⟩:=h4.at_ (by omega)
 have hctop:=hcy (M - 1) (by omega)
 obtain ⟨s,hse⟩:∃ s,s=32 - blen (m'.getD (M - 1) 0):=⟨_,rfl⟩
 have hs32:s<32:=by rw [hse];exact (lead_num htop0 htb).1
 have HLZ:=Lib.hid (fun w1=>lz_any (m'.getD (M - 1) 0) w1 htb)
 rw [←hse] at HLZ
 have HSE:=Lib.hid hse
 have HT0:=Lib.hid htop0
 have HSH1:=Lib.hid (fun w1 (hd:Dr w w1)=>shl_any (h4.below (hd.below w.heap.size) hB') (by omega) (by rw [hd.heap];exact hB') hs32)
 have HSH2:=Lib.hid (fun w1 (hd:Below w.heap.size w w1)=>shl_any (h3.below hd hB) (by omega) (Nat.le_trans hB hd.size) hs32)
 have H3:=Lib.hid h3
 have H4:=Lib.hid h4
 have hN9:N≤100000000:=by omega
 obtain ⟨K,hK⟩:∃ K,K=N - M:=⟨_,rfl⟩
 have hNK:(N:Int) - (M:Int)=(K:Int):=by omega
 have hmk:=fun w=>by
  have h:=makeU (K+1) (by omega) w
  rw [show ((K+1:Nat):Int)=(K:Int)+1 from by omega] at h
  exact h
 have HKe:=Lib.hid hK
 have HM2:=Lib.hid hM
 have HSF:=Lib.hid (show ∀ o:List Nat,Dig W o→o.length=M+1→nv W o=nv W m' * 2 ^ s→tlen o=M∧2147483648≤(tr o).getD (M - 1) 0 by
  intro o ho hol hv
  have:=shifted_len (m:=m') (M:=M - 1) h4.dig (by rw [h4.len];omega) ho (by omega) htop0 hse hv
  rwa [show M - 1+1=M by omega] at this)
 have HKM:=Lib.hid (show K≤n by omega)
 clear hK
 have HNn:=Lib.hid (show N≤n by omega)
 have hM1:((M:Int)==1)=false:=beq_eq_false_iff_ne.2 (by omega)
 generalize m'.getD (M - 1) 0=top at *
 have hMN0:M≤N:=hMN
 clear hs ht hn hl1 hl2 hge hcv hcy h3 h4 htop0 hse
 go_enter Tryz.func179,Tryz.ntmps179
 go_wp2_with fail
 refine H1.out.mono ?_;rintro e w' ⟨rfl,rfl⟩
 go_wp2_with fail
 refine H2.out.mono ?_;rintro e w' ⟨rfl,rfl⟩
 go_wp2_with fail
 refine HC.out.mono ?_;rintro e w1 ⟨rfl,hdr⟩
 have hctop1:=(hdr.cell _).trans hctop
 have HDR:=Lib.hid hdr
 clear hdr
 go_wp2_with fail
 refine (HLZ.out _).mono ?_;rintro e w' ⟨rfl,rfl⟩
 go_wp2_with fail
 refine (HSH1.out _ HDR.out).mono ?_
 rintro e w2 ⟨rfl,o1,ho1l,ho1d,_,ho1v,ho1,hb1⟩
 obtain ⟨et,ev1⟩:=HSF.out o1 ho1d ho1l ho1v
 have HTR:=Lib.hid (trim_any (ho1.sl ho1d ho1l))
 rw [et] at HTR
 have HB2:=Lib.hid ((HDR.out.below w.heap.size).trans (hb1.mono (by rw [HDR.out.heap];exact Nat.le_refl _)))
 have HV:=Lib.hid (show SlU w2 w2.heap.size (some ⟨w1.heap.size,0,none⟩) M (M+1) (tr o1) by
  have:=SlU.tr (ho1.sl ho1d ho1l)
  rw [et] at this
  exact this)
 have HE1:=Lib.hid ev1
 have HOV:=Lib.hid ho1v
 clear ho1 ho1l ho1d ho1v hb1 et ev1
 go_wp2_with fail
 refine HTR.out.mono ?_;rintro e w' ⟨rfl,rfl⟩
 go_wp2_with fail
 refine (HSH2.out _ HB2.out).mono ?_
 rintro e w3 ⟨rfl,o2,ho2l,ho2d,ho2t,ho2v,ho2,hb2⟩
 have HV3:=Lib.hid (HV.out.below hb2 (Nat.le_refl _))
 have HB3:=Lib.hid (HB2.out.trans (hb2.mono HB2.out.size))
 obtain ⟨gu,hgu⟩:∃ gu,gu=w2.heap.size:=⟨_,rfl⟩
 obtain ⟨g1,hg1⟩:∃ g1,g1=w1.heap.size:=⟨_,rfl⟩
 obtain ⟨go_,hgo⟩:∃ go_,go_=w3.heap.size:=⟨_,rfl⟩
 have HU3:=Lib.hid ho2.ub
 have hlt:gu<go_:=by have:=ho2.ub.lt;omega
 rw [←hgu] at HU3 HV3 ⊢
 rw [←hg1] at HV3 ⊢
 have hmk3:=hmk w3
 rw [←hgo] at hmk3
 have Hgu:=Lib.hid hgu
 have Hgo:=Lib.hid hgo
 clear hmk ho2 HV hgu hg1 hgo
 go_wp2_with fail
 obtain ⟨wb,HQ0,HVb,HBb⟩:∃ wb:World,Hid (QRel w.heap.size wb gu go_ N M (K+1) (nv W (tr o1)) (nv W o2) (w3.alloc (.cells (madeCells #[.int .u32 0] (K+1)) 79)))∧Hid (SlU wb gu (some ⟨g1,0,none⟩) M (M+1) (tr o1)) ∧
   Hid (Below w.heap.size w wb∧w.heap.size≤gu):=by
  have hwgu:w.heap.size≤gu:=by have:=HB2.out.size;have:=Hgu.out;omega
  refine ⟨w3.alloc (.cells (madeCells #[.int .u32 0] (K+1)) 79),?_,(HV3.out.below ((Below.refl _ _).alloc (Nat.le_refl _) _) (by have:=HU3.out.lt;omega)),(HB3.out.alloc HB3.out.size _),hwgu⟩
  have hk1:N - M+1=K+1:=by have:=HKe.out;omega
  have hq:=QRel.start (Bo:=w.heap.size) (wb:=w3.alloc (.cells (madeCells #[.int .u32 0] (K+1)) 79)) (wr:=w3.alloc (.cells (madeCells #[.int .u32 0] (K+1)) 79)) (gu:=gu) (go_:=go_) (M:=M) (V:=nv W (tr o1)) ho2d ho2l rfl ?_ ?_ ?_ (Below.refl _ _)
  ·rw [hk1] at hq;exact hq
  ·have hM2:=HM2.out
   have hdl:(o2.drop (N - M+1)).length=(M - 1)+1:=by rw [List.length_drop];omega
   have t1:=(nv_top (ho2d.drop (N - M+1)) hdl).2
   have t2:=(nv_top (HV3.out.dig) (show (tr o1).length=(M - 1)+1 by rw [HV3.out.len];omega)).1
   rw [getD_drop,show N - M+1+(M - 1)=N by omega] at t1
   have h31:(2:Nat) ^ s≤2 ^ 31:=Nat.pow_le_pow_right (by decide) (by omega)
   have:=Nat.mul_le_mul_right (W ^ (M - 1)) (show o2.getD N 0+1≤(tr o1).getD (M - 1) 0 by have:=HE1.out;omega)
   omega
  ·exact (Below.heap_alloc w3 _ gu HU3.out.lt).trans HU3.out
  ·rw [hk1,←u32s_zeros,Hgo.out];exact Own.made w3 _ _ _ HB3.out.size (by simp [maxLen];omega)
 have HO2:=Lib.hid (And.intro ho2v HOV.out)
 clear ho2l ho2d ho2t ho2v hb2 HU3 HV3 hmk3 HTR HSH1 HSH2 HLZ HSF hctop hctop1 H1 H2 HC hcd htb
 go_loopw [13] (fun iv wr=>∃ j:Nat,j≤K+1∧iv = .int .i64 ((j:Int) - 1)∧QRel w.heap.size wb gu go_ N M j (nv W (tr o1)) (nv W o2) wr) (fun iv _=>(intOf iv+1).toNat)
 case atStart=>exact ⟨K+1,Nat.le_refl _,by go_num,HQ0.out⟩
 case round=>
  obtain ⟨j,hj,rfl,hrel⟩:=hrel
  by_cases h0:j=0
  ·subst h0
   obtain ⟨L,o,hLl,hLd,hol,hod,hsum,hltV,hub,hown,hbel⟩:=hrel
   rw [Nat.pow_zero,Nat.one_mul,List.drop_zero] at hsum
   rw [List.drop_zero] at hltV
   have HD0:=Lib.hid (show DownRel w.heap.size wb gu go_ N M s 0 L o wr from ⟨L,hLl,hLd,rfl,by simp [nvp_zero],hub,hown,hbel⟩)
   have HSum:=Lib.hid (And.intro hsum hltV)
   have HLo:=Lib.hid (And.intro (And.intro hLl hLd) (And.intro hol hod))
   clear hLl hLd hol hod hsum hltV hub hown hbel HQ0
   go_wp2_with fail
   go_loopw [15] (fun iv wr=>∃ i:Nat,i≤N∧iv = .int .i64 i∧DownRel w.heap.size wb gu go_ N M s i L o wr) (fun iv _=>N - (intOf iv).toNat)
   case atStart=>exact ⟨0,Nat.zero_le _,rfl,HD0.out⟩
   case round=>
    obtain ⟨i,hi,rfl,hdn⟩:=hrel
    by_cases hiN:i<N
    ·obtain ⟨x,y,hx,hy,hcx,hcy,hfz,hnew,hstep⟩:=hdn.facts hs32 HLo.out.1.2 HLo.out.1.1 hiN hlt
     have HS:=Lib.hid hstep
     have hi0:(0:Int)≤(i:Int):=by omega
     have hi1:(i:Int)<(N:Int)+1:=by omega
     have hi2:(i:Int)+1<(N:Int)+1:=by omega
     have hiN2:(i:Int)<(N:Int):=by omega
     have hs0:(0:Int)≤(s:Int):=by omega
     have hs1:(s:Int)<32:=by omega
     have hde:=down_expr hs32 hx hy
     obtain ⟨e,he⟩:∃ e:Nat,x / 2 ^ s+y * 2 ^ (32 - s) % 4294967296=e:=⟨_,rfl⟩
     rw [he] at hde HS
     clear hstep hdn HD0 hnew he
     go_wp2_with fail
     go_region
     all_goals
      go_wp2_with fail
      go_roundw
      case rel=>exact ⟨i+1,by omega,by go_num,HS.out.drew⟩
      case measure=>simp [intOf];omega
    ·obtain rfl:i=N:=by omega
     obtain ⟨L3,h31,h32,h33,h34,h35,h36,h37⟩:=hdn
     have hfin:nv W (L3.take M)=nv W L / 2 ^ s:=by
      have hLN:nv W L<W ^ M:=by
       have a:=nv_lt HVb.out.dig
       rw [HVb.out.len] at a
       exact Nat.lt_trans HSum.out.2 a
      have hz:L.getD i 0=0:=by
       have a:=nv_drop_zero (b:=W) (l:=L) (by decide) hLN (by have:=HLo.out.1.1;omega)
       have b:=nv_drop_zero (b:=W) (l:=L) (M:=i) (by decide) (Nat.lt_of_lt_of_le hLN (Nat.pow_le_pow_right (by decide) hMN0)) (by have:=HLo.out.1.1;omega)
       rw [drop_nv W L (by have:=HLo.out.1.1;omega)] at b
       omega
      have hdz:nv W (L.drop i)=0:=by
       have b:=nv_drop_zero (b:=W) (l:=L) (M:=i) (by decide) (Nat.lt_of_lt_of_le hLN (Nat.pow_le_pow_right (by decide) hMN0)) (by have:=HLo.out.1.1;omega)
       exact b
      rw [hdz,Nat.zero_div,Nat.mul_zero,Nat.add_zero] at h34
      have hlt2:nvp W L3 i<W ^ M:=by rw [h34];exact Nat.lt_of_le_of_lt (Nat.div_le_self _ _) hLN
      have:=nvp_mono hlt2 (by decide) hMN0
      unfold nvp at this h34
      rw [this,h34]
     have HF:=Lib.hid hfin
     have HO3:=Lib.hid h35
     have HW3:=Lib.hid h36
     have HB4:=Lib.hid h37
     have HL3:=Lib.hid (And.intro h31 h32)
     have hM0:(0:Int)≤(M:Int):=by omega
     have hM1:(M:Int)≤(i:Int)+1:=by omega
     clear hfin h31 h32 h33 h34 h35 h36 h37 HD0
     go_wp2_with fail
     go_quiet (fail)
     go_wp2_with fail
     go_ret2
     have hKe:=HKe.out
     have hk1:i - M+1=K+1:=by omega
     have hw:=HW3.out
     rw [hk1] at hw
     have hs0:=HSum.out
     rw [nv_tr,HO2.out.1,HO2.out.2] at hs0
     obtain ⟨d1,d2,_⟩:=div_of_shift (Nat.pow_pos (by decide)) hs0.1 hs0.2
     have hL3:=HL3.out
     have ho2:=(UB.own HO3.out (B:=w.heap.size) HBb.out.2 (by rw [hL3.1];simp [maxLen];omega)).take (k:=M) (by rw [hL3.1];omega)
     rw [u32s_take,hL3.1] at ho2
     refine ⟨_,_,_,_,_,_,o,L3.take M,rfl,hw,?_,HLo.out.2.2,d1.symm,?_,ho2,?_,hL3.2.take _,?_,?_,.inr ?_,belowN (HBb.out.1.trans (HB4.out.mono HBb.out.2)) _⟩
     ·rw [HLo.out.2.1];omega
     ·have:=HKM.out;omega
     ·rw [List.length_take,hL3.1];omega
     ·rw [HF.out];exact d2.symm
     ·have:=HNn.out;omega
     ·intro e
      injection e with e;injection e with e
      omega
  ·obtain ⟨k,rfl⟩:∃ k,j=k+1:=⟨j - 1,by omega⟩
   obtain ⟨L,hub,hLd,hLl,hbel,hKn,hnext⟩:=hrel.use (vl:=tr o1) (by have:=HKe.out;omega) HM2.out HVb.out.dig HVb.out.len rfl HE1.out hlt
   have HD:=Lib.hid (digit_any (k:=k) (HVb.out.below hbel (Nat.le_refl _)) (Nat.le_refl _) hub hLd HM2.out (by have:=HKe.out;omega) (by omega) rfl rfl rfl rfl hKn rfl rfl)
   have HNX:=Lib.hid hnext
   have hk0:(0:Int)≤(k:Int):=by omega
   have hkM:(k:Int)+(M:Int)+1≤(N:Int)+1:=by have:=HKe.out;omega
   have hkK:(k:Int)<(K:Int)+1:=by omega
   clear hub hbel hKn hnext hrel h0 hLd
   go_wp2_with fail
   rw [show k+M+1 - k=M+1 by omega]
   refine HD.out.mono ?_
   rintro e w5 ⟨rfl,L2,hrow,hval⟩
   obtain ⟨⟨u,hcu⟩,hfz,hq⟩:=HNX.out L2 w5 hrow hval
   have HQ:=Lib.hid hq
   clear hq hrow hval
   go_wp2_with fail
   go_roundw
   case rel=>exact ⟨k,by omega,by go_num,HQ.out⟩
   case measure=>simp [intOf]
theorem divide_any {B B':Nat} {A A':Option Addr} {l m:List Nat} {n c n' c':Nat} {w:World} (hs:SlU w B A n c l) (ht:SlU w B' A' n' c' m) (hn:n≤67108863) (hB:B≤w.heap.size) (hB':B'≤w.heap.size) (h0:nv W m≠0) :
  Calls Tryz.prog 179 #[.slice A n c,.slice A' n' c'] w (DivPost w (nv W l) (nv W m) (n+1)):=by
 rcases Nat.lt_or_ge (nv W l) (nv W m) with h | h
 ·exact div_small hs ht hn hB hB' h
 ·have h1:tlen m≠0:=fun e=>h0 ((tlen_zero_iff (by decide) m).1 e)
  by_cases h2:tlen m=1
  ·exact div_one hs ht hn hB hB' h h2
  ·exact div_long hs ht hn hB hB' h (by omega)
def MBlk (v:Value) (g:Nat):Prop:=∃ b o n c,v = .agg #[b,.slice (some ⟨g,o,none⟩) n c]
def Apart (u v:Value):Prop:=∀ g,MBlk u g→MBlk v g→False
def QRPost (w:World) (z1 z2:Int) (code:Int) (e:Ending) (w':World):Prop:=
 ∃ v1 v2,e = .returned (.tuple #[v1,v2,.int .i64 code])∧(code=0→ResI w' w.heap.size v1 z1∧ResI w' w.heap.size v2 z2∧Apart v1 v2)∧(code≠0→v1=zeroV∧v2=zeroV)∧Below w.heap.size w w'
theorem QRPost.bad {w w':World} {z1 z2 co k:Int} (hco:co=k) (hk:k≠0) (hb:Below w.heap.size w w'):QRPost w z1 z2 co (.returned (.tuple #[zeroV,zeroV,.int .i64 k])) w':=by
 subst hco;exact ⟨zeroV,zeroV,rfl,fun h=>absurd h hk,fun _=>⟨rfl,rfl⟩,hb⟩
abbrev W5 (w:World) (na nb:Bool) (A A':Option Addr) (n c n' c':Nat):World:=
 ((((w.alloc (.cells #[.bool na,.slice A n c] 39)).alloc (.cells #[.bool nb,.slice A' n' c'] 39)).alloc (.cells #[.bool false,.slice none 0 0] 39)).alloc (.cells #[.bool false,.slice none 0 0] 39)).alloc (.cells #[.bool na,.slice A n c,.bool nb,.slice A' n' c'] 39)
theorem W5_below (w:World) (na nb:Bool) (A A':Option Addr) (n c n' c':Nat):Below w.heap.size w (W5 w na nb A A' n c n' c'):=
 (((((Below.refl w.heap.size w).alloc (Nat.le_refl _) _).alloc (by simp) _).alloc (by simp;omega) _).alloc (by simp;omega) _).alloc (by simp;omega) _
theorem W5_heap (w:World) (na nb:Bool) (A A':Option Addr) (n c n' c':Nat) :
  (W5 w na nb A A' n c n' c').heap[w.heap.size]?=some (.cells #[.bool na,.slice A n c] 39 (0,0))∧(W5 w na nb A A' n c n' c').heap[w.heap.size+1]?=some (.cells #[.bool nb,.slice A' n' c'] 39 (0,0)) ∧
  (W5 w na nb A A' n c n' c').heap[w.heap.size+1+1]?=some (.cells #[.bool false,.slice none 0 0] 39 (0,0))∧(W5 w na nb A A' n c n' c').heap[w.heap.size+1+1+1]?=some (.cells #[.bool false,.slice none 0 0] 39 (0,0)) ∧
  (W5 w na nb A A' n c n' c').heap[w.heap.size+1+1+1+1]?=some (.cells #[.bool na,.slice A n c,.bool nb,.slice A' n' c'] 39 (0,0)):=by
 unfold W5 World.alloc
 simp only [Array.getElem?_push,Array.size_push]
 refine ⟨?_,?_,?_,?_,?_⟩ <;> (repeat (first | rw [if_pos trivial] | rw [if_pos (by omega)] | rw [if_neg (by omega)]))
theorem W5_cells {w w2:World} {na nb:Bool} {A A':Option Addr} {n c n' c' C:Nat} (hb:Below C (W5 w na nb A A' n c n' c') w2) (hC:w.heap.size+1+1+1+1≤C) :
  (w2.cell? ⟨w.heap.size+1+1,0,none⟩=some (.bool false)∧w2.cell? ⟨w.heap.size+1+1,1,none⟩=some (.slice none 0 0)∧w2.frozen? ⟨w.heap.size+1+1,0,none⟩=false∧w2.frozen? ⟨w.heap.size+1+1,1,none⟩=false) ∧
  (w2.cell? ⟨w.heap.size+1+1+1,0,none⟩=some (.bool false)∧w2.cell? ⟨w.heap.size+1+1+1,1,none⟩=some (.slice none 0 0)∧w2.frozen? ⟨w.heap.size+1+1+1,0,none⟩=false∧w2.frozen? ⟨w.heap.size+1+1+1,1,none⟩=false):=by
 obtain ⟨_,_,h3,h4,_⟩:=W5_heap w na nb A A' n c n' c'
 exact ⟨two_cells hb h3 (by omega),two_cells hb h4 (by omega)⟩
theorem W5_held {w w2:World} {na nb:Bool} {A A':Option Addr} {n c n' c':Nat} (hb:Below (w.heap.size+1+1) (W5 w na nb A A' n c n' c') w2) :
  (w2.cell? ⟨w.heap.size,0,none⟩=some (.bool na)∧w2.cell? ⟨w.heap.size,1,none⟩=some (.slice A n c))∧(w2.cell? ⟨w.heap.size+1,0,none⟩=some (.bool nb)∧w2.cell? ⟨w.heap.size+1,1,none⟩=some (.slice A' n' c')):=by
 obtain ⟨h1,h2,_⟩:=W5_heap w na nb A A' n c n' c'
 have a:=two_cells hb h1 (by omega)
 have b:=two_cells hb h2 (by omega)
 exact ⟨⟨a.1,a.2.1⟩,b.1,b.2.1⟩
theorem W5_long {w:World} {na nb:Bool} {B B':Nat} {A A':Option Addr} {l m:List Nat} {n c n' c':Nat} (hs:SlU w B A n c l) (ht:SlU w B' A' n' c' m) (hn:n≤67108864) (hn':n'≤67108864) (hB:B≤w.heap.size) (hB':B'≤w.heap.size) :
  Calls Tryz.prog 42 #[.slice (some ⟨w.heap.size+1+1+1+1,0,none⟩) 2 2] (W5 w na nb A A' n c n' c') (LongPost (lng l || lng m) (W5 w na nb A A' n c n' c')):=by
 have hb:=W5_below w na nb A A' n c n' c'
 obtain ⟨_,_,_,_,hg⟩:=W5_heap w na nb A A' n c n' c'
 exact long2_any (neg:=na) (neg':=nb) (hs.below hb hB) hn (Nat.le_trans hB hb.size) (ht.below hb hB') hn' (Nat.le_trans hB' hb.size)
  (cell_of_row _ _ 0 _ _ (0,0) hg) (cell_of_row _ _ 1 _ _ (0,0) hg) (cell_of_row _ _ 2 _ _ (0,0) hg) (cell_of_row _ _ 3 _ _ (0,0) hg)
theorem ival_tdiv (na nb:Bool) {l m o:List Nat} (h:nv W o=nv W l / nv W m):ival (!(na==nb)) o=(ival na l).tdiv (ival nb m):=by
 cases na <;> cases nb <;> simp [ival,h,Int.neg_tdiv,Int.tdiv_neg]
theorem ival_tmod (na nb:Bool) {l m o:List Nat} (h:nv W o=nv W l % nv W m):ival na o=(ival na l).tmod (ival nb m):=by
 cases na <;> cases nb <;> simp [ival,h,Int.neg_tmod,Int.tmod_neg,Int.tmod_eq_emod_of_nonneg]
theorem QRPost.ok {w w2:World} {base g h:Nat} {v1 v2 u1 u2 u3 u4:Value} {z1 z2 co:Int} (hco:co=0) (h1:ResI w2 base v1 z1) (h2:ResI w2 base v2 z2) (ha:Apart v1 v2) (hb:Below w.heap.size w w2) (hg:g<base) (hh:h<base) (hwg:w.heap.size≤g) (hwh:w.heap.size≤h) :
  QRPost w z1 z2 co (.returned (.tuple #[v1,v2,.int .i64 0])) ((((w2.setCell ⟨g,0,none⟩ u1).setCell ⟨g,1,none⟩ u2).setCell ⟨h,0,none⟩ u3).setCell ⟨h,1,none⟩ u4):=by
 subst hco
 have key:∀ (wx:World) (v:Value) (z:Int) (p:Addr) (u:Value),ResI wx base v z→p.block<base→ResI (wx.setCell p u) base v z:=by
  rintro wx v z p u ⟨A,c,hv,ho⟩ hp
  refine ⟨A,c,hv,ho.far ?_ _⟩
  intro g' hA
  rcases ho.form with ⟨h1,_⟩ | ⟨g2,h1,h2,_⟩
  ·rw [h1] at hA;cases hA
  ·rw [h1] at hA
   injection hA with hA
   injection hA with hA
   omega
 refine ⟨v1,v2,rfl,fun _=>⟨?_,?_,ha⟩,fun h=>absurd rfl h,(((hb.setCell hwg _).setCell hwg _).setCell hwh _).setCell hwh _⟩
 ·exact (key _ _ _ _ _ (key _ _ _ _ _ (key _ _ _ _ _ (key _ _ _ _ _ h1 hg) hg) hh) hh).mono (by omega)
 ·exact (key _ _ _ _ _ (key _ _ _ _ _ (key _ _ _ _ _ (key _ _ _ _ _ h2 hg) hg) hh) hh).mono (by omega)
theorem ResI.apart {A1 A2:Option Addr} {b1 b2:Bool} {k1 c1 k2 c2:Nat} {B:Nat} {w w':World} {n1 n2 d1 d2:Nat} {l1 l2:List Value} (h1:OwnU w B A1 n1 d1 l1) (h2:OwnU w' B A2 n2 d2 l2) (h:A1=none∨A1≠A2):Apart (.agg #[.bool b1,.slice A1 k1 c1]) (.agg #[.bool b2,.slice A2 k2 c2]):=by
 rintro g ⟨b,o,n,c,e1⟩ ⟨b',o',n',c',e2⟩
 have f1:=congrArg (fun v=>match v with | Value.agg cs=>cs[1]? | _=>none) e1
 have f2:=congrArg (fun v=>match v with | Value.agg cs=>cs[1]? | _=>none) e2
 simp at f1 f2
 obtain ⟨rfl,_⟩:=f1
 obtain ⟨rfl,_⟩:=f2
 rcases h1.form with ⟨h3,_⟩ | ⟨g1,h3,_⟩
 ·cases h3
 ·rcases h2.form with ⟨h4,_⟩ | ⟨g2,h4,_⟩
  ·cases h4
  ·rcases h with h | h
   ·cases h
   ·injection h3 with h3;injection h3 with _ h3
    injection h4 with h4;injection h4 with _ h4
    exact h (by rw [h3,h4])
theorem laid_at (neg:Bool) {B:Nat} {A:Option Addr} {l:List Nat} {n c:Nat} {w:World} (h:OwnU w B A n c (u32s l)) (hl:l.length=n) (hd:Dig W l) {z:Int} (hz:ival neg l=z) :
  Calls Tryz.prog 39 #[.bool neg,.slice A n c] w fun e w'=>e = .returned (.agg #[.bool (decide (z<0)),.slice A (digs W z.natAbs).length c])∧OwnU w' B A (digs W z.natAbs).length c (u32s (digs W z.natAbs))∧Below w.heap.size w w':=
 (laid_any neg (h.sl hd hl) (Nat.le_refl _)).mono fun e w' ⟨he,hb⟩=>by
  have e2:(digs W z.natAbs).length=tlen l:=by rw [←hz,ival_natAbs,←tr_eq_digs (by decide) hd,tr_length]
  have hr:=ResI.of_own neg h hl hd hb
  obtain ⟨A',c',hv,ho⟩:=hr
  rw [hz] at hv ho
  have hA:A=A'∧c=c':=by
   injection hv with hv
   have:=congrArg (fun a=>a[1]?) hv
   simp at this
   exact ⟨this.1,this.2.2⟩
  obtain ⟨rfl,rfl⟩:=hA
  exact ⟨by rw [he,hv],ho,hb⟩
attribute [local go_sem ↓] Go.wp_at_zero Go.wp_at_succ
set_option maxHeartbeats 2000000 in
theorem QuoRem_any (na nb:Bool) {B B':Nat} {A A':Option Addr} {l m:List Nat} {n c n' c':Nat} {w:World} (hs:SlU w B A n c l) (ht:SlU w B' A' n' c' m) (hn:n≤67108863) (hn':n'≤67108863) (hB:B≤w.heap.size) (hB':B'≤w.heap.size) :
  Calls Tryz.prog 116 #[.agg #[.bool na,.slice A n c],.agg #[.bool nb,.slice A' n' c']] w (QRPost w ((ival na l).tdiv (ival nb m)) ((ival na l).tmod (ival nb m)) (if lng l || lng m then 10 else if ival nb m=0 then 11 else 0)):=by
 have hl1:=hs.len
 have hl2:=ht.len
 have HL:=Lib.hid (W5_long (na:=na) (nb:=nb) hs ht (by omega) (by omega) hB hB')
 have HW:=Lib.hid (W5_below w na nb A A' n c n' c')
 have HK:=Lib.hid (fun C w2 (hb:Below C (W5 w na nb A A' n c n' c') w2) hC=>W5_cells hb hC)
 have HE:=Lib.hid (fun w2 (hb:Below (w.heap.size+1+1) (W5 w na nb A A' n c n' c') w2)=>W5_held hb)
 have HSg:=Lib.hid (fun w1 (hb:Below w.heap.size w w1)=>sign_any nb (ht.below (C:=w.heap.size) hb hB') (Nat.le_trans hB' hb.size))
 have hzero:ival nb m=0↔nv W m=0:=by cases nb <;> simp [ival]
 have HDv:=Lib.hid (fun (h0:nv W m≠0) w1 (hb:Below w.heap.size w w1)=>divide_any (hs.below (C:=w.heap.size) hb hB) (ht.below (C:=w.heap.size) hb hB') hn (Nat.le_trans hB hb.size) (Nat.le_trans hB' hb.size) h0)
 generalize hco:(if lng l || lng m then (10:Int) else if ival nb m=0 then 11 else 0)=co
 cases hb:(lng l || lng m)
 ·rw [hb] at HL hco
  clear hb
  by_cases h0:ival nb m=0
  ·have HS0:=Lib.hid (show (ival nb m).sign=0 by rw [h0];rfl)
   rw [HS0.out] at HSg
   have HC:=Lib.hid (show co=11 by rw [←hco,if_pos h0];rfl)
   clear hs ht hn hn' hB hB' hl1 hl2 hzero h0 HDv hco
   go_enter Tryz.func116,Tryz.ntmps116
   go_wp2_with fail
   refine HL.out.mono ?_
   rintro ex w3 ⟨rfl,hb3⟩
   obtain ⟨⟨q0,q1⟩,⟨q2,q3⟩⟩:=HE.out _ (hb3.mono (by first | omega | (simp;done) | (simp;omega)))
   have H3:=Lib.hid hb3
   have HB3:=Lib.hid (HW.out.trans (hb3.mono (B':=w.heap.size) (by first | omega | (simp;done) | (simp;omega))))
   clear hb3
   go_wp2_with fail
   refine (HSg.out _ HB3.out).mono ?_
   rintro ex w4 ⟨rfl,hb4⟩
   have hz3:=H3.out.size
   simp at hz3
   obtain ⟨⟨r0,r1,r2,r3⟩,s0,s1,s2,s3⟩:=HK.out _ _ (H3.out.trans (hb4.mono (by first | omega | (simp;done) | (simp;omega)))) (by first | omega | (simp;done) | (simp;omega))
   have HB4:=Lib.hid (HB3.out.trans (hb4.mono (B':=w.heap.size) (by first | omega | (simp;done) | (simp;omega))))
   clear hb4 q0 q1 q2 q3
   go_wp2_with fail
   exact bodyPost_ret (v:=.tuple #[zeroV,zeroV,.int .i64 11]) (by simp [results,Tryz.results116,go_sem,r0,r1,s0,s1]) rfl
    (QRPost.bad (by first | exact HC.out | rfl) (by decide) ((((HB4.out.setCell (by first | omega | (simp;done) | (simp;omega)) _).setCell (by first | omega | (simp;done) | (simp;omega)) _).setCell (by first | omega | (simp;done) | (simp;omega)) _).setCell (by first | omega | (simp;done) | (simp;omega)) _))
  ·have hm0:nv W m≠0:=fun e=>h0 (hzero.2 e)
   obtain ⟨sv,hsv⟩:∃ sv,(ival nb m).sign=sv:=⟨_,rfl⟩
   have hs0:(sv==0)=false:=beq_eq_false_iff_ne.2 (by rw [←hsv];exact fun e=>h0 (Int.sign_eq_zero_iff_zero.1 e))
   rw [hsv] at HSg
   have HC:=Lib.hid (show co=0 by rw [←hco,if_neg h0];rfl)
   have HD:=Lib.hid (HDv.out hm0)
   have HT1:=Lib.hid (fun o (h:nv W o=nv W l / nv W m)=>ival_tdiv na nb h)
   have HT2:=Lib.hid (fun o (h:nv W o=nv W l % nv W m)=>ival_tmod na nb h)
   generalize (ival na l).tdiv (ival nb m)=Z1 at *
   generalize (ival na l).tmod (ival nb m)=Z2 at *
   clear hs ht hn hn' hB hB' hl1 hl2 hzero h0 HDv hsv hm0 hco
   go_enter Tryz.func116,Tryz.ntmps116
   go_wp2_with fail
   refine HL.out.mono ?_
   rintro ex w3 ⟨rfl,hb3⟩
   obtain ⟨⟨q0,q1⟩,⟨q2,q3⟩⟩:=HE.out _ (hb3.mono (by first | omega | (simp;done) | (simp;omega)))
   have H3:=Lib.hid hb3
   have HB3:=Lib.hid (HW.out.trans (hb3.mono (B':=w.heap.size) (by first | omega | (simp;done) | (simp;omega))))
   have hz3:=hb3.size
   simp at hz3
   clear hb3
   go_wp2_with fail
   refine (HSg.out _ HB3.out).mono ?_
   rintro ex w4 ⟨rfl,hb4⟩
   have q0:=(hb4.cell (p:=⟨w.heap.size,0,none⟩) (by first | omega | (simp;done) | (simp;omega))).trans q0
   have q1:=(hb4.cell (p:=⟨w.heap.size,1,none⟩) (by first | omega | (simp;done) | (simp;omega))).trans q1
   have q2:=(hb4.cell (p:=⟨w.heap.size+1,0,none⟩) (by first | omega | (simp;done) | (simp;omega))).trans q2
   have q3:=(hb4.cell (p:=⟨w.heap.size+1,1,none⟩) (by first | omega | (simp;done) | (simp;omega))).trans q3
   have HB4:=Lib.hid (HB3.out.trans (hb4.mono (B':=w.heap.size) (by first | omega | (simp;done) | (simp;omega))))
   have H4:=Lib.hid (H3.out.trans (hb4.mono (by first | omega | (simp;done) | (simp;omega))))
   have hz4:=hb4.size
   clear hb4
   go_wp2_with fail
   refine (HD.out _ HB4.out).mono ?_
   rintro ex w5 ⟨A1,A2,n1,c1,n2,c2,o1,o2,rfl,ho1,hol1,hod1,hov1,_,ho2,hol2,hod2,hov2,_,hap,hb5⟩
   have q0:=(hb5.cell (p:=⟨w.heap.size,0,none⟩) (by first | omega | (simp;done) | (simp;omega))).trans q0
   have q1:=(hb5.cell (p:=⟨w.heap.size,1,none⟩) (by first | omega | (simp;done) | (simp;omega))).trans q1
   have q3:=(hb5.cell (p:=⟨w.heap.size+1,1,none⟩) (by first | omega | (simp;done) | (simp;omega))).trans q3
   have q2:=(hb5.cell (p:=⟨w.heap.size+1,0,none⟩) (by first | omega | (simp;done) | (simp;omega))).trans q2
   have HB5:=Lib.hid (HB4.out.trans (hb5.mono (B':=w.heap.size) (by first | omega | (simp;done) | (simp;omega))))
   have H5:=Lib.hid (H4.out.trans (hb5.mono (by first | omega | (simp;done) | (simp;omega))))
   have hz5:=hb5.size
   have HO1:=Lib.hid (And.intro ho1 (And.intro hol1 (And.intro hod1 hov1)))
   have HO2:=Lib.hid (And.intro ho2 (And.intro hol2 (And.intro hod2 hov2)))
   have HAp:=Lib.hid hap
   clear hb5 ho1 hol1 hod1 hov1 ho2 hol2 hod2 hov2 hap
   go_wp2_with fail
   go_region_held3 (fun w'=>(w'.cell? ⟨w.heap.size,0,none⟩=some (.bool na)∧w'.cell? ⟨w.heap.size,1,none⟩=some (.slice A n c))∧(w'.cell? ⟨w.heap.size+1,0,none⟩=some (.bool nb)∧w'.cell? ⟨w.heap.size+1,1,none⟩=some (.slice A' n' c')))
    (first
     | (go_keep;done)
     | exact HE.out _ ((((K5b.setCell (by first | omega | (simp;done) | (simp;omega)) _).setCell (by first | omega | (simp;done) | (simp;omega)) _).setCell (by first | omega | (simp;done) | (simp;omega)) _).setCell (by first | omega | (simp;done) | (simp;omega)) _)
     | exact HE.out _ ((K5b.setCell (by first | omega | (simp;done) | (simp;omega)) _).setCell (by first | omega | (simp;done) | (simp;omega)) _)
     | exact HE.out _ K5b
     | exact HE.out _ K5a)
    (first
     | (go_at_call 39;(with_reducible refine (laid_at (!(na==nb)) HO1.out.1.drew HO1.out.2.1 HO1.out.2.2.1 (HT1.out _ HO1.out.2.2.2)).mono ?_);rintro e w6 ⟨rfl,ho6,hb6⟩;have hz6:=hb6.size;simp at hz6;have K5a:=H5.out.drew.mono (B':=w.heap.size+1+1) (by first | omega | (simp;done) | (simp;omega)) |>.trans (hb6.mono (by first | omega | (simp;done) | (simp;omega))))
     | (go_at_call 39;(with_reducible refine (laid_at na (HO2.out.1.drew.below hb6 (Nat.le_refl _)) HO2.out.2.1 HO2.out.2.2.1 (HT2.out _ HO2.out.2.2.2)).mono ?_);rintro e w7 ⟨rfl,ho7,hb7⟩;have hz7:=hb7.size;have K5b:=K5a.trans (hb7.mono (by first | omega | (simp;done) | (simp;omega)));obtain ⟨⟨r0,r1,r2,r3⟩,s0,s1,s2,s3⟩:=HK.out _ _ ((H5.out.drew.mono (B':=w.heap.size+1+1+1+1) (by first | omega | (simp;done) | (simp;omega))).trans ((hb6.mono (by first | omega | (simp;done) | (simp;omega))).trans (hb7.mono (by first | omega | (simp;done) | (simp;omega))))) (Nat.le_refl _)))
   have ho6':=ho6.below hb7 (Nat.le_refl _)
   have HB7:=HB5.out.drew.trans ((hb6.mono (by first | omega | (simp;done) | (simp;omega))).trans (hb7.mono (B':=w.heap.size) (by first | omega | (simp;done) | (simp;omega))))
   have hap:=ResI.apart (b1:=decide (Z1<0)) (b2:=decide (Z2<0)) (k1:=(digs W Z1.natAbs).length) (c1:=c1) (k2:=(digs W Z2.natAbs).length) (c2:=c2) HO1.out.1 HO2.out.1 HAp.out
   go_wp2
   exact bodyPost_ret (v:=.tuple #[.agg #[.bool (decide (Z1<0)),.slice A1 (digs W Z1.natAbs).length c1],.agg #[.bool (decide (Z2<0)),.slice A2 (digs W Z2.natAbs).length c2],.int .i64 0]) (by simp [results,Tryz.results116,go_sem,r0,r1,s0,s1]) rfl
    (QRPost.ok (g:=w.heap.size+1+1) (h:=w.heap.size+1+1+1) HC.out ⟨A1,c1,rfl,ho6'⟩ ⟨A2,c2,rfl,ho7⟩ hap HB7 (by first | omega | (simp;done) | (simp;omega)) (by first | omega | (simp;done) | (simp;omega)) (by first | omega | (simp;done) | (simp;omega)) (by first | omega | (simp;done) | (simp;omega)))
 ·rw [hb] at HL hco
  have HC:=Lib.hid (show co=10 by rw [←hco];rfl)
  clear hb hs ht hn hn' hB hB' hl1 hl2 hzero HDv hco HSg
  go_enter Tryz.func116,Tryz.ntmps116
  go_wp2_with fail
  refine HL.out.mono ?_
  rintro ex w3 ⟨rfl,hb3⟩
  obtain ⟨⟨r0,r1,r2,r3⟩,s0,s1,s2,s3⟩:=HK.out _ _ hb3 (by first | omega | (simp;done) | (simp;omega))
  have HB3:=Lib.hid (HW.out.trans (hb3.mono (B':=w.heap.size) (by first | omega | (simp;done) | (simp;omega))))
  clear hb3
  go_wp2_with fail
  exact bodyPost_ret (v:=.tuple #[zeroV,zeroV,.int .i64 10]) (by simp [results,Tryz.results116,go_sem,r0,r1,s0,s1]) rfl
   (QRPost.bad (by first | exact HC.out | rfl) (by decide) ((((HB3.out.setCell (by first | omega | (simp;done) | (simp;omega)) _).setCell (by first | omega | (simp;done) | (simp;omega)) _).setCell (by first | omega | (simp;done) | (simp;omega)) _).setCell (by first | omega | (simp;done) | (simp;omega)) _))
end
section
open Go.RowKit Hb
def dvC (x y:Int):Bool:=decide (x.tmod y≠0) && decide (decide (x.tmod y<0)≠decide (y<0))
theorem sum_own2 {B B':Nat} {A A':Option Addr} {c c':Nat} {x y:Int} {w:World} (h1:OwnU w B A (digs W x.natAbs).length c (u32s (digs W x.natAbs))) (hl1:(digs W x.natAbs).length≤67108864)
  (ho:OwnU w B' A' (digs W y.natAbs).length c' (u32s (digs W y.natAbs))) (hl:(digs W y.natAbs).length≤67108864) {Z:Int} (hZ:x+y=Z) :
  Calls Tryz.prog 176 #[.agg #[.bool (decide (x<0)),.slice A (digs W x.natAbs).length c],.agg #[.bool (decide (y<0)),.slice A' (digs W y.natAbs).length c']] w (PostI w Z):=by
 have:=sum_any (decide (x<0)) (decide (y<0)) (h1.sl (dig_digs (by decide) _) rfl) (ho.sl (dig_digs (by decide) _) rfl) hl1 hl (Nat.le_refl _) (Nat.le_refl _)
 rw [ival_digs,ival_digs,hZ] at this
 exact this
theorem from_at {m1:Int} (w:World) (h:m1 = -1):Calls Tryz.prog 88 #[.int .i64 (-1)] w (PostI w m1):=by
 subst h
 exact from_any (-1) w (by decide) (by decide)
section
end
theorem dvC_false {x y:Int} (h:dvC x y=false):((x.tmod y).sign != 0)=true→(decide (x.tmod y<0)==decide (y<0))=true:=by
 intro h1
 rw [beq_iff_eq]
 have h2:x.tmod y≠0:=by
  intro e;rw [e] at h1;simp at h1
 simp only [dvC,Bool.and_eq_false_iff,decide_eq_false_iff_not] at h
 rcases h with h | h
 ·exact absurd h2 h
 ·exact Classical.not_not.1 h
abbrev P1w (w:World) (neg:Bool) (A:Option Addr) (n c:Nat):World:=((w.alloc (.cells #[.bool neg,.slice A n c] 39)).alloc (.cells #[.bool false,.slice none 0 0] 39)).alloc (.cells #[.bool neg,.slice A n c] 39)
theorem P1w_below (w:World) (neg:Bool) (A:Option Addr) (n c:Nat):Below w.heap.size w (P1w w neg A n c):=(((Below.refl _ _).alloc (Nat.le_refl _) _).alloc (by simp) _).alloc (by simp;omega) _
theorem P1w_bx (w:World) (neg:Bool) (A:Option Addr) (n c:Nat):Bx (P1w w neg A n c) w.heap.size (.bool neg) (.slice A n c)∧Bx (P1w w neg A n c) (w.heap.size+1) (.bool false) (.slice none 0 0):=by
 refine ⟨((Bx.new w (.bool neg) (.slice A n c)).alloc _).alloc _,?_⟩
 have:=(Bx.new (w.alloc (.cells #[.bool neg,.slice A n c] 39)) (.bool false) (.slice none 0 0)).alloc (.cells #[.bool neg,.slice A n c] 39)
 simpa only [World.size_alloc] using this
theorem P1w_long {w:World} {neg:Bool} {B:Nat} {A:Option Addr} {l:List Nat} {n c:Nat} (hs:SlU w B A n c l) (hn:n≤67108864) (hB:B≤w.heap.size) :
  Calls Tryz.prog 42 #[.slice (some ⟨w.heap.size+1+1,0,none⟩) 1 1] (P1w w neg A n c) (LongPost (lng l) (P1w w neg A n c)):=by
 have hb:=P1w_below w neg A n c
 have hf:=(Bx.new ((w.alloc (.cells #[.bool neg,.slice A n c] 39)).alloc (.cells #[.bool false,.slice none 0 0] 39)) (.bool neg) (.slice A n c)).facts
 simp only [World.size_alloc] at hf
 exact long1_any (neg:=neg) (hs.below hb hB) (Nat.le_trans hn (by decide)) (Nat.le_trans hB hb.size) hf.1 hf.2.1
theorem P1w_after {w w3:World} {neg:Bool} {A:Option Addr} {n c:Nat} (hb:Below (P1w w neg A n c).heap.size (P1w w neg A n c) w3) :
  Bx w3 w.heap.size (.bool neg) (.slice A n c)∧Bx w3 (w.heap.size+1) (.bool false) (.slice none 0 0)∧Below w.heap.size w w3∧w.heap.size+1+1+1≤w3.heap.size:=by
 obtain ⟨h1,h2⟩:=P1w_bx w neg A n c
 have hz:=hb.size
 simp at hz
 exact ⟨h1.below hb (by first | omega | (simp;done) | (simp;omega)),h2.below hb (by first | omega | (simp;done) | (simp;omega)),(P1w_below w neg A n c).trans (hb.mono (by first | omega | (simp;done) | (simp;omega))),by omega⟩
theorem not_too_len {z:Int} (h:tooLong z=false):(digs W z.natAbs).length≤128:=by
 rw [tooLong_iff] at h
 have:=Classical.not_not.1 (of_decide_eq_false h)
 exact digs_length_le (k:=128) (by decide) (by rw [W128];exact this)
theorem tooLong_lt {z:Int} (k:Nat) (hk:k≤4096) (h:z.natAbs<2 ^ k):tooLong z=false:=by
 rw [tooLong_iff]
 exact decide_eq_false (Classical.not_not.2 (Nat.lt_of_lt_of_le h (Nat.pow_le_pow_right (n:=2) (i:=k) (j:=4096) (by decide) hk)))
end
section
open Go.ChangeShapes Go.WideShapes Go.ChangeAt Go.RowKit Go.Joins Hb
section
end
end
section
open Go.RowKit Hb
section
variable {w0 w w':World} {vs:List VE} {v:VE}
theorem own_block {t:TypeId} {B n c:Nat} {A:Option Addr} {xs:List Value} (h:Own t w B A n c xs) {b o:Nat} (e:A=some ⟨b,o,none⟩):B≤b∧b<w.heap.size:=by
 rcases h.form with ⟨h1,_⟩ | ⟨g,h1,h2,h3⟩
 ·rw [h1] at e;cases e
 ·rw [h1] at e;injection e with e;injection e with e1 e2;omega
end
section
end
section
end
section
end
theorem wp_append_far {o:Oper} {a:Act} {K:Act→World→Prop} {Q:Exit→Act→World→Prop} {w:World} (s x:Operand)
  (ho:o.op = .call { callee:=.builtin .append,args:=#[s,x],argTypes:=#[37,37] })
  {base B:Nat} {A A0:Option Addr} {n0 c0 m c:Nat} {l0 l:List Nat} (hs:a.eval s = .slice A0 n0 c0) (hown:OwnU w base A0 n0 c0 (u32s l0)) (hx:a.eval x = .slice A m c) (hA:A=none→c=0) (hrd:SlU w B A m c l)
  (hm:n0+m≤67108864) (hbase:base≤w.heap.size)
  (h:∀ A' c' w',OwnU w' base A' (n0+m) c' (u32s (l0 ++ l))→Below base w w'→(∀ g,g<w.heap.size→A0≠some ⟨g,0,none⟩→w'.heap[g]?=w.heap[g]?)→(∀ g,A'=some ⟨g,0,none⟩→A0=some ⟨g,0,none⟩∨w.heap.size≤g)→K (a.put o.dst (.slice A' (n0+m) c')) w'):o.wp Tryz.prog a w K Q:=by
 obtain ⟨i0,hi,hz0,hz1,hz2⟩:=info_parts infoU
 cases A with
 | none=>
  have hm0:m=0:=by
   rcases Nat.eq_zero_or_pos m with h0 | h0
   ·exact h0
   ·obtain ⟨b,o,h1,_⟩:=hrd.at_ h0;cases h1
  have hc0:=hA rfl
  subst hm0;subst hc0
  have hl:l = []:=List.length_eq_zero_iff.1 hrd.len
  subst hl
  have hrun:=run_append_owned_none (P:=Tryz.prog) (w:=w) base 37 o.type 79 i0 1 Tryz.underlying37 hi _ n0 (u32s l0) hown
  unfold Oper.wp
  simp [execOp,ho,resolve,invoke,builtin,hs,hx,hrun,Result.andThen]
  exact h A0 c0 w (by rw [List.append_nil];exact hown) (Below.refl _ _) (fun _ _ _=>rfl) (fun _ e=>.inl e)
 | some ad=>
  have hnews:∀ j u,(u32s l)[j]?=some u→w.cell? (ad.add j)=some u:=by
   intro j u hj
   have hj2:j<m:=by
    rw [←hrd.len,←u32s_length l]
    exact (List.getElem?_eq_some_iff.1 hj).1
   obtain ⟨b,o',h1,_,hc⟩:=hrd.at_ (by omega)
   obtain rfl:=Option.some.inj h1
   rw [addr_add,hc j hj2,←u32s_get (by rw [hrd.len];exact hj2),hj]
  obtain ⟨v',w',hr,hown',hg,_,hat⟩:=run_append_own_at (P:=Tryz.prog) w base 37 o.type 79 i0 (.int .u32 0) 1 4 Tryz.underlying37 hi hz0 hz1 hz2 rfl (by decide) _ n0 (u32s l0) hown ad m c (u32s l) (by rw [u32s_length,hrd.len];simp) hnews (u32s_one l) (by simp [maxLen];omega) (by omega) hbase
  have hf:∃ A' c',v' = .slice A' (n0+m) c':=by
   rcases hown'.2 with ⟨h1,h2⟩ | ⟨g',cap,cur,h1,_⟩
   ·exact ⟨none,0,by rw [h1,h2]⟩
   ·exact ⟨_,_,h1⟩
  obtain ⟨A',c',rfl⟩:=hf
  unfold Oper.wp execOp
  simp only [ho,resolve,invoke,builtin,Sem.run_bind,Sem.run_pure,Result.andThen_ok,List.map_toArray,List.map_cons,List.map_nil,hs,hx,hr]
  refine h A' c' w' (by have h3:=hown';rw [u32s_append] at h3;exact h3) ⟨hg.os,hg.tape,hg.output,hg.size,fun j hj=>hg.block j (by omega) ?_⟩ (fun j hj hne=>hg.block j hj ?_) (fun g e=>?_)
  ·rcases Own.form hown with ⟨rfl,_⟩ | ⟨g',rfl,h4,_⟩
   ·simp [Value.ownBlock]
   ·simp [Value.ownBlock];omega
  ·rcases Own.form hown with ⟨rfl,_⟩ | ⟨g',rfl,h4,_⟩
   ·simp [Value.ownBlock]
   ·simp [Value.ownBlock]
    rintro rfl
    exact hne rfl
  ·subst e
   rcases Own.form hown with ⟨rfl,_⟩ | ⟨g',rfl,h4,_⟩
   ·simp [Value.ownBlock] at hat
    exact .inr (by omega)
   ·simp [Value.ownBlock] at hat
    rcases hat with rfl | h5
    ·exact .inl rfl
    ·exact .inr (by omega)
theorem wrap_u32 (p:Nat) (h:p<4294967296):IntKind.u32.wrap (p:Int)=(p:Int):=IntWalk.u32_in _ (by omega)
theorem own_one (w:World) {B:Nat} (a:Nat) (hB:B≤w.heap.size):OwnU (w.alloc (.cells #[.int .u32 (a:Int)] 79)) B (some ⟨w.heap.size,0,none⟩) 1 1 (u32s [a]):=
 Own.of_block (xs:=u32s [a]) (by exact heap_alloc_new w _) hB (by simp [u32s,maxLen])
theorem own_zeros (w:World) {B:Nat} (n:Nat) (hB:B≤w.heap.size) (hm:n≤maxLen):OwnU (w.alloc (.cells (madeCells #[.int .u32 0] n) 79)) B (some ⟨w.heap.size,0,none⟩) n n (u32s (List.replicate n 0)):=by
 have:=Own.made w (.int .u32 0) n 79 hB hm
 rwa [u32s_zeros] at this
section
variable {P:Program} {ops:Array Oper} {Q:Exit→Act→World→Prop} {md:Region.Mode} {S:World→Prop} {st:Nat}
theorem wpAnyW_three {i i2 i3:Nat} {o o2 o3:Oper} {fuel:Nat} {listed:Array Bool} {a:Act} {w:World} (hr:Region.ready md ops listed = [i,i2,i3]) (ho:ops[i]?=some o) (ho2:ops[i2]?=some o2) (ho3:ops[i3]?=some o3)
  (h:∀ K':Act→World→Prop,Shut (∀ a w,((listed.setIfInBounds i true).getD st true=false→S w)→wpAnyW P md ops Q S st fuel (listed.setIfInBounds i true) a w→K' a w)→if Region.wanted o (yielded ops a.tmps)=true then Oper.wp P o a w K' Q else K' (a.put o.dst undef) w)
  (h2:∀ K':Act→World→Prop,Shut (∀ a w,((listed.setIfInBounds i2 true).getD st true=false→S w)→wpAnyW P md ops Q S st fuel (listed.setIfInBounds i2 true) a w→K' a w)→if Region.wanted o2 (yielded ops a.tmps)=true then Oper.wp P o2 a w K' Q else K' (a.put o2.dst undef) w)
  (h3:∀ K':Act→World→Prop,Shut (∀ a w,((listed.setIfInBounds i3 true).getD st true=false→S w)→wpAnyW P md ops Q S st fuel (listed.setIfInBounds i3 true) a w→K' a w)→if Region.wanted o3 (yielded ops a.tmps)=true then Oper.wp P o3 a w K' Q else K' (a.put o3.dst undef) w) :
  wpAnyW P md ops Q S st (fuel+1) listed a w:=
 ⟨fun h0=>absurd (hr ▸ h0) (by simp),fun j hj=>by
  rw [hr] at hj
  rcases List.mem_cons.1 hj with rfl | hj
  ·exact wpOp_step ho (fun K' hK=>h K' (fun a w hS hW=>hK a w ⟨hS,hW⟩))
  ·rcases List.mem_cons.1 hj with rfl | hj
   ·exact wpOp_step ho2 (fun K' hK=>h2 K' (fun a w hS hW=>hK a w ⟨hS,hW⟩))
   ·obtain rfl:j=i3:=by simpa using hj
    exact wpOp_step ho3 (fun K' hK=>h3 K' (fun a w hS hW=>hK a w ⟨hS,hW⟩))⟩
end
end
end Go.Proofs.YtjpnmmjgdiiahaaGreatDoor
namespace Hb
theorem two_pow_cast (k:Nat):((2 ^ k:Nat):Int)=(2:Int) ^ k:=by simp
def shZ (x n:Int):Int:=if 0≤n then x * 2 ^ n.toNat else x / 2 ^ (-n).toNat
theorem shZ_up (x:Int) (k:Nat):shZ x (k:Int)=x * 2 ^ k:=by rw [shZ,if_pos (by omega),Int.toNat_natCast]
theorem shZ_down (x:Int) {k:Nat} (hk:0<k):shZ x (-(k:Int))=x / 2 ^ k:=by
 rw [shZ,if_neg (by omega),Int.neg_neg,Int.toNat_natCast]
theorem shZ_zero (x:Int):shZ x 0=x:=by
 have:=shZ_up x 0
 simpa using this
theorem shZ_nought (n:Int):shZ 0 n=0:=by unfold shZ;split <;> simp
theorem up_abs (x:Int) (k:Nat):(x * 2 ^ k).natAbs=x.natAbs * 2 ^ k:=by
 rw [Int.natAbs_mul,Int.natAbs_pow];rfl
theorem blen_up {a:Nat} (h:a≠0) (k:Nat):blen (a * 2 ^ k)=blen a+k:=by
 have:=blen_add_mul (k:=k) (x:=0) (y:=a) (Nat.two_pow_pos k) h
 rw [Nat.zero_add,Nat.mul_comm] at this;omega
theorem div_of_parts {P:Nat} (hP:0<P) {x q r:Int} (h:r+P * q=x) (h0:0≤r) (h1:r<P):x / (P:Int)=q:=
 ((Int.ediv_emod_unique (by omega)).2 ⟨h,h0,h1⟩).1
theorem down_pos (a k:Nat):(a:Int) / 2 ^ k=((a / 2 ^ k:Nat):Int):=by
 rw [←two_pow_cast];rfl
theorem down_neg0 {a k:Nat} (h:a % 2 ^ k=0) : -(a:Int) / 2 ^ k = -((a / 2 ^ k:Nat):Int):=by
 have h2:=Nat.div_add_mod a (2 ^ k)
 rw [h] at h2
 rw [←two_pow_cast]
 refine div_of_parts (r:=0) (Nat.two_pow_pos k) ?_ (by omega) (by have:=Nat.two_pow_pos k;omega)
 have h3:((2 ^ k * (a / 2 ^ k):Nat):Int)=(a:Int):=by rw [Nat.add_zero] at h2;rw [h2]
 rw [Int.natCast_mul] at h3
 rw [Int.mul_neg,h3];omega
theorem down_neg1 {a k:Nat} (h:a % 2 ^ k≠0) : -(a:Int) / 2 ^ k = -((a / 2 ^ k:Nat):Int) + -1:=by
 have h2:=Nat.div_add_mod a (2 ^ k)
 have h4:=Nat.mod_lt a (Nat.two_pow_pos k)
 rw [←two_pow_cast]
 refine div_of_parts (r:=((2 ^ k:Nat):Int) - (a % 2 ^ k:Nat)) (Nat.two_pow_pos k) ?_ (by omega) (by omega)
 have h3:((2 ^ k * (a / 2 ^ k)+a % 2 ^ k:Nat):Int)=(a:Int):=by rw [h2]
 rw [Int.natCast_add,Int.natCast_mul] at h3
 rw [Int.mul_add,Int.mul_neg]
 generalize ((2 ^ k:Nat):Int) * ((a / 2 ^ k:Nat):Int)=t at *
 omega
theorem down_abs (x:Int) (k:Nat):(x / 2 ^ k).natAbs≤x.natAbs:=by
 obtain ⟨a,rfl | rfl⟩:=Int.eq_nat_or_neg x
 ·rw [down_pos,Int.natAbs_natCast,Int.natAbs_natCast]
  exact Nat.div_le_self _ _
 ·rw [Int.natAbs_neg,Int.natAbs_natCast]
  have h4:=Nat.div_le_self a (2 ^ k)
  by_cases h0:a % 2 ^ k=0
  ·rw [down_neg0 h0,Int.natAbs_neg,Int.natAbs_natCast];exact h4
  ·have h5:a / 2 ^ k<a:=by
    by_cases hk:k=0
    ·subst hk;rw [Nat.pow_zero] at h0;omega
    ·refine Nat.div_lt_self (Nat.pos_of_ne_zero (fun e=>h0 (by rw [e];simp))) ?_
     exact Nat.one_lt_two_pow hk
   rw [down_neg1 h0]
   generalize a / 2 ^ k=b at *
   omega
theorem down_far {x:Int} {M k:Nat} (h:x.natAbs<2 ^ M) (hk:M≤k):x / 2 ^ k=if x<0 then -1 else 0:=by
 have h1:x.natAbs<2 ^ k:=Nat.lt_of_lt_of_le h (Nat.pow_le_pow_right (by decide) hk)
 rcases Int.natAbs_eq x with e | e
 ·rw [if_neg (by omega)]
  rw [e,down_pos,Nat.div_eq_of_lt h1];rfl
 ·by_cases h0:x=0
  ·subst h0;simp
  ·have h2:x.natAbs % 2 ^ k≠0:=by rw [Nat.mod_eq_of_lt h1];omega
   rw [if_pos (by omega),e,down_neg1 h2,Nat.div_eq_of_lt h1];rfl
theorem nv_two (k:Nat):nv W (List.replicate (k / 32) 0 ++ [2 ^ (k % 32)])=2 ^ k:=by
 rw [nv_append,nv_replicate,nv_single,List.length_replicate,W_pow_eq,Nat.zero_add,←Nat.pow_add]
 congr 1;omega
theorem dig_two_pow (k:Nat):Dig W (List.replicate (k / 32) 0 ++ [2 ^ (k % 32)]):=by
 refine Dig.append (Dig.replicate _ _ (by decide)) (Dig.cons ?_ (Dig.nil _))
 have:2 ^ (k % 32)<2 ^ 32:=Nat.pow_lt_pow_right (by decide) (by omega)
 exact this
theorem nv_up (l o:List Nat) (k:Nat) (h:nv W o=nv W l * 2 ^ (k % 32)):nv W (List.replicate (k / 32) 0 ++ o)=nv W l * 2 ^ k:=by
 rw [nv_append,nv_replicate,List.length_replicate,W_pow_eq,Nat.zero_add,h,Nat.mul_comm,Nat.mul_assoc,←Nat.pow_add]
 congr 2;omega
end Hb
namespace Go.Proofs.YtjpnmmjgdiiahaaGreatDoor
section
open Go.RowKit Hb
set_option maxRecDepth 100000 in
set_option maxHeartbeats 2000000 in
theorem Shift_long (neg:Bool) {B:Nat} {A:Option Addr} {l:List Nat} {n c:Nat} {w:World} (hs:SlU w B A n c l) (hn:n≤67108000) (hB:B≤w.heap.size) (hlg:lng l=true) (k z:Int) :
  Calls Tryz.prog 158 #[.agg #[.bool neg,.slice A n c],.int .i64 k] w (PostC w z 10):=by
 have HL:=Lib.hid (P1w_long (neg:=neg) hs (by omega) hB)
 rw [hlg] at HL
 clear hs hn hB hlg
 go_enter Tryz.func158,Tryz.ntmps158
 go_wp2_with fail
 refine HL.out.mono ?_
 rintro ex w3 ⟨rfl,hb3⟩
 obtain ⟨h1,h2,h3,h4⟩:=P1w_after hb3
 obtain ⟨a0,a1,_,_⟩:=h1.facts
 obtain ⟨r0,r1,r2,r3⟩:=h2.facts
 have H1:=Lib.hid h1
 have H2:=Lib.hid h2
 have H3:=Lib.hid h3
 clear h1 h2 h3 hb3
 go_wp2
 exact bodyPost_ret (v:=.tuple #[zeroV,.int .i64 10]) (by simp [results,Tryz.results158,go_sem,r0,r1]) rfl
  (PostC.bad rfl (by decide) ((H3.out.setCell (by simp) _).setCell (by simp) _))
set_option maxRecDepth 100000 in
set_option maxHeartbeats 2000000 in
theorem Shift_nought (neg:Bool) {B:Nat} {A:Option Addr} {l:List Nat} {n c:Nat} {w:World} (hs:SlU w B A n c l) (hn:n≤67108000) (hB:B≤w.heap.size) (hlg:lng l=false) (h0:ival neg l=0) (k:Int) :
  Calls Tryz.prog 158 #[.agg #[.bool neg,.slice A n c],.int .i64 k] w (PostC w 0 0):=by
 have HL:=Lib.hid (P1w_long (neg:=neg) hs (by omega) hB)
 rw [hlg] at HL
 obtain ⟨s,hsg⟩:∃ s,(ival neg l).sign=s:=⟨_,rfl⟩
 have HSg:Hid (∀ w1,Below w.heap.size w w1→Calls Tryz.prog 21 #[.agg #[.bool neg,.slice A n c]] w1 (CmpZPost s w1)):=Lib.hid (fun w1 hb=>by rw [←hsg];exact sign_any neg (hs.below (C:=w.heap.size) hb hB) (Nat.le_trans hB hb.size))
 have hs0:(s==0)=true:=by rw [←hsg,h0];rfl
 clear hs hn hB hlg h0 hsg
 go_enter Tryz.func158,Tryz.ntmps158
 go_wp2_with fail
 refine HL.out.mono ?_
 rintro ex w3 ⟨rfl,hb3⟩
 obtain ⟨h1,h2,h3,h4⟩:=P1w_after hb3
 obtain ⟨a0,a1,_,_⟩:=h1.facts
 obtain ⟨r0,r1,r2,r3⟩:=h2.facts
 have H1:=Lib.hid h1
 have H2:=Lib.hid h2
 have H3:=Lib.hid h3
 clear h1 h2 h3 hb3
 go_wp2_with fail
 refine (HSg.out _ H3.out).mono ?_
 rintro ex w4 ⟨rfl,hb4⟩
 have hz4:=hb4.size
 replace H1:=Lib.hid (H1.out.below hb4 (by omega))
 replace H2:=Lib.hid (H2.out.below hb4 (by omega))
 replace H3:=Lib.hid (H3.out.trans (hb4.mono (by omega)))
 clear hb4 a0 a1 r0 r1 r2 r3
 obtain ⟨a0,a1,_,_⟩:=H1.out.facts
 obtain ⟨r0,r1,r2,r3⟩:=H2.out.facts
 go_wp2
 exact bodyPost_ret (v:=.tuple #[zeroV,.int .i64 0]) (by simp [results,Tryz.results158,go_sem,r0,r1]) rfl
  (PostC.ok rfl (ResI.zero _ _) ((H3.out.setCell (by simp) _).setCell (by simp) _))
set_option maxRecDepth 100000 in
set_option maxHeartbeats 2000000 in
theorem Shift_great (neg:Bool) {B:Nat} {A:Option Addr} {l:List Nat} {n c:Nat} {w:World} (hs:SlU w B A n c l) (hn:n≤67108000) (hB:B≤w.heap.size) (hlg:lng l=false) (h0:ival neg l≠0) (k:Nat) (bl:Nat) (hbl:blen (nv W l)=bl) (hg:4096<bl+k) (z:Int) :
  Calls Tryz.prog 158 #[.agg #[.bool neg,.slice A n c],.int .i64 (k:Int)] w (PostC w z 10):=by
 have HL:=Lib.hid (P1w_long (neg:=neg) hs (by omega) hB)
 rw [hlg] at HL
 obtain ⟨s,hsg⟩:∃ s,(ival neg l).sign=s:=⟨_,rfl⟩
 have HSg:Hid (∀ w1,Below w.heap.size w w1→Calls Tryz.prog 21 #[.agg #[.bool neg,.slice A n c]] w1 (CmpZPost s w1)):=Lib.hid (fun w1 hb=>by rw [←hsg];exact sign_any neg (hs.below (C:=w.heap.size) hb hB) (Nat.le_trans hB hb.size))
 have hs0:(s==0)=false:=beq_eq_false_iff_ne.2 (fun e=>h0 (Int.sign_eq_zero_iff_zero.1 (hsg.trans e)))
 have HBt:Hid (∀ w1,Below w.heap.size w w1→Calls Tryz.prog 20 #[.agg #[.bool neg,.slice A n c]] w1 (CmpZPost (bl:Int) w1)):=Lib.hid (fun w1 hb=>by rw [←hbl];exact bits_any neg (hs.below (C:=w.heap.size) hb hB) (by omega) (Nat.le_trans hB hb.size))
 have hk0:(0:Int)≤(k:Int):=by omega
 have hb4:bl≤4096:=by have:=of_decide_eq_false hlg;omega
 clear hs hn hB hlg h0 hsg hbl
 by_cases hk:4096<k
 ·have d1:decide ((4096:Int)<(k:Int))=true:=decide_eq_true (by omega)
  have d2:decide (4096<k)=true:=decide_eq_true hk
  go_enter Tryz.func158,Tryz.ntmps158
  go_wp2_with fail
  refine HL.out.mono ?_
  rintro ex w3 ⟨rfl,hb3⟩
  obtain ⟨h1,h2,h3,h4⟩:=P1w_after hb3
  obtain ⟨a0,a1,_,_⟩:=h1.facts
  obtain ⟨r0,r1,r2,r3⟩:=h2.facts
  have H1:=Lib.hid h1
  have H2:=Lib.hid h2
  have H3:=Lib.hid h3
  clear h1 h2 h3 hb3
  go_wp2_with fail
  refine (HSg.out _ H3.out).mono ?_
  rintro ex w4 ⟨rfl,hb4⟩
  have hz4:=hb4.size
  replace H1:=Lib.hid (H1.out.below hb4 (by omega))
  replace H2:=Lib.hid (H2.out.below hb4 (by omega))
  replace H3:=Lib.hid (H3.out.trans (hb4.mono (by omega)))
  clear hb4 a0 a1 r0 r1 r2 r3
  obtain ⟨a0,a1,_,_⟩:=H1.out.facts
  obtain ⟨r0,r1,r2,r3⟩:=H2.out.facts
  go_wp2
  exact bodyPost_ret (v:=.tuple #[zeroV,.int .i64 10]) (by simp [results,Tryz.results158,go_sem,r0,r1]) rfl
   (PostC.bad rfl (by decide) ((H3.out.setCell (by simp) _).setCell (by simp) _))
 ·have d1:decide ((4096:Int)<(k:Int))=false:=decide_eq_false (by omega)
  have d2:decide (4096<k)=false:=decide_eq_false hk
  have d3:decide ((4096:Int)<(bl:Int)+(k:Int))=true:=decide_eq_true (by omega)
  go_enter Tryz.func158,Tryz.ntmps158
  go_wp2_with fail
  refine HL.out.mono ?_
  rintro ex w3 ⟨rfl,hb3⟩
  obtain ⟨h1,h2,h3,h4⟩:=P1w_after hb3
  obtain ⟨a0,a1,_,_⟩:=h1.facts
  obtain ⟨r0,r1,r2,r3⟩:=h2.facts
  have H1:=Lib.hid h1
  have H2:=Lib.hid h2
  have H3:=Lib.hid h3
  clear h1 h2 h3 hb3
  go_wp2_with fail
  refine (HSg.out _ H3.out).mono ?_
  rintro ex w4 ⟨rfl,hb4⟩
  have hz4:=hb4.size
  replace H1:=Lib.hid (H1.out.below hb4 (by omega))
  replace H2:=Lib.hid (H2.out.below hb4 (by omega))
  replace H3:=Lib.hid (H3.out.trans (hb4.mono (by omega)))
  clear hb4 a0 a1 r0 r1 r2 r3
  obtain ⟨a0,a1,_,_⟩:=H1.out.facts
  obtain ⟨r0,r1,r2,r3⟩:=H2.out.facts
  go_wp2_with fail
  refine (HBt.out _ H3.out).mono ?_
  rintro ex w5 ⟨rfl,hb5⟩
  have hz5:=hb5.size
  replace H1:=Lib.hid (H1.out.below hb5 (by omega))
  replace H2:=Lib.hid (H2.out.below hb5 (by omega))
  replace H3:=Lib.hid (H3.out.trans (hb5.mono (by omega)))
  clear hb5 a0 a1 r0 r1 r2 r3
  obtain ⟨a0,a1,_,_⟩:=H1.out.facts
  obtain ⟨r0,r1,r2,r3⟩:=H2.out.facts
  go_wp2
  exact bodyPost_ret (v:=.tuple #[zeroV,.int .i64 10]) (by simp [results,Tryz.results158,go_sem,r0,r1]) rfl
   (PostC.bad rfl (by decide) ((H3.out.setCell (by simp) _).setCell (by simp) _))
set_option maxRecDepth 100000 in
set_option maxHeartbeats 2000000 in
theorem Shift_up (neg:Bool) {B:Nat} {A:Option Addr} {l:List Nat} {n c:Nat} {w:World} (hs:SlU w B A n c l) (hn:n≤67108000) (hB:B≤w.heap.size) (hlg:lng l=false) (h0:ival neg l≠0) (k:Nat) (bl:Nat) (hbl:blen (nv W l)=bl) (hg:bl+k≤4096) (Z:Int) (hZ:ival neg l * 2 ^ k=Z) :
  Calls Tryz.prog 158 #[.agg #[.bool neg,.slice A n c],.int .i64 (k:Int)] w (PostC w Z 0):=by
 have HL:=Lib.hid (P1w_long (neg:=neg) hs (by omega) hB)
 rw [hlg] at HL
 obtain ⟨s,hsg⟩:∃ s,(ival neg l).sign=s:=⟨_,rfl⟩
 have HSg:Hid (∀ w1,Below w.heap.size w w1→Calls Tryz.prog 21 #[.agg #[.bool neg,.slice A n c]] w1 (CmpZPost s w1)):=Lib.hid (fun w1 hb=>by rw [←hsg];exact sign_any neg (hs.below (C:=w.heap.size) hb hB) (Nat.le_trans hB hb.size))
 have hs0:(s==0)=false:=beq_eq_false_iff_ne.2 (fun e=>h0 (Int.sign_eq_zero_iff_zero.1 (hsg.trans e)))
 have HBt:Hid (∀ w1,Below w.heap.size w w1→Calls Tryz.prog 20 #[.agg #[.bool neg,.slice A n c]] w1 (CmpZPost (bl:Int) w1)):=Lib.hid (fun w1 hb=>by rw [←hbl];exact bits_any neg (hs.below (C:=w.heap.size) hb hB) (by omega) (Nat.le_trans hB hb.size))
 have hk0:(0:Int)≤(k:Int):=by omega
 have d1:decide ((4096:Int)<(k:Int))=false:=decide_eq_false (by omega)
 have d2:decide (4096<k)=false:=decide_eq_false (by omega)
 have d3:decide ((4096:Int)<(bl:Int)+(k:Int))=false:=decide_eq_false (by omega)
 have hb4:bl≤4096:=by omega
 have hk4:k≤4096:=by omega
 obtain ⟨q,hq⟩:∃ q,k / 32=q:=⟨_,rfl⟩
 obtain ⟨r,hr⟩:∃ r,k % 32=r:=⟨_,rfl⟩
 have hqI:(k:Int) / 32=(q:Int):=by omega
 have hrI:(k:Int) % 32=(r:Int):=by omega
 have hmk:=makeU q (by omega)
 have HQ:=Lib.hid (show q≤maxLen by unfold maxLen;omega)
 have HQ2:=Lib.hid (show q+(n+1)≤67108864 by omega)
 have HShl:=Lib.hid (fun w1 (hb:Below w.heap.size w w1)=>shl_any (s:=r) (hs.below (C:=w.heap.size) hb hB) (by omega) (Nat.le_trans hB hb.size) (by omega))
 have HV:Hid (∀ o,nv W o=nv W l * 2 ^ r→ival neg (List.replicate q 0 ++ o)=Z):=Lib.hid (fun o ho=>by
  have h1:=nv_up l o k (by rw [hr];exact ho)
  rw [hq] at h1
  rw [←hZ]
  unfold ival
  rw [h1,Int.natCast_mul,two_pow_cast]
  split
  ·rw [Int.neg_mul]
  ·rfl)
 clear hs hn hB hlg h0 hsg hbl hg hq hr hZ
 go_enter Tryz.func158,Tryz.ntmps158
 go_wp2_with fail
 refine HL.out.mono ?_
 rintro ex w3 ⟨rfl,hb3⟩
 obtain ⟨h1,h2,h3,h4⟩:=P1w_after hb3
 obtain ⟨a0,a1,_,_⟩:=h1.facts
 obtain ⟨r0,r1,r2,r3⟩:=h2.facts
 have H1:=Lib.hid h1
 have H2:=Lib.hid h2
 have H3:=Lib.hid h3
 clear h1 h2 h3 hb3
 go_wp2_with fail
 refine (HSg.out _ H3.out).mono ?_
 rintro ex w4 ⟨rfl,hb4⟩
 have hz4:=hb4.size
 replace H1:=Lib.hid (H1.out.below hb4 (by omega))
 replace H2:=Lib.hid (H2.out.below hb4 (by omega))
 replace H3:=Lib.hid (H3.out.trans (hb4.mono (by omega)))
 clear hb4 a0 a1 r0 r1 r2 r3
 obtain ⟨a0,a1,_,_⟩:=H1.out.facts
 obtain ⟨r0,r1,r2,r3⟩:=H2.out.facts
 go_wp2_with fail
 refine (HBt.out _ H3.out).mono ?_
 rintro ex w5 ⟨rfl,hb5⟩
 have hz5:=hb5.size
 replace H1:=Lib.hid (H1.out.below hb5 (by omega))
 replace H2:=Lib.hid (H2.out.below hb5 (by omega))
 replace H3:=Lib.hid (H3.out.trans (hb5.mono (by omega)))
 clear hb5 a0 a1 r0 r1 r2 r3
 obtain ⟨a0,a1,_,_⟩:=H1.out.facts
 obtain ⟨r0,r1,r2,r3⟩:=H2.out.facts
 go_upto_region 8 with fail
 have hS:=Lib.hid (fun w' (hb:Below w5.heap.size w5 w')=>And.intro (H1.out.below hb (Bx.lt H1.out)).facts.1 (H1.out.below hb (Bx.lt H1.out)).facts.2.1)
 have hT:=Lib.hid (fun w' (hb:Below w5.heap.size w5 w')=>H2.out.below hb (Bx.lt H2.out))
 have KK:Below w5.heap.size w5 w5.drew:=(Below.refl _ _).drew
 refine wp_region_wait (fun w'=>w'.cell? ⟨w.heap.size,0,none⟩=some (.bool neg)∧w'.cell? ⟨w.heap.size,1,none⟩=some (.slice A n c)) 12 (by kernel_rfl) ?_
 change wpAnyW _ _ _ _ _ _ _ _ _ w5.drew
 have zd:w5.heap.size≤w5.drew.heap.size:=Nat.le_refl _
 generalize w5.drew=u0 at *
 have hqw:IntKind.i64.wrap (q:Int)=(q:Int):=IntWalk.i64_in _ (by omega)
 have hrt:(k:Int).tmod 32=(r:Int):=by rw [Int.tmod_eq_emod_of_nonneg hk0];exact hrI
 refine wpAnyW_take 12 (i:=0) (v:=.pointer (some ⟨w.heap.size,0,none⟩)) rfl (by kernel_rfl) (by kernel_rfl) (by kernel_rfl) (by kernel_rfl) (fun _ _ _ h=>h) (Or.inl ⟨by kernel_rfl,fun w5 hSw=>by go_simp⟩) (hS.out _ KK) ?_
 refine wpAnyW_take 12 (i:=1) (v:=.bool neg) rfl (by kernel_rfl) (by kernel_rfl) (by kernel_rfl) (by kernel_rfl) (fun _ _ _ h=>h) (Or.inl ⟨by kernel_rfl,fun w5 hSw=>by go_simp⟩) (hS.out _ KK) ?_
 refine wpAnyW_take 12 (i:=2) (v:=.int .i64 (k:Int)) rfl (by kernel_rfl) (by kernel_rfl) (by kernel_rfl) (by kernel_rfl) (fun _ _ _ h=>h) (Or.inl ⟨by kernel_rfl,fun w5 hSw=>by go_simp⟩) (hS.out _ KK) ?_
 refine wpAnyW_take 12 (i:=3) (v:=.int .i64 (q:Int)) rfl (by kernel_rfl) (by kernel_rfl) (by kernel_rfl) (by kernel_rfl) (fun _ _ _ h=>h) (Or.inl ⟨by kernel_rfl,fun w5 hSw=>by go_simp⟩) (hS.out _ KK) ?_
 refine wpAnyW_take 12 (i:=5) (v:=.pointer (some ⟨w.heap.size,1,none⟩)) rfl (by kernel_rfl) (by kernel_rfl) (by kernel_rfl) (by kernel_rfl) (fun _ _ _ h=>h) (Or.inl ⟨by kernel_rfl,fun w5 hSw=>by go_simp⟩) (hS.out _ KK) ?_
 refine wpAnyW_take 12 (i:=6) (v:=.slice A n c) rfl (by kernel_rfl) (by kernel_rfl) (by kernel_rfl) (by kernel_rfl) (fun _ _ _ h=>h) (Or.inl ⟨by kernel_rfl,fun w5 hSw=>by go_simp⟩) (hS.out _ KK) ?_
 refine wpAnyW_take 12 (i:=7) (v:=.int .i64 (k:Int)) rfl (by kernel_rfl) (by kernel_rfl) (by kernel_rfl) (by kernel_rfl) (fun _ _ _ h=>h) (Or.inl ⟨by kernel_rfl,fun w5 hSw=>by go_simp⟩) (hS.out _ KK) ?_
 refine wpAnyW_take 12 (i:=8) (v:=.int .i64 (r:Int)) rfl (by kernel_rfl) (by kernel_rfl) (by kernel_rfl) (by kernel_rfl) (fun _ _ _ h=>h) (Or.inl ⟨by kernel_rfl,fun w5 hSw=>by go_simp⟩) (hS.out _ KK) ?_
 refine wpAnyW_two (i:=4) (i2:=9) (by kernel_rfl) rfl rfl (fun K hK=>?_) (fun K hK=>?_)
 ·go_simp
  have omk:=own_zeros u0 q (B:=w5.heap.size) KK.size HQ.out
  have zu1:u0.heap.size<(u0.alloc (.cells (madeCells #[.int .u32 0] q) 79)).heap.size:=by simp
  replace KK:=Below.alloc KK KK.size (.cells (madeCells #[.int .u32 0] q) 79)
  refine hK.out _ _ (fun _=>hS.out _ KK) ?_
  generalize u0.alloc (.cells (madeCells #[.int .u32 0] q) 79)=u1 at *
  generalize u0.heap.size=g2 at *
  refine uW 9 fun K hK=>?_
  go_simp
  (with_reducible refine (HShl.out _ (H3.out.trans (KK.mono (by omega)))).mono ?_)
  rintro ex u3 ⟨rfl,o,hol,hod,_,hov,osh,hbb⟩
  replace omk:=Own.below omk hbb (Nat.le_refl _)
  replace KK:=KK.trans (hbb.mono KK.size)
  have zu3:=hbb.size
  have zzu3:=(own_block osh rfl).2
  replace osh:=Own.sl osh hod hol
  clear hbb
  refine hK.out _ _ (fun _=>hS.out _ KK) ?_
  generalize u1.heap.size=g4 at *
  refine uW 10 fun K hK=>?_
  rw [if_pos (by kernel_rfl)]
  refine wp_append_far (base:=w5.heap.size) (l0:=List.replicate q 0) (l:=o) (A:=some ⟨g4,0,none⟩) (A0:=some ⟨g2,0,none⟩) (n0:=q) (c0:=q) (m:=n+1) (c:=n+1) _ _ (by rfl) (by rfl) omk (by rfl) (fun h=>by cases h) osh HQ2.out KK.size ?_
  intro Aap cap u5 oap hbb hff _
  replace KK:=KK.trans (hbb.mono (Nat.le_refl _))
  clear hbb hff omk osh
  refine hK.out _ _ (fun _=>hS.out _ KK) ?_
  refine uW 11 fun K hK=>?_
  go_simp
  (with_reducible refine (laid_at neg oap (by rw [List.length_append,List.length_replicate,hol]) ((Dig.replicate _ _ (by decide)).append hod) (HV.out o hov)).mono ?_)
  rintro ex u6 ⟨rfl,ores,hbb⟩
  replace KK:=KK.trans (hbb.mono KK.size)
  clear hbb oap
  refine hK.out _ _ (fun _=>hS.out _ KK) ?_
  refine uW 12 fun K hK=>?_
  obtain ⟨t0,t1,t2,t3⟩:=(hT.out _ KK).facts
  go_simp
  refine hK.out _ _ (fun h=>absurd h (by simp)) ?_
  refine uW 13 fun K hK=>?_
  go_simp
  refine hK.out _ _ (fun h=>absurd h (by simp)) ?_
  refine wpAnyW_done (by kernel_rfl) ?_ _
  go_wp2
  exact bodyPost_ret (v:=.tuple #[.agg #[.bool (decide (Z<0)),.slice Aap (digs W Z.natAbs).length cap],.int .i64 0]) (by simp [results,Tryz.results158,go_sem,t0,t1]) rfl
   (PostC.ok rfl (ResI.stored (w:=w) (g:=w.heap.size+1) ⟨Aap,cap,rfl,ores⟩ (H3.out.trans (KK.mono (B':=w.heap.size) H3.out.size)) (by omega) (by omega)).1 (ResI.stored (w:=w) (g:=w.heap.size+1) ⟨Aap,cap,rfl,ores⟩ (H3.out.trans (KK.mono (B':=w.heap.size) H3.out.size)) (by omega) (by omega)).2)
 ·go_simp
  (with_reducible refine (HShl.out _ (H3.out.trans (KK.mono (by omega)))).mono ?_)
  rintro ex u7 ⟨rfl,o,hol,hod,_,hov,osh,hbb⟩
  replace KK:=KK.trans (hbb.mono KK.size)
  have zu7:=hbb.size
  have zzu7:=(own_block osh rfl).2
  replace osh:=Own.sl osh hod hol
  clear hbb
  refine hK.out _ _ (fun _=>hS.out _ KK) ?_
  generalize u0.heap.size=g8 at *
  refine uW 4 fun K hK=>?_
  go_simp
  replace osh:=SlU.to osh ((Below.refl u7.heap.size u7).alloc (Nat.le_refl _) (.cells (madeCells #[.int .u32 0] q) 79)) (Nat.le_refl _)
  have omk:=own_zeros u7 q (B:=w5.heap.size) KK.size HQ.out
  have zu9:u7.heap.size<(u7.alloc (.cells (madeCells #[.int .u32 0] q) 79)).heap.size:=by simp
  replace KK:=Below.alloc KK KK.size (.cells (madeCells #[.int .u32 0] q) 79)
  refine hK.out _ _ (fun _=>hS.out _ KK) ?_
  generalize u7.alloc (.cells (madeCells #[.int .u32 0] q) 79)=u9 at *
  generalize u7.heap.size=g10 at *
  refine uW 10 fun K hK=>?_
  rw [if_pos (by kernel_rfl)]
  refine wp_append_far (base:=w5.heap.size) (l0:=List.replicate q 0) (l:=o) (A:=some ⟨g8,0,none⟩) (A0:=some ⟨g10,0,none⟩) (n0:=q) (c0:=q) (m:=n+1) (c:=n+1) _ _ (by rfl) (by rfl) omk (by rfl) (fun h=>by cases h) osh HQ2.out KK.size ?_
  intro Aap cap u11 oap hbb hff _
  replace KK:=KK.trans (hbb.mono (Nat.le_refl _))
  clear hbb hff omk osh
  refine hK.out _ _ (fun _=>hS.out _ KK) ?_
  refine uW 11 fun K hK=>?_
  go_simp
  (with_reducible refine (laid_at neg oap (by rw [List.length_append,List.length_replicate,hol]) ((Dig.replicate _ _ (by decide)).append hod) (HV.out o hov)).mono ?_)
  rintro ex u12 ⟨rfl,ores,hbb⟩
  replace KK:=KK.trans (hbb.mono KK.size)
  clear hbb oap
  refine hK.out _ _ (fun _=>hS.out _ KK) ?_
  refine uW 12 fun K hK=>?_
  obtain ⟨t0,t1,t2,t3⟩:=(hT.out _ KK).facts
  go_simp
  refine hK.out _ _ (fun h=>absurd h (by simp)) ?_
  refine uW 13 fun K hK=>?_
  go_simp
  refine hK.out _ _ (fun h=>absurd h (by simp)) ?_
  refine wpAnyW_done (by kernel_rfl) ?_ _
  go_wp2
  exact bodyPost_ret (v:=.tuple #[.agg #[.bool (decide (Z<0)),.slice Aap (digs W Z.natAbs).length cap],.int .i64 0]) (by simp [results,Tryz.results158,go_sem,t0,t1]) rfl
   (PostC.ok rfl (ResI.stored (w:=w) (g:=w.heap.size+1) ⟨Aap,cap,rfl,ores⟩ (H3.out.trans (KK.mono (B':=w.heap.size) H3.out.size)) (by omega) (by omega)).1 (ResI.stored (w:=w) (g:=w.heap.size+1) ⟨Aap,cap,rfl,ores⟩ (H3.out.trans (KK.mono (B':=w.heap.size) H3.out.size)) (by omega) (by omega)).2)
set_option maxRecDepth 100000 in
set_option maxHeartbeats 4000000 in
theorem Shift_down (neg:Bool) {B:Nat} {A:Option Addr} {l:List Nat} {n c:Nat} {w:World} (hs:SlU w B A n c l) (hn:n≤67108000) (hB:B≤w.heap.size) (hlg:lng l=false) (h0:ival neg l≠0) (kk mm:Int) (m:Nat) (hmm:mm = -(m:Int)) (hm0:0<m) (hm4:m≤4097) (hk:kk<0) (hk2 : -9223372036854775808≤kk) (hc1:kk < -4096→mm = -4097) (hc2:¬kk < -4096→mm=kk)  (Z:Int) (hZ:ival neg l / 2 ^ m=Z) :
  Calls Tryz.prog 158 #[.agg #[.bool neg,.slice A n c],.int .i64 kk] w (PostC w Z 0):=by
 have HL:=Lib.hid (P1w_long (neg:=neg) hs (by omega) hB)
 rw [hlg] at HL
 obtain ⟨s,hsg⟩:∃ s,(ival neg l).sign=s:=⟨_,rfl⟩
 have HSg:Hid (∀ w1,Below w.heap.size w w1→Calls Tryz.prog 21 #[.agg #[.bool neg,.slice A n c]] w1 (CmpZPost s w1)):=Lib.hid (fun w1 hb=>by rw [←hsg];exact sign_any neg (hs.below (C:=w.heap.size) hb hB) (Nat.le_trans hB hb.size))
 have hs0:(s==0)=false:=beq_eq_false_iff_ne.2 (fun e=>h0 (Int.sign_eq_zero_iff_zero.1 (hsg.trans e)))
 have d0:decide ((0:Int)≤kk)=false:=decide_eq_false (by omega)
 have HC1:=Lib.hid (fun h:kk < -4096=>(hc1 h).symm)
 have HC2:=Lib.hid (fun h:¬kk < -4096=>(hc2 h).symm)
 have hm1 : -4097≤mm:=by omega
 have hm2:mm<0:=by omega
 have hneg : -mm=(m:Int):=by omega
 obtain ⟨q,hq⟩:∃ q,m / 32=q:=⟨_,rfl⟩
 obtain ⟨r,hr⟩:∃ r,m % 32=r:=⟨_,rfl⟩
 obtain ⟨p,hp⟩:∃ p,2 ^ r=p:=⟨_,rfl⟩
 have hqI:(m:Int) / 32=(q:Int):=by omega
 have hrI:(m:Int) % 32=(r:Int):=by omega
 have hp32:p<4294967296:=by
  have:2 ^ r<2 ^ 32:=Nat.pow_lt_pow_right (by decide) (by omega)
  omega
 have hpI:(2:Int) ^ r=(p:Int):=by rw [←hp];simp
 have hpM:(p:Int) % 4294967296=(p:Int):=by omega
 have HPW:Hid (IntKind.u32.wrap (p:Int)=(p:Int)):=Lib.hid (wrap_u32 p hp32)
 have hmk:=makeU q (by omega)
 have HQ:=Lib.hid (show q≤maxLen by unfold maxLen;omega)
 have HQ2:=Lib.hid (show q+1≤67108864 by omega)
 have HP:=Lib.hid (And.intro hp32 True.intro)
 obtain ⟨zp,hzp⟩:∃ z:Int,((2 ^ m:Nat):Int)=z:=⟨_,rfl⟩
 have hzd:Dig W (List.replicate q 0 ++ [p]):=by have:=dig_two_pow m;rw [hq,hr,hp] at this;exact this
 have hzv:ival false (List.replicate q 0 ++ [p])=zp:=by
  have:=Hb.nv_two m
  rw [hq,hr,hp] at this
  rw [←hzp];unfold ival;rw [this];rfl
 have HV:=Lib.hid (And.intro hzd hzv)
 have hza:zp.natAbs=2 ^ m:=by rw [←hzp,Int.natAbs_natCast]
 have HPV:=Lib.hid (show nv W (digs W zp.natAbs)=2 ^ m by rw [nv_digs (by decide),hza])
 have HPn:=Lib.hid (show (digs W zp.natAbs).length≤129 by
  refine digs_length_le (k:=129) (by decide) ?_
  rw [hza,W_pow_eq]
  generalize hK9:32 * 129=K9
  exact Nat.pow_lt_pow_right (by decide) (by omega))
 have HSl:=Lib.hid (fun w1 (hb:Below w.heap.size w w1)=>And.intro (hs.below (C:=w.heap.size) hb hB) (Nat.le_trans hB hb.size))
 have HN:=Lib.hid (show n≤67108000 from hn)
 have hlen:=hs.len
 have HLn:=Lib.hid (show l.length=n from hlen)
 have HDl:=Lib.hid hs.dig
 have hiv:ival neg l=if neg then -(nv W l:Int) else (nv W l:Int):=rfl
 have HZ:=Lib.hid hZ
 have HIV:=Lib.hid hiv
 clear hs hn hB hlg h0 hsg hZ hq hr hp hzp hzd hzv hza hmm hm0 hc1 hc2 hlen hiv hp32
 go_enter Tryz.func158,Tryz.ntmps158
 go_wp2_with fail
 refine HL.out.mono ?_
 rintro ex w3 ⟨rfl,hb3⟩
 obtain ⟨h1,h2,h3,h4⟩:=P1w_after hb3
 obtain ⟨a0,a1,_,_⟩:=h1.facts
 obtain ⟨r0,r1,r2,r3⟩:=h2.facts
 have H1:=Lib.hid h1
 have H2:=Lib.hid h2
 have H3:=Lib.hid h3
 clear h1 h2 h3 hb3
 go_wp2_with fail
 refine (HSg.out _ H3.out).mono ?_
 rintro ex w4 ⟨rfl,hb4⟩
 have hz4:=hb4.size
 replace H1:=Lib.hid (H1.out.below hb4 (by omega))
 replace H2:=Lib.hid (H2.out.below hb4 (by omega))
 replace H3:=Lib.hid (H3.out.trans (hb4.mono (by omega)))
 clear hb4 a0 a1 r0 r1 r2 r3
 obtain ⟨a0,a1,_,_⟩:=H1.out.facts
 obtain ⟨r0,r1,r2,r3⟩:=H2.out.facts
 go_upto_if 43 with fail
 go_cut [1] (fun s1 wx=>s1 = .int .i64 mm∧w4=wx)
 case first=>
  go_wp2_with fail
  all_goals
   go_meet
   first | exact ⟨by rw [HC1.out ‹_›],rfl⟩ | exact ⟨by rw [HC2.out (by omega)],rfl⟩
 obtain ⟨rfl,rfl⟩:=hcut
 clear HC1 HC2 d0 hk hk2
 go_upto_region 11 with fail
 go_cut [6] (fun s6 wx=>∃ g A2 c2,s6 = .pointer (some ⟨g,0,none⟩)∧Bx wx g (.bool (decide (zp<0))) (.slice A2 (digs W zp.natAbs).length c2)∧OwnU wx w4.heap.size A2 (digs W zp.natAbs).length c2 (u32s (digs W zp.natAbs))∧Below w4.heap.size w4 wx∧w4.heap.size≤g)
 case first=>
   have KK:Below w4.heap.size w4 w4.drew:=(Below.refl _ _).drew
   refine wp_region_wait (fun _=>True) 12 (by kernel_rfl) ?_
   change wpAnyW _ _ _ _ _ _ _ _ _ w4.drew
   have zd:w4.heap.size≤w4.drew.heap.size:=Nat.le_refl _
   generalize w4.drew=u0 at *
   have hqw:IntKind.i64.wrap (q:Int)=(q:Int):=IntWalk.i64_in _ (by omega)
   have hmw:IntKind.i64.wrap (m:Int)=(m:Int):=IntWalk.i64_in _ (by omega)
   have hpw:IntKind.u32.wrap (p:Int)=(p:Int):=HPW.out
   have hrt:(m:Int).tmod 32=(r:Int):=by rw [Int.tmod_eq_emod_of_nonneg (by omega)];exact hrI
   refine wpAnyW_take 12 (i:=0) (v:=.int .i64 mm) rfl (by kernel_rfl) (by kernel_rfl) (by kernel_rfl) (by kernel_rfl) (fun _ _ _ h=>h) (Or.inl ⟨by kernel_rfl,fun w5 hSw=>by go_simp⟩) trivial ?_
   refine wpAnyW_take 12 (i:=1) (v:=.int .i64 (m:Int)) rfl (by kernel_rfl) (by kernel_rfl) (by kernel_rfl) (by kernel_rfl) (fun _ _ _ h=>h) (Or.inl ⟨by kernel_rfl,fun w5 hSw=>by go_simp⟩) trivial ?_
   refine wpAnyW_take 12 (i:=2) (v:=.int .i64 (q:Int)) rfl (by kernel_rfl) (by kernel_rfl) (by kernel_rfl) (by kernel_rfl) (fun _ _ _ h=>h) (Or.inl ⟨by kernel_rfl,fun w5 hSw=>by go_simp⟩) trivial ?_
   refine wpAnyW_take 12 (i:=4) (v:=.int .i64 mm) rfl (by kernel_rfl) (by kernel_rfl) (by kernel_rfl) (by kernel_rfl) (fun _ _ _ h=>h) (Or.inl ⟨by kernel_rfl,fun w5 hSw=>by go_simp⟩) trivial ?_
   refine wpAnyW_take 12 (i:=5) (v:=.int .i64 (m:Int)) rfl (by kernel_rfl) (by kernel_rfl) (by kernel_rfl) (by kernel_rfl) (fun _ _ _ h=>h) (Or.inl ⟨by kernel_rfl,fun w5 hSw=>by go_simp⟩) trivial ?_
   refine wpAnyW_take 12 (i:=6) (v:=.int .i64 (r:Int)) rfl (by kernel_rfl) (by kernel_rfl) (by kernel_rfl) (by kernel_rfl) (fun _ _ _ h=>h) (Or.inl ⟨by kernel_rfl,fun w5 hSw=>by go_simp⟩) trivial ?_
   refine wpAnyW_take 12 (i:=7) (v:=.int .u32 (p:Int)) rfl (by kernel_rfl) (by kernel_rfl) (by kernel_rfl) (by kernel_rfl) (fun _ _ _ h=>h) (Or.inl ⟨by kernel_rfl,fun w5 hSw=>by go_simp⟩) trivial ?_
   refine wpAnyW_three (i:=3) (i2:=8) (i3:=11) (by kernel_rfl) rfl rfl rfl (fun K hK=>?_) (fun K hK=>?_) (fun K hK=>?_)
   ·go_simp
    have omk:=own_zeros u0 q (B:=w4.heap.size) KK.size HQ.out
    have zu13:u0.heap.size<(u0.alloc (.cells (madeCells #[.int .u32 0] q) 79)).heap.size:=by simp
    replace KK:=Below.alloc KK KK.size (.cells (madeCells #[.int .u32 0] q) 79)
    refine hK.out _ _ (fun _=>trivial) ?_
    generalize u0.alloc (.cells (madeCells #[.int .u32 0] q) 79)=u13 at *
    generalize u0.heap.size=g14 at *
    refine wpAnyW_two (i:=8) (i2:=11) (by kernel_rfl) rfl rfl (fun K hK=>?_) (fun K hK=>?_)
    ·go_simp
     replace omk:=Own.alloc omk (.cells #[.int .u32 (p:Int)] 79)
     have obs:=own_one u13 p (B:=w4.heap.size) KK.size
     have zu15:u13.heap.size<(u13.alloc (.cells #[.int .u32 (p:Int)] 79)).heap.size:=by simp
     replace KK:=Below.alloc KK KK.size (.cells #[.int .u32 (p:Int)] 79)
     refine hK.out _ _ (fun _=>trivial) ?_
     generalize u13.alloc (.cells #[.int .u32 (p:Int)] 79)=u15 at *
     generalize u13.heap.size=g16 at *
     refine wpAnyW_two (i:=9) (i2:=11) (by kernel_rfl) rfl rfl (fun K hK=>?_) (fun K hK=>?_)
     ·rw [if_pos (by kernel_rfl)]
      have osl:=Own.sl obs (Dig.cons HP.out.1 (Dig.nil _)) rfl
      refine wp_append_far (base:=w4.heap.size) (l0:=List.replicate q 0) (l:=[p]) (A:=some ⟨g16,0,none⟩) (A0:=some ⟨g14,0,none⟩) (n0:=q) (c0:=q) (m:=1) (c:=1) _ _ (by rfl) (by rfl) omk (by rfl) (fun h=>by cases h) osl HQ2.out KK.size ?_
      intro Aap cap u17 oap hbb hff hat
      replace KK:=KK.trans (hbb.mono (Nat.le_refl _))
      clear hbb hff hat omk obs osl
      refine hK.out _ _ (fun _=>trivial) ?_
      refine wpAnyW_two (i:=10) (i2:=11) (by kernel_rfl) rfl rfl (fun K hK=>?_) (fun K hK=>?_)
      ·go_simp
       (with_reducible refine (laid_at false oap (by simp) HV.out.1 HV.out.2).mono ?_)
       rintro ex u18 ⟨rfl,ores,hbb⟩
       replace KK:=KK.trans (hbb.mono KK.size)
       clear hbb oap
       refine hK.out _ _ (fun _=>trivial) ?_
       refine uW 11 fun K hK=>?_
       go_simp
       have hap:∀ g',Aap=some ⟨g',0,none⟩→g'≠u18.heap.size:=fun g' e=>Nat.ne_of_lt (own_block ores e).2
       replace ores:=Own.alloc ores (.cells #[.bool false,.slice none 0 0] 39)
       have bal:=Bx.new u18 (.bool false) (.slice none 0 0)
       have hwal:w4.heap.size≤u18.heap.size:=KK.size
       have zu19:u18.heap.size<(u18.alloc (.cells #[.bool false,.slice none 0 0] 39)).heap.size:=by simp
       replace KK:=Below.alloc KK KK.size (.cells #[.bool false,.slice none 0 0] 39)
       refine hK.out _ _ (fun _=>trivial) ?_
       replace hap:=Lib.hid hap
       generalize u18.alloc (.cells #[.bool false,.slice none 0 0] 39)=u19 at *
       generalize u18.heap.size=g20 at *
       refine uW 12 fun K hK=>?_
       obtain ⟨t0,t1,t2,t3⟩:=bal.facts
       go_simp
       refine hK.out _ _ (fun h=>absurd h (by simp)) ?_
       refine wpAnyW_done (by kernel_rfl) ?_ _
       go_wp2_with fail
       go_meet
       exact ⟨g20,Aap,cap,rfl,Bx.set bal _ _,(ores.far (p:=⟨g20,0,none⟩) hap.out _).far (p:=⟨g20,1,none⟩) hap.out _,(KK.setCell (by simpa using hwal) _).setCell (by simpa using hwal) _,hwal⟩
      ·go_simp
       have hap:∀ g',Aap=some ⟨g',0,none⟩→g'≠u17.heap.size:=fun g' e=>Nat.ne_of_lt (own_block oap e).2
       replace oap:=Own.alloc oap (.cells #[.bool false,.slice none 0 0] 39)
       have bal:=Bx.new u17 (.bool false) (.slice none 0 0)
       have hwal:w4.heap.size≤u17.heap.size:=KK.size
       have zu21:u17.heap.size<(u17.alloc (.cells #[.bool false,.slice none 0 0] 39)).heap.size:=by simp
       replace KK:=Below.alloc KK KK.size (.cells #[.bool false,.slice none 0 0] 39)
       refine hK.out _ _ (fun _=>trivial) ?_
       replace hap:=Lib.hid hap
       generalize u17.alloc (.cells #[.bool false,.slice none 0 0] 39)=u21 at *
       generalize u17.heap.size=g22 at *
       refine uW 10 fun K hK=>?_
       go_simp
       (with_reducible refine (laid_at false oap (by simp) HV.out.1 HV.out.2).mono ?_)
       rintro ex u23 ⟨rfl,ores,hbb⟩
       replace bal:=Bx.below bal hbb (Bx.lt bal)
       replace KK:=KK.trans (hbb.mono KK.size)
       clear hbb oap
       refine hK.out _ _ (fun _=>trivial) ?_
       refine uW 12 fun K hK=>?_
       obtain ⟨t0,t1,t2,t3⟩:=bal.facts
       go_simp
       refine hK.out _ _ (fun h=>absurd h (by simp)) ?_
       refine wpAnyW_done (by kernel_rfl) ?_ _
       go_wp2_with fail
       go_meet
       exact ⟨g22,Aap,cap,rfl,Bx.set bal _ _,(ores.far (p:=⟨g22,0,none⟩) hap.out _).far (p:=⟨g22,1,none⟩) hap.out _,(KK.setCell (by simpa using hwal) _).setCell (by simpa using hwal) _,hwal⟩
     ·go_simp
      replace omk:=Own.alloc omk (.cells #[.bool false,.slice none 0 0] 39)
      replace obs:=Own.alloc obs (.cells #[.bool false,.slice none 0 0] 39)
      have bal:=Bx.new u15 (.bool false) (.slice none 0 0)
      have hwal:w4.heap.size≤u15.heap.size:=KK.size
      have zu24:u15.heap.size<(u15.alloc (.cells #[.bool false,.slice none 0 0] 39)).heap.size:=by simp
      replace KK:=Below.alloc KK KK.size (.cells #[.bool false,.slice none 0 0] 39)
      refine hK.out _ _ (fun _=>trivial) ?_
      generalize u15.alloc (.cells #[.bool false,.slice none 0 0] 39)=u24 at *
      generalize u15.heap.size=g25 at *
      refine uW 9 fun K hK=>?_
      rw [if_pos (by kernel_rfl)]
      have osl:=Own.sl obs (Dig.cons HP.out.1 (Dig.nil _)) rfl
      refine wp_append_far (base:=w4.heap.size) (l0:=List.replicate q 0) (l:=[p]) (A:=some ⟨g16,0,none⟩) (A0:=some ⟨g14,0,none⟩) (n0:=q) (c0:=q) (m:=1) (c:=1) _ _ (by rfl) (by rfl) omk (by rfl) (fun h=>by cases h) osl HQ2.out KK.size ?_
      intro Aap cap u26 oap hbb hff hat
      have ltb:=Bx.lt bal
      have ltm:=(own_block omk rfl).2
      have hne:g25≠g14:=by omega
      have hap:∀ g',Aap=some ⟨g',0,none⟩→g'≠g25:=fun g' e e2=>by
       rcases hat g' e with h | h
       ·injection h with h;injection h with h _ _;exact hne (e2.symm.trans h.symm)
       ·omega
      replace bal:=Bx.same bal (hff g25 ltb (by intro e;injection e with e;injection e with e _ _;exact hne e.symm))
      replace hap:=Lib.hid hap
      clear ltb ltm hne
      replace KK:=KK.trans (hbb.mono (Nat.le_refl _))
      clear hbb hff hat omk obs osl
      refine hK.out _ _ (fun _=>trivial) ?_
      refine uW 10 fun K hK=>?_
      go_simp
      (with_reducible refine (laid_at false oap (by simp) HV.out.1 HV.out.2).mono ?_)
      rintro ex u27 ⟨rfl,ores,hbb⟩
      replace bal:=Bx.below bal hbb (Bx.lt bal)
      replace KK:=KK.trans (hbb.mono KK.size)
      clear hbb oap
      refine hK.out _ _ (fun _=>trivial) ?_
      refine uW 12 fun K hK=>?_
      obtain ⟨t0,t1,t2,t3⟩:=bal.facts
      go_simp
      refine hK.out _ _ (fun h=>absurd h (by simp)) ?_
      refine wpAnyW_done (by kernel_rfl) ?_ _
      go_wp2_with fail
      go_meet
      exact ⟨g25,Aap,cap,rfl,Bx.set bal _ _,(ores.far (p:=⟨g25,0,none⟩) hap.out _).far (p:=⟨g25,1,none⟩) hap.out _,(KK.setCell (by simpa using hwal) _).setCell (by simpa using hwal) _,hwal⟩
    ·go_simp
     replace omk:=Own.alloc omk (.cells #[.bool false,.slice none 0 0] 39)
     have bal:=Bx.new u13 (.bool false) (.slice none 0 0)
     have hwal:w4.heap.size≤u13.heap.size:=KK.size
     have zu28:u13.heap.size<(u13.alloc (.cells #[.bool false,.slice none 0 0] 39)).heap.size:=by simp
     replace KK:=Below.alloc KK KK.size (.cells #[.bool false,.slice none 0 0] 39)
     refine hK.out _ _ (fun _=>trivial) ?_
     generalize u13.alloc (.cells #[.bool false,.slice none 0 0] 39)=u28 at *
     generalize u13.heap.size=g29 at *
     refine uW 8 fun K hK=>?_
     go_simp
     replace omk:=Own.alloc omk (.cells #[.int .u32 (p:Int)] 79)
     replace bal:=Bx.alloc bal (.cells #[.int .u32 (p:Int)] 79)
     have obs:=own_one u28 p (B:=w4.heap.size) KK.size
     have zu30:u28.heap.size<(u28.alloc (.cells #[.int .u32 (p:Int)] 79)).heap.size:=by simp
     replace KK:=Below.alloc KK KK.size (.cells #[.int .u32 (p:Int)] 79)
     refine hK.out _ _ (fun _=>trivial) ?_
     generalize u28.alloc (.cells #[.int .u32 (p:Int)] 79)=u30 at *
     generalize u28.heap.size=g31 at *
     refine uW 9 fun K hK=>?_
     rw [if_pos (by kernel_rfl)]
     have osl:=Own.sl obs (Dig.cons HP.out.1 (Dig.nil _)) rfl
     refine wp_append_far (base:=w4.heap.size) (l0:=List.replicate q 0) (l:=[p]) (A:=some ⟨g31,0,none⟩) (A0:=some ⟨g14,0,none⟩) (n0:=q) (c0:=q) (m:=1) (c:=1) _ _ (by rfl) (by rfl) omk (by rfl) (fun h=>by cases h) osl HQ2.out KK.size ?_
     intro Aap cap u32 oap hbb hff hat
     have ltb:=Bx.lt bal
     have ltm:=(own_block omk rfl).2
     have hne:g29≠g14:=by omega
     have hap:∀ g',Aap=some ⟨g',0,none⟩→g'≠g29:=fun g' e e2=>by
      rcases hat g' e with h | h
      ·injection h with h;injection h with h _ _;exact hne (e2.symm.trans h.symm)
      ·omega
     replace bal:=Bx.same bal (hff g29 ltb (by intro e;injection e with e;injection e with e _ _;exact hne e.symm))
     replace hap:=Lib.hid hap
     clear ltb ltm hne
     replace KK:=KK.trans (hbb.mono (Nat.le_refl _))
     clear hbb hff hat omk obs osl
     refine hK.out _ _ (fun _=>trivial) ?_
     refine uW 10 fun K hK=>?_
     go_simp
     (with_reducible refine (laid_at false oap (by simp) HV.out.1 HV.out.2).mono ?_)
     rintro ex u33 ⟨rfl,ores,hbb⟩
     replace bal:=Bx.below bal hbb (Bx.lt bal)
     replace KK:=KK.trans (hbb.mono KK.size)
     clear hbb oap
     refine hK.out _ _ (fun _=>trivial) ?_
     refine uW 12 fun K hK=>?_
     obtain ⟨t0,t1,t2,t3⟩:=bal.facts
     go_simp
     refine hK.out _ _ (fun h=>absurd h (by simp)) ?_
     refine wpAnyW_done (by kernel_rfl) ?_ _
     go_wp2_with fail
     go_meet
     exact ⟨g29,Aap,cap,rfl,Bx.set bal _ _,(ores.far (p:=⟨g29,0,none⟩) hap.out _).far (p:=⟨g29,1,none⟩) hap.out _,(KK.setCell (by simpa using hwal) _).setCell (by simpa using hwal) _,hwal⟩
   ·go_simp
    have obs:=own_one u0 p (B:=w4.heap.size) KK.size
    have zu34:u0.heap.size<(u0.alloc (.cells #[.int .u32 (p:Int)] 79)).heap.size:=by simp
    replace KK:=Below.alloc KK KK.size (.cells #[.int .u32 (p:Int)] 79)
    refine hK.out _ _ (fun _=>trivial) ?_
    generalize u0.alloc (.cells #[.int .u32 (p:Int)] 79)=u34 at *
    generalize u0.heap.size=g35 at *
    refine wpAnyW_two (i:=3) (i2:=11) (by kernel_rfl) rfl rfl (fun K hK=>?_) (fun K hK=>?_)
    ·go_simp
     replace obs:=Own.alloc obs (.cells (madeCells #[.int .u32 0] q) 79)
     have omk:=own_zeros u34 q (B:=w4.heap.size) KK.size HQ.out
     have zu36:u34.heap.size<(u34.alloc (.cells (madeCells #[.int .u32 0] q) 79)).heap.size:=by simp
     replace KK:=Below.alloc KK KK.size (.cells (madeCells #[.int .u32 0] q) 79)
     refine hK.out _ _ (fun _=>trivial) ?_
     generalize u34.alloc (.cells (madeCells #[.int .u32 0] q) 79)=u36 at *
     generalize u34.heap.size=g37 at *
     refine wpAnyW_two (i:=9) (i2:=11) (by kernel_rfl) rfl rfl (fun K hK=>?_) (fun K hK=>?_)
     ·rw [if_pos (by kernel_rfl)]
      have osl:=Own.sl obs (Dig.cons HP.out.1 (Dig.nil _)) rfl
      refine wp_append_far (base:=w4.heap.size) (l0:=List.replicate q 0) (l:=[p]) (A:=some ⟨g35,0,none⟩) (A0:=some ⟨g37,0,none⟩) (n0:=q) (c0:=q) (m:=1) (c:=1) _ _ (by rfl) (by rfl) omk (by rfl) (fun h=>by cases h) osl HQ2.out KK.size ?_
      intro Aap cap u38 oap hbb hff hat
      replace KK:=KK.trans (hbb.mono (Nat.le_refl _))
      clear hbb hff hat omk obs osl
      refine hK.out _ _ (fun _=>trivial) ?_
      refine wpAnyW_two (i:=10) (i2:=11) (by kernel_rfl) rfl rfl (fun K hK=>?_) (fun K hK=>?_)
      ·go_simp
       (with_reducible refine (laid_at false oap (by simp) HV.out.1 HV.out.2).mono ?_)
       rintro ex u39 ⟨rfl,ores,hbb⟩
       replace KK:=KK.trans (hbb.mono KK.size)
       clear hbb oap
       refine hK.out _ _ (fun _=>trivial) ?_
       refine uW 11 fun K hK=>?_
       go_simp
       have hap:∀ g',Aap=some ⟨g',0,none⟩→g'≠u39.heap.size:=fun g' e=>Nat.ne_of_lt (own_block ores e).2
       replace ores:=Own.alloc ores (.cells #[.bool false,.slice none 0 0] 39)
       have bal:=Bx.new u39 (.bool false) (.slice none 0 0)
       have hwal:w4.heap.size≤u39.heap.size:=KK.size
       have zu40:u39.heap.size<(u39.alloc (.cells #[.bool false,.slice none 0 0] 39)).heap.size:=by simp
       replace KK:=Below.alloc KK KK.size (.cells #[.bool false,.slice none 0 0] 39)
       refine hK.out _ _ (fun _=>trivial) ?_
       replace hap:=Lib.hid hap
       generalize u39.alloc (.cells #[.bool false,.slice none 0 0] 39)=u40 at *
       generalize u39.heap.size=g41 at *
       refine uW 12 fun K hK=>?_
       obtain ⟨t0,t1,t2,t3⟩:=bal.facts
       go_simp
       refine hK.out _ _ (fun h=>absurd h (by simp)) ?_
       refine wpAnyW_done (by kernel_rfl) ?_ _
       go_wp2_with fail
       go_meet
       exact ⟨g41,Aap,cap,rfl,Bx.set bal _ _,(ores.far (p:=⟨g41,0,none⟩) hap.out _).far (p:=⟨g41,1,none⟩) hap.out _,(KK.setCell (by simpa using hwal) _).setCell (by simpa using hwal) _,hwal⟩
      ·go_simp
       have hap:∀ g',Aap=some ⟨g',0,none⟩→g'≠u38.heap.size:=fun g' e=>Nat.ne_of_lt (own_block oap e).2
       replace oap:=Own.alloc oap (.cells #[.bool false,.slice none 0 0] 39)
       have bal:=Bx.new u38 (.bool false) (.slice none 0 0)
       have hwal:w4.heap.size≤u38.heap.size:=KK.size
       have zu42:u38.heap.size<(u38.alloc (.cells #[.bool false,.slice none 0 0] 39)).heap.size:=by simp
       replace KK:=Below.alloc KK KK.size (.cells #[.bool false,.slice none 0 0] 39)
       refine hK.out _ _ (fun _=>trivial) ?_
       replace hap:=Lib.hid hap
       generalize u38.alloc (.cells #[.bool false,.slice none 0 0] 39)=u42 at *
       generalize u38.heap.size=g43 at *
       refine uW 10 fun K hK=>?_
       go_simp
       (with_reducible refine (laid_at false oap (by simp) HV.out.1 HV.out.2).mono ?_)
       rintro ex u44 ⟨rfl,ores,hbb⟩
       replace bal:=Bx.below bal hbb (Bx.lt bal)
       replace KK:=KK.trans (hbb.mono KK.size)
       clear hbb oap
       refine hK.out _ _ (fun _=>trivial) ?_
       refine uW 12 fun K hK=>?_
       obtain ⟨t0,t1,t2,t3⟩:=bal.facts
       go_simp
       refine hK.out _ _ (fun h=>absurd h (by simp)) ?_
       refine wpAnyW_done (by kernel_rfl) ?_ _
       go_wp2_with fail
       go_meet
       exact ⟨g43,Aap,cap,rfl,Bx.set bal _ _,(ores.far (p:=⟨g43,0,none⟩) hap.out _).far (p:=⟨g43,1,none⟩) hap.out _,(KK.setCell (by simpa using hwal) _).setCell (by simpa using hwal) _,hwal⟩
     ·go_simp
      replace obs:=Own.alloc obs (.cells #[.bool false,.slice none 0 0] 39)
      replace omk:=Own.alloc omk (.cells #[.bool false,.slice none 0 0] 39)
      have bal:=Bx.new u36 (.bool false) (.slice none 0 0)
      have hwal:w4.heap.size≤u36.heap.size:=KK.size
      have zu45:u36.heap.size<(u36.alloc (.cells #[.bool false,.slice none 0 0] 39)).heap.size:=by simp
      replace KK:=Below.alloc KK KK.size (.cells #[.bool false,.slice none 0 0] 39)
      refine hK.out _ _ (fun _=>trivial) ?_
      generalize u36.alloc (.cells #[.bool false,.slice none 0 0] 39)=u45 at *
      generalize u36.heap.size=g46 at *
      refine uW 9 fun K hK=>?_
      rw [if_pos (by kernel_rfl)]
      have osl:=Own.sl obs (Dig.cons HP.out.1 (Dig.nil _)) rfl
      refine wp_append_far (base:=w4.heap.size) (l0:=List.replicate q 0) (l:=[p]) (A:=some ⟨g35,0,none⟩) (A0:=some ⟨g37,0,none⟩) (n0:=q) (c0:=q) (m:=1) (c:=1) _ _ (by rfl) (by rfl) omk (by rfl) (fun h=>by cases h) osl HQ2.out KK.size ?_
      intro Aap cap u47 oap hbb hff hat
      have ltb:=Bx.lt bal
      have ltm:=(own_block omk rfl).2
      have hne:g46≠g37:=by omega
      have hap:∀ g',Aap=some ⟨g',0,none⟩→g'≠g46:=fun g' e e2=>by
       rcases hat g' e with h | h
       ·injection h with h;injection h with h _ _;exact hne (e2.symm.trans h.symm)
       ·omega
      replace bal:=Bx.same bal (hff g46 ltb (by intro e;injection e with e;injection e with e _ _;exact hne e.symm))
      replace hap:=Lib.hid hap
      clear ltb ltm hne
      replace KK:=KK.trans (hbb.mono (Nat.le_refl _))
      clear hbb hff hat omk obs osl
      refine hK.out _ _ (fun _=>trivial) ?_
      refine uW 10 fun K hK=>?_
      go_simp
      (with_reducible refine (laid_at false oap (by simp) HV.out.1 HV.out.2).mono ?_)
      rintro ex u48 ⟨rfl,ores,hbb⟩
      replace bal:=Bx.below bal hbb (Bx.lt bal)
      replace KK:=KK.trans (hbb.mono KK.size)
      clear hbb oap
      refine hK.out _ _ (fun _=>trivial) ?_
      refine uW 12 fun K hK=>?_
      obtain ⟨t0,t1,t2,t3⟩:=bal.facts
      go_simp
      refine hK.out _ _ (fun h=>absurd h (by simp)) ?_
      refine wpAnyW_done (by kernel_rfl) ?_ _
      go_wp2_with fail
      go_meet
      exact ⟨g46,Aap,cap,rfl,Bx.set bal _ _,(ores.far (p:=⟨g46,0,none⟩) hap.out _).far (p:=⟨g46,1,none⟩) hap.out _,(KK.setCell (by simpa using hwal) _).setCell (by simpa using hwal) _,hwal⟩
    ·go_simp
     replace obs:=Own.alloc obs (.cells #[.bool false,.slice none 0 0] 39)
     have bal:=Bx.new u34 (.bool false) (.slice none 0 0)
     have hwal:w4.heap.size≤u34.heap.size:=KK.size
     have zu49:u34.heap.size<(u34.alloc (.cells #[.bool false,.slice none 0 0] 39)).heap.size:=by simp
     replace KK:=Below.alloc KK KK.size (.cells #[.bool false,.slice none 0 0] 39)
     refine hK.out _ _ (fun _=>trivial) ?_
     generalize u34.alloc (.cells #[.bool false,.slice none 0 0] 39)=u49 at *
     generalize u34.heap.size=g50 at *
     refine uW 3 fun K hK=>?_
     go_simp
     replace obs:=Own.alloc obs (.cells (madeCells #[.int .u32 0] q) 79)
     replace bal:=Bx.alloc bal (.cells (madeCells #[.int .u32 0] q) 79)
     have omk:=own_zeros u49 q (B:=w4.heap.size) KK.size HQ.out
     have zu51:u49.heap.size<(u49.alloc (.cells (madeCells #[.int .u32 0] q) 79)).heap.size:=by simp
     replace KK:=Below.alloc KK KK.size (.cells (madeCells #[.int .u32 0] q) 79)
     refine hK.out _ _ (fun _=>trivial) ?_
     generalize u49.alloc (.cells (madeCells #[.int .u32 0] q) 79)=u51 at *
     generalize u49.heap.size=g52 at *
     refine uW 9 fun K hK=>?_
     rw [if_pos (by kernel_rfl)]
     have osl:=Own.sl obs (Dig.cons HP.out.1 (Dig.nil _)) rfl
     refine wp_append_far (base:=w4.heap.size) (l0:=List.replicate q 0) (l:=[p]) (A:=some ⟨g35,0,none⟩) (A0:=some ⟨g52,0,none⟩) (n0:=q) (c0:=q) (m:=1) (c:=1) _ _ (by rfl) (by rfl) omk (by rfl) (fun h=>by cases h) osl HQ2.out KK.size ?_
     intro Aap cap u53 oap hbb hff hat
     have ltb:=Bx.lt bal
     have ltm:=(own_block omk rfl).2
     have hne:g50≠g52:=by omega
     have hap:∀ g',Aap=some ⟨g',0,none⟩→g'≠g50:=fun g' e e2=>by
      rcases hat g' e with h | h
      ·injection h with h;injection h with h _ _;exact hne (e2.symm.trans h.symm)
      ·omega
     replace bal:=Bx.same bal (hff g50 ltb (by intro e;injection e with e;injection e with e _ _;exact hne e.symm))
     replace hap:=Lib.hid hap
     clear ltb ltm hne
     replace KK:=KK.trans (hbb.mono (Nat.le_refl _))
     clear hbb hff hat omk obs osl
     refine hK.out _ _ (fun _=>trivial) ?_
     refine uW 10 fun K hK=>?_
     go_simp
     (with_reducible refine (laid_at false oap (by simp) HV.out.1 HV.out.2).mono ?_)
     rintro ex u54 ⟨rfl,ores,hbb⟩
     replace bal:=Bx.below bal hbb (Bx.lt bal)
     replace KK:=KK.trans (hbb.mono KK.size)
     clear hbb oap
     refine hK.out _ _ (fun _=>trivial) ?_
     refine uW 12 fun K hK=>?_
     obtain ⟨t0,t1,t2,t3⟩:=bal.facts
     go_simp
     refine hK.out _ _ (fun h=>absurd h (by simp)) ?_
     refine wpAnyW_done (by kernel_rfl) ?_ _
     go_wp2_with fail
     go_meet
     exact ⟨g50,Aap,cap,rfl,Bx.set bal _ _,(ores.far (p:=⟨g50,0,none⟩) hap.out _).far (p:=⟨g50,1,none⟩) hap.out _,(KK.setCell (by simpa using hwal) _).setCell (by simpa using hwal) _,hwal⟩
   ·go_simp
    have bal:=Bx.new u0 (.bool false) (.slice none 0 0)
    have hwal:w4.heap.size≤u0.heap.size:=KK.size
    have zu55:u0.heap.size<(u0.alloc (.cells #[.bool false,.slice none 0 0] 39)).heap.size:=by simp
    replace KK:=Below.alloc KK KK.size (.cells #[.bool false,.slice none 0 0] 39)
    refine hK.out _ _ (fun _=>trivial) ?_
    generalize u0.alloc (.cells #[.bool false,.slice none 0 0] 39)=u55 at *
    generalize u0.heap.size=g56 at *
    refine wpAnyW_two (i:=3) (i2:=8) (by kernel_rfl) rfl rfl (fun K hK=>?_) (fun K hK=>?_)
    ·go_simp
     replace bal:=Bx.alloc bal (.cells (madeCells #[.int .u32 0] q) 79)
     have omk:=own_zeros u55 q (B:=w4.heap.size) KK.size HQ.out
     have zu57:u55.heap.size<(u55.alloc (.cells (madeCells #[.int .u32 0] q) 79)).heap.size:=by simp
     replace KK:=Below.alloc KK KK.size (.cells (madeCells #[.int .u32 0] q) 79)
     refine hK.out _ _ (fun _=>trivial) ?_
     generalize u55.alloc (.cells (madeCells #[.int .u32 0] q) 79)=u57 at *
     generalize u55.heap.size=g58 at *
     refine uW 8 fun K hK=>?_
     go_simp
     replace bal:=Bx.alloc bal (.cells #[.int .u32 (p:Int)] 79)
     replace omk:=Own.alloc omk (.cells #[.int .u32 (p:Int)] 79)
     have obs:=own_one u57 p (B:=w4.heap.size) KK.size
     have zu59:u57.heap.size<(u57.alloc (.cells #[.int .u32 (p:Int)] 79)).heap.size:=by simp
     replace KK:=Below.alloc KK KK.size (.cells #[.int .u32 (p:Int)] 79)
     refine hK.out _ _ (fun _=>trivial) ?_
     generalize u57.alloc (.cells #[.int .u32 (p:Int)] 79)=u59 at *
     generalize u57.heap.size=g60 at *
     refine uW 9 fun K hK=>?_
     rw [if_pos (by kernel_rfl)]
     have osl:=Own.sl obs (Dig.cons HP.out.1 (Dig.nil _)) rfl
     refine wp_append_far (base:=w4.heap.size) (l0:=List.replicate q 0) (l:=[p]) (A:=some ⟨g60,0,none⟩) (A0:=some ⟨g58,0,none⟩) (n0:=q) (c0:=q) (m:=1) (c:=1) _ _ (by rfl) (by rfl) omk (by rfl) (fun h=>by cases h) osl HQ2.out KK.size ?_
     intro Aap cap u61 oap hbb hff hat
     have ltb:=Bx.lt bal
     have ltm:=(own_block omk rfl).2
     have hne:g56≠g58:=by omega
     have hap:∀ g',Aap=some ⟨g',0,none⟩→g'≠g56:=fun g' e e2=>by
      rcases hat g' e with h | h
      ·injection h with h;injection h with h _ _;exact hne (e2.symm.trans h.symm)
      ·omega
     replace bal:=Bx.same bal (hff g56 ltb (by intro e;injection e with e;injection e with e _ _;exact hne e.symm))
     replace hap:=Lib.hid hap
     clear ltb ltm hne
     replace KK:=KK.trans (hbb.mono (Nat.le_refl _))
     clear hbb hff hat omk obs osl
     refine hK.out _ _ (fun _=>trivial) ?_
     refine uW 10 fun K hK=>?_
     go_simp
     (with_reducible refine (laid_at false oap (by simp) HV.out.1 HV.out.2).mono ?_)
     rintro ex u62 ⟨rfl,ores,hbb⟩
     replace bal:=Bx.below bal hbb (Bx.lt bal)
     replace KK:=KK.trans (hbb.mono KK.size)
     clear hbb oap
     refine hK.out _ _ (fun _=>trivial) ?_
     refine uW 12 fun K hK=>?_
     obtain ⟨t0,t1,t2,t3⟩:=bal.facts
     go_simp
     refine hK.out _ _ (fun h=>absurd h (by simp)) ?_
     refine wpAnyW_done (by kernel_rfl) ?_ _
     go_wp2_with fail
     go_meet
     exact ⟨g56,Aap,cap,rfl,Bx.set bal _ _,(ores.far (p:=⟨g56,0,none⟩) hap.out _).far (p:=⟨g56,1,none⟩) hap.out _,(KK.setCell (by simpa using hwal) _).setCell (by simpa using hwal) _,hwal⟩
    ·go_simp
     replace bal:=Bx.alloc bal (.cells #[.int .u32 (p:Int)] 79)
     have obs:=own_one u55 p (B:=w4.heap.size) KK.size
     have zu63:u55.heap.size<(u55.alloc (.cells #[.int .u32 (p:Int)] 79)).heap.size:=by simp
     replace KK:=Below.alloc KK KK.size (.cells #[.int .u32 (p:Int)] 79)
     refine hK.out _ _ (fun _=>trivial) ?_
     generalize u55.alloc (.cells #[.int .u32 (p:Int)] 79)=u63 at *
     generalize u55.heap.size=g64 at *
     refine uW 3 fun K hK=>?_
     go_simp
     replace bal:=Bx.alloc bal (.cells (madeCells #[.int .u32 0] q) 79)
     replace obs:=Own.alloc obs (.cells (madeCells #[.int .u32 0] q) 79)
     have omk:=own_zeros u63 q (B:=w4.heap.size) KK.size HQ.out
     have zu65:u63.heap.size<(u63.alloc (.cells (madeCells #[.int .u32 0] q) 79)).heap.size:=by simp
     replace KK:=Below.alloc KK KK.size (.cells (madeCells #[.int .u32 0] q) 79)
     refine hK.out _ _ (fun _=>trivial) ?_
     generalize u63.alloc (.cells (madeCells #[.int .u32 0] q) 79)=u65 at *
     generalize u63.heap.size=g66 at *
     refine uW 9 fun K hK=>?_
     rw [if_pos (by kernel_rfl)]
     have osl:=Own.sl obs (Dig.cons HP.out.1 (Dig.nil _)) rfl
     refine wp_append_far (base:=w4.heap.size) (l0:=List.replicate q 0) (l:=[p]) (A:=some ⟨g64,0,none⟩) (A0:=some ⟨g66,0,none⟩) (n0:=q) (c0:=q) (m:=1) (c:=1) _ _ (by rfl) (by rfl) omk (by rfl) (fun h=>by cases h) osl HQ2.out KK.size ?_
     intro Aap cap u67 oap hbb hff hat
     have ltb:=Bx.lt bal
     have ltm:=(own_block omk rfl).2
     have hne:g56≠g66:=by omega
     have hap:∀ g',Aap=some ⟨g',0,none⟩→g'≠g56:=fun g' e e2=>by
      rcases hat g' e with h | h
      ·injection h with h;injection h with h _ _;exact hne (e2.symm.trans h.symm)
      ·omega
     replace bal:=Bx.same bal (hff g56 ltb (by intro e;injection e with e;injection e with e _ _;exact hne e.symm))
     replace hap:=Lib.hid hap
     clear ltb ltm hne
     replace KK:=KK.trans (hbb.mono (Nat.le_refl _))
     clear hbb hff hat omk obs osl
     refine hK.out _ _ (fun _=>trivial) ?_
     refine uW 10 fun K hK=>?_
     go_simp
     (with_reducible refine (laid_at false oap (by simp) HV.out.1 HV.out.2).mono ?_)
     rintro ex u68 ⟨rfl,ores,hbb⟩
     replace bal:=Bx.below bal hbb (Bx.lt bal)
     replace KK:=KK.trans (hbb.mono KK.size)
     clear hbb oap
     refine hK.out _ _ (fun _=>trivial) ?_
     refine uW 12 fun K hK=>?_
     obtain ⟨t0,t1,t2,t3⟩:=bal.facts
     go_simp
     refine hK.out _ _ (fun h=>absurd h (by simp)) ?_
     refine wpAnyW_done (by kernel_rfl) ?_ _
     go_wp2_with fail
     go_meet
     exact ⟨g56,Aap,cap,rfl,Bx.set bal _ _,(ores.far (p:=⟨g56,0,none⟩) hap.out _).far (p:=⟨g56,1,none⟩) hap.out _,(KK.setCell (by simpa using hwal) _).setCell (by simpa using hwal) _,hwal⟩
 obtain ⟨g,A2,c2,rfl,hgx,hgo,hgb,hgw⟩:=hcut
 have hzc:=hgb.size
 have hlg:=hgx.lt
 replace H1:=Lib.hid (H1.out.below hgb (Bx.lt H1.out))
 replace H2:=Lib.hid (H2.out.below hgb (Bx.lt H2.out))
 replace H3:=Lib.hid (H3.out.trans (hgb.mono H3.out.size))
 clear hgb a0 a1 r0 r1 r2 r3 hqI hrI hpI hpM hmk hneg hm1 hm2 HQ HQ2 HP HV
 obtain ⟨a0,a1,_,_⟩:=H1.out.facts
 obtain ⟨b0,b1,_,_⟩:=hgx.facts
 have HG:=Lib.hid hgx
 have HO:=Lib.hid (Own.int hgo)
 clear hgx hgo
 go_wp2_with fail
 (with_reducible refine (divide_any (HSl.out _ H3.out).1 HO.out (Nat.le_trans HN.out (by decide)) (HSl.out _ H3.out).2 (Nat.le_refl _) (by rw [HPV.out];exact Nat.ne_of_gt (Nat.two_pow_pos m))).mono ?_)
 rintro ex w6 ⟨A3,A4,n3,c3,n4,c4,o1,o2,rfl,hq1,hq2,hq3,hq4,hq5,hr1,hr2,hr3,hr4,hr5,-,hb6⟩
 rw [HPV.out] at hq4 hr4
 have hz6:=hb6.size
 replace H1:=Lib.hid (H1.out.below hb6 (Bx.lt H1.out))
 replace H2:=Lib.hid (H2.out.below hb6 (Bx.lt H2.out))
 replace H3:=Lib.hid (H3.out.trans (hb6.mono H3.out.size))
 obtain ⟨z1,hz1⟩:∃ z1,ival neg o1=z1:=⟨_,rfl⟩
 have HV1:=Lib.hid hz1
 have HQ1:=Lib.hid (And.intro hq2 (And.intro hq3 (And.intro hq4 hq5)))
 have HQo:=Lib.hid hq1
 have HR:=Lib.hid (Own.sl hr1 hr3 hr2)
 have HR4:=Lib.hid hr4
 have hlt0:w.heap.size+1<wc.heap.size:=by have:=Bx.lt H2.out;omega
 clear hb6 a0 a1 b0 b1 HG HO hz1 hq1 hq2 hq3 hq4 hq5 hr1 hr2 hr3 hr4 hr5
 obtain ⟨a0,a1,_,_⟩:=H1.out.facts
 go_wp2_with fail
 (with_reducible refine (laid_at neg HQo.out HQ1.out.1 HQ1.out.2.1 HV1.out).mono ?_)
 rintro ex w7 ⟨rfl,ho7,hb7⟩
 have hz7:=hb7.size
 replace H1:=Lib.hid (H1.out.below hb7 (Bx.lt H1.out))
 replace H2:=Lib.hid (H2.out.below hb7 (Bx.lt H2.out))
 replace H3:=Lib.hid (H3.out.trans (hb7.mono H3.out.size))
 have HR7:=Lib.hid (SlU.to HR.out hb7 (Nat.le_refl _))
 have HO7:=Lib.hid ho7
 have HL1:=Lib.hid (show (digs W z1.natAbs).length≤67108864 by
  have h1:z1.natAbs=nv W o1:=by rw [←HV1.out,ival_natAbs]
  have h2:=nv_lt HQ1.out.2.1
  have h3:=digs_length_le (n:=nv W o1) (k:=n+1) (by decide) (Nat.lt_of_lt_of_le h2 (Nat.pow_le_pow_right (by decide) (by rw [HQ1.out.1];exact HQ1.out.2.2.2)))
  have h4:=HN.out
  rw [h1];omega)
 have OV:=Lib.hid (Own.alloc ho7 (.cells #[.bool (decide (z1<0)),.slice A3 (digs W z1.natAbs).length c3] 39))
 have G1:=Lib.hid (Bx.new w7 (.bool (decide (z1<0))) (.slice A3 (digs W z1.natAbs).length c3))
 have hG7:wc.heap.size≤w7.heap.size:=by omega
 have hz8:w7.heap.size<(w7.alloc (.cells #[.bool (decide (z1<0)),.slice A3 (digs W z1.natAbs).length c3] 39)).heap.size:=by simp
 have hneG:w.heap.size+1≠w7.heap.size:=by omega
 have H18:=Lib.hid (Bx.alloc H1.out (.cells #[.bool (decide (z1<0)),.slice A3 (digs W z1.natAbs).length c3] 39))
 have H28:=Lib.hid (Bx.alloc H2.out (.cells #[.bool (decide (z1<0)),.slice A3 (digs W z1.natAbs).length c3] 39))
 have H38:=Lib.hid (Below.alloc H3.out H3.out.size (.cells #[.bool (decide (z1<0)),.slice A3 (digs W z1.natAbs).length c3] 39))
 have HR8:=Lib.hid (SlU.to HR7.out ((Below.refl w7.heap.size w7).alloc (Nat.le_refl _) (.cells #[.bool (decide (z1<0)),.slice A3 (digs W z1.natAbs).length c3] 39)) (Nat.le_refl _))
 clear ho7 hb7 a0 a1 H1 H2 H3 HR7 HO7 HR
 go_upto_region 14 with fail
 generalize (w7.alloc (.cells #[.bool (decide (z1<0)),.slice A3 (digs W z1.natAbs).length c3] 39))=w8 at *
 generalize w7.heap.size=G at *
 obtain ⟨a0,a1,_,_⟩:=H18.out.facts
 obtain ⟨r0,r1,r2,r3⟩:=H28.out.facts
 obtain ⟨g0,g1,_,_⟩:=G1.out.facts
 have HZC:Hid (Z=if neg then (if nv W l % 2 ^ m=0 then -((nv W l / 2 ^ m:Nat):Int) else -((nv W l / 2 ^ m:Nat):Int) + -1) else ((nv W l / 2 ^ m:Nat):Int)):=Lib.hid (by
  rw [←HZ.out,HIV.out]
  cases neg
  ·exact down_pos _ _
  ·simp only [if_true]
   split
   ·rename_i h;exact down_neg0 h
   ·rename_i h;exact down_neg1 h)
 have HZ1:Hid (z1=if neg then -((nv W l / 2 ^ m:Nat):Int) else ((nv W l / 2 ^ m:Nat):Int)):=Lib.hid (by
  rw [←HV1.out];unfold ival;rw [HQ1.out.2.2.1])
 cases neg
 ·have HE:=Lib.hid (show z1=Z by rw [HZC.out,HZ1.out];rfl)
  go_wp2
  have hr:=ResI.stored (w:=w) (g:=w.heap.size+1) (u:=.bool (decide (z1<0))) (u':=.slice A3 (digs W z1.natAbs).length c3) ⟨A3,c3,rfl,OV.out⟩ H38.out (by omega) (by omega)
  exact bodyPost_ret (v:=.tuple #[.agg #[.bool (decide (z1<0)),.slice A3 (digs W z1.natAbs).length c3],.int .i64 0]) (by simp [results,Tryz.results158,go_sem,r0,r1]) rfl (PostC.ok rfl (by rw [←HE.out];exact hr.1) hr.2)
 ·by_cases hrm:nv W l % 2 ^ m=0
  ·have HE:=Lib.hid (show z1=Z by rw [HZC.out,HZ1.out];simp [hrm])
   have ht:=(tlen_zero_iff (b:=W) (by decide) o2).2 (by rw [HR4.out];exact hrm)
   have HT:=Lib.hid (trim_any HR8.out)
   rw [ht] at HT
   clear ht hrm
   go_wp2_with fail
   refine (HT.out).mono ?_
   rintro ex w7' ⟨rfl,rfl⟩
   go_wp2
   have hr:=ResI.stored (w:=w) (g:=w.heap.size+1) (u:=.bool (decide (z1<0))) (u':=.slice A3 (digs W z1.natAbs).length c3) ⟨A3,c3,rfl,OV.out⟩ H38.out (by omega) (by omega)
   exact bodyPost_ret (v:=.tuple #[.agg #[.bool (decide (z1<0)),.slice A3 (digs W z1.natAbs).length c3],.int .i64 0]) (by simp [results,Tryz.results158,go_sem,r0,r1]) rfl (PostC.ok rfl (by rw [←HE.out];exact hr.1) hr.2)
  ·have HE:=Lib.hid (show z1 + -1=Z by rw [HZC.out,HZ1.out];simp [hrm])
   have ht:0<tlen o2:=Nat.pos_of_ne_zero (fun e=>hrm (by rw [←HR4.out];exact (tlen_zero_iff (b:=W) (by decide) o2).1 e))
   have htI:decide ((0:Int)<(tlen o2:Int))=true:=decide_eq_true (by omega)
   have htN:decide (0<tlen o2)=true:=decide_eq_true ht
   have HT:=Lib.hid (trim_any HR8.out)
   generalize tlen o2=tn at *
   clear hrm
   go_wp2_with fail
   refine (HT.out).mono ?_
   rintro ex w7' ⟨rfl,rfl⟩
   go_upto_region 15 with fail
   obtain ⟨m1,hm1⟩:∃ m1:Int,m1 = -1:=⟨_,rfl⟩
   have HM1:=Lib.hid (fun w1=>from_at (m1:=m1) w1 hm1)
   have HL9:=Lib.hid (show (digs W m1.natAbs).length≤67108864 from Nat.le_trans (digs_length_le (k:=1) (by decide) (by rw [hm1];decide)) (by decide))
   have HE2:=Lib.hid (show z1+m1=Z by rw [hm1];exact HE.out)
   clear hm1
   have KK:Below w8.heap.size w8 w8.drew:=(Below.refl _ _).drew
   have hS:=Lib.hid (fun w' (hb:Below w8.heap.size w8 w')=>And.intro (G1.out.below hb (Bx.lt G1.out)).facts.1 (G1.out.below hb (Bx.lt G1.out)).facts.2.1)
   refine wp_region_wait (fun w'=>w'.cell? ⟨G,0,none⟩=some (.bool (decide (z1<0)))∧w'.cell? ⟨G,1,none⟩=some (.slice A3 (digs W z1.natAbs).length c3)) 3 (by kernel_rfl) ?_
   change wpAnyW _ _ _ _ _ _ _ _ _ w8.drew
   refine wpAnyW_take 3 (i:=0) (v:=.agg #[.bool (decide (z1<0)),.slice A3 (digs W z1.natAbs).length c3]) rfl (by kernel_rfl) (by kernel_rfl) (by kernel_rfl) (by kernel_rfl) (fun _ _ _ h=>h) (Or.inl ⟨by kernel_rfl,fun w5 hSw=>by go_simp⟩) (hS.out _ KK) ?_
   refine uW 1 fun K hK=>?_
   go_simp
   (with_reducible refine (HM1.out _).mono ?_)
   rintro ex w9 ⟨v,rfl,⟨A9,c9,rfl,ho9⟩,hb9⟩
   replace KK:=KK.trans (hb9.mono KK.size)
   refine hK.out _ _ (fun _=>hS.out _ KK) ?_
   refine uW 2 fun K hK=>?_
   go_simp
   (with_reducible refine (sum_own2 (OV.out.below KK (Nat.le_refl _)) HL1.out ho9 HL9.out HE2.out).mono ?_)
   rintro ex w10 ⟨v,rfl,⟨A10,c10,rfl,ho10⟩,hb10⟩
   have hz9:=KK.size
   replace KK:=KK.trans (hb10.mono KK.size)
   refine hK.out _ _ (fun _=>hS.out _ KK) ?_
   refine uW 3 fun K hK=>?_
   have G2:=Lib.hid (G1.out.below KK (Bx.lt G1.out))
   obtain ⟨t0,t1,t2,t3⟩:=G2.out.facts
   go_simp
   refine hK.out _ _ (fun h=>absurd h (by simp)) ?_
   refine wpAnyW_done (by kernel_rfl) ?_ _
   have H28':=Lib.hid (H28.out.below KK (Bx.lt H28.out))
   have H38':=Lib.hid (H38.out.trans (KK.mono H38.out.size))
   have hgn:w.heap.size+1≠G:=hneG
   have G3:=Lib.hid (Bx.set G2.out (.bool (decide (Z<0))) (.slice A10 (digs W Z.natAbs).length c10))
   have H29:=Lib.hid (Bx.far (Bx.far H28'.out (p:=⟨G,0,none⟩) hgn (.bool (decide (Z<0)))) (p:=⟨G,1,none⟩) hgn (.slice A10 (digs W Z.natAbs).length c10))
   have hG9:G<w9.heap.size:=by omega
   have O11:=Lib.hid (Own.farB (Own.farB ho10 (p:=⟨G,0,none⟩) hG9 (.bool (decide (Z<0)))) (p:=⟨G,1,none⟩) hG9 (.slice A10 (digs W Z.natAbs).length c10))
   have H39:=Lib.hid ((H38'.out.setCell (p:=⟨G,0,none⟩) (by simp;omega) (.bool (decide (Z<0)))).setCell (p:=⟨G,1,none⟩) (by simp;omega) (.slice A10 (digs W Z.natAbs).length c10))
   generalize ((w10.setCell ⟨G,0,none⟩ (.bool (decide (Z<0)))).setCell ⟨G,1,none⟩ (.slice A10 (digs W Z.natAbs).length c10))=w11 at *
   clear r0 r1 r2 r3 a0 a1 g0 g1 t0 t1 t2 t3 KK hb9 hb10 ho9 ho10
   obtain ⟨g0,g1,_,_⟩:=G3.out.facts
   obtain ⟨r0,r1,r2,r3⟩:=H29.out.facts
   go_wp2
   have hr:=ResI.stored (w:=w) (g:=w.heap.size+1) (u:=.bool (decide (Z<0))) (u':=.slice A10 (digs W Z.natAbs).length c10) ⟨A10,c10,rfl,O11.out⟩ H39.out (by omega) (by omega)
   exact bodyPost_ret (v:=.tuple #[.agg #[.bool (decide (Z<0)),.slice A10 (digs W Z.natAbs).length c10],.int .i64 0]) (by simp [results,Tryz.results158,go_sem,r0,r1]) rfl (PostC.ok rfl hr.1 hr.2)
theorem tooLong_up {x:Int} (h:x≠0) (k:Nat):tooLong (x * 2 ^ k)=decide (4096<blen x.natAbs+k):=by
 rw [tooLong,up_abs,blen_up (by omega)]
theorem tooLong_down {x:Int} (h:tooLong x=false) (k:Nat):tooLong (x / 2 ^ k)=false:=by
 have h1:=of_decide_eq_false h
 have h2:=blen_mono (down_abs x k)
 exact decide_eq_false (by omega)
theorem Shift_any (neg:Bool) {B:Nat} {A:Option Addr} {l:List Nat} {n c:Nat} {w:World} (hs:SlU w B A n c l) (hn:n≤67108000) (hB:B≤w.heap.size) (k:Int) (hk1 : -9223372036854775808≤k) :
  Calls Tryz.prog 158 #[.agg #[.bool neg,.slice A n c],.int .i64 k] w (PostC w (shZ (ival neg l) k) (err (lng l || tooLong (shZ (ival neg l) k)))):=by
 cases hlg:lng l
 ·by_cases h0:ival neg l=0
  ·have e:tooLong 0=false:=by simp [tooLong,blen_zero]
   rw [h0,shZ_nought,e]
   exact Shift_nought neg hs hn hB hlg h0 k
  ·have ht:tooLong (ival neg l)=false:=by rw [←hlg];exact (lng_ival rfl).symm
   have hab:=ival_natAbs neg l
   by_cases hk:0≤k
   ·obtain ⟨j,rfl⟩:=Int.eq_ofNat_of_zero_le hk
    rw [shZ_up,tooLong_up h0,hab]
    by_cases hg:4096<blen (nv W l)+j
    ·rw [decide_eq_true hg]
     exact Shift_great neg hs hn hB hlg h0 j _ rfl hg _
    ·rw [decide_eq_false hg]
     exact Shift_up neg hs hn hB hlg h0 j _ rfl (by omega) _ rfl
   ·obtain ⟨j,hj⟩:∃ j:Nat,k = -(j:Int):=⟨k.natAbs,by omega⟩
    have hj0:0<j:=by omega
    have e:tooLong (shZ (ival neg l) k)=false:=by rw [hj,shZ_down _ hj0];exact tooLong_down ht j
    rw [e]
    by_cases hf:k < -4096
    ·refine Shift_down neg hs hn hB hlg h0 k (-4097) 4097 (by omega) (by omega) (by omega) (by omega) hk1 (fun _=>rfl) (fun h=>absurd hf h) _ ?_
     have hlt:(ival neg l).natAbs<2 ^ 4096:=by
      have:=of_decide_eq_false ht
      have h9:=(blen_le_iff (n:=(ival neg l).natAbs) (k:=4096)).1 (by omega)
      exact h9
     rw [hj,shZ_down _ hj0,down_far (k:=4097) hlt (by omega),down_far (k:=j) hlt (by omega)]
    ·refine Shift_down neg hs hn hB hlg h0 k k j hj hj0 (by omega) (by omega) hk1 (fun h=>absurd h hf) (fun _=>rfl) _ ?_
     rw [hj,shZ_down _ hj0]
 ·exact Shift_long neg hs hn hB hlg k _
section
variable {w:World} {A A':Option Addr} {n c n' c':Nat} {l m:List Nat} {na nb:Bool} {x y z:Int}
theorem Shift_z {k:Int} (hs:SlU w w.heap.size A n c l) (hn:n≤1000) (hx:ival na l=x) (hk : -9223372036854775808≤k) (hz:shZ x k=z) (t1:tooLong x=false) (t3:tooLong z=false) :
  Calls Tryz.prog 158 #[.agg #[.bool na,.slice A n c],.int .i64 k] w (PostR w z 0):=by
 have h:=Shift_any na hs (by omega) (Nat.le_refl _) k hk
 rw [hx,hz,lng_ival hx,t1,t3] at h
 exact h.mono fun _ _ h=>h.ok_ rfl
end
section
end
section
end
end
end Go.Proofs.YtjpnmmjgdiiahaaGreatDoor
namespace Hb
open Ieee
theorem float_of_top {t:Nat} (h1:2 ^ 52≤t) (h2:t≤2 ^ 53):Go.FloatKind.f64.nearest (t:Int)=1074 * 2 ^ 52+t:=by
 unfold Go.FloatKind.nearest Go.FloatKind.encode
 show double.nearest (decide ((t:Int)<0)) (t:Int).natAbs 0=_
 rw [decide_eq_false (by omega),Int.natAbs_natCast]
 rcases Nat.lt_or_ge t (2 ^ 53) with h | h
 ·have:=nearest_at (k:=0) (q:=0) (p:=0) h1 h (by omega) (by omega) (by omega)
  rw [Nat.pow_zero,Nat.mul_one] at this
  exact this
 ·obtain rfl:t=2 ^ 53:=by omega
  have:=nearest_at (m:=2 ^ 52) (k:=1) (q:=0) (p:=1) (by decide) (by decide) (by omega) (by omega) (by omega)
  exact this
theorem mul_one_f {x:Nat} (h1:2 ^ 52≤x) (h2:x<9218868437227405312):double.mul 4607182418800017408 x=some x:=by
 have g1:double.signWeight=9223372036854775808:=rfl
 have g2:double.binade=4503599627370496:=rfl
 have g3:double.infRung=9218868437227405312:=rfl
 have g4:double.leastPlace = -1074:=rfl
 have e1:x / 9223372036854775808 % 2=0:=by omega
 have e2:x % 9223372036854775808=x:=by omega
 have hx:double.read x = .number false (4503599627370496+x % 4503599627370496) (-1074+((x / 4503599627370496 - 1:Nat):Int)):=by
  unfold Format.read
  simp only [g1,g2,g3,g4,e1,e2]
  rw [if_neg (by omega),if_pos h2]
  rfl
 have h0:double.read 4607182418800017408 = .number false 4503599627370496 (-52):=by decide +kernel
 unfold Format.mul
 rw [hx,h0]
 show some (double.nearest (false ^^ false) (4503599627370496 * (4503599627370496+x % 4503599627370496)) (-52+(-1074+((x / 4503599627370496 - 1:Nat):Int))))=some x
 have e3:4503599627370496 * (4503599627370496+x % 4503599627370496)=(4503599627370496+x % 4503599627370496) * 2 ^ 52:=by
  rw [Nat.mul_comm]
 rw [e3,show (false ^^ false)=false from rfl]
 rw [nearest_at (m:=4503599627370496+x % 4503599627370496) (k:=52) (p:=-1074+((x / 4503599627370496 - 1:Nat):Int)) (by omega) (by omega) (by omega) (by omega) (by omega)]
 exact congrArg some (by omega)
end Hb
namespace Hb
def flV (a:Nat):Nat:=if 54<blen a then a / 2 ^ (blen a - 54) else a * 2 ^ (54 - blen a)
def flLow (a:Nat):Bool:=decide (54<blen a) && decide (a % 2 ^ (blen a - 54)≠0)
def flUp (a:Nat):Bool:=decide (flV a % 2=1) && (flLow a || decide (flV a / 2 % 2=1))
def flTop (a:Nat):Nat:=flV a / 2+(flUp a).toNat
def flInf (a:Nat):Bool:=decide (1024<blen a) || decide ((blen a+1021) * 4503599627370496+flTop a=9218868437227405312)
def flBits (a:Nat):Nat:=(blen a+1021) * 4503599627370496+flTop a
theorem flV_bounds {a:Nat} (h:a≠0):9007199254740992≤flV a∧flV a<18014398509481984:=by
 obtain ⟨h1,h2⟩:=blen_bounds h
 have hp:=blen_pos h
 unfold flV
 generalize blen a=n at *
 split
 ·rename_i h3
  obtain ⟨k,rfl⟩:∃ k,n=k+54:=⟨n - 54,by omega⟩
  rw [show k+54 - 54=k by omega]
  have hk:=Nat.two_pow_pos k
  constructor
  ·refine (Nat.le_div_iff_mul_le hk).2 ?_
   rw [show k+54 - 1=53+k by omega,Nat.pow_add] at h1
   exact h1
  ·refine (Nat.div_lt_iff_lt_mul hk).2 ?_
   rw [show k+54=54+k by omega,Nat.pow_add] at h2
   exact h2
 ·rename_i h3
  obtain ⟨k,hk⟩:∃ k,54 - n=k:=⟨_,rfl⟩
  rw [hk]
  have hk0:=Nat.two_pow_pos k
  constructor
  ·have h4:2 ^ (n - 1) * 2 ^ k≤a * 2 ^ k:=Nat.mul_le_mul_right _ h1
   rw [←Nat.pow_add,show n - 1+k=53 by omega] at h4
   exact h4
  ·have h4:a * 2 ^ k<2 ^ n * 2 ^ k:=Nat.mul_lt_mul_of_pos_right h2 hk0
   rw [←Nat.pow_add,show n+k=54 by omega] at h4
   exact h4
theorem flTop_bounds {a:Nat} (h:a≠0):4503599627370496≤flTop a∧flTop a≤9007199254740992:=by
 have:=flV_bounds h
 unfold flTop
 cases flUp a <;> simp <;> omega
theorem flBits_le {a:Nat} (h:a≠0) (hn:blen a≤1024):flBits a≤9218868437227405312∧4503599627370496≤flBits a:=by
 have:=flTop_bounds h
 unfold flBits
 omega
theorem flInf_zero:flInf 0=false:=by
 have e:blen 0=0:=blen_zero
 have ev:flV 0=0:=by unfold flV;rw [e];simp
 have el:flLow 0=false:=by unfold flLow;rw [e];rfl
 have eu:flUp 0=false:=by unfold flUp;rw [ev,el];rfl
 unfold flInf flTop
 rw [e,ev,eu]
 decide
end Hb
namespace Go.Proofs.YtjpnmmjgdiiahaaGreatDoor
section
open Hb
def tfC (x:Int):Int:=if tooLong x then 10 else if flInf x.natAbs then 14 else 0
def tfB (x:Int):Nat:=if tooLong x then 0 else if x=0 then 0 else if flInf x.natAbs then 0 else flBits x.natAbs+(if x<0 then 9223372036854775808 else 0)
end
end Go.Proofs.YtjpnmmjgdiiahaaGreatDoor
namespace Hb
end Hb
namespace Go.Proofs.YtjpnmmjgdiiahaaGreatDoor
section
open Hb
theorem tfB_zero:tfB 0=0:=by
 unfold tfB
 split
 ·rfl
 ·rw [if_pos rfl]
theorem tooLong_blen {x:Int} {k:Nat} (h:blen x.natAbs≤k) (hk:k≤4096):tooLong x=false:=by
 unfold tooLong
 exact decide_eq_false (by omega)
end
section
open Go.RowKit Hb
theorem bits_and_u64 (a b:Nat) (ha:a<18446744073709551616) (hb:b<18446744073709551616):bits .and .u64 (a:Int) (b:Int)=((a &&& b:Nat):Int):=by
 unfold bits
 show IntKind.u64.wrap ((BitVec.ofInt 64 (a:Int) &&& BitVec.ofInt 64 (b:Int)).toNat:Int)=_
 rw [BitVec.toNat_and,ofInt64 ha,ofInt64 hb,u64_wrap (Nat.lt_of_le_of_lt Nat.and_le_left ha)]
theorem bits_and_i64 (a b:Nat) (ha:a<9223372036854775808) (hb:b<9223372036854775808):bits .and .i64 (a:Int) (b:Int)=((a &&& b:Nat):Int):=by
 unfold bits
 show IntKind.i64.wrap ((BitVec.ofInt 64 (a:Int) &&& BitVec.ofInt 64 (b:Int)).toNat:Int)=_
 have h9:a &&& b<9223372036854775808:=Nat.lt_of_le_of_lt Nat.and_le_left ha
 rw [BitVec.toNat_and,ofInt64 (by omega),ofInt64 (by omega),IntWalk.i64_in _ (by omega)]
theorem and_low (a k:Nat):a &&& (2 ^ k - 1)=a % 2 ^ k:=Nat.and_two_pow_sub_one_eq_mod a k
theorem or_high {a k:Nat} (b:Nat) (h:a<2 ^ k):a ||| (b * 2 ^ k)=a+b * 2 ^ k:=by
 rw [Nat.or_comm,Nat.mul_comm,←Nat.two_pow_add_eq_or_of_lt h,Nat.add_comm]
theorem clear_sign {F:Nat} (h:F<9223372036854775808):bits .andNot .u64 (F:Int) 9223372036854775808=(F:Int):=by
 have h1:=bits_andNot_u64 F 9223372036854775808 (by omega) (by decide)
 rw [show ((9223372036854775808:Nat):Int)=9223372036854775808 from rfl] at h1
 rw [h1,show 18446744073709551615 - 9223372036854775808=2 ^ 63 - 1 from rfl,and_low,Nat.mod_eq_of_lt h]
theorem clear_exp {F:Nat} (h:F<9223372036854775808):bits .andNot .u64 (F:Int) 9218868437227405312=((F % 4503599627370496:Nat):Int):=by
 have h1:=bits_andNot_u64 F 9218868437227405312 (by omega) (by decide)
 rw [show ((9218868437227405312:Nat):Int)=9218868437227405312 from rfl] at h1
 rw [h1]
 have h2:F &&& (2 ^ 63 - 1)=F:=by rw [and_low,Nat.mod_eq_of_lt h]
 have h3:(2 ^ 63 - 1) &&& (18446744073709551615 - 9218868437227405312)=2 ^ 52 - 1:=by decide +kernel
 have h4:F &&& (18446744073709551615 - 9218868437227405312)=F % 2 ^ 52:=by
  conv=>lhs;rw [←h2]
  rw [Nat.and_assoc,h3,and_low]
 rw [h4]
set_option maxRecDepth 100000 in
theorem Abs_any (F:Nat) (hF:F<9223372036854775808) (w:World) :
  Calls Tryz.prog 86 #[.float .f64 F] w fun e w'=>e = .returned (.float .f64 F)∧w=w':=by
 have hb:=run_bits F
 have hb2:=run_frombits F
 have hb3:=clear_sign hF
 go_enter Tryz.func86,Tryz.ntmps86
 go_wp2
 go_ret
 exact ⟨rfl,rfl⟩
set_option maxRecDepth 100000 in
theorem IsNaN_any (F:Nat) (hF:F<9218868437227405312) (w:World) :
  Calls Tryz.prog 166 #[.float .f64 F] w fun e w'=>e = .returned (.bool false)∧w=w':=by
 have ho:FloatKind.f64.format.order F F=some .eq:=order_self hF
 go_enter Tryz.func166,Tryz.ntmps166
 go_wp2
 go_ret
 exact ⟨rfl,rfl⟩
set_option maxRecDepth 100000 in
theorem IsInf_any (F:Nat) (hF:F≤9218868437227405312) {b:Bool} (hb:decide (F=9218868437227405312)=b) (w:World) :
  Calls Tryz.prog 165 #[.float .f64 F,.int .i64 0] w fun e w'=>e = .returned (.bool b)∧w=w':=by
 have ho:=order_inf F hF
 rw [hb] at ho
 have HA:=Lib.hid (Abs_any F (by omega))
 clear hb
 go_enter Tryz.func165,Tryz.ntmps165
 go_wp2_with fail
 refine (HA.out _).mono ?_
 rintro ex w5 ⟨rfl,rfl⟩
 go_wp2
 go_ret
 exact ⟨rfl,rfl⟩
set_option maxRecDepth 100000 in
theorem normalize_any (F:Nat) (h1:4503599627370496≤F) (h2:F<9218868437227405312) (w:World) :
  Calls Tryz.prog 223 #[.float .f64 F] w fun e w'=>e = .returned (.tuple #[.float .f64 F,.int .i64 0])∧w=w':=by
 have ho:(FloatKind.f64.format.order F 4503599627370496==some .lt)=false:=by
  rcases Nat.lt_or_ge 4503599627370496 F with h3 | h3
  ·rw [show FloatKind.f64.format.order F 4503599627370496=some .gt from order_gt h2 h3];rfl
  ·obtain rfl:F=4503599627370496:=by omega
   rw [show FloatKind.f64.format.order 4503599627370496 4503599627370496=some .eq from order_self h2];rfl
 have HA:=Lib.hid (Abs_any F (by omega))
 clear h1 h2
 go_enter Tryz.func223,Tryz.ntmps223
 go_wp2_with fail
 refine (HA.out _).mono ?_
 rintro ex w5 ⟨rfl,rfl⟩
 go_wp2
 exact bodyPost_ret (v:=.tuple #[.float .f64 F,.int .i64 0]) (by simp [results,Tryz.results223,go_sem]) rfl ⟨rfl,rfl⟩
set_option maxRecDepth 100000 in
theorem Inf_any (w:World) :
  Calls Tryz.prog 224 #[.int .i64 1] w fun e w'=>e = .returned (.float .f64 9218868437227405312)∧w=w':=by
 have hb2:∀ w:World,(callFunc 63 #[.int .u64 9218868437227405312]).run Tryz.prog w = .ok (.value (.float .f64 9218868437227405312)) w:=run_frombits 9218868437227405312
 go_enter Tryz.func224,Tryz.ntmps224
 go_wp2
 go_ret
 exact ⟨rfl,rfl⟩
set_option maxRecDepth 100000 in
theorem ldexp_ok (t:Nat) (h1:4503599627370496≤t) (h2:t≤9007199254740992) (k:Nat) (hk:k≤1023) (hov:(k+1022) * 4503599627370496+t<9218868437227405312) (w:World) :
  Calls Tryz.prog 217 #[.float .f64 (4836865999795912704+t),.int .i64 ((k:Int) - 52)] w fun e w'=>e = .returned (.float .f64 ((k+1022) * 4503599627370496+t))∧w=w':=by
 obtain ⟨F,hF⟩:∃ F,4836865999795912704+t=F:=⟨_,rfl⟩
 have ho:(FloatKind.f64.format.order F 0==some .eq)=false:=by
  rw [show FloatKind.f64.format.order F 0=some .gt from order_gt (by omega) (by omega)];rfl
 have HI:=Lib.hid (IsInf_any F (by omega) (b:=false) (decide_eq_false (by omega)))
 have HN:=Lib.hid (IsNaN_any F (by omega))
 have HM:=Lib.hid (normalize_any F (by omega) (by omega))
 have hb:=run_bits F
 obtain ⟨E,hE⟩:∃ E,F / 4503599627370496=E:=⟨_,rfl⟩
 have hE2:E=1075∧t<9007199254740992∨E=1076∧t=9007199254740992:=by omega
 have hkI:(k:Int)≤1023:=by omega
 have hk0:(0:Int)≤(k:Int):=by omega
 obtain ⟨f0,hf0⟩:∃ f,F % 4503599627370496=f:=⟨_,rfl⟩
 obtain ⟨ke,hke⟩:∃ ke:Int,(k:Int) - 52+((E:Int) - 1023)=ke:=⟨_,rfl⟩
 obtain ⟨X,hX⟩:∃ X,(k+1022) * 4503599627370496+t=X:=⟨_,rfl⟩
 have hbE:=bits_and_i64 E 2047 (by omega) (by decide)
 rw [show (2047:Nat)=2 ^ 11 - 1 from rfl,and_low,Nat.mod_eq_of_lt (show E<2 ^ 11 by omega)] at hbE
 rw [show ((2 ^ 11 - 1:Nat):Int)=2047 from rfl] at hbE
 have hce:=clear_exp (F:=F) (by omega)
 rw [hf0] at hce
 have hor:bits .or .u64 (f0:Int) ((ke+1023) * 4503599627370496)=(X:Int):=by
  obtain ⟨kn,hkn⟩:∃ kn:Nat,ke+1023=(kn:Int):=⟨(ke+1023).toNat,by omega⟩
  have hkn2:kn≤2047:=by omega
  have h:=bits_or_u64 f0 (kn * 4503599627370496) (by omega) (Nat.lt_of_le_of_lt (Nat.mul_le_mul_right _ hkn2) (by decide))
  rw [show kn * 4503599627370496=kn * 2 ^ 52 from rfl,or_high kn (show f0<2 ^ 52 by omega)] at h
  rw [hkn,show (kn:Int) * 4503599627370496=((kn * 2 ^ 52:Nat):Int) by rw [Int.natCast_mul];rfl,h]
  congr 1
  omega
 have hb2:=run_frombits X
 have hmul:∀ w1,(binOp .mul 68 (.float .f64 4607182418800017408) (.float .f64 X)).run Tryz.prog w1 = .ok (.float .f64 X) w1:=fun w1=>run_float_arith w1 .mul _ .f64 _ _ _ (mul_one_f (by omega) (by omega))
 have hEI:(F:Int) / 4503599627370496=(E:Int):=by omega
 have hE3:(1075:Int)≤(E:Int):=by omega
 have hE4:(E:Int)≤1076:=by omega
 have hk3 : -2000≤ke:=by omega
 have hk4:ke≤1023:=by omega
 have hk5 : -1000≤ke:=by omega
 rw [hF,hX]
 have HF:=Lib.hid hF
 clear hF hE2 hE hf0 hX hkI hk0 hov
 go_enter Tryz.func217,Tryz.ntmps217
 go_wp2_with fail
 refine (HI.out _).mono ?_
 rintro ex w5 ⟨rfl,rfl⟩
 go_wp2_with fail
 refine (HN.out _).mono ?_
 rintro ex w5 ⟨rfl,rfl⟩
 go_wp2_with fail
 refine (HM.out _).mono ?_
 rintro ex w5 ⟨rfl,rfl⟩
 go_wp2_with fail
 go_ret
 exact ⟨rfl,rfl⟩
set_option maxRecDepth 100000 in
theorem ldexp_ov (t:Nat) (h1:4503599627370496≤t) (h2:t≤9007199254740992) (k:Nat) (hk:k≤1023) (hov:(k+1022) * 4503599627370496+t=9218868437227405312) (w:World) :
  Calls Tryz.prog 217 #[.float .f64 (4836865999795912704+t),.int .i64 ((k:Int) - 52)] w fun e w'=>e = .returned (.float .f64 ((k+1022) * 4503599627370496+t))∧w=w':=by
 obtain ⟨F,hF⟩:∃ F,4836865999795912704+t=F:=⟨_,rfl⟩
 have ho:(FloatKind.f64.format.order F 0==some .eq)=false:=by
  rw [show FloatKind.f64.format.order F 0=some .gt from order_gt (by omega) (by omega)];rfl
 have HI:=Lib.hid (IsInf_any F (by omega) (b:=false) (decide_eq_false (by omega)))
 have HN:=Lib.hid (IsNaN_any F (by omega))
 have HM:=Lib.hid (normalize_any F (by omega) (by omega))
 have hb:=run_bits F
 obtain ⟨E,hE⟩:∃ E,F / 4503599627370496=E:=⟨_,rfl⟩
 have hE2:E=1075∧t<9007199254740992∨E=1076∧t=9007199254740992:=by omega
 have hkI:(k:Int)≤1023:=by omega
 have hk0:(0:Int)≤(k:Int):=by omega
 obtain ⟨f0,hf0⟩:∃ f,F % 4503599627370496=f:=⟨_,rfl⟩
 obtain ⟨ke,hke⟩:∃ ke:Int,(k:Int) - 52+((E:Int) - 1023)=ke:=⟨_,rfl⟩
 obtain ⟨X,hX⟩:∃ X,(k+1022) * 4503599627370496+t=X:=⟨_,rfl⟩
 have hbE:=bits_and_i64 E 2047 (by omega) (by decide)
 rw [show (2047:Nat)=2 ^ 11 - 1 from rfl,and_low,Nat.mod_eq_of_lt (show E<2 ^ 11 by omega)] at hbE
 rw [show ((2 ^ 11 - 1:Nat):Int)=2047 from rfl] at hbE
 have ho2:(FloatKind.f64.format.order F 0==some .lt)=false:=by
  rw [show FloatKind.f64.format.order F 0=some .gt from order_gt (by omega) (by omega)];rfl
 have hEI:(F:Int) / 4503599627370496=(E:Int):=by omega
 have hE3:(1075:Int)≤(E:Int):=by omega
 have hE4:(E:Int)≤1076:=by omega
 have hk3:ke=1024:=by omega
 have hk4:ke≤1100:=by omega
 have hk5:(1023:Int)<ke:=by omega
 clear hk3
 rw [hF,hX,show X=9218868437227405312 by omega]
 have HF:=Lib.hid hF
 clear hF hE2 hE hf0 hX hkI hk0 hov
 go_enter Tryz.func217,Tryz.ntmps217
 go_wp2_with fail
 refine (HI.out _).mono ?_
 rintro ex w5 ⟨rfl,rfl⟩
 go_wp2_with fail
 refine (HN.out _).mono ?_
 rintro ex w5 ⟨rfl,rfl⟩
 go_wp2_with fail
 refine (HM.out _).mono ?_
 rintro ex w5 ⟨rfl,rfl⟩
 go_wp2_with fail
 refine (Inf_any _).mono ?_
 rintro ex w5 ⟨rfl,rfl⟩
 go_wp2
 go_ret
 exact ⟨rfl,rfl⟩
set_option maxRecDepth 100000 in
theorem Ldexp_any (t:Nat) (h1:4503599627370496≤t) (h2:t≤9007199254740992) (k:Nat) (hk:k≤1023) (w:World) :
  Calls Tryz.prog 206 #[.float .f64 (4836865999795912704+t),.int .i64 ((k:Int) - 52)] w fun e w'=>e = .returned (.float .f64 ((k+1022) * 4503599627370496+t))∧w=w':=by
 have HL:=Lib.hid (show Calls Tryz.prog 217 #[.float .f64 (4836865999795912704+t),.int .i64 ((k:Int) - 52)] w (fun e w'=>e = .returned (.float .f64 ((k+1022) * 4503599627370496+t))∧w=w') from by
  rcases Nat.lt_or_ge ((k+1022) * 4503599627370496+t) 9218868437227405312 with h | h
  ·exact ldexp_ok t h1 h2 k hk h w
  ·exact ldexp_ov t h1 h2 k hk (by omega) w)
 generalize 4836865999795912704+t=F at *
 generalize (k+1022) * 4503599627370496+t=X at *
 generalize (k:Int) - 52=kk at *
 clear h1 h2 hk
 go_enter Tryz.func206,Tryz.ntmps206
 go_wp2_with fail
 refine HL.out.mono ?_
 rintro ex w5 ⟨rfl,rfl⟩
 go_wp2
 go_ret
 exact ⟨rfl,rfl⟩
def TfPost (w:World) (fb:Nat) (co:Int) (e:Ending) (w':World):Prop:=e = .returned (.tuple #[.int .u64 (fb:Int),.int .i64 co])∧Below w.heap.size w w'
theorem tf_start {w:World} {neg:Bool} {B:Nat} {A:Option Addr} {l:List Nat} {n c:Nat} (hs:SlU w B A n c l) (hn:n≤67108864) (hB:B≤w.heap.size) :
  Below w.heap.size w ((w.alloc (.cells #[.bool neg,.slice A n c] 39)).alloc (.cells #[.bool neg,.slice A n c] 39))∧Bx ((w.alloc (.cells #[.bool neg,.slice A n c] 39)).alloc (.cells #[.bool neg,.slice A n c] 39)) w.heap.size (.bool neg) (.slice A n c) ∧
  Calls Tryz.prog 42 #[.slice (some ⟨w.heap.size+1,0,none⟩) 1 1] ((w.alloc (.cells #[.bool neg,.slice A n c] 39)).alloc (.cells #[.bool neg,.slice A n c] 39)) (LongPost (lng l) ((w.alloc (.cells #[.bool neg,.slice A n c] 39)).alloc (.cells #[.bool neg,.slice A n c] 39))):=by
 have hb:Below w.heap.size w ((w.alloc (.cells #[.bool neg,.slice A n c] 39)).alloc (.cells #[.bool neg,.slice A n c] 39)):=((Below.refl _ _).alloc (Nat.le_refl _) _).alloc (by simp) _
 refine ⟨hb,Bx.alloc (Bx.new w (.bool neg) (.slice A n c)) _,?_⟩
 have hf:=(Bx.new (w.alloc (.cells #[.bool neg,.slice A n c] 39)) (.bool neg) (.slice A n c)).facts
 simp only [World.size_alloc] at hf
 exact long1_any (neg:=neg) (hs.below hb hB) (Nat.le_trans hn (by decide)) (Nat.le_trans hB hb.size) hf.1 hf.2.1
theorem run_negF {X:Nat} (h:X<9223372036854775808) (w:World):(Op.unary .neg (.float .f64 X)).run Tryz.prog w = .ok (.float .f64 (X+9223372036854775808)) w:=by
 have e:Op.negFloat .f64 X=X+9223372036854775808:=by
  show X ^^^ 2 ^ 63=X+9223372036854775808
  have h1:=Nat.two_pow_add_eq_or_of_lt (i:=63) (b:=X) h 1
  rw [show X+9223372036854775808=2 ^ 63 * 1+X by omega,h1,Nat.mul_one]
  refine Nat.eq_of_testBit_eq fun i=>?_
  rw [Nat.testBit_xor,Nat.testBit_or,Nat.testBit_two_pow]
  by_cases hi:63=i
  ·subst hi
   rw [Nat.testBit_lt_two_pow h]
   rfl
  ·rw [decide_eq_false hi]
   simp
 rw [←e]
 rfl
theorem fin_sl {w:World} {B c g V:Nat} {A:Option Addr} (h:OwnU w B A 2 c (u32s (digs W V))) (hg:g<B) (hl:(digs W V).length=2) {u v:Value} : SlU ((w.setCell ⟨g,0,none⟩ u).setCell ⟨g,1,none⟩ v) ((w.setCell ⟨g,0,none⟩ u).setCell ⟨g,1,none⟩ v).heap.size A 2 c (digs W V):=
 Own.sl (Own.farB (Own.farB h (p:=⟨g,0,none⟩) hg u) (p:=⟨g,1,none⟩) hg v) (dig_digs (by decide) _) hl
set_option maxRecDepth 100000 in
set_option maxHeartbeats 8000000 in
theorem ToFloat_long (neg:Bool) {B:Nat} {A:Option Addr} {l:List Nat} {n c:Nat} {w:World} (hs:SlU w B A n c l) (hn:n≤67108000) (hB:B≤w.heap.size) (hl:lng l=true) :
  Calls Tryz.prog 164 #[.agg #[.bool neg,.slice A n c]] w (TfPost w 0 10):=by
 have HT:=Lib.hid (tf_start (neg:=neg) hs (by omega) hB)
 rw [hl] at HT
 clear hs hn hB hl
 go_enter Tryz.func164,Tryz.ntmps164
 go_wp2_with fail
 refine (HT.out.2.2).mono ?_
 rintro ex w3 ⟨rfl,hb3⟩
 have H1:=Lib.hid (HT.out.2.1.below hb3 (by simp;omega))
 have H3:=Lib.hid (HT.out.1.trans (hb3.mono HT.out.1.size))
 clear hb3
 obtain ⟨a0,a1,_,_⟩:=H1.out.facts
 go_wp2
 exact bodyPost_ret (v:=.tuple #[.int .u64 0,.int .i64 10]) (by simp [results,Tryz.results164,go_sem]) rfl ⟨rfl,H3.out⟩
set_option maxRecDepth 100000 in
set_option maxHeartbeats 8000000 in
theorem ToFloat_nought (neg:Bool) {B:Nat} {A:Option Addr} {l:List Nat} {n c:Nat} {w:World} (hs:SlU w B A n c l) (hn:n≤67108000) (hB:B≤w.heap.size) (hl:lng l=false) (hbb:blen (nv W l)=0) :
  Calls Tryz.prog 164 #[.agg #[.bool neg,.slice A n c]] w (TfPost w 0 0):=by
 have HT:=Lib.hid (tf_start (neg:=neg) hs (by omega) hB)
 rw [hl] at HT
 obtain ⟨b,hb⟩:∃ b,blen (nv W l)=b:=⟨_,rfl⟩
 have HBt:=Lib.hid (fun w1 (hb9:Below w.heap.size w w1)=>show Calls Tryz.prog 20 #[.agg #[.bool neg,.slice A n c]] w1 (CmpZPost (b:Int) w1) from by
  have h:=bits_any neg (hs.below (C:=w.heap.size) hb9 hB) (by omega) (Nat.le_trans hB hb9.size)
  rw [hb] at h
  exact h)
 rw [hb] at hbb
 subst hbb
 clear hs hn hB hl hb
 go_enter Tryz.func164,Tryz.ntmps164
 go_wp2_with fail
 refine (HT.out.2.2).mono ?_
 rintro ex w3 ⟨rfl,hb3⟩
 have H1:=Lib.hid (HT.out.2.1.below hb3 (by simp;omega))
 have H3:=Lib.hid (HT.out.1.trans (hb3.mono HT.out.1.size))
 clear hb3
 obtain ⟨a0,a1,_,_⟩:=H1.out.facts
 go_wp2_with fail
 refine (HBt.out _ H3.out).mono ?_
 rintro ex w4 ⟨rfl,hb4⟩
 replace H1:=Lib.hid (H1.out.below hb4 (Bx.lt H1.out))
 replace H3:=Lib.hid (H3.out.trans (hb4.mono H3.out.size))
 clear hb4 a0 a1
 obtain ⟨a0,a1,_,_⟩:=H1.out.facts
 go_wp2
 exact bodyPost_ret (v:=.tuple #[.int .u64 0,.int .i64 0]) (by simp [results,Tryz.results164,go_sem]) rfl ⟨rfl,H3.out⟩
set_option maxRecDepth 100000 in
set_option maxHeartbeats 8000000 in
theorem ToFloat_great (neg:Bool) {B:Nat} {A:Option Addr} {l:List Nat} {n c:Nat} {w:World} (hs:SlU w B A n c l) (hn:n≤67108000) (hB:B≤w.heap.size) (hl:lng l=false) (hbb:1024<blen (nv W l)) :
  Calls Tryz.prog 164 #[.agg #[.bool neg,.slice A n c]] w (TfPost w 0 14):=by
 have HT:=Lib.hid (tf_start (neg:=neg) hs (by omega) hB)
 rw [hl] at HT
 obtain ⟨b,hb⟩:∃ b,blen (nv W l)=b:=⟨_,rfl⟩
 have HBt:=Lib.hid (fun w1 (hb9:Below w.heap.size w w1)=>show Calls Tryz.prog 20 #[.agg #[.bool neg,.slice A n c]] w1 (CmpZPost (b:Int) w1) from by
  have h:=bits_any neg (hs.below (C:=w.heap.size) hb9 hB) (by omega) (Nat.le_trans hB hb9.size)
  rw [hb] at h
  exact h)
 rw [hb] at hbb
 have hd1:decide ((1024:Int)<(b:Int))=true:=decide_eq_true (by omega)
 have hd2:((b:Int)==0)=false:=beq_eq_false_iff_ne.2 (by omega)
 clear hs hn hB hl hb hbb
 go_enter Tryz.func164,Tryz.ntmps164
 go_wp2_with fail
 refine (HT.out.2.2).mono ?_
 rintro ex w3 ⟨rfl,hb3⟩
 have H1:=Lib.hid (HT.out.2.1.below hb3 (by simp;omega))
 have H3:=Lib.hid (HT.out.1.trans (hb3.mono HT.out.1.size))
 clear hb3
 obtain ⟨a0,a1,_,_⟩:=H1.out.facts
 go_wp2_with fail
 refine (HBt.out _ H3.out).mono ?_
 rintro ex w4 ⟨rfl,hb4⟩
 replace H1:=Lib.hid (H1.out.below hb4 (Bx.lt H1.out))
 replace H3:=Lib.hid (H3.out.trans (hb4.mono H3.out.size))
 clear hb4 a0 a1
 obtain ⟨a0,a1,_,_⟩:=H1.out.facts
 go_wp2
 exact bodyPost_ret (v:=.tuple #[.int .u64 0,.int .i64 14]) (by simp [results,Tryz.results164,go_sem]) rfl ⟨rfl,H3.out⟩
set_option maxRecDepth 100000 in
set_option maxHeartbeats 8000000 in
theorem ToFloat_main (neg:Bool) {B:Nat} {A:Option Addr} {l:List Nat} {n c:Nat} {w:World} (hs:SlU w B A n c l) (hn:n≤67108000) (hB:B≤w.heap.size) {fb:Nat} {co:Int} (hl:lng l=false) (hbb:0<blen (nv W l)∧blen (nv W l)≤1024) (hfb:(if flBits (nv W l)=9218868437227405312 then 0 else flBits (nv W l)+(if neg then 9223372036854775808 else 0))=fb) (hco:(if flBits (nv W l)=9218868437227405312 then 14 else 0:Int)=co) :
  Calls Tryz.prog 164 #[.agg #[.bool neg,.slice A n c]] w (TfPost w fb co):=by
 have HT:=Lib.hid (tf_start (neg:=neg) hs (by omega) hB)
 rw [hl] at HT
 obtain ⟨b,hb⟩:∃ b,blen (nv W l)=b:=⟨_,rfl⟩
 have HBt:=Lib.hid (fun w1 (hb9:Below w.heap.size w w1)=>show Calls Tryz.prog 20 #[.agg #[.bool neg,.slice A n c]] w1 (CmpZPost (b:Int) w1) from by
  have h:=bits_any neg (hs.below (C:=w.heap.size) hb9 hB) (by omega) (Nat.le_trans hB hb9.size)
  rw [hb] at h
  exact h)
 rw [hb] at hbb
 obtain ⟨a,ha⟩:∃ a,nv W l=a:=⟨_,rfl⟩
 have ha0:a≠0:=by
  rintro rfl
  rw [ha,blen_zero] at hb
  omega
 rw [ha] at hb hfb hco
 have hV:=flV_bounds ha0
 have hTp:=flTop_bounds ha0
 have hbk:=(flBits_le ha0 (by omega)).1
 have HNm:=Lib.hid (fun w1 (hb9:Below w.heap.size w w1)=>And.intro (trim_any (hs.below (C:=w.heap.size) hb9 hB)) (own_any ((hs.tr).below (C:=w.heap.size) hb9 hB) (by have:=tlen_le l;have:=hs.len;omega) (Nat.le_trans hB hb9.size)))
 have HZt:=Lib.hid (show ival false (tr l)=(a:Int) by unfold ival;rw [nv_tr,ha];rfl)
 have HDt:=Lib.hid (hs.dig.tr)
 obtain ⟨V,hVd⟩:∃ V,flV a=V:=⟨_,rfl⟩
 obtain ⟨low,hlow⟩:∃ b,flLow a=b:=⟨_,rfl⟩
 obtain ⟨up,hup⟩:∃ b,flUp a=b:=⟨_,rfl⟩
 obtain ⟨X,hX⟩:∃ X,flBits a=X:=⟨_,rfl⟩
 obtain ⟨mm,hmm⟩:∃ mm:Int,(b:Int) - 54=mm:=⟨_,rfl⟩
 have hd1:decide ((1024:Int)<(b:Int))=false:=decide_eq_false (by omega)
 have hd2:((b:Int)==0)=false:=beq_eq_false_iff_ne.2 (by omega)
 rw [hVd] at hV
 have hbI:(b:Int)≤1024:=by omega
 have hb0:(0:Int)<(b:Int):=by omega
 have HAb:=Lib.hid (And.intro hb hbb)
 have HVd:=Lib.hid hVd
 have HLw:=Lib.hid hlow
 have HUp:=Lib.hid hup
 have HX:=Lib.hid hX
 have HTp:=Lib.hid hTp
 have HFb:=Lib.hid (And.intro hfb (And.intro hco True.intro))
 have HVb:=Lib.hid hV
 have HA0:=Lib.hid ha0
 have HXl:=Lib.hid (show X≤9218868437227405312 by omega)
 have HMM:=Lib.hid hmm
 have HLt:=Lib.hid (tr_length l)
 have HLa:=Lib.hid (show (digs W a).length≤67108000 by
  obtain ⟨K,hK⟩:∃ K:Nat,K=1024:=⟨_,rfl⟩
  have h8:=lt_of_digs_length (b:=2) (n:=a) (k:=K) (by decide) (by unfold blen at hb;omega)
  have h9:=digs_length_le (b:=W) (n:=a) (k:=32) (by decide) (by rw [W_pow_eq,show 32 * 32=K by omega];exact h8)
  omega)
 have HL2:=Lib.hid (show (digs W V).length=2 by
  rw [digs_pos (by decide) (by omega),digs_pos (by decide) (by have:W=4294967296:=rfl;rw [this];omega),show V / W / W=0 by have:W=4294967296:=rfl;rw [this];omega,digs_zero];rfl)
 have HTl:=Lib.hid (show tlen l≤67108000 by have:=tlen_le l;have:=hs.len;omega)
 clear hs hn hB hl hb hbb ha hV hTp hbk hVd hlow hup hX hfb hco ha0
 go_enter Tryz.func164,Tryz.ntmps164
 go_wp2_with fail
 refine (HT.out.2.2).mono ?_
 rintro ex w3 ⟨rfl,hb3⟩
 have H1:=Lib.hid (HT.out.2.1.below hb3 (by simp;omega))
 have H3:=Lib.hid (HT.out.1.trans (hb3.mono HT.out.1.size))
 clear hb3
 obtain ⟨a0,a1,_,_⟩:=H1.out.facts
 go_wp2_with fail
 refine (HBt.out _ H3.out).mono ?_
 rintro ex w4 ⟨rfl,hb4⟩
 replace H1:=Lib.hid (H1.out.below hb4 (Bx.lt H1.out))
 replace H3:=Lib.hid (H3.out.trans (hb4.mono H3.out.size))
 clear hb4 a0 a1
 obtain ⟨a0,a1,_,_⟩:=H1.out.facts
 go_wp2_with fail
 (refine (HNm.out _ H3.out).1.mono ?_)
 rintro ex w5 ⟨rfl,rfl⟩
 go_wp2_with fail
 (with_reducible refine (HNm.out _ H3.out).2.mono ?_)
 rintro ex w5 ⟨A4,n4,c4,rfl,ho4,hl4,hb5⟩
 have H15:=Lib.hid (H1.out.below hb5 (Bx.lt H1.out))
 have H35:=Lib.hid (H3.out.trans (hb5.mono H3.out.size))
 have HO4:=Lib.hid ho4
 have HL4:=Lib.hid hl4
 clear ho4 hl4 hb5 a0 a1
 go_wp2_with fail
 (with_reducible refine (laid_at false HO4.out HL4.out HDt.out HZt.out).mono ?_)
 rintro ex w6 ⟨rfl,ho6,hb6⟩
 have hda:decide ((a:Int)<0)=false:=decide_eq_false (by omega)
 have hna:(a:Int).natAbs=a:=Int.natAbs_natCast a
 rw [hna] at ho6
 have H16:=Lib.hid (H15.out.below hb6 (Bx.lt H15.out))
 have H36:=Lib.hid (H35.out.trans (hb6.mono H35.out.size))
 have HO6:=Lib.hid (Own.alloc ho6 (.cells #[.bool false,.slice A4 (digs W a).length c4] 39))
 have HV6:=Lib.hid (Bx.new w6 (.bool false) (.slice A4 (digs W a).length c4))
 have H17:=Lib.hid (Bx.alloc H16.out (.cells #[.bool false,.slice A4 (digs W a).length c4] 39))
 have H37:=Lib.hid (Below.alloc H36.out H36.out.size (.cells #[.bool false,.slice A4 (digs W a).length c4] 39))
 have hlt6:=Bx.lt H16.out
 have HN6:=Lib.hid (fun g' (e:A4=some ⟨g',0,none⟩)=>show g'<w6.heap.size from (own_block ho6 e).2)
 clear ho6 hb6
 rw [hda,hna]
 clear hda hna
 go_upto_region 10 with fail
 have HV7:=Lib.hid (Bx.lt HV6.out)
 generalize w6.alloc (.cells #[.bool false,.slice A4 (digs W a).length c4] 39)=W5 at *
 have HG5:=Lib.hid (show w.heap.size≤w6.heap.size from H36.out.size)
 generalize w6.heap.size=g5 at *
 obtain ⟨v0,v1,v2,v3⟩:=HV6.out.facts
 go_upto_if 32 with fail
 go_cut [7] (fun s7 wx=>∃ A9 c9,s7 = .bool low∧Bx wx g5 (.bool false) (.slice A9 2 c9)∧SlU wx wx.heap.size A9 2 c9 (digs W V)∧Below g5 W5 wx)
 case first=>
  by_cases hc54:54<b
  ·obtain ⟨m,hm⟩:∃ m,b - 54=m:=⟨_,rfl⟩
   have hm0:0<m:=by omega
   have hmI:mm=(m:Int):=by have:=HMM.out;omega
   subst hmI
   have HVm:=Lib.hid (show a / 2 ^ m=V by have h:=HVd.out;rw [flV,HAb.out.1,if_pos hc54,hm] at h;exact h)
   have HLm:=Lib.hid (show decide (a % 2 ^ m≠0)=low by have h:=HLw.out;rw [flLow,HAb.out.1,decide_eq_true hc54,hm,Bool.true_and] at h;exact h)
   have hmp:decide ((0:Int)<(m:Int))=true:=decide_eq_true (by omega)
   have hm9:(m:Int)≤970:=by omega
   have hm00:(0:Int)<(m:Int):=by omega
   obtain ⟨q,hq⟩:∃ q,m / 32=q:=⟨_,rfl⟩
   obtain ⟨r,hr⟩:∃ r,m % 32=r:=⟨_,rfl⟩
   obtain ⟨p,hp⟩:∃ p,2 ^ r=p:=⟨_,rfl⟩
   have hqI:(m:Int) / 32=(q:Int):=by omega
   have hrI:(m:Int) % 32=(r:Int):=by omega
   have hp32:p<4294967296:=by
    have:2 ^ r<2 ^ 32:=Nat.pow_lt_pow_right (by decide) (by omega)
    omega
   have hpI:(2:Int) ^ r=(p:Int):=by rw [←hp];simp
   have hpM:(p:Int) % 4294967296=(p:Int):=by omega
   have HPW:Hid (IntKind.u32.wrap (p:Int)=(p:Int)):=Lib.hid (wrap_u32 p hp32)
   have hmk:=makeU q (by omega)
   have HQ:=Lib.hid (show q≤maxLen by unfold maxLen;omega)
   have HQ2:=Lib.hid (show q+1≤67108864 by omega)
   have HP:=Lib.hid (And.intro hp32 True.intro)
   obtain ⟨zp,hzp⟩:∃ z:Int,((2 ^ m:Nat):Int)=z:=⟨_,rfl⟩
   have hzd:Dig W (List.replicate q 0 ++ [p]):=by have:=dig_two_pow m;rw [hq,hr,hp] at this;exact this
   have hzv:ival false (List.replicate q 0 ++ [p])=zp:=by
    have:=Hb.nv_two m
    rw [hq,hr,hp] at this
    rw [←hzp];unfold ival;rw [this];rfl
   have HV:=Lib.hid (And.intro hzd hzv)
   have hza:zp.natAbs=2 ^ m:=by rw [←hzp,Int.natAbs_natCast]
   have HPV:=Lib.hid (show nv W (digs W zp.natAbs)=2 ^ m by rw [nv_digs (by decide),hza])
   clear hq hr hp hzp hzd hzv hza hp32 hc54 hm HMM
   go_upto_region 12 with fail
   go_cut [8] (fun s8 wx=>∃ g A2 c2,s8 = .pointer (some ⟨g,0,none⟩)∧Bx wx g (.bool (decide (zp<0))) (.slice A2 (digs W zp.natAbs).length c2)∧OwnU wx W5.heap.size A2 (digs W zp.natAbs).length c2 (u32s (digs W zp.natAbs))∧Below W5.heap.size W5 wx∧W5.heap.size≤g)
   case first=>
    have KK:Below W5.heap.size W5 W5.drew:=(Below.refl _ _).drew
    refine wp_region_wait (fun _=>True) 10 (by kernel_rfl) ?_
    change wpAnyW _ _ _ _ _ _ _ _ _ W5.drew
    have zd:W5.heap.size≤W5.drew.heap.size:=Nat.le_refl _
    generalize W5.drew=u0 at *
    have hqw:IntKind.i64.wrap (q:Int)=(q:Int):=IntWalk.i64_in _ (by omega)
    have hpw:IntKind.u32.wrap (p:Int)=(p:Int):=HPW.out
    have hrt:(m:Int).tmod 32=(r:Int):=by rw [Int.tmod_eq_emod_of_nonneg (by omega)];exact hrI
    refine wpAnyW_take 10 (i:=0) (v:=.int .i64 (m:Int)) rfl (by kernel_rfl) (by kernel_rfl) (by kernel_rfl) (by kernel_rfl) (fun _ _ _ h=>h) (Or.inl ⟨by kernel_rfl,fun w5 hSw=>by go_simp⟩) trivial ?_
    refine wpAnyW_take 10 (i:=1) (v:=.int .i64 (q:Int)) rfl (by kernel_rfl) (by kernel_rfl) (by kernel_rfl) (by kernel_rfl) (fun _ _ _ h=>h) (Or.inl ⟨by kernel_rfl,fun w5 hSw=>by go_simp⟩) trivial ?_
    refine wpAnyW_take 10 (i:=3) (v:=.int .i64 (m:Int)) rfl (by kernel_rfl) (by kernel_rfl) (by kernel_rfl) (by kernel_rfl) (fun _ _ _ h=>h) (Or.inl ⟨by kernel_rfl,fun w5 hSw=>by go_simp⟩) trivial ?_
    refine wpAnyW_take 10 (i:=4) (v:=.int .i64 (r:Int)) rfl (by kernel_rfl) (by kernel_rfl) (by kernel_rfl) (by kernel_rfl) (fun _ _ _ h=>h) (Or.inl ⟨by kernel_rfl,fun w5 hSw=>by go_simp⟩) trivial ?_
    refine wpAnyW_take 10 (i:=5) (v:=.int .u32 (p:Int)) rfl (by kernel_rfl) (by kernel_rfl) (by kernel_rfl) (by kernel_rfl) (fun _ _ _ h=>h) (Or.inl ⟨by kernel_rfl,fun w5 hSw=>by go_simp⟩) trivial ?_
    refine wpAnyW_three (i:=2) (i2:=6) (i3:=9) (by kernel_rfl) rfl rfl rfl (fun K hK=>?_) (fun K hK=>?_) (fun K hK=>?_)
    ·go_simp
     have omk:=own_zeros u0 q (B:=W5.heap.size) KK.size HQ.out
     have zu1:u0.heap.size<(u0.alloc (.cells (madeCells #[.int .u32 0] q) 79)).heap.size:=by simp
     replace KK:=Below.alloc KK KK.size (.cells (madeCells #[.int .u32 0] q) 79)
     refine hK.out _ _ (fun _=>trivial) ?_
     generalize u0.alloc (.cells (madeCells #[.int .u32 0] q) 79)=u1 at *
     generalize u0.heap.size=g2 at *
     refine wpAnyW_two (i:=6) (i2:=9) (by kernel_rfl) rfl rfl (fun K hK=>?_) (fun K hK=>?_)
     ·go_simp
      replace omk:=Own.alloc omk (.cells #[.int .u32 (p:Int)] 79)
      have obs:=own_one u1 p (B:=W5.heap.size) KK.size
      have zu3:u1.heap.size<(u1.alloc (.cells #[.int .u32 (p:Int)] 79)).heap.size:=by simp
      replace KK:=Below.alloc KK KK.size (.cells #[.int .u32 (p:Int)] 79)
      refine hK.out _ _ (fun _=>trivial) ?_
      generalize u1.alloc (.cells #[.int .u32 (p:Int)] 79)=u3 at *
      generalize u1.heap.size=g4 at *
      refine wpAnyW_two (i:=7) (i2:=9) (by kernel_rfl) rfl rfl (fun K hK=>?_) (fun K hK=>?_)
      ·rw [if_pos (by kernel_rfl)]
       have osl:=Own.sl obs (Dig.cons HP.out.1 (Dig.nil _)) rfl
       refine wp_append_far (base:=W5.heap.size) (l0:=List.replicate q 0) (l:=[p]) (A:=some ⟨g4,0,none⟩) (A0:=some ⟨g2,0,none⟩) (n0:=q) (c0:=q) (m:=1) (c:=1) _ _ (by rfl) (by rfl) omk (by rfl) (fun h=>by cases h) osl HQ2.out KK.size ?_
       intro Aap cap u5 oap hbb hff hat
       replace KK:=KK.trans (hbb.mono (Nat.le_refl _))
       clear hbb hff hat omk obs osl
       refine hK.out _ _ (fun _=>trivial) ?_
       refine wpAnyW_two (i:=8) (i2:=9) (by kernel_rfl) rfl rfl (fun K hK=>?_) (fun K hK=>?_)
       ·go_simp
        (with_reducible refine (laid_at false oap (by simp) HV.out.1 HV.out.2).mono ?_)
        rintro ex u6 ⟨rfl,ores,hbb⟩
        replace KK:=KK.trans (hbb.mono KK.size)
        clear hbb oap
        refine hK.out _ _ (fun _=>trivial) ?_
        refine uW 9 fun K hK=>?_
        go_simp
        have hap:∀ g',Aap=some ⟨g',0,none⟩→g'≠u6.heap.size:=fun g' e=>Nat.ne_of_lt (own_block ores e).2
        replace ores:=Own.alloc ores (.cells #[.bool false,.slice none 0 0] 39)
        have bal:=Bx.new u6 (.bool false) (.slice none 0 0)
        have hwal:W5.heap.size≤u6.heap.size:=KK.size
        have zu7:u6.heap.size<(u6.alloc (.cells #[.bool false,.slice none 0 0] 39)).heap.size:=by simp
        replace KK:=Below.alloc KK KK.size (.cells #[.bool false,.slice none 0 0] 39)
        refine hK.out _ _ (fun _=>trivial) ?_
        replace hap:=Lib.hid hap
        generalize u6.alloc (.cells #[.bool false,.slice none 0 0] 39)=u7 at *
        generalize u6.heap.size=g8 at *
        refine uW 10 fun K hK=>?_
        obtain ⟨t0,t1,t2,t3⟩:=bal.facts
        go_simp
        refine hK.out _ _ (fun h=>absurd h (by simp)) ?_
        refine wpAnyW_done (by kernel_rfl) ?_ _
        go_wp2_with fail
        go_meet
        exact ⟨g8,Aap,cap,rfl,Bx.set bal _ _,(ores.far (p:=⟨g8,0,none⟩) hap.out _).far (p:=⟨g8,1,none⟩) hap.out _,(KK.setCell (by simpa using hwal) _).setCell (by simpa using hwal) _,hwal⟩
       ·go_simp
        have hap:∀ g',Aap=some ⟨g',0,none⟩→g'≠u5.heap.size:=fun g' e=>Nat.ne_of_lt (own_block oap e).2
        replace oap:=Own.alloc oap (.cells #[.bool false,.slice none 0 0] 39)
        have bal:=Bx.new u5 (.bool false) (.slice none 0 0)
        have hwal:W5.heap.size≤u5.heap.size:=KK.size
        have zu9:u5.heap.size<(u5.alloc (.cells #[.bool false,.slice none 0 0] 39)).heap.size:=by simp
        replace KK:=Below.alloc KK KK.size (.cells #[.bool false,.slice none 0 0] 39)
        refine hK.out _ _ (fun _=>trivial) ?_
        replace hap:=Lib.hid hap
        generalize u5.alloc (.cells #[.bool false,.slice none 0 0] 39)=u9 at *
        generalize u5.heap.size=g10 at *
        refine uW 8 fun K hK=>?_
        go_simp
        (with_reducible refine (laid_at false oap (by simp) HV.out.1 HV.out.2).mono ?_)
        rintro ex u11 ⟨rfl,ores,hbb⟩
        replace bal:=Bx.below bal hbb (Bx.lt bal)
        replace KK:=KK.trans (hbb.mono KK.size)
        clear hbb oap
        refine hK.out _ _ (fun _=>trivial) ?_
        refine uW 10 fun K hK=>?_
        obtain ⟨t0,t1,t2,t3⟩:=bal.facts
        go_simp
        refine hK.out _ _ (fun h=>absurd h (by simp)) ?_
        refine wpAnyW_done (by kernel_rfl) ?_ _
        go_wp2_with fail
        go_meet
        exact ⟨g10,Aap,cap,rfl,Bx.set bal _ _,(ores.far (p:=⟨g10,0,none⟩) hap.out _).far (p:=⟨g10,1,none⟩) hap.out _,(KK.setCell (by simpa using hwal) _).setCell (by simpa using hwal) _,hwal⟩
      ·go_simp
       replace omk:=Own.alloc omk (.cells #[.bool false,.slice none 0 0] 39)
       replace obs:=Own.alloc obs (.cells #[.bool false,.slice none 0 0] 39)
       have bal:=Bx.new u3 (.bool false) (.slice none 0 0)
       have hwal:W5.heap.size≤u3.heap.size:=KK.size
       have zu12:u3.heap.size<(u3.alloc (.cells #[.bool false,.slice none 0 0] 39)).heap.size:=by simp
       replace KK:=Below.alloc KK KK.size (.cells #[.bool false,.slice none 0 0] 39)
       refine hK.out _ _ (fun _=>trivial) ?_
       generalize u3.alloc (.cells #[.bool false,.slice none 0 0] 39)=u12 at *
       generalize u3.heap.size=g13 at *
       refine uW 7 fun K hK=>?_
       rw [if_pos (by kernel_rfl)]
       have osl:=Own.sl obs (Dig.cons HP.out.1 (Dig.nil _)) rfl
       refine wp_append_far (base:=W5.heap.size) (l0:=List.replicate q 0) (l:=[p]) (A:=some ⟨g4,0,none⟩) (A0:=some ⟨g2,0,none⟩) (n0:=q) (c0:=q) (m:=1) (c:=1) _ _ (by rfl) (by rfl) omk (by rfl) (fun h=>by cases h) osl HQ2.out KK.size ?_
       intro Aap cap u14 oap hbb hff hat
       have ltb:=Bx.lt bal
       have ltm:=(own_block omk rfl).2
       have hne:g13≠g2:=by omega
       have hap:∀ g',Aap=some ⟨g',0,none⟩→g'≠g13:=fun g' e e2=>by
        rcases hat g' e with h | h
        ·injection h with h;injection h with h _ _;exact hne (e2.symm.trans h.symm)
        ·omega
       replace bal:=Bx.same bal (hff g13 ltb (by intro e;injection e with e;injection e with e _ _;exact hne e.symm))
       replace hap:=Lib.hid hap
       clear ltb ltm hne
       replace KK:=KK.trans (hbb.mono (Nat.le_refl _))
       clear hbb hff hat omk obs osl
       refine hK.out _ _ (fun _=>trivial) ?_
       refine uW 8 fun K hK=>?_
       go_simp
       (with_reducible refine (laid_at false oap (by simp) HV.out.1 HV.out.2).mono ?_)
       rintro ex u15 ⟨rfl,ores,hbb⟩
       replace bal:=Bx.below bal hbb (Bx.lt bal)
       replace KK:=KK.trans (hbb.mono KK.size)
       clear hbb oap
       refine hK.out _ _ (fun _=>trivial) ?_
       refine uW 10 fun K hK=>?_
       obtain ⟨t0,t1,t2,t3⟩:=bal.facts
       go_simp
       refine hK.out _ _ (fun h=>absurd h (by simp)) ?_
       refine wpAnyW_done (by kernel_rfl) ?_ _
       go_wp2_with fail
       go_meet
       exact ⟨g13,Aap,cap,rfl,Bx.set bal _ _,(ores.far (p:=⟨g13,0,none⟩) hap.out _).far (p:=⟨g13,1,none⟩) hap.out _,(KK.setCell (by simpa using hwal) _).setCell (by simpa using hwal) _,hwal⟩
     ·go_simp
      replace omk:=Own.alloc omk (.cells #[.bool false,.slice none 0 0] 39)
      have bal:=Bx.new u1 (.bool false) (.slice none 0 0)
      have hwal:W5.heap.size≤u1.heap.size:=KK.size
      have zu16:u1.heap.size<(u1.alloc (.cells #[.bool false,.slice none 0 0] 39)).heap.size:=by simp
      replace KK:=Below.alloc KK KK.size (.cells #[.bool false,.slice none 0 0] 39)
      refine hK.out _ _ (fun _=>trivial) ?_
      generalize u1.alloc (.cells #[.bool false,.slice none 0 0] 39)=u16 at *
      generalize u1.heap.size=g17 at *
      refine uW 6 fun K hK=>?_
      go_simp
      replace omk:=Own.alloc omk (.cells #[.int .u32 (p:Int)] 79)
      replace bal:=Bx.alloc bal (.cells #[.int .u32 (p:Int)] 79)
      have obs:=own_one u16 p (B:=W5.heap.size) KK.size
      have zu18:u16.heap.size<(u16.alloc (.cells #[.int .u32 (p:Int)] 79)).heap.size:=by simp
      replace KK:=Below.alloc KK KK.size (.cells #[.int .u32 (p:Int)] 79)
      refine hK.out _ _ (fun _=>trivial) ?_
      generalize u16.alloc (.cells #[.int .u32 (p:Int)] 79)=u18 at *
      generalize u16.heap.size=g19 at *
      refine uW 7 fun K hK=>?_
      rw [if_pos (by kernel_rfl)]
      have osl:=Own.sl obs (Dig.cons HP.out.1 (Dig.nil _)) rfl
      refine wp_append_far (base:=W5.heap.size) (l0:=List.replicate q 0) (l:=[p]) (A:=some ⟨g19,0,none⟩) (A0:=some ⟨g2,0,none⟩) (n0:=q) (c0:=q) (m:=1) (c:=1) _ _ (by rfl) (by rfl) omk (by rfl) (fun h=>by cases h) osl HQ2.out KK.size ?_
      intro Aap cap u20 oap hbb hff hat
      have ltb:=Bx.lt bal
      have ltm:=(own_block omk rfl).2
      have hne:g17≠g2:=by omega
      have hap:∀ g',Aap=some ⟨g',0,none⟩→g'≠g17:=fun g' e e2=>by
       rcases hat g' e with h | h
       ·injection h with h;injection h with h _ _;exact hne (e2.symm.trans h.symm)
       ·omega
      replace bal:=Bx.same bal (hff g17 ltb (by intro e;injection e with e;injection e with e _ _;exact hne e.symm))
      replace hap:=Lib.hid hap
      clear ltb ltm hne
      replace KK:=KK.trans (hbb.mono (Nat.le_refl _))
      clear hbb hff hat omk obs osl
      refine hK.out _ _ (fun _=>trivial) ?_
      refine uW 8 fun K hK=>?_
      go_simp
      (with_reducible refine (laid_at false oap (by simp) HV.out.1 HV.out.2).mono ?_)
      rintro ex u21 ⟨rfl,ores,hbb⟩
      replace bal:=Bx.below bal hbb (Bx.lt bal)
      replace KK:=KK.trans (hbb.mono KK.size)
      clear hbb oap
      refine hK.out _ _ (fun _=>trivial) ?_
      refine uW 10 fun K hK=>?_
      obtain ⟨t0,t1,t2,t3⟩:=bal.facts
      go_simp
      refine hK.out _ _ (fun h=>absurd h (by simp)) ?_
      refine wpAnyW_done (by kernel_rfl) ?_ _
      go_wp2_with fail
      go_meet
      exact ⟨g17,Aap,cap,rfl,Bx.set bal _ _,(ores.far (p:=⟨g17,0,none⟩) hap.out _).far (p:=⟨g17,1,none⟩) hap.out _,(KK.setCell (by simpa using hwal) _).setCell (by simpa using hwal) _,hwal⟩
    ·go_simp
     have obs:=own_one u0 p (B:=W5.heap.size) KK.size
     have zu22:u0.heap.size<(u0.alloc (.cells #[.int .u32 (p:Int)] 79)).heap.size:=by simp
     replace KK:=Below.alloc KK KK.size (.cells #[.int .u32 (p:Int)] 79)
     refine hK.out _ _ (fun _=>trivial) ?_
     generalize u0.alloc (.cells #[.int .u32 (p:Int)] 79)=u22 at *
     generalize u0.heap.size=g23 at *
     refine wpAnyW_two (i:=2) (i2:=9) (by kernel_rfl) rfl rfl (fun K hK=>?_) (fun K hK=>?_)
     ·go_simp
      replace obs:=Own.alloc obs (.cells (madeCells #[.int .u32 0] q) 79)
      have omk:=own_zeros u22 q (B:=W5.heap.size) KK.size HQ.out
      have zu24:u22.heap.size<(u22.alloc (.cells (madeCells #[.int .u32 0] q) 79)).heap.size:=by simp
      replace KK:=Below.alloc KK KK.size (.cells (madeCells #[.int .u32 0] q) 79)
      refine hK.out _ _ (fun _=>trivial) ?_
      generalize u22.alloc (.cells (madeCells #[.int .u32 0] q) 79)=u24 at *
      generalize u22.heap.size=g25 at *
      refine wpAnyW_two (i:=7) (i2:=9) (by kernel_rfl) rfl rfl (fun K hK=>?_) (fun K hK=>?_)
      ·rw [if_pos (by kernel_rfl)]
       have osl:=Own.sl obs (Dig.cons HP.out.1 (Dig.nil _)) rfl
       refine wp_append_far (base:=W5.heap.size) (l0:=List.replicate q 0) (l:=[p]) (A:=some ⟨g23,0,none⟩) (A0:=some ⟨g25,0,none⟩) (n0:=q) (c0:=q) (m:=1) (c:=1) _ _ (by rfl) (by rfl) omk (by rfl) (fun h=>by cases h) osl HQ2.out KK.size ?_
       intro Aap cap u26 oap hbb hff hat
       replace KK:=KK.trans (hbb.mono (Nat.le_refl _))
       clear hbb hff hat omk obs osl
       refine hK.out _ _ (fun _=>trivial) ?_
       refine wpAnyW_two (i:=8) (i2:=9) (by kernel_rfl) rfl rfl (fun K hK=>?_) (fun K hK=>?_)
       ·go_simp
        (with_reducible refine (laid_at false oap (by simp) HV.out.1 HV.out.2).mono ?_)
        rintro ex u27 ⟨rfl,ores,hbb⟩
        replace KK:=KK.trans (hbb.mono KK.size)
        clear hbb oap
        refine hK.out _ _ (fun _=>trivial) ?_
        refine uW 9 fun K hK=>?_
        go_simp
        have hap:∀ g',Aap=some ⟨g',0,none⟩→g'≠u27.heap.size:=fun g' e=>Nat.ne_of_lt (own_block ores e).2
        replace ores:=Own.alloc ores (.cells #[.bool false,.slice none 0 0] 39)
        have bal:=Bx.new u27 (.bool false) (.slice none 0 0)
        have hwal:W5.heap.size≤u27.heap.size:=KK.size
        have zu28:u27.heap.size<(u27.alloc (.cells #[.bool false,.slice none 0 0] 39)).heap.size:=by simp
        replace KK:=Below.alloc KK KK.size (.cells #[.bool false,.slice none 0 0] 39)
        refine hK.out _ _ (fun _=>trivial) ?_
        replace hap:=Lib.hid hap
        generalize u27.alloc (.cells #[.bool false,.slice none 0 0] 39)=u28 at *
        generalize u27.heap.size=g29 at *
        refine uW 10 fun K hK=>?_
        obtain ⟨t0,t1,t2,t3⟩:=bal.facts
        go_simp
        refine hK.out _ _ (fun h=>absurd h (by simp)) ?_
        refine wpAnyW_done (by kernel_rfl) ?_ _
        go_wp2_with fail
        go_meet
        exact ⟨g29,Aap,cap,rfl,Bx.set bal _ _,(ores.far (p:=⟨g29,0,none⟩) hap.out _).far (p:=⟨g29,1,none⟩) hap.out _,(KK.setCell (by simpa using hwal) _).setCell (by simpa using hwal) _,hwal⟩
       ·go_simp
        have hap:∀ g',Aap=some ⟨g',0,none⟩→g'≠u26.heap.size:=fun g' e=>Nat.ne_of_lt (own_block oap e).2
        replace oap:=Own.alloc oap (.cells #[.bool false,.slice none 0 0] 39)
        have bal:=Bx.new u26 (.bool false) (.slice none 0 0)
        have hwal:W5.heap.size≤u26.heap.size:=KK.size
        have zu30:u26.heap.size<(u26.alloc (.cells #[.bool false,.slice none 0 0] 39)).heap.size:=by simp
        replace KK:=Below.alloc KK KK.size (.cells #[.bool false,.slice none 0 0] 39)
        refine hK.out _ _ (fun _=>trivial) ?_
        replace hap:=Lib.hid hap
        generalize u26.alloc (.cells #[.bool false,.slice none 0 0] 39)=u30 at *
        generalize u26.heap.size=g31 at *
        refine uW 8 fun K hK=>?_
        go_simp
        (with_reducible refine (laid_at false oap (by simp) HV.out.1 HV.out.2).mono ?_)
        rintro ex u32 ⟨rfl,ores,hbb⟩
        replace bal:=Bx.below bal hbb (Bx.lt bal)
        replace KK:=KK.trans (hbb.mono KK.size)
        clear hbb oap
        refine hK.out _ _ (fun _=>trivial) ?_
        refine uW 10 fun K hK=>?_
        obtain ⟨t0,t1,t2,t3⟩:=bal.facts
        go_simp
        refine hK.out _ _ (fun h=>absurd h (by simp)) ?_
        refine wpAnyW_done (by kernel_rfl) ?_ _
        go_wp2_with fail
        go_meet
        exact ⟨g31,Aap,cap,rfl,Bx.set bal _ _,(ores.far (p:=⟨g31,0,none⟩) hap.out _).far (p:=⟨g31,1,none⟩) hap.out _,(KK.setCell (by simpa using hwal) _).setCell (by simpa using hwal) _,hwal⟩
      ·go_simp
       replace obs:=Own.alloc obs (.cells #[.bool false,.slice none 0 0] 39)
       replace omk:=Own.alloc omk (.cells #[.bool false,.slice none 0 0] 39)
       have bal:=Bx.new u24 (.bool false) (.slice none 0 0)
       have hwal:W5.heap.size≤u24.heap.size:=KK.size
       have zu33:u24.heap.size<(u24.alloc (.cells #[.bool false,.slice none 0 0] 39)).heap.size:=by simp
       replace KK:=Below.alloc KK KK.size (.cells #[.bool false,.slice none 0 0] 39)
       refine hK.out _ _ (fun _=>trivial) ?_
       generalize u24.alloc (.cells #[.bool false,.slice none 0 0] 39)=u33 at *
       generalize u24.heap.size=g34 at *
       refine uW 7 fun K hK=>?_
       rw [if_pos (by kernel_rfl)]
       have osl:=Own.sl obs (Dig.cons HP.out.1 (Dig.nil _)) rfl
       refine wp_append_far (base:=W5.heap.size) (l0:=List.replicate q 0) (l:=[p]) (A:=some ⟨g23,0,none⟩) (A0:=some ⟨g25,0,none⟩) (n0:=q) (c0:=q) (m:=1) (c:=1) _ _ (by rfl) (by rfl) omk (by rfl) (fun h=>by cases h) osl HQ2.out KK.size ?_
       intro Aap cap u35 oap hbb hff hat
       have ltb:=Bx.lt bal
       have ltm:=(own_block omk rfl).2
       have hne:g34≠g25:=by omega
       have hap:∀ g',Aap=some ⟨g',0,none⟩→g'≠g34:=fun g' e e2=>by
        rcases hat g' e with h | h
        ·injection h with h;injection h with h _ _;exact hne (e2.symm.trans h.symm)
        ·omega
       replace bal:=Bx.same bal (hff g34 ltb (by intro e;injection e with e;injection e with e _ _;exact hne e.symm))
       replace hap:=Lib.hid hap
       clear ltb ltm hne
       replace KK:=KK.trans (hbb.mono (Nat.le_refl _))
       clear hbb hff hat omk obs osl
       refine hK.out _ _ (fun _=>trivial) ?_
       refine uW 8 fun K hK=>?_
       go_simp
       (with_reducible refine (laid_at false oap (by simp) HV.out.1 HV.out.2).mono ?_)
       rintro ex u36 ⟨rfl,ores,hbb⟩
       replace bal:=Bx.below bal hbb (Bx.lt bal)
       replace KK:=KK.trans (hbb.mono KK.size)
       clear hbb oap
       refine hK.out _ _ (fun _=>trivial) ?_
       refine uW 10 fun K hK=>?_
       obtain ⟨t0,t1,t2,t3⟩:=bal.facts
       go_simp
       refine hK.out _ _ (fun h=>absurd h (by simp)) ?_
       refine wpAnyW_done (by kernel_rfl) ?_ _
       go_wp2_with fail
       go_meet
       exact ⟨g34,Aap,cap,rfl,Bx.set bal _ _,(ores.far (p:=⟨g34,0,none⟩) hap.out _).far (p:=⟨g34,1,none⟩) hap.out _,(KK.setCell (by simpa using hwal) _).setCell (by simpa using hwal) _,hwal⟩
     ·go_simp
      replace obs:=Own.alloc obs (.cells #[.bool false,.slice none 0 0] 39)
      have bal:=Bx.new u22 (.bool false) (.slice none 0 0)
      have hwal:W5.heap.size≤u22.heap.size:=KK.size
      have zu37:u22.heap.size<(u22.alloc (.cells #[.bool false,.slice none 0 0] 39)).heap.size:=by simp
      replace KK:=Below.alloc KK KK.size (.cells #[.bool false,.slice none 0 0] 39)
      refine hK.out _ _ (fun _=>trivial) ?_
      generalize u22.alloc (.cells #[.bool false,.slice none 0 0] 39)=u37 at *
      generalize u22.heap.size=g38 at *
      refine uW 2 fun K hK=>?_
      go_simp
      replace obs:=Own.alloc obs (.cells (madeCells #[.int .u32 0] q) 79)
      replace bal:=Bx.alloc bal (.cells (madeCells #[.int .u32 0] q) 79)
      have omk:=own_zeros u37 q (B:=W5.heap.size) KK.size HQ.out
      have zu39:u37.heap.size<(u37.alloc (.cells (madeCells #[.int .u32 0] q) 79)).heap.size:=by simp
      replace KK:=Below.alloc KK KK.size (.cells (madeCells #[.int .u32 0] q) 79)
      refine hK.out _ _ (fun _=>trivial) ?_
      generalize u37.alloc (.cells (madeCells #[.int .u32 0] q) 79)=u39 at *
      generalize u37.heap.size=g40 at *
      refine uW 7 fun K hK=>?_
      rw [if_pos (by kernel_rfl)]
      have osl:=Own.sl obs (Dig.cons HP.out.1 (Dig.nil _)) rfl
      refine wp_append_far (base:=W5.heap.size) (l0:=List.replicate q 0) (l:=[p]) (A:=some ⟨g23,0,none⟩) (A0:=some ⟨g40,0,none⟩) (n0:=q) (c0:=q) (m:=1) (c:=1) _ _ (by rfl) (by rfl) omk (by rfl) (fun h=>by cases h) osl HQ2.out KK.size ?_
      intro Aap cap u41 oap hbb hff hat
      have ltb:=Bx.lt bal
      have ltm:=(own_block omk rfl).2
      have hne:g38≠g40:=by omega
      have hap:∀ g',Aap=some ⟨g',0,none⟩→g'≠g38:=fun g' e e2=>by
       rcases hat g' e with h | h
       ·injection h with h;injection h with h _ _;exact hne (e2.symm.trans h.symm)
       ·omega
      replace bal:=Bx.same bal (hff g38 ltb (by intro e;injection e with e;injection e with e _ _;exact hne e.symm))
      replace hap:=Lib.hid hap
      clear ltb ltm hne
      replace KK:=KK.trans (hbb.mono (Nat.le_refl _))
      clear hbb hff hat omk obs osl
      refine hK.out _ _ (fun _=>trivial) ?_
      refine uW 8 fun K hK=>?_
      go_simp
      (with_reducible refine (laid_at false oap (by simp) HV.out.1 HV.out.2).mono ?_)
      rintro ex u42 ⟨rfl,ores,hbb⟩
      replace bal:=Bx.below bal hbb (Bx.lt bal)
      replace KK:=KK.trans (hbb.mono KK.size)
      clear hbb oap
      refine hK.out _ _ (fun _=>trivial) ?_
      refine uW 10 fun K hK=>?_
      obtain ⟨t0,t1,t2,t3⟩:=bal.facts
      go_simp
      refine hK.out _ _ (fun h=>absurd h (by simp)) ?_
      refine wpAnyW_done (by kernel_rfl) ?_ _
      go_wp2_with fail
      go_meet
      exact ⟨g38,Aap,cap,rfl,Bx.set bal _ _,(ores.far (p:=⟨g38,0,none⟩) hap.out _).far (p:=⟨g38,1,none⟩) hap.out _,(KK.setCell (by simpa using hwal) _).setCell (by simpa using hwal) _,hwal⟩
    ·go_simp
     have bal:=Bx.new u0 (.bool false) (.slice none 0 0)
     have hwal:W5.heap.size≤u0.heap.size:=KK.size
     have zu43:u0.heap.size<(u0.alloc (.cells #[.bool false,.slice none 0 0] 39)).heap.size:=by simp
     replace KK:=Below.alloc KK KK.size (.cells #[.bool false,.slice none 0 0] 39)
     refine hK.out _ _ (fun _=>trivial) ?_
     generalize u0.alloc (.cells #[.bool false,.slice none 0 0] 39)=u43 at *
     generalize u0.heap.size=g44 at *
     refine wpAnyW_two (i:=2) (i2:=6) (by kernel_rfl) rfl rfl (fun K hK=>?_) (fun K hK=>?_)
     ·go_simp
      replace bal:=Bx.alloc bal (.cells (madeCells #[.int .u32 0] q) 79)
      have omk:=own_zeros u43 q (B:=W5.heap.size) KK.size HQ.out
      have zu45:u43.heap.size<(u43.alloc (.cells (madeCells #[.int .u32 0] q) 79)).heap.size:=by simp
      replace KK:=Below.alloc KK KK.size (.cells (madeCells #[.int .u32 0] q) 79)
      refine hK.out _ _ (fun _=>trivial) ?_
      generalize u43.alloc (.cells (madeCells #[.int .u32 0] q) 79)=u45 at *
      generalize u43.heap.size=g46 at *
      refine uW 6 fun K hK=>?_
      go_simp
      replace bal:=Bx.alloc bal (.cells #[.int .u32 (p:Int)] 79)
      replace omk:=Own.alloc omk (.cells #[.int .u32 (p:Int)] 79)
      have obs:=own_one u45 p (B:=W5.heap.size) KK.size
      have zu47:u45.heap.size<(u45.alloc (.cells #[.int .u32 (p:Int)] 79)).heap.size:=by simp
      replace KK:=Below.alloc KK KK.size (.cells #[.int .u32 (p:Int)] 79)
      refine hK.out _ _ (fun _=>trivial) ?_
      generalize u45.alloc (.cells #[.int .u32 (p:Int)] 79)=u47 at *
      generalize u45.heap.size=g48 at *
      refine uW 7 fun K hK=>?_
      rw [if_pos (by kernel_rfl)]
      have osl:=Own.sl obs (Dig.cons HP.out.1 (Dig.nil _)) rfl
      refine wp_append_far (base:=W5.heap.size) (l0:=List.replicate q 0) (l:=[p]) (A:=some ⟨g48,0,none⟩) (A0:=some ⟨g46,0,none⟩) (n0:=q) (c0:=q) (m:=1) (c:=1) _ _ (by rfl) (by rfl) omk (by rfl) (fun h=>by cases h) osl HQ2.out KK.size ?_
      intro Aap cap u49 oap hbb hff hat
      have ltb:=Bx.lt bal
      have ltm:=(own_block omk rfl).2
      have hne:g44≠g46:=by omega
      have hap:∀ g',Aap=some ⟨g',0,none⟩→g'≠g44:=fun g' e e2=>by
       rcases hat g' e with h | h
       ·injection h with h;injection h with h _ _;exact hne (e2.symm.trans h.symm)
       ·omega
      replace bal:=Bx.same bal (hff g44 ltb (by intro e;injection e with e;injection e with e _ _;exact hne e.symm))
      replace hap:=Lib.hid hap
      clear ltb ltm hne
      replace KK:=KK.trans (hbb.mono (Nat.le_refl _))
      clear hbb hff hat omk obs osl
      refine hK.out _ _ (fun _=>trivial) ?_
      refine uW 8 fun K hK=>?_
      go_simp
      (with_reducible refine (laid_at false oap (by simp) HV.out.1 HV.out.2).mono ?_)
      rintro ex u50 ⟨rfl,ores,hbb⟩
      replace bal:=Bx.below bal hbb (Bx.lt bal)
      replace KK:=KK.trans (hbb.mono KK.size)
      clear hbb oap
      refine hK.out _ _ (fun _=>trivial) ?_
      refine uW 10 fun K hK=>?_
      obtain ⟨t0,t1,t2,t3⟩:=bal.facts
      go_simp
      refine hK.out _ _ (fun h=>absurd h (by simp)) ?_
      refine wpAnyW_done (by kernel_rfl) ?_ _
      go_wp2_with fail
      go_meet
      exact ⟨g44,Aap,cap,rfl,Bx.set bal _ _,(ores.far (p:=⟨g44,0,none⟩) hap.out _).far (p:=⟨g44,1,none⟩) hap.out _,(KK.setCell (by simpa using hwal) _).setCell (by simpa using hwal) _,hwal⟩
     ·go_simp
      replace bal:=Bx.alloc bal (.cells #[.int .u32 (p:Int)] 79)
      have obs:=own_one u43 p (B:=W5.heap.size) KK.size
      have zu51:u43.heap.size<(u43.alloc (.cells #[.int .u32 (p:Int)] 79)).heap.size:=by simp
      replace KK:=Below.alloc KK KK.size (.cells #[.int .u32 (p:Int)] 79)
      refine hK.out _ _ (fun _=>trivial) ?_
      generalize u43.alloc (.cells #[.int .u32 (p:Int)] 79)=u51 at *
      generalize u43.heap.size=g52 at *
      refine uW 2 fun K hK=>?_
      go_simp
      replace bal:=Bx.alloc bal (.cells (madeCells #[.int .u32 0] q) 79)
      replace obs:=Own.alloc obs (.cells (madeCells #[.int .u32 0] q) 79)
      have omk:=own_zeros u51 q (B:=W5.heap.size) KK.size HQ.out
      have zu53:u51.heap.size<(u51.alloc (.cells (madeCells #[.int .u32 0] q) 79)).heap.size:=by simp
      replace KK:=Below.alloc KK KK.size (.cells (madeCells #[.int .u32 0] q) 79)
      refine hK.out _ _ (fun _=>trivial) ?_
      generalize u51.alloc (.cells (madeCells #[.int .u32 0] q) 79)=u53 at *
      generalize u51.heap.size=g54 at *
      refine uW 7 fun K hK=>?_
      rw [if_pos (by kernel_rfl)]
      have osl:=Own.sl obs (Dig.cons HP.out.1 (Dig.nil _)) rfl
      refine wp_append_far (base:=W5.heap.size) (l0:=List.replicate q 0) (l:=[p]) (A:=some ⟨g52,0,none⟩) (A0:=some ⟨g54,0,none⟩) (n0:=q) (c0:=q) (m:=1) (c:=1) _ _ (by rfl) (by rfl) omk (by rfl) (fun h=>by cases h) osl HQ2.out KK.size ?_
      intro Aap cap u55 oap hbb hff hat
      have ltb:=Bx.lt bal
      have ltm:=(own_block omk rfl).2
      have hne:g44≠g54:=by omega
      have hap:∀ g',Aap=some ⟨g',0,none⟩→g'≠g44:=fun g' e e2=>by
       rcases hat g' e with h | h
       ·injection h with h;injection h with h _ _;exact hne (e2.symm.trans h.symm)
       ·omega
      replace bal:=Bx.same bal (hff g44 ltb (by intro e;injection e with e;injection e with e _ _;exact hne e.symm))
      replace hap:=Lib.hid hap
      clear ltb ltm hne
      replace KK:=KK.trans (hbb.mono (Nat.le_refl _))
      clear hbb hff hat omk obs osl
      refine hK.out _ _ (fun _=>trivial) ?_
      refine uW 8 fun K hK=>?_
      go_simp
      (with_reducible refine (laid_at false oap (by simp) HV.out.1 HV.out.2).mono ?_)
      rintro ex u56 ⟨rfl,ores,hbb⟩
      replace bal:=Bx.below bal hbb (Bx.lt bal)
      replace KK:=KK.trans (hbb.mono KK.size)
      clear hbb oap
      refine hK.out _ _ (fun _=>trivial) ?_
      refine uW 10 fun K hK=>?_
      obtain ⟨t0,t1,t2,t3⟩:=bal.facts
      go_simp
      refine hK.out _ _ (fun h=>absurd h (by simp)) ?_
      refine wpAnyW_done (by kernel_rfl) ?_ _
      go_wp2_with fail
      go_meet
      exact ⟨g44,Aap,cap,rfl,Bx.set bal _ _,(ores.far (p:=⟨g44,0,none⟩) hap.out _).far (p:=⟨g44,1,none⟩) hap.out _,(KK.setCell (by simpa using hwal) _).setCell (by simpa using hwal) _,hwal⟩
   obtain ⟨g8,A2,c2,rfl,hgx,hgo,hgb,hgw⟩:=hcut
   have hzc:=hgb.size
   have HVc:=Lib.hid (HV6.out.below hgb HV7.out)
   have HOc:=Lib.hid (HO6.out.below hgb (Nat.le_refl _))
   have HBc:=Lib.hid (hgb.mono (Nat.le_of_lt HV7.out))
   have HO:=Lib.hid (Own.int hgo)
   obtain ⟨v0,v1,v2,v3⟩:=HVc.out.facts
   obtain ⟨b0,b1,_,_⟩:=hgx.facts
   have hgc:g5<wc.heap.size:=Nat.lt_of_lt_of_le HV7.out hzc
   clear hgb hgx hgo hqI hrI hpI hpM hmk HQ HQ2 HP HV
   go_wp2_with fail
   (with_reducible refine (divide_any (Own.sl HOc.out (dig_digs (by decide) _) rfl) HO.out (by have:=HLa.out;omega) (Nat.le_refl _) (Nat.le_refl _) (by rw [HPV.out];exact Nat.ne_of_gt (Nat.two_pow_pos m))).mono ?_)
   rintro ex w6 ⟨A3,A5,n3,c3,n5,c5,o1,o2,rfl,hq1,hq2,hq3,hq4,hq5,hr1,hr2,hr3,hr4,hr5,-,hb6⟩
   rw [HPV.out,nv_digs (by decide)] at hq4 hr4
   rw [HVm.out] at hq4
   have hz6:=hb6.size
   have HZ1:=Lib.hid (show ival false o1=(V:Int) by unfold ival;rw [hq4];rfl)
   have HQ1:=Lib.hid (And.intro hq2 hq3)
   have HQo:=Lib.hid hq1
   have HR:=Lib.hid (Own.sl hr1 hr3 hr2)
   have HT2:=Lib.hid (show decide (0<tlen o2)=low by
    rw [←HLm.out,←hr4]
    refine decide_eq_decide.2 ?_
    have:=tlen_zero_iff (b:=W) (by decide) o2
    omega)
   have HVd6:=Lib.hid (HVc.out.below hb6 hgc)
   have HBd:=Lib.hid (HBc.out.trans (hb6.mono (Nat.le_of_lt hgc)))
   clear hq1 hq2 hq3 hq4 hq5 hr1 hr2 hr3 hr4 hr5 hb6 v0 v1 v2 v3 b0 b1
   obtain ⟨v0,v1,v2,v3⟩:=HVd6.out.facts
   go_wp2_with fail
   (with_reducible refine (laid_at false HQo.out HQ1.out.1 HQ1.out.2 HZ1.out).mono ?_)
   rintro ex w7 ⟨rfl,ho7,hb7⟩
   rw [decide_eq_false (show ¬(V:Int)<0 by omega),Int.natAbs_natCast,HL2.out]
   rw [Int.natAbs_natCast,HL2.out] at ho7
   have hz7:=hb7.size
   have HO7:=Lib.hid ho7
   have HT3:=Lib.hid (trim_any (SlU.to HR.out hb7 (Nat.le_refl _)))
   have HVe:=Lib.hid (HVd6.out.below hb7 (by omega))
   have HBe:=Lib.hid (HBd.out.trans (hb7.mono (by omega)))
   have hlo9:=HT2.out
   have hlo8:decide ((0:Int)<(tlen o2:Int))=low:=by rw [←hlo9];exact decide_eq_decide.2 (by omega)
   clear ho7 hb7 v0 v1 v2 v3
   obtain ⟨v0,v1,v2,v3⟩:=HVe.out.facts
   go_wp2_with fail
   refine (HT3.out).mono ?_
   rintro ex w8 ⟨rfl,rfl⟩
   go_wp2_with fail
   go_meet
   refine ⟨A3,c3,rfl,Bx.set HVe.out _ _,?_,(HBe.out.setCell (Nat.le_refl _) _).setCell (Nat.le_refl _) _⟩
   exact fin_sl HO7.out (by omega) HL2.out
  ·have hm0:¬(0:Int)<mm:=by have:=HMM.out;omega
   have hmd:decide ((0:Int)<mm)=false:=decide_eq_false hm0
   obtain ⟨k,hk⟩:∃ k:Nat,54 - b=k:=⟨_,rfl⟩
   have hmI : -mm=(k:Int):=by have:=HMM.out;omega
   have hmb : -54≤mm:=by have:=HMM.out;omega
   have hmb2:mm≤0:=by omega
   have HVm:=Lib.hid (show a * 2 ^ k=V by have h:=HVd.out;rw [flV,HAb.out.1,if_neg hc54,hk] at h;exact h)
   have hlow0:low=false:=by have h:=HLw.out;rw [flLow,HAb.out.1,decide_eq_false hc54,Bool.false_and] at h;exact h.symm
   subst hlow0
   have HSh:=Lib.hid (Shift_z (na:=false) (k:=(k:Int)) (x:=(a:Int)) (z:=(V:Int)) (Own.sl HO6.out (dig_digs (by decide) _) rfl) (by have h9:=digs_length_le (b:=W) (n:=a) (k:=2) (by decide) (Nat.lt_of_lt_of_le (lt_of_digs_length (b:=2) (k:=54) (by decide) (show (digs 2 a).length≤54 by have:=HAb.out.1;unfold blen at this;omega)) (by decide));omega) (by unfold ival;rw [nv_digs (by decide)];rfl) (by omega) (by rw [shZ_up,←HVm.out,Int.natCast_mul,two_pow_cast]) (by rw [tooLong,Int.natAbs_natCast,HAb.out.1];exact decide_eq_false (by omega)) (by rw [tooLong,Int.natAbs_natCast];exact decide_eq_false (by have:=blen_le_iff.2 (show V<2 ^ 54 from HVb.out.2);omega)))
   clear HMM hc54 hk hm0
   go_wp2_with fail
   (with_reducible refine HSh.out.mono ?_)
   rintro ex w7 ⟨v,rfl,⟨A7,c7,rfl,ho7⟩,hb7⟩
   rw [decide_eq_false (show ¬(V:Int)<0 by omega),Int.natAbs_natCast,HL2.out]
   rw [Int.natAbs_natCast,HL2.out] at ho7
   have HVe:=Lib.hid (HV6.out.below hb7 HV7.out)
   have HBe:=Lib.hid (hb7.mono (Nat.le_of_lt HV7.out))
   have HO7:=Lib.hid ho7
   clear ho7 hb7 v0 v1 v2 v3
   obtain ⟨v0,v1,v2,v3⟩:=HVe.out.facts
   go_wp2_with fail
   go_meet
   refine ⟨A7,c7,rfl,Bx.set HVe.out _ _,?_,(HBe.out.setCell (Nat.le_refl _) _).setCell (Nat.le_refl _) _⟩
   exact fin_sl HO7.out HV7.out HL2.out
 obtain ⟨A9,c9,rfl,hb9,hs9,hbw9⟩:=hcut
 obtain ⟨V0,hV0⟩:∃ v,V % 4294967296=v:=⟨_,rfl⟩
 obtain ⟨V1,hV1⟩:∃ v,V / 4294967296=v:=⟨_,rfl⟩
 have hVlt:=HVb.out.2
 have hVge:=HVb.out.1
 have hdg:digs W V = [V0,V1]:=by
  have hW:W=4294967296:=rfl
  rw [digs_pos (by decide) (by omega),digs_pos (by decide) (by rw [hW];omega),show V / W / W=0 by rw [hW];omega,digs_zero,show V % W=V0 from hV0,show V / W % W=V1 by rw [hW];omega]
 rw [hdg] at hs9
 obtain ⟨gA,oA,rfl,_,hcA⟩:=SlU.at_ hs9 (by decide)
 have hc0:wc.cell? ⟨gA,oA,none⟩=some (.int .u32 (V0:Int)):=hcA 0 (by decide)
 have hc1:wc.cell? ⟨gA,oA+1,none⟩=some (.int .u32 (V1:Int)):=hcA 1 (by decide)
 have hcap:=hs9.cap
 obtain ⟨v0,v1,_,_⟩:=hb9.facts
 have hx9:=H17.out.below hbw9 hlt6
 obtain ⟨a0,a1,_,_⟩:=hx9.facts
 have HB9:=Lib.hid (H37.out.trans (hbw9.mono HG5.out))
 have hor:bits .or .u64 (V0:Int) ((V1:Int) * 4294967296)=(V:Int):=by
  have h:=bits_or_u64 V0 (V1 * 4294967296) (by omega) (by omega)
  rw [show V1 * 4294967296=V1 * 2 ^ 32 from rfl,or_high V1 (show V0<2 ^ 32 by omega)] at h
  rw [show (V1:Int) * 4294967296=((V1 * 2 ^ 32:Nat):Int) by rw [Int.natCast_mul];rfl,h]
  congr 1
  omega
 obtain ⟨h0,hh0⟩:∃ h,V % 2=h:=⟨_,rfl⟩
 obtain ⟨d0,hd0⟩:∃ h,V / 2=h:=⟨_,rfl⟩
 obtain ⟨e0,he0⟩:∃ h,d0 % 2=h:=⟨_,rfl⟩
 have hba:bits .and .u64 (V:Int) 1=(h0:Int):=by
  have h:=bits_and_u64 V (2 ^ 1 - 1) (by omega) (by decide)
  rw [and_low,show V % 2 ^ 1=h0 from hh0] at h
  exact h
 have hbd:bits .and .u64 (d0:Int) 1=(e0:Int):=by
  have h:=bits_and_u64 d0 (2 ^ 1 - 1) (by omega) (by decide)
  rw [and_low,show d0 % 2 ^ 1=e0 from he0] at h
  exact h
 have hVd2:(V:Int) / 2=(d0:Int):=by omega
 have hV0I:(V0:Int)<4294967296:=by omega
 have hV1I:(V1:Int)<4194304:=by omega
 have hV0J:(0:Int)≤(V0:Int):=by omega
 have hV1J:(0:Int)≤(V1:Int):=by omega
 have hVI:(V:Int)<18014398509481984:=by omega
 have hVJ:(0:Int)≤(V:Int):=by omega
 have hd0I:(d0:Int)≤9007199254740991:=by omega
 have hd0J:(0:Int)≤(d0:Int):=by omega
 have HHH:=Lib.hid (And.intro hh0 (And.intro hd0 he0))
 clear hs9 hcA hdg hb9 hbw9 hx9 hV0 hV1 hVlt hVge hh0 hd0 he0
 obtain ⟨p1,hp1⟩:∃ p:Bool,((h0:Int)==1)=p:=⟨_,rfl⟩
 obtain ⟨p2,hp2⟩:∃ p:Bool,((e0:Int)==1)=p:=⟨_,rfl⟩
 have HUP:=Lib.hid (show up=(p1 && (low || p2)) by
  rw [←HUp.out,flUp,HVd.out,HLw.out,←hp1,←hp2,HHH.out.1,HHH.out.2.1,HHH.out.2.2]
  have x1:((h0:Int)==1)=decide (h0=1):=by rw [Bool.eq_iff_iff];simp;omega
  have x2:((e0:Int)==1)=decide (e0=1):=by rw [Bool.eq_iff_iff];simp;omega
  rw [x1,x2])
 obtain ⟨t,ht⟩:∃ t,flTop a=t:=⟨_,rfl⟩
 have HTt:=Lib.hid (show d0+up.toNat=t by rw [←ht,flTop,HVd.out,HUp.out,HHH.out.2.1])
 have htb:=HTp.out
 rw [ht] at htb
 have HBX:=Lib.hid (show (b+1021) * 4503599627370496+t=X by have h:=HX.out;rw [flBits,HAb.out.1,ht] at h;exact h)
 clear ht
 obtain ⟨wq,hwq⟩:∃ q:World,q=wc:=⟨_,rfl⟩
 subst hwq
 go_wp2
 go_quiet (fail)
 go_upto_region 19 with fail
 go_cut [90] (fun s90 wx=>s90 = .bool up∧Dr wq wx)
 case first=>
  cases p1 <;> cases low <;> cases p2
  all_goals
   go_wp2_with fail
   go_meet
   exact ⟨by rw [HUP.out];rfl,⟨_,rfl⟩⟩
 obtain ⟨rfl,hwd⟩:=hcut
 have HWD:=Lib.hid hwd
 clear hwd hp1 hp2
 go_upto_if 90 with fail
 go_cut [11] (fun s11 wx=>s11 = .int .u64 (t:Int)∧Dr wq wx)
 case first=>
  cases up
  ·have h1:(t:Int)=(d0:Int):=by have:=HTt.out;simp at this;omega
   have H1t:=Lib.hid h1
   clear h1
   go_wp2_with fail
   go_meet
   exact ⟨by rw [H1t.out],HWD.out⟩
  ·have h1:(t:Int)=(d0:Int)+1:=by have:=HTt.out;simp at this;omega
   have H1t:=Lib.hid h1
   clear h1
   go_wp2_with fail
   go_meet
   exact ⟨by rw [H1t.out],HWD.out⟩
 obtain ⟨rfl,hwd2⟩:=hcut
 have HDr:=Lib.hid hwd2
 have a2:=(hwd2.cell _).trans a0
 have HB10:=Lib.hid (HB9.out.trans (hwd2.below w.heap.size))
 clear hwd2 HWD a0 a1 v0 v1 hc0 hc1 hor hba hbd hVd2 hV0I hV1I hV0J hV1J hVI hVJ hd0I hd0J
 obtain ⟨k,hk⟩:∃ k,b - 1=k:=⟨_,rfl⟩
 obtain ⟨kk,hkk⟩:∃ kk:Int,(b:Int) - 53=kk:=⟨_,rfl⟩
 have hfl:floatOfInt FloatKind.f64 (t:Int)=4836865999795912704+t:=float_of_top htb.1 htb.2
 obtain ⟨F,hF⟩:∃ F,4836865999795912704+t=F:=⟨_,rfl⟩
 rw [hF] at hfl
 have HLd:=Lib.hid (fun w1=>show Calls Tryz.prog 206 #[.float .f64 F,.int .i64 kk] w1 (fun e w'=>e = .returned (.float .f64 X)∧w1=w') from by
  have h:=Ldexp_any t htb.1 htb.2 k (by omega) w1
  rw [hF,show (k:Int) - 52=kk by omega,show k+1022=b+1021 by omega,HBX.out] at h
  exact h)
 obtain ⟨iv,hiv⟩:∃ iv:Bool,decide (X=9218868437227405312)=iv:=⟨_,rfl⟩
 have HIv:=Lib.hid hiv
 have HIs:=Lib.hid (fun w1=>IsInf_any X HXl.out hiv w1)
 have HXp:=Lib.hid (show 4503599627370496≤X by have h:=HBX.out;omega)
 clear hk htb hF hiv HTt
 go_wp2_with fail
 (with_reducible refine (HLd.out _).mono ?_)
 rintro ex w5 ⟨rfl,rfl⟩
 go_wp2_with fail
 (with_reducible refine (HIs.out _).mono ?_)
 rintro ex w5 ⟨rfl,rfl⟩
 have HFX:=Lib.hid (show (if X=9218868437227405312 then 0 else X+(if neg then 9223372036854775808 else 0))=fb∧(if X=9218868437227405312 then 14 else 0:Int)=co by
  have h1:=HFb.out.1
  have h2:=HFb.out.2.1
  rw [HX.out] at h1 h2
  exact ⟨h1,h2⟩)
 cases iv
 ·have hx9:¬X=9218868437227405312:=of_decide_eq_false HIv.out
  cases neg
  ·have HR:=Lib.hid (show X=fb∧0=co by have h:=HFX.out;rw [if_neg hx9,if_neg hx9,if_neg (by simp)] at h;exact h)
   have hbt:=run_bits X
   clear hx9
   go_wp2_with fail
   exact bodyPost_ret (v:=.tuple #[.int .u64 (X:Int),.int .i64 0]) (by simp [results,Tryz.results164,go_sem]) rfl ⟨by rw [←HR.out.1,←HR.out.2],HB10.out⟩
  ·have HR:=Lib.hid (show X+9223372036854775808=fb∧0=co by have h:=HFX.out;rw [if_neg hx9,if_neg hx9,if_pos rfl] at h;exact h)
   have hbt:=run_bits (X+9223372036854775808)
   have hng:=run_negF (X:=X) (by have:=HXl.out;omega)
   clear hx9
   go_wp2_with fail
   exact bodyPost_ret (v:=.tuple #[.int .u64 ((X+9223372036854775808:Nat):Int),.int .i64 0]) (by simp [results,Tryz.results164,go_sem]) rfl ⟨by rw [←HR.out.1,←HR.out.2],HB10.out⟩
 ·have hx9:X=9218868437227405312:=of_decide_eq_true HIv.out
  have HR:=Lib.hid (show 0=fb∧14=co by have h:=HFX.out;rw [if_pos hx9,if_pos hx9] at h;exact h)
  clear hx9
  go_wp2_with fail
  exact bodyPost_ret (v:=.tuple #[.int .u64 0,.int .i64 14]) (by simp [results,Tryz.results164,go_sem]) rfl ⟨by rw [←HR.out.1,←HR.out.2];rfl,HB10.out⟩
def OfPost (w:World) (e:Ending) (w':World) (k:Int):Prop:=e = .returned (.tuple #[zeroV,.int .i64 k])∧Below w.heap.size w w'
set_option maxRecDepth 100000 in
set_option maxHeartbeats 8000000 in
theorem OfFloat_nought (f:Nat) (hf:f<18446744073709551616) {w:World} {ex:Nat} (he:f / 4503599627370496 % 2048=ex) (hx:ex<1012) :
  Calls Tryz.prog 65 #[.int .u64 (f:Int)] w (fun e w'=>OfPost w e w' 0):=by
 obtain ⟨q,hq⟩:∃ q,f / 4503599627370496=q:=⟨_,rfl⟩
 have hq1:q<4096:=by omega
 have hqI:(f:Int) / 4503599627370496=(q:Int):=by omega
 obtain ⟨E,hE⟩:∃ E:Int,(ex:Int)=E:=⟨_,rfl⟩
 have hba:bits .and .u64 (q:Int) 2047=E:=by
  rw [←hE]
  have h:=bits_and_u64 q (2 ^ 11 - 1) (by omega) (by decide)
  rw [and_low,show q % 2 ^ 11=ex by rw [←hq];exact he] at h
  exact h
 have hf0:(0:Int)≤(f:Int):=by omega
 have hq1I:(q:Int)<4096:=by omega
 have hxI:E<1012:=by omega
 have hx0:(0:Int)≤E:=by omega
 have d1:(E==2047)=false:=beq_eq_false_iff_ne.2 (by omega)
 have d3:decide (E - 1075 < -63)=true:=decide_eq_true (by omega)
 obtain ⟨b2,d2⟩:∃ b,decide (0<E)=b:=⟨_,rfl⟩
 clear he hq hf hx hE
 cases b2
 all_goals
  go_enter Tryz.func65,Tryz.ntmps65
  go_wp2
  exact bodyPost_ret (v:=.tuple #[.agg #[.bool false,.slice none 0 0],.int .i64 0]) (by simp [results,Tryz.results65,go_sem]) rfl ⟨rfl,(Below.refl _ _).alloc (Nat.le_refl _) _⟩
set_option maxRecDepth 100000 in
set_option maxHeartbeats 8000000 in
theorem OfFloat_main (f:Nat) (hf:f<18446744073709551616) {w:World} {ex:Nat} (he:f / 4503599627370496 % 2048=ex) (hx1:1012≤ex) (hx2:ex<2047) {z:Int} (hz:ofZ f=z) :
  Calls Tryz.prog 65 #[.int .u64 (f:Int)] w (PostR w z 0):=by
 obtain ⟨q,hq⟩:∃ q,f / 4503599627370496=q:=⟨_,rfl⟩
 obtain ⟨m,hm⟩:∃ q,f % 4503599627370496=q:=⟨_,rfl⟩
 obtain ⟨M,hM⟩:∃ M,4503599627370496+m=M:=⟨_,rfl⟩
 obtain ⟨sb,hsb⟩:∃ q,f / 9223372036854775808=q:=⟨_,rfl⟩
 have hq1:q<4096:=by omega
 have hqI:(f:Int) / 4503599627370496=(q:Int):=by omega
 have hsI:(f:Int) / 9223372036854775808=(sb:Int):=by omega
 obtain ⟨s,hs⟩:∃ s:Bool,((sb:Int)==1)=s:=⟨_,rfl⟩
 obtain ⟨E,hE⟩:∃ E:Int,(ex:Int)=E:=⟨_,rfl⟩
 have hba:bits .and .u64 (q:Int) 2047=E:=by
  rw [←hE]
  have h:=bits_and_u64 q (2 ^ 11 - 1) (by omega) (by decide)
  rw [and_low,show q % 2 ^ 11=ex by rw [←hq];exact he] at h
  exact h
 have hbm:bits .and .u64 (f:Int) 4503599627370495=(m:Int):=by
  have h:=bits_and_u64 f (2 ^ 52 - 1) hf (by decide)
  rw [and_low,show f % 2 ^ 52=m from hm] at h
  exact h
 have hbo:bits .or .u64 (m:Int) 4503599627370496=(M:Int):=by
  have h:=bits_or_u64 m (1 * 2 ^ 52) (by omega) (by decide)
  rw [or_high 1 (show m<2 ^ 52 by omega)] at h
  rw [show (M:Int)=((m+1 * 2 ^ 52:Nat):Int) by omega]
  exact h
 have hf0:(0:Int)≤(f:Int):=by omega
 have hq1I:(q:Int)<4096:=by omega
 have hxI:E<2047:=by omega
 have hx0:1012≤E:=by omega
 have hM0:(0:Int)≤(M:Int):=by omega
 have hM9:(M:Int)<9007199254740992:=by omega
 have hm0:(0:Int)≤(m:Int):=by omega
 have d1:(E==2047)=false:=beq_eq_false_iff_ne.2 (by omega)
 have d2:decide (0<E)=true:=decide_eq_true (by omega)
 have d3:decide (E - 1075 < -63)=false:=decide_eq_false (by omega)
 have HZ:=Lib.hid hz
 have HSI:=Lib.hid hsI
 clear hsI
 have HB1:=Lib.hid ((Below.refl w.heap.size w).alloc (Nat.le_refl _) (.cells #[.bool false,.slice none 0 0] 39))
 have hs0:s=decide (sb=1):=by rw [←hs,Bool.eq_iff_iff];simp;omega
 have HSG:=Lib.hid (show s=decide (9223372036854775808≤f) by rw [hs0];exact decide_eq_decide.2 (by omega))
 by_cases h75:ex<1075
 ·have d4:decide (E - 1075<0)=true:=decide_eq_true (by omega)
  obtain ⟨k,hk⟩:∃ k,1075 - ex=k:=⟨_,rfl⟩
  obtain ⟨V,hV⟩:∃ V,M / 2 ^ k=V:=⟨_,rfl⟩
  have hVM:V≤M:=by rw [←hV];exact Nat.div_le_self _ _
  have hsh:(Op.shift .shr .u64 (M:Int) .i64 (-(E - 1075)))=pure (.int .u64 (V:Int)):=by
   rw [show -(E - 1075)=(k:Int) by omega,shift_shr _ _ _ _ (by omega) (show (k:Int)≤64 by omega),Int.toNat_natCast,←hV,Int.natCast_ediv,Int.natCast_pow]
   rfl
  have HN:=Lib.hid (show ofN f=V by rw [ofN,if_neg (by omega),if_neg (by omega),he,hm,hM,hk,hV])
  have hV9:(V:Int)<9007199254740992:=by omega
  have hV0:(0:Int)≤(V:Int):=by omega
  obtain ⟨v0,hv0⟩:∃ v,V % 4294967296=v:=⟨_,rfl⟩
  obtain ⟨v1,hv1⟩:∃ v,V / 4294967296=v:=⟨_,rfl⟩
  have hV0e:(V:Int) % 4294967296=(v0:Int):=by omega
  have hV1e:(V:Int) / 4294967296=(v1:Int):=by omega
  have HDg:=Lib.hid (dig_two (a:=v0) (b:=v1) (by omega) (by omega))
  obtain ⟨y,hy⟩:∃ y:Int,(if s then -(V:Int) else (V:Int))=y:=⟨_,rfl⟩
  have HY:=Lib.hid (show ival s [v0,v1]=y by
   rw [←hy,←hv0,←hv1]
   exact ival_two s)
  have ty:tooLong y=false:=tooLong_blen (k:=53) (blen_le_iff.2 (by rw [←hy];split <;> omega)) (by decide)
  have HTy:=Lib.hid ty
  have hzy:y=z:=by
   rw [←hz,ofZ,HN.out,←hy,HSG.out]
   by_cases h9:f<9223372036854775808
   ·rw [if_pos h9,if_neg (by simp;omega)]
   ·rw [if_neg h9,if_pos (by simp;omega)]
  have tz:tooLong z=false:=by rw [←hzy];exact ty
  have HSZ:=Lib.hid (show shZ y 0=z by rw [shZ_zero];exact hzy)
  have HK:=Lib.hid (show (-9223372036854775808:Int)≤0 by decide)
  have HTz:=Lib.hid tz
  clear he hq hf hm hM hsb hz h75 hx1 hx2 hE hs0 hv0 hv1 hy ty tz hzy hk hV hVM
  go_enter Tryz.func65,Tryz.ntmps65
  go_upto_region 12 with fail
  have HX:=Lib.hid (Bx.new w (.bool false) (.slice none 0 0))
  have hz1:w.heap.size<(w.alloc (.cells #[.bool false,.slice none 0 0] 39)).heap.size:=by simp
  generalize w.alloc (.cells #[.bool false,.slice none 0 0] 39)=W1 at *
  have hsI:=HSI.out
  go_wp2_with fail
  (with_reducible refine (laid_at s (own_two W1 v0 v1 rfl (Nat.le_refl _)) rfl HDg.out HY.out).mono ?_)
  rintro ex w3 ⟨rfl,ho3,hb3⟩
  have hz3:=hb3.size
  simp only [World.size_alloc] at hz3
  have HB3:=Lib.hid ((HB1.out.alloc HB1.out.size (.cells #[.int .u32 (v0:Int),.int .u32 (v1:Int)] 79)).trans (hb3.mono (by simp;omega)))
  have HX3:=Lib.hid ((HX.out.alloc (.cells #[.int .u32 (v0:Int),.int .u32 (v1:Int)] 79)).below hb3 (by simp;omega))
  have HO3:=Lib.hid (Own.sl ho3 (dig_digs (by decide) _) rfl)
  clear ho3 hb3
  go_wp2_with fail
  (with_reducible refine (Shift_z (k:=0) (x:=y) (z:=z) HO3.out (Nat.le_trans (not_too_len HTy.out) (by decide)) (ival_digs y) HK.out HSZ.out HTy.out HTz.out).mono ?_)
  rintro ex w4 ⟨v,rfl,⟨A4,c4,rfl,ho4⟩,hb4⟩
  have hz4:=hb4.size
  have HX4:=Lib.hid ((HX3.out.below hb4 (by omega)).alloc (.cells #[.bool (decide (z<0)),.slice A4 (digs W z.natAbs).length c4] 39))
  have HB4:=Lib.hid ((HB3.out.trans (hb4.mono HB3.out.size)).alloc (by omega) (.cells #[.bool (decide (z<0)),.slice A4 (digs W z.natAbs).length c4] 39))
  have HO4:=Lib.hid (Own.alloc ho4 (.cells #[.bool (decide (z<0)),.slice A4 (digs W z.natAbs).length c4] 39))
  clear ho4 hb4 hsI
  obtain ⟨r0,r1,r2,r3⟩:=HX4.out.facts
  have hg3:w.heap.size<w3.heap.size:=by omega
  have hr:=Lib.hid (ResI.stored (w:=w) (g:=w.heap.size) (u:=.bool (decide (z<0))) (u':=.slice A4 (digs W z.natAbs).length c4) ⟨A4,c4,rfl,HO4.out⟩ HB4.out hg3 (Nat.le_refl _))
  go_wp2
  exact bodyPost_ret (v:=.tuple #[.agg #[.bool (decide (z<0)),.slice A4 (digs W z.natAbs).length c4],.int .i64 0]) (by simp [results,Tryz.results65,go_sem,r0,r1]) rfl ⟨_,rfl,hr.out.1,hr.out.2⟩
 ·have d4:decide (E - 1075<0)=false:=decide_eq_false (by omega)
  obtain ⟨k,hk⟩:∃ k,ex - 1075=k:=⟨_,rfl⟩
  have HN:=Lib.hid (show ofN f=M * 2 ^ k by rw [ofN,if_neg (by omega),if_pos (by omega),he,hm,hM,hk])
  obtain ⟨v0,hv0⟩:∃ v,M % 4294967296=v:=⟨_,rfl⟩
  obtain ⟨v1,hv1⟩:∃ v,M / 4294967296=v:=⟨_,rfl⟩
  have hV0e:(M:Int) % 4294967296=(v0:Int):=by omega
  have hV1e:(M:Int) / 4294967296=(v1:Int):=by omega
  have HDg:=Lib.hid (dig_two (a:=v0) (b:=v1) (by omega) (by omega))
  obtain ⟨y,hy⟩:∃ y:Int,(if s then -(M:Int) else (M:Int))=y:=⟨_,rfl⟩
  have HY:=Lib.hid (show ival s [v0,v1]=y by
   rw [←hy,←hv0,←hv1]
   exact ival_two s)
  have ty:tooLong y=false:=tooLong_blen (k:=53) (blen_le_iff.2 (by rw [←hy];split <;> omega)) (by decide)
  have HTy:=Lib.hid ty
  have hzy:shZ y (E - 1075)=z:=by
   rw [←hE,show (ex:Int) - 1075=(k:Int) by omega,shZ_up,←hz,ofZ,HN.out,←hy,HSG.out]
   by_cases h9:f<9223372036854775808
   ·rw [if_pos h9,if_neg (by simp;omega),Int.natCast_mul,Int.natCast_pow];rfl
   ·rw [if_neg h9,if_pos (by simp;omega),Int.natCast_mul,Int.natCast_pow,Int.neg_mul];rfl
  have tz:tooLong z=false:=by
   refine tooLong_blen (k:=53+k) ?_ (by omega)
   have e:z.natAbs=M * 2 ^ k:=by rw [←hz,ofZ,HN.out];split <;> omega
   rw [e]
   refine blen_le_iff.2 ?_
   rw [Nat.pow_add]
   exact Nat.mul_lt_mul_of_pos_right (show M<2 ^ 53 by omega) (Nat.two_pow_pos _)
  have HSZ:=Lib.hid hzy
  have HK:=Lib.hid (show (-9223372036854775808:Int)≤E - 1075 by omega)
  have HTz:=Lib.hid tz
  clear he hq hf hm hM hsb hz h75 hx1 hx2 hE hs0 hv0 hv1 hy ty tz hzy hk
  go_enter Tryz.func65,Tryz.ntmps65
  go_upto_region 12 with fail
  have HX:=Lib.hid (Bx.new w (.bool false) (.slice none 0 0))
  have hz1:w.heap.size<(w.alloc (.cells #[.bool false,.slice none 0 0] 39)).heap.size:=by simp
  generalize w.alloc (.cells #[.bool false,.slice none 0 0] 39)=W1 at *
  have hsI:=HSI.out
  go_wp2_with fail
  (with_reducible refine (laid_at s (own_two W1 v0 v1 rfl (Nat.le_refl _)) rfl HDg.out HY.out).mono ?_)
  rintro ex w3 ⟨rfl,ho3,hb3⟩
  have hz3:=hb3.size
  simp only [World.size_alloc] at hz3
  have HB3:=Lib.hid ((HB1.out.alloc HB1.out.size (.cells #[.int .u32 (v0:Int),.int .u32 (v1:Int)] 79)).trans (hb3.mono (by simp;omega)))
  have HX3:=Lib.hid ((HX.out.alloc (.cells #[.int .u32 (v0:Int),.int .u32 (v1:Int)] 79)).below hb3 (by simp;omega))
  have HO3:=Lib.hid (Own.sl ho3 (dig_digs (by decide) _) rfl)
  clear ho3 hb3
  go_wp2_with fail
  (with_reducible refine (Shift_z (k:=E - 1075) (x:=y) (z:=z) HO3.out (Nat.le_trans (not_too_len HTy.out) (by decide)) (ival_digs y) HK.out HSZ.out HTy.out HTz.out).mono ?_)
  rintro ex w4 ⟨v,rfl,⟨A4,c4,rfl,ho4⟩,hb4⟩
  have hz4:=hb4.size
  have HX4:=Lib.hid ((HX3.out.below hb4 (by omega)).alloc (.cells #[.bool (decide (z<0)),.slice A4 (digs W z.natAbs).length c4] 39))
  have HB4:=Lib.hid ((HB3.out.trans (hb4.mono HB3.out.size)).alloc (by omega) (.cells #[.bool (decide (z<0)),.slice A4 (digs W z.natAbs).length c4] 39))
  have HO4:=Lib.hid (Own.alloc ho4 (.cells #[.bool (decide (z<0)),.slice A4 (digs W z.natAbs).length c4] 39))
  clear ho4 hb4 hsI
  obtain ⟨r0,r1,r2,r3⟩:=HX4.out.facts
  have hg3:w.heap.size<w3.heap.size:=by omega
  have hr:=Lib.hid (ResI.stored (w:=w) (g:=w.heap.size) (u:=.bool (decide (z<0))) (u':=.slice A4 (digs W z.natAbs).length c4) ⟨A4,c4,rfl,HO4.out⟩ HB4.out hg3 (Nat.le_refl _))
  go_wp2
  exact bodyPost_ret (v:=.tuple #[.agg #[.bool (decide (z<0)),.slice A4 (digs W z.natAbs).length c4],.int .i64 0]) (by simp [results,Tryz.results65,go_sem,r0,r1]) rfl ⟨_,rfl,hr.out.1,hr.out.2⟩
theorem ival_neg_iff {neg:Bool} {l:List Nat} (h:nv W l≠0):(ival neg l<0)↔neg=true:=by
 unfold ival
 generalize nv W l=a at *
 cases neg
 ·rw [if_neg (by simp)]
  exact ⟨fun h9=>by omega,fun h9=>by cases h9⟩
 ·rw [if_pos rfl]
  exact ⟨fun _=>rfl,fun _=>by omega⟩
theorem tf_parts {neg:Bool} {l:List Nat} {x:Int} (hx:ival neg l=x) (hl:lng l=false) (h0:nv W l≠0) (hg:¬1024<blen (nv W l)) {X:Nat} (hX:flBits (nv W l)=X) {I:Nat} (hI:9218868437227405312=I) :
  (if X=I then 0 else X+(if neg then 9223372036854775808 else 0))=tfB x∧(if X=I then 14 else 0:Int)=tfC x:=by
 have hlx:=lng_ival hx
 have hab:x.natAbs=nv W l:=by rw [←hx,ival_natAbs]
 have hsg:=ival_neg_iff (neg:=neg) h0
 rw [hx] at hsg
 have hi:flInf (nv W l)=decide (X=I):=by rw [←hX,←hI];unfold flInf flBits;rw [decide_eq_false hg,Bool.false_or]
 have hx0:¬x=0:=by omega
 unfold tfB tfC
 rw [←hlx,hl,hab,hi,hX]
 simp only [Bool.false_eq_true,if_false,if_neg hx0,decide_eq_true_eq]
 refine ⟨?_,trivial⟩
 by_cases h9:X=I
 ·rw [if_pos h9,if_pos h9]
 ·rw [if_neg h9,if_neg h9]
  cases neg
  ·rw [if_neg (by simp),if_neg (fun h8=>by have:=hsg.1 h8;cases this)]
  ·rw [if_pos rfl,if_pos (hsg.2 rfl)]
theorem tf_long {neg:Bool} {l:List Nat} {x:Int} (hx:ival neg l=x) (hl:lng l=true):tfB x=0∧tfC x=10:=by
 unfold tfB tfC
 rw [←lng_ival hx,hl]
 exact ⟨rfl,rfl⟩
theorem tf_nought {neg:Bool} {l:List Nat} {x:Int} (hx:ival neg l=x) (h0:nv W l=0):tfB x=0∧tfC x=0:=by
 have hab:x.natAbs=nv W l:=by rw [←hx,ival_natAbs]
 have hx0:x=0:=by omega
 subst hx0
 refine ⟨tfB_zero,?_⟩
 unfold tfC
 rw [show Int.natAbs 0=0 from rfl,flInf_zero,show tooLong 0=false from tooLong_lt 0 (by decide) (by decide)]
 rfl
theorem tf_great {neg:Bool} {l:List Nat} {x:Int} (hx:ival neg l=x) (hl:lng l=false) (hg:1024<blen (nv W l)):tfB x=0∧tfC x=14:=by
 have hab:x.natAbs=nv W l:=by rw [←hx,ival_natAbs]
 have hi:flInf (nv W l)=true:=by unfold flInf;rw [decide_eq_true hg,Bool.true_or]
 unfold tfB tfC
 rw [←lng_ival hx,hl,hab,hi]
 simp
theorem ToFloat_any (neg:Bool) {A:Option Addr} {l:List Nat} {n c:Nat} {w:World} (hs:SlU w w.heap.size A n c l) (hn:n≤67108000) {x:Int} (hx:ival neg l=x) {F:Nat} {co:Int} (hF:tfB x=F) (hco:tfC x=co) :
  Calls Tryz.prog 164 #[.agg #[.bool neg,.slice A n c]] w (TfPost w F co):=by
 subst hF hco
 cases hl:lng l
 ·by_cases hz:nv W l=0
  ·obtain ⟨e1,e2⟩:=tf_nought hx hz
   rw [e1,e2]
   exact ToFloat_nought neg hs hn (Nat.le_refl _) hl (by rw [hz,blen_zero])
  ·by_cases hg:1024<blen (nv W l)
   ·obtain ⟨e1,e2⟩:=tf_great hx hl hg
    rw [e1,e2]
    exact ToFloat_great neg hs hn (Nat.le_refl _) hl hg
   ·obtain ⟨e1,e2⟩:=tf_parts hx hl hz hg rfl rfl
    exact ToFloat_main neg hs hn (Nat.le_refl _) hl ⟨blen_pos hz,by omega⟩ e1 e2
 ·obtain ⟨e1,e2⟩:=tf_long hx hl
  rw [e1,e2]
  exact ToFloat_long neg hs hn (Nat.le_refl _) hl
section
end
theorem resI_nought (w:World) (B:Nat):ResI w B zeroV 0:=⟨none,0,by rw [show (digs W (Int.natAbs 0)).length=0 by rw [show Int.natAbs 0=0 from rfl,digs_zero];rfl];rfl,by rw [show Int.natAbs 0=0 from rfl,digs_zero];exact ⟨rfl,.inl ⟨rfl,rfl⟩⟩⟩
theorem OfFloat_z {F:Nat} {z:Int} (w:World) (hF:F<18446744073709551616∧F / 4503599627370496 % 2048≠2047) (hz:ofZ F=z) :
  Calls Tryz.prog 65 #[.int .u64 (F:Int)] w (PostR w z 0):=by
 by_cases h:F / 4503599627370496 % 2048<1012
 ·have h0:ofN F=0:=by
   unfold ofN
   split
   ·rfl
   ·rw [if_neg (by omega)]
    refine Nat.div_eq_of_lt ?_
    refine Nat.lt_of_lt_of_le (m:=2 ^ 64) (by omega) (Nat.pow_le_pow_right (by decide) (by omega))
  have hz0:z=0:=by rw [←hz,ofZ,h0];split <;> rfl
  subst hz0
  exact (OfFloat_nought F hF.1 rfl h).mono fun e w' ⟨he,hb⟩=>⟨zeroV,he,resI_nought _ _,hb⟩
 ·exact OfFloat_main F hF.1 rfl (by omega) (by omega) hz
section
end
section
end
section
end
end
end Go.Proofs.YtjpnmmjgdiiahaaGreatDoor
