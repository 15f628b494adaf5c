import Derived.Test.YtpikjceodmepiaaGreatDoorV1
import Derived.Test.YtpikjceodmepiaaGreatDoorV8
import Derived.Test.YtpikjceodmepiaaGreatDoorV0
set_option maxRecDepth 1000000
set_option maxHeartbeats 64000000
set_option linter.unusedVariables false
set_option linter.unusedSimpArgs false
namespace Go.Proofs.YtpikjceodmepiaaGreatDoor
open Go.RowKit Hb Hf
attribute [local go_sem ↓] Go.wp_at_zero Go.wp_at_succ
def sz2:Ed→Nat
 | .num z=>(digs 2 z.natAbs).length
 | _=>0
def Bn2 (M:Nat) (L:List R):Prop:=∀ r∈L,sz2 r.1≤M∧sz2 r.2≤M
theorem len2_up {z:Int} {M:Nat} (d:Int) (hd:d.natAbs≤1) (h:(digs 2 z.natAbs).length≤M):(digs 2 (z+d).natAbs).length≤M+1:=by
 have a:=lt_of_digs_length (b:=2) (by decide) h
 refine digs_length_le (by decide) ?_
 rw [Nat.pow_succ]
 have c:(z+d).natAbs≤z.natAbs+d.natAbs:=Int.natAbs_add_le z d
 have e:0<2 ^ M:=Nat.pow_pos (by decide)
 omega
theorem rsum_dd {w:World} {B B' c c':Nat} {A A':Option Addr} {x y z:Int} (hs:SlI w B A (digs 2 x.natAbs).length c (digs 2 x.natAbs)) (ht:SlI w B' A' (digs 2 y.natAbs).length c' (digs 2 y.natAbs)) (hn:(digs 2 x.natAbs).length≤2000000000) (hn':(digs 2 y.natAbs).length≤2000000000) (hB:B≤w.heap.size) (hB':B'≤w.heap.size) (hz:x+y=z) :
  Calls Tryz.prog 99 #[.agg #[.bool (decide (x<0)),.slice A (digs 2 x.natAbs).length c],.agg #[.bool (decide (y<0)),.slice A' (digs 2 y.natAbs).length c']] w (PostB w z):=
 rsum_any hs ht (by omega) (by omega) hB hB' (nrm_digs (by decide) _) (nrm_digs (by decide) _) (bval_digs x) (bval_digs y) hz
theorem ResB.at_ {w:World} {B:Nat} {v:Value} {z:Int} (h:ResB w B v z):∃ A c,v = .agg #[.bool (decide (z<0)),.slice A (digs 2 z.natAbs).length c]∧Bg.At w (Fr B w) ⟨z,A,c⟩:=by
 obtain ⟨A,c,hv,ho⟩:=h
 exact ⟨A,c,hv,LimB.of_own ho (dig_digs (by decide) _)⟩
theorem wp_region_HS {P:Program} {ops:Array Oper} {Q:Exit→Act→World→Prop} {id:Nat} {a:Act} {w:World} (S:World→Prop) (hm:P.follows .mixedOrders=true)
  (h:∀ z,Below w.heap.size w z→z.heap.size=w.heap.size→wpAnyH P .any ops Q S ops.size (Array.replicate ops.size false) a z):(Code.region id ops true).wp P Q a w:=
 wp_region_any hm (wpAny_of_held _ _ _ _ (h w.drew (Below.refl _ _).drew rfl))
structure TL (w:World) (P:Nat→Prop) (B:Nat) (M:Nat) (zs:List Int) (A:Option Addr) (m c:Nat) (bs:List Bg) (wr:World):Prop where
 bel:Below B w wr
 le:B≤wr.heap.size
 row:BRow wr B (Or P B wr) A m c bs
 val:bs.map Bg.z=zs
 sz:∀ b∈bs,b.n≤M+1
theorem TL.below {w wr w':World} {P:Nat→Prop} {B M m c:Nat} {zs:List Int} {A:Option Addr} {bs:List Bg} (h:TL w P B M zs A m c bs wr) (hP:∀ b,P b→b<B) (hb:Below wr.heap.size wr w'):TL w P B M zs A m c bs w':=
 ⟨h.bel.trans (hb.mono h.le),Nat.le_trans h.le hb.size,h.row.up h.le hP hb,h.val,h.sz⟩
theorem TL.len {w wr:World} {P:Nat→Prop} {B M m c:Nat} {zs:List Int} {A:Option Addr} {bs:List Bg} (h:TL w P B M zs A m c bs wr):m=zs.length:=by
 rw [←h.val,List.length_map,h.row.len]
theorem TL.add {w wr w':World} {P:Nat→Prop} {B M m c c':Nat} {zs:List Int} {A A':Option Addr} {bs:List Bg} {q:Bg} (h:TL w P B M zs A m c bs wr) (hb:Below B wr w') (hs:wr.heap.size≤w'.heap.size) (hrow:BRow w' B (Or P B w') A' (m+1) c' (bs ++ [q])) (hq:q.n≤M+1):TL w P B M (zs ++ [q.z]) A' (m+1) c' (bs ++ [q]) w':=
 ⟨h.bel.trans hb,Nat.le_trans h.le hs,hrow,by rw [List.map_append,h.val];rfl,fun b hb2=>by
  rcases List.mem_append.1 hb2 with h1 | h1
  ·exact h.sz b h1
  ·rw [List.mem_singleton.1 h1];exact hq⟩
theorem BRow.ne_box {w:World} {B n c X:Nat} {P:Nat→Prop} {A:Option Addr} {ps:List Bg} {p:Rg} (h:BRow w B P A n c ps) (hx:SBox w X p):(Value.slice A n c).ownBlock≠some X:=by
 rcases h.own.2 with ⟨h1,_⟩ | ⟨g1,cap,cur,h1,h2,h3,h4⟩
 ·injection h1 with a b c;subst a;simp [Value.ownBlock]
 ·intro e
  injection h1 with a b c
  subst a
  have e2:g1=X:=by
   simp only [Value.ownBlock] at e
   injection e
  subst e2
  unfold SBox at hx
  rw [hx] at h3
  injection h3 with h3
  injection h3 with _ h5 _
  revert h5
  decide
theorem cmpZ_same (z:Int):cmpZ z z=0:=by simp [cmpZ]
theorem shift_one {α:Type} {os:List α} {p:Nat} {x y:α} (hp:os[p]?=some y):(os.take (p+1) ++ x :: os.drop (p+1)).set (p+1) y=os.take p ++ y :: os.drop p:=by
 have hl:p<os.length:=(List.getElem?_eq_some_iff.1 hp).1
 have h1:(os.take (p+1)).length=p+1:=by rw [List.length_take];omega
 have h2:os.drop p=y :: os.drop (p+1):=by
  rw [List.drop_eq_getElem_cons hl,(List.getElem?_eq_some_iff.1 hp).2]
 rw [List.set_append_right _ _ (by omega),h1,Nat.sub_self,List.set_cons_zero,List.take_add_one,hp,h2,List.append_assoc]
 rfl
theorem put_one {α:Type} {os:List α} {k:Nat} {x y:α} (hk:k≤os.length):(os.take k ++ x :: os.drop k).set k y=os.take k ++ y :: os.drop k:=by
 have h1:(os.take k).length=k:=by rw [List.length_take];omega
 rw [List.set_append_right _ _ (by omega),h1,Nat.sub_self,List.set_cons_zero]
theorem mid_get {α:Type} {os:List α} {k:Nat} {x:α} (hk:k≤os.length):(os.take k ++ x :: os.drop k)[k]?=some x:=by
 have h1:(os.take k).length=k:=by rw [List.length_take];omega
 rw [List.getElem?_append_right (by omega),h1,Nat.sub_self]
 rfl
theorem mid_low {α:Type} {os:List α} {k j:Nat} {x:α} (hj:j<k) (hk:k≤os.length):(os.take k ++ x :: os.drop k)[j]?=os[j]?:=by
 rw [List.getElem?_append_left (by rw [List.length_take];omega),List.getElem?_take,if_pos hj]
def Lst (i:Nat) (L:List R):List R:=if i=0 then [] else L
structure OL (wo:World) (C M:Nat) (Z:List Int) (i:Nat) (A:Option Addr) (n c:Nat) (os:List Bg) (wr:World):Prop where
 bel:Below C wo wr
 le:C≤wr.heap.size
 row:BRow wr C (Or (fun b=>b<C) C wr) A n c os
 asc:Asc (os.map Bg.z)
 mem:∀ x,x∈os.map Bg.z↔x∈Z.take i
 sz:∀ b∈os,b.n≤M+1
 len:n≤i
theorem OL.below {wo wr w':World} {C M i n c:Nat} {Z:List Int} {A:Option Addr} {os:List Bg} (h:OL wo C M Z i A n c os wr) (hb:Below wr.heap.size wr w'):OL wo C M Z i A n c os w':=
 ⟨h.bel.trans (hb.mono h.le),Nat.le_trans h.le hb.size,h.row.up h.le (fun _ h=>h) hb,h.asc,h.mem,h.sz,h.len⟩
theorem OL.skip {wo wr:World} {C M i n c:Nat} {Z:List Int} {A:Option Addr} {os:List Bg} {z:Int} (h:OL wo C M Z i A n c os wr) (hz:Z[i]?=some z) (hm:z∈os.map Bg.z):OL wo C M Z (i+1) A n c os wr:=
 ⟨h.bel,h.le,h.row,h.asc,fun x=>by
  rw [List.take_add_one,hz,List.mem_append,←h.mem]
  simp only [Option.toList,List.mem_singleton]
  constructor
  ·exact .inl
  ·rintro (k | rfl)
   ·exact k
   ·exact hm,h.sz,by have:=h.len;omega⟩
theorem OL.ins {wo wr w':World} {C M i n c k c':Nat} {Z:List Int} {A A':Option Addr} {os:List Bg} {q:Bg} (h:OL wo C M Z i A n c os wr) (hz:Z[i]?=some q.z) (h1:∀ x∈(os.map Bg.z).take k,x<q.z) (h2:∀ x,(os.map Bg.z)[k]?=some x→q.z<x) (hq:q.n≤M+1)
  (hb:Below C wr w') (hl:C≤w'.heap.size) (hrow:BRow w' C (Or (fun b=>b<C) C w') A' (n+1) c' (os.take k ++ q :: os.drop k)):OL wo C M Z (i+1) A' (n+1) c' (os.take k ++ q :: os.drop k) w':=
 ⟨h.bel.trans hb,hl,hrow,by
  rw [List.map_append,List.map_cons,List.map_take,List.map_drop]
  exact h.asc.ins h1 (h.asc.above h2),fun x=>by
  rw [List.take_add_one,hz,List.mem_append,←h.mem,List.map_append,List.map_cons,List.map_take,List.map_drop,mem_ins]
  simp only [Option.toList,List.mem_singleton]
  exact Or.comm,fun b hb2=>by
  rcases List.mem_append.1 hb2 with h3 | h3
  ·exact h.sz b (List.mem_of_mem_take h3)
  ·rcases List.mem_cons.1 h3 with rfl | h3
   ·exact hq
   ·exact h.sz b (List.mem_of_mem_drop h3),by have:=h.len;omega⟩
def TurnsPostB (B:Nat) (w:World) (L:List R) (M:Nat) (e:Ending) (w':World):Prop:=
 ∃ A' n' c' bs,e = .returned (.slice A' n' c')∧BRow w' B (fun b=>b<w'.heap.size) A' n' c' bs∧Asc (bs.map Bg.z)∧(∀ x,x∈bs.map Bg.z↔x∈tnL L)∧n'≤2 * L.length∧(∀ b∈bs,b.n≤M+1)∧Below B w w'
def TurnsPost (w:World) (L:List R) (M:Nat) (e:Ending) (w':World):Prop:=TurnsPostB w.heap.size w L M e w'
theorem turns_any {w:World} {P:Nat→Prop} {A:Option Addr} {n c G cG M:Nat} {ps:List Rg} (h:RefS w P A n c ps) (hP:∀ b,P b→b<w.heap.size) (h0:w.cell? ⟨G,0,none⟩=some (.slice A n c)) (h1:w.cell? ⟨G,1,none⟩=some (.slice none 0 0)) (hG:G<w.heap.size)
  (hM:Bn2 M (ps.map edsS)) (hM9:M<1000000000) (hn:n≤1000000000) :
  Calls Tryz.prog 95 #[.slice (some ⟨G,0,none⟩) 2 cG] w (TurnsPost w (ps.map edsS) M):=by
 have HS:=Qh h
 have HP:=Qh hP
 have HGc:=Qh (Qa h0 h1)
 obtain ⟨on,hon⟩:∃ on:Int,on=1:=⟨1,rfl⟩
 have HOn:=Qh hon
 have HF1:=Qh (fun w1=>show Calls Tryz.prog 100 #[.int .i64 1] w1 (PostB w1 on) from by rw [hon];exact Small_any 1 (by omega) w1)
 clear hon
 have HLn:=Qh h.row.len
 have HMs:=Qh (Qa hM hM9)
 have HN9:=Qh hn
 obtain ⟨L,hL⟩:∃ L,ps.map edsS=L:=⟨_,rfl⟩
 have HL:=Qh hL
 have HLl:=Qh (show L.length=n by rw [←hL,List.length_map];exact h.row.len)
 obtain ⟨B,hB⟩:∃ B,w.heap.size=B:=⟨_,rfl⟩
 have HB:=Qh hB
 have HN0:=Qh (show TL w P B M (tnL (Lst 0 L)) none 0 0 [] w from ⟨Below.refl _ _,by omega,BRow.nil _ _ _,rfl,fun b hb=>by cases hb⟩)
 have hGB:G<B:=by omega
 have hPB:∀ b,P b→b<B:=fun b hb=>by have:=hP b hb;omega
 have HPB:=Qh hPB
 have HSets:=Qh (fun (i:Nat) (hi:i<2)=>show ∃ As ns cs qs,w.cell? ⟨G,i,none⟩=some (.slice As ns cs)∧RefS w P As ns cs qs∧Lst (i+1) L=Lst i L ++ qs.map edsS∧ns≤1000000000∧Bn2 M (qs.map edsS) by
  rcases (by omega:i=0∨i=1) with rfl | rfl
  ·exact ⟨A,n,c,ps,h0,h,by rw [hL];simp [Lst],hn,hM⟩
  ·exact ⟨none,0,0,[],h1,RefS.nil _ _,by simp [Lst],by omega,fun r hr=>by cases hr⟩)
 rw [hL]
 unfold TurnsPost
 rw [hB]
 rw [hL] at HMs
 clear h hP h0 h1 hM hn hL hB hG hPB
 go_enter Tryz.func95,Tryz.ntmps95
 go_wp2_with fail
 go_loopw [3,4] (fun vl vi wr=>∃ i A' m c' bs,i≤2∧vi = .int .i64 (i:Nat)∧vl = .slice A' m c'∧Hid (TL w P B M (tnL (Lst i L)) A' m c' bs wr)) (fun _ vi _=>2 - (intOf vi).toNat)
 case atStart=>exact ⟨0,none,0,0,[],Nat.zero_le _,rfl,rfl,HN0⟩
 case round=>
  obtain ⟨i,A2,m,c2,bs,hi,rfl,rfl,HI⟩:=hrel
  clear HN0
  by_cases hi2:i<2
  ·obtain ⟨As,ns,cs,qs,hcl,hrs,hnx,hns,hqM⟩:=HSets.out i hi2
   have HQs:=Qh hrs
   have HNx:=Qh hnx
   have HqM:=Qh hqM
   have HCl:=Qh (fun (z:World) (hz:Below B w z)=>(Qc (a:=⟨G,i,none⟩) (hz.block G hGB)).trans hcl)
   have HQl:=Qh hrs.row.len
   have hcap:=hrs.row.cap
   have hmax:=hrs.row.max
   unfold maxLen at hmax
   have hii:(i:Int)<2:=by omega
   have hi0:(0:Int)≤(i:Int):=by omega
   have HI0:=Qh (show TL w P B M (tnL (Lst i L) ++ tnL ((qs.map edsS).take 0)) A2 m c2 bs wr from by simpa [tnL] using HI.out)
   clear hcl hrs hnx hqM HI
   generalize wr=wo at *
   go_wp2_with fail
   go_loopw [3,5] (fun vl vk wr=>∃ k A' m' c' bs',k≤ns∧vk = .int .i64 (k:Nat)∧vl = .slice A' m' c'∧Hid (TL w P B M (tnL (Lst i L) ++ tnL ((qs.map edsS).take k)) A' m' c' bs' wr)) (fun _ vk _=>ns - (intOf vk).toNat)
   case atStart=>exact ⟨0,A2,m,c2,bs,Nat.zero_le _,rfl,rfl,HI0⟩
   case round=>
    obtain ⟨k,A3,m3,c3,bs3,hk,rfl,rfl,HJ⟩:=hrel
    clear HI0
    have x0:=HCl.out wr HJ.out.bel
    by_cases hkn:k<ns
    ·obtain ⟨p,hp⟩:∃ p,qs[k]?=some p:=⟨qs[k]'(by have:=HQl.out;omega),by simp⟩
     obtain ⟨b,o,rfl,hPb,q0,q1,q2,q3,q4,q5⟩:=HQs.out.row.at_ hp
     have hbB:b<B:=HPB.out b hPb
     have HKp:=Qh (HQs.out.kid p (List.mem_of_getElem? hp))
     have HPk:=Qh (show (qs.map edsS)[k]?=some (edsS p) by simp [hp])
     have HMp:=Qh (HqM.out (edsS p) (List.mem_of_getElem? HPk.out))
     have hblk:=HJ.out.bel.block b hbB
     have i0:=(Qc (a:=⟨b,o+k * 6,none⟩) hblk).trans q0
     have i1:=(Qc (a:=⟨b,o+k * 6+1,none⟩) hblk).trans q1
     have i2:=(Qc (a:=⟨b,o+k * 6+2,none⟩) hblk).trans q2
     have i3:=(Qc (a:=⟨b,o+k * 6+3,none⟩) hblk).trans q3
     have i4:=(Qc (a:=⟨b,o+k * 6+4,none⟩) hblk).trans q4
     have i5:=(Qc (a:=⟨b,o+k * 6+5,none⟩) hblk).trans q5
     have HEd:=Qh (show edsS p=(p.1.ed2,p.2.ed2) from rfl)
     have HX:=Qh (SBox.new wr p)
     have HBx:=Qh (show Below wr.heap.size wr (wr.alloc (.cells (cells6 p).toArray 84)) from Qb)
     obtain ⟨p1,p2⟩:=p
     obtain ⟨e1,he1⟩:∃ e,p1.ed2=e:=⟨_,rfl⟩
     obtain ⟨e2,he2⟩:∃ e,p2.ed2=e:=⟨_,rfl⟩
     have hk1:=HKp.out.a
     have hk2:=HKp.out.b
     simp only [he1,he2] at HEd hk1 hk2
     obtain ⟨pA,pc,hr1⟩:=hk1.is
     obtain ⟨rA,rc,hr2⟩:=hk2.is
     clear HKp
     subst hr1
     obtain ⟨r2i,r2g,r2A,r2n,r2c,r2l⟩:=p2
     have HR2:=Qh hr2
     clear hr2
     have HKa:=Qh hk1
     have HKb:=Qh hk2
     have HTn:=Qh (tnL_take HPk.out)
     rw [HEd.out] at HMp HTn
     have hki:(k:Int)<(ns:Int):=by omega
     have hk0:(0:Int)≤(k:Int):=by omega
     have HLm:=Qh (show m3+2≤maxRg by
      have h1:=HJ.out.len
      have h2:=tnL_length ((qs.map edsS).take k)
      have h3:=tnL_length (Lst i L)
      have h4:(Lst i L).length≤n:=by
       unfold Lst
       split
       ·exact Nat.zero_le _
       ·rw [HLl.out];exact Nat.le_refl _
      have h5:=HN9.out
      rw [List.length_append] at h1
      rw [List.length_take,List.length_map] at h2
      unfold maxRg
      omega)
     clear q0 q1 q2 q3 q4 q5 hp hPb hblk he1 he2 hk1 hk2
     cases e1 with
     | lo=>
      simp only [rb,cells6_eq] at HX HBx i0 i1 i2
      have HJ8:=Qh (show TL w P B M ((tnL (Lst i L) ++ tnL ((qs.map edsS).take k)) ++ tnA .lo) A3 m3 c3 bs3 _ from by
       have:=HJ.out.below HPB.out HBx.out
       simpa [tnA] using this)
      have HX8:=Qh HX.out
      obtain ⟨y0,y1,y2,y3,y4,y5⟩:=HX.out.cells
      simp only at y0 y1 y2 i3 i4 i5
      go_upto_region 11 with fail
      clear HX HBx i0 i1 i2 i3 i4 i5
      generalize (wr.alloc (.cells #[.int .i64 (-1),.bool false,.slice none 0 0,.int .i64 r2i,.bool r2g,.slice r2A r2n r2c] 84))=w8 at *
      have HNe:=Qh (HJ8.out.row.ne_box HX8.out)
      cases e2 with
      | lo=>
       obtain ⟨rfl,rfl,rfl,rfl,rfl,rfl⟩:r2i=(rb (.lo) rA rc).i∧r2g=(rb (.lo) rA rc).g∧r2A=(rb (.lo) rA rc).A∧r2n=(rb (.lo) rA rc).n∧r2c=(rb (.lo) rA rc).c∧r2l=(rb (.lo) rA rc).l:=by rw [←HR2.out];exact ⟨rfl,rfl,rfl,rfl,rfl,rfl⟩
       simp only [rb] at y3 y4 y5
       go_wp2_with fail
       go_roundw
       case rel=>exact ⟨k+1,A3,m3,c3,bs3,by omega,by go_num,by go_num,Qh (by
        rw [HTn.out]
        simpa [tnA,tnB,List.append_assoc] using HJ8.out)⟩
       case measure=>simp [intOf];omega
      | hi=>
       obtain ⟨rfl,rfl,rfl,rfl,rfl,rfl⟩:r2i=(rb (.hi) rA rc).i∧r2g=(rb (.hi) rA rc).g∧r2A=(rb (.hi) rA rc).A∧r2n=(rb (.hi) rA rc).n∧r2c=(rb (.hi) rA rc).c∧r2l=(rb (.hi) rA rc).l:=by rw [←HR2.out];exact ⟨rfl,rfl,rfl,rfl,rfl,rfl⟩
       simp only [rb] at y3 y4 y5
       go_wp2_with fail
       go_roundw
       case rel=>exact ⟨k+1,A3,m3,c3,bs3,by omega,by go_num,by go_num,Qh (by
        rw [HTn.out]
        simpa [tnA,tnB,List.append_assoc] using HJ8.out)⟩
       case measure=>simp [intOf];omega
      | num y=>
       obtain ⟨rfl,rfl,rfl,rfl,rfl,rfl⟩:r2i=(rb (.num y) rA rc).i∧r2g=(rb (.num y) rA rc).g∧r2A=(rb (.num y) rA rc).A∧r2n=(rb (.num y) rA rc).n∧r2c=(rb (.num y) rA rc).c∧r2l=(rb (.num y) rA rc).l:=by rw [←HR2.out];exact ⟨rfl,rfl,rfl,rfl,rfl,rfl⟩
       simp only [rb] at y3 y4 y5 HX8
       have HSy:=Qh (show SlI w B r2A (digs 2 y.natAbs).length r2c (digs 2 y.natAbs) from HKb.out.lim.sl HPB.out)
       obtain ⟨yy,hy1⟩:∃ yy,y+on=yy:=⟨_,rfl⟩
       have HY1:=Qh hy1
       have HYl:=Qh (show (digs 2 yy.natAbs).length≤M+1 by rw [←hy1,HOn.out];exact len2_up 1 (by decide) HMp.out.2)
       have HOl:=Qh (show (digs 2 on.natAbs).length≤2000000000 by rw [HOn.out];exact Nat.le_trans (digs_length_le (k:=1) (by decide) (by decide)) (by omega))
       clear hy1
       go_upto_region 12 with fail
       refine wp_region_HS (fun z=>Below B w8 z∧z.heap[wr.heap.size]?=w8.heap[wr.heap.size]?) (by kernel_rfl) (fun z0 K0 hs0=>?_)
       have S0:Below B w8 z0∧z0.heap[wr.heap.size]?=w8.heap[wr.heap.size]?:=⟨K0.mono HJ8.out.le,K0.block _ HX8.out.lt⟩
       refine tH0 0 S0 ?_
       refine tH0 1 S0 ?_
       refine tH0 2 S0 ?_
       refine tH0 3 S0 ?_ (y:=fun z5 hS=>by obtain ⟨q0,q1,q2,q3,q4,q5⟩:=(show SBox z5 wr.heap.size _ from hS.2.trans HX8.out).cells;go_simp;rfl)
       refine oH0 4 fun K hK=>?_
       go_simp
       (with_reducible refine (HF1.out _).mono ?_)
       rintro e z1 ⟨v,he,hr1,hb1⟩
       obtain ⟨A5,c5,rfl,ho5⟩:=hr1.at_
       subst he
       have K1:=Qt K0 hb1
       have S1:Below B w8 z1∧z1.heap[wr.heap.size]?=w8.heap[wr.heap.size]?:=⟨K1.mono HJ8.out.le,K1.block _ HX8.out.lt⟩
       have hs5:SlI z1 z1.heap.size A5 (digs 2 on.natAbs).length c5 (digs 2 on.natAbs):=(show LimB z1 (Fr z0.heap.size z1) A5 (digs 2 on.natAbs).length c5 (digs 2 on.natAbs) from ho5).sl (fun b hb=>hb.2)
       refine hK.out _ _ S1 ?_
       refine oH0 5 fun K hK=>?_
       go_simp
       (with_reducible refine (rsum_dd (z:=yy) (HSy.out.below (HJ8.out.bel.trans S1.1) (Nat.le_refl _)) hs5 (Nat.le_trans HMp.out.2 (by have:=HMs.out.2;omega)) HOl.out (Nat.le_trans HJ8.out.le K1.size) (Nat.le_refl _) HY1.out).mono ?_)
       rintro e z2 ⟨v,he,hr2,hb2⟩
       obtain ⟨A6,c6,rfl,ho6⟩:=hr2.at_
       subst he
       have K2:=Qt K1 hb2
       have S2:Below B w8 z2∧z2.heap[wr.heap.size]?=w8.heap[wr.heap.size]?:=⟨K2.mono HJ8.out.le,K2.block _ HX8.out.lt⟩
       refine hK.out _ _ S2 ?_
       refine oH0 6 fun K hK=>?_
       go_simp
       have hz2:=K2.size
       have hz1:=K1.size
       have hle:=HJ8.out.le
       have S3:Below B w8 (z2.alloc (.cells #[.bool (decide (yy<0)),.slice A6 (digs 2 yy.natAbs).length c6] 79))∧(z2.alloc (.cells #[.bool (decide (yy<0)),.slice A6 (digs 2 yy.natAbs).length c6] 79)).heap[wr.heap.size]?=w8.heap[wr.heap.size]?:=⟨S2.1.alloc (by omega) _,(((Below.refl z2.heap.size z2).alloc (Nat.le_refl _) _).block _ (by have:=HX8.out.lt;omega)).trans S2.2⟩
       refine hK.out _ _ S3 ?_
       refine oH0 7 fun K hK=>?_
       have HR7:=Qh (HJ8.out.below HPB.out K2)
       refine step_app1PB (q:=⟨yy,A6,c6⟩) rfl _ _ rfl (by rfl) (by rfl) HR7.out.row HR7.out.le HPB.out (ho6.keep (fun b hb=>⟨⟨.inr ⟨by have:=hb.1;omega,hb.2⟩,HJ8.out.row.ne_old (.inr (by have:=hb.1;omega))⟩,rfl⟩)) (by have:=HLm.out;unfold maxRg at *;omega) ?_
       intro A7 c7 w9 hr9 hb9 hs9 hx9
       have HJ9:=Qh (HR7.out.add hb9 hs9 hr9 HYl.out)
       have HS9:=Qh (show Below B w8 w9∧w9.heap[wr.heap.size]?=w8.heap[wr.heap.size]? from ⟨S2.1.trans hb9,(hx9 _ (by have:=HX8.out.lt;omega) HNe.out).trans S2.2⟩)
       refine hK.out _ _ HS9.out ?_
       clear hs5 K0 K1 K2 S0 S1 S2 S3 hb1 hb2 hb9 hs9 hr9 hx9 ho5 ho6 hr1 hr2 hs0 hz1 hz2 hle
       refine oH0 8 fun K hK=>?_
       go_simp
       refine hK.out _ _ HS9.out ?_
       refine wpAnyH_end (by kernel_rfl) ?_ _
       go_wp2_with fail
       go_roundw
       case rel=>exact ⟨k+1,A7,_,c7,_,by omega,by go_num,by go_num,Qh (by
        rw [HTn.out,tnB,←HOn.out,HY1.out,←List.append_assoc,←List.append_assoc]
        exact HJ9.out)⟩
       case measure=>simp [intOf];omega
     | num x=>
      simp only [rb,cells6_eq] at HX HBx i0 i1 i2
      have HNe7:=Qh (HJ.out.row.ne_old (.inr (Nat.le_refl wr.heap.size)))
      have HJ7:=Qh (HJ.out.below HPB.out HBx.out)
      have HX7:=Qh HX.out
      obtain ⟨y0,y1,y2,y3,y4,y5⟩:=HX.out.cells
      simp only at y0 y1 y2 i3 i4 i5
      have hx7:=HX7.out.lt
      go_upto_region 10 with fail
      clear HX HBx i0 i1 i2 i3 i4 i5
      generalize (wr.alloc (.cells #[.int .i64 0,.bool (decide (x<0)),.slice pA (digs 2 x.natAbs).length pc,.int .i64 r2i,.bool r2g,.slice r2A r2n r2c] 84))=w7 at *
      have HQ7:=Qh (show Bg.At w7 (fun b=>Or P B w7 b∧(Value.slice A3 m3 c3).ownBlock≠some b) ⟨x,pA,pc⟩ from LimB.keep (show LimB w P pA (digs 2 x.natAbs).length pc (digs 2 x.natAbs) from HKa.out.lim) (fun b hb=>⟨⟨.inl hb,HJ.out.row.ne_old (.inl (HPB.out b hb))⟩,HJ7.out.bel.block b (HPB.out b hb)⟩))
      go_upto_region 11 with (at_builtin;refine wpList_app1PB (q:=⟨x,pA,pc⟩) rfl _ _ rfl rfl rfl HJ7.out.row HJ7.out.le HPB.out HQ7.out (by have:=HLm.out;unfold maxRg at *;omega) ?_;intro A4 c4 w8 hr8 hb8 hs8 hx8;have HJ8:=Qh (HJ7.out.add hb8 hs8 hr8 (Nat.le_trans HMp.out.1 (Nat.le_succ _)));have HX8:=Qh (show SBox w8 wr.heap.size _ from (hx8 _ HX7.out.lt HNe7.out).trans HX7.out);clear y0 y1 y2 y3 y4 y5 hr8 hb8 hs8 hx8;obtain ⟨y0,y1,y2,y3,y4,y5⟩:=HX8.out.cells;simp only at y0 y1 y2)
      have HNe:=Qh (HJ8.out.row.ne_box HX8.out)
      cases e2 with
      | lo=>
       obtain ⟨rfl,rfl,rfl,rfl,rfl,rfl⟩:r2i=(rb (.lo) rA rc).i∧r2g=(rb (.lo) rA rc).g∧r2A=(rb (.lo) rA rc).A∧r2n=(rb (.lo) rA rc).n∧r2c=(rb (.lo) rA rc).c∧r2l=(rb (.lo) rA rc).l:=by rw [←HR2.out];exact ⟨rfl,rfl,rfl,rfl,rfl,rfl⟩
       simp only [rb] at y3 y4 y5
       go_wp2_with fail
       go_roundw
       case rel=>exact ⟨k+1,A4,(m3+1),c4,_,by omega,by go_num,by go_num,Qh (by
        rw [HTn.out]
        simpa [tnA,tnB,List.append_assoc] using HJ8.out)⟩
       case measure=>simp [intOf];omega
      | hi=>
       obtain ⟨rfl,rfl,rfl,rfl,rfl,rfl⟩:r2i=(rb (.hi) rA rc).i∧r2g=(rb (.hi) rA rc).g∧r2A=(rb (.hi) rA rc).A∧r2n=(rb (.hi) rA rc).n∧r2c=(rb (.hi) rA rc).c∧r2l=(rb (.hi) rA rc).l:=by rw [←HR2.out];exact ⟨rfl,rfl,rfl,rfl,rfl,rfl⟩
       simp only [rb] at y3 y4 y5
       go_wp2_with fail
       go_roundw
       case rel=>exact ⟨k+1,A4,(m3+1),c4,_,by omega,by go_num,by go_num,Qh (by
        rw [HTn.out]
        simpa [tnA,tnB,List.append_assoc] using HJ8.out)⟩
       case measure=>simp [intOf];omega
      | num y=>
       obtain ⟨rfl,rfl,rfl,rfl,rfl,rfl⟩:r2i=(rb (.num y) rA rc).i∧r2g=(rb (.num y) rA rc).g∧r2A=(rb (.num y) rA rc).A∧r2n=(rb (.num y) rA rc).n∧r2c=(rb (.num y) rA rc).c∧r2l=(rb (.num y) rA rc).l:=by rw [←HR2.out];exact ⟨rfl,rfl,rfl,rfl,rfl,rfl⟩
       simp only [rb] at y3 y4 y5 HX8
       have HSy:=Qh (show SlI w B r2A (digs 2 y.natAbs).length r2c (digs 2 y.natAbs) from HKb.out.lim.sl HPB.out)
       obtain ⟨yy,hy1⟩:∃ yy,y+on=yy:=⟨_,rfl⟩
       have HY1:=Qh hy1
       have HYl:=Qh (show (digs 2 yy.natAbs).length≤M+1 by rw [←hy1,HOn.out];exact len2_up 1 (by decide) HMp.out.2)
       have HOl:=Qh (show (digs 2 on.natAbs).length≤2000000000 by rw [HOn.out];exact Nat.le_trans (digs_length_le (k:=1) (by decide) (by decide)) (by omega))
       clear hy1
       go_upto_region 12 with fail
       refine wp_region_HS (fun z=>Below B w8 z∧z.heap[wr.heap.size]?=w8.heap[wr.heap.size]?) (by kernel_rfl) (fun z0 K0 hs0=>?_)
       have S0:Below B w8 z0∧z0.heap[wr.heap.size]?=w8.heap[wr.heap.size]?:=⟨K0.mono HJ8.out.le,K0.block _ HX8.out.lt⟩
       refine tH0 0 S0 ?_
       refine tH0 1 S0 ?_
       refine tH0 2 S0 ?_
       refine tH0 3 S0 ?_ (y:=fun z5 hS=>by obtain ⟨q0,q1,q2,q3,q4,q5⟩:=(show SBox z5 wr.heap.size _ from hS.2.trans HX8.out).cells;go_simp;rfl)
       refine oH0 4 fun K hK=>?_
       go_simp
       (with_reducible refine (HF1.out _).mono ?_)
       rintro e z1 ⟨v,he,hr1,hb1⟩
       obtain ⟨A5,c5,rfl,ho5⟩:=hr1.at_
       subst he
       have K1:=Qt K0 hb1
       have S1:Below B w8 z1∧z1.heap[wr.heap.size]?=w8.heap[wr.heap.size]?:=⟨K1.mono HJ8.out.le,K1.block _ HX8.out.lt⟩
       have hs5:SlI z1 z1.heap.size A5 (digs 2 on.natAbs).length c5 (digs 2 on.natAbs):=(show LimB z1 (Fr z0.heap.size z1) A5 (digs 2 on.natAbs).length c5 (digs 2 on.natAbs) from ho5).sl (fun b hb=>hb.2)
       refine hK.out _ _ S1 ?_
       refine oH0 5 fun K hK=>?_
       go_simp
       (with_reducible refine (rsum_dd (z:=yy) (HSy.out.below (HJ8.out.bel.trans S1.1) (Nat.le_refl _)) hs5 (Nat.le_trans HMp.out.2 (by have:=HMs.out.2;omega)) HOl.out (Nat.le_trans HJ8.out.le K1.size) (Nat.le_refl _) HY1.out).mono ?_)
       rintro e z2 ⟨v,he,hr2,hb2⟩
       obtain ⟨A6,c6,rfl,ho6⟩:=hr2.at_
       subst he
       have K2:=Qt K1 hb2
       have S2:Below B w8 z2∧z2.heap[wr.heap.size]?=w8.heap[wr.heap.size]?:=⟨K2.mono HJ8.out.le,K2.block _ HX8.out.lt⟩
       refine hK.out _ _ S2 ?_
       refine oH0 6 fun K hK=>?_
       go_simp
       have hz2:=K2.size
       have hz1:=K1.size
       have hle:=HJ8.out.le
       have S3:Below B w8 (z2.alloc (.cells #[.bool (decide (yy<0)),.slice A6 (digs 2 yy.natAbs).length c6] 79))∧(z2.alloc (.cells #[.bool (decide (yy<0)),.slice A6 (digs 2 yy.natAbs).length c6] 79)).heap[wr.heap.size]?=w8.heap[wr.heap.size]?:=⟨S2.1.alloc (by omega) _,(((Below.refl z2.heap.size z2).alloc (Nat.le_refl _) _).block _ (by have:=HX8.out.lt;omega)).trans S2.2⟩
       refine hK.out _ _ S3 ?_
       refine oH0 7 fun K hK=>?_
       have HR7:=Qh (HJ8.out.below HPB.out K2)
       refine step_app1PB (q:=⟨yy,A6,c6⟩) rfl _ _ rfl (by rfl) (by rfl) HR7.out.row HR7.out.le HPB.out (ho6.keep (fun b hb=>⟨⟨.inr ⟨by have:=hb.1;omega,hb.2⟩,HJ8.out.row.ne_old (.inr (by have:=hb.1;omega))⟩,rfl⟩)) (by have:=HLm.out;unfold maxRg at *;omega) ?_
       intro A7 c7 w9 hr9 hb9 hs9 hx9
       have HJ9:=Qh (HR7.out.add hb9 hs9 hr9 HYl.out)
       have HS9:=Qh (show Below B w8 w9∧w9.heap[wr.heap.size]?=w8.heap[wr.heap.size]? from ⟨S2.1.trans hb9,(hx9 _ (by have:=HX8.out.lt;omega) HNe.out).trans S2.2⟩)
       refine hK.out _ _ HS9.out ?_
       clear hs5 K0 K1 K2 S0 S1 S2 S3 hb1 hb2 hb9 hs9 hr9 hx9 ho5 ho6 hr1 hr2 hs0 hz1 hz2 hle
       refine oH0 8 fun K hK=>?_
       go_simp
       refine hK.out _ _ HS9.out ?_
       refine wpAnyH_end (by kernel_rfl) ?_ _
       go_wp2_with fail
       go_roundw
       case rel=>exact ⟨k+1,A7,_,c7,_,by omega,by go_num,by go_num,Qh (by
        rw [HTn.out,tnB,←HOn.out,HY1.out,←List.append_assoc,←List.append_assoc]
        exact HJ9.out)⟩
       case measure=>simp [intOf];omega
     | hi=>
      simp only [rb,cells6_eq] at HX HBx i0 i1 i2
      have HJ8:=Qh (show TL w P B M ((tnL (Lst i L) ++ tnL ((qs.map edsS).take k)) ++ tnA .hi) A3 m3 c3 bs3 _ from by
       have:=HJ.out.below HPB.out HBx.out
       simpa [tnA] using this)
      have HX8:=Qh HX.out
      obtain ⟨y0,y1,y2,y3,y4,y5⟩:=HX.out.cells
      simp only at y0 y1 y2 i3 i4 i5
      go_upto_region 11 with fail
      clear HX HBx i0 i1 i2 i3 i4 i5
      generalize (wr.alloc (.cells #[.int .i64 1,.bool false,.slice none 0 0,.int .i64 r2i,.bool r2g,.slice r2A r2n r2c] 84))=w8 at *
      have HNe:=Qh (HJ8.out.row.ne_box HX8.out)
      cases e2 with
      | lo=>
       obtain ⟨rfl,rfl,rfl,rfl,rfl,rfl⟩:r2i=(rb (.lo) rA rc).i∧r2g=(rb (.lo) rA rc).g∧r2A=(rb (.lo) rA rc).A∧r2n=(rb (.lo) rA rc).n∧r2c=(rb (.lo) rA rc).c∧r2l=(rb (.lo) rA rc).l:=by rw [←HR2.out];exact ⟨rfl,rfl,rfl,rfl,rfl,rfl⟩
       simp only [rb] at y3 y4 y5
       go_wp2_with fail
       go_roundw
       case rel=>exact ⟨k+1,A3,m3,c3,bs3,by omega,by go_num,by go_num,Qh (by
        rw [HTn.out]
        simpa [tnA,tnB,List.append_assoc] using HJ8.out)⟩
       case measure=>simp [intOf];omega
      | hi=>
       obtain ⟨rfl,rfl,rfl,rfl,rfl,rfl⟩:r2i=(rb (.hi) rA rc).i∧r2g=(rb (.hi) rA rc).g∧r2A=(rb (.hi) rA rc).A∧r2n=(rb (.hi) rA rc).n∧r2c=(rb (.hi) rA rc).c∧r2l=(rb (.hi) rA rc).l:=by rw [←HR2.out];exact ⟨rfl,rfl,rfl,rfl,rfl,rfl⟩
       simp only [rb] at y3 y4 y5
       go_wp2_with fail
       go_roundw
       case rel=>exact ⟨k+1,A3,m3,c3,bs3,by omega,by go_num,by go_num,Qh (by
        rw [HTn.out]
        simpa [tnA,tnB,List.append_assoc] using HJ8.out)⟩
       case measure=>simp [intOf];omega
      | num y=>
       obtain ⟨rfl,rfl,rfl,rfl,rfl,rfl⟩:r2i=(rb (.num y) rA rc).i∧r2g=(rb (.num y) rA rc).g∧r2A=(rb (.num y) rA rc).A∧r2n=(rb (.num y) rA rc).n∧r2c=(rb (.num y) rA rc).c∧r2l=(rb (.num y) rA rc).l:=by rw [←HR2.out];exact ⟨rfl,rfl,rfl,rfl,rfl,rfl⟩
       simp only [rb] at y3 y4 y5 HX8
       have HSy:=Qh (show SlI w B r2A (digs 2 y.natAbs).length r2c (digs 2 y.natAbs) from HKb.out.lim.sl HPB.out)
       obtain ⟨yy,hy1⟩:∃ yy,y+on=yy:=⟨_,rfl⟩
       have HY1:=Qh hy1
       have HYl:=Qh (show (digs 2 yy.natAbs).length≤M+1 by rw [←hy1,HOn.out];exact len2_up 1 (by decide) HMp.out.2)
       have HOl:=Qh (show (digs 2 on.natAbs).length≤2000000000 by rw [HOn.out];exact Nat.le_trans (digs_length_le (k:=1) (by decide) (by decide)) (by omega))
       clear hy1
       go_upto_region 12 with fail
       refine wp_region_HS (fun z=>Below B w8 z∧z.heap[wr.heap.size]?=w8.heap[wr.heap.size]?) (by kernel_rfl) (fun z0 K0 hs0=>?_)
       have S0:Below B w8 z0∧z0.heap[wr.heap.size]?=w8.heap[wr.heap.size]?:=⟨K0.mono HJ8.out.le,K0.block _ HX8.out.lt⟩
       refine tH0 0 S0 ?_
       refine tH0 1 S0 ?_
       refine tH0 2 S0 ?_
       refine tH0 3 S0 ?_ (y:=fun z5 hS=>by obtain ⟨q0,q1,q2,q3,q4,q5⟩:=(show SBox z5 wr.heap.size _ from hS.2.trans HX8.out).cells;go_simp;rfl)
       refine oH0 4 fun K hK=>?_
       go_simp
       (with_reducible refine (HF1.out _).mono ?_)
       rintro e z1 ⟨v,he,hr1,hb1⟩
       obtain ⟨A5,c5,rfl,ho5⟩:=hr1.at_
       subst he
       have K1:=Qt K0 hb1
       have S1:Below B w8 z1∧z1.heap[wr.heap.size]?=w8.heap[wr.heap.size]?:=⟨K1.mono HJ8.out.le,K1.block _ HX8.out.lt⟩
       have hs5:SlI z1 z1.heap.size A5 (digs 2 on.natAbs).length c5 (digs 2 on.natAbs):=(show LimB z1 (Fr z0.heap.size z1) A5 (digs 2 on.natAbs).length c5 (digs 2 on.natAbs) from ho5).sl (fun b hb=>hb.2)
       refine hK.out _ _ S1 ?_
       refine oH0 5 fun K hK=>?_
       go_simp
       (with_reducible refine (rsum_dd (z:=yy) (HSy.out.below (HJ8.out.bel.trans S1.1) (Nat.le_refl _)) hs5 (Nat.le_trans HMp.out.2 (by have:=HMs.out.2;omega)) HOl.out (Nat.le_trans HJ8.out.le K1.size) (Nat.le_refl _) HY1.out).mono ?_)
       rintro e z2 ⟨v,he,hr2,hb2⟩
       obtain ⟨A6,c6,rfl,ho6⟩:=hr2.at_
       subst he
       have K2:=Qt K1 hb2
       have S2:Below B w8 z2∧z2.heap[wr.heap.size]?=w8.heap[wr.heap.size]?:=⟨K2.mono HJ8.out.le,K2.block _ HX8.out.lt⟩
       refine hK.out _ _ S2 ?_
       refine oH0 6 fun K hK=>?_
       go_simp
       have hz2:=K2.size
       have hz1:=K1.size
       have hle:=HJ8.out.le
       have S3:Below B w8 (z2.alloc (.cells #[.bool (decide (yy<0)),.slice A6 (digs 2 yy.natAbs).length c6] 79))∧(z2.alloc (.cells #[.bool (decide (yy<0)),.slice A6 (digs 2 yy.natAbs).length c6] 79)).heap[wr.heap.size]?=w8.heap[wr.heap.size]?:=⟨S2.1.alloc (by omega) _,(((Below.refl z2.heap.size z2).alloc (Nat.le_refl _) _).block _ (by have:=HX8.out.lt;omega)).trans S2.2⟩
       refine hK.out _ _ S3 ?_
       refine oH0 7 fun K hK=>?_
       have HR7:=Qh (HJ8.out.below HPB.out K2)
       refine step_app1PB (q:=⟨yy,A6,c6⟩) rfl _ _ rfl (by rfl) (by rfl) HR7.out.row HR7.out.le HPB.out (ho6.keep (fun b hb=>⟨⟨.inr ⟨by have:=hb.1;omega,hb.2⟩,HJ8.out.row.ne_old (.inr (by have:=hb.1;omega))⟩,rfl⟩)) (by have:=HLm.out;unfold maxRg at *;omega) ?_
       intro A7 c7 w9 hr9 hb9 hs9 hx9
       have HJ9:=Qh (HR7.out.add hb9 hs9 hr9 HYl.out)
       have HS9:=Qh (show Below B w8 w9∧w9.heap[wr.heap.size]?=w8.heap[wr.heap.size]? from ⟨S2.1.trans hb9,(hx9 _ (by have:=HX8.out.lt;omega) HNe.out).trans S2.2⟩)
       refine hK.out _ _ HS9.out ?_
       clear hs5 K0 K1 K2 S0 S1 S2 S3 hb1 hb2 hb9 hs9 hr9 hx9 ho5 ho6 hr1 hr2 hs0 hz1 hz2 hle
       refine oH0 8 fun K hK=>?_
       go_simp
       refine hK.out _ _ HS9.out ?_
       refine wpAnyH_end (by kernel_rfl) ?_ _
       go_wp2_with fail
       go_roundw
       case rel=>exact ⟨k+1,A7,_,c7,_,by omega,by go_num,by go_num,Qh (by
        rw [HTn.out,tnB,←HOn.out,HY1.out,←List.append_assoc,←List.append_assoc]
        exact HJ9.out)⟩
       case measure=>simp [intOf];omega
    ·have hkk:k=ns:=by omega
     have hki:¬(k:Int)<(ns:Int):=by omega
     have HJe:=Qh (show TL w P B M (tnL (Lst (i+1) L)) A3 m3 c3 bs3 wr from by
      have h1:=HJ.out
      rw [List.take_of_length_le (by rw [List.length_map,HQl.out];omega),←tnL_append,←HNx.out] at h1
      exact h1)
     go_wp2_with fail
     go_roundw
     case rel=>exact ⟨i+1,A3,m3,c3,bs3,by omega,by go_num,by go_num,HJe⟩
     case measure=>simp [intOf];omega
  ·have hii:i=2:=by omega
   subst hii
   have HT:=Qh (show TL w P B M (tnL L) A2 m c2 bs wr from HI.out)
   have HMl:=Qh HT.out.len
   clear HI hi hi2 HSets
   generalize wr=wo at *
   go_wp2_with fail
   obtain ⟨Z,hZ⟩:∃ Z,tnL L=Z:=⟨_,rfl⟩
   have HZ:=Qh hZ
   rw [hZ] at HT HMl
   obtain ⟨C,hC⟩:∃ C,wo.heap.size=C:=⟨_,rfl⟩
   have HC:=Qh hC
   have HO0:=Qh (show OL wo C M Z 0 none 0 0 [] wo from ⟨Below.refl _ _,by omega,BRow.nil _ _ _,List.Pairwise.nil,fun x=>by simp,fun b hb=>(by cases hb),Nat.le_refl _⟩)
   have hcapl:=HT.out.row.cap
   have hmaxl:=hcapl.2
   unfold maxLen at hmaxl
   clear hZ hC
   go_loopw [7,8] (fun vo vi wr=>∃ i A' n' c' os,i≤m∧vi = .int .i64 (i:Nat)∧vo = .slice A' n' c'∧Hid (OL wo C M Z i A' n' c' os wr)) (fun _ vi _=>m - (intOf vi).toNat)
   case atStart=>exact ⟨0,none,0,0,[],Nat.zero_le _,rfl,rfl,HO0⟩
   case round=>
    obtain ⟨i,A3,n3,c3,os,hi,rfl,rfl,HI⟩:=hrel
    clear HO0
    by_cases him:i<m
    ·obtain ⟨q,hq⟩:∃ q,bs[i]?=some q:=⟨bs[i]'(by have:=HT.out.row.len;omega),by simp⟩
     obtain ⟨gl,rfl,hgl1,hgl2,_⟩:=HT.out.row.some_ (by omega)
     obtain ⟨l0,l1⟩:=HT.out.row.cells_at hq
     have hglC:gl<C:=by have:=HC.out;omega
     have HLc:=Qh (fun (z:World) (hz:Below C wo z) (j:Nat)=>(Qc (a:=⟨gl,j,none⟩) (hz.block gl hglC)))
     have HLv:=Qh (Qa l0 l1)
     have HKq:=Qh (show LimB wo (fun b=>Or P B wo b∧(Value.slice (some ⟨gl,0,none⟩) m c2).ownBlock≠some b) q.A (digs 2 q.z.natAbs).length q.c (digs 2 q.z.natAbs) from HT.out.row.kid q (List.mem_of_getElem? hq))
     have HSq:=Qh (HT.out.sz q (List.mem_of_getElem? hq))
     have HZi:=Qh (show Z[i]?=some q.z by rw [←HT.out.val,List.getElem?_map,hq];rfl)
     obtain ⟨qz,qA,qc⟩:=q
     have HQs:=Qh (show SlI wo C qA (digs 2 qz.natAbs).length qc (digs 2 qz.natAbs) from (show LimB wo _ qA (digs 2 qz.natAbs).length qc (digs 2 qz.natAbs) from HKq.out).sl (fun b hb=>by
      have h1:=HC.out
      rcases hb.1 with h2 | h2
      ·have:=HPB.out b h2;have:=HT.out.le;omega
      ·have:=h2.2;omega))
     have hii:(i:Int)<(m:Int):=by omega
     have hi0:(0:Int)≤(i:Int):=by omega
     have hcapo:=HI.out.row.cap
     have hmaxo:=hcapo.2
     unfold maxLen at hmaxo
     simp only at l0 l1
     clear hq l0 l1
     generalize wr=wq at *
     go_wp2_with fail
     go_loopw [9] (fun vk wr=>∃ k,k≤n3∧vk = .int .i64 (k:Nat)∧Hid (OL wo C M Z i A3 n3 c3 os wr∧∀ x∈(os.map Bg.z).take k,x<qz)) (fun vk _=>n3 - (intOf vk).toNat)
     case atStart=>exact ⟨0,Nat.zero_le _,rfl,Qh ⟨HI.out,fun x hx=>by simp at hx⟩⟩
     case round=>
      obtain ⟨k,hk,rfl,HJ⟩:=hrel
      have hk0:(0:Int)≤(k:Int):=by omega
      by_cases hkn:k<n3
      ·have hki:(k:Int)<(n3:Int):=by omega
       obtain ⟨r,hr⟩:∃ r,os[k]?=some r:=⟨os[k]'(by have:=HJ.out.1.row.len;omega),by simp⟩
       obtain ⟨go,rfl,hgo1,hgo2,_⟩:=HJ.out.1.row.some_ (by omega)
       obtain ⟨o0,o1⟩:=HJ.out.1.row.cells_at hr
       have HKr:=Qh (HJ.out.1.row.kid r (List.mem_of_getElem? hr))
       have HSr:=Qh (HJ.out.1.sz r (List.mem_of_getElem? hr))
       have HRz:=Qh (show (os.map Bg.z)[k]?=some r.z by rw [List.getElem?_map,hr];rfl)
       have HOv:=Qh (Qa o0 o1)
       obtain ⟨rz,rA,rc⟩:=r
       have HRs:=Qh (show SlI wr wr.heap.size rA (digs 2 rz.natAbs).length rc (digs 2 rz.natAbs) from (show LimB wr _ rA (digs 2 rz.natAbs).length rc (digs 2 rz.natAbs) from HKr.out).sl (fun b hb=>by
        have h1:=HJ.out.1.le
        rcases hb.1 with h2 | h2
        ·have:b<C:=h2;omega
        ·exact h2.2))
       have HCm:=Qh (fun (z:World) (hz:Below wr.heap.size wr z)=>rcmp_any (w:=z) (HRs.out.below hz (Nat.le_refl _)) (HQs.out.below (HJ.out.1.bel.trans (hz.mono HJ.out.1.le)) (Nat.le_refl _)) hz.size (Nat.le_trans HJ.out.1.le hz.size) (Nat.le_trans HSr.out (by have:=HMs.out.2;omega)) (Nat.le_trans HSq.out (by have:=HMs.out.2;omega)) rfl)
       clear hr HKr o0 o1
       rcases (by omega:rz<qz∨rz=qz∨qz<rz) with hc | hc | hc
       ·have HCm18:=Qh HCm.out
        go_upto_region 18 with fail
        refine wp_region_H (by kernel_rfl) (fun z0 K0 hs0=>?_)
        refine tH0 0 K0 ?_
        refine tH0 1 K0 ?_
        refine tH0 2 K0 ?_
        refine tH0 3 K0 ?_
        refine tH0 4 K0 ?_
        refine tH0 5 K0 ?_
        refine tH0 6 K0 ?_
        refine tH0 7 K0 ?_
        refine tH0 8 K0 ?_ (y:=fun z5 hS=>by have g0:=(Qc (a:=⟨go,k * 2,none⟩) (hS.block go hgo2)).trans HOv.out.1;have g1:=(Qc (a:=⟨go,k * 2+1,none⟩) (hS.block go hgo2)).trans HOv.out.2;(try simp only at g0 g1);go_simp;rfl)
        refine tH0 9 K0 ?_
        refine tH0 10 K0 ?_
        refine tH0 11 K0 ?_
        refine tH0 12 K0 ?_ (y:=fun z5 hS=>by have g0:=(HLc.out z5 (HJ.out.1.bel.trans (hS.mono HJ.out.1.le)) (i * 2)).trans HLv.out.1;have g1:=(HLc.out z5 (HJ.out.1.bel.trans (hS.mono HJ.out.1.le)) (i * 2+1)).trans HLv.out.2;(try simp only at g0 g1);go_simp;rfl)
        refine oH0 13 fun K hK=>?_
        go_simp
        (with_reducible refine (HCm18.out _ K0).mono ?_)
        rintro e z1 ⟨he,hb1⟩
        rw [cmpZ_lt hc] at he
        subst he
        have K1:=Qt K0 hb1
        refine hK.out _ _ K1 ?_
        refine tH0 14 K1 ?_
        refine oH0 15 fun K hK=>?_
        go_simp
        refine hK.out _ _ K1 ?_
        refine wpAnyH_end (by kernel_rfl) ?_ _
        have HK1:=Qh K1
        clear K0 K1 hb1 hs0
        go_wp2_with fail
        go_roundw
        case rel=>exact ⟨k+1,by omega,by go_num,Qh ⟨HJ.out.1.below HK1.out,fun x hx=>by
         rw [List.take_add_one,HRz.out] at hx
         rcases List.mem_append.1 hx with hx | hx
         ·exact HJ.out.2 x hx
         ·simp only [Option.toList,List.mem_singleton] at hx
          rw [hx]
          exact hc⟩⟩
        case measure=>simp [intOf];omega
       ·subst hc
        have HCm18:=Qh HCm.out
        go_upto_region 18 with fail
        refine wp_region_H (by kernel_rfl) (fun z0 K0 hs0=>?_)
        refine tH0 0 K0 ?_
        refine tH0 1 K0 ?_
        refine tH0 2 K0 ?_
        refine tH0 3 K0 ?_
        refine tH0 4 K0 ?_
        refine tH0 5 K0 ?_
        refine tH0 6 K0 ?_
        refine tH0 7 K0 ?_
        refine tH0 8 K0 ?_ (y:=fun z5 hS=>by have g0:=(Qc (a:=⟨go,k * 2,none⟩) (hS.block go hgo2)).trans HOv.out.1;have g1:=(Qc (a:=⟨go,k * 2+1,none⟩) (hS.block go hgo2)).trans HOv.out.2;(try simp only at g0 g1);go_simp;rfl)
        refine tH0 9 K0 ?_
        refine tH0 10 K0 ?_
        refine tH0 11 K0 ?_
        refine tH0 12 K0 ?_ (y:=fun z5 hS=>by have g0:=(HLc.out z5 (HJ.out.1.bel.trans (hS.mono HJ.out.1.le)) (i * 2)).trans HLv.out.1;have g1:=(HLc.out z5 (HJ.out.1.bel.trans (hS.mono HJ.out.1.le)) (i * 2+1)).trans HLv.out.2;(try simp only at g0 g1);go_simp;rfl)
        refine oH0 13 fun K hK=>?_
        go_simp
        (with_reducible refine (HCm18.out _ K0).mono ?_)
        rintro e z1 ⟨he,hb1⟩
        rw [cmpZ_same] at he
        subst he
        have K1:=Qt K0 hb1
        refine hK.out _ _ K1 ?_
        refine tH0 14 K1 ?_
        refine oH0 15 fun K hK=>?_
        go_simp
        refine hK.out _ _ K1 ?_
        refine wpAnyH_end (by kernel_rfl) ?_ _
        have HK1:=Qh K1
        have HJ2:=Qh (HJ.out.1.below K1)
        have hgo3:go<z1.heap.size:=Ql hgo2 K1.size
        have HOv2:=Qh (Qa ((Qc (a:=⟨go,k * 2,none⟩) (K1.block go hgo2)).trans HOv.out.1) ((Qc (a:=⟨go,k * 2+1,none⟩) (K1.block go hgo2)).trans HOv.out.2))
        have HCm20:=Qh (fun (z:World) (hz:Below z1.heap.size z1 z)=>HCm.out z (Qt HK1.out hz))
        clear K0 K1 hb1 hs0 HOv
        have HOv:=Qh HOv2.out
        clear HOv2
        go_upto_region 20 with fail
        refine wp_region_H (by kernel_rfl) (fun z0 K0 hs0=>?_)
        refine tH0 0 K0 ?_
        refine tH0 1 K0 ?_
        refine tH0 2 K0 ?_
        refine tH0 3 K0 ?_
        refine tH0 4 K0 ?_
        refine tH0 5 K0 ?_
        refine tH0 6 K0 ?_
        refine tH0 7 K0 ?_
        refine tH0 8 K0 ?_ (y:=fun z5 hS=>by have g0:=(Qc (a:=⟨go,k * 2,none⟩) (hS.block go hgo3)).trans HOv.out.1;have g1:=(Qc (a:=⟨go,k * 2+1,none⟩) (hS.block go hgo3)).trans HOv.out.2;(try simp only at g0 g1);go_simp;rfl)
        refine tH0 9 K0 ?_
        refine tH0 10 K0 ?_
        refine tH0 11 K0 ?_
        refine tH0 12 K0 ?_ (y:=fun z5 hS=>by have g0:=(HLc.out z5 (HJ2.out.bel.trans (hS.mono HJ2.out.le)) (i * 2)).trans HLv.out.1;have g1:=(HLc.out z5 (HJ2.out.bel.trans (hS.mono HJ2.out.le)) (i * 2+1)).trans HLv.out.2;(try simp only at g0 g1);go_simp;rfl)
        refine oH0 13 fun K hK=>?_
        go_simp
        (with_reducible refine (HCm20.out _ K0).mono ?_)
        rintro e z1 ⟨he,hb1⟩
        rw [cmpZ_same] at he
        subst he
        have K1:=Qt K0 hb1
        refine hK.out _ _ K1 ?_
        refine tH0 14 K1 ?_
        refine oH0 15 fun K hK=>?_
        go_simp
        refine hK.out _ _ K1 ?_
        refine wpAnyH_end (by kernel_rfl) ?_ _
        have HJ3:=Qh (HJ2.out.below K1)
        clear K0 K1 hb1 hs0
        go_wp2_with fail
        go_roundw
        case rel=>exact ⟨i+1,by omega,by omega,_,_,_,⟨rfl,rfl,rfl⟩,os,Qh (HJ3.out.skip HZi.out (List.mem_of_getElem? HRz.out))⟩
        case measure=>simp [intOf];omega
       ·have HCm18:=Qh HCm.out
        go_upto_region 18 with fail
        refine wp_region_H (by kernel_rfl) (fun z0 K0 hs0=>?_)
        refine tH0 0 K0 ?_
        refine tH0 1 K0 ?_
        refine tH0 2 K0 ?_
        refine tH0 3 K0 ?_
        refine tH0 4 K0 ?_
        refine tH0 5 K0 ?_
        refine tH0 6 K0 ?_
        refine tH0 7 K0 ?_
        refine tH0 8 K0 ?_ (y:=fun z5 hS=>by have g0:=(Qc (a:=⟨go,k * 2,none⟩) (hS.block go hgo2)).trans HOv.out.1;have g1:=(Qc (a:=⟨go,k * 2+1,none⟩) (hS.block go hgo2)).trans HOv.out.2;(try simp only at g0 g1);go_simp;rfl)
        refine tH0 9 K0 ?_
        refine tH0 10 K0 ?_
        refine tH0 11 K0 ?_
        refine tH0 12 K0 ?_ (y:=fun z5 hS=>by have g0:=(HLc.out z5 (HJ.out.1.bel.trans (hS.mono HJ.out.1.le)) (i * 2)).trans HLv.out.1;have g1:=(HLc.out z5 (HJ.out.1.bel.trans (hS.mono HJ.out.1.le)) (i * 2+1)).trans HLv.out.2;(try simp only at g0 g1);go_simp;rfl)
        refine oH0 13 fun K hK=>?_
        go_simp
        (with_reducible refine (HCm18.out _ K0).mono ?_)
        rintro e z1 ⟨he,hb1⟩
        rw [cmpZ_gt hc] at he
        subst he
        have K1:=Qt K0 hb1
        refine hK.out _ _ K1 ?_
        refine tH0 14 K1 ?_
        refine oH0 15 fun K hK=>?_
        go_simp
        refine hK.out _ _ K1 ?_
        refine wpAnyH_end (by kernel_rfl) ?_ _
        have HK1:=Qh K1
        have HJ2:=Qh (HJ.out.1.below K1)
        have hgo3:go<z1.heap.size:=Ql hgo2 K1.size
        have HOv2:=Qh (Qa ((Qc (a:=⟨go,k * 2,none⟩) (K1.block go hgo2)).trans HOv.out.1) ((Qc (a:=⟨go,k * 2+1,none⟩) (K1.block go hgo2)).trans HOv.out.2))
        have HCm20:=Qh (fun (z:World) (hz:Below z1.heap.size z1 z)=>HCm.out z (Qt HK1.out hz))
        clear K0 K1 hb1 hs0 HOv
        have HOv:=Qh HOv2.out
        clear HOv2
        go_upto_region 20 with fail
        refine wp_region_H (by kernel_rfl) (fun z0 K0 hs0=>?_)
        refine tH0 0 K0 ?_
        refine tH0 1 K0 ?_
        refine tH0 2 K0 ?_
        refine tH0 3 K0 ?_
        refine tH0 4 K0 ?_
        refine tH0 5 K0 ?_
        refine tH0 6 K0 ?_
        refine tH0 7 K0 ?_
        refine tH0 8 K0 ?_ (y:=fun z5 hS=>by have g0:=(Qc (a:=⟨go,k * 2,none⟩) (hS.block go hgo3)).trans HOv.out.1;have g1:=(Qc (a:=⟨go,k * 2+1,none⟩) (hS.block go hgo3)).trans HOv.out.2;(try simp only at g0 g1);go_simp;rfl)
        refine tH0 9 K0 ?_
        refine tH0 10 K0 ?_
        refine tH0 11 K0 ?_
        refine tH0 12 K0 ?_ (y:=fun z5 hS=>by have g0:=(HLc.out z5 (HJ2.out.bel.trans (hS.mono HJ2.out.le)) (i * 2)).trans HLv.out.1;have g1:=(HLc.out z5 (HJ2.out.bel.trans (hS.mono HJ2.out.le)) (i * 2+1)).trans HLv.out.2;(try simp only at g0 g1);go_simp;rfl)
        refine oH0 13 fun K hK=>?_
        go_simp
        (with_reducible refine (HCm20.out _ K0).mono ?_)
        rintro e z1 ⟨he,hb1⟩
        rw [cmpZ_gt hc] at he
        subst he
        have K1:=Qt K0 hb1
        refine hK.out _ _ K1 ?_
        refine tH0 14 K1 ?_
        refine oH0 15 fun K hK=>?_
        go_simp
        refine hK.out _ _ K1 ?_
        refine wpAnyH_end (by kernel_rfl) ?_ _
        have HJ3:=Qh (HJ2.out.below K1)
        have HUp:=Qh (show ∀ x,(os.map Bg.z)[k]?=some x→qz<x from fun x hx=>by
         rw [HRz.out] at hx
         injection hx with hx
         rw [←hx]
         exact hc)
        have HDn:=Qh HJ.out.2
        clear K0 K1 hb1 hs0 HJ HJ2 HCm HCm18 HCm20 HRs HOv HRz HSr HK1 hgo1 hgo2 hgo3
        have HQk:=Qh (show Bg.At wo (fun b=>b<C) ⟨qz,qA,qc⟩ from by
         have h1:=HKq.out
         exact LimB.keep h1 (fun b hb=>⟨by
          have h2:=HC.out
          rcases hb.1 with h3 | h3
          ·have:=HPB.out b h3;have:=HT.out.le;omega
          ·have:=h3.2;omega,rfl⟩))
        have HQ5:=Qh (LimB.keep (w':=z1) (Q:=fun b=>Or (fun b=>b<C) C z1 b∧(Value.slice (some ⟨go,0,none⟩) n3 c3).ownBlock≠some b) HQk.out (fun b hb=>⟨⟨.inl hb,HJ3.out.row.ne_old (.inl hb)⟩,HJ3.out.bel.block b hb⟩))
        have HLn3:=Qh (show n3+1≤maxRg by
         have h1:=HJ3.out.len
         have h2:=HMl.out
         have h3:=tnL_length L
         have h4:=HLl.out
         have h5:=HN9.out
         have h6:=HZ.out
         rw [←h6] at h2
         unfold maxRg
         omega)
        have l0:=(HLc.out _ HJ3.out.bel (i * 2)).trans HLv.out.1
        have l1:=(HLc.out _ HJ3.out.bel (i * 2+1)).trans HLv.out.2
        go_upto_region 22 with (at_builtin;refine wpList_app1PB (q:=⟨qz,qA,qc⟩) rfl _ _ rfl rfl rfl HJ3.out.row HJ3.out.le (fun _ h=>h) HQ5.out HLn3.out ?_;intro A6 c6 w8 hr8 hb8 hs8 hx8)
        have HR8:=Qh hr8
        have HB8:=Qh (Qa hb8 hs8)
        have HOl:=Qh HJ3.out.row.len
        obtain ⟨g6,rfl,hg61,hg62,hob6⟩:=HR8.out.some_ (by omega)
        have hcap6:=HR8.out.cap.1
        have hmax6:=HR8.out.cap.2
        unfold maxLen at hmax6
        have hwn:IntKind.i64.wrap (n3:Int)=(n3:Int):=IntWalk.i64_in _ (by omega)
        have hn0:(0:Int)≤(n3:Int):=by omega
        have HL0:=Qh (show Below C w8 w8∧w8.heap.size≤w8.heap.size∧BRow w8 C (Or (fun b=>b<C) C w8) (some ⟨g6,0,none⟩) (n3+1) c6 (os.take n3 ++ (⟨qz,qA,qc⟩:Bg) :: os.drop n3) from ⟨Below.refl _ _,Nat.le_refl _,by
         have h1:=HR8.out
         rw [List.take_of_length_le (by rw [HOl.out];exact Nat.le_refl _),List.drop_eq_nil_of_le (by rw [HOl.out];exact Nat.le_refl _)]
         exact h1⟩)
        clear hr8 hb8 hs8 hx8 l0 l1
        go_wp2_with fail
        go_loopw [10] (fun vj wr=>∃ (j:Nat) (x:Bg),k≤j∧j≤n3∧vj = .int .i64 (j:Nat)∧Hid (Below C w8 wr∧w8.heap.size≤wr.heap.size∧BRow wr C (Or (fun b=>b<C) C wr) (some ⟨g6,0,none⟩) (n3+1) c6 (os.take j ++ x :: os.drop j))) (fun vj _=>(intOf vj).toNat)
        case atStart=>exact ⟨n3,⟨qz,qA,qc⟩,by omega,Nat.le_refl _,by go_num,HL0⟩
        case round=>
         obtain ⟨j,x,hkj,hjn,rfl,HV⟩:=hrel
         clear HL0
         have hj0:(0:Int)≤(j:Int):=by omega
         have hjm:(j:Int)<(n3:Int)+1:=by omega
         have hg63:g6<wr.heap.size:=by have:=HV.out.2.1;omega
         by_cases hjk:k<j
         ·obtain ⟨p,hp⟩:∃ p,j=p+1:=⟨j - 1,by omega⟩
          obtain ⟨y,hy⟩:∃ y,os[p]?=some y:=⟨os[p]'(by have:=HOl.out;omega),by simp⟩
          have hjk2:(k:Int)<(j:Int):=by omega
          have hjp:(j:Int) - 1=(p:Int):=by omega
          have hwp:IntKind.i64.wrap (p:Int)=(p:Int):=IntWalk.i64_in _ (by omega)
          have hp0:(0:Int)≤(p:Int):=by omega
          have hpm:(p:Int)<(n3:Int)+1:=by omega
          have hgy:(os.take j ++ x :: os.drop j)[p]?=some y:=(mid_low (by omega) (by have:=HOl.out;omega)).trans hy
          obtain ⟨c0,c1⟩:=HV.out.2.2.cells_at hgy
          have HKy:=Qh (HV.out.2.2.kid y (List.mem_of_getElem? hgy))
          have f0:=HV.out.2.2.frozen (j * 2)
          have f1:=HV.out.2.2.frozen (j * 2+1)
          have HP2:=Qh (HV.out.2.2.put2 (fun b hb=>hb.elim (fun h=>by have h2:b<C:=h;have:=HJ3.out.le;have:=HB8.out.2;have:=HV.out.2.1;omega) (·.2)) (mid_get (by have:=HOl.out;omega)) HKy.out)
          obtain ⟨d0,d1⟩:=HV.out.2.2.cells_at (mid_get (os:=os) (k:=j) (x:=x) (by have:=HOl.out;omega))
          have HSh:=Qh (show (os.take j ++ x :: os.drop j).set j y=os.take p ++ y :: os.drop p by rw [hp];exact shift_one hy)
          have HPj:=Qh hp
          have hnj:¬(n3:Int)+1≤(j:Int):=by omega
          obtain ⟨yz,yA,yc⟩:=y
          simp only at c0 c1 HP2
          clear hgy hy hp
          go_wp2_with fail
          go_roundw
          case rel=>
           have h1:=HP2.out
           rw [HSh.out] at h1
           refine ⟨p,⟨yz,yA,yc⟩,by have:=HPj.out;omega,by have:=HPj.out;omega,by go_num,Qh ⟨HV.out.1.grown h1.2 (by have:=HJ3.out.le;have:=HB8.out.2;have:=HV.out.2.1;omega) (Qg (by omega)),Nat.le_trans HV.out.2.1 h1.2.size,h1.1.wide (fun b hb=>hb.imp id (fun k=>⟨k.1,Ql k.2 h1.2.size⟩))⟩⟩
          case measure=>simp [intOf];have:=HPj.out;omega
         ·have hjk2:¬(k:Int)<(j:Int):=by omega
          have hjk3:j=k:=by omega
          subst hjk3
          have HBo:=Qh (show Below C wo wr from (HJ3.out.bel.trans HB8.out.1).trans HV.out.1)
          have l0:=(HLc.out _ HBo.out (i * 2)).trans HLv.out.1
          have l1:=(HLc.out _ HBo.out (i * 2+1)).trans HLv.out.2
          have f0:=HV.out.2.2.frozen (j * 2)
          have f1:=HV.out.2.2.frozen (j * 2+1)
          have hglr:gl<wr.heap.size:=by have:=HJ3.out.le;have:=HB8.out.2;have:=HV.out.2.1;omega
          have HQr:=Qh (show Bg.At wr (fun b=>Or (fun b=>b<C) C wr b∧(Value.slice (some ⟨g6,0,none⟩) (n3+1) c6).ownBlock≠some b) ⟨qz,qA,qc⟩ from LimB.keep HQk.out (fun b hb=>⟨⟨.inl hb,HV.out.2.2.ne_old (.inl hb)⟩,HBo.out.block b hb⟩))
          have HP2:=Qh (HV.out.2.2.put2 (fun b hb=>hb.elim (fun h=>by have h2:b<C:=h;have:=HJ3.out.le;have:=HB8.out.2;have:=HV.out.2.1;omega) (·.2)) (mid_get (by have:=HOl.out;omega)) HQr.out)
          obtain ⟨d0,d1⟩:=HV.out.2.2.cells_at (mid_get (os:=os) (k:=j) (x:=x) (by have:=HOl.out;omega))
          simp only at HP2
          go_wp2_with fail
          go_roundw
          case rel=>
           have h1:=HP2.out
           rw [put_one (by have:=HOl.out;omega)] at h1
           exact ⟨i+1,by omega,by omega,_,_,_,⟨rfl,rfl,rfl⟩,_,Qh (HJ3.out.ins HZi.out HDn.out HUp.out HSq.out ((HB8.out.1.trans HV.out.1).grown h1.2 (by have:=HJ3.out.le;have:=HB8.out.2;have:=HV.out.2.1;omega) (Qg (by omega))) (by have:=HJ3.out.le;have:=HB8.out.2;have:=HV.out.2.1;have:=h1.2.size;omega) (h1.1.wide (fun b hb=>hb.imp id (fun k=>⟨k.1,Ql k.2 h1.2.size⟩))))⟩
          case measure=>simp [intOf];omega
      ·have hki:¬(k:Int)<(n3:Int):=by omega
       go_upto_region 18 with fail
       refine wp_region_H (by kernel_rfl) (fun z0 K0 hs0=>?_)
       refine tH0 0 K0 ?_
       refine tH0 1 K0 ?_
       refine tH0 2 K0 ?_
       refine tH0 3 K0 ?_
       refine tH0 4 K0 ?_
       refine tI0 5 K0 ?_
       refine tI0 6 K0 ?_
       refine tI0 7 K0 ?_
       refine tI0 8 K0 ?_
       refine tI0 9 K0 ?_
       refine tI0 10 K0 ?_
       refine tI0 11 K0 ?_
       refine tI0 12 K0 ?_
       refine tI0 13 K0 ?_
       refine tI0 14 K0 ?_
       refine oH0 15 fun K hK=>?_
       go_simp
       refine hK.out _ _ K0 ?_
       refine wpAnyH_end (by kernel_rfl) ?_ _
       have HJ2:=Qh (HJ.out.1.below K0)
       clear K0 hs0
       go_upto_region 20 with fail
       refine wp_region_H (by kernel_rfl) (fun z0 K0 hs0=>?_)
       refine tH0 0 K0 ?_
       refine tH0 1 K0 ?_
       refine tH0 2 K0 ?_
       refine tH0 3 K0 ?_
       refine tH0 4 K0 ?_
       refine tI0 5 K0 ?_
       refine tI0 6 K0 ?_
       refine tI0 7 K0 ?_
       refine tI0 8 K0 ?_
       refine tI0 9 K0 ?_
       refine tI0 10 K0 ?_
       refine tI0 11 K0 ?_
       refine tI0 12 K0 ?_
       refine tI0 13 K0 ?_
       refine tI0 14 K0 ?_
       refine oH0 15 fun K hK=>?_
       go_simp
       refine hK.out _ _ K0 ?_
       refine wpAnyH_end (by kernel_rfl) ?_ _
       have HJ3:=Qh (HJ2.out.below K0)
       have HUp:=Qh (show ∀ x,(os.map Bg.z)[k]?=some x→qz<x from fun x hx=>by
        rw [List.getElem?_eq_none (by rw [List.length_map,HJ3.out.row.len];omega)] at hx
        cases hx)
       have HDn:=Qh HJ.out.2
       clear K0 hs0 HJ HJ2
       have HQk:=Qh (show Bg.At wo (fun b=>b<C) ⟨qz,qA,qc⟩ from by
        have h1:=HKq.out
        exact LimB.keep h1 (fun b hb=>⟨by
         have h2:=HC.out
         rcases hb.1 with h3 | h3
         ·have:=HPB.out b h3;have:=HT.out.le;omega
         ·have:=h3.2;omega,rfl⟩))
       have HQ5:=Qh (LimB.keep (w':=z0) (Q:=fun b=>Or (fun b=>b<C) C z0 b∧(Value.slice A3 n3 c3).ownBlock≠some b) HQk.out (fun b hb=>⟨⟨.inl hb,HJ3.out.row.ne_old (.inl hb)⟩,HJ3.out.bel.block b hb⟩))
       have HLn3:=Qh (show n3+1≤maxRg by
        have h1:=HJ3.out.len
        have h2:=HMl.out
        have h3:=tnL_length L
        have h4:=HLl.out
        have h5:=HN9.out
        have h6:=HZ.out
        rw [←h6] at h2
        unfold maxRg
        omega)
       have l0:=(HLc.out _ HJ3.out.bel (i * 2)).trans HLv.out.1
       have l1:=(HLc.out _ HJ3.out.bel (i * 2+1)).trans HLv.out.2
       go_upto_region 22 with (at_builtin;refine wpList_app1PB (q:=⟨qz,qA,qc⟩) rfl _ _ rfl rfl rfl HJ3.out.row HJ3.out.le (fun _ h=>h) HQ5.out HLn3.out ?_;intro A6 c6 w8 hr8 hb8 hs8 hx8)
       have HR8:=Qh hr8
       have HB8:=Qh (Qa hb8 hs8)
       have HOl:=Qh HJ3.out.row.len
       obtain ⟨g6,rfl,hg61,hg62,hob6⟩:=HR8.out.some_ (by omega)
       have hcap6:=HR8.out.cap.1
       have hmax6:=HR8.out.cap.2
       unfold maxLen at hmax6
       have hwn:IntKind.i64.wrap (n3:Int)=(n3:Int):=IntWalk.i64_in _ (by omega)
       have hn0:(0:Int)≤(n3:Int):=by omega
       have HL0:=Qh (show Below C w8 w8∧w8.heap.size≤w8.heap.size∧BRow w8 C (Or (fun b=>b<C) C w8) (some ⟨g6,0,none⟩) (n3+1) c6 (os.take n3 ++ (⟨qz,qA,qc⟩:Bg) :: os.drop n3) from ⟨Below.refl _ _,Nat.le_refl _,by
        have h1:=HR8.out
        rw [List.take_of_length_le (by rw [HOl.out];exact Nat.le_refl _),List.drop_eq_nil_of_le (by rw [HOl.out];exact Nat.le_refl _)]
        exact h1⟩)
       clear hr8 hb8 hs8 hx8 l0 l1
       go_wp2_with fail
       go_loopw [10] (fun vj wr=>∃ (j:Nat) (x:Bg),k≤j∧j≤n3∧vj = .int .i64 (j:Nat)∧Hid (Below C w8 wr∧w8.heap.size≤wr.heap.size∧BRow wr C (Or (fun b=>b<C) C wr) (some ⟨g6,0,none⟩) (n3+1) c6 (os.take j ++ x :: os.drop j))) (fun vj _=>(intOf vj).toNat)
       case atStart=>exact ⟨n3,⟨qz,qA,qc⟩,by omega,Nat.le_refl _,by go_num,HL0⟩
       case round=>
        obtain ⟨j,x,hkj,hjn,rfl,HV⟩:=hrel
        clear HL0
        have hj0:(0:Int)≤(j:Int):=by omega
        have hjm:(j:Int)<(n3:Int)+1:=by omega
        have hg63:g6<wr.heap.size:=by have:=HV.out.2.1;omega
        by_cases hjk:k<j
        ·exact absurd hjk (by omega)
        ·have hjk2:¬(k:Int)<(j:Int):=by omega
         have hjk3:j=k:=by omega
         subst hjk3
         have HBo:=Qh (show Below C wo wr from (HJ3.out.bel.trans HB8.out.1).trans HV.out.1)
         have l0:=(HLc.out _ HBo.out (i * 2)).trans HLv.out.1
         have l1:=(HLc.out _ HBo.out (i * 2+1)).trans HLv.out.2
         have f0:=HV.out.2.2.frozen (j * 2)
         have f1:=HV.out.2.2.frozen (j * 2+1)
         have hglr:gl<wr.heap.size:=by have:=HJ3.out.le;have:=HB8.out.2;have:=HV.out.2.1;omega
         have HQr:=Qh (show Bg.At wr (fun b=>Or (fun b=>b<C) C wr b∧(Value.slice (some ⟨g6,0,none⟩) (n3+1) c6).ownBlock≠some b) ⟨qz,qA,qc⟩ from LimB.keep HQk.out (fun b hb=>⟨⟨.inl hb,HV.out.2.2.ne_old (.inl hb)⟩,HBo.out.block b hb⟩))
         have HP2:=Qh (HV.out.2.2.put2 (fun b hb=>hb.elim (fun h=>by have h2:b<C:=h;have:=HJ3.out.le;have:=HB8.out.2;have:=HV.out.2.1;omega) (·.2)) (mid_get (by have:=HOl.out;omega)) HQr.out)
         obtain ⟨d0,d1⟩:=HV.out.2.2.cells_at (mid_get (os:=os) (k:=j) (x:=x) (by have:=HOl.out;omega))
         simp only at HP2
         go_wp2_with fail
         go_roundw
         case rel=>
          have h1:=HP2.out
          rw [put_one (by have:=HOl.out;omega)] at h1
          exact ⟨i+1,by omega,by omega,_,_,_,⟨rfl,rfl,rfl⟩,_,Qh (HJ3.out.ins HZi.out HDn.out HUp.out HSq.out ((HB8.out.1.trans HV.out.1).grown h1.2 (by have:=HJ3.out.le;have:=HB8.out.2;have:=HV.out.2.1;omega) (Qg (by omega))) (by have:=HJ3.out.le;have:=HB8.out.2;have:=HV.out.2.1;have:=h1.2.size;omega) (h1.1.wide (fun b hb=>hb.imp id (fun k=>⟨k.1,Ql k.2 h1.2.size⟩))))⟩
         case measure=>simp [intOf];omega
    ·have hki:¬(i:Int)<(m:Int):=by omega
     have him2:i=m:=by omega
     have key:TurnsPostB B w L M (.returned (.slice A3 n3 c3)) wr:=⟨A3,n3,c3,os,rfl,(HI.out.row.lower (by have:=HC.out;have:=HT.out.le;omega)).wide (fun b hb=>hb.elim (fun h=>by have h2:b<C:=h;have:=HI.out.le;omega) (·.2)),HI.out.asc,fun x=>by
      rw [HI.out.mem,List.take_of_length_le (by have:=HMl.out;omega),HZ.out],by
      have h1:=HI.out.len
      have h2:=HMl.out
      have h3:=tnL_length L
      rw [HZ.out] at h3
      omega,HI.out.sz,HT.out.bel.trans (HI.out.bel.mono (by have:=HC.out;have:=HT.out.le;omega))⟩
     clear him2
     go_wp2_with fail
     exact bodyPost_ret (by simp [results,Tryz.results95,go_sem]) rfl key
theorem tnR_eq (r:R):numL r.1 ++ (numL r.2).map (· + 1)=tnR r:=by
 obtain ⟨a,b⟩:=r
 cases a <;> cases b <;> rfl
theorem rawT_eq (L:List R):rawT L=tnL L:=by
 unfold rawT tnL
 congr 1
 funext r
 exact tnR_eq r
theorem low_eq (L:List R):L.any lowR=Hf.lowB L:=by
 unfold Hf.lowB
 congr 1
 funext r
 obtain ⟨a,b⟩:=r
 cases a <;> cases b <;> simp [lowR,Hf.lowR,infZ]
theorem sweep_in {f:Int→Bool} {e:Ed} {x:Int} {t:List Int} (h:f x=true):sweep f (some e) (x :: t)=sweep f (some e) t:=if_pos h
theorem sweep_open {f:Int→Bool} {x:Int} {t:List Int} (h:f x=true):sweep f none (x :: t)=sweep f (some (.num x)) t:=if_pos h
theorem sweep_out {f:Int→Bool} {x:Int} {t:List Int} (h:f x=false):sweep f none (x :: t)=sweep f none t:=if_neg (by rw [h];exact Bool.false_ne_true)
theorem sweep_shut {f:Int→Bool} {e:Ed} {x:Int} {t:List Int} (h:f x=false):sweep f (some e) (x :: t)=(e,.num (x - 1)) :: sweep f none t:=if_neg (by rw [h];exact Bool.false_ne_true)
def BuiltPostB (B:Nat) (w:World) (L:List R) (e:Ending) (w':World):Prop:=
 ∃ A' n' c' qs,e = .returned (.slice A' n' c')∧SRow w' B (fun b=>b<w'.heap.size) A' n' c' qs∧NF (qs.map edsS)∧(∀ z,Hf.mem z (qs.map edsS)↔Hf.mem z L)∧Below B w w'
def BuiltPost (w:World) (L:List R) (e:Ending) (w':World):Prop:=BuiltPostB w.heap.size w L e w'
structure BL (w1:World) (C X:Nat) (F:Int→Bool) (T:List Int) (N:List R) (i:Nat) (op:Bool) (A:Option Addr) (m c:Nat) (qs:List Rg) (d:Bd) (e:Ed) (wr:World):Prop where
 bel:Below C w1 wr
 le:C+1≤wr.heap.size
 box:NBox wr X d
 lo:Sb wr (fun b=>b<C) e d
 row:SRow wr (C+1) (Or (fun b=>b<C) (C+1) wr) A m c qs
 len:m≤i
 val:N=qs.map edsS ++ sweep F (if op=true then some e else none) (T.drop i)
theorem BL.below {w1 wr w':World} {C X i m c:Nat} {F:Int→Bool} {T:List Int} {N:List R} {op:Bool} {A:Option Addr} {qs:List Rg} {d:Bd} {e:Ed} (h:BL w1 C X F T N i op A m c qs d e wr) (hb:Below wr.heap.size wr w'):BL w1 C X F T N i op A m c qs d e w':=
 ⟨h.bel.trans (hb.mono (by have:=h.le;omega)),Nat.le_trans h.le hb.size,h.box.below hb,h.lo.keep (fun b hb2=>⟨hb2,hb.block b (by have:=h.le;omega)⟩),h.row.up h.le (fun _ h=>by omega) hb,h.len,h.val⟩
theorem SRow.gro {w w':World} {C n c:Nat} {A:Option Addr} {qs:List Rg} (h:SRow w (C+1) (Or (fun b=>b<C) (C+1) w) A n c qs) (hC:C+1≤w.heap.size) (hg:w.grownBy w' (some C)):SRow w' (C+1) (Or (fun b=>b<C) (C+1) w') A n c qs:=
 (h.keepP (fun b h1 h2=>hg.block b h2 (fun e=>by injection e with e;omega)) (fun b hb=>hg.block b (by
  rcases hb with h1 | h1
  ·have h2:b<C:=h1;omega
  ·exact h1.2) (fun e=>by
  injection e with e
  rcases hb with h1 | h1
  ·have h2:b<C:=h1;omega
  ·have:=h1.1;omega))).wide (fun b hb=>hb.imp id (fun k=>⟨k.1,Ql k.2 hg.size⟩))
theorem BL.same {w1 wr:World} {C X i m c:Nat} {F:Int→Bool} {T:List Int} {N:List R} {op:Bool} {A:Option Addr} {qs:List Rg} {d:Bd} {e:Ed} (h:BL w1 C X F T N i op A m c qs d e wr) (hs:sweep F (if op=true then some e else none) (T.drop i)=sweep F (if op=true then some e else none) (T.drop (i+1))):BL w1 C X F T N (i+1) op A m c qs d e wr:=
 ⟨h.bel,h.le,h.box,h.lo,h.row,by have:=h.len;omega,by rw [←hs];exact h.val⟩
theorem built0_any {w:World} {P:Nat→Prop} {A:Option Addr} {n c M:Nat} {ps:List Rg} (h:RefS w P A n c ps) (hP:∀ b,P b→b<w.heap.size) (hM:Bn2 M (ps.map edsS)) (hM9:M≤999999990) (hn:n≤1000000000) :
  Calls Tryz.prog 71 #[.int .i64 0,.slice A n c,.slice none 0 0] w (BuiltPost w (ps.map edsS)):=by
 have HBa:=Qh (show Below w.heap.size w (w.alloc (.cells #[.slice A n c,.slice none 0 0] 29)) from Qb)
 have hnew:=heap_alloc_new w (.cells #[.slice A n c,.slice none 0 0] 29)
 have c0:(w.alloc (.cells #[.slice A n c,.slice none 0 0] 29)).cell? ⟨w.heap.size,0,none⟩=some (.slice A n c):=by rw [cell_of_row _ _ 0 _ _ (0,0) hnew];rfl
 have c1:(w.alloc (.cells #[.slice A n c,.slice none 0 0] 29)).cell? ⟨w.heap.size,1,none⟩=some (.slice none 0 0):=by rw [cell_of_row _ _ 1 _ _ (0,0) hnew];rfl
 have HT:=Qh (turns_any (cG:=2) (h.keep (Q:=fun b=>b<w.heap.size) (fun b hb=>⟨hP b hb,HBa.out.block b (hP b hb)⟩)) (fun b hb=>Ql hb HBa.out.size) c0 c1 (by simp) hM (by omega) hn)
 have HS:=Qh (h.keep (Q:=fun b=>b<w.heap.size) (w':=w) (fun b hb=>⟨hP b hb,rfl⟩))
 have HMn:=Qh (Qa hM (Qa hM9 hn))
 obtain ⟨L,hL⟩:∃ L,ps.map edsS=L:=⟨_,rfl⟩
 have HL:=Qh hL
 have HLl:=Qh (show L.length=n by rw [←hL,List.length_map];exact h.row.len)
 obtain ⟨B,hB⟩:∃ B,w.heap.size=B:=⟨_,rfl⟩
 have HB:=Qh hB
 have hz1:(w.alloc (.cells #[.slice A n c,.slice none 0 0] 29)).heap.size=w.heap.size+1:=by simp
 obtain ⟨om,hom⟩:∃ om:Int,om = -1:=⟨-1,rfl⟩
 have HOm:=Qh hom
 have HFm:=Qh (fun w1=>show Calls Tryz.prog 100 #[.int .i64 (-1)] w1 (PostB w1 om) from by rw [hom];exact Small_any (-1) (by omega) w1)
 have HSN:=Qh (fun (y:World)=>RefS.nil y (fun b=>b<B))
 rw [hL] at HT HMn ⊢
 unfold BuiltPost
 rw [hB] at HBa hz1 HS
 rw [hB]
 have HZ1:=Qh hz1
 clear h hP hM hM9 hn hL hnew c0 c1 hz1 hom
 go_enter Tryz.func71,Tryz.ntmps71
 go_wp2_with fail
 rw [hB] at HT
 clear hB
 (with_reducible refine HT.out.mono ?_)
 rintro e w2 ⟨A1,m,c1,bs,he,hr,hasc,hmem,hlen,hsz,hb2⟩
 subst he
 have HBt:=Qh (show Below B w w2 from HBa.out.trans (hb2.mono (by have:=HZ1.out;omega)))
 have HT2:=Qh (Qa hr (Qa hasc (Qa hmem (Qa hlen hsz))))
 have HSz:=Qh (show B+1≤w2.heap.size by have:=hb2.size;have:=HZ1.out;omega)
 clear hr hasc hmem hlen hsz hb2 HT HBa HZ1
 generalize (w.alloc (.cells #[.slice A n c,.slice none 0 0] 29))=w1 at *
 obtain ⟨C,hC⟩:∃ C,w2.heap.size=C:=⟨_,rfl⟩
 have HC:=Qh hC
 have HX:=Qh (NBox.new w2 ⟨0,false,none,0,0,[]⟩)
 have HBx:=Qh (show Below C w2 (w2.alloc (.cells (Bd.vals ⟨0,false,none,0,0,[]⟩).toArray 81)) from (Below.refl _ _).alloc (by omega) _)
 have HSS:=Qh (fun (y:World) (hy:Below C w2 y)=>HS.out.keep (w':=y) (Q:=fun b=>b<B) (fun b hb=>⟨hb,(hy.block b (by have:=HSz.out;omega)).trans (HBt.out.block b hb)⟩))
 have HLow:=Qh (fun (y:World) (hy:Below C w2 y)=>rLow_any (HSS.out y hy) (fun b hb=>by have:=HSz.out;have:=hy.size;omega))
 have HLow0:=Qh (fun (y:World) (hy:Below C w2 y)=>rLow_any (HSN.out y) (fun b hb=>by have:=HSz.out;have:=hy.size;omega))
 rw [HL.out] at HLow
 obtain ⟨lv,hlv⟩:∃ v,L.any lowR=v:=⟨_,rfl⟩
 rw [hlv] at HLow
 have HLv:=Qh hlv
 simp only [Bd.vals] at HX HBx
 rw [hC] at HX
 clear hC hlv
 go_wp2_with fail
 (with_reducible refine (HLow.out _ HBx.out).mono ?_)
 rintro e w3 ⟨he,hb3⟩
 subst he
 have HB3:=Qh (HBx.out.trans (hb3.mono (by have:=HBx.out.size;have:=HC.out;omega)))
 have HX3:=Qh (HX.out.below hb3)
 clear hb3
 go_wp2_with fail
 (with_reducible refine (HLow0.out _ HB3.out).mono ?_)
 rintro e w4 ⟨he,hb4⟩
 subst he
 have HB4:=Qh (HB3.out.trans (hb4.mono (by have:=HB3.out.size;have:=HC.out;omega)))
 have HX4:=Qh (HX3.out.below hb4)
 clear hb4 HB3 HX3 HX HBx
 go_wp2_with fail
 (with_reducible refine (rwanted0 lv false _).mono ?_)
 rintro e w5 ⟨he,hb5⟩
 subst he
 have HB5:=Qh (HB4.out.trans (hb5.mono (by have:=HB4.out.size;have:=HC.out;omega)))
 have HX5:=Qh (HX4.out.below hb5)
 clear hb5 HB4 HX4
 rw [Bool.or_false]
 rw [HC.out]
 obtain ⟨T,hT⟩:∃ T,bs.map Bg.z=T:=⟨_,rfl⟩
 obtain ⟨F,hF⟩:∃ F:Int→Bool,(fun z=>memB z L || memB z [])=F:=⟨_,rfl⟩
 obtain ⟨N,hN⟩:∃ N,sweep F (if lv=true then some .lo else none) T=N:=⟨_,rfl⟩
 have HNs:=Qh (show NF N∧∀ z,Hf.mem z N↔Hf.mem z L from by
  have h1:=built_spec (w:=fun a b=>a || b) (a:=L) (b:=[]) (t:=T) (hT ▸ HT2.out.2.1) (fun x hx=>by
   rw [rawT_eq] at hx
   rw [←hT]
   exact (HT2.out.2.2.1 x).2 hx) (by simp [rawT])
  have h2:builtP (fun a b=>a || b) L [] T=N:=by
   rw [←hN,←hF]
   unfold builtP
   rw [←HLv.out,low_eq]
   show sweep (fun z=>memB z L || memB z []) (if (Hf.lowB L || false)=true then some .lo else none) T=_
   rw [Bool.or_false]
  rw [h2] at h1
  refine ⟨h1.1,fun z=>(h1.2 z).trans ?_⟩
  rw [show memB z []=false from rfl,Bool.or_false,memB_iff])
 have HFz:=Qh (show ∀ z,F z=memB z L from fun z=>by rw [←hF];show (memB z L || memB z [])=_;rw [show memB z []=false from rfl,Bool.or_false])
 have HTb:=Qh hT
 have HTl:=Qh (show T.length=m by rw [←hT,List.length_map];exact HT2.out.1.len)
 have HNn:=Qh hN
 have hcm:=HT2.out.1.cap
 have hmx:=hcm.2
 unfold maxLen at hmx
 have HMx:=Qh (show m+1≤maxRg by have:=HT2.out.2.2.2.1;have:=HLl.out;have:=HMn.out.2.2;unfold maxRg;omega)
 obtain ⟨f0,f1,f2⟩:=HX5.out.frozens
 obtain ⟨y0,y1,y2⟩:=HX5.out.cells
 simp only at y0 y1 y2
 have hxl:=HX5.out.lt
 have HSz5:=Qh (show C≤w5.heap.size by have:=HB5.out.size;have:=HC.out;omega)
 clear hT hF hN
 cases lv
 ·have HB6:=Qh HB5.out
  have HBL0:=Qh (show BL w2 C C F T N 0 false none 0 0 [] ⟨0,false,none,0,0,[]⟩ (.num 0) w5 from ⟨HB6.out,hxl,HX5.out,⟨LimB.nil _ _ none (c:=0) (by simp [maxLen]),⟨none,0,by show _=Bd.mk 0 (decide ((0:Int)<0)) none (digs 2 (0:Int).natAbs).length 0 (digs 2 (0:Int).natAbs);rw [show (0:Int).natAbs=0 from rfl,digs_zero];rfl⟩,Nat.zero_le _⟩,SRow.nil _ _ _,Nat.le_refl _,by rw [←HNn.out];rfl⟩)
  clear f0 f1 f2 y0 y1 y2 hxl HX5
  go_wp2_with fail
  go_loopw [8,9,12] (fun vo vp vi wr=>∃ i A' m' c' qs op d e,i≤m∧vi = .int .i64 (i:Nat)∧vp = .bool op∧vo = .slice A' m' c'∧Hid (BL w2 C C F T N i op A' m' c' qs d e wr)) (fun _ _ vi _=>m - (intOf vi).toNat)
  case atStart=>exact ⟨0,none,0,0,[],false,_,_,Nat.zero_le _,rfl,rfl,rfl,HBL0⟩
  case round=>
   obtain ⟨i,A3,n3,c3,qs,op,⟨di,dg,dA,dn,dc,dl⟩,e0,hi,rfl,rfl,rfl,HI⟩:=hrel
   clear HBL0
   by_cases him:i<m
   ·obtain ⟨q,hq⟩:∃ q,bs[i]?=some q:=⟨bs[i]'(by have:=HT2.out.1.len;omega),by simp⟩
    obtain ⟨gt,hgt,hgt1,hgt2,_⟩:=HT2.out.1.some_ (by omega)
    subst hgt
    obtain ⟨l0,l1⟩:=HT2.out.1.cells_at hq
    have hgtC:gt<C:=by have:=HC.out;omega
    have HLc:=Qh (fun (z:World) (hz:Below C w2 z) (j:Nat)=>(Qc (a:=⟨gt,j,none⟩) (hz.block gt hgtC)))
    have HKq:=Qh (HT2.out.1.kid q (List.mem_of_getElem? hq))
    have HSq:=Qh (HT2.out.2.2.2.2 q (List.mem_of_getElem? hq))
    have hTi:T[i]?=some q.z:=by rw [←HTb.out,List.getElem?_map,hq];rfl
    have HDr:=Qh (show T.drop i=q.z :: T.drop (i+1) by
     rw [List.drop_eq_getElem_cons (by have:=HTl.out;omega),(List.getElem?_eq_some_iff.1 hTi).2])
    obtain ⟨qz,qA,qc⟩:=q
    have HKs:=Qh (show LimB w2 (fun b=>b<C) qA (digs 2 qz.natAbs).length qc (digs 2 qz.natAbs) from LimB.wide (show LimB w2 _ qA (digs 2 qz.natAbs).length qc (digs 2 qz.natAbs) from HKq.out) (fun b hb=>by have:=hb.1;have:=HC.out;omega))
    have HLv:=Qh (Qa l0 l1)
    have HSb:=Qh (fun (y:World) (hy:Below C w2 y)=>show Sb y (fun b=>b<C) (.num qz) (rb (.num qz) qA qc) from ⟨HKs.out.keep (fun b hb=>⟨hb,hy.block b hb⟩),⟨_,_,rfl⟩,Nat.le_trans HSq.out (by have:=HMn.out.2.1;omega)⟩)
    have HIn:=Qh (fun (y:World) (hy:Below C w2 y)=>rIn_any (HSS.out y hy) (fun b hb=>by have:=HSz.out;have:=hy.size;omega) (HSb.out y hy) (fun b hb=>by have:=hy.size;have:=HC.out;omega))
    have HIn0:=Qh (fun (y:World) (hy:Below C w2 y)=>rIn_any (HSN.out y) (fun b hb=>by have:=HSz.out;have:=hy.size;omega) (HSb.out y hy) (fun b hb=>by have:=hy.size;have:=HC.out;omega))
    rw [HL.out] at HIn
    obtain ⟨x,hx⟩:∃ x,L.any (inB qz)=x:=⟨_,rfl⟩
    rw [hx] at HIn
    have HFx:=Qh (show F qz=x from (HFz.out qz).trans hx)
    have hii:(i:Int)<(m:Int):=by omega
    have hi0:(0:Int)≤(i:Int):=by omega
    have HMi:=Qh (show n3+1≤maxRg by have:=HI.out.len;have:=HMx.out;omega)
    clear hq hTi hx l0 l1
    go_upto_region 12 with fail
    refine wp_region_H (by kernel_rfl) (fun z0 K0 hs0=>?_)
    refine tH0 0 K0 ?_
    refine tH0 1 K0 ?_
    refine tH0 2 K0 ?_
    refine tH0 3 K0 ?_
    refine tH0 4 K0 ?_
    refine tH0 5 K0 ?_ (y:=fun z5 hS=>by have g0:=(HLc.out z5 (HI.out.bel.trans (hS.mono (by have:=HI.out.le;omega))) (i * 2)).trans HLv.out.1;have g1:=(HLc.out z5 (HI.out.bel.trans (hS.mono (by have:=HI.out.le;omega))) (i * 2+1)).trans HLv.out.2;(try simp only at g0 g1);go_simp;rfl)
    refine tH0 7 K0 ?_
    refine tH0 8 K0 ?_
    refine tH0 9 K0 ?_
    refine tH0 10 K0 ?_
    refine tH0 11 K0 ?_ (y:=fun z5 hS=>by have g0:=(HLc.out z5 (HI.out.bel.trans (hS.mono (by have:=HI.out.le;omega))) (i * 2)).trans HLv.out.1;have g1:=(HLc.out z5 (HI.out.bel.trans (hS.mono (by have:=HI.out.le;omega))) (i * 2+1)).trans HLv.out.2;(try simp only at g0 g1);go_simp;rfl)
    refine oH0 6 fun K hK=>?_
    go_simp
    (with_reducible refine (HIn.out _ (HI.out.bel.trans (K0.mono (by have:=HI.out.le;omega)))).mono ?_)
    rintro e z1 ⟨he,hb1⟩
    subst he
    have K1:=Qt K0 hb1
    refine hK.out _ _ K1 ?_
    refine oH0 12 fun K hK=>?_
    go_simp
    (with_reducible refine (HIn0.out _ (HI.out.bel.trans (K1.mono (by have:=HI.out.le;omega)))).mono ?_)
    rintro e z2 ⟨he,hb2⟩
    subst he
    have K2:=Qt K1 hb2
    refine hK.out _ _ K2 ?_
    refine oH0 13 fun K hK=>?_
    go_simp
    (with_reducible refine (rwanted0 x false _).mono ?_)
    rintro e z3 ⟨he,hb3⟩
    subst he
    rw [Bool.or_false]
    have K3:=Qt K2 hb3
    refine hK.out _ _ K3 ?_
    refine oH0 14 fun K hK=>?_
    go_simp
    refine hK.out _ _ K3 ?_
    refine wpAnyH_end (by kernel_rfl) ?_ _
    have HJ:=Qh (HI.out.below K3)
    clear K0 K1 K2 K3 hb1 hb2 hb3 hs0 HI
    cases x
    ·cases op
     ·go_wp2_with fail
      go_roundw
      case rel=>exact ⟨i+1,A3,n3,c3,qs,false,⟨di,dg,dA,dn,dc,dl⟩,e0,by omega,by go_num,rfl,rfl,Qh (HJ.out.same (by rw [HDr.out];exact sweep_out HFx.out))⟩
      case measure=>simp [intOf];omega
     ·obtain ⟨y0,y1,y2⟩:=HJ.out.box.cells
      simp only at y0 y1 y2
      have hxl:=HJ.out.box.lt
      obtain ⟨zm,hzm⟩:∃ z,qz+om=z:=⟨_,rfl⟩
      have HZm:=Qh hzm
      have HZl:=Qh (show (digs 2 zm.natAbs).length≤M+2 by rw [←hzm,HOm.out];exact len2_up (-1) (by decide) HSq.out)
      have HOl:=Qh (show (digs 2 om.natAbs).length≤2000000000 by rw [HOm.out];exact Nat.le_trans (digs_length_le (k:=1) (by decide) (by decide)) (by omega))
      clear hzm
      go_upto_region 18 with fail
      refine wp_region_HB (C+1) (by kernel_rfl) (fun z0 K0 hs0=>?_)
      have S0:Below (C+1) z3 z0:=K0.mono HJ.out.le
      refine tH0 0 S0 ?_
      refine tH0 1 S0 ?_ (y:=fun z5 hS=>by obtain ⟨q0,q1,q2⟩:=(show NBox z5 C _ from (hS.block C (by omega)).trans HJ.out.box).cells;(try simp only at q0 q1 q2);go_simp;rfl)
      refine tH0 2 S0 ?_
      refine tH0 3 S0 ?_
      refine tH0 4 S0 ?_
      refine tH0 5 S0 ?_ (y:=fun z5 hS=>by have g0:=(HLc.out z5 (HJ.out.bel.trans (hS.mono (by omega))) (i * 2)).trans HLv.out.1;have g1:=(HLc.out z5 (HJ.out.bel.trans (hS.mono (by omega))) (i * 2+1)).trans HLv.out.2;(try simp only at g0 g1);go_simp;rfl)
      refine oH0 6 fun K hK=>?_
      go_simp
      (with_reducible refine (HFm.out _).mono ?_)
      rintro e z1 ⟨v,he,hr1,hb1⟩
      obtain ⟨A5,c5,rfl,ho5⟩:=hr1.at_
      subst he
      have K1:=Qt K0 hb1
      have S1:Below (C+1) z3 z1:=K1.mono HJ.out.le
      have hs5:SlI z1 z1.heap.size A5 (digs 2 om.natAbs).length c5 (digs 2 om.natAbs):=(show LimB z1 (Fr z0.heap.size z1) A5 (digs 2 om.natAbs).length c5 (digs 2 om.natAbs) from ho5).sl (fun b hb=>hb.2)
      have hsq:SlI z1 z1.heap.size qA (digs 2 qz.natAbs).length qc (digs 2 qz.natAbs):=(HKs.out.keep (Q:=fun b=>b<z1.heap.size) (fun b hb=>⟨by have:=S1.size;have:=HJ.out.le;omega,(S1.block b (by omega)).trans (HJ.out.bel.block b hb)⟩)).sl (fun b hb=>hb)
      refine hK.out _ _ S1 ?_
      refine oH0 7 fun K hK=>?_
      go_simp
      (with_reducible refine (rsum_dd (z:=zm) hsq hs5 (Nat.le_trans HSq.out (by have:=HMn.out.2.1;omega)) HOl.out (Nat.le_refl _) (Nat.le_refl _) HZm.out).mono ?_)
      rintro e z2 ⟨v,he,hr2,hb2⟩
      obtain ⟨A6,c6,rfl,ho6⟩:=hr2.at_
      subst he
      have K2:=Qt K1 hb2
      have S2:Below (C+1) z3 z2:=K2.mono HJ.out.le
      refine hK.out _ _ S2 ?_
      refine tH0 8 S2 ?_
      refine tH0 9 S2 ?_
      refine oH0 10 fun K hK=>?_
      go_simp
      have hz2:=K2.size
      have hz1:=K1.size
      have hle:=HJ.out.le
      have S3:Below (C+1) z3 (z2.alloc (.cells #[.int .i64 di,.bool dg,.slice dA dn dc,.int .i64 0,.bool (decide (zm<0)),.slice A6 (digs 2 zm.natAbs).length c6] 84)):=S2.alloc (by omega) _
      refine hK.out _ _ S3 ?_
      refine oH0 11 fun K hK=>?_
      have HR7:=Qh (HJ.out.below K2)
      have HSg:=Qh (show Sg z2 (fun b=>Or (fun b=>b<C) (C+1) z2 b∧(Value.slice A3 n3 c3).ownBlock≠some b) ((⟨di,dg,dA,dn,dc,dl⟩:Bd),rb (.num zm) A6 c6) from
       ⟨Sb.mk_ (HR7.out.lo.keep (fun b hb=>⟨⟨.inl hb,HJ.out.row.ne_old (.inl (by omega))⟩,rfl⟩)),
        Sb.mk_ (e:=.num zm) ⟨LimB.keep (show LimB z2 (Fr z1.heap.size z2) A6 (digs 2 zm.natAbs).length c6 (digs 2 zm.natAbs) from ho6) (fun b hb=>⟨⟨.inr ⟨by have:=hb.1;omega,hb.2⟩,HJ.out.row.ne_old (.inr (by have:=hb.1;omega))⟩,rfl⟩),⟨_,_,rfl⟩,Nat.le_trans HZl.out (by have:=HMn.out.2.1;omega)⟩⟩)
      refine step_app1PS (q:=((⟨di,dg,dA,dn,dc,dl⟩:Bd),rb (.num zm) A6 c6)) rfl _ _ rfl (by rfl) (by rfl) HR7.out.row HR7.out.le (fun b hb=>by omega) HSg.out HMi.out ?_
      intro A7 c7 w9 hr9 hb9 hs9 hx9
      have HS9:=Qh (show Below (C+1) z3 w9 from S2.trans hb9)
      have HR9:=Qh (Qa hr9 (show C+1≤w9.heap.size by omega))
      refine hK.out _ _ HS9.out ?_
      clear hs5 hsq K0 K1 K2 S0 S1 S2 S3 hb1 hb2 hb9 hs9 hr9 hx9 ho5 ho6 hr1 hr2 hs0 hz1 hz2 hle
      refine oH0 12 fun K hK=>?_
      go_simp
      refine hK.out _ _ HS9.out ?_
      refine wpAnyH_end (by kernel_rfl) ?_ _
      go_wp2_with fail
      go_roundw
      case rel=>exact ⟨i+1,A7,_,c7,_,false,⟨di,dg,dA,dn,dc,dl⟩,e0,by omega,by go_num,rfl,by go_num,Qh ⟨HJ.out.bel.trans (HS9.out.mono (by omega)),HR9.out.2,(HS9.out.block C (by omega)).trans HJ.out.box,HJ.out.lo.keep (fun b hb=>⟨hb,HS9.out.block b (by omega)⟩),HR9.out.1,by have:=HJ.out.len;omega,by
       have h1:=HJ.out.val
       rw [HDr.out,if_pos rfl,sweep_shut HFx.out] at h1
       rw [h1,List.map_append,List.append_assoc]
       congr 1
       show _=edsS _ :: _
       unfold edsS
       rw [HJ.out.lo.ed,rb_ed,show zm=qz - 1 by rw [←HZm.out,HOm.out];omega]
       rfl⟩⟩
      case measure=>simp [intOf];omega
    ·cases op
     ·obtain ⟨y0,y1,y2⟩:=HJ.out.box.cells
      obtain ⟨f0,f1,f2⟩:=HJ.out.box.frozens
      have l0:=(HLc.out _ HJ.out.bel (i * 2)).trans HLv.out.1
      have l1:=(HLc.out _ HJ.out.bel (i * 2+1)).trans HLv.out.2
      (try simp only at y0 y1 y2 l0 l1)
      have hxl:=HJ.out.box.lt
      have HSet:=Qh (HJ.out.box.set3 (rb (.num qz) qA qc))
      simp only [rb] at HSet
      go_wp2_with fail
      go_roundw
      case rel=>
       have hle:=HJ.out.le
       exact ⟨i+1,A3,n3,c3,qs,true,rb (.num qz) qA qc,.num qz,by omega,by go_num,rfl,rfl,Qh ⟨HJ.out.bel.grown HSet.out.2 (by omega) (Qg (by omega)),Nat.le_trans hle HSet.out.2.size,HSet.out.1,(HSb.out _ HJ.out.bel).keep (fun b hb=>⟨hb,HSet.out.2.block b (by omega) (fun e=>by injection e with e;omega)⟩),HJ.out.row.gro hle HSet.out.2,by have:=HJ.out.len;omega,by
        have h1:=HJ.out.val
        rw [HDr.out] at h1
        rw [h1]
        congr 1
        exact sweep_open HFx.out⟩⟩
      case measure=>simp [intOf];omega
     ·go_wp2_with fail
      go_roundw
      case rel=>exact ⟨i+1,A3,n3,c3,qs,true,⟨di,dg,dA,dn,dc,dl⟩,e0,by omega,by go_num,rfl,rfl,Qh (HJ.out.same (by rw [HDr.out];exact sweep_in HFx.out))⟩
      case measure=>simp [intOf];omega
   ·have hki:¬(i:Int)<(m:Int):=by omega
    have HTn:=Qh (show T.drop i = [] from List.drop_eq_nil_of_le (by have:=HTl.out;omega))
    have HFin:=Qh (fun (A':Option Addr) (n' c':Nat) (qs':List Rg) (u:World) (h1:SRow u (C+1) (Or (fun b=>b<C) (C+1) u) A' n' c' qs') (h2:N=qs'.map edsS) (h3:Below C w2 u) (h4:C+1≤u.heap.size)=>show BuiltPostB B w L (.returned (.slice A' n' c')) u from
     ⟨A',n',c',qs',rfl,(h1.lower (by have:=HC.out;have:=HSz.out;omega)).wide (fun b hb=>hb.elim (fun h=>by have h2:b<C:=h;omega) (·.2)),h2 ▸ HNs.out.1,fun z=>by rw [←h2];exact HNs.out.2 z,HBt.out.trans (h3.mono (by have:=HC.out;have:=HSz.out;omega))⟩)
    have HMi:=Qh (show n3+1≤maxRg by have:=HI.out.len;have:=HMx.out;omega)
    have HVal:=Qh HI.out.val
    rw [HTn.out] at HVal
    cases op
    ·have key:=HFin.out A3 n3 c3 qs wr HI.out.row (by rw [HVal.out];show _ ++ []=_;rw [List.append_nil]) HI.out.bel HI.out.le
     clear HFin
     go_wp2_with fail
     exact bodyPost_ret (by simp [results,Tryz.results71,go_sem]) rfl key
    ·obtain ⟨y0,y1,y2⟩:=HI.out.box.cells
     simp only at y0 y1 y2
     have hxl:=HI.out.box.lt
     have HSg:=Qh (show Sg wr (fun b=>Or (fun b=>b<C) (C+1) wr b∧(Value.slice A3 n3 c3).ownBlock≠some b) ((⟨di,dg,dA,dn,dc,dl⟩:Bd),rb .hi none 0) from
      ⟨Sb.mk_ (HI.out.lo.keep (fun b hb=>⟨⟨.inl hb,HI.out.row.ne_old (.inl (by omega))⟩,rfl⟩)),Sb.mk_ (sb_hi _ _)⟩)
     go_wp2_with (at_builtin;refine wpList_app1PS (q:=((⟨di,dg,dA,dn,dc,dl⟩:Bd),rb .hi none 0)) rfl _ _ rfl rfl rfl HI.out.row HI.out.le (fun b hb=>by omega) HSg.out HMi.out ?_;intro A7 c7 w9 hr9 hb9 hs9 hx9)
     have hle:=HI.out.le
     have key:=HFin.out A7 (n3+1) c7 _ w9 hr9 (by
      rw [HVal.out,List.map_append]
      congr 1
      show [_] = [edsS _]
      unfold edsS
      rw [HI.out.lo.ed,rb_ed]) (HI.out.bel.trans (hb9.mono (by omega))) (by omega)
     exact bodyPost_ret (by simp [results,Tryz.results71,go_sem]) rfl key
 ·have HSet:=Qh (HX5.out.set3 ⟨-1,false,none,0,0,[]⟩)
  simp only at HSet
  go_upto_region 9 with fail
  generalize ((w5.setCell ⟨C,0,none⟩ (.int .i64 (-1))).setCell ⟨C,1,none⟩ (.bool false)).setCell ⟨C,2,none⟩ (.slice none 0 0)=w6 at *
  have HB6:=Qh (show Below C w2 w6 from HB5.out.grown HSet.out.2 HSz5.out (Qg (by omega)))
  have HBL0:=Qh (show BL w2 C C F T N 0 true none 0 0 [] ⟨-1,false,none,0,0,[]⟩ .lo w6 from ⟨HB6.out,Nat.le_trans hxl HSet.out.2.size,HSet.out.1,sb_lo _ _,SRow.nil _ _ _,Nat.le_refl _,by rw [←HNn.out];rfl⟩)
  clear f0 f1 f2 y0 y1 y2 hxl HX5
  go_wp2_with fail
  go_loopw [8,9,12] (fun vo vp vi wr=>∃ i A' m' c' qs op d e,i≤m∧vi = .int .i64 (i:Nat)∧vp = .bool op∧vo = .slice A' m' c'∧Hid (BL w2 C C F T N i op A' m' c' qs d e wr)) (fun _ _ vi _=>m - (intOf vi).toNat)
  case atStart=>exact ⟨0,none,0,0,[],true,_,_,Nat.zero_le _,rfl,rfl,rfl,HBL0⟩
  case round=>
   obtain ⟨i,A3,n3,c3,qs,op,⟨di,dg,dA,dn,dc,dl⟩,e0,hi,rfl,rfl,rfl,HI⟩:=hrel
   clear HBL0
   by_cases him:i<m
   ·obtain ⟨q,hq⟩:∃ q,bs[i]?=some q:=⟨bs[i]'(by have:=HT2.out.1.len;omega),by simp⟩
    obtain ⟨gt,hgt,hgt1,hgt2,_⟩:=HT2.out.1.some_ (by omega)
    subst hgt
    obtain ⟨l0,l1⟩:=HT2.out.1.cells_at hq
    have hgtC:gt<C:=by have:=HC.out;omega
    have HLc:=Qh (fun (z:World) (hz:Below C w2 z) (j:Nat)=>(Qc (a:=⟨gt,j,none⟩) (hz.block gt hgtC)))
    have HKq:=Qh (HT2.out.1.kid q (List.mem_of_getElem? hq))
    have HSq:=Qh (HT2.out.2.2.2.2 q (List.mem_of_getElem? hq))
    have hTi:T[i]?=some q.z:=by rw [←HTb.out,List.getElem?_map,hq];rfl
    have HDr:=Qh (show T.drop i=q.z :: T.drop (i+1) by
     rw [List.drop_eq_getElem_cons (by have:=HTl.out;omega),(List.getElem?_eq_some_iff.1 hTi).2])
    obtain ⟨qz,qA,qc⟩:=q
    have HKs:=Qh (show LimB w2 (fun b=>b<C) qA (digs 2 qz.natAbs).length qc (digs 2 qz.natAbs) from LimB.wide (show LimB w2 _ qA (digs 2 qz.natAbs).length qc (digs 2 qz.natAbs) from HKq.out) (fun b hb=>by have:=hb.1;have:=HC.out;omega))
    have HLv:=Qh (Qa l0 l1)
    have HSb:=Qh (fun (y:World) (hy:Below C w2 y)=>show Sb y (fun b=>b<C) (.num qz) (rb (.num qz) qA qc) from ⟨HKs.out.keep (fun b hb=>⟨hb,hy.block b hb⟩),⟨_,_,rfl⟩,Nat.le_trans HSq.out (by have:=HMn.out.2.1;omega)⟩)
    have HIn:=Qh (fun (y:World) (hy:Below C w2 y)=>rIn_any (HSS.out y hy) (fun b hb=>by have:=HSz.out;have:=hy.size;omega) (HSb.out y hy) (fun b hb=>by have:=hy.size;have:=HC.out;omega))
    have HIn0:=Qh (fun (y:World) (hy:Below C w2 y)=>rIn_any (HSN.out y) (fun b hb=>by have:=HSz.out;have:=hy.size;omega) (HSb.out y hy) (fun b hb=>by have:=hy.size;have:=HC.out;omega))
    rw [HL.out] at HIn
    obtain ⟨x,hx⟩:∃ x,L.any (inB qz)=x:=⟨_,rfl⟩
    rw [hx] at HIn
    have HFx:=Qh (show F qz=x from (HFz.out qz).trans hx)
    have hii:(i:Int)<(m:Int):=by omega
    have hi0:(0:Int)≤(i:Int):=by omega
    have HMi:=Qh (show n3+1≤maxRg by have:=HI.out.len;have:=HMx.out;omega)
    clear hq hTi hx l0 l1
    go_upto_region 12 with fail
    refine wp_region_H (by kernel_rfl) (fun z0 K0 hs0=>?_)
    refine tH0 0 K0 ?_
    refine tH0 1 K0 ?_
    refine tH0 2 K0 ?_
    refine tH0 3 K0 ?_
    refine tH0 4 K0 ?_
    refine tH0 5 K0 ?_ (y:=fun z5 hS=>by have g0:=(HLc.out z5 (HI.out.bel.trans (hS.mono (by have:=HI.out.le;omega))) (i * 2)).trans HLv.out.1;have g1:=(HLc.out z5 (HI.out.bel.trans (hS.mono (by have:=HI.out.le;omega))) (i * 2+1)).trans HLv.out.2;(try simp only at g0 g1);go_simp;rfl)
    refine tH0 7 K0 ?_
    refine tH0 8 K0 ?_
    refine tH0 9 K0 ?_
    refine tH0 10 K0 ?_
    refine tH0 11 K0 ?_ (y:=fun z5 hS=>by have g0:=(HLc.out z5 (HI.out.bel.trans (hS.mono (by have:=HI.out.le;omega))) (i * 2)).trans HLv.out.1;have g1:=(HLc.out z5 (HI.out.bel.trans (hS.mono (by have:=HI.out.le;omega))) (i * 2+1)).trans HLv.out.2;(try simp only at g0 g1);go_simp;rfl)
    refine oH0 6 fun K hK=>?_
    go_simp
    (with_reducible refine (HIn.out _ (HI.out.bel.trans (K0.mono (by have:=HI.out.le;omega)))).mono ?_)
    rintro e z1 ⟨he,hb1⟩
    subst he
    have K1:=Qt K0 hb1
    refine hK.out _ _ K1 ?_
    refine oH0 12 fun K hK=>?_
    go_simp
    (with_reducible refine (HIn0.out _ (HI.out.bel.trans (K1.mono (by have:=HI.out.le;omega)))).mono ?_)
    rintro e z2 ⟨he,hb2⟩
    subst he
    have K2:=Qt K1 hb2
    refine hK.out _ _ K2 ?_
    refine oH0 13 fun K hK=>?_
    go_simp
    (with_reducible refine (rwanted0 x false _).mono ?_)
    rintro e z3 ⟨he,hb3⟩
    subst he
    rw [Bool.or_false]
    have K3:=Qt K2 hb3
    refine hK.out _ _ K3 ?_
    refine oH0 14 fun K hK=>?_
    go_simp
    refine hK.out _ _ K3 ?_
    refine wpAnyH_end (by kernel_rfl) ?_ _
    have HJ:=Qh (HI.out.below K3)
    clear K0 K1 K2 K3 hb1 hb2 hb3 hs0 HI
    cases x
    ·cases op
     ·go_wp2_with fail
      go_roundw
      case rel=>exact ⟨i+1,A3,n3,c3,qs,false,⟨di,dg,dA,dn,dc,dl⟩,e0,by omega,by go_num,rfl,rfl,Qh (HJ.out.same (by rw [HDr.out];exact sweep_out HFx.out))⟩
      case measure=>simp [intOf];omega
     ·obtain ⟨y0,y1,y2⟩:=HJ.out.box.cells
      simp only at y0 y1 y2
      have hxl:=HJ.out.box.lt
      obtain ⟨zm,hzm⟩:∃ z,qz+om=z:=⟨_,rfl⟩
      have HZm:=Qh hzm
      have HZl:=Qh (show (digs 2 zm.natAbs).length≤M+2 by rw [←hzm,HOm.out];exact len2_up (-1) (by decide) HSq.out)
      have HOl:=Qh (show (digs 2 om.natAbs).length≤2000000000 by rw [HOm.out];exact Nat.le_trans (digs_length_le (k:=1) (by decide) (by decide)) (by omega))
      clear hzm
      go_upto_region 18 with fail
      refine wp_region_HB (C+1) (by kernel_rfl) (fun z0 K0 hs0=>?_)
      have S0:Below (C+1) z3 z0:=K0.mono HJ.out.le
      refine tH0 0 S0 ?_
      refine tH0 1 S0 ?_ (y:=fun z5 hS=>by obtain ⟨q0,q1,q2⟩:=(show NBox z5 C _ from (hS.block C (by omega)).trans HJ.out.box).cells;(try simp only at q0 q1 q2);go_simp;rfl)
      refine tH0 2 S0 ?_
      refine tH0 3 S0 ?_
      refine tH0 4 S0 ?_
      refine tH0 5 S0 ?_ (y:=fun z5 hS=>by have g0:=(HLc.out z5 (HJ.out.bel.trans (hS.mono (by omega))) (i * 2)).trans HLv.out.1;have g1:=(HLc.out z5 (HJ.out.bel.trans (hS.mono (by omega))) (i * 2+1)).trans HLv.out.2;(try simp only at g0 g1);go_simp;rfl)
      refine oH0 6 fun K hK=>?_
      go_simp
      (with_reducible refine (HFm.out _).mono ?_)
      rintro e z1 ⟨v,he,hr1,hb1⟩
      obtain ⟨A5,c5,rfl,ho5⟩:=hr1.at_
      subst he
      have K1:=Qt K0 hb1
      have S1:Below (C+1) z3 z1:=K1.mono HJ.out.le
      have hs5:SlI z1 z1.heap.size A5 (digs 2 om.natAbs).length c5 (digs 2 om.natAbs):=(show LimB z1 (Fr z0.heap.size z1) A5 (digs 2 om.natAbs).length c5 (digs 2 om.natAbs) from ho5).sl (fun b hb=>hb.2)
      have hsq:SlI z1 z1.heap.size qA (digs 2 qz.natAbs).length qc (digs 2 qz.natAbs):=(HKs.out.keep (Q:=fun b=>b<z1.heap.size) (fun b hb=>⟨by have:=S1.size;have:=HJ.out.le;omega,(S1.block b (by omega)).trans (HJ.out.bel.block b hb)⟩)).sl (fun b hb=>hb)
      refine hK.out _ _ S1 ?_
      refine oH0 7 fun K hK=>?_
      go_simp
      (with_reducible refine (rsum_dd (z:=zm) hsq hs5 (Nat.le_trans HSq.out (by have:=HMn.out.2.1;omega)) HOl.out (Nat.le_refl _) (Nat.le_refl _) HZm.out).mono ?_)
      rintro e z2 ⟨v,he,hr2,hb2⟩
      obtain ⟨A6,c6,rfl,ho6⟩:=hr2.at_
      subst he
      have K2:=Qt K1 hb2
      have S2:Below (C+1) z3 z2:=K2.mono HJ.out.le
      refine hK.out _ _ S2 ?_
      refine tH0 8 S2 ?_
      refine tH0 9 S2 ?_
      refine oH0 10 fun K hK=>?_
      go_simp
      have hz2:=K2.size
      have hz1:=K1.size
      have hle:=HJ.out.le
      have S3:Below (C+1) z3 (z2.alloc (.cells #[.int .i64 di,.bool dg,.slice dA dn dc,.int .i64 0,.bool (decide (zm<0)),.slice A6 (digs 2 zm.natAbs).length c6] 84)):=S2.alloc (by omega) _
      refine hK.out _ _ S3 ?_
      refine oH0 11 fun K hK=>?_
      have HR7:=Qh (HJ.out.below K2)
      have HSg:=Qh (show Sg z2 (fun b=>Or (fun b=>b<C) (C+1) z2 b∧(Value.slice A3 n3 c3).ownBlock≠some b) ((⟨di,dg,dA,dn,dc,dl⟩:Bd),rb (.num zm) A6 c6) from
       ⟨Sb.mk_ (HR7.out.lo.keep (fun b hb=>⟨⟨.inl hb,HJ.out.row.ne_old (.inl (by omega))⟩,rfl⟩)),
        Sb.mk_ (e:=.num zm) ⟨LimB.keep (show LimB z2 (Fr z1.heap.size z2) A6 (digs 2 zm.natAbs).length c6 (digs 2 zm.natAbs) from ho6) (fun b hb=>⟨⟨.inr ⟨by have:=hb.1;omega,hb.2⟩,HJ.out.row.ne_old (.inr (by have:=hb.1;omega))⟩,rfl⟩),⟨_,_,rfl⟩,Nat.le_trans HZl.out (by have:=HMn.out.2.1;omega)⟩⟩)
      refine step_app1PS (q:=((⟨di,dg,dA,dn,dc,dl⟩:Bd),rb (.num zm) A6 c6)) rfl _ _ rfl (by rfl) (by rfl) HR7.out.row HR7.out.le (fun b hb=>by omega) HSg.out HMi.out ?_
      intro A7 c7 w9 hr9 hb9 hs9 hx9
      have HS9:=Qh (show Below (C+1) z3 w9 from S2.trans hb9)
      have HR9:=Qh (Qa hr9 (show C+1≤w9.heap.size by omega))
      refine hK.out _ _ HS9.out ?_
      clear hs5 hsq K0 K1 K2 S0 S1 S2 S3 hb1 hb2 hb9 hs9 hr9 hx9 ho5 ho6 hr1 hr2 hs0 hz1 hz2 hle
      refine oH0 12 fun K hK=>?_
      go_simp
      refine hK.out _ _ HS9.out ?_
      refine wpAnyH_end (by kernel_rfl) ?_ _
      go_wp2_with fail
      go_roundw
      case rel=>exact ⟨i+1,A7,_,c7,_,false,⟨di,dg,dA,dn,dc,dl⟩,e0,by omega,by go_num,rfl,by go_num,Qh ⟨HJ.out.bel.trans (HS9.out.mono (by omega)),HR9.out.2,(HS9.out.block C (by omega)).trans HJ.out.box,HJ.out.lo.keep (fun b hb=>⟨hb,HS9.out.block b (by omega)⟩),HR9.out.1,by have:=HJ.out.len;omega,by
       have h1:=HJ.out.val
       rw [HDr.out,if_pos rfl,sweep_shut HFx.out] at h1
       rw [h1,List.map_append,List.append_assoc]
       congr 1
       show _=edsS _ :: _
       unfold edsS
       rw [HJ.out.lo.ed,rb_ed,show zm=qz - 1 by rw [←HZm.out,HOm.out];omega]
       rfl⟩⟩
      case measure=>simp [intOf];omega
    ·cases op
     ·obtain ⟨y0,y1,y2⟩:=HJ.out.box.cells
      obtain ⟨f0,f1,f2⟩:=HJ.out.box.frozens
      have l0:=(HLc.out _ HJ.out.bel (i * 2)).trans HLv.out.1
      have l1:=(HLc.out _ HJ.out.bel (i * 2+1)).trans HLv.out.2
      (try simp only at y0 y1 y2 l0 l1)
      have hxl:=HJ.out.box.lt
      have HSet:=Qh (HJ.out.box.set3 (rb (.num qz) qA qc))
      simp only [rb] at HSet
      go_wp2_with fail
      go_roundw
      case rel=>
       have hle:=HJ.out.le
       exact ⟨i+1,A3,n3,c3,qs,true,rb (.num qz) qA qc,.num qz,by omega,by go_num,rfl,rfl,Qh ⟨HJ.out.bel.grown HSet.out.2 (by omega) (Qg (by omega)),Nat.le_trans hle HSet.out.2.size,HSet.out.1,(HSb.out _ HJ.out.bel).keep (fun b hb=>⟨hb,HSet.out.2.block b (by omega) (fun e=>by injection e with e;omega)⟩),HJ.out.row.gro hle HSet.out.2,by have:=HJ.out.len;omega,by
        have h1:=HJ.out.val
        rw [HDr.out] at h1
        rw [h1]
        congr 1
        exact sweep_open HFx.out⟩⟩
      case measure=>simp [intOf];omega
     ·go_wp2_with fail
      go_roundw
      case rel=>exact ⟨i+1,A3,n3,c3,qs,true,⟨di,dg,dA,dn,dc,dl⟩,e0,by omega,by go_num,rfl,rfl,Qh (HJ.out.same (by rw [HDr.out];exact sweep_in HFx.out))⟩
      case measure=>simp [intOf];omega
   ·have hki:¬(i:Int)<(m:Int):=by omega
    have HTn:=Qh (show T.drop i = [] from List.drop_eq_nil_of_le (by have:=HTl.out;omega))
    have HFin:=Qh (fun (A':Option Addr) (n' c':Nat) (qs':List Rg) (u:World) (h1:SRow u (C+1) (Or (fun b=>b<C) (C+1) u) A' n' c' qs') (h2:N=qs'.map edsS) (h3:Below C w2 u) (h4:C+1≤u.heap.size)=>show BuiltPostB B w L (.returned (.slice A' n' c')) u from
     ⟨A',n',c',qs',rfl,(h1.lower (by have:=HC.out;have:=HSz.out;omega)).wide (fun b hb=>hb.elim (fun h=>by have h2:b<C:=h;omega) (·.2)),h2 ▸ HNs.out.1,fun z=>by rw [←h2];exact HNs.out.2 z,HBt.out.trans (h3.mono (by have:=HC.out;have:=HSz.out;omega))⟩)
    have HMi:=Qh (show n3+1≤maxRg by have:=HI.out.len;have:=HMx.out;omega)
    have HVal:=Qh HI.out.val
    rw [HTn.out] at HVal
    cases op
    ·have key:=HFin.out A3 n3 c3 qs wr HI.out.row (by rw [HVal.out];show _ ++ []=_;rw [List.append_nil]) HI.out.bel HI.out.le
     clear HFin
     go_wp2_with fail
     exact bodyPost_ret (by simp [results,Tryz.results71,go_sem]) rfl key
    ·obtain ⟨y0,y1,y2⟩:=HI.out.box.cells
     simp only at y0 y1 y2
     have hxl:=HI.out.box.lt
     have HSg:=Qh (show Sg wr (fun b=>Or (fun b=>b<C) (C+1) wr b∧(Value.slice A3 n3 c3).ownBlock≠some b) ((⟨di,dg,dA,dn,dc,dl⟩:Bd),rb .hi none 0) from
      ⟨Sb.mk_ (HI.out.lo.keep (fun b hb=>⟨⟨.inl hb,HI.out.row.ne_old (.inl (by omega))⟩,rfl⟩)),Sb.mk_ (sb_hi _ _)⟩)
     go_wp2_with (at_builtin;refine wpList_app1PS (q:=((⟨di,dg,dA,dn,dc,dl⟩:Bd),rb .hi none 0)) rfl _ _ rfl rfl rfl HI.out.row HI.out.le (fun b hb=>by omega) HSg.out HMi.out ?_;intro A7 c7 w9 hr9 hb9 hs9 hx9)
     have hle:=HI.out.le
     have key:=HFin.out A7 (n3+1) c7 _ w9 hr9 (by
      rw [HVal.out,List.map_append]
      congr 1
      show [_] = [edsS _]
      unfold edsS
      rw [HI.out.lo.ed,rb_ed]) (HI.out.bel.trans (hb9.mono (by omega))) (by omega)
     exact bodyPost_ret (by simp [results,Tryz.results71,go_sem]) rfl key
structure RefI (w:World) (P:Nat→Prop) (A:Option Addr) (n c:Nat) (ps:List Rg):Prop where
 set:RefS w P A n c ps
 sz:Bn2 999999990 (ps.map edsS)
 len:n≤1000000000
theorem RefI.keep {w w':World} {P Q:Nat→Prop} {A:Option Addr} {n c:Nat} {ps:List Rg} (h:RefI w P A n c ps) (hb:∀ b,P b→Q b∧w'.heap[b]?=w.heap[b]?):RefI w' Q A n c ps:=⟨h.set.keep hb,h.sz,h.len⟩
theorem rNormal_any {w:World} {P:Nat→Prop} {A:Option Addr} {n c:Nat} {ps:List Rg} (h:RefI w P A n c ps) (hP:∀ b,P b→b<w.heap.size) :
  Calls Tryz.prog 34 #[.slice A n c] w (BuiltPost w (ps.map edsS)):=by
 have HB:=Qh (built0_any h.set hP h.sz (Nat.le_refl _) h.len)
 unfold BuiltPost at *
 generalize w.heap.size=B at *
 clear h hP
 go_enter Tryz.func34,Tryz.ntmps34
 go_wp2_with fail
 (with_reducible refine HB.out.mono ?_)
 rintro e w2 ⟨A1,n1,c1,qs,he,hr⟩
 subst he
 have key:BuiltPostB B w (ps.map edsS) (.returned (.slice A1 n1 c1)) w2:=⟨A1,n1,c1,qs,rfl,hr⟩
 clear hr
 go_wp2_with fail
 exact bodyPost_ret (by simp [results,Tryz.results34,go_sem]) rfl key
def tkC (L N:List R):Int:=if L.any lngS=true then 10 else if 1000<N.length then 90 else 0
def RTakeB (B:Nat) (w:World) (L:List R) (e:Ending) (w':World):Prop:=∃ k,e = .returned (.int .i64 k)∧(L.any lngS=true→k=10)∧(∀ N,NF N→(∀ z,Hf.mem z N↔Hf.mem z L)→k=tkC L N)∧Below B w w'
def RTake (w:World) (L:List R) (e:Ending) (w':World):Prop:=RTakeB w.heap.size w L e w'
theorem rTake_any {w:World} {P:Nat→Prop} {A:Option Addr} {n c G cG:Nat} {ps:List Rg} (h:RefI w P A n c ps) (hP:∀ b,P b→b<w.heap.size) (h0:w.cell? ⟨G,0,none⟩=some (.slice A n c)) (hG:G<w.heap.size) :
  Calls Tryz.prog 7 #[.slice none 0 0,.slice (some ⟨G,0,none⟩) 1 cG] w (RTake w (ps.map edsS)):=by
 obtain ⟨B,hB⟩:∃ B,w.heap.size=B:=⟨_,rfl⟩
 have HB:=Qh hB
 have HS:=Qh (fun (y:World) (hy:Below B w y)=>h.keep (w':=y) (Q:=fun b=>b<B) (fun b hb=>⟨by have:=hP b hb;omega,hy.block b (by have:=hP b hb;omega)⟩))
 have HLg:=Qh (fun (y:World) (hy:Below B w y)=>rLong_set (HS.out y hy).set (fun b hb=>by have:=hy.size;omega))
 have HNm:=Qh (fun (y:World) (hy:Below B w y)=>rNormal_any (HS.out y hy) (fun b hb=>by have:=hy.size;omega))
 have HCl:=Qh (fun (y:World) (hy:Below B w y)=>(Qc (a:=⟨G,0,none⟩) (hy.block G (by omega))).trans h0)
 obtain ⟨L,hL⟩:∃ L,ps.map edsS=L:=⟨_,rfl⟩
 rw [hL] at HLg HNm ⊢
 have HI0:=Qh (Below.refl B w)
 unfold RTake
 rw [hB]
 clear h hP h0 hG hB hL HS
 go_enter Tryz.func7,Tryz.ntmps7
 go_wp2_with fail
 go_loopw [5] (fun vi wr=>∃ i,i≤1∧vi = .int .i64 (i:Nat)∧Hid (Below B w wr∧(1≤i→L.any lngS=false))) (fun vi _=>1 - (intOf vi).toNat)
 case atStart=>exact ⟨0,Nat.zero_le _,rfl,Qh ⟨HI0.out,fun h=>by omega⟩⟩
 case round=>
  obtain ⟨i,hi,rfl,HI⟩:=hrel
  clear HI0
  rcases (by omega:i=0∨i=1) with rfl | h1
  ·have x0:=HCl.out _ HI.out.1
   go_wp2_with fail
   (with_reducible refine (HLg.out _ HI.out.1).mono ?_)
   rintro e w1 ⟨he,hb1⟩
   subst he
   have HB1:=Qh (HI.out.1.trans (hb1.mono (by have:=HI.out.1.size;have:=HB.out;omega)))
   clear x0 hb1
   obtain ⟨lv,hlv⟩:∃ v,L.any lngS=v:=⟨_,rfl⟩
   rw [hlv]
   have HLv:=Qh hlv
   clear hlv
   cases lv
   ·go_wp2_with fail
    go_roundw
    case rel=>exact ⟨1,by omega,by go_num,Qh ⟨HB1.out,fun _=>HLv.out⟩⟩
    case measure=>simp [intOf]
   ·have key:RTakeB B w L (.returned (.int .i64 10)) w1:=⟨10,rfl,fun _=>rfl,fun N _ _=>by unfold tkC;rw [if_pos HLv.out],HB1.out⟩
    go_wp2_with fail
    exact bodyPost_ret (by simp [results,Tryz.results7,go_sem]) rfl key
  ·have HLv:=Qh (HI.out.2 (by omega))
   have hki:¬(i:Int)<1:=by omega
   clear h1
   have HB1:=Qh HI.out.1
   clear HI
   generalize wr=w1 at *
   go_wp2_with fail
   go_loopw [6] (fun vi wr=>vi = .int .i64 0∧Hid (Below B w wr)) (fun vi _=>0)
   case atStart=>exact ⟨rfl,HB1⟩
   case round=>
    obtain ⟨rfl,HI⟩:=hrel
    clear HB1
    generalize wr=w2 at *
    go_wp2_with fail
    go_loopw [7] (fun vi wr=>∃ j,j≤1∧vi = .int .i64 (j:Nat)∧Hid (Below B w wr∧(1≤j→∀ N,NF N→(∀ z,Hf.mem z N↔Hf.mem z L)→¬1000<N.length))) (fun vi _=>1 - (intOf vi).toNat)
    case atStart=>exact ⟨0,Nat.zero_le _,rfl,Qh ⟨HI.out,fun h=>by omega⟩⟩
    case round=>
     obtain ⟨j,hj,rfl,HJ⟩:=hrel
     clear HI
     rcases (by omega:j=0∨j=1) with rfl | h1
     ·have x0:=HCl.out _ HJ.out.1
      go_wp2_with fail
      (with_reducible refine (HNm.out _ HJ.out.1).mono ?_)
      rintro e w3 ⟨A1,n1,c1,qs,he,hr,hnf,hm,hb3⟩
      subst he
      have HB3:=Qh (HJ.out.1.trans (hb3.mono (by have:=HJ.out.1.size;have:=HB.out;omega)))
      have HU:=Qh (show ∀ N,NF N→(∀ z,Hf.mem z N↔Hf.mem z L)→N.length=n1 from fun N h1 h2=>by
       rw [←NF.uniq hnf h1 (fun z=>(hm z).trans (h2 z).symm),List.length_map,hr.len])
      have hcp:=hr.cap
      have hmx:=hcp.2
      unfold maxLen at hmx
      clear x0 hr hnf hm hb3
      by_cases hk:1000<n1
      ·have hki:(1000:Int)<(n1:Int):=by omega
       have key:RTakeB B w L (.returned (.int .i64 90)) w3:=⟨90,rfl,fun h=>(by rw [HLv.out] at h;cases h),fun N h1 h2=>by unfold tkC;rw [if_neg (by rw [HLv.out];exact Bool.false_ne_true),if_pos (by rw [HU.out N h1 h2];exact hk)],HB3.out⟩
       go_wp2_with fail
       exact bodyPost_ret (by simp [results,Tryz.results7,go_sem]) rfl key
      ·have hki:¬(1000:Int)<(n1:Int):=by omega
       have HKn:=Qh hk
       clear hk
       go_wp2_with fail
       go_roundw
       case rel=>exact ⟨1,by omega,by go_num,Qh ⟨HB3.out,fun _ N h1 h2=>by rw [HU.out N h1 h2];exact HKn.out⟩⟩
       case measure=>simp [intOf]
     ·have HLe:=Qh (HJ.out.2 (by omega))
      have hkj:¬(j:Int)<1:=by omega
      clear h1
      have key:RTakeB B w L (.returned (.int .i64 0)) wr:=⟨0,rfl,fun h=>(by rw [HLv.out] at h;cases h),fun N h1 h2=>by unfold tkC;rw [if_neg (by rw [HLv.out];exact Bool.false_ne_true),if_neg (HLe.out N h1 h2)],HJ.out.1⟩
      go_wp2_with fail
      exact bodyPost_ret (by simp [results,Tryz.results7,go_sem]) rfl key
theorem rInt_w {w:World} {x:Int} {A:Option Addr} {c:Nat} (hs:SlI w w.heap.size A (digs 2 x.natAbs).length c (digs 2 x.natAbs)) (hn:(digs 2 x.natAbs).length≤33554432) :
  Calls Tryz.prog 116 #[.agg #[.bool (decide (x<0)),.slice A (digs 2 x.natAbs).length c]] w (PostI w x):=
 Int_raw _ hs (nrm_digs (by decide) _) (by omega) (Nat.le_refl _) (by rw [nv_digs (by decide)]) rfl
theorem rBound_any {w:World} {P:Nat→Prop} {e:Ed} {b:Bd} (h:Sb w P e b) (hP:∀ x,P x→x<w.heap.size) (hl:lngE e=false) :
  Calls Tryz.prog 83 #[b.v] w (CleanPost w e):=by
 obtain ⟨A,c,rfl⟩:=h.is
 have HL:=Qh h.lim
 have HN:=Qh (NBox.new w (rb e A c))
 have HBa:=Qh (show Below w.heap.size w (w.alloc (.cells (rb e A c).vals.toArray 81)) from Qb)
 have HE:=Qh (EBox.new (w.alloc (.cells (rb e A c).vals.toArray 81)) ⟨0,false,none,0,0,[]⟩)
 rw [World.size_alloc] at HE
 have HBb:=Qh (show Below (w.heap.size+1) (w.alloc (.cells (rb e A c).vals.toArray 81)) ((w.alloc (.cells (rb e A c).vals.toArray 81)).alloc (.cells (Bd.vals ⟨0,false,none,0,0,[]⟩).toArray 67)) from (Below.refl _ _).alloc (by simp) _)
 have HN2:=Qh (HN.out.below (HBb.out.mono (by simp)))
 have HBt:=Qh (show Below w.heap.size w ((w.alloc (.cells (rb e A c).vals.toArray 81)).alloc (.cells (Bd.vals ⟨0,false,none,0,0,[]⟩).toArray 67)) from HBa.out.trans (HBb.out.mono (by omega)))
 have HF:=Qh (fun (d:Bd) (w':World) (h1:Below w.heap.size w w') (h2:d.At w' (Fr w.heap.size w')) (h3:d.Nrm) (h4:d.ed=e)=>show CleanPost w e (.returned (.agg #[.int .i64 d.i,.bool d.g,.slice d.A d.n d.c])) w' from ⟨d,rfl,h2,h3,h4,h1⟩)
 have hP2:=Qh hP
 clear h hP
 cases e with
 | lo=>
  simp only [rb,Bd.v,Bd.vals] at HN2 HE HBa HBb HBt ⊢
  obtain ⟨x0,x1,x2⟩:=HN2.out.cells
  simp only at x0 x1 x2
  have HEx:=Qh (EBox.new (w.alloc (.cells #[.int .i64 (-1),.bool false,.slice none 0 0] 81)) ⟨(-1),false,none,0,0,[]⟩)
  have HBx:=Qh (show Below w.heap.size w ((w.alloc (.cells #[.int .i64 (-1),.bool false,.slice none 0 0] 81)).alloc (.cells #[.int .i64 (-1),.bool false,.slice none 0 0] 67)) from HBa.out.alloc (by simp) _)
  have HGo:=Qh (HF.out (ib (-1)) _ HBx.out (ib_at _ _ (by omega)) (ib_nrm (by omega)) (by simp [Bd.ed,ib]))
  rw [World.size_alloc] at HEx
  simp only [Bd.vals] at HEx
  simp only [ib] at HGo
  obtain ⟨y0,y1,y2⟩:=HE.out.cells
  obtain ⟨f0,f1,f2⟩:=HE.out.frozens
  obtain ⟨s0,s1,s2⟩:=HEx.out.cells
  simp only at s0 s1 s2 y0 y1 y2
  clear HE HN HN2 HEx
  go_enter Tryz.func83,Tryz.ntmps83
  go_wp2_with fail
  exact bodyPost_ret (v:=.agg #[.int .i64 (-1),.bool false,.slice none 0 0]) (by simp [results,Tryz.results83,go_sem,s0,s1,s2]) rfl HGo.out
 | hi=>
  simp only [rb,Bd.v,Bd.vals] at HN2 HE HBa HBb HBt ⊢
  obtain ⟨x0,x1,x2⟩:=HN2.out.cells
  simp only at x0 x1 x2
  have HEx:=Qh (EBox.new (w.alloc (.cells #[.int .i64 1,.bool false,.slice none 0 0] 81)) ⟨1,false,none,0,0,[]⟩)
  have HBx:=Qh (show Below w.heap.size w ((w.alloc (.cells #[.int .i64 1,.bool false,.slice none 0 0] 81)).alloc (.cells #[.int .i64 1,.bool false,.slice none 0 0] 67)) from HBa.out.alloc (by simp) _)
  have HGo:=Qh (HF.out (ib 1) _ HBx.out (ib_at _ _ (by omega)) (ib_nrm (by omega)) (by simp [Bd.ed,ib]))
  rw [World.size_alloc] at HEx
  simp only [Bd.vals] at HEx
  simp only [ib] at HGo
  obtain ⟨y0,y1,y2⟩:=HE.out.cells
  obtain ⟨f0,f1,f2⟩:=HE.out.frozens
  obtain ⟨s0,s1,s2⟩:=HEx.out.cells
  simp only at s0 s1 s2 y0 y1 y2
  clear HE HN HN2 HEx
  go_enter Tryz.func83,Tryz.ntmps83
  go_wp2_with fail
  exact bodyPost_ret (v:=.agg #[.int .i64 1,.bool false,.slice none 0 0]) (by simp [results,Tryz.results83,go_sem,s0,s1,s2]) rfl HGo.out
 | num z=>
  simp only [rb,Bd.v,Bd.vals] at HN2 HE HBa HBb HBt HL ⊢
  have hln:(digs 2 z.natAbs).length≤33554432:=by
   unfold lngE at hl
   have:=of_decide_eq_false hl
   omega
  have HZ2:=Qh (show ((w.alloc (.cells #[.int .i64 0,.bool (decide (z<0)),.slice A (digs 2 z.natAbs).length c] 81)).alloc (.cells #[.int .i64 0,.bool false,.slice none 0 0] 67)).heap.size=w.heap.size+2 by simp)
  have HI:=Qh (fun (y:World) (hy:Below w.heap.size w y)=>rInt_w (w:=y) (((HL.out.sl (B:=w.heap.size) hP2.out).below hy (Nat.le_refl _)).mono hy.size) hln)
  generalize hw2:((w.alloc (.cells #[.int .i64 0,.bool (decide (z<0)),.slice A (digs 2 z.natAbs).length c] 81)).alloc (.cells #[.int .i64 0,.bool false,.slice none 0 0] 67))=w2 at *
  obtain ⟨x0,x1,x2⟩:=HN2.out.cells
  simp only at x0 x1 x2
  clear hl hln HN HBa HBb
  subst hw2
  go_enter Tryz.func83,Tryz.ntmps83
  go_wp2_with fail
  (with_reducible refine (HI.out _ HBt.out).mono ?_)
  rintro e w3 ⟨v,he,hr,hb⟩
  obtain ⟨A2,c2,hv,hat⟩:=hr.nb
  subst hv
  subst he
  have HB3:=Qh (Qt HBt.out hb)
  have HE3:=Qh (HE.out.below hb)
  have HAt:=Qh hat
  have HS3:=Qh hb.size
  clear x0 x1 x2 hb hr hat HBt HE HN2 HI
  generalize ((w.alloc (.cells #[.int .i64 0,.bool (decide (z<0)),.slice A (digs 2 z.natAbs).length c] 81)).alloc (.cells #[.int .i64 0,.bool false,.slice none 0 0] 67))=w2 at *
  obtain ⟨y0,y1,y2⟩:=HE3.out.cells
  obtain ⟨f0,f1,f2⟩:=HE3.out.frozens
  simp only at y0 y1 y2
  have hlt:=HE3.out.lt
  have HSet:=Qh (HE3.out.set3 (nb z A2 c2))
  simp only [nb] at HSet
  go_wp2_with fail
  have hs3:=HS3.out
  have hz2:=HZ2.out
  have HGo:=Qh (HF.out (nb z A2 c2) _ (HB3.out.grown HSet.out.2 (by omega) (Qg (by omega))) (HAt.out.keep (fun b hb=>⟨⟨by have:=hb.1;omega,by have:=hb.2;have:=HSet.out.2.size;omega⟩,HSet.out.2.block b hb.2 (fun e=>by injection e with e;have:=hb.1;omega)⟩)) (nb_nrm _ _ _) (nb_ed _ _ _))
  simp only [nb] at HGo
  obtain ⟨s0,s1,s2⟩:=HSet.out.1.cells
  simp only at s0 s1 s2
  exact bodyPost_ret (v:=.agg #[.int .i64 0,.bool (decide (z<0)),.slice A2 (digs W z.natAbs).length c2]) (by simp [results,Tryz.results83,go_sem,s0,s1,s2]) rfl HGo.out
theorem nf_lo_out:∀ {N:List R},NF N→∀ {r:R},r∈N→∀ {x:Int},r.1 = .num x→Hf.mem x N∧¬Hf.mem (x - 1) N
 | [],_,r,hr,_,_=>by cases hr
 | s :: l,hN,r,hr,x,hx=>by
  rcases List.mem_cons.1 hr with rfl | hr
  ·obtain ⟨z,h1,h2⟩:=hN.head
   rw [hx] at h1
   have h1:x≤z:=h1
   refine ⟨mem_cons.2 (.inl ⟨by rw [hx];exact Int.le_refl x,hib_mono h2 h1⟩),fun h=>?_⟩
   rcases mem_cons.1 h with h | h
   ·have h3:=h.1
    rw [hx] at h3
    have h3:x≤x - 1:=h3
    omega
   ·obtain ⟨y,e,h3⟩:=hN.above h
    rw [e] at h2
    have h2:z≤y:=h2
    omega
  ·obtain ⟨h1,h2⟩:=nf_lo_out hN.tail hr hx
   refine ⟨mem_cons.2 (.inr h1),fun h=>?_⟩
   rcases mem_cons.1 h with h | h
   ·obtain ⟨y,e,h3⟩:=hN.above h1
    have h4:=h.2
    rw [e] at h4
    have h4:x - 1≤y:=h4
    omega
   ·exact h2 h
theorem nf_hi_out:∀ {N:List R},NF N→∀ {r:R},r∈N→∀ {y:Int},r.2 = .num y→Hf.mem y N∧¬Hf.mem (y+1) N
 | [],_,r,hr,_,_=>by cases hr
 | s :: l,hN,r,hr,y,hy=>by
  rcases List.mem_cons.1 hr with rfl | hr
  ·obtain ⟨z,h1,h2⟩:=hN.head
   rw [hy] at h2
   have h2:z≤y:=h2
   refine ⟨mem_cons.2 (.inl ⟨lob_mono h1 h2,by rw [hy];exact Int.le_refl y⟩),fun h=>?_⟩
   rcases mem_cons.1 h with h | h
   ·have h3:=h.2
    rw [hy] at h3
    have h3:y+1≤y:=h3
    omega
   ·obtain ⟨y',e,h3⟩:=hN.above h
    rw [hy] at e
    injection e with e
    omega
  ·obtain ⟨h1,h2⟩:=nf_hi_out hN.tail hr hy
   refine ⟨mem_cons.2 (.inr h1),fun h=>?_⟩
   rcases mem_cons.1 h with h | h
   ·obtain ⟨y',e,h3⟩:=hN.above h1
    have h4:=h.2
    rw [e] at h4
    have h4:y+1≤y':=h4
    omega
   ·exact h2 h
theorem nf_lo {N L:List R} (hN:NF N) (hm:∀ z,Hf.mem z N↔Hf.mem z L) {r:R} (hr:r∈N) {x:Int} (hx:r.1 = .num x):∃ s∈L,s.1 = .num x:=by
 obtain ⟨h1,h2⟩:=nf_lo_out hN hr hx
 obtain ⟨s,hs,h3,h4⟩:=(hm x).1 h1
 refine ⟨s,hs,?_⟩
 have h5:¬lob s.1 (x - 1):=fun h=>h2 ((hm _).2 ⟨s,hs,h,hib_mono h4 (by omega)⟩)
 cases e:s.1 with
 | lo=>rw [e] at h5;exact (h5 trivial).elim
 | hi=>rw [e] at h3;exact h3.elim
 | num x'=>
  rw [e] at h3 h5
  have h3:x'≤x:=h3
  have h5:¬x'≤x - 1:=h5
  rw [show x'=x by omega]
theorem nf_hi {N L:List R} (hN:NF N) (hm:∀ z,Hf.mem z N↔Hf.mem z L) {r:R} (hr:r∈N) {y:Int} (hy:r.2 = .num y):∃ s∈L,s.2 = .num y:=by
 obtain ⟨h1,h2⟩:=nf_hi_out hN hr hy
 obtain ⟨s,hs,h3,h4⟩:=(hm y).1 h1
 refine ⟨s,hs,?_⟩
 have h5:¬hib s.2 (y+1):=fun h=>h2 ((hm _).2 ⟨s,hs,lob_mono h3 (by omega),h⟩)
 cases e:s.2 with
 | hi=>rw [e] at h5;exact (h5 trivial).elim
 | lo=>rw [e] at h4;exact h4.elim
 | num y'=>
  rw [e] at h4 h5
  have h4:y≤y':=h4
  have h5:¬y+1≤y':=h5
  rw [show y'=y by omega]
theorem nf_short {N L:List R} (hN:NF N) (hm:∀ z,Hf.mem z N↔Hf.mem z L) (hl:L.any lngS=false):∀ r∈N,lngE r.1=false∧lngE r.2=false:=by
 have hL:∀ s∈L,lngS s=false:=fun s hs=>by
  cases e:lngS s with
  | false=>rfl
  | true=>rw [List.any_eq_true.2 ⟨s,hs,e⟩] at hl;cases hl
 intro r hr
 constructor
 ·cases e:r.1 with
  | lo=>rfl
  | hi=>rfl
  | num x=>
   obtain ⟨s,hs,h⟩:=nf_lo hN hm hr e
   have:=hL s hs
   unfold lngS at this
   rw [h] at this
   exact (Bool.or_eq_false_iff.1 this).1
 ·cases e:r.2 with
  | lo=>rfl
  | hi=>rfl
  | num x=>
   obtain ⟨s,hs,h⟩:=nf_hi hN hm hr e
   have:=hL s hs
   unfold lngS at this
   rw [h] at this
   exact (Bool.or_eq_false_iff.1 this).2
def GivePostB (B:Nat) (w:World) (L:List R) (e:Ending) (w':World):Prop:=
 ∃ A' n' c' rs,e = .returned (.tuple #[.slice A' n' c',.int .i64 0])∧SetP w' (Fr B w') A' n' c' rs∧NF (rs.map edsR)∧(∀ z,Hf.mem z (rs.map edsR)↔Hf.mem z L)∧(∀ q∈rs,q.1.Nrm∧q.2.Nrm)∧Below B w w'
def GivePost (w:World) (L:List R) (e:Ending) (w':World):Prop:=GivePostB w.heap.size w L e w'
def BdPost (w:World) (e0:Ed) (e:Ending) (w':World):Prop:=∃ d:Bd,e = .returned d.v∧(d.At w' (Fr w.heap.size w')∧d.Nrm∧d.ed=e0)∧Below w.heap.size w w'
theorem rGive_any {w:World} {P:Nat→Prop} {A:Option Addr} {n c:Nat} {ps:List Rg} (h:RefI w P A n c ps) (hP:∀ b,P b→b<w.heap.size) (hl:(ps.map edsS).any lngS=false) (h90:∀ N,NF N→(∀ z,Hf.mem z N↔Hf.mem z (ps.map edsS))→N.length≤1000) :
  Calls Tryz.prog 48 #[.slice A n c] w (GivePost w (ps.map edsS)):=by
 obtain ⟨L,hL⟩:∃ L,ps.map edsS=L:=⟨_,rfl⟩
 have HN0:=Qh (rNormal_any h hP)
 rw [hL] at HN0 hl h90 ⊢
 have HLg:=Qh (Qa hl h90)
 obtain ⟨B0,hB0⟩:∃ B0,w.heap.size=B0:=⟨_,rfl⟩
 have HB0:=Qh hB0
 unfold GivePost
 rw [hB0]
 clear h hP hl h90 hL hB0
 go_enter Tryz.func48,Tryz.ntmps48
 go_wp2_with fail
 (with_reducible refine HN0.out.mono ?_)
 rintro e w1 ⟨A1,n1,c1,qs,he,hr,hnf,hm,hb1⟩
 subst he
 rw [HB0.out] at hr hb1
 have HNf:=Qh (Qa hnf hm)
 have HSt:=Qh (show RefS w1 (fun b=>b<w1.heap.size) A1 n1 c1 qs from hr.set (fun b _ hb=>hb))
 have HBt:=Qh hb1
 have HSh0:=Qh (nf_short hnf hm HLg.out.1)
 have HLn:=Qh hr.len
 have hn1:n1≤1000:=by
  have h1:=HLg.out.2 _ hnf hm
  rwa [List.length_map,hr.len] at h1
 have HLf:=Qh (show (qs.map edsS).any lngS=false by
  cases e:(qs.map edsS).any lngS with
  | false=>rfl
  | true=>
   obtain ⟨r,h1,h2⟩:=List.any_eq_true.1 e
   have h3:=HSh0.out r h1
   unfold lngS at h2
   rw [h3.1,h3.2] at h2
   cases h2)
 have HLo:=Qh (rLong_set HSt.out (fun b hb=>hb))
 rw [HLf.out] at HLo
 clear hr hnf hm hb1 HN0
 go_wp2_with fail
 (with_reducible refine HLo.out.mono ?_)
 rintro e w3 ⟨he,hb3⟩
 subst he
 obtain ⟨B,hB⟩:∃ B,w3.heap.size=B:=⟨_,rfl⟩
 have HB:=Qh hB
 have HS:=Qh (show RefS w3 (fun b=>b<B) A1 n1 c1 qs from HSt.out.keep (fun b hb=>⟨by have:=hb3.size;omega,hb3.block b hb⟩))
 have HB3:=Qh (show Below B0 w w3 from HBt.out.trans (hb3.mono (by have:=HBt.out.size;have:=HB0.out;omega)))
 have HZ3:=Qh (show B0≤B by have:=HB3.out.size;have:=HB0.out;omega)
 have hcap:=HS.out.row.cap
 have hmax:=HS.out.row.max
 unfold maxLen at hmax
 have hn1i:¬(1000:Int)<(n1:Int):=by omega
 have HI0:=Qh (show Below B w3 w3∧B≤w3.heap.size∧RRow w3 B (Fr B w3) none 0 0 []∧([]:List Rg).map edsR=(qs.map edsS).take 0∧(∀ q∈([]:List Rg),q.1.Nrm∧q.2.Nrm) from ⟨Below.refl _ _,by omega,RRow.nil _ _ _,rfl,fun q hq=>by cases hq⟩)
 clear hb3 HLo HSt HBt HLf
 clear hB
 go_wp2_with fail
 go_loopw [4,5] (fun vo vi wr=>∃ k A' c' rs,k≤n1∧vi = .int .i64 (k:Nat)∧vo = .slice A' k c'∧Hid (Below B w3 wr∧B≤wr.heap.size∧RRow wr B (Fr B wr) A' k c' rs∧rs.map edsR=(qs.map edsS).take k∧(∀ q∈rs,q.1.Nrm∧q.2.Nrm))) (fun _ vi _=>n1 - (intOf vi).toNat)
 case atStart=>exact ⟨0,none,0,[],Nat.zero_le _,rfl,rfl,HI0⟩
 case round=>
  obtain ⟨k,A2,c2,rs,hk,rfl,rfl,HI⟩:=hrel
  clear HI0
  by_cases hkn:k<n1
  ·obtain ⟨p,hp⟩:∃ p,qs[k]?=some p:=⟨qs[k]'(by have:=HLn.out;omega),by simp⟩
   obtain ⟨b,o,rfl,hPb,q0,q1,q2,q3,q4,q5⟩:=HS.out.row.at_ hp
   have hbB:b<B:=hPb
   have HKid:=Qh (HS.out.kid p (List.mem_of_getElem? hp))
   have HPk:=Qh (show (qs.map edsS)[k]?=some (edsS p) by simp [hp])
   have HShp:=Qh (HSh0.out (edsS p) (List.mem_of_getElem? HPk.out))
   have HQ:=Qh (Qa q0 (Qa q1 (Qa q2 (Qa q3 (Qa q4 q5)))))
   have HSh:=Qh (fun z (hz:Below B w3 z)=>And.intro
    (show Calls Tryz.prog 83 #[p.1.v] z (BdPost z p.1.ed2) from (rBound_any (w:=z) (HKid.out.a.keep (Q:=fun b=>b<B) (fun b hb=>⟨hb,hz.block b hb⟩)) (fun x hx=>by have:=hz.size;have:=HB.out;omega) HShp.out.1).mono fun e w' ⟨d,h1,h2,h3,h4,h5⟩=>⟨d,h1,⟨h2,h3,h4⟩,h5⟩)
    (show Calls Tryz.prog 83 #[p.2.v] z (BdPost z p.2.ed2) from (rBound_any (w:=z) (HKid.out.b.keep (Q:=fun b=>b<B) (fun b hb=>⟨hb,hz.block b hb⟩)) (fun x hx=>by have:=hz.size;have:=HB.out;omega) HShp.out.2).mono fun e w' ⟨d,h1,h2,h3,h4,h5⟩=>⟨d,h1,⟨h2,h3,h4⟩,h5⟩))
   have HC1:=Qh (fun (z:World) (j:Nat) (hz:Below B w3 z)=>(Qc (a:=⟨b,j,none⟩) (hz.block b hbB):z.cell? ⟨b,j,none⟩=w3.cell? ⟨b,j,none⟩))
   have HEd:=Qh (show edsS p=(p.1.ed2,p.2.ed2) from rfl)
   obtain ⟨e1,he1⟩:∃ e,p.1.ed2=e:=⟨_,rfl⟩
   obtain ⟨e2,he2⟩:∃ e,p.2.ed2=e:=⟨_,rfl⟩
   rw [he1,he2] at HEd HSh
   obtain ⟨⟨p1i,p1g,p1A,p1n,p1c,p1l⟩,⟨p2i,p2g,p2A,p2n,p2c,p2l⟩⟩:=p
   simp only [Bd.v,Bd.vals] at HSh
   have hki:(k:Int)<(n1:Int):=by omega
   have hk0:(0:Int)≤(k:Int):=by omega
   clear hp q0 q1 q2 q3 q4 q5 HKid HShp hPb he1 he2
   go_upto_region 10 with fail
   refine wp_region_HB B (by kernel_rfl) (fun z0 K0 hs0=>?_)
   have S0:Below B wr z0:=K0.mono HI.out.2.1
   refine tH0 0 S0 ?_
   refine tH0 1 S0 ?_
   refine tH0 2 S0 ?_
   refine tH0 3 S0 ?_
   refine tH0 4 S0 ?_
   refine tH0 5 S0 ?_ (y:=fun z5 hS=>by have g0:=(HC1.out z5 (o+k * 6) (HI.out.1.trans hS)).trans HQ.out.1;have g1:=(HC1.out z5 (o+k * 6+1) (HI.out.1.trans hS)).trans HQ.out.2.1;have g2:=(HC1.out z5 (o+k * 6+2) (HI.out.1.trans hS)).trans HQ.out.2.2.1;go_simp;rfl)
   refine tH0 7 S0 ?_
   refine tH0 8 S0 ?_
   refine tH0 9 S0 ?_
   refine tH0 10 S0 ?_
   refine tH0 11 S0 ?_ (y:=fun z5 hS=>by have g0:=(HC1.out z5 (o+k * 6+3) (HI.out.1.trans hS)).trans HQ.out.2.2.2.1;have g1:=(HC1.out z5 (o+k * 6+4) (HI.out.1.trans hS)).trans HQ.out.2.2.2.2.1;have g2:=(HC1.out z5 (o+k * 6+5) (HI.out.1.trans hS)).trans HQ.out.2.2.2.2.2;go_simp;rfl)
   refine oH0 6 fun K hK=>?_
   go_simp
   (with_reducible refine (HSh.out _ (HI.out.1.trans S0)).1.mono ?_)
   rintro e z1 ⟨⟨ai,ag,aA,an,ac,al⟩,he,hat,hb1⟩
   simp only [Bd.v,Bd.vals] at he
   subst he
   have HAt1:=Qh hat
   have K1:=Qt K0 hb1
   have S1:Below B wr z1:=K1.mono HI.out.2.1
   refine hK.out _ _ S1 ?_
   refine oH0 12 fun K hK=>?_
   go_simp
   (with_reducible refine (HSh.out _ (HI.out.1.trans S1)).2.mono ?_)
   rintro e z2 ⟨⟨bi,bg,bA,bn,bc,bl⟩,he,hbt,hb2⟩
   simp only [Bd.v,Bd.vals] at he
   subst he
   have HAt2:=Qh hbt
   have K2:=Qt K1 hb2
   have S2:Below B wr z2:=K2.mono HI.out.2.1
   refine hK.out _ _ S2 ?_
   refine tH0 13 S2 ?_
   refine oH0 14 fun K hK=>?_
   go_simp
   have S3:Below B wr (z2.alloc (.cells #[.int .i64 ai,.bool ag,.slice aA an ac,.int .i64 bi,.bool bg,.slice bA bn bc] 69)):=S2.alloc (by have:=S2.size;have:=HI.out.2.1;omega) _
   refine hK.out _ _ S3 ?_
   refine oH0 15 fun K hK=>?_
   have hsz0:=K0.size
   have hsz1:=hb1.size
   have hsz2:=hb2.size
   have HAt:=Qh (show Rg.At z2 (fun x=>wr.heap.size≤x∧x<z2.heap.size) ((⟨ai,ag,aA,an,ac,al⟩:Bd),(⟨bi,bg,bA,bn,bc,bl⟩:Bd)) from ⟨hat.1.keep (fun x hx=>⟨⟨by have:=hx.1;omega,by have:=hx.2;omega⟩,hb2.block x hx.2⟩),hbt.1.wide (fun x hx=>⟨by have:=hx.1;omega,hx.2⟩)⟩)
   refine step_app1R (q:=((⟨ai,ag,aA,an,ac,al⟩:Bd),(⟨bi,bg,bA,bn,bc,bl⟩:Bd))) rfl _ _ rfl (by rfl) (by rfl) HI.out.2.2.1 HI.out.2.1 K2 (HI.out.2.2.1.apart HI.out.2.1 (Nat.le_refl _) HAt.out) (by unfold maxRg;omega) ?_
   intro A6 c6 w6 hr6 hb6 hs6
   have HR6:=Qh (Qa hr6 (Qa hb6 hs6))
   clear hr6 hb6 hs6 hat hbt hb1 hb2 K1 K2 S0 S1 S2 S3 hs0 K0 hsz0 hsz1 hsz2
   refine hK.out _ _ HR6.out.2.1 ?_
   refine oH0 16 fun K hK=>?_
   go_simp
   refine hK.out _ _ HR6.out.2.1 ?_
   refine wpAnyH_end (by kernel_rfl) ?_ _
   have HG6:=Qh (show (rs ++ [((⟨ai,ag,aA,an,ac,al⟩:Bd),(⟨bi,bg,bA,bn,bc,bl⟩:Bd))]).map edsR=(qs.map edsS).take (k+1) from by
    rw [List.take_add_one,HPk.out,List.map_append,HI.out.2.2.2.1]
    congr 1
    simp only [Option.toList,List.map_cons,List.map_nil]
    rw [HEd.out]
    unfold edsR
    rw [HAt1.out.2.2,HAt2.out.2.2])
   have HGn:=Qh (show ∀ q∈rs ++ [((⟨ai,ag,aA,an,ac,al⟩:Bd),(⟨bi,bg,bA,bn,bc,bl⟩:Bd))],q.1.Nrm∧q.2.Nrm from fun q hq=>by
    rcases List.mem_append.1 hq with h1 | h1
    ·exact HI.out.2.2.2.2 q h1
    ·rw [List.mem_singleton.1 h1]
     exact ⟨HAt1.out.2.1,HAt2.out.2.1⟩)
   go_wp2_with fail
   go_roundw
   case rel=>exact ⟨k+1,A6,c6,_,by omega,by go_num,by go_num,Qh ⟨HI.out.1.trans HR6.out.2.1,Nat.le_trans HI.out.2.1 HR6.out.2.2,HR6.out.1,HG6.out,HGn.out⟩⟩
   case measure=>simp [intOf];omega
  ·have hki:¬(k:Int)<(n1:Int):=by omega
   have hkk:k=n1:=by omega
   have HMe:=Qh (show rs.map edsR=qs.map edsS from by rw [HI.out.2.2.2.1,List.take_of_length_le (by rw [List.length_map,HLn.out];omega)])
   have key:GivePostB B0 w L (.returned (.tuple #[.slice A2 k c2,.int .i64 0])) wr:=⟨A2,k,c2,rs,rfl,(HI.out.2.2.1.set (fun b h1 h2=>⟨h1,h2⟩)).wide (fun b hb=>⟨by have:=hb.1;have:=HZ3.out;omega,hb.2⟩),HMe.out ▸ HNf.out.1,fun z=>by rw [HMe.out];exact HNf.out.2 z,HI.out.2.2.2.2,HB3.out.trans (HI.out.1.mono HZ3.out)⟩
   clear hkk
   go_wp2_with fail
   exact bodyPost_ret (by simp [results,Tryz.results48,go_sem]) rfl key
theorem size1_le {r:R} {M:Nat} (h:szE r.1≤M∧szE r.2≤M):(size1 r).natAbs≤2 * W ^ M:=by
 obtain ⟨a,b⟩:=r
 cases a <;> cases b <;> simp only [size1] <;> try exact Nat.zero_le _
 rename_i x y
 have h1:=lt_of_digs_length (b:=W) (by decide) h.1
 have h2:=lt_of_digs_length (b:=W) (by decide) h.2
 generalize W ^ M=X at *
 omega
theorem sizeP_append (L N:List R):sizeP (L ++ N)=sizeP L+sizeP N:=by
 induction L with
 | nil=>simp [sizeP]
 | cons r L ih=>rw [List.cons_append,sizeP,sizeP,ih];omega
theorem sizeP_take {L:List R} {k:Nat} {r:R} (h:L[k]?=some r):sizeP (L.take (k+1))=sizeP (L.take k)+size1 r:=by
 rw [List.take_add_one,h,sizeP_append]
 simp [sizeP]
theorem sizeP_le {M:Nat} : ∀ {L:List R},Bnd M L→(sizeP L).natAbs≤L.length * (2 * W ^ M)
 | [],_=>Nat.zero_le _
 | r :: L,h=>by
  have h1:=size1_le (h r List.mem_cons_self)
  have h2:=sizeP_le (L:=L) (fun s hs=>h s (List.mem_cons_of_mem _ hs))
  rw [sizeP,List.length_cons,Nat.succ_mul]
  omega
theorem size_lim {X n s:Nat} (h:s≤n * (2 * X)) (hn:n≤1000) (hX:0<X):s<X * 4294967296:=by
 have h2:n * (2 * X)≤1000 * (2 * X):=Nat.mul_le_mul_right _ hn
 omega
theorem size_digs {M:Nat} {L:List R} (h:Bnd M L) (hl:L.length≤1000):(digs W (sizeP L).natAbs).length≤M+1:=by
 have h1:=size_lim (sizeP_le h) hl (Nat.pow_pos (by decide))
 exact digs_length_le (by decide) (by rw [Nat.pow_succ];exact h1)
theorem Bnd.take {M:Nat} {L:List R} (h:Bnd M L) (k:Nat):Bnd M (L.take k):=fun r hr=>h r (List.mem_of_mem_take hr)
theorem len_add {x y:Int} {m:Nat} (h1:(digs W x.natAbs).length≤m) (h2:(digs W y.natAbs).length≤m):(digs W (x+y).natAbs).length≤m+1:=by
 have a:=lt_of_digs_length (b:=W) (by decide) h1
 have b:=lt_of_digs_length (b:=W) (by decide) h2
 refine digs_length_le (by decide) ?_
 rw [Nat.pow_succ]
 have c:(x+y).natAbs≤x.natAbs+y.natAbs:=Int.natAbs_add_le x y
 have d:W ^ m * 2≤W ^ m * W:=Nat.mul_le_mul_left _ (show 2≤4294967296 by omega)
 omega
theorem plus_oo {w:World} {B1 B2 c1 c2:Nat} {A1 A2:Option Addr} {x y z:Int} (h1:OwnU w B1 A1 (digs W x.natAbs).length c1 (u32s (digs W x.natAbs))) (h2:OwnU w B2 A2 (digs W y.natAbs).length c2 (u32s (digs W y.natAbs)))
  (l1:(digs W x.natAbs).length≤33554432) (l2:(digs W y.natAbs).length≤33554432) (hz:x+y=z) :
  Calls Tryz.prog 51 #[.agg #[.bool (decide (x<0)),.slice A1 (digs W x.natAbs).length c1],.agg #[.bool (decide (y<0)),.slice A2 (digs W y.natAbs).length c2]] w (PostI w z):=by
 have h:=plus_any (decide (x<0)) (decide (y<0)) (h1.sl (dig_digs (by decide) _) rfl) (h2.sl (dig_digs (by decide) _) rfl) l1 l2 (Nat.le_refl _) (Nat.le_refl _)
 rw [ival_digs,ival_digs,hz] at h
 exact h
theorem plus_ro {w:World} {B B2 n c c2:Nat} {A A2:Option Addr} {g:Bool} {l:List Nat} {x y z:Int} (h1:SlU w B A n c l) (hB:B≤w.heap.size) (hx:ival g l=x) (h2:OwnU w B2 A2 (digs W y.natAbs).length c2 (u32s (digs W y.natAbs)))
  (l1:n≤33554432) (l2:(digs W y.natAbs).length≤33554432) (hz:x+y=z) :
  Calls Tryz.prog 51 #[.agg #[.bool g,.slice A n c],.agg #[.bool (decide (y<0)),.slice A2 (digs W y.natAbs).length c2]] w (PostI w z):=by
 have h:=plus_any g (decide (y<0)) h1 (h2.sl (dig_digs (by decide) _) rfl) l1 l2 hB (Nat.le_refl _)
 rw [hx,ival_digs,hz] at h
 exact h
def SizePost (w:World) (L:List R) (e:Ending) (w':World):Prop:=
 ∃ N,NF N∧(∀ z,Hf.mem z N↔Hf.mem z L)∧Below w.heap.size w w' ∧
  ((Hf.fin N∧∃ A c,e = .returned (.tuple #[.agg #[.bool (decide (sizeP N<0)),.slice A (digs W (sizeP N).natAbs).length c],.bool true,.int .i64 0])∧OwnU w' w.heap.size A (digs W (sizeP N).natAbs).length c (u32s (digs W (sizeP N).natAbs))) ∨
   (¬Hf.fin N∧e = .returned (.tuple #[.agg #[.bool false,.slice none 0 0],.bool false,.int .i64 0])))
structure SZ (w:World) (B G n1 c1 K M:Nat) (A1:Option Addr) (qs:List Rg) (A2:Option Addr) (c2:Nat) (k:Nat) (wr:World):Prop where
 bel:Below B w wr
 res:IBox wr (B+1) false (.slice none 0 0)
 out:SetP wr (fun b=>B+3≤b∧b<G) A1 n1 c1 qs
 sum:IBox wr G (decide (sizeP ((qs.map edsR).take k)<0)) (.slice A2 (digs W (sizeP ((qs.map edsR).take k)).natAbs).length c2)
 own:OwnU wr (B+3) A2 (digs W (sizeP ((qs.map edsR).take k)).natAbs).length c2 (u32s (digs W (sizeP ((qs.map edsR).take k)).natAbs))
 ne:∀ g,A2=some ⟨g,0,none⟩→g≠G
 fn:Hf.fin ((qs.map edsR).take k)
theorem IBox.of_alloc {w:World} {x:Bool} {y:Value} : IBox (w.alloc (.cells #[.bool x,y] 56)) w.heap.size x y:=heap_alloc_new w _
theorem Size_ok {w:World} {P:Nat→Prop} {A:Option Addr} {n c K M:Nat} {ps:List Rg} (h:SIn w P A n c ps K M) (hP:∀ b,P b→b<w.heap.size) (hK:K≤1000) (hM:M≤126) :
  Calls Tryz.prog 28 #[.slice A n c] w (SizePost w (ps.map edsR)):=by
 obtain ⟨B,hB⟩:∃ B,w.heap.size=B:=⟨_,rfl⟩
 have HB:=Qh hB
 have hbe:Below w.heap.size w (((w.alloc (.cells #[.slice A n c] 22)).alloc (.cells #[.bool false,.slice none 0 0] 56)).alloc (.cells #[.pointer (some ⟨w.heap.size,0,none⟩)] 89)):=((Qb).alloc (by simp) _).alloc (by simp;omega) _
 have v0:VBox (((w.alloc (.cells #[.slice A n c] 22)).alloc (.cells #[.bool false,.slice none 0 0] 56)).alloc (.cells #[.pointer (some ⟨w.heap.size,0,none⟩)] 89)) w.heap.size A n c:=by
  have h0:VBox (w.alloc (.cells #[.slice A n c] 22)) w.heap.size A n c:=heap_alloc_new w _
  exact (((Qb).alloc (by simp) _).block w.heap.size (by simp)).trans h0
 have i0:IBox (((w.alloc (.cells #[.slice A n c] 22)).alloc (.cells #[.bool false,.slice none 0 0] 56)).alloc (.cells #[.pointer (some ⟨w.heap.size,0,none⟩)] 89)) (w.heap.size+1) false (.slice none 0 0):=by
  have h0:IBox ((w.alloc (.cells #[.slice A n c] 22)).alloc (.cells #[.bool false,.slice none 0 0] 56)) (w.heap.size+1) false (.slice none 0 0):=by
   have:=heap_alloc_new (w.alloc (.cells #[.slice A n c] 22)) (.cells #[.bool false,.slice none 0 0] 56)
   rwa [World.size_alloc] at this
  exact ((Qb).block (w.heap.size+1) (by simp)).trans h0
 have p0:(((w.alloc (.cells #[.slice A n c] 22)).alloc (.cells #[.bool false,.slice none 0 0] 56)).alloc (.cells #[.pointer (some ⟨w.heap.size,0,none⟩)] 89)).cell? ⟨w.heap.size+1+1,0,none⟩=some (.pointer (some ⟨w.heap.size,0,none⟩)):=by
  have:=heap_alloc_new ((w.alloc (.cells #[.slice A n c] 22)).alloc (.cells #[.bool false,.slice none 0 0] 56)) (.cells #[.pointer (some ⟨w.heap.size,0,none⟩)] 89)
  simp only [World.size_alloc] at this
  rw [cell_of_row _ _ 0 _ _ (0,0) this];rfl
 have z0:(((w.alloc (.cells #[.slice A n c] 22)).alloc (.cells #[.bool false,.slice none 0 0] 56)).alloc (.cells #[.pointer (some ⟨w.heap.size,0,none⟩)] 89)).heap.size=w.heap.size+3:=by simp
 have HT:=Qh (take1 (K:=K) (M:=M) (r:=0) (ci:=0) (ns:=[]) (h.keep (Q:=P) (fun b hb2=>⟨hb2,hbe.block b (hP b hb2)⟩)) (fun b hb2=>⟨by have:=hP b hb2;omega,by have:=hP b hb2;omega⟩) v0 p0 (by omega) (by omega) (InIn.nil _) (fun x hx=>by cases hx) rfl (by omega) hK (by omega))
 have HI0:=Qh (Qa hbe (Qa i0 z0))
 have HKM:=Qh (Qa hK hM)
 have HF0:=Qh (fun w1=>from_any 0 w1 (by omega) (by omega))
 obtain ⟨on,hon⟩:∃ on:Int,on=1:=⟨1,rfl⟩
 have HF1:=Qh (fun w1=>show Calls Tryz.prog 27 #[.int .i64 1] w1 (PostI w1 on) from by rw [hon];exact from_any 1 w1 (by omega) (by omega))
 have HOn:=Qh hon
 clear hon
 unfold SizePost
 rw [hB]
 rw [hB] at HT HI0
 clear h hP hbe v0 i0 p0 z0 hK hM hB
 go_enter Tryz.func28,Tryz.ntmps28
 go_wp2_with fail
 rw [HB.out]
 (with_reducible refine HT.out.mono ?_)
 rintro e w1 ⟨rfl,hch,A1,n1,c1,qs,hv1,ho1,hm1⟩
 rw [HI0.out.2.2] at ho1
 have HO1:=Qh (Qa hv1 (Qa ho1 hm1))
 have HC1:=Qh hch
 have HI1:=Qh (show IBox w1 (B+1) false (.slice none 0 0) from (hch.block (B+1) (by rw [HI0.out.2.2];omega) (by simp)).trans HI0.out.2.1)
 have HZ1:=Qh (show B+3≤w1.heap.size by have:=hch.size;rw [HI0.out.2.2] at this;exact this)
 have HBe1:=Qh (show Below B w w1 from (HI0.out.1.mono (by have:=HB.out;omega)).trans (hch.below (by rw [HI0.out.2.2];omega) (fun ad had=>by simp at had;omega)))
 obtain ⟨v0,_⟩:=hv1.cell
 clear hch hv1 ho1 hm1 HI0
 go_wp2_with (go_at_call 27;(with_reducible refine (HF0.out _).mono ?_);rintro e w2 ⟨v,rfl,⟨A2,c2,rfl,ho2⟩,hb2⟩;have HB2:=Qh hb2;have HO2:=Qh ho2;have g1:B<w2.heap.size:=(by have:=hb2.size;have:=HZ1.out;omega);have v1:w2.cell? ⟨B,0,none⟩=some (.slice A1 n1 c1):=(hb2.cell (p:=⟨B,0,none⟩) (show B<w1.heap.size by have:=HZ1.out;omega)).trans HO1.out.1.cell.1;clear hb2 ho2)
 have hz2:=HB2.out.size
 have HSZ:=Qh (show SZ w B w2.heap.size n1 c1 K M A1 qs A2 c2 0 (w2.alloc (.cells #[.bool false,.slice A2 (digs W 0).length c2] 56)) from
  ⟨(HBe1.out.trans (HB2.out.mono (by have:=HZ1.out;omega))).alloc (by omega) _,((HI1.out.below HB2.out).below (Qb)),(((HO1.out.2.1.lower (B':=B+3) (by have:=HZ1.out;omega)).below HB2.out).set.wide (fun b hb=>⟨hb.1,hb.2⟩)).keep (fun b hb=>⟨hb,(Qb).block b hb.2⟩),by simpa [sizeP] using (IBox.of_alloc (w:=w2) (x:=false) (y:=.slice A2 (digs W 0).length c2)),by
   have h9:=(Own.mono HO2.out (B':=B+3) (by have:=HZ1.out;omega)).alloc (.cells #[.bool false,.slice A2 (digs W 0).length c2] 56)
   simpa [sizeP] using h9,fun g hg=>by
   rcases HO2.out.form with ⟨h1,_⟩ | ⟨g2,h1,_,h2⟩
   ·rw [h1] at hg;cases hg
   ·rw [h1] at hg;injection hg with hg;injection hg with hg;omega,fun r hr=>by simp at hr⟩)
 have HLq:=Qh (show (qs.map edsR).length=n1∧n1≤1000 from ⟨by rw [List.length_map];exact HO1.out.2.1.row.len,Nat.le_trans HO1.out.2.1.len HKM.out.1⟩)
 have hn9:n1≤1000:=HLq.out.2
 obtain ⟨G,hG⟩:∃ G,w2.heap.size=G:=⟨_,rfl⟩
 have HGz:=Qh (show B+3≤G∧w2.heap.size=G from ⟨by have:=HZ1.out;omega,hG⟩)
 rw [hG] at HSZ
 have HNf:=Qh (Qa HO1.out.2.1.nf (Qa HO1.out.2.1.bnd HO1.out.2.2))
 have HGq:=Qh HO1.out.2.1.gd
 clear hz2 HB2 HO2 HI1 HBe1 HC1 v0 HT HF0
 rw [hG]
 clear hG
 go_loopw [18] (fun vi wr=>∃ k A3 c3,k≤n1∧vi = .int .i64 (k:Nat)∧Hid (SZ w B G n1 c1 K M A1 qs A3 c3 k wr)) (fun vi _=>n1 - (intOf vi).toNat)
 case atStart=>exact ⟨0,A2,c2,Nat.zero_le _,rfl,HSZ⟩
 case round=>
  obtain ⟨k,A3,c3,hk,rfl,HI⟩:=hrel
  clear HSZ
  by_cases hkn:k<n1
  ·obtain ⟨p,hp⟩:∃ p,qs[k]?=some p:=⟨qs[k]'(by have:=HLq.out.1;rw [List.length_map] at this;omega),by simp⟩
   obtain ⟨b,o,rfl,hPb,i0,i1,i2,i3,i4,i5⟩:=HI.out.out.row.at_ hp
   have hpm:=List.mem_of_getElem? hp
   have HGd:=Qh (HGq.out p hpm)
   have HKp:=Qh (HI.out.out.kid p hpm)
   have HMm:=Qh (HNf.out.2.1 (edsR p) (List.mem_map.2 ⟨p,hpm,rfl⟩))
   have HPk:=Qh (show (qs.map edsR)[k]?=some (edsR p) by simp [hp])
   have hX:=RBox.new wr p
   have hlG:=HI.out.sum.lt
   have hlb:b<wr.heap.size:=by omega
   obtain ⟨⟨p1i,p1g,p1A,p1n,p1c,p1l⟩,⟨p2i,p2g,p2A,p2n,p2c,p2l⟩⟩:=p
   have HX:=Qh hX
   simp only [cells6_eq] at HX
   simp only at i0 i1 i2 i3 i4 i5
   have HBx:=Qh (show Below wr.heap.size wr (wr.alloc (.cells #[.int .i64 p1i,.bool p1g,.slice p1A p1n p1c,.int .i64 p2i,.bool p2g,.slice p2A p2n p2c] 69)) from Qb)
   have HRs:=Qh (HI.out.res.below HBx.out)
   have HSm:=Qh (HI.out.sum.below HBx.out)
   obtain ⟨z0,z1,z2,z3,z4,z5⟩:=HX.out.cells
   obtain ⟨y0,y1⟩:=HRs.out.cells
   obtain ⟨f0,f1⟩:=HRs.out.frozens
   simp only at z0 z1 z2 z3 z4 z5
   have hki:(k:Int)<(n1:Int):=by omega
   have hk0:(0:Int)≤(k:Int):=by omega
   have gB1:B+1<wr.heap.size:=HI.out.res.lt
   have tt:=HGd.out.1.1.tri
   have tt2:=HGd.out.1.2.tri
   unfold Bd.Tri at tt tt2
   simp only at tt tt2
   have HKa:=Qh (show LimP wr (Fr (B+3) wr) p1A p1n p1c p1l from HKp.out.a.lim.wide (fun b hb=>⟨hb.1,by omega⟩))
   have HKb:=Qh (show LimP wr (Fr (B+3) wr) p2A p2n p2c p2l from HKp.out.b.lim.wide (fun b hb=>⟨hb.1,by omega⟩))
   have l1n:p1n≤33554432:=HGd.out.2.1
   have l2n:p2n≤33554432:=HGd.out.2.2
   have a1 : -1≤p1i:=by omega
   have a2:p1i≤1:=by omega
   have a3 : -1≤p2i:=by omega
   have a4:p2i≤1:=by omega
   clear hp hPb hX tt tt2 hlG
   have HSo0:=Qh (HI.out.own.below HBx.out (Nat.le_refl _))
   go_upto_region 8 with fail
   generalize (wr.alloc (.cells #[.int .i64 p1i,.bool p1g,.slice p1A p1n p1c,.int .i64 p2i,.bool p2g,.slice p2A p2n p2c] 69))=w5 at *
   have h3:¬p1i=0∨(p1i=0∧¬p2i=0)∨(p1i=0∧p2i=0):=by omega
   rcases h3 with c1 | ⟨c1,c2⟩ | ⟨c1,c2⟩
   ·have d1:(p1i==0)=false:=beq_eq_false_iff_ne.2 c1
    have HNo:=Qh (show ¬Hf.fin (qs.map edsR) from fun h=>by
     obtain ⟨x,y,e⟩:=h _ (List.mem_of_getElem? HPk.out)
     unfold edsR at e
     injection e with e1 e2
     unfold Bd.ed at e1
     simp only at e1
     split at e1
     ·cases e1
     ·split at e1
      ·cases e1
      ·omega)
    clear c1
    go_wp2_with fail
    have HSet:=Qh (HRs.out.set2 false (.slice none 0 0))
    have HBu:=Qh (HI.out.bel.trans (HBx.out.mono (by omega)))
    have key:(∃ N,NF N∧(∀ z,Hf.mem z N↔Hf.mem z (ps.map edsR))∧Below B w (w5.setCell ⟨B+1,0,none⟩ (.bool false) |>.setCell ⟨B+1,1,none⟩ (.slice none 0 0)) ∧
      ((Hf.fin N∧∃ A c,Ending.returned (.tuple #[.agg #[.bool false,.slice none 0 0],.bool false,.int .i64 0]) = .returned (.tuple #[.agg #[.bool (decide (sizeP N<0)),.slice A (digs W (sizeP N).natAbs).length c],.bool true,.int .i64 0])∧OwnU (w5.setCell ⟨B+1,0,none⟩ (.bool false) |>.setCell ⟨B+1,1,none⟩ (.slice none 0 0)) B A (digs W (sizeP N).natAbs).length c (u32s (digs W (sizeP N).natAbs))) ∨
       (¬Hf.fin N∧Ending.returned (.tuple #[.agg #[.bool false,.slice none 0 0],.bool false,.int .i64 0]) = .returned (.tuple #[.agg #[.bool false,.slice none 0 0],.bool false,.int .i64 0])))):=
     ⟨qs.map edsR,HNf.out.1,HNf.out.2.2,HBu.out.grown HSet.out.2 (by have:=HBu.out.size;have:=HB.out;omega) (Qg (by omega)),.inr ⟨HNo.out,rfl⟩⟩
    generalize (w5.setCell ⟨B+1,0,none⟩ (.bool false)).setCell ⟨B+1,1,none⟩ (.slice none 0 0)=w9 at *
    obtain ⟨s0,s1⟩:=HSet.out.1.cells
    exact bodyPost_ret (by simp [results,Tryz.results28,go_sem,s0,s1]) rfl key
   ·have d2:(p2i==0)=false:=beq_eq_false_iff_ne.2 c2
    have HNo:=Qh (show ¬Hf.fin (qs.map edsR) from fun h=>by
     obtain ⟨x,y,e⟩:=h _ (List.mem_of_getElem? HPk.out)
     unfold edsR at e
     injection e with e1 e2
     unfold Bd.ed at e2
     simp only at e2
     split at e2
     ·cases e2
     ·split at e2
      ·cases e2
      ·omega)
    subst c1
    clear c2
    go_wp2_with fail
    have HSet:=Qh (HRs.out.set2 false (.slice none 0 0))
    have HBu:=Qh (HI.out.bel.trans (HBx.out.mono (by omega)))
    have key:(∃ N,NF N∧(∀ z,Hf.mem z N↔Hf.mem z (ps.map edsR))∧Below B w (w5.setCell ⟨B+1,0,none⟩ (.bool false) |>.setCell ⟨B+1,1,none⟩ (.slice none 0 0)) ∧
      ((Hf.fin N∧∃ A c,Ending.returned (.tuple #[.agg #[.bool false,.slice none 0 0],.bool false,.int .i64 0]) = .returned (.tuple #[.agg #[.bool (decide (sizeP N<0)),.slice A (digs W (sizeP N).natAbs).length c],.bool true,.int .i64 0])∧OwnU (w5.setCell ⟨B+1,0,none⟩ (.bool false) |>.setCell ⟨B+1,1,none⟩ (.slice none 0 0)) B A (digs W (sizeP N).natAbs).length c (u32s (digs W (sizeP N).natAbs))) ∨
       (¬Hf.fin N∧Ending.returned (.tuple #[.agg #[.bool false,.slice none 0 0],.bool false,.int .i64 0]) = .returned (.tuple #[.agg #[.bool false,.slice none 0 0],.bool false,.int .i64 0])))):=
     ⟨qs.map edsR,HNf.out.1,HNf.out.2.2,HBu.out.grown HSet.out.2 (by have:=HBu.out.size;have:=HB.out;omega) (Qg (by omega)),.inr ⟨HNo.out,rfl⟩⟩
    generalize (w5.setCell ⟨B+1,0,none⟩ (.bool false)).setCell ⟨B+1,1,none⟩ (.slice none 0 0)=w9 at *
    obtain ⟨s0,s1⟩:=HSet.out.1.cells
    exact bodyPost_ret (by simp [results,Tryz.results28,go_sem,s0,s1]) rfl key
   ·subst c1
    subst c2
    obtain ⟨x,hx⟩:∃ x,ival p1g p1l=x:=⟨_,rfl⟩
    obtain ⟨y,hy⟩:∃ y,ival p2g p2l=y:=⟨_,rfl⟩
    have HXY:=Qh (Qa hx hy)
    have HE:=Qh (show edsR ((⟨0,p1g,p1A,p1n,p1c,p1l⟩:Bd),(⟨0,p2g,p2A,p2n,p2c,p2l⟩:Bd))=(.num x,.num y) by unfold edsR;rw [Bd.ed_zero rfl,Bd.ed_zero rfl];unfold Bd.z;rw [hx,hy])
    clear hx hy
    obtain ⟨mx,hmx⟩:∃ m,-x=m:=⟨_,rfl⟩
    obtain ⟨dd,hdd⟩:∃ m,y+mx=m:=⟨_,rfl⟩
    obtain ⟨tt,htt⟩:∃ m,dd+on=m:=⟨_,rfl⟩
    have HLet:=Qh (Qa hmx (Qa hdd htt))
    have HT1:=Qh (sizeP_take HPk.out)
    rw [HE.out] at HT1 HMm HPk
    have HT2:=Qh (show sizeP ((qs.map edsR).take (k+1))=sizeP ((qs.map edsR).take k)+tt from by rw [HT1.out];show _+(y - x+1)=_;have:=HOn.out;omega)
    clear hmx hdd htt
    have HS0:=Qh (size_digs (HNf.out.2.1.take k) (by rw [List.length_take];omega))
    obtain ⟨S,hS⟩:∃ S,sizeP ((qs.map edsR).take k)=S:=⟨_,rfl⟩
    rw [hS] at HT2 HS0 HSm
    have hSo:=HSo0.out
    rw [hS] at hSo
    have HSo:=Qh hSo
    clear hS hSo HT1
    go_upto_region 10 with fail
    refine wp_region_U 12 (by kernel_rfl) (fun z9 K0 hs0=>?_)
    refine tZ0 0 K0 ?_ (y:=fun z5 hS=>by obtain ⟨q0,q1⟩:=(HSm.out.below hS).cells;go_simp;rfl)
    refine tZ0 1 K0 ?_
    refine tZ0 2 K0 ?_
    refine tZ0 3 K0 ?_ (y:=fun z5 hS=>by obtain ⟨q0,q1,q2,q3,q4,q5⟩:=(HX.out.below hS).cells;go_simp;rfl)
    refine tZ0 4 K0 ?_
    refine tZ0 5 K0 ?_
    refine tZ0 6 K0 ?_ (y:=fun z5 hS=>by obtain ⟨q0,q1,q2,q3,q4,q5⟩:=(HX.out.below hS).cells;go_simp;rfl)
    refine uW 7 fun K hK=>?_
    go_simp
    have HW0:=Qh (Qt HBx.out K0)
    (with_reducible refine (neg_any p1g ((HKa.out.sl (B:=wr.heap.size) (fun b hb=>hb.2)).below HW0.out (Nat.le_refl _)) (by omega) HW0.out.size).mono ?_)
    rintro e u1 ⟨v,rfl,hr1,hb1⟩
    have ex:ival (!p1g) p1l=mx:=by rw [←HLet.out.1,←HXY.out.1];unfold ival;cases p1g <;> simp
    rw [ex] at hr1
    obtain ⟨A4,c4,rfl,ho4⟩:=hr1
    have K1:=Qt K0 hb1
    refine hK.out _ _ (fun _=>K1) ?_
    have L1:(digs W mx.natAbs).length≤M:=by rw [←HLet.out.1,Int.natAbs_neg];exact HMm.out.1
    refine uW 8 fun K hK=>?_
    go_simp
    have HW1:=Qh (Qt HBx.out K1)
    (with_reducible refine (plus_ro (z:=dd) ((HKb.out.sl (B:=wr.heap.size) (fun b hb=>hb.2)).below HW1.out (Nat.le_refl _)) HW1.out.size HXY.out.2 ho4 (by omega) (by have:=HKM.out;omega) HLet.out.2.1).mono ?_)
    rintro e u2 ⟨v,rfl,⟨A5,c5,rfl,ho5⟩,hb2⟩
    have K2:=Qt K1 hb2
    refine hK.out _ _ (fun _=>K2) ?_
    have L2:(digs W dd.natAbs).length≤M+1:=by rw [←HLet.out.2.1];exact len_add HMm.out.2 L1
    refine uW 9 fun K hK=>?_
    go_simp
    (with_reducible refine (HF1.out _).mono ?_)
    rintro e u3 ⟨v,rfl,⟨A6,c6,rfl,ho6⟩,hb3⟩
    have K3:=Qt K2 hb3
    refine hK.out _ _ (fun _=>K3) ?_
    have L3:(digs W on.natAbs).length≤M+1:=by rw [HOn.out];exact Nat.le_trans (digs_length_le (k:=1) (by decide) (by rw [Nat.pow_one];show (1:Nat)<4294967296;omega)) (by omega)
    refine uW 10 fun K hK=>?_
    go_simp
    (with_reducible refine (plus_oo (z:=tt) (Own.below ho5 hb3 (Nat.le_refl _)) ho6 (by have:=HKM.out;omega) (by have:=HKM.out;omega) HLet.out.2.2).mono ?_)
    rintro e u4 ⟨v,rfl,⟨A7,c7,rfl,ho7⟩,hb4⟩
    have K4:=Qt K3 hb4
    refine hK.out _ _ (fun _=>K4) ?_
    have L4:(digs W tt.natAbs).length≤M+2:=by rw [←HLet.out.2.2];exact len_add L2 L3
    refine uW 11 fun K hK=>?_
    go_simp
    (with_reducible refine (plus_oo (z:=sizeP ((qs.map edsR).take (k+1))) (Own.below HSo.out K4 (Nat.le_refl _)) ho7 (by have:=HS0.out;have:=HKM.out;omega) (by have:=HKM.out;omega) HT2.out.symm).mono ?_)
    rintro e u5 ⟨v,rfl,⟨A8,c8,rfl,ho8⟩,hb5⟩
    have K5:=Qt K4 hb5
    refine hK.out _ _ (fun _=>K5) ?_
    have HSm5:=Qh (HSm.out.below K5)
    obtain ⟨m0,m1⟩:=HSm5.out.cells
    obtain ⟨l0,l1⟩:=HSm5.out.frozens
    refine uW 12 fun K hK=>?_
    go_simp
    refine hK.out _ _ (fun h=>absurd h (by simp)) ?_
    refine wpAnyW_done (by kernel_rfl) ?_ _
    have HSet:=Qh (HSm5.out.set2 (decide (sizeP ((qs.map edsR).take (k+1))<0)) (.slice A8 (digs W (sizeP ((qs.map edsR).take (k+1))).natAbs).length c8))
    have HBu:=Qh (Qt HBx.out K5)
    have HO8:=Qh ho8
    have zz1:=K4.size
    have zz2:=hb5.size
    have zz3:=HBx.out.size
    have HZ8:=Qh (show wr.heap.size≤u4.heap.size by omega)
    clear K0 K1 K2 K3 K4 K5 hb1 hb2 hb3 hb4 hb5 ho4 ho5 ho6 ho7 ho8 hs0 L1 L2 L3 L4 m0 m1 l0 l1 zz1 zz2 zz3
    go_wp2_with fail
    go_roundw
    case rel=>
     have hGl:=HI.out.sum.lt
     have hG3:=HGz.out.1
     have hu:=HBu.out.size
     have hu2:=HSet.out.2.size
     have hz8:=HZ8.out
     refine ⟨k+1,A8,c8,by omega,by go_num,Qh ⟨(HI.out.bel.trans (HBu.out.mono (by omega))).grown HSet.out.2 (by omega) (Qg (by omega)),(HI.out.res.below HBu.out).gro HSet.out.2 (by omega),?_,HSet.out.1,?_,?_,?_⟩⟩
     ·exact HI.out.out.keep (fun b hb=>⟨hb,(HSet.out.2.block b (by omega) (fun e=>by injection e with e;omega)).trans (HBu.out.block b (by omega))⟩)
     ·have hne:∀ g,A8=some ⟨g,0,none⟩→g≠G:=fun g hg=>by
       rcases HO8.out.form with ⟨h1,_⟩ | ⟨g2,h1,h2,_⟩
       ·rw [h1] at hg;cases hg
       ·rw [h1] at hg;injection hg with hg;injection hg with hg;omega
      exact ((Own.mono HO8.out (B':=B+3) (by omega)).far hne _).far hne _
     ·intro g hg
      rcases HO8.out.form with ⟨h1,_⟩ | ⟨g2,h1,h2,_⟩
      ·rw [h1] at hg;cases hg
      ·rw [h1] at hg;injection hg with hg;injection hg with hg;omega
     ·intro r hr
      rw [List.take_add_one,HPk.out,List.mem_append] at hr
      rcases hr with hr | hr
      ·exact HI.out.fn r hr
      ·simp only [Option.toList,List.mem_singleton] at hr
       exact ⟨x,y,hr⟩
    case measure=>simp [intOf];omega
  ·have hkk:n1=k:=by omega
   subst hkk
   have hki:¬((n1:Int)<(n1:Int)):=by omega
   have HTk:=Qh (show (qs.map edsR).take n1=qs.map edsR from List.take_of_length_le (Nat.le_of_eq HLq.out.1))
   have hSm:=HI.out.sum
   have hSo:=HI.out.own
   have hSn:=HI.out.ne
   rw [HTk.out] at hSm hSo
   have HFn:=Qh (show Hf.fin (qs.map edsR) from by have:=HI.out.fn;rw [HTk.out] at this;exact this)
   have HS0:=Qh (size_digs HNf.out.2.1 (by rw [HLq.out.1];exact HLq.out.2))
   have HFin:=Qh (fun (w':World) (hb:Below B w w') A c (ho:OwnU w' B A (digs W (sizeP (qs.map edsR)).natAbs).length c (u32s (digs W (sizeP (qs.map edsR)).natAbs)))=>show (∃ N,NF N∧(∀ z,Hf.mem z N↔Hf.mem z (ps.map edsR))∧Below B w w' ∧
    ((Hf.fin N∧∃ A2 c2,Ending.returned (.tuple #[.agg #[.bool (decide (sizeP (qs.map edsR)<0)),.slice A (digs W (sizeP (qs.map edsR)).natAbs).length c],.bool true,.int .i64 0]) = .returned (.tuple #[.agg #[.bool (decide (sizeP N<0)),.slice A2 (digs W (sizeP N).natAbs).length c2],.bool true,.int .i64 0])∧OwnU w' B A2 (digs W (sizeP N).natAbs).length c2 (u32s (digs W (sizeP N).natAbs))) ∨
     (¬Hf.fin N∧Ending.returned (.tuple #[.agg #[.bool (decide (sizeP (qs.map edsR)<0)),.slice A (digs W (sizeP (qs.map edsR)).natAbs).length c],.bool true,.int .i64 0]) = .returned (.tuple #[.agg #[.bool false,.slice none 0 0],.bool false,.int .i64 0])))) from
    ⟨qs.map edsR,HNf.out.1,HNf.out.2.2,hb,.inl ⟨HFn.out,A,c,rfl,ho⟩⟩)
   obtain ⟨S,hS⟩:∃ S,sizeP (qs.map edsR)=S:=⟨_,rfl⟩
   rw [hS] at hSm hSo HS0 HFin
   obtain ⟨L,hL⟩:∃ L,digs W S.natAbs=L:=⟨_,rfl⟩
   have hdL:Dig 4294967296 L:=by rw [←hL];exact dig_digs (by decide) _
   rw [hL] at hSm hSo HS0 HFin
   have HSm:=Qh hSm
   have HSo:=Qh hSo
   have HRs:=Qh HI.out.res
   have HBl:=Qh HI.out.bel
   have HBt:=Qh (bits_any (decide (S<0)) (hSo.sl hdL rfl) (by have:=HS0.out;have:=HKM.out;omega) (Nat.le_refl _))
   have hbl:¬(4096<(blen (nv W L):Int)):=by
    have h1:nv W L<2 ^ 4096:=by
     refine Ql (nv_lt hdL) ?_
     refine Nat.le_trans (Nat.pow_le_pow_right (by decide) (show L.length≤128 by have:=HS0.out;have:=HKM.out;omega)) ?_
     show 4294967296 ^ 128≤2 ^ 4096
     decide +kernel
    have h2:blen (nv W L)≤4096:=blen_le_iff.2 h1
    omega
   generalize blen (nv W L)=bl at *
   obtain ⟨y0,y1⟩:=hSm.cells
   obtain ⟨f0,f1⟩:=hSm.frozens
   obtain ⟨x0,x1⟩:=HRs.out.cells
   obtain ⟨g0,g1⟩:=HRs.out.frozens
   have hHs:=HRs.out.lt
   clear hSm hSo hSn hS hL hdL HI hk
   go_wp2_with (go_at_call 67;(with_reducible refine HBt.out.mono ?_);rintro e w6 ⟨rfl,hb6⟩;have HB6:=Qh hb6;have HR6:=Qh (HRs.out.below hb6);have HM6:=Qh (HSm.out.below hb6);clear hb6 y0 y1 f0 f1 x0 x1 g0 g1;obtain ⟨y0,y1⟩:=HM6.out.cells;obtain ⟨f0,f1⟩:=HM6.out.frozens;obtain ⟨x0,x1⟩:=HR6.out.cells;obtain ⟨g0,g1⟩:=HR6.out.frozens)
   have hne:∀ g,A3=some ⟨g,0,none⟩→g≠B+1:=fun g hg=>by
    rcases HSo.out.form with ⟨h1,_⟩ | ⟨g2,h1,h2,_⟩
    ·rw [h1] at hg;cases hg
    ·rw [h1] at hg;injection hg with hg;injection hg with hg;omega
   have HSet:=Qh (HR6.out.set2 (decide (S<0)) (.slice A3 L.length c3))
   have HO6:=Qh ((((Own.below HSo.out HB6.out (Nat.le_refl _)).mono (B':=B) (by omega)).far (p:=⟨B+1,0,none⟩) hne (.bool (decide (S<0)))).far (p:=⟨B+1,1,none⟩) hne (.slice A3 L.length c3))
   have HBe:=Qh ((HBl.out.trans (HB6.out.mono (by omega))).grown HSet.out.2 (by have:=HB.out;have:=HB6.out.size;omega) (Qg (by omega)))
   have key:=HFin.out _ HBe.out A3 c3 HO6.out
   generalize (w6.setCell ⟨B+1,0,none⟩ (.bool (decide (S<0)))).setCell ⟨B+1,1,none⟩ (.slice A3 L.length c3)=w9 at *
   obtain ⟨s0,s1⟩:=HSet.out.1.cells
   exact bodyPost_ret (by simp [results,Tryz.results28,go_sem,s0,s1]) rfl key
end Go.Proofs.YtpikjceodmepiaaGreatDoor
