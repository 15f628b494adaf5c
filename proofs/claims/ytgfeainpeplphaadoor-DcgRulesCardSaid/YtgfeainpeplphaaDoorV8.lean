import Derived.Test.YtgfeainpeplphaaDoorV7
import Derived.Test.YtgfeainpeplphaaDoorV0
set_option maxRecDepth 1000000
set_option maxHeartbeats 64000000
set_option linter.unusedVariables false
set_option linter.unusedSimpArgs false
namespace Go.Proofs.YtgfeainpeplphaaDoor
open Go.RowKit Hb Ht
attribute [local go_sem] Oper.semAt_some
def RuleR (w:World) (r:Except Tm Tm) (e:Ending) (w':World):Prop:=
 Below w.heap.size w w'∧match r with
  | .ok g=>∃ sg,e = .returned (.tuple #[valT g sg,.nilIface])∧TOwn w' g sg w.heap.size w'.heap.size
  | .error b=>∃ bb,e = .returned (.tuple #[zeroTV,.iface 82 (.pointer (some ⟨bb,0,none⟩))])∧BallAt w' bb b
theorem RuleR.mkOk {w w':World} {g:Tm} {e:Ending} {sg:Value} (hb:Below w.heap.size w w') (he:e = .returned (.tuple #[valT g sg,.nilIface])) (ht:TOwn w' g sg w.heap.size w'.heap.size):RuleR w (.ok g) e w':=⟨hb,sg,he,ht⟩
theorem RuleR.mkBad {w w':World} {b:Tm} {e:Ending} {bb:Nat} (hb:Below w.heap.size w w') (he:e = .returned (.tuple #[zeroTV,.iface 82 (.pointer (some ⟨bb,0,none⟩))])) (ht:BallAt w' bb b):RuleR w (.error b) e w':=⟨hb,bb,he,ht⟩
theorem hqRule {R:Ending→World→Prop} {i:Nat} (hi:3<i) {v:Value} (c:List PanicEntry) (a:Act) (w:World) (h:bodyPostD Tryd.prog Tryd.f9 R (.panic c) (a.put (some i) v) w):bodyPostD Tryd.prog Tryd.f9 R (.panic c) a w:=by
 refine leaves_congr (t1:=(a.put (some i) v).tmps) (fun w2=>?_) _ _ _ h
 have h2:i≠2:=by omega
 have h3:i≠3:=by omega
 simp [results,Tryd.results9,Act.put,Array.getElem?_setIfInBounds,Array.getD_eq_getD_getElem?,h2,h3]
theorem ruleT_no {t:Tm} (h:isC t sRule 2=false):ruleT t = .error (typedT sDcgRule t):=by unfold ruleT;rw [if_pos h]
theorem hasV_nn {t:Tm} (h:checkP t=0) {x:Int} (hx:HasV x t):0≤x:=by
 have h0:=(check_iff.1 h).2
 revert hx
 revert h0
 refine Tm.ind (p:=fun t=>errsP t=0→HasV x t→0≤x) (fun k n m b v l ih h0 hx=>?_) t
 obtain ⟨h1,h2⟩:=errs_iff.1 h0
 rw [HasV] at hx
 rcases hx with ⟨_,hv⟩ | hx
 ·have:=(one_iff.1 h1).2.2.1
  subst hv
  exact this
 ·obtain ⟨a,ha,hxa⟩:=hasVs_iff.1 hx
  exact ih a ha (h2 a ha) hxa
structure RS (w:World) (N:Nat) (t:Tm) (st:Value) (nx:Int) (u:World):Prop where
 t1:TBox u w.heap.size t st
 r:TBox u (w.heap.size+1) zeroT (.slice none 0 0)
 e:u.heap[w.heap.size+1+1]?=some (.cells #[.nilIface] 29 (0,0))
 n:u.heap[N]?=some (.cells #[.int .i64 nx] 3 (0,0))
 bel:Below w.heap.size w u
 lt:w.heap.size+1+1<N
 kid:TAtP u (fun b=>b<w.heap.size) t st
theorem RS.keep {w u u':World} {N R:Nat} {t:Tm} {st:Value} {nx:Int} (h:RS w N t st nx u) (hg:u.grownBy u' (some R)) (hR:w.heap.size+1+1<R) (hRN:N≠R):RS w N t st nx u':=
 ⟨h.t1.gro hg (by omega),h.r.gro hg (by omega),blk_ne hg h.e (by omega),blk_ne hg h.n hRN,h.bel.grown hg h.bel.size (Qg (by omega)),h.lt,TAtP.gro (N:=R) h.kid (fun b hb=>⟨Ql hb h.bel.size,by omega⟩) hg⟩
theorem RS.go {w u u':World} {N:Nat} {t:Tm} {st:Value} {nx nx':Int} (h:RS w N t st nx u) (hg:u.grownBy u' (some N)) (hn:u'.heap[N]?=some (.cells #[.int .i64 nx'] 3 (0,0))):RS w N t st nx' u':=
 ⟨h.t1.gro hg (by have:=h.lt;omega),h.r.gro hg (by have:=h.lt;omega),blk_ne hg h.e (by have:=h.lt;omega),hn,h.bel.grown hg h.bel.size (fun j e=>by injection e with e;have:=h.lt;omega),h.lt,TAtP.gro (N:=N) h.kid (fun b hb=>⟨Ql hb h.bel.size,by have:=h.lt;omega⟩) hg⟩
theorem RS.below {w u u':World} {N:Nat} {t:Tm} {st:Value} {nx:Int} (h:RS w N t st nx u) (hb:Below u.heap.size u u'):RS w N t st nx u':=
 h.go (grown_below hb) ((hb.block N (Array.getElem?_eq_some_iff.1 h.n).1).trans h.n)
theorem RS.nlt {w u:World} {N:Nat} {t:Tm} {st:Value} {nx:Int} (h:RS w N t st nx u):N<u.heap.size:=(Array.getElem?_eq_some_iff.1 h.n).1
theorem cell_blk {w:World} {g f:Nat} {v:Value} (h:w.cell? ⟨g,f,none⟩=some v):g<w.heap.size:=by
 rcases Nat.lt_or_ge g w.heap.size with h1 | h1
 ·exact h1
 ·unfold World.cell? at h
  simp [Array.getElem?_eq_none h1] at h
theorem cellB {w w':World} {g f:Nat} {v:Value} (hb:Below w.heap.size w w') (h:w.cell? ⟨g,f,none⟩=some v):w'.cell? ⟨g,f,none⟩=some v:=
 (Qc (a:=⟨g,f,none⟩) (hb.block g (cell_blk h)).symm).symm.trans h
theorem okF_zero:okF zeroT:=⟨by simp [zeroT,Tm.n],by simp [zeroT,Tm.m],by simp [zeroT,Tm.b],by simp [zeroT,Tm.v],by simp [zeroT,Tm.k]⟩
theorem zero_at (w:World) (P:Nat→Prop):TAtP w P zeroT (.slice none 0 0):=by
 rw [TAtP.iff]
 exact ⟨none,0,rfl,Nat.le_refl _,by simp [maxLen],by show 0≤_;omega,okF_zero,fun hne=>absurd rfl hne⟩
structure RT (w:World) (N:Nat) (t:Tm) (st:Value) (nx:Int) (H Bx:Nat) (h:Tm) (sh:Value) (b:Tm) (sb:Value) (u:World):Prop where
 rs:RS w N t st nx u
 bh:TBox u H h sh
 bb:TBox u Bx b sb
 lh:N<H
 lb:N<Bx
 ne:H≠Bx
 kh:TAtP u (fun b=>b<w.heap.size) h sh
 kb:TAtP u (fun b=>b<w.heap.size) b sb
theorem RT.go {w u u':World} {N H Bx:Nat} {t h b:Tm} {st sh sb:Value} {nx nx':Int} (k:RT w N t st nx H Bx h sh b sb u) (hg:u.grownBy u' (some N)) (hn:u'.heap[N]?=some (.cells #[.int .i64 nx'] 3 (0,0))):RT w N t st nx' H Bx h sh b sb u':=
 ⟨k.rs.go hg hn,k.bh.gro hg (by have:=k.lh;omega),k.bb.gro hg (by have:=k.lb;omega),k.lh,k.lb,k.ne,TAtP.gro (N:=N) k.kh (fun b hb=>⟨Ql hb k.rs.bel.size,by have:=k.rs.lt;omega⟩) hg,TAtP.gro (N:=N) k.kb (fun b hb=>⟨Ql hb k.rs.bel.size,by have:=k.rs.lt;omega⟩) hg⟩
theorem RT.below {w u u':World} {N H Bx:Nat} {t h b:Tm} {st sh sb:Value} {nx:Int} (k:RT w N t st nx H Bx h sh b sb u) (hb:Below u.heap.size u u'):RT w N t st nx H Bx h sh b sb u':=
 k.go (grown_below hb) ((hb.block N (Array.getElem?_eq_some_iff.1 k.rs.n).1).trans k.rs.n)
theorem RT.setH {w u:World} {N H Bx:Nat} {t h y:Tm} {st sh sb:Value} {nx:Int} (r:RT w N t st nx H Bx h sh y sb u) {k v b:Int} {n m:List UInt8} {ts:List Tm} {sl:Value} {nb mb:ByteArray} (hn:(⟨n.toArray⟩:ByteArray)=nb) (hm:(⟨m.toArray⟩:ByteArray)=mb) (hk:TAtP u (fun b=>b<w.heap.size) (.mk k n m b v ts) sl) :
  RT w N t st nx H Bx (.mk k n m b v ts) sl y sb ((((((u.setCell ⟨H,0,none⟩ (.int .i64 k)).setCell ⟨H,1,none⟩ (.string nb)).setCell ⟨H,2,none⟩ (.string mb)).setCell ⟨H,3,none⟩ (.int .u64 b)).setCell ⟨H,4,none⟩ (.int .i64 v)).setCell ⟨H,5,none⟩ sl):=by
 obtain ⟨h1,h2⟩:=r.bh.set6 ts sl hn hm
 have e1:=r.lh
 have e2:=r.rs.lt
 exact ⟨r.rs.keep h2 (by omega) (by omega),h1,r.bb.gro h2 r.ne.symm,r.lh,r.lb,r.ne,TAtP.gro hk (fun b hb=>⟨Ql hb r.rs.bel.size,by omega⟩) h2,TAtP.gro r.kb (fun b hb=>⟨Ql hb r.rs.bel.size,by omega⟩) h2⟩
theorem RT.setB {w u:World} {N H Bx:Nat} {t h y:Tm} {st sh sb:Value} {nx:Int} (r:RT w N t st nx H Bx h sh y sb u) {k v b:Int} {n m:List UInt8} {ts:List Tm} {sl:Value} {nb mb:ByteArray} (hn:(⟨n.toArray⟩:ByteArray)=nb) (hm:(⟨m.toArray⟩:ByteArray)=mb) (hk:TAtP u (fun b=>b<w.heap.size) (.mk k n m b v ts) sl) :
  RT w N t st nx H Bx h sh (.mk k n m b v ts) sl ((((((u.setCell ⟨Bx,0,none⟩ (.int .i64 k)).setCell ⟨Bx,1,none⟩ (.string nb)).setCell ⟨Bx,2,none⟩ (.string mb)).setCell ⟨Bx,3,none⟩ (.int .u64 b)).setCell ⟨Bx,4,none⟩ (.int .i64 v)).setCell ⟨Bx,5,none⟩ sl):=by
 obtain ⟨h1,h2⟩:=r.bb.set6 ts sl hn hm
 have e1:=r.lb
 have e2:=r.rs.lt
 exact ⟨r.rs.keep h2 (by omega) (by omega),r.bh.gro h2 r.ne,h1,r.lh,r.lb,r.ne,TAtP.gro r.kh (fun b hb=>⟨Ql hb r.rs.bel.size,by omega⟩) h2,TAtP.gro hk (fun b hb=>⟨Ql hb r.rs.bel.size,by omega⟩) h2⟩
def ruleTail (pushed:Bool) (n:Int) (h p y:Tm):Except Tm Tm:=
 if h.k=1 then .error (atomT sInst)
 else if h.k=3∨h.k=4 then .error (typedT sCallable h)
 else if pushed=true∧isNil (elems p).2=false then .error (typedT sList p)
 else
  match putT h (varT n) (varT (n+1)) with
  | .error e=>.error e
  | .ok hd=>
   if pushed then
    match mkB y (varT n) (varT (n+2)) (n+3) with
    | .error e=>.error e
    | .ok (g,_)=>whole (cmpT sNeck [hd,cmpT sComma [g,eqT (varT (n+1)) (endT (elems p).1 (varT (n+2)))]])
   else
    match mkB y (varT n) (varT (n+1)) (n+2) with
    | .error e=>.error e
    | .ok (g,_)=>whole (cmpT sNeck [hd,g])
theorem rule_np {m:List UInt8} {b v:Int} {x y:Tm} (hc:isC x sComma 2=false):ruleT (.mk 5 sRule m b v [x,y])=ruleTail false (above (.mk 5 sRule m b v [x,y])) x (x.as.getD 1 zeroT) y:=by
 have h1:isC (.mk 5 sRule m b v [x,y]) sRule 2=true:=isC_iff.2 ⟨rfl,rfl,rfl⟩
 unfold ruleT ruleTail
 rw [h1,if_neg (by simp)]
 simp only [Tm.as,List.getD_cons_zero,List.getD_cons_succ,hc]
 rfl
theorem rule_p {m m2:List UInt8} {b v b2 v2:Int} {x p y:Tm} : ruleT (.mk 5 sRule m b v [.mk 5 sComma m2 b2 v2 [x,p],y])=ruleTail true (above (.mk 5 sRule m b v [.mk 5 sComma m2 b2 v2 [x,p],y])) x p y:=by
 have h1:isC (.mk 5 sRule m b v [.mk 5 sComma m2 b2 v2 [x,p],y]) sRule 2=true:=isC_iff.2 ⟨rfl,rfl,rfl⟩
 have h2:isC (.mk 5 sComma m2 b2 v2 [x,p]) sComma 2=true:=isC_iff.2 ⟨rfl,rfl,rfl⟩
 unfold ruleT ruleTail
 rw [h1,if_neg (by simp)]
 simp only [Tm.as,List.getD_cons_zero,List.getD_cons_succ,h2]
 rfl
theorem tail_inst {pu:Bool} {n:Int} {h p y:Tm} (hk:h.k=1):ruleTail pu n h p y = .error (atomT sInst):=by unfold ruleTail;rw [if_pos hk]
theorem tail_call {pu:Bool} {n:Int} {h p y:Tm} (hk1:¬h.k=1) (hk:h.k=3∨h.k=4):ruleTail pu n h p y = .error (typedT sCallable h):=by unfold ruleTail;rw [if_neg hk1,if_pos hk]
theorem tail_list {n:Int} {h p y:Tm} (hk1:¬h.k=1) (hk:¬(h.k=3∨h.k=4)) (hn:isNil (elems p).2=false):ruleTail true n h p y = .error (typedT sList p):=by unfold ruleTail;rw [if_neg hk1,if_neg hk,if_pos ⟨rfl,hn⟩]
theorem tail_big {pu:Bool} {n:Int} {h p y:Tm} (hk1:¬h.k=1) (hk:¬(h.k=3∨h.k=4)) (hn:¬(pu=true∧isNil (elems p).2=false)) (h62:62<h.as.length):ruleTail pu n h p y = .error arityT:=by
 unfold ruleTail;rw [if_neg hk1,if_neg hk,if_neg hn];simp [putT,h62]
theorem tail_np {n:Int} {h p y:Tm} (hk1:¬h.k=1) (hk:¬(h.k=3∨h.k=4)) (h62:¬62<h.as.length):ruleTail false n h p y=match mkB y (varT n) (varT (n+1)) (n+2) with
    | .error e=>.error e
    | .ok (g,_)=>whole (cmpT sNeck [cmpT h.n (h.as ++ [varT n,varT (n+1)]),g]):=by
 unfold ruleTail;rw [if_neg hk1,if_neg hk,if_neg (by simp)];simp [putT,h62]
theorem tail_p {n:Int} {h p y:Tm} (hk1:¬h.k=1) (hk:¬(h.k=3∨h.k=4)) (hn:isNil (elems p).2=true) (h62:¬62<h.as.length):ruleTail true n h p y=match mkB y (varT n) (varT (n+2)) (n+3) with
    | .error e=>.error e
    | .ok (g,_)=>whole (cmpT sNeck [cmpT h.n (h.as ++ [varT n,varT (n+1)]),cmpT sComma [g,eqT (varT (n+1)) (endT (elems p).1 (varT (n+2)))]]):=by
 unfold ruleTail;rw [if_neg hk1,if_neg hk,if_neg (by simp [hn])];simp [putT,h62]
theorem put_fitL {w:World} {P:Nat→Prop} {k b v:Int} {n m:List UInt8} {ts:List Tm} {nb mb:ByteArray} {A0:Option Addr} {c0 L:Nat} {f d:Tm} {sf sd:Value} (hn:(⟨n.toArray⟩:ByteArray)=nb) (hm:(⟨m.toArray⟩:ByteArray)=mb) (hL:ts.length=L) (h1:TAtP w P (.mk k n m b v ts) (.slice A0 L c0)) (h2:TAtP w P f sf) (h3:TAtP w P d sd) (hP:∀ b,P b→b<w.heap.size) (h62:L≤62) :
  Calls Tryd.prog 36 #[.agg (Q5 k nb mb b v (.slice A0 L c0)),valT f sf,valT d sd] w fun e w'=>∃ A c,e = .returned (.agg (Qn 5 nb (.slice A (L+2) c)))∧TAtP w' (Grow P w w') (cmpT n (ts ++ [f,d])) (.slice A (L+2) c)∧Below w.heap.size w w':=by
 have h:=put_fit h1 h2 h3 hP (by show ts.length≤62;omega)
 rw [valT_mk hn hm] at h
 refine h.mono ?_
 rintro e w' ⟨sl',rfl,ht,hb⟩
 have hl:(cmpT n (ts ++ [f,d])).as.length=L+2:=by show (ts ++ [f,d]).length=_;simp [hL]
 obtain ⟨A,c,e1,_⟩:=TAtP.iff.1 ht
 have e2:sl' = .slice A (L+2) c:=e1.trans (by rw [show (Tm.mk k n m b v ts).n=n from rfl,show (Tm.mk k n m b v ts).as=ts from rfl,hl])
 subst e2
 refine ⟨A,c,?_,ht,hb⟩
 subst hn
 rfl
structure RD (w:World) (u:World):Prop where
 r:TBox u (w.heap.size+1) zeroT (.slice none 0 0)
 e:u.heap[w.heap.size+1+1]?=some (.cells #[.nilIface] 29 (0,0))
 bel:Below w.heap.size w u
theorem RS.rd {w u:World} {N:Nat} {t:Tm} {st:Value} {nx:Int} (h:RS w N t st nx u):RD w u:=⟨h.r,h.e,h.bel⟩
theorem RD.go {w u u':World} {N:Nat} (h:RD w u) (hg:u.grownBy u' (some N)) (hN:w.heap.size+1+1<N):RD w u':=
 ⟨h.r.gro hg (by omega),blk_ne hg h.e (by omega),h.bel.grown hg h.bel.size (Qg (by omega))⟩
theorem ruleDoor {w v:World} {bb:Nat} {bt:Tm} {tmps:Array Value} {R:Ending→World→Prop} {fv:Fn} {cap dargs:Array Value} (h:RD w v) (hb:BallAt v bb bt)
  (hi:(invoke (.fn fv cap) dargs).run Tryd.prog v = .ok (.enter 29 #[.pointer (some ⟨w.heap.size+1+1,0,none⟩)]) v)
  (hres:∀ z:World,(z.cell? ⟨w.heap.size+1,0,none⟩=some (.int .i64 0)∧z.cell? ⟨w.heap.size+1,1,none⟩=some (.string ⟨#[]⟩)∧z.cell? ⟨w.heap.size+1,2,none⟩=some (.string ⟨#[]⟩)∧z.cell? ⟨w.heap.size+1,3,none⟩=some (.int .u64 0)∧z.cell? ⟨w.heap.size+1,4,none⟩=some (.int .i64 0)∧z.cell? ⟨w.heap.size+1,5,none⟩=some (.slice none 0 0)∧z.cell? ⟨w.heap.size+1+1,0,none⟩=some (.iface 82 (.pointer (some ⟨bb,0,none⟩))))→(results Tryd.f9 tmps).run Tryd.prog z = .ok (.tuple #[zeroTV,.iface 82 (.pointer (some ⟨bb,0,none⟩))]) z)
  (hR:∀ z:World,RuleR w (.error bt) (.returned (.tuple #[zeroTV,.iface 82 (.pointer (some ⟨bb,0,none⟩))])) z→R (.returned (.tuple #[zeroTV,.iface 82 (.pointer (some ⟨bb,0,none⟩))])) z) :
  Leaves Tryd.prog Tryd.f9 tmps R [{ target:=.fn fv cap,args:=dargs }] (.panicking [{ v:=.iface 82 (.pointer (some ⟨bb,0,none⟩)),recovered:=false }]) v:=by
 have hbx:=h.r.far (p:=⟨w.heap.size+1+1,0,none⟩) (by show w.heap.size+1≠w.heap.size+1+1;omega) (.iface 82 (.pointer (some ⟨bb,0,none⟩)))
 have hE2:=one_setCell (u:=.iface 82 (.pointer (some ⟨bb,0,none⟩))) h.e
 have hbl:=BallAt.caught hb h.e (.iface 82 (.pointer (some ⟨bb,0,none⟩)))
 have hbw:Below w.heap.size w (v.setCell ⟨w.heap.size+1+1,0,none⟩ (.iface 82 (.pointer (some ⟨bb,0,none⟩)))):=h.bel.setCell (by show w.heap.size≤w.heap.size+1+1;omega) _
 refine leaves_cons (f:=29) (args:=#[.pointer (some ⟨w.heap.size+1+1,0,none⟩)]) (by simp) hi ?_
 refine (caught_throws (w.heap.size+1+1) bb [] v (cell_of_one h.e) (free_of_one h.e)).mono ?_
 rintro e u' w'' ⟨rfl,rfl,rfl⟩
 obtain ⟨r0,r1,r2,r3,r4,r5⟩:=hbx.cells (nb:=⟨#[]⟩) (mb:=⟨#[]⟩) rfl rfl
 simp only [settle,Leaves,List.dropWhile]
 exact ⟨_,hres _ ⟨r0,r1,r2,r3,r4,r5,cell_of_one hE2⟩,hR _ (RuleR.mkBad hbw rfl hbl)⟩
theorem bare_var (x:Int):Bare (varT x):=⟨fun _=>rfl,Bares.of (fun a ha=>absurd ha (by simp))⟩
theorem bare_mkB {t f d g:Tm} {nx n':Int} (h:mkB t f d nx = .ok (g,n')) (h0:0≤nx) (ht:checkP t=0) (hf:errsP f=0) (hd:errsP d=0):Bare g:=bare_errs _ ((mkB_mk _ _ _ _ _ _ h).errs names_ok h0 (check_iff.1 ht).2 hf hd)
theorem bare_head {n:List UInt8} {t:Tm} {x y:Int} (h:checkP t=0):Bare (cmpT n (t.as ++ [varT x,varT y])):=bare_cmp (fun a ha=>by
 rcases List.mem_append.1 ha with h1 | h1
 ·exact bare_check (check_arg h h1)
 ·simp at h1
  rcases h1 with rfl | rfl
  ·exact bare_var _
  ·exact bare_var _)
theorem made_letters {w w':World} {Q:Nat→Prop} {k v b:Int} {n m:List UInt8} {ts:List Tm} {nb mb:ByteArray} {q:Nat} {e:Ending} (hn:(⟨n.toArray⟩:ByteArray)=nb) (hm:(⟨m.toArray⟩:ByteArray)=mb) (hq:ts.length=q)
  (h:∃ sl',e = .returned (valT (.mk k n m b v ts) sl')∧TAtP w' Q (.mk k n m b v ts) sl'∧Below w.heap.size w w') :
  ∃ A c,e = .returned (.agg (Q5 k nb mb b v (.slice A q c)))∧TAtP w' Q (.mk k n m b v ts) (.slice A q c)∧Below w.heap.size w w':=by
 obtain ⟨sg,h2,h3,h4⟩:=h
 obtain ⟨A,c,e1,_⟩:=TAtP.iff.1 h3
 subst e1
 change e = .returned (valT _ (.slice A ts.length c)) at h2
 change TAtP w' _ _ (.slice A ts.length c) at h3
 rw [valT_mk hn hm,hq] at h2
 rw [hq] at h3
 exact ⟨A,c,h2,h3,h4⟩
theorem RowP.gro {w w':World} {P:Nat→Prop} {A:Option Addr} {n N:Nat} {ps:List (Tm × Value)} (h:RowP w P A n ps) (hP:∀ b,P b→b<w.heap.size∧b≠N) (hg:w.grownBy w' (some N)) (hA:∀ g o,0<n→A=some ⟨g,o,none⟩→g≠N):RowP w' P A n ps:=by
 refine ⟨h.1,fun p hp=>TAtP.gro (N:=N) (h.2.1 p hp) hP hg,fun hn=>?_⟩
 obtain ⟨g,o,e,hg2,hc⟩:=h.2.2 hn
 exact ⟨g,o,e,Ql hg2 hg.size,fun j u hj=>(Qc (a:=⟨g,o+j,none⟩) (hg.block g hg2 (fun e2=>by injection e2 with e2;exact hA g o hn e e2))).trans (hc j u hj)⟩
theorem RowB.rowPN {w w':World} {B n c N:Nat} {A:Option Addr} {ps:List (Tm × Value)} (h:RowB w B A n c ps) (hg:w.grownBy w' (some N)) (hN:N<B):RowP w' (fun b=>B≤b∧b<w'.heap.size) A n ps∧(∀ g o,0<n→A=some ⟨g,o,none⟩→g≠N):=by
 have hA:∀ g o,0<n→A=some ⟨g,o,none⟩→g≠N:=fun g o hn e=>by
  rcases h.block with ⟨_,h0⟩ | ⟨g',e',hB,hg',_⟩
  ·omega
  ·rw [e'] at e
   injection e with e
   injection e with e1 e2
   omega
 refine ⟨?_,hA⟩
 have h2:=RowP.gro h.rowP (fun b hb=>⟨hb.2,by have:=hb.1;omega⟩) hg hA
 exact h2.wide' (fun b hb=>⟨hb.1,Ql hb.2 hg.size⟩)
theorem merge1 {G:Prop} {F gp:World→Prop} (main:(∀ u,F u→gp u)→G) (key:∀ u,F u→gp u):G:=main key
theorem merge3 {G:Prop} {F gp:World→Nat→Nat→Prop} (main:(∀ u H Bx,F u H Bx→gp u H Bx)→G) (key:∀ u H Bx,F u H Bx→gp u H Bx):G:=main key
theorem Rule_err {w0 w:World} {t:Tm} {st:Value} (h1:TAt w w.heap.size t st) (hU:UOk w0 w) {c:Int} (hcs:checkP t=c) (hc:c≠0):Calls Tryd.prog 9 #[valT t st] w fun e w'=>e = .returned (.tuple #[zeroTV,.iface 32 (.int .i64 c)])∧Below w.heap.size w w':=by
 have hcs1:checksP [t]=c:=by
  unfold checksP checks
  rw [show check Lib.validD canonB floB t=c from hcs,if_pos hc]
 obtain ⟨k1,n1,m1,b1,v1,ts1,nb1,mb1,A1,c1,hT1,rfl,hnb1,hmb1,hl1,hc1,hx1,hv1,hs1,hq1⟩:=h1.letters
 subst hT1
 obtain ⟨L1,hL1⟩:∃ L,ts1.length=L:=⟨_,rfl⟩
 rw [hv1]
 rw [hL1] at h1 hv1 hl1 hx1 ⊢
 obtain ⟨W1,hW1⟩:∃ W,w.alloc (.cells (Q5 k1 nb1 mb1 b1 v1 (.slice A1 L1 c1)) 25)=W:=⟨_,rfl⟩
 obtain ⟨W2,hW2⟩:∃ W,W1.alloc (.cells Qz 25)=W:=⟨_,rfl⟩
 obtain ⟨W3,hW3⟩:∃ W,W2.alloc (.cells #[.nilIface] 29)=W:=⟨_,rfl⟩
 obtain ⟨W4,hW4⟩:∃ W,W3.alloc (.cells (Q5 k1 nb1 mb1 b1 v1 (.slice A1 L1 c1)) 25)=W:=⟨_,rfl⟩
 have d1:Below w.heap.size w W1:=by rw [←hW1];exact Qb
 have s1:W1.heap.size=w.heap.size+1:=by rw [←hW1];simp
 have X1:TBox W1 w.heap.size (Tm.mk k1 n1 m1 b1 v1 ts1) (.slice A1 L1 c1):=by rw [←hW1];exact TBox.new w hnb1 hmb1
 have d2:Below W1.heap.size W1 W2:=by rw [←hW2];exact Qb
 have s2:W2.heap.size=W1.heap.size+1:=by rw [←hW2];simp
 have X2:TBox W2 W1.heap.size zeroT (.slice none 0 0):=by rw [←hW2];exact heap_alloc_new W1 _
 have d3:Below W2.heap.size W2 W3:=by rw [←hW3];exact Qb
 have s3:W3.heap.size=W2.heap.size+1:=by rw [←hW3];simp
 have X3:W3.heap[W2.heap.size]?=some (.cells #[.nilIface] 29 (0,0)):=by rw [←hW3];exact heap_alloc_new W2 _
 have d4:Below W3.heap.size W3 W4:=by rw [←hW4];exact Qb
 have s4:W4.heap.size=W3.heap.size+1:=by rw [←hW4];simp
 have X4:W4.heap[W3.heap.size]?=some (.cells (Q5 k1 nb1 mb1 b1 v1 (.slice A1 L1 c1)) 25 (0,0)):=by rw [←hW4];exact heap_alloc_new W3 _
 replace X1:=X1.below d2
 replace X1:=X1.below d3
 replace X1:=X1.below d4
 replace X2:=X2.below d3
 replace X2:=X2.below d4
 replace X3:=(d4.block _ (by omega)).trans X3
 have hb4:Below w.heap.size w W4:=d1.trans ((d2.trans ((d3.trans ((d4).mono (by omega))).mono (by omega))).mono (by omega))
 have hsz4:W4.heap.size=w.heap.size+1+1+1+1:=by omega
 have hrow:RowP W4 (fun b=>b<w.heap.size) (some ⟨W3.heap.size,0,none⟩) 1 [((Tm.mk k1 n1 m1 b1 v1 ts1),Value.slice A1 L1 c1)]:=rowP_at X4 (by rw [←hnb1,←hmb1];rfl) rfl (mem1 (TAtP.below h1 hb4 (fun b hb=>hb)))
 have hck:=dcheck_any (w0:=w0) (c:=1) hrow (fun b hb=>Ql hb hb4.size) (by unfold maxArgs;omega) (Nat.le_refl _) (hU.below hb4)
 rw [s3,s2,s1] at X4
 rw [s2,s1] at X3
 rw [s1] at X2
 rw [s3,s2,s1] at hck
 obtain ⟨x0,x1,x2,x3,x4,x5⟩:=X1.cells hnb1 hmb1
 have HX:=Qh (Qa X1 (Qa X2 X3))
 have HM:=Qh (Qa hnb1 hmb1)
 have HL:=Qh (Qa hL1 (Qa hl1 hx1))
 have HT:=Qh h1
 have HB:=Qh (Qa hb4 hsz4)
 have HC:=Qh hck
 have HU:=Qh hU
 have HWe:=Qh hW4
 have hL1I:(L1:Int)≤1759218604400:=by unfold maxArgs at hx1;omega
 subst hW1 hW2 hW3
 rw [←HWe.out] at x0 x1 x2 x3 x4 x5 HC
 clear h1 hU hck hrow hb4 hsz4 hW4 X1 X2 X3 X4 s1 s2 s3 s4 d1 d2 d3 d4 hnb1 hmb1 hL1 hv1 hs1 hq1 hl1 hx1
 rw [show checksP ([((Tm.mk k1 n1 m1 b1 v1 ts1),Value.slice A1 L1 c1)].map (·.1))=c from hcs1,errV,if_neg hc] at HC
 clear hcs hcs1
 go_enter_defers Tryd.func9,Tryd.ntmps9
 go_wp2_with (go_at_call 27;(with_reducible refine HC.out.mono ?_);rintro e w8 ⟨rfl,hb8⟩;rw [HWe.out] at hb8;have HX8:=Qh (show TBox w8 (w.heap.size+1) zeroT (.slice none 0 0)∧w8.heap[w.heap.size+1+1]?=some (.cells #[.nilIface] 29 (0,0))∧Below w.heap.size w w8∧TBox w8 w.heap.size (Tm.mk k1 n1 m1 b1 v1 ts1) (.slice A1 L1 c1) from ⟨HX.out.2.1.below hb8,(hb8.block _ (Array.getElem?_eq_some_iff.1 HX.out.2.2).1).trans HX.out.2.2,Qt HB.out.1 hb8,HX.out.1.below hb8⟩);have HB8:=Qh hb8;clear hb8;obtain ⟨a0,a1,a2,a3,a4,a5⟩:=HX8.out.1.cells rfl rfl;obtain ⟨e0,e1,e2,e3,e4,e5⟩:=HX8.out.1.frozens;have cE:=cell_of_one HX8.out.2.1;have fE:=free_of_one HX8.out.2.1)
 obtain ⟨hbx,hgr⟩:=HX8.out.1.set6 (k:=0) (b:=0) (v:=0) (n:=[]) (m:=[]) (nb:=⟨#[]⟩) (mb:=⟨#[]⟩) [] (.slice none 0 0) rfl rfl
 generalize ((((((w8.setCell ⟨w.heap.size+1,0,none⟩ (.int .i64 0)).setCell ⟨w.heap.size+1,1,none⟩ (.string ⟨#[]⟩)).setCell ⟨w.heap.size+1,2,none⟩ (.string ⟨#[]⟩)).setCell ⟨w.heap.size+1,3,none⟩ (.int .u64 0)).setCell ⟨w.heap.size+1,4,none⟩ (.int .i64 0)).setCell ⟨w.heap.size+1,5,none⟩ (.slice none 0 0))=w9 at *
 have hE9:=blk_ne hgr HX8.out.2.1 (by omega)
 have hbx10:=hbx.far (p:=⟨w.heap.size+1+1,0,none⟩) (by show w.heap.size+1≠w.heap.size+1+1;omega) (.iface 32 (.int .i64 c))
 have hE10:=one_setCell (u:=.iface 32 (.int .i64 c)) hE9
 have hb10:Below w.heap.size w (w9.setCell ⟨w.heap.size+1+1,0,none⟩ (.iface 32 (.int .i64 c))):=(HX8.out.2.2.1.grown hgr HX8.out.2.2.1.size (Qg (by omega))).setCell (by show w.heap.size≤w.heap.size+1+1;omega) _
 generalize w9.setCell ⟨w.heap.size+1+1,0,none⟩ (.iface 32 (.int .i64 c))=w10 at *
 obtain ⟨r0,r1,r2,r3,r4,r5⟩:=hbx10.cells (nb:=⟨#[]⟩) (mb:=⟨#[]⟩) rfl rfl
 have cE10:=cell_of_one hE10
 simp only [bodyPostD,Leaves]
 exact ⟨.tuple #[zeroTV,.iface 32 (.int .i64 c)],by simp [results,Tryd.results9,go_sem,r0,r1,r2,r3,r4,r5,cE10,zeroTV],rfl,hb10⟩
theorem Rule_main {w0 w:World} {t:Tm} {st:Value} (h1:TAt w w.heap.size t st) (hU:UOk w0 w) (hcs:checkP t=0):Calls Tryd.prog 9 #[valT t st] w fun e w'=>(highB t=true∧e = .returned (.tuple #[zeroTV,.iface 32 (.int .i64 1)])∧Below w.heap.size w w')∨(highB t=false∧RuleR w (ruleT t) e w'):=by
 have hcs1:checksP [t]=0:=by
  unfold checksP checks
  rw [show check Lib.validD canonB floB t=0 from hcs,if_neg (by simp)]
  rfl
 obtain ⟨RR,hRR⟩:∃ RR,ruleT t=RR:=⟨_,rfl⟩
 obtain ⟨HB9,hHB⟩:∃ B,highB t=B:=⟨_,rfl⟩
 obtain ⟨N9,hN9⟩:∃ N,above t=N:=⟨_,rfl⟩
 obtain ⟨l,hl⟩:∃ l,vars t []=l:=⟨_,rfl⟩
 have hll:=vars_len t []
 have hsz:=(check_iff.1 hcs).1
 rw [hRR,hHB]
 have HR0:=Qh (Qa hRR (Qa (show l.any (fun x=>decide (4611686018427387904<x))=HB9 from by rw [←hHB,←hl];rfl) (Qa (show l.foldl (fun n x=>max n (x+1)) 0=N9 from by rw [←hN9,←hl];rfl) (Qa hN9 (Qa (show l.length≤4000 from by rw [←hl];simp at hll;omega) hl)))))
 clear hRR hHB hN9 hll
 obtain ⟨k1,n1,m1,b1,v1,ts1,nb1,mb1,A1,c1,hT1,rfl,hnb1,hmb1,hl1,hc1,hx1,hv1,hs1,hq1⟩:=h1.letters
 subst hT1
 obtain ⟨L1,hL1⟩:∃ L,ts1.length=L:=⟨_,rfl⟩
 rw [hv1]
 rw [hL1] at h1 hv1 hl1 hx1 ⊢
 obtain ⟨W1,hW1⟩:∃ W,w.alloc (.cells (Q5 k1 nb1 mb1 b1 v1 (.slice A1 L1 c1)) 25)=W:=⟨_,rfl⟩
 obtain ⟨W2,hW2⟩:∃ W,W1.alloc (.cells Qz 25)=W:=⟨_,rfl⟩
 obtain ⟨W3,hW3⟩:∃ W,W2.alloc (.cells #[.nilIface] 29)=W:=⟨_,rfl⟩
 obtain ⟨W4,hW4⟩:∃ W,W3.alloc (.cells (Q5 k1 nb1 mb1 b1 v1 (.slice A1 L1 c1)) 25)=W:=⟨_,rfl⟩
 have d1:Below w.heap.size w W1:=by rw [←hW1];exact Qb
 have s1:W1.heap.size=w.heap.size+1:=by rw [←hW1];simp
 have X1:TBox W1 w.heap.size (Tm.mk k1 n1 m1 b1 v1 ts1) (.slice A1 L1 c1):=by rw [←hW1];exact TBox.new w hnb1 hmb1
 have d2:Below W1.heap.size W1 W2:=by rw [←hW2];exact Qb
 have s2:W2.heap.size=W1.heap.size+1:=by rw [←hW2];simp
 have X2:TBox W2 W1.heap.size zeroT (.slice none 0 0):=by rw [←hW2];exact heap_alloc_new W1 _
 have d3:Below W2.heap.size W2 W3:=by rw [←hW3];exact Qb
 have s3:W3.heap.size=W2.heap.size+1:=by rw [←hW3];simp
 have X3:W3.heap[W2.heap.size]?=some (.cells #[.nilIface] 29 (0,0)):=by rw [←hW3];exact heap_alloc_new W2 _
 have d4:Below W3.heap.size W3 W4:=by rw [←hW4];exact Qb
 have s4:W4.heap.size=W3.heap.size+1:=by rw [←hW4];simp
 have X4:W4.heap[W3.heap.size]?=some (.cells (Q5 k1 nb1 mb1 b1 v1 (.slice A1 L1 c1)) 25 (0,0)):=by rw [←hW4];exact heap_alloc_new W3 _
 replace X1:=X1.below d2
 replace X1:=X1.below d3
 replace X1:=X1.below d4
 replace X2:=X2.below d3
 replace X2:=X2.below d4
 replace X3:=(d4.block _ (by omega)).trans X3
 have hb4:Below w.heap.size w W4:=d1.trans ((d2.trans ((d3.trans ((d4).mono (by omega))).mono (by omega))).mono (by omega))
 have hsz4:W4.heap.size=w.heap.size+1+1+1+1:=by omega
 have hrow:RowP W4 (fun b=>b<w.heap.size) (some ⟨W3.heap.size,0,none⟩) 1 [((Tm.mk k1 n1 m1 b1 v1 ts1),Value.slice A1 L1 c1)]:=rowP_at X4 (by rw [←hnb1,←hmb1];rfl) rfl (mem1 (TAtP.below h1 hb4 (fun b hb=>hb)))
 have hck:=dcheck_any (w0:=w0) (c:=1) hrow (fun b hb=>Ql hb hb4.size) (by unfold maxArgs;omega) (Nat.le_refl _) (hU.below hb4)
 rw [s3,s2,s1] at X4
 rw [s2,s1] at X3
 rw [s1] at X2
 rw [s3,s2,s1] at hck
 obtain ⟨x0,x1,x2,x3,x4,x5⟩:=X1.cells hnb1 hmb1
 have HX:=Qh (Qa X1 (Qa X2 X3))
 have HM:=Qh (Qa hnb1 hmb1)
 have HL:=Qh (Qa hL1 (Qa hl1 hx1))
 have HT:=Qh h1
 have HB:=Qh (Qa hb4 hsz4)
 have HC:=Qh hck
 have HU:=Qh hU
 have HWe:=Qh hW4
 have hL1I:(L1:Int)≤1759218604400:=by unfold maxArgs at hx1;omega
 subst hW1 hW2 hW3
 rw [←HWe.out] at x0 x1 x2 x3 x4 x5 HC
 clear h1 hU hck hrow hb4 hsz4 hW4 X1 X2 X3 X4 s1 s2 s3 s4 d1 d2 d3 d4 hnb1 hmb1 hL1 hv1 hs1 hq1 hl1 hx1
 rw [show checksP ([((Tm.mk k1 n1 m1 b1 v1 ts1),Value.slice A1 L1 c1)].map (·.1))=0 from hcs1,errV,if_pos rfl] at HC
 have HCk:=Qh hcs
 clear hcs hcs1 hl
 go_enter_defers Tryd.func9,Tryd.ntmps9
 go_upto_region 4 with (go_at_call 27;(with_reducible refine HC.out.mono ?_);rintro e w8 ⟨rfl,hb8⟩;rw [HWe.out] at hb8;have HX8:=Qh (show TBox w8 (w.heap.size+1) zeroT (.slice none 0 0)∧w8.heap[w.heap.size+1+1]?=some (.cells #[.nilIface] 29 (0,0))∧Below w.heap.size w w8∧TBox w8 w.heap.size (Tm.mk k1 n1 m1 b1 v1 ts1) (.slice A1 L1 c1) from ⟨HX.out.2.1.below hb8,(hb8.block _ (Array.getElem?_eq_some_iff.1 HX.out.2.2).1).trans HX.out.2.2,Qt HB.out.1 hb8,HX.out.1.below hb8⟩);have HB8:=Qh hb8;clear hb8)
 obtain ⟨N,hNN⟩:∃ N,w8.heap.size=N:=⟨_,rfl⟩
 obtain ⟨w9,hw9⟩:∃ w9,w8.alloc (.cells #[.int .i64 0] 3)=w9:=⟨_,rfl⟩
 obtain ⟨wa,hwa⟩:∃ wa,w9.alloc (.cells (Q5 k1 nb1 mb1 b1 v1 (.slice A1 L1 c1)) 25)=wa:=⟨_,rfl⟩
 have f9:Below w8.heap.size w8 w9:=by rw [←hw9];exact Qb
 have t9:w9.heap.size=w8.heap.size+1:=by rw [←hw9];simp
 have fa:Below w9.heap.size w9 wa:=by rw [←hwa];exact Qb
 have ta:wa.heap.size=w9.heap.size+1:=by rw [←hwa];simp
 have Y9:w9.heap[w8.heap.size]?=some (.cells #[.int .i64 0] 3 (0,0)):=by rw [←hw9];exact heap_alloc_new w8 _
 have Ya:wa.heap[w9.heap.size]?=some (.cells (Q5 k1 nb1 mb1 b1 v1 (.slice A1 L1 c1)) 25 (0,0)):=by rw [←hwa];exact heap_alloc_new w9 _
 have h8s:=HB8.out.size
 have h4s:=HB.out.2
 have f8a:Below w8.heap.size w8 wa:=f9.trans (fa.mono (by omega))
 have hRSa:RS w N (Tm.mk k1 n1 m1 b1 v1 ts1) (.slice A1 L1 c1) 0 wa:=⟨HX8.out.2.2.2.below f8a,HX8.out.1.below f8a,(f8a.block _ (Array.getElem?_eq_some_iff.1 HX8.out.2.1).1).trans HX8.out.2.1,by rw [←hNN];exact (fa.block _ (by omega)).trans Y9,Qt HX8.out.2.2.1 f8a,by omega,TAtP.below HT.out (Qt HX8.out.2.2.1 f8a) (fun b hb=>hb)⟩
 have hkid:TAtP wa (fun b=>b<wa.heap.size) (Tm.mk k1 n1 m1 b1 v1 ts1) (.slice A1 L1 c1):=hRSa.kid.wide (fun b hb=>Ql hb hRSa.bel.size)
 have hVr:=Variables_any (w0:=w0) (c:=1) (rowP_at Ya (by rw [←HM.out.1,←HM.out.2];rfl) (n:=1) (ps:=[((Tm.mk k1 n1 m1 b1 v1 ts1),Value.slice A1 L1 c1)]) rfl (mem1 hkid)) (Nat.le_refl _) HCk.out (HU.out.below hRSa.bel)
 rw [HR0.out.2.2.2.2.2] at hVr
 rw [show w9.heap.size=w8.heap.size+1 from t9] at hVr
 have HVr:=Qh hVr
 have HRSa:=Qh hRSa
 have hx8:=HX8.out.2.2.2
 obtain ⟨x0,x1,x2,x3,x4,x5⟩:=(hx8.below f9).cells HM.out.1 HM.out.2
 have HWa:=Qh (Qa hwa hNN)
 subst hw9
 rw [←HWa.out.1] at HVr
 clear h8s h4s hVr hRSa hkid f9 fa t9 ta Y9 Ya f8a hwa hNN hx8
 go_upto_region 7 with (go_at_call 28;(with_reducible refine HVr.out.mono ?_);rintro e wb ⟨A2,n2,c2,rfl,ho2,hbb⟩;rw [HWa.out.1] at hbb ho2;have HV2:=Qh (Qa ho2 (HRSa.out.below hbb));clear ho2 hbb)
 rw [HWa.out.2]
 have hn2:l.length=n2:=Own.zlen HV2.out.1
 have HN2:=Qh hn2
 have hnI:(n2:Int)≤4000:=by have:=HR0.out.2.2.2.2.1;omega
 clear hn2 x0 x1 x2 x3 x4 x5 HVr
 have HNa:=Qh (show N<wa.heap.size from HRSa.out.nlt)
 go_loopw [37] (fun v37 wr=>∃ (i:Nat) (m:Int),v37 = .int .i64 (i:Int)∧i≤n2∧0≤m∧m≤4611686018427387905∧Hid (RS w N (Tm.mk k1 n1 m1 b1 v1 ts1) (.slice A1 L1 c1) m wr∧Own 3 wr wa.heap.size A2 n2 c2 (zs l)∧(l.drop i).foldl (fun n x=>max n (x+1)) m=N9∧(l.drop i).any (fun x=>decide (4611686018427387904<x))=HB9)) (fun v37 _=>((n2:Int) - intOf v37).toNat)
 case atStart=>exact ⟨0,0,rfl,Nat.zero_le _,by omega,by omega,Qh ⟨HV2.out.2,HV2.out.1,HR0.out.2.2.1,HR0.out.2.1⟩⟩
 case round=>
  obtain ⟨i,m,rfl,hi,hm0,hm1,HI⟩:=hrel
  by_cases hlt:i<n2
  ·have hltI:(i:Int)<(n2:Int):=by omega
   have hi0:(0:Int)≤(i:Int):=by omega
   have hil:i<l.length:=by rw [HN2.out];exact hlt
   obtain ⟨y,hy⟩:∃ y,l[i]?=some y:=⟨_,List.getElem?_eq_getElem hil⟩
   obtain ⟨g,oo,rfl,hg,hc⟩:=(Own.rd HI.out.2.1) (zs_ne hy)
   have e0:=hc i _ (zs_get hy)
   have hd:l.drop i=y :: l.drop (i+1):=by rw [List.drop_eq_getElem_cons hil,←List.getElem?_eq_some_iff.1 hy |>.2]
   have HLT:=Qh hlt
   by_cases hby:4611686018427387904<y
   ·have HE:=Qh (show true=HB9 from by rw [←HI.out.2.2.2,hd,List.any_cons,decide_eq_true hby];rfl)
    obtain ⟨a0,a1,a2,a3,a4,a5⟩:=HI.out.1.r.cells rfl rfl
    obtain ⟨q0,q1,q2,q3,q4,q5⟩:=HI.out.1.r.frozens
    have cE:=cell_of_one HI.out.1.e
    have fE:=free_of_one HI.out.1.e
    clear hlt hi hil hy hc hd
    go_wp2
    obtain ⟨hbx,hgr⟩:=HI.out.1.r.set6 (k:=0) (b:=0) (v:=0) (n:=[]) (m:=[]) (nb:=⟨#[]⟩) (mb:=⟨#[]⟩) [] (.slice none 0 0) rfl rfl
    generalize ((((((wr.setCell ⟨w.heap.size+1,0,none⟩ (.int .i64 0)).setCell ⟨w.heap.size+1,1,none⟩ (.string ⟨#[]⟩)).setCell ⟨w.heap.size+1,2,none⟩ (.string ⟨#[]⟩)).setCell ⟨w.heap.size+1,3,none⟩ (.int .u64 0)).setCell ⟨w.heap.size+1,4,none⟩ (.int .i64 0)).setCell ⟨w.heap.size+1,5,none⟩ (.slice none 0 0))=w9 at *
    have hE9:=blk_ne hgr HI.out.1.e (by omega)
    have hbx10:=hbx.far (p:=⟨w.heap.size+1+1,0,none⟩) (by show w.heap.size+1≠w.heap.size+1+1;omega) (.iface 32 (.int .i64 1))
    have hE10:=one_setCell (u:=.iface 32 (.int .i64 1)) hE9
    have hb10:Below w.heap.size w (w9.setCell ⟨w.heap.size+1+1,0,none⟩ (.iface 32 (.int .i64 1))):=(HI.out.1.bel.grown hgr HI.out.1.bel.size (Qg (by omega))).setCell (by show w.heap.size≤w.heap.size+1+1;omega) _
    generalize w9.setCell ⟨w.heap.size+1+1,0,none⟩ (.iface 32 (.int .i64 1))=w10 at *
    obtain ⟨r0,r1,r2,r3,r4,r5⟩:=hbx10.cells (nb:=⟨#[]⟩) (mb:=⟨#[]⟩) rfl rfl
    have cE10:=cell_of_one hE10
    simp only [bodyPostD,Leaves]
    exact ⟨.tuple #[zeroTV,.iface 32 (.int .i64 1)],by simp [results,Tryd.results9,go_sem,r0,r1,r2,r3,r4,r5,cE10,zeroTV],.inl ⟨HE.out.symm,rfl,hb10⟩⟩
   ·have hyr : -9223372036854775808≤y:=by
     have h8:=(vars_mem (Tm.mk k1 n1 m1 b1 v1 ts1) [] y).1 (by rw [HR0.out.2.2.2.2.2];exact List.mem_of_getElem? hy)
     have h7:=hasV_nn HCk.out (h8.resolve_left (by simp))
     omega
    have HE:=Qh (show (l.drop (i+1)).foldl (fun n x=>max n (x+1)) (max m (y+1))=N9∧(l.drop (i+1)).any (fun x=>decide (4611686018427387904<x))=HB9 from ⟨by rw [←HI.out.2.2.1,hd];rfl,by rw [←HI.out.2.2.2,hd,List.any_cons,decide_eq_false hby];rfl⟩)
    have cN:=cell_of_one HI.out.1.n
    have fN:=free_of_one HI.out.1.n
    clear hlt hi hil hy hc hd
    go_wp2
    have hgS:wr.grownBy (wr.setCell ⟨N,0,none⟩ (.int .i64 (max m (y+1)))) (some N):=gb_setCell (gb_refl wr (some N)) 0 _
    refine ⟨⟨i+1,max m (y+1),rfl,HLT.out,by omega,by omega,Qh ⟨HI.out.1.go hgS (one_setCell HI.out.1.n),World.ownsRow.kept HI.out.2.1 hgS (.inr (fun e=>?_)),HE.out.1,HE.out.2⟩⟩,?_⟩
    ·have:=(World.ownsRow.lt HI.out.2.1 N e).1
     have:=HNa.out
     omega
    ·have:=HLT.out
     show ((n2:Int) - ((i:Int)+1)).toNat<((n2:Int) - (i:Int)).toNat
     omega
  ·have ei:i=n2:=by omega
   subst ei
   have HE:=Qh (show m=N9∧false=HB9 from by
    have h8:=HI.out.2.2
    rw [List.drop_of_length_le (by rw [HN2.out];exact Nat.le_refl _)] at h8
    exact h8)
   have hHB:=HE.out.2
   subst hHB
   have hmN:=HE.out.1
   have HRS:=Qh HI.out.1
   rw [hmN] at HRS hm0 hm1
   clear hlt hi hmN HI HE
   obtain ⟨x0,x1,x2,x3,x4,x5⟩:=HRS.out.t1.cells HM.out.1 HM.out.2
   obtain ⟨B0,hB0⟩:∃ B,isC (Tm.mk k1 n1 m1 b1 v1 ts1) sRule 2=B:=⟨_,rfl⟩
   have HI0:=Qh (show ∀ u,Calls Tryd.prog 30 #[.agg (Q5 k1 nb1 mb1 b1 v1 (.slice A1 L1 c1)),.string ⟨#[45,45,62]⟩,.int .i64 2] u (fun e w'=>e = .returned (.bool B0)∧Below u.heap.size u w') from fun u=>by
    have h:=is_any (t:=zeroT) (w:=u) (b:=b1) (v:=v1) (k:=k1) (A:=A1) HM.out.1 HM.out.2 HL.out.1 HL.out.2.2 HL.out.2.1 ⟨#[45,45,62]⟩ 2
    rw [show isC (Tm.mk k1 n1 m1 b1 v1 ts1) (⟨#[45,45,62]⟩:ByteArray).data.toList 2=B0 from hB0] at h
    exact h)
   have HC0:=Qh hB0
   clear hB0
   have HS0:=HRS
   clear HRS
   cases B0 with
   | false=>
    go_upto_region 15 with (go_at_call 30;(with_reducible refine (HI0.out _).mono ?_);rintro e u1 ⟨rfl,hb⟩;have HS1:=Qh (HS0.out.below hb);clear hb)
    have HMK:=Qh (ruleT_no HC0.out)
    have hRE:=HR0.out.1
    rw [HMK.out] at hRE
    subst hRE
    have HSS:=Qh (show ∀ z,Below u1.heap.size u1 z→((Q6 z (w.heap.size) k1 nb1 mb1 b1 v1 (.slice A1 L1 c1))) from fun z hb=>((HS1.out.t1).below hb).cells HM.out.1 HM.out.2)
    refine wp_region_wait (fun z=>((Q6 z (w.heap.size) k1 nb1 mb1 b1 v1 (.slice A1 L1 c1)))) 2 (by kernel_rfl) ?_
    change wpAnyW _ _ _ _ _ _ _ _ _ u1.drew
    have KK:=Qh (below_drew' u1)
    generalize u1.drew=v0 at *
    refine wpAnyW_take 2 (i:=1) (v:=.agg (Q5 k1 nb1 mb1 b1 v1 (.slice A1 L1 c1))) rfl (by kernel_rfl) (by kernel_rfl) (by kernel_rfl) (by kernel_rfl) (fun c a w h=>hqRule (by omega) c a w h) (Or.inl ⟨by rfl,?_⟩) (HSS.out _ KK.out) ?_
    ·intro w5 hSw
     obtain ⟨p0,p1,p2,p3,p4,p5⟩:=hSw
     go_simp
    refine w1 0 fun K hK=>?_
    go_simp
    (with_reducible refine (atom_any _ _).mono ?_)
    rintro e v1w ⟨rfl,hb1⟩
    replace KK:=Qh (Qt KK.out hb1)
    clear hb1
    refine hK.out _ _ (fun _=>HSS.out _ KK.out) ?_
    have hbA:Below v1w.heap.size v1w (v1w.alloc (.cells #[.int .i64 2,.string ⟨#[100,99,103,95,114,117,108,101]⟩,.string ⟨#[]⟩,.int .u64 0,.int .i64 0,.slice none 0 0,.int .i64 k1,.string nb1,.string mb1,.int .u64 b1,.int .i64 v1,.slice A1 L1 c1] 25)):=Qb
    have hbu:=built (w:=v1w) (P:=fun b=>b<v1w.heap.size) (s:=sType) (n:=2) (cs:=#[.int .i64 2,.string ⟨#[100,99,103,95,114,117,108,101]⟩,.string ⟨#[]⟩,.int .u64 0,.int .i64 0,.slice none 0 0,.int .i64 k1,.string nb1,.string mb1,.int .u64 b1,.int .i64 v1,.slice A1 L1 c1]) (ps:=[(atomT sDcgRule,Value.slice none 0 0),((Tm.mk k1 n1 m1 b1 v1 ts1),Value.slice A1 L1 c1)]) (by rw [←HM.out.1,←HM.out.2];rfl) rfl (mem2 (atom_at _ _ (by decide)) (TAt.any (HS1.out.kid) (fun b hb=>Ql hb HS1.out.bel.size) KK.out)) (fun b hb=>hb) (by unfold maxArgs;omega) (by decide)
    have HBA:=Qh (Qa hbA (Qa hbu (show (v1w.alloc (.cells #[.int .i64 2,.string ⟨#[100,99,103,95,114,117,108,101]⟩,.string ⟨#[]⟩,.int .u64 0,.int .i64 0,.slice none 0 0,.int .i64 k1,.string nb1,.string mb1,.int .u64 b1,.int .i64 v1,.slice A1 L1 c1] 25)).heap.size=v1w.heap.size+1 by simp)))
    clear hbA hbu
    refine w1 2 fun K hK=>?_
    go_simp
    refine hK.out _ _ (fun h=>absurd h (by simp)) ?_
    generalize v1w.alloc (.cells #[.int .i64 2,.string ⟨#[100,99,103,95,114,117,108,101]⟩,.string ⟨#[]⟩,.int .u64 0,.int .i64 0,.slice none 0 0,.int .i64 k1,.string nb1,.string mb1,.int .u64 b1,.int .i64 v1,.slice A1 L1 c1] 25)=v2w at *
    refine w1 3 fun K hK=>?_
    go_simp
    (with_reducible refine (of_any _ _ _ _ _).mono ?_)
    rintro e v3w ⟨rfl,hb3⟩
    have HT3:=Qh (TAt.any HBA.out.2.1 (fun b hb=>by have:=HBA.out.2.2;rcases hb with hb | hb <;> omega) hb3)
    replace KK:=Qh ((Qt KK.out HBA.out.1).trans (hb3.mono (Nat.le_trans KK.out.size HBA.out.1.size)))
    clear hb3
    refine hK.out _ _ (fun h=>absurd h (by simp)) ?_
    refine w1 4 fun K hK=>?_
    go_simp
    (with_reducible refine (throw_lit rfl rfl HT3.out).mono ?_)
    rintro e v4w ⟨⟨bb,rfl,hball⟩,hb4⟩
    have HSD:=HS1.out.below (Qt KK.out hb4)
    change Leaves _ _ _ _ _ (.panicking _) _
    refine ruleDoor ⟨HSD.r,HSD.e,HSD.bel⟩ hball (by simp [go_sem]) (fun z hz=>?_) (fun z h=>by first | exact .inr ⟨by first | trivial | rfl,h⟩ | exact h)
    obtain ⟨r0,r1,r2,r3,r4,r5,cE2⟩:=hz
    simp [results,Tryd.results9,go_sem,r0,r1,r2,r3,r4,r5,cE2,zeroTV]
   | true=>
    obtain ⟨e1,e2,e3⟩:=isC_iff.1 HC0.out
    change k1=5 at e1
    change n1=sRule at e2
    change ts1.length=2 at e3
    subst e1 e2
    have hL2:L1=2:=by rw [←HL.out.1];exact e3
    subst hL2
    obtain ⟨x,y,rfl⟩:∃ x y,ts1 = [x,y]:=by
     match ts1,e3 with
     | [x,y],_=>exact ⟨x,y,rfl⟩
    clear e3
    go_upto_region 16 with (go_at_call 30;(with_reducible refine (HI0.out _).mono ?_);rintro e u1 ⟨rfl,hb⟩;have HS1:=Qh (HS0.out.below hb);clear hb)
    obtain ⟨Ax,cx,hst,zz1,zz2,zz3,zz4,hgo⟩:=TAtP.iff.1 (HS1.out.kid)
    clear zz1 zz2 zz3 zz4
    obtain ⟨g,o,hA,hPg,hel⟩:=hgo (by simp [Tm.as])
    injection hst with e1 e2 e3
    rw [hA] at e1
    subst e1
    clear e2 e3
    have hex:=hel 0 x rfl
    obtain ⟨A2,c2,k2,n2,m2,b2,v2,ts2,nb2,mb2,rfl,hnb,hmb,htx,q0,q1,q2,q3,q4,q5⟩:=EltP.cells hex
    obtain ⟨z4,z5,hsl,hl1,z6,hl3,z7⟩:=TAtP.iff.1 htx
    injection hsl with z1 z2 e3
    subst e3
    clear z1 z2 z6 z7 z4
    obtain ⟨L2,hL⟩:∃ L,ts2.length=L:=⟨_,rfl⟩
    change ts2.length≤_ at hl1
    change ts2.length≤_ at hl3
    rw [hL] at q5 htx hl1 hl3
    rw [Nat.zero_mul,Nat.add_zero] at q0 q1 q2 q3 q4 q5
    have HL2:=Qh (Qa hnb (Qa hmb (Qa hL (Qa hl3 hl1))))
    have HE2:=Qh (Qa htx (Qa q0 (Qa q1 (Qa q2 (Qa q3 (Qa q4 q5))))))
    have hL2I:(L2:Int)≤1759218604400:=by unfold maxArgs at hl3;omega
    clear hnb hmb hL htx q0 q1 q2 q3 q4 q5 hex hl1 hl3
    have hex:=hel 1 y rfl
    obtain ⟨A3,c3,k3,n3,m3,b3,v3,ts3,nb3,mb3,rfl,hnb,hmb,htx,q0,q1,q2,q3,q4,q5⟩:=EltP.cells hex
    obtain ⟨z4,z5,hsl,hl1,z6,hl3,z7⟩:=TAtP.iff.1 htx
    injection hsl with z1 z2 e3
    subst e3
    clear z1 z2 z6 z7 z4
    obtain ⟨L3,hL⟩:∃ L,ts3.length=L:=⟨_,rfl⟩
    change ts3.length≤_ at hl1
    change ts3.length≤_ at hl3
    rw [hL] at q5 htx hl1 hl3
    rw [Nat.one_mul] at q0 q1 q2 q3 q4 q5
    have HL3:=Qh (Qa hnb (Qa hmb (Qa hL (Qa hl3 hl1))))
    have HE3:=Qh (Qa htx (Qa q0 (Qa q1 (Qa q2 (Qa q3 (Qa q4 q5))))))
    have hL3I:(L3:Int)≤1759218604400:=by unfold maxArgs at hl3;omega
    clear hnb hmb hL htx q0 q1 q2 q3 q4 q5 hex hl1 hl3
    clear hgo hA hel
    have HS2:=HS1
    have HSS:=Qh (show ∀ z,Below u1.heap.size u1 z→(z.cell? ⟨w.heap.size,5,none⟩=some (.slice (some ⟨g,o,none⟩) 2 c1)∧(Q7 z g o k2 nb2 mb2 b2 v2 (.slice A2 L2 c2))∧(z.cell? ⟨g,o+6,none⟩=some (.int .i64 k3)∧z.cell? ⟨g,o+7,none⟩=some (.string nb3)∧z.cell? ⟨g,o+8,none⟩=some (.string mb3)∧z.cell? ⟨g,o+9,none⟩=some (.int .u64 b3)∧z.cell? ⟨g,o+10,none⟩=some (.int .i64 v3)∧z.cell? ⟨g,o+11,none⟩=some (.slice A3 L3 c3))) from fun z hz=>⟨((HS1.out.t1.below hz).cells HM.out.1 HM.out.2).2.2.2.2.2,⟨cellB (hz) HE2.out.2.1,cellB (hz) HE2.out.2.2.1,cellB (hz) HE2.out.2.2.2.1,cellB (hz) HE2.out.2.2.2.2.1,cellB (hz) HE2.out.2.2.2.2.2.1,cellB (hz) HE2.out.2.2.2.2.2.2⟩,⟨cellB (hz) HE3.out.2.1,cellB (hz) HE3.out.2.2.1,cellB (hz) HE3.out.2.2.2.1,cellB (hz) HE3.out.2.2.2.2.1,cellB (hz) HE3.out.2.2.2.2.2.1,cellB (hz) HE3.out.2.2.2.2.2.2⟩⟩)
    have HEK:=Qh (Qa (cell_blk HE2.out.2.1) (Qa HE2.out.1 HE3.out.1))
    have HPg:=Qh (show g<w.heap.size from hPg)
    clear hPg
    refine wp_region_wait (fun z=>(z.cell? ⟨w.heap.size,5,none⟩=some (.slice (some ⟨g,o,none⟩) 2 c1)∧(Q7 z g o k2 nb2 mb2 b2 v2 (.slice A2 L2 c2))∧(z.cell? ⟨g,o+6,none⟩=some (.int .i64 k3)∧z.cell? ⟨g,o+7,none⟩=some (.string nb3)∧z.cell? ⟨g,o+8,none⟩=some (.string mb3)∧z.cell? ⟨g,o+9,none⟩=some (.int .u64 b3)∧z.cell? ⟨g,o+10,none⟩=some (.int .i64 v3)∧z.cell? ⟨g,o+11,none⟩=some (.slice A3 L3 c3)))) 11 (by kernel_rfl) ?_
    change wpAnyW _ _ _ _ _ _ _ _ _ u1.drew
    have KK:=Qh (below_drew' u1)
    generalize u1.drew=v0 at *
    refine wpAnyW_take 11 (i:=0) (v:=.pointer (some ⟨w.heap.size,5,none⟩)) rfl (by kernel_rfl) (by kernel_rfl) (by kernel_rfl) (by kernel_rfl) (fun c a w h=>hqRule (by omega) c a w h) (Or.inl ⟨by rfl,?_⟩) (HSS.out _ KK.out) ?_
    ·intro w5 hSw
     obtain ⟨x5,⟨p0,p1,p2,p3,p4,p5⟩,⟨q0,q1,q2,q3,q4,q5⟩⟩:=hSw
     go_simp
    refine wpAnyW_take 11 (i:=1) (v:=.slice (some ⟨g,o,none⟩) 2 c1) rfl (by kernel_rfl) (by kernel_rfl) (by kernel_rfl) (by kernel_rfl) (fun c a w h=>hqRule (by omega) c a w h) (Or.inl ⟨by rfl,?_⟩) (HSS.out _ KK.out) ?_
    ·intro w5 hSw
     obtain ⟨x5,⟨p0,p1,p2,p3,p4,p5⟩,⟨q0,q1,q2,q3,q4,q5⟩⟩:=hSw
     go_simp
    refine wpAnyW_take 11 (i:=2) (v:=.pointer (some ⟨g,o,none⟩)) rfl (by kernel_rfl) (by kernel_rfl) (by kernel_rfl) (by kernel_rfl) (fun c a w h=>hqRule (by omega) c a w h) (Or.inl ⟨by rfl,?_⟩) (HSS.out _ KK.out) ?_
    ·intro w5 hSw
     obtain ⟨x5,⟨p0,p1,p2,p3,p4,p5⟩,⟨q0,q1,q2,q3,q4,q5⟩⟩:=hSw
     go_simp
    refine wpAnyW_take 11 (i:=3) (v:=.agg (Q5 k2 nb2 mb2 b2 v2 (.slice A2 L2 c2))) rfl (by kernel_rfl) (by kernel_rfl) (by kernel_rfl) (by kernel_rfl) (fun c a w h=>hqRule (by omega) c a w h) (Or.inl ⟨by rfl,?_⟩) (HSS.out _ KK.out) ?_
    ·intro w5 hSw
     obtain ⟨x5,⟨p0,p1,p2,p3,p4,p5⟩,⟨q0,q1,q2,q3,q4,q5⟩⟩:=hSw
     go_simp
    refine wpAnyW_take 11 (i:=4) (v:=.pointer (some ⟨w.heap.size,5,none⟩)) rfl (by kernel_rfl) (by kernel_rfl) (by kernel_rfl) (by kernel_rfl) (fun c a w h=>hqRule (by omega) c a w h) (Or.inl ⟨by rfl,?_⟩) (HSS.out _ KK.out) ?_
    ·intro w5 hSw
     obtain ⟨x5,⟨p0,p1,p2,p3,p4,p5⟩,⟨q0,q1,q2,q3,q4,q5⟩⟩:=hSw
     go_simp
    refine wpAnyW_take 11 (i:=5) (v:=.slice (some ⟨g,o,none⟩) 2 c1) rfl (by kernel_rfl) (by kernel_rfl) (by kernel_rfl) (by kernel_rfl) (fun c a w h=>hqRule (by omega) c a w h) (Or.inl ⟨by rfl,?_⟩) (HSS.out _ KK.out) ?_
    ·intro w5 hSw
     obtain ⟨x5,⟨p0,p1,p2,p3,p4,p5⟩,⟨q0,q1,q2,q3,q4,q5⟩⟩:=hSw
     go_simp
    refine wpAnyW_take 11 (i:=6) (v:=.pointer (some ⟨g,o+6,none⟩)) rfl (by kernel_rfl) (by kernel_rfl) (by kernel_rfl) (by kernel_rfl) (fun c a w h=>hqRule (by omega) c a w h) (Or.inl ⟨by rfl,?_⟩) (HSS.out _ KK.out) ?_
    ·intro w5 hSw
     obtain ⟨x5,⟨p0,p1,p2,p3,p4,p5⟩,⟨q0,q1,q2,q3,q4,q5⟩⟩:=hSw
     go_simp
    refine wpAnyW_take 11 (i:=7) (v:=.agg (Q5 k3 nb3 mb3 b3 v3 (.slice A3 L3 c3))) rfl (by kernel_rfl) (by kernel_rfl) (by kernel_rfl) (by kernel_rfl) (fun c a w h=>hqRule (by omega) c a w h) (Or.inl ⟨by rfl,?_⟩) (HSS.out _ KK.out) ?_
    ·intro w5 hSw
     obtain ⟨x5,⟨p0,p1,p2,p3,p4,p5⟩,⟨q0,q1,q2,q3,q4,q5⟩⟩:=hSw
     go_simp
    apply merge3 (F:=fun u H Bx=>Hid (RT w N (Tm.mk 5 sRule m1 b1 v1 [Tm.mk k2 n2 m2 b2 v2 ts2,Tm.mk k3 n3 m3 b3 v3 ts3]) (.slice (some ⟨g,o,none⟩) 2 c1) N9 H Bx zeroT (.slice none 0 0) zeroT (.slice none 0 0) u∧Below u1.heap.size u1 u∧u1.heap.size≤H))
    ·intro key
     refine wpAnyW_two (i:=8) (i2:=9) (by kernel_rfl) rfl rfl (fun K hK=>?_) (fun K hK=>?_)
     ·go_simp
      have hb:Below v0.heap.size v0 (v0.alloc (.cells Qz 25)):=Qb
      have HX:=Qh (show TBox (v0.alloc (.cells Qz 25)) v0.heap.size zeroT (.slice none 0 0)∧u1.heap.size≤v0.heap.size from ⟨heap_alloc_new v0 _,KK.out.size⟩)
      replace KK:=Qh (Qt KK.out hb)
      clear hb
      refine hK.out _ _ (fun _=>HSS.out _ KK.out) ?_
      generalize (v0.alloc (.cells Qz 25))=v9 at *
      generalize v0.heap.size=H at *
      refine w1 9 fun K hK=>?_
      go_simp
      have hb:Below v9.heap.size v9 (v9.alloc (.cells Qz 25)):=Qb
      have HY:=Qh (show TBox (v9.alloc (.cells Qz 25)) v9.heap.size zeroT (.slice none 0 0)∧TBox (v9.alloc (.cells Qz 25)) H zeroT (.slice none 0 0)∧H<v9.heap.size∧u1.heap.size≤v9.heap.size from ⟨heap_alloc_new v9 _,HX.out.1.below hb,HX.out.1.lt,KK.out.size⟩)
      replace KK:=Qh (Qt KK.out hb)
      clear hb
      refine hK.out _ _ (fun _=>HSS.out _ KK.out) ?_
      generalize (v9.alloc (.cells Qz 25))=va at *
      generalize v9.heap.size=Bx at *
      refine key va H Bx (Qh ⟨?_,KK.out,HX.out.2⟩)
      have hN:=HS2.out.nlt
      have e1:=HX.out.2
      have e2:=HY.out.2.2
      have hrs:=HS2.out.below KK.out
      exact ⟨hrs,HY.out.2.1,HY.out.1,by omega,by omega,by omega,zero_at _ _,zero_at _ _⟩
     ·go_simp
      have hb:Below v0.heap.size v0 (v0.alloc (.cells Qz 25)):=Qb
      have HX:=Qh (show TBox (v0.alloc (.cells Qz 25)) v0.heap.size zeroT (.slice none 0 0)∧u1.heap.size≤v0.heap.size from ⟨heap_alloc_new v0 _,KK.out.size⟩)
      replace KK:=Qh (Qt KK.out hb)
      clear hb
      refine hK.out _ _ (fun _=>HSS.out _ KK.out) ?_
      generalize (v0.alloc (.cells Qz 25))=v9 at *
      generalize v0.heap.size=Bx at *
      refine w1 8 fun K hK=>?_
      go_simp
      have hb:Below v9.heap.size v9 (v9.alloc (.cells Qz 25)):=Qb
      have HY:=Qh (show TBox (v9.alloc (.cells Qz 25)) v9.heap.size zeroT (.slice none 0 0)∧TBox (v9.alloc (.cells Qz 25)) Bx zeroT (.slice none 0 0)∧Bx<v9.heap.size∧u1.heap.size≤v9.heap.size from ⟨heap_alloc_new v9 _,HX.out.1.below hb,HX.out.1.lt,KK.out.size⟩)
      replace KK:=Qh (Qt KK.out hb)
      clear hb
      refine hK.out _ _ (fun _=>HSS.out _ KK.out) ?_
      generalize (v9.alloc (.cells Qz 25))=va at *
      generalize v9.heap.size=H at *
      refine key va H Bx (Qh ⟨?_,KK.out,HY.out.2.2.2⟩)
      have hN:=HS2.out.nlt
      have e1:=HX.out.2
      have e2:=HY.out.2.2
      have hrs:=HS2.out.below KK.out
      exact ⟨hrs,HY.out.1,HY.out.2.1,by omega,by omega,by omega,zero_at _ _,zero_at _ _⟩
    intro va H Bx HR1
    have HS6:=Qh (show ∀ z,((((((va.setCell ⟨H,0,none⟩ (.int .i64 k2)).setCell ⟨H,1,none⟩ (.string nb2)).setCell ⟨H,2,none⟩ (.string mb2)).setCell ⟨H,3,none⟩ (.int .u64 b2)).setCell ⟨H,4,none⟩ (.int .i64 v2)).setCell ⟨H,5,none⟩ (.slice A2 L2 c2))=z→(z.cell? ⟨w.heap.size,5,none⟩=some (.slice (some ⟨g,o,none⟩) 2 c1)∧(Q7 z g o k2 nb2 mb2 b2 v2 (.slice A2 L2 c2))∧(z.cell? ⟨g,o+6,none⟩=some (.int .i64 k3)∧z.cell? ⟨g,o+7,none⟩=some (.string nb3)∧z.cell? ⟨g,o+8,none⟩=some (.string mb3)∧z.cell? ⟨g,o+9,none⟩=some (.int .u64 b3)∧z.cell? ⟨g,o+10,none⟩=some (.int .i64 v3)∧z.cell? ⟨g,o+11,none⟩=some (.slice A3 L3 c3))) from fun z e=>HSS.out _ (by
     rw [←e]
     exact HR1.out.2.1.grown (HR1.out.1.bh.set6 (k:=k2) (v:=v2) (b:=b2) ts2 (.slice A2 L2 c2) HL2.out.1 HL2.out.2.1).2 HR1.out.2.1.size (fun j e=>by injection e with e;have:=HR1.out.2.2;omega)))
    refine w1 10 fun K hK=>?_
    obtain ⟨a0,a1,a2,a3,a4,a5⟩:=HR1.out.1.bh.cells rfl rfl
    obtain ⟨e0,e1,e2,e3,e4,e5⟩:=HR1.out.1.bh.frozens
    go_simp
    clear a0 a1 a2 a3 a4 a5 e0 e1 e2 e3 e4 e5
    have hset:=HR1.out.1.setH (k:=k2) (v:=v2) (b:=b2) HL2.out.1 HL2.out.2.1 (TAtP.below HEK.out.2.1 HR1.out.2.1 (fun b hb=>Ql hb HS2.out.bel.size))
    have HR2x:=Qh (show ∀ z,((((((va.setCell ⟨H,0,none⟩ (.int .i64 k2)).setCell ⟨H,1,none⟩ (.string nb2)).setCell ⟨H,2,none⟩ (.string mb2)).setCell ⟨H,3,none⟩ (.int .u64 b2)).setCell ⟨H,4,none⟩ (.int .i64 v2)).setCell ⟨H,5,none⟩ (.slice A2 L2 c2))=z→RT w N (Tm.mk 5 sRule m1 b1 v1 [Tm.mk k2 n2 m2 b2 v2 ts2,Tm.mk k3 n3 m3 b3 v3 ts3]) (.slice (some ⟨g,o,none⟩) 2 c1) N9 H Bx (Tm.mk k2 n2 m2 b2 v2 ts2) (.slice A2 L2 c2) zeroT (.slice none 0 0) z∧∀ b,b<w.heap.size→z.heap[b]?=va.heap[b]? from fun z e=>by rw [←e];exact ⟨hset,fun b hb=>(HR1.out.1.bh.set6 (k:=k2) (v:=v2) (b:=b2) ts2 (.slice A2 L2 c2) HL2.out.1 HL2.out.2.1).2.block b (Ql hb HR1.out.1.rs.bel.size) (fun e=>by injection e with e;have:=HR1.out.1.lh;have:=HR1.out.1.rs.lt;omega)⟩)
    clear hset
    refine hK.out _ _ (fun h=>HS6.out _ rfl) ?_
    generalize ((((((va.setCell ⟨H,0,none⟩ (.int .i64 k2)).setCell ⟨H,1,none⟩ (.string nb2)).setCell ⟨H,2,none⟩ (.string mb2)).setCell ⟨H,3,none⟩ (.int .u64 b2)).setCell ⟨H,4,none⟩ (.int .i64 v2)).setCell ⟨H,5,none⟩ (.slice A2 L2 c2))=vb at *
    have HR2:=Qh (HR2x.out _ rfl).1
    have hgk:=Qh ((HR2x.out _ rfl).2)
    clear HR2x
    replace HR2:=Qh (Qa HR2.out (show TAtP vb (fun b=>b<w.heap.size) (Tm.mk k3 n3 m3 b3 v3 ts3) (.slice A3 L3 c3) from TAtP.keep _ (TAtP.below HEK.out.2.2 HR1.out.2.1 (fun b hb=>Ql hb HS2.out.bel.size)) (fun b hb=>⟨hb,hgk.out b hb⟩)))
    refine w1 11 fun K hK=>?_
    obtain ⟨a0,a1,a2,a3,a4,a5⟩:=HR2.out.1.bb.cells rfl rfl
    obtain ⟨e0,e1,e2,e3,e4,e5⟩:=HR2.out.1.bb.frozens
    go_simp
    clear a0 a1 a2 a3 a4 a5 e0 e1 e2 e3 e4 e5
    have hset:=HR2.out.1.setB (k:=k3) (v:=v3) (b:=b3) HL3.out.1 HL3.out.2.1 (HR2.out.2)
    have HR3x:=Qh (show ∀ z,((((((vb.setCell ⟨Bx,0,none⟩ (.int .i64 k3)).setCell ⟨Bx,1,none⟩ (.string nb3)).setCell ⟨Bx,2,none⟩ (.string mb3)).setCell ⟨Bx,3,none⟩ (.int .u64 b3)).setCell ⟨Bx,4,none⟩ (.int .i64 v3)).setCell ⟨Bx,5,none⟩ (.slice A3 L3 c3))=z→RT w N (Tm.mk 5 sRule m1 b1 v1 [Tm.mk k2 n2 m2 b2 v2 ts2,Tm.mk k3 n3 m3 b3 v3 ts3]) (.slice (some ⟨g,o,none⟩) 2 c1) N9 H Bx (Tm.mk k2 n2 m2 b2 v2 ts2) (.slice A2 L2 c2) (Tm.mk k3 n3 m3 b3 v3 ts3) (.slice A3 L3 c3) z∧∀ b,b<w.heap.size→z.heap[b]?=vb.heap[b]? from fun z e=>by rw [←e];exact ⟨hset,fun b hb=>(HR2.out.1.bb.set6 (k:=k3) (v:=v3) (b:=b3) ts3 (.slice A3 L3 c3) HL3.out.1 HL3.out.2.1).2.block b (Ql hb HR2.out.1.rs.bel.size) (fun e=>by injection e with e;have:=HR2.out.1.lb;have:=HR2.out.1.rs.lt;omega)⟩)
    clear hset
    refine hK.out _ _ (fun h=>absurd h (by simp)) ?_
    generalize ((((((vb.setCell ⟨Bx,0,none⟩ (.int .i64 k3)).setCell ⟨Bx,1,none⟩ (.string nb3)).setCell ⟨Bx,2,none⟩ (.string mb3)).setCell ⟨Bx,3,none⟩ (.int .u64 b3)).setCell ⟨Bx,4,none⟩ (.int .i64 v3)).setCell ⟨Bx,5,none⟩ (.slice A3 L3 c3))=vc at *
    have HR3:=Qh (HR3x.out _ rfl).1
    have hgk:=Qh ((HR3x.out _ rfl).2)
    clear HR3x
    refine wpAnyW_done (by kernel_rfl) ?_ _
    clear hgk HS6 HSS HEK
    obtain ⟨B1,hB1⟩:∃ B,isC (Tm.mk k2 n2 m2 b2 v2 ts2) sComma 2=B:=⟨_,rfl⟩
    have HI1:=Qh (show ∀ u,Calls Tryd.prog 30 #[.agg (Q5 k2 nb2 mb2 b2 v2 (.slice A2 L2 c2)),.string ⟨#[44]⟩,.int .i64 2] u (fun e w'=>e = .returned (.bool B1)∧Below u.heap.size u w') from fun u=>by
     have h:=is_any (t:=zeroT) (w:=u) (b:=b2) (v:=v2) (k:=k2) (A:=A2) HL2.out.1 HL2.out.2.1 HL2.out.2.2.1 HL2.out.2.2.2.1 HL2.out.2.2.2.2 ⟨#[44]⟩ 2
     rw [show isC (Tm.mk k2 n2 m2 b2 v2 ts2) (⟨#[44]⟩:ByteArray).data.toList 2=B1 from hB1] at h
     exact h)
    have HC1:=Qh hB1
    clear hB1
    obtain ⟨x0,x1,x2,x3,x4,x5⟩:=HR3.out.bh.cells HL2.out.1 HL2.out.2.1
    cases B1 with
    | false=>
     have HRT:=Qh ((rule_np HC1.out).symm.trans HR0.out.1)
     rw [HR0.out.2.2.2.1] at HRT
     go_upto_region 21 with (go_at_call 30;(with_reducible refine (HI1.out _).mono ?_);rintro e u2 ⟨rfl,hb⟩;have HR4:=Qh (HR3.out.below hb);obtain ⟨y0,y1,y2,y3,y4,y5⟩:=HR4.out.bh.cells HL2.out.1 HL2.out.2.1;clear hb)
     by_cases hk1:k2=1
     ·subst hk1
      have hRE:=HRT.out
      rw [tail_inst rfl] at hRE
      subst hRE
      go_wp2_with (first
       | (go_at_call 33;(with_reducible refine (atom_any _ _).mono ?_);rintro e v1w ⟨rfl,hb1⟩;have HBA:=Qh hb1;have HT3:=Qh (show TAt v1w v1w.heap.size (atomT sInst) (.slice none 0 0) from atom_at _ _ (by decide));clear hb1)
       | (go_at_call 31;(with_reducible refine (throw_lit rfl rfl HT3.out).mono ?_);rintro e v4w ⟨⟨bb,rfl,hball⟩,hb4⟩;have HSD:=Qh (HR4.out.rs.below (Qt HBA.out hb4));have HBL:=Qh hball;clear hball hb4))
      have hball:=HBL.out
      change Leaves _ _ _ _ _ (.panicking _) _
      refine ruleDoor ⟨HSD.out.r,HSD.out.e,HSD.out.bel⟩ hball (by simp [go_sem]) (fun z hz=>?_) (fun z h=>by first | exact .inr ⟨by first | trivial | rfl,h⟩ | exact h)
      obtain ⟨r0,r1,r2,r3,r4,r5,cE2⟩:=hz
      simp [results,Tryd.results9,go_sem,r0,r1,r2,r3,r4,r5,cE2,zeroTV]
     ·by_cases hk34:k2=3∨k2=4
      ·have HMK:=Qh (tail_call (pu:=false) (n:=N9) (h:=(Tm.mk k2 n2 m2 b2 v2 ts2)) (p:=(Tm.mk k2 n2 m2 b2 v2 ts2).as.getD 1 zeroT) (y:=(Tm.mk k3 n3 m3 b3 v3 ts3)) hk1 hk34)
       obtain hk3b | ⟨hk3b,hk4b⟩:(k2==3)=true∨((k2==3)=false∧(k2==4)=true):=by
        rcases hk34 with h | h
        ·exact .inl (by simpa using h)
        ·exact .inr ⟨by simp;omega,by simpa using h⟩
       all_goals (
        have hk1b:(k2==1)=false:=by simpa using hk1
        clear hk1 hk34
        go_upto_region 26 with fail
        have hRE:=HRT.out
        rw [HMK.out] at hRE
        subst hRE
        have HSS:=Qh (show ∀ z,Below u2.heap.size u2 z→((Q6 z H k2 nb2 mb2 b2 v2 (.slice A2 L2 c2))) from fun z hb=>((HR4.out.bh).below hb).cells HL2.out.1 HL2.out.2.1)
        refine wp_region_wait (fun z=>((Q6 z H k2 nb2 mb2 b2 v2 (.slice A2 L2 c2)))) 2 (by kernel_rfl) ?_
        change wpAnyW _ _ _ _ _ _ _ _ _ u2.drew
        have KK:=Qh (below_drew' u2)
        generalize u2.drew=v0 at *
        refine wpAnyW_take 2 (i:=1) (v:=.agg (Q5 k2 nb2 mb2 b2 v2 (.slice A2 L2 c2))) rfl (by kernel_rfl) (by kernel_rfl) (by kernel_rfl) (by kernel_rfl) (fun c a w h=>hqRule (by omega) c a w h) (Or.inl ⟨by rfl,?_⟩) (HSS.out _ KK.out) ?_
        ·intro w5 hSw
         obtain ⟨p0,p1,p2,p3,p4,p5⟩:=hSw
         go_simp
        refine w1 0 fun K hK=>?_
        go_simp
        (with_reducible refine (atom_any _ _).mono ?_)
        rintro e v1w ⟨rfl,hb1⟩
        replace KK:=Qh (Qt KK.out hb1)
        clear hb1
        refine hK.out _ _ (fun _=>HSS.out _ KK.out) ?_
        have hbA:Below v1w.heap.size v1w (v1w.alloc (.cells #[.int .i64 2,.string ⟨#[99,97,108,108,97,98,108,101]⟩,.string ⟨#[]⟩,.int .u64 0,.int .i64 0,.slice none 0 0,.int .i64 k2,.string nb2,.string mb2,.int .u64 b2,.int .i64 v2,.slice A2 L2 c2] 25)):=Qb
        have hbu:=built (w:=v1w) (P:=fun b=>b<v1w.heap.size) (s:=sType) (n:=2) (cs:=#[.int .i64 2,.string ⟨#[99,97,108,108,97,98,108,101]⟩,.string ⟨#[]⟩,.int .u64 0,.int .i64 0,.slice none 0 0,.int .i64 k2,.string nb2,.string mb2,.int .u64 b2,.int .i64 v2,.slice A2 L2 c2]) (ps:=[(atomT sCallable,Value.slice none 0 0),((Tm.mk k2 n2 m2 b2 v2 ts2),Value.slice A2 L2 c2)]) (by rw [←HL2.out.1,←HL2.out.2.1];rfl) rfl (mem2 (atom_at _ _ (by decide)) (TAt.any (HR4.out.kh) (fun b hb=>Ql hb HR4.out.rs.bel.size) KK.out)) (fun b hb=>hb) (by unfold maxArgs;omega) (by decide)
        have HBA:=Qh (Qa hbA (Qa hbu (show (v1w.alloc (.cells #[.int .i64 2,.string ⟨#[99,97,108,108,97,98,108,101]⟩,.string ⟨#[]⟩,.int .u64 0,.int .i64 0,.slice none 0 0,.int .i64 k2,.string nb2,.string mb2,.int .u64 b2,.int .i64 v2,.slice A2 L2 c2] 25)).heap.size=v1w.heap.size+1 by simp)))
        clear hbA hbu
        refine w1 2 fun K hK=>?_
        go_simp
        refine hK.out _ _ (fun h=>absurd h (by simp)) ?_
        generalize v1w.alloc (.cells #[.int .i64 2,.string ⟨#[99,97,108,108,97,98,108,101]⟩,.string ⟨#[]⟩,.int .u64 0,.int .i64 0,.slice none 0 0,.int .i64 k2,.string nb2,.string mb2,.int .u64 b2,.int .i64 v2,.slice A2 L2 c2] 25)=v2w at *
        refine w1 3 fun K hK=>?_
        go_simp
        (with_reducible refine (of_any _ _ _ _ _).mono ?_)
        rintro e v3w ⟨rfl,hb3⟩
        have HT3:=Qh (TAt.any HBA.out.2.1 (fun b hb=>by have:=HBA.out.2.2;rcases hb with hb | hb <;> omega) hb3)
        replace KK:=Qh ((Qt KK.out HBA.out.1).trans (hb3.mono (Nat.le_trans KK.out.size HBA.out.1.size)))
        clear hb3
        refine hK.out _ _ (fun h=>absurd h (by simp)) ?_
        refine w1 4 fun K hK=>?_
        go_simp
        (with_reducible refine (throw_lit rfl rfl HT3.out).mono ?_)
        rintro e v4w ⟨⟨bb,rfl,hball⟩,hb4⟩
        have HSD:=HR4.out.rs.below (Qt KK.out hb4)
        change Leaves _ _ _ _ _ (.panicking _) _
        refine ruleDoor ⟨HSD.r,HSD.e,HSD.bel⟩ hball (by simp [go_sem]) (fun z hz=>?_) (fun z h=>by first | exact .inr ⟨by first | trivial | rfl,h⟩ | exact h)
        obtain ⟨r0,r1,r2,r3,r4,r5,cE2⟩:=hz
        simp [results,Tryd.results9,go_sem,r0,r1,r2,r3,r4,r5,cE2,zeroTV])
      ·have HK:=Qh (Qa hk1 hk34)
       have hk3:¬k2=3:=fun h=>hk34 (.inl h)
       have hk4:¬k2=4:=fun h=>hk34 (.inr h)
       clear hk34
       have HFm:=Qh (from_any HR4.out.rs.n)
       rw [show freshV u2.heap.size = .func (.func 60) #[] #[.pointer (some ⟨u2.heap.size,0,none⟩)] from rfl] at HFm
       go_upto_region 34 with (first
        | (go_at_call 35;(with_reducible refine HFm.out.mono ?_);rintro e u3 ⟨rfl,hn,hb⟩;have HN3:=Qh hn;have HR5:=Qh (HR4.out.below hb);have HGF:=Qh (grown_below (r:=some N) hb);clear hn hb)
        | (go_at_call 60;(with_reducible refine (fresh_any HN3.out ⟨by omega,by omega⟩).mono ?_);rintro e u4 ⟨rfl,hn,hg⟩;replace HR5:=Qh (HR5.out.go hg hn.n);replace HGF:=Qh (grown_trans HGF.out hg);replace HN3:=Qh hn;clear hn hg))
       have HV5:=Qh (show ∀ z,((u4.alloc (.cells (Qv N9) 25)).alloc (.cells (Qv (N9+1)) 25))=z→(RT w N (Tm.mk 5 sRule m1 b1 v1 [Tm.mk k2 n2 m2 b2 v2 ts2,Tm.mk k3 n3 m3 b3 v3 ts3]) (.slice (some ⟨g,o,none⟩) 2 c1) (N9+1+1) H Bx (Tm.mk k2 n2 m2 b2 v2 ts2) (.slice A2 L2 c2) (Tm.mk k3 n3 m3 b3 v3 ts3) (.slice A3 L3 c3) z∧NumAt z u2.heap.size N (N9+1+1)∧TBox z u4.heap.size (varT N9) (.slice none 0 0)∧TBox z (u4.heap.size+1) (varT (N9+1)) (.slice none 0 0)∧N<u4.heap.size) from fun z e=>by
        rw [←e]
        have hb1:Below u4.heap.size u4 (u4.alloc (.cells (Qv N9) 25)):=Qb
        have hs:(u4.alloc (.cells (Qv N9) 25)).heap.size=u4.heap.size+1:=by simp
        have hb2:Below (u4.alloc (.cells (Qv N9) 25)).heap.size (u4.alloc (.cells (Qv N9) 25)) ((u4.alloc (.cells (Qv N9) 25)).alloc (.cells (Qv (N9+1)) 25)):=Qb
        have hb:=hb1.trans (hb2.mono (by omega))
        have hF1:TBox (u4.alloc (.cells (Qv N9) 25)) u4.heap.size (varT N9) (.slice none 0 0):=heap_alloc_new u4 _
        have hF2:TBox ((u4.alloc (.cells (Qv N9) 25)).alloc (.cells (Qv (N9+1)) 25)) (u4.alloc (.cells (Qv N9) 25)).heap.size (varT (N9+1)) (.slice none 0 0):=heap_alloc_new _ _
        rw [hs] at hF2
        exact ⟨HR5.out.below hb,HN3.out.below hb,hF1.below hb2,hF2,HR5.out.rs.nlt⟩)
       have HGG5:=Qh (show ∀ z,((u4.alloc (.cells (Qv N9) 25)).alloc (.cells (Qv (N9+1)) 25))=z→u2.grownBy z (some N) from fun z e=>by
        rw [←e]
        have hb1:Below u4.heap.size u4 (u4.alloc (.cells (Qv N9) 25)):=Qb
        have hb2:Below (u4.alloc (.cells (Qv N9) 25)).heap.size (u4.alloc (.cells (Qv N9) 25)) ((u4.alloc (.cells (Qv N9) 25)).alloc (.cells (Qv (N9+1)) 25)):=Qb
        exact grown_trans HGF.out (grown_trans (grown_below hb1) (grown_below hb2)))
       clear HR5 HN3 HGF
       generalize ((u4.alloc (.cells (Qv N9) 25)).alloc (.cells (Qv (N9+1)) 25))=u5 at *
       have HGF:=Qh (HGG5.out _ rfl)
       clear HGG5
       replace HV5:=Qh (HV5.out _ rfl)
       generalize u4.heap.size=F at *
       obtain ⟨Q,hQ⟩:∃ Q,u2.heap.size=Q:=⟨_,rfl⟩
       rw [hQ] at HV5 ⊢
       clear hQ
       have HP5:=Qh (show ∀ b,b<w.heap.size→b<u5.heap.size from fun b hb=>Ql hb HV5.out.1.rs.bel.size)
       obtain ⟨x0,x1,x2,x3,x4,x5⟩:=HV5.out.1.bh.cells HL2.out.1 HL2.out.2.1
       obtain ⟨q0,q1,q2,q3,q4,q5⟩:=HV5.out.2.2.1.cells (nb:=⟨#[]⟩) (mb:=⟨#[]⟩) rfl rfl
       obtain ⟨r0,r1,r2,r3,r4,r5⟩:=HV5.out.2.2.2.1.cells (nb:=⟨#[]⟩) (mb:=⟨#[]⟩) rfl rfl
       have hvr1 : -9223372036854775808≤N9∧N9≤9223372036854775807:=by omega
       have hvr2 : -9223372036854775808≤N9+1∧N9+1≤9223372036854775807:=by omega
       have HVR:=Qh (Qa hvr1 hvr2)
       clear hvr1 hvr2
       by_cases h62:62<L2
       ·have hRE:=HRT.out
        rw [tail_big (pu:=false) (n:=N9) (h:=(Tm.mk k2 n2 m2 b2 v2 ts2)) (p:=(Tm.mk k2 n2 m2 b2 v2 ts2).as.getD 1 zeroT) (y:=(Tm.mk k3 n3 m3 b3 v3 ts3)) HK.out.1 HK.out.2 (by simp) (by show 62<ts2.length;rw [HL2.out.2.2.1];exact h62)] at hRE
        subst hRE
        have HPu:=Qh (put_big (P:=fun b=>b<w.heap.size) HV5.out.1.kh (var_at u5 _ HVR.out.1) (var_at u5 _ HVR.out.2) HP5.out (by show 62<ts2.length;rw [HL2.out.2.2.1];exact h62))
        rw [valT_mk HL2.out.1 HL2.out.2.1,show valT (varT N9) (.slice none 0 0) = .agg (Qv N9) from rfl,show valT (varT (N9+1)) (.slice none 0 0) = .agg (Qv (N9+1)) from rfl] at HPu
        go_wp2_with (go_at_call 36;(with_reducible refine HPu.out.mono ?_);rintro e v4w ⟨⟨bb,rfl,hball⟩,hb4⟩;have HSD:=Qh (HV5.out.1.rs.below hb4);have HBL:=Qh hball;clear hball hb4)
        have hball:=HBL.out
        change Leaves _ _ _ _ _ (.panicking _) _
        refine ruleDoor ⟨HSD.out.r,HSD.out.e,HSD.out.bel⟩ hball (by simp [go_sem]) (fun z hz=>?_) (fun z h=>by first | exact .inr ⟨by first | trivial | rfl,h⟩ | exact h)
        obtain ⟨r0,r1,r2,r3,r4,r5,cE2⟩:=hz
        simp [results,Tryd.results9,go_sem,r0,r1,r2,r3,r4,r5,cE2,zeroTV]
       ·have HPu:=Qh (put_fitL (P:=fun b=>b<w.heap.size) HL2.out.1 HL2.out.2.1 HL2.out.2.2.1 HV5.out.1.kh (var_at u5 _ HVR.out.1) (var_at u5 _ HVR.out.2) HP5.out (by omega))
        rw [show valT (varT N9) (.slice none 0 0) = .agg (Qv N9) from rfl,show valT (varT (N9+1)) (.slice none 0 0) = .agg (Qv (N9+1)) from rfl] at HPu
        have H62:=Qh h62
        clear h62
        go_upto_region 36 with (go_at_call 36;(with_reducible refine HPu.out.mono ?_);rintro e u6 ⟨A9,c9,rfl,ht,hb⟩;have HZ6:=Qh (Qa ht hb);clear ht hb)
        have HV7:=Qh (show ∀ z,(u6.alloc (.cells (Qn 5 nb2 (.slice A9 (L2+2) c9)) 25))=z→∀ Z,Z=u6.heap.size→(RT w N (Tm.mk 5 sRule m1 b1 v1 [Tm.mk k2 n2 m2 b2 v2 ts2,Tm.mk k3 n3 m3 b3 v3 ts3]) (.slice (some ⟨g,o,none⟩) 2 c1) (N9+1+1) H Bx (Tm.mk k2 n2 m2 b2 v2 ts2) (.slice A2 L2 c2) (Tm.mk k3 n3 m3 b3 v3 ts3) (.slice A3 L3 c3) z∧NumAt z Q N (N9+1+1)∧TBox z F (varT N9) (.slice none 0 0)∧TBox z (F+1) (varT (N9+1)) (.slice none 0 0)∧N<F∧TBox z Z (cmpT n2 (ts2 ++ [varT N9,varT (N9+1)])) (.slice A9 (L2+2) c9)∧N<Z∧TAtP z (fun b=>b<w.heap.size∨(N<b∧b<z.heap.size)) (cmpT n2 (ts2 ++ [varT N9,varT (N9+1)])) (.slice A9 (L2+2) c9)) from fun z e Z eZ=>by
         rw [←e]
         have hb1:Below u6.heap.size u6 (u6.alloc (.cells (Qn 5 nb2 (.slice A9 (L2+2) c9)) 25)):=Qb
         have hz:=HZ6.out.2.size
         have hb:=HZ6.out.2.trans (hb1.mono hz)
         have hsz:(u6.alloc (.cells (Qn 5 nb2 (.slice A9 (L2+2) c9)) 25)).heap.size=u6.heap.size+1:=by simp
         have hF1:TBox (u6.alloc (.cells (Qn 5 nb2 (.slice A9 (L2+2) c9)) 25)) u6.heap.size (cmpT n2 (ts2 ++ [varT N9,varT (N9+1)])) (.slice A9 (L2+2) c9):=TBox.new u6 (ts:=ts2 ++ [varT N9,varT (N9+1)]) (m:=[]) HL2.out.1 rfl
         have hnl:=HV5.out.1.rs.nlt
         subst eZ
         refine ⟨HV5.out.1.below hb,HV5.out.2.1.below hb,HV5.out.2.2.1.below hb,HV5.out.2.2.2.1.below hb,HV5.out.2.2.2.2,hF1,by omega,?_⟩
         refine TAtP.keep _ HZ6.out.1 (fun b hb=>?_)
         have h9:=Grow.lt HP5.out hz b hb
         refine ⟨?_,hb1.block b h9⟩
         rcases hb with hb | hb
         ·exact .inl hb
         ·exact .inr ⟨by omega,by omega⟩)
        have HGG7:=Qh (show ∀ z,(u6.alloc (.cells (Qn 5 nb2 (.slice A9 (L2+2) c9)) 25))=z→u2.grownBy z (some N) from fun z e=>by
         rw [←e]
         have hb1:Below u6.heap.size u6 (u6.alloc (.cells (Qn 5 nb2 (.slice A9 (L2+2) c9)) 25)):=Qb
         exact grown_trans HGF.out (grown_trans (grown_below HZ6.out.2) (grown_below hb1)))
        clear HGF
        generalize (u6.alloc (.cells (Qn 5 nb2 (.slice A9 (L2+2) c9)) 25))=u7 at *
        have HGF:=Qh (HGG7.out _ rfl)
        clear HGG7
        obtain ⟨Z,hZ⟩:∃ Z,u6.heap.size=Z:=⟨_,rfl⟩
        replace HV7:=Qh (HV7.out _ rfl Z hZ.symm)
        rw [hZ]
        clear hZ HZ6 HPu HV5 HP5 x0 x1 x2 x3 x4 x5 q0 q1 q2 q3 q4 q5 r0 r1 r2 r3 r4 r5
        rw [show (N9+1+1:Int)=N9+2 by omega] at HV7
        have HSS:=Qh (show ∀ z,u7.grownBy z (some N)→((Q6 z Z 5 nb2 ⟨#[]⟩ 0 0 (.slice A9 (L2+2) c9))∧(Q6 z Bx k3 nb3 mb3 b3 v3 (.slice A3 L3 c3))∧(Q6 z F 1 ⟨#[]⟩ ⟨#[]⟩ 0 N9 (.slice none 0 0))∧(Q6 z (F+1) 1 ⟨#[]⟩ ⟨#[]⟩ 0 (N9+1) (.slice none 0 0))) from fun z hg=>by
         have h1:=HV7.out.1.lb
         have h2:=HV7.out.2.2.2.2.1
         have h3:=HV7.out.2.2.2.2.2.2.1
         exact ⟨(HV7.out.2.2.2.2.2.1.gro hg (by omega)).cells HL2.out.1 rfl,(HV7.out.1.bb.gro hg (by omega)).cells HL3.out.1 HL3.out.2.1,(HV7.out.2.2.1.gro hg (by omega)).cells rfl rfl,(HV7.out.2.2.2.1.gro hg (by omega)).cells rfl rfl⟩)
        have HNL:=Qh (show w.heap.size+1+1<N from HV7.out.1.rs.lt)
        have HBG:=Qh (show w.heap.size+1+1<u7.heap.size from Nat.lt_trans HV7.out.1.rs.lt HV7.out.1.rs.nlt)
        refine wp_region_wait (fun z=>((Q6 z Z 5 nb2 ⟨#[]⟩ 0 0 (.slice A9 (L2+2) c9))∧(Q6 z Bx k3 nb3 mb3 b3 v3 (.slice A3 L3 c3))∧(Q6 z F 1 ⟨#[]⟩ ⟨#[]⟩ 0 N9 (.slice none 0 0))∧(Q6 z (F+1) 1 ⟨#[]⟩ ⟨#[]⟩ 0 (N9+1) (.slice none 0 0)))) 9 (by kernel_rfl) ?_
        change wpAnyW _ _ _ _ _ _ _ _ _ u7.drew
        have KK:=Qh (below_drew' u7)
        generalize u7.drew=v0 at *
        have KG:=Qh (grown_below (r:=some N) KK.out)
        refine wpAnyW_take 9 (i:=0) (v:=.agg (Qn 5 nb2 (.slice A9 (L2+2) c9))) rfl (by kernel_rfl) (by kernel_rfl) (by kernel_rfl) (by kernel_rfl) (fun c a w h=>hqRule (by omega) c a w h) (Or.inl ⟨by rfl,?_⟩) (HSS.out _ KG.out) ?_
        ·intro w5 hSw
         obtain ⟨⟨p0,p1,p2,p3,p4,p5⟩,⟨q0,q1,q2,q3,q4,q5⟩,⟨r0,r1,r2,r3,r4,r5⟩,⟨s0,s1,s2,s3,s4,s5⟩⟩:=hSw
         go_simp
        refine wpAnyW_take 9 (i:=1) (v:=.agg (Q5 k3 nb3 mb3 b3 v3 (.slice A3 L3 c3))) rfl (by kernel_rfl) (by kernel_rfl) (by kernel_rfl) (by kernel_rfl) (fun c a w h=>hqRule (by omega) c a w h) (Or.inl ⟨by rfl,?_⟩) (HSS.out _ KG.out) ?_
        ·intro w5 hSw
         obtain ⟨⟨p0,p1,p2,p3,p4,p5⟩,⟨q0,q1,q2,q3,q4,q5⟩,⟨r0,r1,r2,r3,r4,r5⟩,⟨s0,s1,s2,s3,s4,s5⟩⟩:=hSw
         go_simp
        refine wpAnyW_take 9 (i:=2) (v:=.agg (Qv N9)) rfl (by kernel_rfl) (by kernel_rfl) (by kernel_rfl) (by kernel_rfl) (fun c a w h=>hqRule (by omega) c a w h) (Or.inl ⟨by rfl,?_⟩) (HSS.out _ KG.out) ?_
        ·intro w5 hSw
         obtain ⟨⟨p0,p1,p2,p3,p4,p5⟩,⟨q0,q1,q2,q3,q4,q5⟩,⟨r0,r1,r2,r3,r4,r5⟩,⟨s0,s1,s2,s3,s4,s5⟩⟩:=hSw
         go_simp
        refine wpAnyW_take 9 (i:=3) (v:=.agg (Qv (N9+1))) rfl (by kernel_rfl) (by kernel_rfl) (by kernel_rfl) (by kernel_rfl) (fun c a w h=>hqRule (by omega) c a w h) (Or.inl ⟨by rfl,?_⟩) (HSS.out _ KG.out) ?_
        ·intro w5 hSw
         obtain ⟨⟨p0,p1,p2,p3,p4,p5⟩,⟨q0,q1,q2,q3,q4,q5⟩,⟨r0,r1,r2,r3,r4,r5⟩,⟨s0,s1,s2,s3,s4,s5⟩⟩:=hSw
         go_simp
        refine wpAnyW_take 9 (i:=4) (v:=(.func (.func 60) #[] #[.pointer (some ⟨Q,0,none⟩)])) rfl (by kernel_rfl) (by kernel_rfl) (by kernel_rfl) (by kernel_rfl) (fun c a w h=>hqRule (by omega) c a w h) (Or.inl ⟨by rfl,?_⟩) (HSS.out _ KG.out) ?_
        ·intro w5 hSw
         obtain ⟨⟨p0,p1,p2,p3,p4,p5⟩,⟨q0,q1,q2,q3,q4,q5⟩,⟨r0,r1,r2,r3,r4,r5⟩,⟨s0,s1,s2,s3,s4,s5⟩⟩:=hSw
         go_simp
        have HCy:=Qh (show checkP (Tm.mk k3 n3 m3 b3 v3 ts3)=0 from check_arg HCk.out (by show _ ∈ [_,_];simp))
        have HCx:=Qh (show checkP (Tm.mk k2 n2 m2 b2 v2 ts2)=0 from check_arg HCk.out (by show _ ∈ [_,_];simp))
        obtain ⟨RM,hRM⟩:∃ r,mkB (Tm.mk k3 n3 m3 b3 v3 ts3) (varT N9) (varT (N9+1)) (N9+2)=r:=⟨_,rfl⟩
        have HRE:=Qh ((tail_np (n:=N9) (h:=(Tm.mk k2 n2 m2 b2 v2 ts2)) (p:=(Tm.mk k2 n2 m2 b2 v2 ts2).as.getD 1 zeroT) (y:=(Tm.mk k3 n3 m3 b3 v3 ts3)) HK.out.1 HK.out.2 (by show ¬62<ts2.length;rw [HL2.out.2.2.1];exact H62.out)).symm.trans HRT.out)
        have HBo:=Qh (body_any w0 (Tm.mk k3 n3 m3 b3 v3 ts3) v0 (fun b=>b<w.heap.size) (varT N9) (varT (N9+1)) (.slice A3 L3 c3) (.slice none 0 0) (.slice none 0 0) Q N (N9+2) (fun b hb=>⟨Ql (Ql hb HV7.out.1.rs.bel.size) KK.out.size,by have:=HNL.out;omega⟩) (TAtP.below HV7.out.1.kb KK.out (fun b hb=>Ql hb HV7.out.1.rs.bel.size)) (var_at v0 _ HVR.out.1) (var_at v0 _ HVR.out.2) (HV7.out.2.1.below KK.out) (by omega) (by have:=(check_iff.1 HCy.out).1;omega) HCy.out (HU.out.below (Qt HV7.out.1.rs.bel KK.out)) (by have:=HU.out.bel.size;have:=HNL.out;omega))
        have HRM:=Qh hRM
        rw [hRM] at HRE
        rw [hRM,valT_mk HL3.out.1 HL3.out.2.1,show valT (varT N9) (.slice none 0 0) = .agg (Qv N9) from rfl,show valT (varT (N9+1)) (.slice none 0 0) = .agg (Qv (N9+1)) from rfl,show freshV Q=(.func (.func 60) #[] #[.pointer (some ⟨Q,0,none⟩)]) from rfl] at HBo
        clear hRM
        refine w1 5 fun K hK=>?_
        go_simp
        cases RM with
        | error bt=>
         (with_reducible refine HBo.out.mono ?_)
         rintro e v4w hp
         obtain ⟨hg,bb,rfl,hball⟩:=hp.bad
         have hRE:=HRE.out
         change Except.error bt=RR at hRE
         subst hRE
         have HSD:=Qh (HV7.out.1.rs.rd.go (grown_trans KG.out hg) HNL.out)
         change Leaves _ _ _ _ _ (.panicking _) _
         refine ruleDoor ⟨HSD.out.r,HSD.out.e,HSD.out.bel⟩ hball (by simp [go_sem]) (fun z hz=>?_) (fun z h=>by first | exact .inr ⟨by first | trivial | rfl,h⟩ | exact h)
         obtain ⟨r0,r1,r2,r3,r4,r5,cE2⟩:=hz
         simp [results,Tryd.results9,go_sem,r0,r1,r2,r3,r4,r5,cE2,zeroTV]
        | ok p=>
         obtain ⟨a,n'⟩:=p
         obtain ⟨k6,n6,m6,b6,v6,ts6⟩:=a
         obtain ⟨nb6,hnb6⟩:∃ nb:ByteArray,(⟨n6.toArray⟩:ByteArray)=nb:=⟨_,rfl⟩
         obtain ⟨mb6,hmb6⟩:∃ mb:ByteArray,(⟨m6.toArray⟩:ByteArray)=mb:=⟨_,rfl⟩
         obtain ⟨L6,hL6⟩:∃ L,ts6.length=L:=⟨_,rfl⟩
         have HL6:=Qh (Qa hnb6 (Qa hmb6 hL6))
         clear hnb6 hmb6 hL6
         have HBr:=Qh (show Bare (cmpT sNeck [(cmpT n2 (ts2 ++ [varT N9,varT (N9+1)])),(Tm.mk k6 n6 m6 b6 v6 ts6)]) from bare_cmp (fun x hx=>by
          simp at hx
          rcases hx with rfl | rfl
          ·exact bare_head HCx.out
          ·exact bare_mkB HRM.out (by omega) HCy.out (errs_var (by decide) (by omega)) (errs_var (by decide) (by omega))))
         replace HRE:=Qh (show whole (cmpT sNeck [(cmpT n2 (ts2 ++ [varT N9,varT (N9+1)])),(Tm.mk k6 n6 m6 b6 v6 ts6)])=RR from HRE.out)
         (with_reducible refine HBo.out.mono ?_)
         rintro e u8 hp
         obtain ⟨A6,c6,rfl,hta,hnu,hg⟩:=hp.letters HL6.out.1 HL6.out.2.1 HL6.out.2.2
         have hgU:=grown_trans KG.out hg
         have hnn:=HV7.out.1.rs.bel.size
         have HT8:=Qh (show TAtP u8 (fun b=>b<u8.heap.size) (cmpT n2 (ts2 ++ [varT N9,varT (N9+1)])) (.slice A9 (L2+2) c9)∧TAtP u8 (fun b=>b<u8.heap.size) (Tm.mk k6 n6 m6 b6 v6 ts6) (.slice A6 L6 c6) from
          ⟨TAtP.keep _ HV7.out.2.2.2.2.2.2.2 (fun b hb=>by
           have h1:=HNL.out
           have h2:=HBG.out
           have h3:=hgU.size
           have hbu:b<u7.heap.size∧b≠N:=by rcases hb with hb | hb <;> omega
           exact ⟨by omega,hgU.block b hbu.1 (fun e=>by injection e with e;omega)⟩),
           hta.wide (fun b hb=>Grow.lt (fun b hb=>Ql (Ql hb HV7.out.1.rs.bel.size) KK.out.size) hg.size b hb)⟩)
         have HD8:=Qh (HV7.out.1.rs.rd.go hgU HNL.out)
         have HG8:=Qh hgU
         clear hta hnu hg hp hgU hnn
         refine hK.out _ _ (fun _=>HSS.out _ HG8.out) ?_
         refine w1 6 fun K hK=>?_
         go_simp
         have hbA:Below u8.heap.size u8 (u8.alloc (.cells #[.int .i64 5,.string nb2,.string ⟨#[]⟩,.int .u64 0,.int .i64 0,.slice A9 (L2+2) c9,.int .i64 k6,.string nb6,.string mb6,.int .u64 b6,.int .i64 v6,.slice A6 L6 c6] 25)):=Qb
         have hbu:=built (w:=u8) (P:=fun b=>b<u8.heap.size) (s:=sNeck) (n:=2) (cs:=#[.int .i64 5,.string nb2,.string ⟨#[]⟩,.int .u64 0,.int .i64 0,.slice A9 (L2+2) c9,.int .i64 k6,.string nb6,.string mb6,.int .u64 b6,.int .i64 v6,.slice A6 L6 c6]) (ps:=[((cmpT n2 (ts2 ++ [varT N9,varT (N9+1)])),Value.slice A9 (L2+2) c9),((Tm.mk k6 n6 m6 b6 v6 ts6),Value.slice A6 L6 c6)]) (by rw [←HL2.out.1,←HL6.out.1,←HL6.out.2.1];rfl) rfl (mem2 HT8.out.1 HT8.out.2) (fun b hb=>hb) (by unfold maxArgs;omega) (by decide)
         have HBA:=Qh (Qa hbA (Qa hbu (show (u8.alloc (.cells #[.int .i64 5,.string nb2,.string ⟨#[]⟩,.int .u64 0,.int .i64 0,.slice A9 (L2+2) c9,.int .i64 k6,.string nb6,.string mb6,.int .u64 b6,.int .i64 v6,.slice A6 L6 c6] 25)).heap.size=u8.heap.size+1 by simp)))
         clear hbA hbu
         refine hK.out _ _ (fun _=>HSS.out _ (grown_trans HG8.out (grown_below HBA.out.1))) ?_
         generalize u8.alloc (.cells #[.int .i64 5,.string nb2,.string ⟨#[]⟩,.int .u64 0,.int .i64 0,.slice A9 (L2+2) c9,.int .i64 k6,.string nb6,.string mb6,.int .u64 b6,.int .i64 v6,.slice A6 L6 c6] 25)=u9 at *
         generalize hq:u8.heap.size=q at *
         refine w1 7 fun K hK=>?_
         go_simp
         (with_reducible refine (of_any _ _ _ _ _).mono ?_)
         rintro e ua ⟨rfl,hb3⟩
         have HGA:=Qh (grown_trans (grown_trans HG8.out (grown_below (by rw [hq];exact HBA.out.1))) (grown_below hb3))
         have FT:=Qh (show TAt ua ua.heap.size (cmpT sNeck [(cmpT n2 (ts2 ++ [varT N9,varT (N9+1)])),(Tm.mk k6 n6 m6 b6 v6 ts6)]) (.slice (some ⟨q,0,none⟩) 2 2)∧RD w ua∧Bare (cmpT sNeck [(cmpT n2 (ts2 ++ [varT N9,varT (N9+1)])),(Tm.mk k6 n6 m6 b6 v6 ts6)]) from ⟨TAt.any HBA.out.2.1 (fun b hb=>by have:=HBA.out.2.2;rcases hb with hb | hb <;> omega) hb3,HD8.out.go (N:=N) (grown_trans (grown_below (by rw [hq];exact HBA.out.1)) (grown_below hb3)) HNL.out,HBr.out⟩)
         clear hb3
         refine hK.out _ _ (fun _=>HSS.out _ HGA.out) ?_
         replace HBG:=Qh (show w.heap.size+1+1<ua.heap.size from Ql HBG.out HGA.out.size)
         refine w1 8 fun K hK=>?_
         go_simp
         by_cases hz:4000<nodes (cmpT sNeck [(cmpT n2 (ts2 ++ [varT N9,varT (N9+1)])),(Tm.mk k6 n6 m6 b6 v6 ts6)])
         ·have hRE:Except.error nodesT=RR:=by rw [←HRE.out];simp [whole,hz]
          subst hRE
          have hwb:=whole_big FT.out.1 hz
          rw [show valT (cmpT sNeck [(cmpT n2 (ts2 ++ [varT N9,varT (N9+1)])),(Tm.mk k6 n6 m6 b6 v6 ts6)]) (.slice (some ⟨q,0,none⟩) 2 2) = .agg (Qn 5 ⟨#[58,45]⟩ (.slice (some ⟨q,0,none⟩) 2 2)) from rfl] at hwb
          (with_reducible refine hwb.mono ?_)
          rintro e v4w ⟨⟨bb,rfl,hball⟩,hb4⟩
          have HSD:=Qh (FT.out.2.1.go (N:=N) (grown_below hb4) HNL.out)
          change Leaves _ _ _ _ _ (.panicking _) _
          refine ruleDoor ⟨HSD.out.r,HSD.out.e,HSD.out.bel⟩ hball (by simp [go_sem]) (fun z hz=>?_) (fun z h=>by first | exact .inr ⟨by first | trivial | rfl,h⟩ | exact h)
          obtain ⟨r0,r1,r2,r3,r4,r5,cE2⟩:=hz
          simp [results,Tryd.results9,go_sem,r0,r1,r2,r3,r4,r5,cE2,zeroTV]
         ·have hRE:Except.ok (cmpT sNeck [(cmpT n2 (ts2 ++ [varT N9,varT (N9+1)])),(Tm.mk k6 n6 m6 b6 v6 ts6)])=RR:=by rw [←HRE.out];simp [whole,hz]
          subst hRE
          have hwf0:=whole_fit FT.out.1 FT.out.2.2 hz
          rw [show valT (cmpT sNeck [(cmpT n2 (ts2 ++ [varT N9,varT (N9+1)])),(Tm.mk k6 n6 m6 b6 v6 ts6)]) (.slice (some ⟨q,0,none⟩) 2 2) = .agg (Qn 5 ⟨#[58,45]⟩ (.slice (some ⟨q,0,none⟩) 2 2)) from rfl] at hwf0
          have hwf:=own_letters (q:=2) (k:=5) (b:=0) (v:=0) (n:=sNeck) (m:=[]) (ts:=((cmpT sNeck [(cmpT n2 (ts2 ++ [varT N9,varT (N9+1)])),(Tm.mk k6 n6 m6 b6 v6 ts6)])).as) (nb:=⟨#[58,45]⟩) (mb:=⟨#[]⟩) rfl rfl rfl hwf0
          clear hz hwf0
          (with_reducible refine hwf.mono ?_)
          rintro e w3 ⟨A0,c0,rfl,ho3,hb3⟩
          have HO3:=Qh (Qa ho3 (Qa (FT.out.2.1.go (N:=N) (grown_below hb3) HNL.out) (FT.out.2.1.bel.size)))
          have HG3:=Qh (grown_below (r:=some N) hb3)
          clear ho3 hb3 hwf
          refine hK.out _ _ (fun _=>HSS.out _ (grown_trans HGA.out HG3.out)) ?_
          refine w1 9 fun K hK=>?_
          obtain ⟨a0,a1,a2,a3,a4,a5⟩:=HO3.out.2.1.r.cells rfl rfl
          obtain ⟨e0,e1,e2,e3,e4,e5⟩:=HO3.out.2.1.r.frozens
          go_simp
          refine hK.out _ _ (fun h=>absurd h (by simp)) ?_
          clear a0 a1 a2 a3 a4 a5 e0 e1 e2 e3 e4 e5
          obtain ⟨hbx,hgr⟩:=HO3.out.2.1.r.set6 (k:=5) (b:=0) (v:=0) (n:=sNeck) (m:=[]) (nb:=⟨#[58,45]⟩) (mb:=⟨#[]⟩) ((cmpT sNeck [(cmpT n2 (ts2 ++ [varT N9,varT (N9+1)])),(Tm.mk k6 n6 m6 b6 v6 ts6)])).as (.slice A0 2 c0) rfl rfl
          have H6x:=Qh (show ∀ z,((((((w3.setCell ⟨w.heap.size+1,0,none⟩ (.int .i64 5)).setCell ⟨w.heap.size+1,1,none⟩ (.string ⟨#[58,45]⟩)).setCell ⟨w.heap.size+1,2,none⟩ (.string ⟨#[]⟩)).setCell ⟨w.heap.size+1,3,none⟩ (.int .u64 0)).setCell ⟨w.heap.size+1,4,none⟩ (.int .i64 0)).setCell ⟨w.heap.size+1,5,none⟩ (.slice A0 2 c0))=z→TBox z (w.heap.size+1) (cmpT sNeck [(cmpT n2 (ts2 ++ [varT N9,varT (N9+1)])),(Tm.mk k6 n6 m6 b6 v6 ts6)]) (.slice A0 2 c0)∧w3.grownBy z (some (w.heap.size+1)) from fun z e=>by rw [←e];exact ⟨hbx,hgr⟩)
          clear hbx hgr
          generalize ((((((w3.setCell ⟨w.heap.size+1,0,none⟩ (.int .i64 5)).setCell ⟨w.heap.size+1,1,none⟩ (.string ⟨#[58,45]⟩)).setCell ⟨w.heap.size+1,2,none⟩ (.string ⟨#[]⟩)).setCell ⟨w.heap.size+1,3,none⟩ (.int .u64 0)).setCell ⟨w.heap.size+1,4,none⟩ (.int .i64 0)).setCell ⟨w.heap.size+1,5,none⟩ (.slice A0 2 c0))=w4 at *
          have H4:=Qh (H6x.out _ rfl)
          clear H6x
          have H6:=Qh (show TOwn w4 (cmpT sNeck [(cmpT n2 (ts2 ++ [varT N9,varT (N9+1)])),(Tm.mk k6 n6 m6 b6 v6 ts6)]) (.slice A0 2 c0) ua.heap.size w4.heap.size∧Below w.heap.size w w4∧w4.heap[w.heap.size+1+1]?=some (.cells #[.nilIface] 29 (0,0)) from by
           have h1:=HO3.out.2.2
           have h2:=HBG.out
           exact ⟨(TOwn.keep _ HO3.out.1 (fun b h3 h4=>H4.out.2.block b h4 (fun e=>by injection e with e;omega))).widen H4.out.2.size,HO3.out.2.1.bel.grown H4.out.2 HO3.out.2.1.bel.size (Qg (by omega)),blk_ne H4.out.2 HO3.out.2.1.e (by omega)⟩)
          refine w1 10 fun K hK=>?_
          have cE:=cell_of_one H6.out.2.2
          have fE:=free_of_one H6.out.2.2
          go_simp
          refine hK.out _ _ (fun h=>absurd h (by simp)) ?_
          refine wpAnyW_done (by kernel_rfl) ?_ _
          clear cE fE
          go_wp2
          have hgg:=HBG.out
          have hbx:=H4.out.1.far (p:=⟨w.heap.size+1+1,0,none⟩) (by show w.heap.size+1≠w.heap.size+1+1;omega) .nilIface
          have hE2:=one_setCell (u:=.nilIface) H6.out.2.2
          have how:TOwn (w4.setCell ⟨w.heap.size+1+1,0,none⟩ .nilIface) (cmpT sNeck [(cmpT n2 (ts2 ++ [varT N9,varT (N9+1)])),(Tm.mk k6 n6 m6 b6 v6 ts6)]) (.slice A0 2 c0) w.heap.size (w4.setCell ⟨w.heap.size+1+1,0,none⟩ .nilIface).heap.size:=((TOwn.keep _ H6.out.1 (fun b h3 h4=>Below.heap_setCell _ _ _ b (by show b≠w.heap.size+1+1;omega))).widen (by simp [World.setCell])).lower (by omega)
          have hbw:Below w.heap.size w (w4.setCell ⟨w.heap.size+1+1,0,none⟩ .nilIface):=H6.out.2.1.setCell (by show w.heap.size≤w.heap.size+1+1;omega) _
          generalize w4.setCell ⟨w.heap.size+1+1,0,none⟩ .nilIface=w5 at *
          change Leaves _ _ _ _ _ .returning _
          refine leaves_cons (f:=29) (args:=#[.pointer (some ⟨w.heap.size+1+1,0,none⟩)]) (by simp) (by simp [go_sem]) ?_
          refine (caught_idle (w.heap.size+1+1) w5).mono ?_
          rintro e u' w'' ⟨rfl,rfl,rfl⟩
          obtain ⟨r0,r1,r2,r3,r4,r5⟩:=hbx.cells (nb:=⟨#[58,45]⟩) (mb:=⟨#[]⟩) rfl rfl
          have cE2:=cell_of_one hE2
          simp only [settle,Leaves]
          first
           | exact ⟨.tuple #[.agg (Qn 5 ⟨#[58,45]⟩ (.slice A0 2 c0)),.nilIface],by simp [results,Tryd.results9,go_sem,r0,r1,r2,r3,r4,r5,cE2],.inr ⟨by first | trivial | rfl,RuleR.mkOk hbw rfl how⟩⟩
           | exact ⟨.tuple #[.agg (Qn 5 ⟨#[58,45]⟩ (.slice A0 2 c0)),.nilIface],by simp [results,Tryd.results9,go_sem,r0,r1,r2,r3,r4,r5,cE2],RuleR.mkOk hbw rfl how⟩
    | true=>
     obtain ⟨e1,e2,e3⟩:=isC_iff.1 HC1.out
     change k2=5 at e1
     change n2=sComma at e2
     change ts2.length=2 at e3
     subst e1 e2
     have hL2x:L2=2:=by rw [←HL2.out.2.2.1];exact e3
     subst hL2x
     obtain ⟨xh,xp,rfl⟩:∃ x y,ts2 = [x,y]:=by
      match ts2,e3 with
      | [x,y],_=>exact ⟨x,y,rfl⟩
     clear e3
     go_upto_region 20 with (go_at_call 30;(with_reducible refine (HI1.out _).mono ?_);rintro e u2 ⟨rfl,hb⟩;have HR4:=Qh (HR3.out.below hb);obtain ⟨y0,y1,y2,y3,y4,y5⟩:=HR4.out.bh.cells HL2.out.1 HL2.out.2.1;clear hb)
     obtain ⟨Ax,cx,hst,zz1,zz2,zz3,zz4,hgo⟩:=TAtP.iff.1 (HR4.out.kh)
     clear zz1 zz2 zz3 zz4
     obtain ⟨g2,o2,hA,hPg,hel⟩:=hgo (by simp [Tm.as])
     injection hst with e1 e2 e3
     rw [hA] at e1
     subst e1
     clear e2 e3
     have hex:=hel 0 xh rfl
     obtain ⟨A4,c4,k4,n4,m4,b4,v4,ts4,nb4,mb4,rfl,hnb,hmb,htx,q0,q1,q2,q3,q4,q5⟩:=EltP.cells hex
     obtain ⟨z4,z5,hsl,hl1,z6,hl3,z7⟩:=TAtP.iff.1 htx
     injection hsl with z1 z2 e3
     subst e3
     clear z1 z2 z6 z7 z4
     obtain ⟨L4,hL⟩:∃ L,ts4.length=L:=⟨_,rfl⟩
     change ts4.length≤_ at hl1
     change ts4.length≤_ at hl3
     rw [hL] at q5 htx hl1 hl3
     rw [Nat.zero_mul,Nat.add_zero] at q0 q1 q2 q3 q4 q5
     have HL4:=Qh (Qa hnb (Qa hmb (Qa hL (Qa hl3 hl1))))
     have HE4:=Qh (Qa htx (Qa q0 (Qa q1 (Qa q2 (Qa q3 (Qa q4 q5))))))
     have hL4I:(L4:Int)≤1759218604400:=by unfold maxArgs at hl3;omega
     clear hnb hmb hL htx q0 q1 q2 q3 q4 q5 hex hl1 hl3
     have hex:=hel 1 xp rfl
     obtain ⟨A5,c5,k5,n5,m5,b5,v5,ts5,nb5,mb5,rfl,hnb,hmb,htx,q0,q1,q2,q3,q4,q5⟩:=EltP.cells hex
     obtain ⟨z4,z5,hsl,hl1,z6,hl3,z7⟩:=TAtP.iff.1 htx
     injection hsl with z1 z2 e3
     subst e3
     clear z1 z2 z6 z7 z4
     obtain ⟨L5,hL⟩:∃ L,ts5.length=L:=⟨_,rfl⟩
     change ts5.length≤_ at hl1
     change ts5.length≤_ at hl3
     rw [hL] at q5 htx hl1 hl3
     rw [Nat.one_mul] at q0 q1 q2 q3 q4 q5
     have HL5:=Qh (Qa hnb (Qa hmb (Qa hL (Qa hl3 hl1))))
     have HE5:=Qh (Qa htx (Qa q0 (Qa q1 (Qa q2 (Qa q3 (Qa q4 q5))))))
     have hL5I:(L5:Int)≤1759218604400:=by unfold maxArgs at hl3;omega
     clear hnb hmb hL htx q0 q1 q2 q3 q4 q5 hex hl1 hl3
     have HPg2:=Qh (show g2<w.heap.size from hPg)
     clear hgo hA hel hPg
     have HSB:=Qh (show ∀ z,TBox z w.heap.size (Tm.mk 5 sRule m1 b1 v1 [Tm.mk 5 sComma m2 b2 v2 [(Tm.mk k4 n4 m4 b4 v4 ts4),(Tm.mk k5 n5 m5 b5 v5 ts5)],(Tm.mk k3 n3 m3 b3 v3 ts3)]) (.slice (some ⟨g,o,none⟩) 2 c1)→z.heap[g]?=u1.heap[g]?→(z.cell? ⟨w.heap.size,5,none⟩=some (.slice (some ⟨g,o,none⟩) 2 c1)∧(z.cell? ⟨g,o+6,none⟩=some (.int .i64 k3)∧z.cell? ⟨g,o+7,none⟩=some (.string nb3)∧z.cell? ⟨g,o+8,none⟩=some (.string mb3)∧z.cell? ⟨g,o+9,none⟩=some (.int .u64 b3)∧z.cell? ⟨g,o+10,none⟩=some (.int .i64 v3)∧z.cell? ⟨g,o+11,none⟩=some (.slice A3 L3 c3))) from fun z h1 hg=>⟨(h1.cells HM.out.1 HM.out.2).2.2.2.2.2,⟨(Qc (a:=⟨g,o+6,none⟩) hg).trans HE3.out.2.1,(Qc (a:=⟨g,o+7,none⟩) hg).trans HE3.out.2.2.1,(Qc (a:=⟨g,o+8,none⟩) hg).trans HE3.out.2.2.2.1,(Qc (a:=⟨g,o+9,none⟩) hg).trans HE3.out.2.2.2.2.1,(Qc (a:=⟨g,o+10,none⟩) hg).trans HE3.out.2.2.2.2.2.1,(Qc (a:=⟨g,o+11,none⟩) hg).trans HE3.out.2.2.2.2.2.2⟩⟩)
     have HGG:=Qh (show ∀ z,Below w.heap.size w z→z.heap[g]?=u1.heap[g]? from fun z hb=>(hb.block g HPg.out).trans (HS2.out.bel.block g HPg.out).symm)
     have HRT:=Qh (rule_p.symm.trans HR0.out.1)
     rw [HR0.out.2.2.2.1] at HRT
     have HSS:=Qh (show ∀ z,Below u2.heap.size u2 z→(z.cell? ⟨w.heap.size,5,none⟩=some (.slice (some ⟨g,o,none⟩) 2 c1)∧(z.cell? ⟨g,o+6,none⟩=some (.int .i64 k3)∧z.cell? ⟨g,o+7,none⟩=some (.string nb3)∧z.cell? ⟨g,o+8,none⟩=some (.string mb3)∧z.cell? ⟨g,o+9,none⟩=some (.int .u64 b3)∧z.cell? ⟨g,o+10,none⟩=some (.int .i64 v3)∧z.cell? ⟨g,o+11,none⟩=some (.slice A3 L3 c3))) from fun z hb=>HSB.out z (HR4.out.below hb).rs.t1 (HGG.out z (HR4.out.below hb).rs.bel))
     refine wp_region_wait (fun z=>(z.cell? ⟨w.heap.size,5,none⟩=some (.slice (some ⟨g,o,none⟩) 2 c1)∧(z.cell? ⟨g,o+6,none⟩=some (.int .i64 k3)∧z.cell? ⟨g,o+7,none⟩=some (.string nb3)∧z.cell? ⟨g,o+8,none⟩=some (.string mb3)∧z.cell? ⟨g,o+9,none⟩=some (.int .u64 b3)∧z.cell? ⟨g,o+10,none⟩=some (.int .i64 v3)∧z.cell? ⟨g,o+11,none⟩=some (.slice A3 L3 c3)))) 9 (by kernel_rfl) ?_
     change wpAnyW _ _ _ _ _ _ _ _ _ u2.drew
     have KK:=Qh (below_drew' u2)
     generalize u2.drew=v0 at *
     refine wpAnyW_take 9 (i:=4) (v:=.pointer (some ⟨w.heap.size,5,none⟩)) rfl (by kernel_rfl) (by kernel_rfl) (by kernel_rfl) (by kernel_rfl) (fun c a w h=>hqRule (by omega) c a w h) (Or.inl ⟨by rfl,?_⟩) (HSS.out _ KK.out) ?_
     ·intro w5 hSw
      obtain ⟨x5,⟨p0,p1,p2,p3,p4,p5⟩⟩:=hSw
      go_simp
     refine wpAnyW_take 9 (i:=5) (v:=.slice (some ⟨g,o,none⟩) 2 c1) rfl (by kernel_rfl) (by kernel_rfl) (by kernel_rfl) (by kernel_rfl) (fun c a w h=>hqRule (by omega) c a w h) (Or.inl ⟨by rfl,?_⟩) (HSS.out _ KK.out) ?_
     ·intro w5 hSw
      obtain ⟨x5,⟨p0,p1,p2,p3,p4,p5⟩⟩:=hSw
      go_simp
     refine wpAnyW_take 9 (i:=6) (v:=.pointer (some ⟨g,o+6,none⟩)) rfl (by kernel_rfl) (by kernel_rfl) (by kernel_rfl) (by kernel_rfl) (fun c a w h=>hqRule (by omega) c a w h) (Or.inl ⟨by rfl,?_⟩) (HSS.out _ KK.out) ?_
     ·intro w5 hSw
      obtain ⟨x5,⟨p0,p1,p2,p3,p4,p5⟩⟩:=hSw
      go_simp
     refine wpAnyW_take 9 (i:=7) (v:=.agg (Q5 k3 nb3 mb3 b3 v3 (.slice A3 L3 c3))) rfl (by kernel_rfl) (by kernel_rfl) (by kernel_rfl) (by kernel_rfl) (fun c a w h=>hqRule (by omega) c a w h) (Or.inl ⟨by rfl,?_⟩) (HSS.out _ KK.out) ?_
     ·intro w5 hSw
      obtain ⟨x5,⟨p0,p1,p2,p3,p4,p5⟩⟩:=hSw
      go_simp
     have HR5:=Qh (Qa (HR4.out.below KK.out) (show TAtP v0 (fun b=>b<w.heap.size) (Tm.mk k4 n4 m4 b4 v4 ts4) (.slice A4 L4 c4) from TAtP.below HE4.out.1 KK.out (fun b hb=>Ql hb HR4.out.rs.bel.size)))
     have HC4:=Qh (show ∀ z,Below u2.heap.size u2 z→(Q7 z g2 o2 k4 nb4 mb4 b4 v4 (.slice A4 L4 c4)) from fun z hz=>⟨cellB (hz) HE4.out.2.1,cellB (hz) HE4.out.2.2.1,cellB (hz) HE4.out.2.2.2.1,cellB (hz) HE4.out.2.2.2.2.1,cellB (hz) HE4.out.2.2.2.2.2.1,cellB (hz) HE4.out.2.2.2.2.2.2⟩)
     refine w1 0 fun K hK=>?_
     go_simp
     refine hK.out _ _ (fun _=>HSS.out _ KK.out) ?_
     refine w1 1 fun K hK=>?_
     have hx5:=(HR5.out.1.bh.cells HL2.out.1 HL2.out.2.1).2.2.2.2.2
     go_simp
     refine hK.out _ _ (fun _=>HSS.out _ KK.out) ?_
     clear hx5
     refine w1 2 fun K hK=>?_
     go_simp
     refine hK.out _ _ (fun _=>HSS.out _ KK.out) ?_
     refine w1 3 fun K hK=>?_
     obtain ⟨p0,p1,p2,p3,p4,p5⟩:=HC4.out _ KK.out
     go_simp
     clear p0 p1 p2 p3 p4 p5
     refine hK.out _ _ (fun _=>HSS.out _ KK.out) ?_
     refine w1 8 fun K hK=>?_
     obtain ⟨a0,a1,a2,a3,a4,a5⟩:=HR5.out.1.bh.cells rfl rfl
     obtain ⟨e0,e1,e2,e3,e4,e5⟩:=HR5.out.1.bh.frozens
     go_simp
     clear a0 a1 a2 a3 a4 a5 e0 e1 e2 e3 e4 e5
     have hset:=HR5.out.1.setH (k:=k4) (v:=v4) (b:=b4) HL4.out.1 HL4.out.2.1 (HR5.out.2)
     have HR6x:=Qh (show ∀ z,((((((v0.setCell ⟨H,0,none⟩ (.int .i64 k4)).setCell ⟨H,1,none⟩ (.string nb4)).setCell ⟨H,2,none⟩ (.string mb4)).setCell ⟨H,3,none⟩ (.int .u64 b4)).setCell ⟨H,4,none⟩ (.int .i64 v4)).setCell ⟨H,5,none⟩ (.slice A4 L4 c4))=z→RT w N (Tm.mk 5 sRule m1 b1 v1 [Tm.mk 5 sComma m2 b2 v2 [(Tm.mk k4 n4 m4 b4 v4 ts4),(Tm.mk k5 n5 m5 b5 v5 ts5)],(Tm.mk k3 n3 m3 b3 v3 ts3)]) (.slice (some ⟨g,o,none⟩) 2 c1) N9 H Bx (Tm.mk k4 n4 m4 b4 v4 ts4) (.slice A4 L4 c4) (Tm.mk k3 n3 m3 b3 v3 ts3) (.slice A3 L3 c3) z∧∀ b,b<w.heap.size→z.heap[b]?=v0.heap[b]? from fun z e=>by rw [←e];exact ⟨hset,fun b hb=>(HR5.out.1.bh.set6 (k:=k4) (v:=v4) (b:=b4) ts4 (.slice A4 L4 c4) HL4.out.1 HL4.out.2.1).2.block b (Ql hb HR5.out.1.rs.bel.size) (fun e=>by injection e with e;have:=HR5.out.1.lh;have:=HR5.out.1.rs.lt;omega)⟩)
     clear hset
     refine hK.out _ _ (fun h=>HSB.out _ (HR6x.out _ rfl).1.rs.t1 (HGG.out _ (HR6x.out _ rfl).1.rs.bel)) ?_
     generalize ((((((v0.setCell ⟨H,0,none⟩ (.int .i64 k4)).setCell ⟨H,1,none⟩ (.string nb4)).setCell ⟨H,2,none⟩ (.string mb4)).setCell ⟨H,3,none⟩ (.int .u64 b4)).setCell ⟨H,4,none⟩ (.int .i64 v4)).setCell ⟨H,5,none⟩ (.slice A4 L4 c4))=v1x at *
     have HR6:=Qh (HR6x.out _ rfl).1
     have hgk:=Qh ((HR6x.out _ rfl).2)
     clear HR6x
     replace HR6:=Qh (Qa HR6.out trivial)
     refine w1 9 fun K hK=>?_
     obtain ⟨a0,a1,a2,a3,a4,a5⟩:=HR6.out.1.bb.cells rfl rfl
     obtain ⟨e0,e1,e2,e3,e4,e5⟩:=HR6.out.1.bb.frozens
     go_simp
     clear a0 a1 a2 a3 a4 a5 e0 e1 e2 e3 e4 e5
     have hset:=HR6.out.1.setB (k:=k3) (v:=v3) (b:=b3) HL3.out.1 HL3.out.2.1 (HR6.out.1.kb)
     have HR7x:=Qh (show ∀ z,((((((v1x.setCell ⟨Bx,0,none⟩ (.int .i64 k3)).setCell ⟨Bx,1,none⟩ (.string nb3)).setCell ⟨Bx,2,none⟩ (.string mb3)).setCell ⟨Bx,3,none⟩ (.int .u64 b3)).setCell ⟨Bx,4,none⟩ (.int .i64 v3)).setCell ⟨Bx,5,none⟩ (.slice A3 L3 c3))=z→RT w N (Tm.mk 5 sRule m1 b1 v1 [Tm.mk 5 sComma m2 b2 v2 [(Tm.mk k4 n4 m4 b4 v4 ts4),(Tm.mk k5 n5 m5 b5 v5 ts5)],(Tm.mk k3 n3 m3 b3 v3 ts3)]) (.slice (some ⟨g,o,none⟩) 2 c1) N9 H Bx (Tm.mk k4 n4 m4 b4 v4 ts4) (.slice A4 L4 c4) (Tm.mk k3 n3 m3 b3 v3 ts3) (.slice A3 L3 c3) z∧∀ b,b<w.heap.size→z.heap[b]?=v1x.heap[b]? from fun z e=>by rw [←e];exact ⟨hset,fun b hb=>(HR6.out.1.bb.set6 (k:=k3) (v:=v3) (b:=b3) ts3 (.slice A3 L3 c3) HL3.out.1 HL3.out.2.1).2.block b (Ql hb HR6.out.1.rs.bel.size) (fun e=>by injection e with e;have:=HR6.out.1.lb;have:=HR6.out.1.rs.lt;omega)⟩)
     clear hset
     refine hK.out _ _ (fun h=>absurd h (by simp)) ?_
     generalize ((((((v1x.setCell ⟨Bx,0,none⟩ (.int .i64 k3)).setCell ⟨Bx,1,none⟩ (.string nb3)).setCell ⟨Bx,2,none⟩ (.string mb3)).setCell ⟨Bx,3,none⟩ (.int .u64 b3)).setCell ⟨Bx,4,none⟩ (.int .i64 v3)).setCell ⟨Bx,5,none⟩ (.slice A3 L3 c3))=v2x at *
     have HR7:=Qh (HR7x.out _ rfl).1
     have hgk:=Qh ((HR7x.out _ rfl).2)
     clear HR7x
     refine wpAnyW_done (by kernel_rfl) ?_ _
     clear hgk HSS HC4
     obtain ⟨z0,z1,z2,z3,z4,z5⟩:=HR7.out.bh.cells HL4.out.1 HL4.out.2.1
     go_upto_region 21 with fail
     by_cases hk1:k4=1
     ·subst hk1
      have hRE:=HRT.out
      rw [tail_inst rfl] at hRE
      subst hRE
      go_wp2_with (first
       | (go_at_call 33;(with_reducible refine (atom_any _ _).mono ?_);rintro e v1w ⟨rfl,hb1⟩;have HBA:=Qh hb1;have HT3:=Qh (show TAt v1w v1w.heap.size (atomT sInst) (.slice none 0 0) from atom_at _ _ (by decide));clear hb1)
       | (go_at_call 31;(with_reducible refine (throw_lit rfl rfl HT3.out).mono ?_);rintro e v4w ⟨⟨bb,rfl,hball⟩,hb4⟩;have HSD:=Qh (HR7.out.rs.below (Qt HBA.out hb4));have HBL:=Qh hball;clear hball hb4))
      have hball:=HBL.out
      change Leaves _ _ _ _ _ (.panicking _) _
      refine ruleDoor ⟨HSD.out.r,HSD.out.e,HSD.out.bel⟩ hball (by simp [go_sem]) (fun z hz=>?_) (fun z h=>by first | exact .inr ⟨by first | trivial | rfl,h⟩ | exact h)
      obtain ⟨r0,r1,r2,r3,r4,r5,cE2⟩:=hz
      simp [results,Tryd.results9,go_sem,r0,r1,r2,r3,r4,r5,cE2,zeroTV]
     ·by_cases hk34:k4=3∨k4=4
      ·have HMK:=Qh (tail_call (pu:=true) (n:=N9) (h:=(Tm.mk k4 n4 m4 b4 v4 ts4)) (p:=(Tm.mk k5 n5 m5 b5 v5 ts5)) (y:=(Tm.mk k3 n3 m3 b3 v3 ts3)) hk1 hk34)
       obtain hk3b | ⟨hk3b,hk4b⟩:(k4==3)=true∨((k4==3)=false∧(k4==4)=true):=by
        rcases hk34 with h | h
        ·exact .inl (by simpa using h)
        ·exact .inr ⟨by simp;omega,by simpa using h⟩
       all_goals (
        have hk1b:(k4==1)=false:=by simpa using hk1
        clear hk1 hk34
        go_upto_region 26 with fail
        have hRE:=HRT.out
        rw [HMK.out] at hRE
        subst hRE
        have HSS:=Qh (show ∀ z,Below v2x.heap.size v2x z→((Q6 z H k4 nb4 mb4 b4 v4 (.slice A4 L4 c4))) from fun z hb=>((HR7.out.bh).below hb).cells HL4.out.1 HL4.out.2.1)
        refine wp_region_wait (fun z=>((Q6 z H k4 nb4 mb4 b4 v4 (.slice A4 L4 c4)))) 2 (by kernel_rfl) ?_
        change wpAnyW _ _ _ _ _ _ _ _ _ v2x.drew
        have KK:=Qh (below_drew' v2x)
        generalize v2x.drew=v0 at *
        refine wpAnyW_take 2 (i:=1) (v:=.agg (Q5 k4 nb4 mb4 b4 v4 (.slice A4 L4 c4))) rfl (by kernel_rfl) (by kernel_rfl) (by kernel_rfl) (by kernel_rfl) (fun c a w h=>hqRule (by omega) c a w h) (Or.inl ⟨by rfl,?_⟩) (HSS.out _ KK.out) ?_
        ·intro w5 hSw
         obtain ⟨p0,p1,p2,p3,p4,p5⟩:=hSw
         go_simp
        refine w1 0 fun K hK=>?_
        go_simp
        (with_reducible refine (atom_any _ _).mono ?_)
        rintro e v1w ⟨rfl,hb1⟩
        replace KK:=Qh (Qt KK.out hb1)
        clear hb1
        refine hK.out _ _ (fun _=>HSS.out _ KK.out) ?_
        have hbA:Below v1w.heap.size v1w (v1w.alloc (.cells #[.int .i64 2,.string ⟨#[99,97,108,108,97,98,108,101]⟩,.string ⟨#[]⟩,.int .u64 0,.int .i64 0,.slice none 0 0,.int .i64 k4,.string nb4,.string mb4,.int .u64 b4,.int .i64 v4,.slice A4 L4 c4] 25)):=Qb
        have hbu:=built (w:=v1w) (P:=fun b=>b<v1w.heap.size) (s:=sType) (n:=2) (cs:=#[.int .i64 2,.string ⟨#[99,97,108,108,97,98,108,101]⟩,.string ⟨#[]⟩,.int .u64 0,.int .i64 0,.slice none 0 0,.int .i64 k4,.string nb4,.string mb4,.int .u64 b4,.int .i64 v4,.slice A4 L4 c4]) (ps:=[(atomT sCallable,Value.slice none 0 0),((Tm.mk k4 n4 m4 b4 v4 ts4),Value.slice A4 L4 c4)]) (by rw [←HL4.out.1,←HL4.out.2.1];rfl) rfl (mem2 (atom_at _ _ (by decide)) (TAt.any (HR7.out.kh) (fun b hb=>Ql hb HR7.out.rs.bel.size) KK.out)) (fun b hb=>hb) (by unfold maxArgs;omega) (by decide)
        have HBA:=Qh (Qa hbA (Qa hbu (show (v1w.alloc (.cells #[.int .i64 2,.string ⟨#[99,97,108,108,97,98,108,101]⟩,.string ⟨#[]⟩,.int .u64 0,.int .i64 0,.slice none 0 0,.int .i64 k4,.string nb4,.string mb4,.int .u64 b4,.int .i64 v4,.slice A4 L4 c4] 25)).heap.size=v1w.heap.size+1 by simp)))
        clear hbA hbu
        refine w1 2 fun K hK=>?_
        go_simp
        refine hK.out _ _ (fun h=>absurd h (by simp)) ?_
        generalize v1w.alloc (.cells #[.int .i64 2,.string ⟨#[99,97,108,108,97,98,108,101]⟩,.string ⟨#[]⟩,.int .u64 0,.int .i64 0,.slice none 0 0,.int .i64 k4,.string nb4,.string mb4,.int .u64 b4,.int .i64 v4,.slice A4 L4 c4] 25)=v2w at *
        refine w1 3 fun K hK=>?_
        go_simp
        (with_reducible refine (of_any _ _ _ _ _).mono ?_)
        rintro e v3w ⟨rfl,hb3⟩
        have HT3:=Qh (TAt.any HBA.out.2.1 (fun b hb=>by have:=HBA.out.2.2;rcases hb with hb | hb <;> omega) hb3)
        replace KK:=Qh ((Qt KK.out HBA.out.1).trans (hb3.mono (Nat.le_trans KK.out.size HBA.out.1.size)))
        clear hb3
        refine hK.out _ _ (fun h=>absurd h (by simp)) ?_
        refine w1 4 fun K hK=>?_
        go_simp
        (with_reducible refine (throw_lit rfl rfl HT3.out).mono ?_)
        rintro e v4w ⟨⟨bb,rfl,hball⟩,hb4⟩
        have HSD:=HR7.out.rs.below (Qt KK.out hb4)
        change Leaves _ _ _ _ _ (.panicking _) _
        refine ruleDoor ⟨HSD.r,HSD.e,HSD.bel⟩ hball (by simp [go_sem]) (fun z hz=>?_) (fun z h=>by first | exact .inr ⟨by first | trivial | rfl,h⟩ | exact h)
        obtain ⟨r0,r1,r2,r3,r4,r5,cE2⟩:=hz
        simp [results,Tryd.results9,go_sem,r0,r1,r2,r3,r4,r5,cE2,zeroTV])
      ·have HK:=Qh (Qa hk1 hk34)
       have hk3:¬k4=3:=fun h=>hk34 (.inl h)
       have hk4:¬k4=4:=fun h=>hk34 (.inr h)
       clear hk34
       have HCZ:=Qh (show ∀ z,TBox z w.heap.size (Tm.mk 5 sRule m1 b1 v1 [Tm.mk 5 sComma m2 b2 v2 [(Tm.mk k4 n4 m4 b4 v4 ts4),(Tm.mk k5 n5 m5 b5 v5 ts5)],(Tm.mk k3 n3 m3 b3 v3 ts3)]) (.slice (some ⟨g,o,none⟩) 2 c1)→Below w.heap.size w z→(z.cell? ⟨w.heap.size,5,none⟩=some (.slice (some ⟨g,o,none⟩) 2 c1)∧z.cell? ⟨g,o+5,none⟩=some (.slice (some ⟨g2,o2,none⟩) 2 c2)∧(z.cell? ⟨g2,o2+6,none⟩=some (.int .i64 k5)∧z.cell? ⟨g2,o2+7,none⟩=some (.string nb5)∧z.cell? ⟨g2,o2+8,none⟩=some (.string mb5)∧z.cell? ⟨g2,o2+9,none⟩=some (.int .u64 b5)∧z.cell? ⟨g2,o2+10,none⟩=some (.int .i64 v5)∧z.cell? ⟨g2,o2+11,none⟩=some (.slice A5 L5 c5))) from fun z h1 hb=>⟨(h1.cells HM.out.1 HM.out.2).2.2.2.2.2,(Qc (a:=⟨g,o+5,none⟩) (HGG.out z hb)).trans HE2.out.2.2.2.2.2.2,⟨(Qc (a:=⟨g2,o2+6,none⟩) ((hb.block g2 HPg2.out).trans (HR4.out.rs.bel.block g2 HPg2.out).symm)).trans HE5.out.2.1,(Qc (a:=⟨g2,o2+7,none⟩) ((hb.block g2 HPg2.out).trans (HR4.out.rs.bel.block g2 HPg2.out).symm)).trans HE5.out.2.2.1,(Qc (a:=⟨g2,o2+8,none⟩) ((hb.block g2 HPg2.out).trans (HR4.out.rs.bel.block g2 HPg2.out).symm)).trans HE5.out.2.2.2.1,(Qc (a:=⟨g2,o2+9,none⟩) ((hb.block g2 HPg2.out).trans (HR4.out.rs.bel.block g2 HPg2.out).symm)).trans HE5.out.2.2.2.2.1,(Qc (a:=⟨g2,o2+10,none⟩) ((hb.block g2 HPg2.out).trans (HR4.out.rs.bel.block g2 HPg2.out).symm)).trans HE5.out.2.2.2.2.2.1,(Qc (a:=⟨g2,o2+11,none⟩) ((hb.block g2 HPg2.out).trans (HR4.out.rs.bel.block g2 HPg2.out).symm)).trans HE5.out.2.2.2.2.2.2⟩⟩)
       obtain ⟨s5,sg,⟨p0,p1,p2,p3,p4,p5⟩⟩:=HCZ.out _ HR7.out.rs.t1 HR7.out.rs.bel
       obtain ⟨BN,hBN⟩:∃ B,isNil (elems (Tm.mk k5 n5 m5 b5 v5 ts5)).2=B:=⟨_,rfl⟩
       have HCp:=Qh (show checkP (Tm.mk k5 n5 m5 b5 v5 ts5)=0 from check_arg (check_arg HCk.out (List.mem_cons_self:(Tm.mk 5 sComma m2 b2 v2 [(Tm.mk k4 n4 m4 b4 v4 ts4),(Tm.mk k5 n5 m5 b5 v5 ts5)]) ∈ [_,_])) (by show _ ∈ [_,_];simp))
       have HLi:=Qh (list_any (w:=v2x) (w0:=w0) (t:=(Tm.mk k5 n5 m5 b5 v5 ts5)) (sl:=.slice A5 L5 c5) (TAtP.keep _ HE5.out.1 (fun b hb=>⟨Ql hb HR7.out.rs.bel.size,(HR7.out.rs.bel.block b hb).trans (HR4.out.rs.bel.block b hb).symm⟩)) (HU.out.below HR7.out.rs.bel) HCp.out)
       unfold ListPost at HLi
       rw [valT_mk HL5.out.1 HL5.out.2.1,hBN] at HLi
       have HBN:=Qh hBN
       clear hBN
       go_upto_region 29 with (go_at_call 34;(with_reducible refine HLi.out.mono ?_);rintro e ul ⟨A8,n8,c8,ps,rfl,hrow,hps,hn8,hb⟩;have HR8:=Qh (HR7.out.below hb);have HLs:=Qh (Qa hrow (Qa hps hn8));clear hrow hps hn8 hb)
       clear s5 sg p0 p1 p2 p3 p4 p5 HLi
       cases BN with
       | false=>
        go_upto_region 30 with fail
        have hRE:=HRT.out
        rw [tail_list (n:=N9) (h:=(Tm.mk k4 n4 m4 b4 v4 ts4)) (p:=(Tm.mk k5 n5 m5 b5 v5 ts5)) (y:=(Tm.mk k3 n3 m3 b3 v3 ts3)) HK.out.1 HK.out.2 HBN.out] at hRE
        subst hRE
        have HSS:=Qh (show ∀ z,Below ul.heap.size ul z→(z.cell? ⟨w.heap.size,5,none⟩=some (.slice (some ⟨g,o,none⟩) 2 c1)∧z.cell? ⟨g,o+5,none⟩=some (.slice (some ⟨g2,o2,none⟩) 2 c2)∧(z.cell? ⟨g2,o2+6,none⟩=some (.int .i64 k5)∧z.cell? ⟨g2,o2+7,none⟩=some (.string nb5)∧z.cell? ⟨g2,o2+8,none⟩=some (.string mb5)∧z.cell? ⟨g2,o2+9,none⟩=some (.int .u64 b5)∧z.cell? ⟨g2,o2+10,none⟩=some (.int .i64 v5)∧z.cell? ⟨g2,o2+11,none⟩=some (.slice A5 L5 c5))) from fun z hb=>HCZ.out z (HR8.out.below hb).rs.t1 (HR8.out.below hb).rs.bel)
        refine wp_region_wait (fun z=>True) 10 (by kernel_rfl) ?_
        change wpAnyW _ _ _ _ _ _ _ _ _ ul.drew
        have KK:=Qh (below_drew' ul)
        generalize ul.drew=v0 at *
        apply merge1 (F:=fun u=>Hid (Below ul.heap.size ul u))
        ·intro key
         refine wpAnyW_two (i:=0) (i2:=1) (by kernel_rfl) rfl rfl (fun K hK=>?_) (fun K hK=>?_)
         ·go_simp
          (with_reducible refine (atom_any _ _).mono ?_)
          rintro e v1w ⟨rfl,hb1⟩
          replace KK:=Qh (Qt KK.out hb1)
          clear hb1
          refine hK.out _ _ (fun _=>trivial) ?_
          refine w1 1 fun K hK=>?_
          obtain ⟨x5,y5,⟨p0,p1,p2,p3,p4,p5⟩⟩:=HSS.out _ KK.out
          go_simp
          clear x5 y5 p0 p1 p2 p3 p4 p5
          refine hK.out _ _ (fun _=>trivial) ?_
          refine w1 2 fun K hK=>?_
          obtain ⟨x5,y5,⟨p0,p1,p2,p3,p4,p5⟩⟩:=HSS.out _ KK.out
          go_simp
          clear x5 y5 p0 p1 p2 p3 p4 p5
          refine hK.out _ _ (fun _=>trivial) ?_
          refine w1 3 fun K hK=>?_
          obtain ⟨x5,y5,⟨p0,p1,p2,p3,p4,p5⟩⟩:=HSS.out _ KK.out
          go_simp
          clear x5 y5 p0 p1 p2 p3 p4 p5
          refine hK.out _ _ (fun _=>trivial) ?_
          refine w1 4 fun K hK=>?_
          obtain ⟨x5,y5,⟨p0,p1,p2,p3,p4,p5⟩⟩:=HSS.out _ KK.out
          go_simp
          clear x5 y5 p0 p1 p2 p3 p4 p5
          refine hK.out _ _ (fun _=>trivial) ?_
          refine w1 5 fun K hK=>?_
          obtain ⟨x5,y5,⟨p0,p1,p2,p3,p4,p5⟩⟩:=HSS.out _ KK.out
          go_simp
          clear x5 y5 p0 p1 p2 p3 p4 p5
          refine hK.out _ _ (fun _=>trivial) ?_
          refine w1 6 fun K hK=>?_
          obtain ⟨x5,y5,⟨p0,p1,p2,p3,p4,p5⟩⟩:=HSS.out _ KK.out
          go_simp
          clear x5 y5 p0 p1 p2 p3 p4 p5
          refine hK.out _ _ (fun _=>trivial) ?_
          refine w1 7 fun K hK=>?_
          obtain ⟨x5,y5,⟨p0,p1,p2,p3,p4,p5⟩⟩:=HSS.out _ KK.out
          go_simp
          clear x5 y5 p0 p1 p2 p3 p4 p5
          refine hK.out _ _ (fun _=>trivial) ?_
          exact key _ KK
         ·obtain ⟨x5,y5,⟨p0,p1,p2,p3,p4,p5⟩⟩:=HSS.out _ KK.out
          go_simp
          clear x5 y5 p0 p1 p2 p3 p4 p5
          refine hK.out _ _ (fun _=>trivial) ?_
          refine wpAnyW_two (i:=0) (i2:=2) (by kernel_rfl) rfl rfl (fun K hK=>?_) (fun K hK=>?_)
          ·go_simp
           (with_reducible refine (atom_any _ _).mono ?_)
           rintro e v1w ⟨rfl,hb1⟩
           replace KK:=Qh (Qt KK.out hb1)
           clear hb1
           refine hK.out _ _ (fun _=>trivial) ?_
           refine w1 2 fun K hK=>?_
           obtain ⟨x5,y5,⟨p0,p1,p2,p3,p4,p5⟩⟩:=HSS.out _ KK.out
           go_simp
           clear x5 y5 p0 p1 p2 p3 p4 p5
           refine hK.out _ _ (fun _=>trivial) ?_
           refine w1 3 fun K hK=>?_
           obtain ⟨x5,y5,⟨p0,p1,p2,p3,p4,p5⟩⟩:=HSS.out _ KK.out
           go_simp
           clear x5 y5 p0 p1 p2 p3 p4 p5
           refine hK.out _ _ (fun _=>trivial) ?_
           refine w1 4 fun K hK=>?_
           obtain ⟨x5,y5,⟨p0,p1,p2,p3,p4,p5⟩⟩:=HSS.out _ KK.out
           go_simp
           clear x5 y5 p0 p1 p2 p3 p4 p5
           refine hK.out _ _ (fun _=>trivial) ?_
           refine w1 5 fun K hK=>?_
           obtain ⟨x5,y5,⟨p0,p1,p2,p3,p4,p5⟩⟩:=HSS.out _ KK.out
           go_simp
           clear x5 y5 p0 p1 p2 p3 p4 p5
           refine hK.out _ _ (fun _=>trivial) ?_
           refine w1 6 fun K hK=>?_
           obtain ⟨x5,y5,⟨p0,p1,p2,p3,p4,p5⟩⟩:=HSS.out _ KK.out
           go_simp
           clear x5 y5 p0 p1 p2 p3 p4 p5
           refine hK.out _ _ (fun _=>trivial) ?_
           refine w1 7 fun K hK=>?_
           obtain ⟨x5,y5,⟨p0,p1,p2,p3,p4,p5⟩⟩:=HSS.out _ KK.out
           go_simp
           clear x5 y5 p0 p1 p2 p3 p4 p5
           refine hK.out _ _ (fun _=>trivial) ?_
           exact key _ KK
          ·obtain ⟨x5,y5,⟨p0,p1,p2,p3,p4,p5⟩⟩:=HSS.out _ KK.out
           go_simp
           clear x5 y5 p0 p1 p2 p3 p4 p5
           refine hK.out _ _ (fun _=>trivial) ?_
           refine wpAnyW_two (i:=0) (i2:=3) (by kernel_rfl) rfl rfl (fun K hK=>?_) (fun K hK=>?_)
           ·go_simp
            (with_reducible refine (atom_any _ _).mono ?_)
            rintro e v1w ⟨rfl,hb1⟩
            replace KK:=Qh (Qt KK.out hb1)
            clear hb1
            refine hK.out _ _ (fun _=>trivial) ?_
            refine w1 3 fun K hK=>?_
            obtain ⟨x5,y5,⟨p0,p1,p2,p3,p4,p5⟩⟩:=HSS.out _ KK.out
            go_simp
            clear x5 y5 p0 p1 p2 p3 p4 p5
            refine hK.out _ _ (fun _=>trivial) ?_
            refine w1 4 fun K hK=>?_
            obtain ⟨x5,y5,⟨p0,p1,p2,p3,p4,p5⟩⟩:=HSS.out _ KK.out
            go_simp
            clear x5 y5 p0 p1 p2 p3 p4 p5
            refine hK.out _ _ (fun _=>trivial) ?_
            refine w1 5 fun K hK=>?_
            obtain ⟨x5,y5,⟨p0,p1,p2,p3,p4,p5⟩⟩:=HSS.out _ KK.out
            go_simp
            clear x5 y5 p0 p1 p2 p3 p4 p5
            refine hK.out _ _ (fun _=>trivial) ?_
            refine w1 6 fun K hK=>?_
            obtain ⟨x5,y5,⟨p0,p1,p2,p3,p4,p5⟩⟩:=HSS.out _ KK.out
            go_simp
            clear x5 y5 p0 p1 p2 p3 p4 p5
            refine hK.out _ _ (fun _=>trivial) ?_
            refine w1 7 fun K hK=>?_
            obtain ⟨x5,y5,⟨p0,p1,p2,p3,p4,p5⟩⟩:=HSS.out _ KK.out
            go_simp
            clear x5 y5 p0 p1 p2 p3 p4 p5
            refine hK.out _ _ (fun _=>trivial) ?_
            exact key _ KK
           ·obtain ⟨x5,y5,⟨p0,p1,p2,p3,p4,p5⟩⟩:=HSS.out _ KK.out
            go_simp
            clear x5 y5 p0 p1 p2 p3 p4 p5
            refine hK.out _ _ (fun _=>trivial) ?_
            refine wpAnyW_two (i:=0) (i2:=4) (by kernel_rfl) rfl rfl (fun K hK=>?_) (fun K hK=>?_)
            ·go_simp
             (with_reducible refine (atom_any _ _).mono ?_)
             rintro e v1w ⟨rfl,hb1⟩
             replace KK:=Qh (Qt KK.out hb1)
             clear hb1
             refine hK.out _ _ (fun _=>trivial) ?_
             refine w1 4 fun K hK=>?_
             obtain ⟨x5,y5,⟨p0,p1,p2,p3,p4,p5⟩⟩:=HSS.out _ KK.out
             go_simp
             clear x5 y5 p0 p1 p2 p3 p4 p5
             refine hK.out _ _ (fun _=>trivial) ?_
             refine w1 5 fun K hK=>?_
             obtain ⟨x5,y5,⟨p0,p1,p2,p3,p4,p5⟩⟩:=HSS.out _ KK.out
             go_simp
             clear x5 y5 p0 p1 p2 p3 p4 p5
             refine hK.out _ _ (fun _=>trivial) ?_
             refine w1 6 fun K hK=>?_
             obtain ⟨x5,y5,⟨p0,p1,p2,p3,p4,p5⟩⟩:=HSS.out _ KK.out
             go_simp
             clear x5 y5 p0 p1 p2 p3 p4 p5
             refine hK.out _ _ (fun _=>trivial) ?_
             refine w1 7 fun K hK=>?_
             obtain ⟨x5,y5,⟨p0,p1,p2,p3,p4,p5⟩⟩:=HSS.out _ KK.out
             go_simp
             clear x5 y5 p0 p1 p2 p3 p4 p5
             refine hK.out _ _ (fun _=>trivial) ?_
             exact key _ KK
            ·obtain ⟨x5,y5,⟨p0,p1,p2,p3,p4,p5⟩⟩:=HSS.out _ KK.out
             go_simp
             clear x5 y5 p0 p1 p2 p3 p4 p5
             refine hK.out _ _ (fun _=>trivial) ?_
             refine wpAnyW_two (i:=0) (i2:=5) (by kernel_rfl) rfl rfl (fun K hK=>?_) (fun K hK=>?_)
             ·go_simp
              (with_reducible refine (atom_any _ _).mono ?_)
              rintro e v1w ⟨rfl,hb1⟩
              replace KK:=Qh (Qt KK.out hb1)
              clear hb1
              refine hK.out _ _ (fun _=>trivial) ?_
              refine w1 5 fun K hK=>?_
              obtain ⟨x5,y5,⟨p0,p1,p2,p3,p4,p5⟩⟩:=HSS.out _ KK.out
              go_simp
              clear x5 y5 p0 p1 p2 p3 p4 p5
              refine hK.out _ _ (fun _=>trivial) ?_
              refine w1 6 fun K hK=>?_
              obtain ⟨x5,y5,⟨p0,p1,p2,p3,p4,p5⟩⟩:=HSS.out _ KK.out
              go_simp
              clear x5 y5 p0 p1 p2 p3 p4 p5
              refine hK.out _ _ (fun _=>trivial) ?_
              refine w1 7 fun K hK=>?_
              obtain ⟨x5,y5,⟨p0,p1,p2,p3,p4,p5⟩⟩:=HSS.out _ KK.out
              go_simp
              clear x5 y5 p0 p1 p2 p3 p4 p5
              refine hK.out _ _ (fun _=>trivial) ?_
              exact key _ KK
             ·obtain ⟨x5,y5,⟨p0,p1,p2,p3,p4,p5⟩⟩:=HSS.out _ KK.out
              go_simp
              clear x5 y5 p0 p1 p2 p3 p4 p5
              refine hK.out _ _ (fun _=>trivial) ?_
              refine wpAnyW_two (i:=0) (i2:=6) (by kernel_rfl) rfl rfl (fun K hK=>?_) (fun K hK=>?_)
              ·go_simp
               (with_reducible refine (atom_any _ _).mono ?_)
               rintro e v1w ⟨rfl,hb1⟩
               replace KK:=Qh (Qt KK.out hb1)
               clear hb1
               refine hK.out _ _ (fun _=>trivial) ?_
               refine w1 6 fun K hK=>?_
               obtain ⟨x5,y5,⟨p0,p1,p2,p3,p4,p5⟩⟩:=HSS.out _ KK.out
               go_simp
               clear x5 y5 p0 p1 p2 p3 p4 p5
               refine hK.out _ _ (fun _=>trivial) ?_
               refine w1 7 fun K hK=>?_
               obtain ⟨x5,y5,⟨p0,p1,p2,p3,p4,p5⟩⟩:=HSS.out _ KK.out
               go_simp
               clear x5 y5 p0 p1 p2 p3 p4 p5
               refine hK.out _ _ (fun _=>trivial) ?_
               exact key _ KK
              ·obtain ⟨x5,y5,⟨p0,p1,p2,p3,p4,p5⟩⟩:=HSS.out _ KK.out
               go_simp
               clear x5 y5 p0 p1 p2 p3 p4 p5
               refine hK.out _ _ (fun _=>trivial) ?_
               refine wpAnyW_two (i:=0) (i2:=7) (by kernel_rfl) rfl rfl (fun K hK=>?_) (fun K hK=>?_)
               ·go_simp
                (with_reducible refine (atom_any _ _).mono ?_)
                rintro e v1w ⟨rfl,hb1⟩
                replace KK:=Qh (Qt KK.out hb1)
                clear hb1
                refine hK.out _ _ (fun _=>trivial) ?_
                refine w1 7 fun K hK=>?_
                obtain ⟨x5,y5,⟨p0,p1,p2,p3,p4,p5⟩⟩:=HSS.out _ KK.out
                go_simp
                clear x5 y5 p0 p1 p2 p3 p4 p5
                refine hK.out _ _ (fun _=>trivial) ?_
                exact key _ KK
               ·obtain ⟨x5,y5,⟨p0,p1,p2,p3,p4,p5⟩⟩:=HSS.out _ KK.out
                go_simp
                clear x5 y5 p0 p1 p2 p3 p4 p5
                refine hK.out _ _ (fun _=>trivial) ?_
                refine w1 0 fun K hK=>?_
                go_simp
                (with_reducible refine (atom_any _ _).mono ?_)
                rintro e v1w ⟨rfl,hb1⟩
                replace KK:=Qh (Qt KK.out hb1)
                clear hb1
                refine hK.out _ _ (fun _=>trivial) ?_
                exact key _ KK
        intro v1w HKK
        clear KK
        have KK:=Qh HKK.out
        clear HKK
        have hbA:Below v1w.heap.size v1w (v1w.alloc (.cells #[.int .i64 2,.string ⟨#[108,105,115,116]⟩,.string ⟨#[]⟩,.int .u64 0,.int .i64 0,.slice none 0 0,.int .i64 k5,.string nb5,.string mb5,.int .u64 b5,.int .i64 v5,.slice A5 L5 c5] 25)):=Qb
        have hbu:=built (w:=v1w) (P:=fun b=>b<v1w.heap.size) (s:=sType) (n:=2) (cs:=#[.int .i64 2,.string ⟨#[108,105,115,116]⟩,.string ⟨#[]⟩,.int .u64 0,.int .i64 0,.slice none 0 0,.int .i64 k5,.string nb5,.string mb5,.int .u64 b5,.int .i64 v5,.slice A5 L5 c5]) (ps:=[(atomT sList,Value.slice none 0 0),((Tm.mk k5 n5 m5 b5 v5 ts5),Value.slice A5 L5 c5)]) (by rw [←HL5.out.1,←HL5.out.2.1];rfl) rfl (mem2 (atom_at _ _ (by decide)) (TAt.any ((TAtP.keep _ HE5.out.1 (fun b hb=>⟨hb,(HR8.out.rs.bel.block b hb).trans (HR4.out.rs.bel.block b hb).symm⟩))) (fun b hb=>Ql hb HR8.out.rs.bel.size) KK.out)) (fun b hb=>hb) (by unfold maxArgs;omega) (by decide)
        have HBA:=Qh (Qa hbA (Qa hbu (show (v1w.alloc (.cells #[.int .i64 2,.string ⟨#[108,105,115,116]⟩,.string ⟨#[]⟩,.int .u64 0,.int .i64 0,.slice none 0 0,.int .i64 k5,.string nb5,.string mb5,.int .u64 b5,.int .i64 v5,.slice A5 L5 c5] 25)).heap.size=v1w.heap.size+1 by simp)))
        clear hbA hbu
        refine w1 8 fun K hK=>?_
        go_simp
        refine hK.out _ _ (fun _=>trivial) ?_
        generalize v1w.alloc (.cells #[.int .i64 2,.string ⟨#[108,105,115,116]⟩,.string ⟨#[]⟩,.int .u64 0,.int .i64 0,.slice none 0 0,.int .i64 k5,.string nb5,.string mb5,.int .u64 b5,.int .i64 v5,.slice A5 L5 c5] 25)=v2w at *
        refine w1 9 fun K hK=>?_
        go_simp
        (with_reducible refine (of_any _ _ _ _ _).mono ?_)
        rintro e v3w ⟨rfl,hb3⟩
        have HT3:=Qh (TAt.any HBA.out.2.1 (fun b hb=>by have:=HBA.out.2.2;rcases hb with hb | hb <;> omega) hb3)
        replace KK:=Qh ((Qt KK.out HBA.out.1).trans (hb3.mono (Nat.le_trans KK.out.size HBA.out.1.size)))
        clear hb3
        refine hK.out _ _ (fun _=>trivial) ?_
        refine w1 10 fun K hK=>?_
        go_simp
        (with_reducible refine (throw_lit rfl rfl HT3.out).mono ?_)
        rintro e v4w ⟨⟨bb,rfl,hball⟩,hb4⟩
        have HSD:=HR8.out.rs.below (Qt KK.out hb4)
        change Leaves _ _ _ _ _ (.panicking _) _
        refine ruleDoor ⟨HSD.r,HSD.e,HSD.bel⟩ hball (by simp [go_sem]) (fun z hz=>?_) (fun z h=>by first | exact .inr ⟨by first | trivial | rfl,h⟩ | exact h)
        obtain ⟨r0,r1,r2,r3,r4,r5,cE2⟩:=hz
        simp [results,Tryd.results9,go_sem,r0,r1,r2,r3,r4,r5,cE2,zeroTV]
       | true=>
        have HFm:=Qh (from_any HR8.out.rs.n)
        rw [show freshV ul.heap.size = .func (.func 60) #[] #[.pointer (some ⟨ul.heap.size,0,none⟩)] from rfl] at HFm
        go_upto_region 34 with (first
         | (go_at_call 35;(with_reducible refine HFm.out.mono ?_);rintro e u3 ⟨rfl,hn,hb⟩;have HN3:=Qh hn;have HR5:=Qh (HR8.out.below hb);have HGF:=Qh (grown_below (r:=some N) hb);clear hn hb)
         | (go_at_call 60;(with_reducible refine (fresh_any HN3.out ⟨by omega,by omega⟩).mono ?_);rintro e u4 ⟨rfl,hn,hg⟩;replace HR5:=Qh (HR5.out.go hg hn.n);replace HGF:=Qh (grown_trans HGF.out hg);replace HN3:=Qh hn;clear hn hg))
        have HV5:=Qh (show ∀ z,((u4.alloc (.cells (Qv N9) 25)).alloc (.cells (Qv (N9+1)) 25))=z→(RT w N (Tm.mk 5 sRule m1 b1 v1 [Tm.mk 5 sComma m2 b2 v2 [(Tm.mk k4 n4 m4 b4 v4 ts4),(Tm.mk k5 n5 m5 b5 v5 ts5)],(Tm.mk k3 n3 m3 b3 v3 ts3)]) (.slice (some ⟨g,o,none⟩) 2 c1) (N9+1+1) H Bx (Tm.mk k4 n4 m4 b4 v4 ts4) (.slice A4 L4 c4) (Tm.mk k3 n3 m3 b3 v3 ts3) (.slice A3 L3 c3) z∧NumAt z ul.heap.size N (N9+1+1)∧TBox z u4.heap.size (varT N9) (.slice none 0 0)∧TBox z (u4.heap.size+1) (varT (N9+1)) (.slice none 0 0)∧N<u4.heap.size) from fun z e=>by
         rw [←e]
         have hb1:Below u4.heap.size u4 (u4.alloc (.cells (Qv N9) 25)):=Qb
         have hs:(u4.alloc (.cells (Qv N9) 25)).heap.size=u4.heap.size+1:=by simp
         have hb2:Below (u4.alloc (.cells (Qv N9) 25)).heap.size (u4.alloc (.cells (Qv N9) 25)) ((u4.alloc (.cells (Qv N9) 25)).alloc (.cells (Qv (N9+1)) 25)):=Qb
         have hb:=hb1.trans (hb2.mono (by omega))
         have hF1:TBox (u4.alloc (.cells (Qv N9) 25)) u4.heap.size (varT N9) (.slice none 0 0):=heap_alloc_new u4 _
         have hF2:TBox ((u4.alloc (.cells (Qv N9) 25)).alloc (.cells (Qv (N9+1)) 25)) (u4.alloc (.cells (Qv N9) 25)).heap.size (varT (N9+1)) (.slice none 0 0):=heap_alloc_new _ _
         rw [hs] at hF2
         exact ⟨HR5.out.below hb,HN3.out.below hb,hF1.below hb2,hF2,HR5.out.rs.nlt⟩)
        have HGG5:=Qh (show ∀ z,((u4.alloc (.cells (Qv N9) 25)).alloc (.cells (Qv (N9+1)) 25))=z→ul.grownBy z (some N) from fun z e=>by
         rw [←e]
         have hb1:Below u4.heap.size u4 (u4.alloc (.cells (Qv N9) 25)):=Qb
         have hb2:Below (u4.alloc (.cells (Qv N9) 25)).heap.size (u4.alloc (.cells (Qv N9) 25)) ((u4.alloc (.cells (Qv N9) 25)).alloc (.cells (Qv (N9+1)) 25)):=Qb
         exact grown_trans HGF.out (grown_trans (grown_below hb1) (grown_below hb2)))
        clear HR5 HN3 HGF
        generalize ((u4.alloc (.cells (Qv N9) 25)).alloc (.cells (Qv (N9+1)) 25))=u5 at *
        have HGF:=Qh (HGG5.out _ rfl)
        clear HGG5
        replace HV5:=Qh (HV5.out _ rfl)
        generalize u4.heap.size=F at *
        obtain ⟨Q,hQ⟩:∃ Q,ul.heap.size=Q:=⟨_,rfl⟩
        rw [hQ] at HV5 ⊢
        clear hQ
        have HP5:=Qh (show ∀ b,b<w.heap.size→b<u5.heap.size from fun b hb=>Ql hb HV5.out.1.rs.bel.size)
        obtain ⟨x0,x1,x2,x3,x4,x5⟩:=HV5.out.1.bh.cells HL4.out.1 HL4.out.2.1
        obtain ⟨q0,q1,q2,q3,q4,q5⟩:=HV5.out.2.2.1.cells (nb:=⟨#[]⟩) (mb:=⟨#[]⟩) rfl rfl
        obtain ⟨r0,r1,r2,r3,r4,r5⟩:=HV5.out.2.2.2.1.cells (nb:=⟨#[]⟩) (mb:=⟨#[]⟩) rfl rfl
        have hvr1 : -9223372036854775808≤N9∧N9≤9223372036854775807:=by omega
        have hvr2 : -9223372036854775808≤N9+1∧N9+1≤9223372036854775807:=by omega
        have HVR:=Qh (Qa hvr1 hvr2)
        clear hvr1 hvr2
        by_cases h62:62<L4
        ·have hRE:=HRT.out
         rw [tail_big (pu:=true) (n:=N9) (h:=(Tm.mk k4 n4 m4 b4 v4 ts4)) (p:=(Tm.mk k5 n5 m5 b5 v5 ts5)) (y:=(Tm.mk k3 n3 m3 b3 v3 ts3)) HK.out.1 HK.out.2 (by rw [HBN.out];simp) (by show 62<ts4.length;rw [HL4.out.2.2.1];exact h62)] at hRE
         subst hRE
         have HPu:=Qh (put_big (P:=fun b=>b<w.heap.size) HV5.out.1.kh (var_at u5 _ HVR.out.1) (var_at u5 _ HVR.out.2) HP5.out (by show 62<ts4.length;rw [HL4.out.2.2.1];exact h62))
         rw [valT_mk HL4.out.1 HL4.out.2.1,show valT (varT N9) (.slice none 0 0) = .agg (Qv N9) from rfl,show valT (varT (N9+1)) (.slice none 0 0) = .agg (Qv (N9+1)) from rfl] at HPu
         go_wp2_with (go_at_call 36;(with_reducible refine HPu.out.mono ?_);rintro e v4w ⟨⟨bb,rfl,hball⟩,hb4⟩;have HSD:=Qh (HV5.out.1.rs.below hb4);have HBL:=Qh hball;clear hball hb4)
         have hball:=HBL.out
         change Leaves _ _ _ _ _ (.panicking _) _
         refine ruleDoor ⟨HSD.out.r,HSD.out.e,HSD.out.bel⟩ hball (by simp [go_sem]) (fun z hz=>?_) (fun z h=>by first | exact .inr ⟨by first | trivial | rfl,h⟩ | exact h)
         obtain ⟨r0,r1,r2,r3,r4,r5,cE2⟩:=hz
         simp [results,Tryd.results9,go_sem,r0,r1,r2,r3,r4,r5,cE2,zeroTV]
        ·have HPu:=Qh (put_fitL (P:=fun b=>b<w.heap.size) HL4.out.1 HL4.out.2.1 HL4.out.2.2.1 HV5.out.1.kh (var_at u5 _ HVR.out.1) (var_at u5 _ HVR.out.2) HP5.out (by omega))
         rw [show valT (varT N9) (.slice none 0 0) = .agg (Qv N9) from rfl,show valT (varT (N9+1)) (.slice none 0 0) = .agg (Qv (N9+1)) from rfl] at HPu
         have H62:=Qh h62
         clear h62
         go_upto_region 37 with (go_at_call 36;(with_reducible refine HPu.out.mono ?_);rintro e u6 ⟨A9,c9,rfl,ht,hb⟩;have HZ6:=Qh (Qa ht hb);clear ht hb)
         have HV7:=Qh (show ∀ z,(u6.alloc (.cells (Qn 5 nb4 (.slice A9 (L4+2) c9)) 25))=z→∀ Z,Z=u6.heap.size→(RT w N (Tm.mk 5 sRule m1 b1 v1 [Tm.mk 5 sComma m2 b2 v2 [(Tm.mk k4 n4 m4 b4 v4 ts4),(Tm.mk k5 n5 m5 b5 v5 ts5)],(Tm.mk k3 n3 m3 b3 v3 ts3)]) (.slice (some ⟨g,o,none⟩) 2 c1) (N9+1+1) H Bx (Tm.mk k4 n4 m4 b4 v4 ts4) (.slice A4 L4 c4) (Tm.mk k3 n3 m3 b3 v3 ts3) (.slice A3 L3 c3) z∧NumAt z Q N (N9+1+1)∧TBox z F (varT N9) (.slice none 0 0)∧TBox z (F+1) (varT (N9+1)) (.slice none 0 0)∧N<F∧TBox z Z (cmpT n4 (ts4 ++ [varT N9,varT (N9+1)])) (.slice A9 (L4+2) c9)∧N<Z∧TAtP z (fun b=>b<w.heap.size∨(N<b∧b<z.heap.size)) (cmpT n4 (ts4 ++ [varT N9,varT (N9+1)])) (.slice A9 (L4+2) c9)) from fun z e Z eZ=>by
          rw [←e]
          have hb1:Below u6.heap.size u6 (u6.alloc (.cells (Qn 5 nb4 (.slice A9 (L4+2) c9)) 25)):=Qb
          have hz:=HZ6.out.2.size
          have hb:=HZ6.out.2.trans (hb1.mono hz)
          have hsz:(u6.alloc (.cells (Qn 5 nb4 (.slice A9 (L4+2) c9)) 25)).heap.size=u6.heap.size+1:=by simp
          have hF1:TBox (u6.alloc (.cells (Qn 5 nb4 (.slice A9 (L4+2) c9)) 25)) u6.heap.size (cmpT n4 (ts4 ++ [varT N9,varT (N9+1)])) (.slice A9 (L4+2) c9):=TBox.new u6 (ts:=ts4 ++ [varT N9,varT (N9+1)]) (m:=[]) HL4.out.1 rfl
          have hnl:=HV5.out.1.rs.nlt
          subst eZ
          refine ⟨HV5.out.1.below hb,HV5.out.2.1.below hb,HV5.out.2.2.1.below hb,HV5.out.2.2.2.1.below hb,HV5.out.2.2.2.2,hF1,by omega,?_⟩
          refine TAtP.keep _ HZ6.out.1 (fun b hb=>?_)
          have h9:=Grow.lt HP5.out hz b hb
          refine ⟨?_,hb1.block b h9⟩
          rcases hb with hb | hb
          ·exact .inl hb
          ·exact .inr ⟨by omega,by omega⟩)
         have HGG7:=Qh (show ∀ z,(u6.alloc (.cells (Qn 5 nb4 (.slice A9 (L4+2) c9)) 25))=z→ul.grownBy z (some N) from fun z e=>by
          rw [←e]
          have hb1:Below u6.heap.size u6 (u6.alloc (.cells (Qn 5 nb4 (.slice A9 (L4+2) c9)) 25)):=Qb
          exact grown_trans HGF.out (grown_trans (grown_below HZ6.out.2) (grown_below hb1)))
         clear HGF
         generalize (u6.alloc (.cells (Qn 5 nb4 (.slice A9 (L4+2) c9)) 25))=u7 at *
         have HGF:=Qh (HGG7.out _ rfl)
         clear HGG7
         obtain ⟨Z,hZ⟩:∃ Z,u6.heap.size=Z:=⟨_,rfl⟩
         replace HV7:=Qh (HV7.out _ rfl Z hZ.symm)
         rw [hZ]
         clear hZ HZ6 HPu HV5 HP5 x0 x1 x2 x3 x4 x5 q0 q1 q2 q3 q4 q5 r0 r1 r2 r3 r4 r5
         go_upto_region 38 with (go_at_call 60;(with_reducible refine (fresh_any HV7.out.2.1 ⟨by omega,by omega⟩).mono ?_);rintro e u10 ⟨rfl,hn,hg⟩;have HF8:=Qh (Qa hn hg);clear hn hg)
         have HV8:=Qh (show ∀ z,(u10.alloc (.cells (Qv (N9+1+1)) 25))=z→∀ E,E=u10.heap.size→(RT w N (Tm.mk 5 sRule m1 b1 v1 [Tm.mk 5 sComma m2 b2 v2 [(Tm.mk k4 n4 m4 b4 v4 ts4),(Tm.mk k5 n5 m5 b5 v5 ts5)],(Tm.mk k3 n3 m3 b3 v3 ts3)]) (.slice (some ⟨g,o,none⟩) 2 c1) (N9+3) H Bx (Tm.mk k4 n4 m4 b4 v4 ts4) (.slice A4 L4 c4) (Tm.mk k3 n3 m3 b3 v3 ts3) (.slice A3 L3 c3) z∧NumAt z Q N (N9+3)∧TBox z F (varT N9) (.slice none 0 0)∧TBox z (F+1) (varT (N9+1)) (.slice none 0 0)∧N<F∧TBox z Z (cmpT n4 (ts4 ++ [varT N9,varT (N9+1)])) (.slice A9 (L4+2) c9)∧N<Z∧TAtP z (fun b=>b<w.heap.size∨(N<b∧b<z.heap.size)) (cmpT n4 (ts4 ++ [varT N9,varT (N9+1)])) (.slice A9 (L4+2) c9)∧TBox z E (varT (N9+2)) (.slice none 0 0)∧N<E∧(RowP z (fun b=>v2x.heap.size≤b∧b<z.heap.size) A8 n8 ps∧(∀ g o,0<n8→A8=some ⟨g,o,none⟩→g≠N))) from fun z e E eE=>by
          have hb1:Below u10.heap.size u10 z:=by rw [←e];exact Qb
          have hg:=HF8.out.2
          have hg2:=grown_trans hg (grown_below (r:=some N) hb1)
          have hF1:TBox z u10.heap.size (varT (N9+1+1)) (.slice none 0 0):=by rw [←e];exact heap_alloc_new u10 _
          have hzs:z.heap.size=u10.heap.size+1:=by rw [←e];simp
          clear e
          have hnu:=HF8.out.1.below hb1
          have e2:(N9+1+1:Int)=N9+2:=by omega
          have e3:(N9+1+1+1:Int)=N9+3:=by omega
          rw [e2] at hF1
          rw [e3] at hnu
          subst eE
          have h1:=HV7.out.1.rs.nlt
          have h2:=hg.size
          have h4:=HR7.out.rs.nlt
          have h5:=HV7.out.2.2.2.2.1
          have h6:=HV7.out.2.2.2.2.2.2.1
          have h7:=HV7.out.1.rs.lt
          have h8:=HV7.out.1.rs.bel.size
          have h9:=hg2.size
          rw [e2] at *
          refine ⟨HV7.out.1.go hg2 hnu.n,hnu,HV7.out.2.2.1.gro hg2 (by omega),HV7.out.2.2.2.1.gro hg2 (by omega),h5,HV7.out.2.2.2.2.2.1.gro hg2 (by omega),h6,?_,hF1,by omega,?_⟩
          ·refine TAtP.keep _ HV7.out.2.2.2.2.2.2.2 (fun b hb=>?_)
           have hbu:b<u7.heap.size∧b≠N:=by rcases hb with hb | hb <;> omega
           exact ⟨by rcases hb with hb | hb <;> omega,hg2.block b hbu.1 (fun e=>by injection e with e;omega)⟩
          ·exact RowB.rowPN HLs.out.1 (grown_trans HGF.out hg2) h4)
         generalize (u10.alloc (.cells (Qv (N9+1+1)) 25))=u8 at *
         obtain ⟨E,hE⟩:∃ E,u10.heap.size=E:=⟨_,rfl⟩
         replace HV8:=Qh (HV8.out _ rfl E hE.symm)
         rw [hE]
         have HLt:=Qh (Qa HLs.out.2 (HLs.out.1.cap))
         clear hE HF8 HV7 HGF HLs
         have HNL:=Qh (show w.heap.size+1+1<N from HV8.out.1.rs.lt)
         have HCy:=Qh (show checkP (Tm.mk k3 n3 m3 b3 v3 ts3)=0 from check_arg HCk.out (by show _ ∈ [_,_];simp))
         have HCx:=Qh (show checkP (Tm.mk k4 n4 m4 b4 v4 ts4)=0 from check_arg (check_arg HCk.out (List.mem_cons_self:(Tm.mk 5 sComma m2 b2 v2 [(Tm.mk k4 n4 m4 b4 v4 ts4),(Tm.mk k5 n5 m5 b5 v5 ts5)]) ∈ [_,_])) (by show _ ∈ [_,_];simp))
         obtain ⟨RM,hRM⟩:∃ r,mkB (Tm.mk k3 n3 m3 b3 v3 ts3) (varT N9) (varT (N9+2)) (N9+3)=r:=⟨_,rfl⟩
         have HRE:=Qh ((tail_p (n:=N9) (h:=(Tm.mk k4 n4 m4 b4 v4 ts4)) (p:=(Tm.mk k5 n5 m5 b5 v5 ts5)) (y:=(Tm.mk k3 n3 m3 b3 v3 ts3)) HK.out.1 HK.out.2 HBN.out (by show ¬62<ts4.length;rw [HL4.out.2.2.1];exact H62.out)).symm.trans HRT.out)
         have HBo:=Qh (body_any w0 (Tm.mk k3 n3 m3 b3 v3 ts3) u8 (fun b=>b<w.heap.size) (varT N9) (varT (N9+2)) (.slice A3 L3 c3) (.slice none 0 0) (.slice none 0 0) Q N (N9+3) (fun b hb=>⟨Ql hb HV8.out.1.rs.bel.size,by have:=HNL.out;omega⟩) HV8.out.1.kb (var_at u8 _ HVR.out.1) (var_at u8 _ ⟨by omega,by omega⟩) HV8.out.2.1 (by omega) (by have:=(check_iff.1 HCy.out).1;omega) HCy.out (HU.out.below HV8.out.1.rs.bel) (by have:=HU.out.bel.size;have:=HNL.out;omega))
         have HRM:=Qh hRM
         rw [hRM] at HRE
         rw [hRM,valT_mk HL3.out.1 HL3.out.2.1,show valT (varT N9) (.slice none 0 0) = .agg (Qv N9) from rfl,show valT (varT (N9+2)) (.slice none 0 0) = .agg (Qv (N9+2)) from rfl,show freshV Q=(.func (.func 60) #[] #[.pointer (some ⟨Q,0,none⟩)]) from rfl] at HBo
         clear hRM
         obtain ⟨x0,x1,x2,x3,x4,x5⟩:=HV8.out.1.bb.cells HL3.out.1 HL3.out.2.1
         obtain ⟨q0,q1,q2,q3,q4,q5⟩:=HV8.out.2.2.1.cells (nb:=⟨#[]⟩) (mb:=⟨#[]⟩) rfl rfl
         obtain ⟨r0,r1,r2,r3,r4,r5⟩:=HV8.out.2.2.2.2.2.2.2.2.1.cells (nb:=⟨#[]⟩) (mb:=⟨#[]⟩) rfl rfl
         cases RM with
         | error bt=>
          go_wp2_with (go_at_call 38;(with_reducible refine HBo.out.mono ?_);rintro e v4w hp;obtain ⟨hg,bb,rfl,hball⟩:=hp.bad;have HSD:=Qh (HV8.out.1.rs.rd.go hg HNL.out);have HBL:=Qh hball;clear hball hg hp)
          have hRE:=HRE.out
          change Except.error bt=RR at hRE
          subst hRE
          have hball:=HBL.out
          change Leaves _ _ _ _ _ (.panicking _) _
          refine ruleDoor ⟨HSD.out.r,HSD.out.e,HSD.out.bel⟩ hball (by simp [go_sem]) (fun z hz=>?_) (fun z h=>by first | exact .inr ⟨by first | trivial | rfl,h⟩ | exact h)
          obtain ⟨r0,r1,r2,r3,r4,r5,cE2⟩:=hz
          simp [results,Tryd.results9,go_sem,r0,r1,r2,r3,r4,r5,cE2,zeroTV]
         | ok p=>
          obtain ⟨a,n'⟩:=p
          obtain ⟨k6,n6,m6,b6,v6,ts6⟩:=a
          obtain ⟨nb6,hnb6⟩:∃ nb:ByteArray,(⟨n6.toArray⟩:ByteArray)=nb:=⟨_,rfl⟩
          obtain ⟨mb6,hmb6⟩:∃ mb:ByteArray,(⟨m6.toArray⟩:ByteArray)=mb:=⟨_,rfl⟩
          obtain ⟨L6,hL6⟩:∃ L,ts6.length=L:=⟨_,rfl⟩
          have HL6:=Qh (Qa hnb6 (Qa hmb6 hL6))
          clear hnb6 hmb6 hL6
          have HBr:=Qh (show Bare (cmpT sNeck [(cmpT n4 (ts4 ++ [varT N9,varT (N9+1)])),(cmpT sComma [(Tm.mk k6 n6 m6 b6 v6 ts6),eqT (varT (N9+1)) (endT (elems (Tm.mk k5 n5 m5 b5 v5 ts5)).1 (varT (N9+2)))])]) from bare_cmp (mem2 (bare_head HCx.out) (bare_cmp (mem2 (bare_mkB HRM.out (by omega) HCy.out (errs_var (by decide) (by omega)) (errs_var (by decide) (by omega))) (bare_cmp (mem2 (bare_var _) (bare_errs _ (errs_endT names_ok (elems_errs _ (check_iff.1 HCp.out).2) (errs_var (by decide) (by omega))))))))))
          replace HRE:=Qh (show whole (cmpT sNeck [(cmpT n4 (ts4 ++ [varT N9,varT (N9+1)])),(cmpT sComma [(Tm.mk k6 n6 m6 b6 v6 ts6),eqT (varT (N9+1)) (endT (elems (Tm.mk k5 n5 m5 b5 v5 ts5)).1 (varT (N9+2)))])])=RR from HRE.out)
          go_upto_region 39 with (go_at_call 38;(with_reducible refine HBo.out.mono ?_);rintro e u9 hp;obtain ⟨A6,c6,rfl,hta,hnu,hg⟩:=hp.letters HL6.out.1 HL6.out.2.1 HL6.out.2.2;have HB9:=Qh (Qa hta hg);clear hta hnu hg hp)
          clear x0 x1 x2 x3 x4 x5 q0 q1 q2 q3 q4 q5 r0 r1 r2 r3 r4 r5 HBo
          have HV10:=Qh (show ∀ z,(u9.alloc (.cells (Q5 k6 nb6 mb6 b6 v6 (.slice A6 L6 c6)) 25))=z→∀ G,G=u9.heap.size→(RD w z∧TBox z Z (cmpT n4 (ts4 ++ [varT N9,varT (N9+1)])) (.slice A9 (L4+2) c9)∧TBox z G (Tm.mk k6 n6 m6 b6 v6 ts6) (.slice A6 L6 c6)∧TBox z (F+1) (varT (N9+1)) (.slice none 0 0)∧TBox z E (varT (N9+2)) (.slice none 0 0)∧TAtP z (fun b=>b<z.heap.size) (cmpT n4 (ts4 ++ [varT N9,varT (N9+1)])) (.slice A9 (L4+2) c9)∧TAtP z (fun b=>b<z.heap.size) (Tm.mk k6 n6 m6 b6 v6 ts6) (.slice A6 L6 c6)∧RowP z (fun b=>b<z.heap.size) A8 n8 ps∧w.heap.size+1+1<z.heap.size∧N<Z∧N<G∧N<F∧N<E) from fun z e G eG=>by
           rw [←e]
           have hb1:Below u9.heap.size u9 (u9.alloc (.cells (Q5 k6 nb6 mb6 b6 v6 (.slice A6 L6 c6)) 25)):=Qb
           have hg:=HB9.out.2
           have hg2:=grown_trans hg (grown_below (r:=some N) hb1)
           have hF1:TBox (u9.alloc (.cells (Q5 k6 nb6 mb6 b6 v6 (.slice A6 L6 c6)) 25)) u9.heap.size (Tm.mk k6 n6 m6 b6 v6 ts6) (.slice A6 L6 c6):=TBox.new u9 HL6.out.1 HL6.out.2.1
           subst eG
           have h1:=HV8.out.1.rs.nlt
           have h2:=hg.size
           have h4:=HR7.out.rs.nlt
           have h5:=HV8.out.2.2.2.2.1
           have h6:=HV8.out.2.2.2.2.2.2.1
           have h7:=HNL.out
           have h8:=HV8.out.1.rs.bel.size
           have h9:=hg2.size
           have h10:=HV8.out.2.2.2.2.2.2.2.2.2.1
           have hP:∀ b,b<w.heap.size→b<u8.heap.size:=fun b hb=>by omega
           refine ⟨HV8.out.1.rs.rd.go hg2 HNL.out,HV8.out.2.2.2.2.2.1.gro hg2 (by omega),hF1,HV8.out.2.2.2.1.gro hg2 (by omega),HV8.out.2.2.2.2.2.2.2.2.1.gro hg2 (by omega),?_,?_,?_,by omega,h6,by omega,h5,h10⟩
           ·refine TAtP.keep _ HV8.out.2.2.2.2.2.2.2.1 (fun b hb=>?_)
            have hbu:b<u8.heap.size∧b≠N:=by rcases hb with hb | hb <;> omega
            exact ⟨by omega,hg2.block b hbu.1 (fun e=>by injection e with e;omega)⟩
           ·exact TAtP.keep _ HB9.out.1 (fun b hb=>⟨Ql (Grow.lt hP h2 b hb) hb1.size,hb1.block b (Grow.lt hP h2 b hb)⟩)
           ·exact (RowP.gro HV8.out.2.2.2.2.2.2.2.2.2.2.1 (fun b hb=>⟨hb.2,by have:=hb.1;omega⟩) hg2 HV8.out.2.2.2.2.2.2.2.2.2.2.2).wide' (fun b hb=>Ql hb.2 h9))
          generalize (u9.alloc (.cells (Q5 k6 nb6 mb6 b6 v6 (.slice A6 L6 c6)) 25))=u10' at *
          obtain ⟨G,hG⟩:∃ G,u9.heap.size=G:=⟨_,rfl⟩
          replace HV10:=Qh (HV10.out _ rfl G hG.symm)
          rw [hG]
          clear hG HB9 HV8
          have HSS:=Qh (show ∀ z,u10'.grownBy z (some N)→((Q6 z Z 5 nb4 ⟨#[]⟩ 0 0 (.slice A9 (L4+2) c9))∧(Q6 z G k6 nb6 mb6 b6 v6 (.slice A6 L6 c6))∧(Q6 z (F+1) 1 ⟨#[]⟩ ⟨#[]⟩ 0 (N9+1) (.slice none 0 0))∧(Q6 z E 1 ⟨#[]⟩ ⟨#[]⟩ 0 (N9+2) (.slice none 0 0))) from fun z hg=>by
           obtain ⟨h1,h2,h3,h4,h5,h6,h7,h8,h9,h10,h11,h12,h13⟩:=HV10.out
           exact ⟨(h2.gro hg (by omega)).cells HL4.out.1 rfl,(h3.gro hg (by omega)).cells HL6.out.1 HL6.out.2.1,(h4.gro hg (by omega)).cells rfl rfl,(h5.gro hg (by omega)).cells rfl rfl⟩)
          refine wp_region_wait (fun z=>((Q6 z Z 5 nb4 ⟨#[]⟩ 0 0 (.slice A9 (L4+2) c9))∧(Q6 z G k6 nb6 mb6 b6 v6 (.slice A6 L6 c6))∧(Q6 z (F+1) 1 ⟨#[]⟩ ⟨#[]⟩ 0 (N9+1) (.slice none 0 0))∧(Q6 z E 1 ⟨#[]⟩ ⟨#[]⟩ 0 (N9+2) (.slice none 0 0)))) 13 (by kernel_rfl) ?_
          change wpAnyW _ _ _ _ _ _ _ _ _ u10'.drew
          have KK:=Qh (below_drew' u10')
          generalize u10'.drew=v0 at *
          have KG:=Qh (grown_below (r:=some N) KK.out)
          refine wpAnyW_take 13 (i:=0) (v:=.agg (Qn 5 nb4 (.slice A9 (L4+2) c9))) rfl (by kernel_rfl) (by kernel_rfl) (by kernel_rfl) (by kernel_rfl) (fun c a w h=>hqRule (by omega) c a w h) (Or.inl ⟨by rfl,?_⟩) (HSS.out _ KG.out) ?_
          ·intro w5 hSw
           obtain ⟨⟨p0,p1,p2,p3,p4,p5⟩,⟨q0,q1,q2,q3,q4,q5⟩,⟨r0,r1,r2,r3,r4,r5⟩,⟨s0,s1,s2,s3,s4,s5⟩⟩:=hSw
           go_simp
          refine wpAnyW_take 13 (i:=1) (v:=.agg (Q5 k6 nb6 mb6 b6 v6 (.slice A6 L6 c6))) rfl (by kernel_rfl) (by kernel_rfl) (by kernel_rfl) (by kernel_rfl) (fun c a w h=>hqRule (by omega) c a w h) (Or.inl ⟨by rfl,?_⟩) (HSS.out _ KG.out) ?_
          ·intro w5 hSw
           obtain ⟨⟨p0,p1,p2,p3,p4,p5⟩,⟨q0,q1,q2,q3,q4,q5⟩,⟨r0,r1,r2,r3,r4,r5⟩,⟨s0,s1,s2,s3,s4,s5⟩⟩:=hSw
           go_simp
          refine wpAnyW_take 13 (i:=2) (v:=.agg (Qv (N9+1))) rfl (by kernel_rfl) (by kernel_rfl) (by kernel_rfl) (by kernel_rfl) (fun c a w h=>hqRule (by omega) c a w h) (Or.inl ⟨by rfl,?_⟩) (HSS.out _ KG.out) ?_
          ·intro w5 hSw
           obtain ⟨⟨p0,p1,p2,p3,p4,p5⟩,⟨q0,q1,q2,q3,q4,q5⟩,⟨r0,r1,r2,r3,r4,r5⟩,⟨s0,s1,s2,s3,s4,s5⟩⟩:=hSw
           go_simp
          refine wpAnyW_take 13 (i:=3) (v:=.slice A8 n8 c8) rfl (by kernel_rfl) (by kernel_rfl) (by kernel_rfl) (by kernel_rfl) (fun c a w h=>hqRule (by omega) c a w h) (Or.inl ⟨by rfl,?_⟩) (HSS.out _ KG.out) ?_
          ·intro w5 hSw
           obtain ⟨⟨p0,p1,p2,p3,p4,p5⟩,⟨q0,q1,q2,q3,q4,q5⟩,⟨r0,r1,r2,r3,r4,r5⟩,⟨s0,s1,s2,s3,s4,s5⟩⟩:=hSw
           go_simp
          refine wpAnyW_take 13 (i:=4) (v:=.agg (Qv (N9+2))) rfl (by kernel_rfl) (by kernel_rfl) (by kernel_rfl) (by kernel_rfl) (fun c a w h=>hqRule (by omega) c a w h) (Or.inl ⟨by rfl,?_⟩) (HSS.out _ KG.out) ?_
          ·intro w5 hSw
           obtain ⟨⟨p0,p1,p2,p3,p4,p5⟩,⟨q0,q1,q2,q3,q4,q5⟩,⟨r0,r1,r2,r3,r4,r5⟩,⟨s0,s1,s2,s3,s4,s5⟩⟩:=hSw
           go_simp
          obtain ⟨TE,hTE⟩:∃ T,(endT (elems (Tm.mk k5 n5 m5 b5 v5 ts5)).1 (varT (N9+2)))=T:=⟨_,rfl⟩
          have HKP:=Qh (show TAtP v0 (fun b=>b<v0.heap.size) (cmpT n4 (ts4 ++ [varT N9,varT (N9+1)])) (.slice A9 (L4+2) c9)∧TAtP v0 (fun b=>b<v0.heap.size) (Tm.mk k6 n6 m6 b6 v6 ts6) (.slice A6 L6 c6)∧RowP v0 (fun b=>b<v0.heap.size) A8 n8 ps from by
           have hs:=KK.out.size
           exact ⟨TAt.any HV10.out.2.2.2.2.2.1 (fun b hb=>hb) KK.out,TAt.any HV10.out.2.2.2.2.2.2.1 (fun b hb=>hb) KK.out,(RowP.below HV10.out.2.2.2.2.2.2.2.1 KK.out (fun b hb=>hb)).wide' (fun b hb=>Ql hb hs)⟩)
          have HEn0:=ending_any (c:=c8) HKP.out.2.2 (var_at v0 _ (n:=N9+2) ⟨by omega,by omega⟩) (fun b hb=>hb) (by have:=HLt.out.1.2;unfold maxArgs;omega) HLt.out.2.1
          rw [HLt.out.1.1,hTE,show valT (varT (N9+2)) (.slice none 0 0) = .agg (Qv (N9+2)) from rfl] at HEn0
          rw [hTE] at HRE HBr
          clear hTE
          obtain ⟨k7,n7,m7,b7,v7,ts7⟩:=TE
          obtain ⟨nb7,hnb7⟩:∃ nb:ByteArray,(⟨n7.toArray⟩:ByteArray)=nb:=⟨_,rfl⟩
          obtain ⟨mb7,hmb7⟩:∃ mb:ByteArray,(⟨m7.toArray⟩:ByteArray)=mb:=⟨_,rfl⟩
          obtain ⟨L7,hL7⟩:∃ L,ts7.length=L:=⟨_,rfl⟩
          have HL7:=Qh (Qa hnb7 (Qa hmb7 hL7))
          clear hnb7 hmb7 hL7
          replace HRE:=Qh (show whole (cmpT sNeck [(cmpT n4 (ts4 ++ [varT N9,varT (N9+1)])),cmpT sComma [(Tm.mk k6 n6 m6 b6 v6 ts6),cmpT sEq [varT (N9+1),(Tm.mk k7 n7 m7 b7 v7 ts7)]]])=RR from HRE.out)
          have HEn:=Qh (HEn0.mono (fun e w' h=>made_letters HL7.out.1 HL7.out.2.1 HL7.out.2.2 h))
          clear HEn0
          refine w1 5 fun K hK=>?_
          go_simp
          (with_reducible refine HEn.out.mono ?_)
          rintro e u14 ⟨A7,c7,rfl,ht7,hb7⟩
          have HT7:=Qh (show TAtP u14 (fun b=>b<u14.heap.size) (Tm.mk k7 n7 m7 b7 v7 ts7) (.slice A7 L7 c7) from ht7.wide (fun b hb=>Grow.lt (fun b hb=>hb) hb7.size b hb))
          have HKQ:=Qh (show TAtP u14 (fun b=>b<u14.heap.size) (cmpT n4 (ts4 ++ [varT N9,varT (N9+1)])) (.slice A9 (L4+2) c9)∧TAtP u14 (fun b=>b<u14.heap.size) (Tm.mk k6 n6 m6 b6 v6 ts6) (.slice A6 L6 c6) from ⟨TAt.any HKP.out.1 (fun b hb=>hb) hb7,TAt.any HKP.out.2.1 (fun b hb=>hb) hb7⟩)
          replace KK:=Qh (Qt KK.out hb7)
          have KQ:=Qh (Below.refl u14.heap.size u14)
          clear ht7 hb7 HEn HKP
          refine hK.out _ _ (fun _=>HSS.out _ (grown_below KK.out)) ?_
          have hbA:Below u14.heap.size u14 (u14.alloc (.cells #[.int .i64 1,.string ⟨#[]⟩,.string ⟨#[]⟩,.int .u64 0,.int .i64 (N9+1),.slice none 0 0,.int .i64 k7,.string nb7,.string mb7,.int .u64 b7,.int .i64 v7,.slice A7 L7 c7] 25)):=Qb
          have hbu:=built (w:=u14) (P:=fun b=>b<u14.heap.size) (s:=sEq) (n:=2) (cs:=#[.int .i64 1,.string ⟨#[]⟩,.string ⟨#[]⟩,.int .u64 0,.int .i64 (N9+1),.slice none 0 0,.int .i64 k7,.string nb7,.string mb7,.int .u64 b7,.int .i64 v7,.slice A7 L7 c7]) (ps:=[(varT (N9+1),Value.slice none 0 0),((Tm.mk k7 n7 m7 b7 v7 ts7),Value.slice A7 L7 c7)]) (by rw [←HL7.out.1,←HL7.out.2.1];rfl) rfl (mem2 (var_at _ _ HVR.out.2) (HT7.out)) (fun b hb=>hb) (by unfold maxArgs;omega) (by decide)
          have HBA:=Qh (Qa hbA (Qa hbu (show (u14.alloc (.cells #[.int .i64 1,.string ⟨#[]⟩,.string ⟨#[]⟩,.int .u64 0,.int .i64 (N9+1),.slice none 0 0,.int .i64 k7,.string nb7,.string mb7,.int .u64 b7,.int .i64 v7,.slice A7 L7 c7] 25)).heap.size=u14.heap.size+1 by simp)))
          clear hbA hbu
          replace KK:=Qh (Qt KK.out HBA.out.1)
          replace HKQ:=Qh (Qa (TAt.any HKQ.out.1 (fun b hb=>hb) HBA.out.1) (TAt.any HKQ.out.2 (fun b hb=>hb) HBA.out.1))
          refine w1 6 fun K hK=>?_
          go_simp
          refine hK.out _ _ (fun _=>HSS.out _ (grown_below KK.out)) ?_
          generalize u14.alloc (.cells #[.int .i64 1,.string ⟨#[]⟩,.string ⟨#[]⟩,.int .u64 0,.int .i64 (N9+1),.slice none 0 0,.int .i64 k7,.string nb7,.string mb7,.int .u64 b7,.int .i64 v7,.slice A7 L7 c7] 25)=u15 at *
          generalize u14.heap.size=q1 at *
          refine w1 7 fun K hK=>?_
          go_simp
          (with_reducible refine (of_any _ _ _ _ _).mono ?_)
          rintro e u16 ⟨rfl,hb3⟩
          have HT8:=Qh (show TAt u16 u16.heap.size (cmpT sEq [varT (N9+1),(Tm.mk k7 n7 m7 b7 v7 ts7)]) (.slice (some ⟨q1,0,none⟩) 2 2) from TAt.any HBA.out.2.1 (fun b hb=>by have:=HBA.out.2.2;rcases hb with hb | hb <;> omega) hb3)
          replace KK:=Qh (Qt KK.out hb3)
          replace HKQ:=Qh (Qa (TAt.any HKQ.out.1 (fun b hb=>hb) hb3) (TAt.any HKQ.out.2 (fun b hb=>hb) hb3))
          clear hb3 HBA
          refine hK.out _ _ (fun _=>HSS.out _ (grown_below KK.out)) ?_
          have hbA:Below u16.heap.size u16 (u16.alloc (.cells #[.int .i64 k6,.string nb6,.string mb6,.int .u64 b6,.int .i64 v6,.slice A6 L6 c6,.int .i64 5,.string ⟨#[61]⟩,.string ⟨#[]⟩,.int .u64 0,.int .i64 0,.slice (some ⟨q1,0,none⟩) 2 2] 25)):=Qb
          have hbu:=built (w:=u16) (P:=fun b=>b<u16.heap.size) (s:=sComma) (n:=2) (cs:=#[.int .i64 k6,.string nb6,.string mb6,.int .u64 b6,.int .i64 v6,.slice A6 L6 c6,.int .i64 5,.string ⟨#[61]⟩,.string ⟨#[]⟩,.int .u64 0,.int .i64 0,.slice (some ⟨q1,0,none⟩) 2 2]) (ps:=[((Tm.mk k6 n6 m6 b6 v6 ts6),Value.slice A6 L6 c6),(cmpT sEq [varT (N9+1),(Tm.mk k7 n7 m7 b7 v7 ts7)],Value.slice (some ⟨q1,0,none⟩) 2 2)]) (by rw [←HL6.out.1,←HL6.out.2.1];rfl) rfl (mem2 (HKQ.out.2) (HT8.out)) (fun b hb=>hb) (by unfold maxArgs;omega) (by decide)
          have HBA:=Qh (Qa hbA (Qa hbu (show (u16.alloc (.cells #[.int .i64 k6,.string nb6,.string mb6,.int .u64 b6,.int .i64 v6,.slice A6 L6 c6,.int .i64 5,.string ⟨#[61]⟩,.string ⟨#[]⟩,.int .u64 0,.int .i64 0,.slice (some ⟨q1,0,none⟩) 2 2] 25)).heap.size=u16.heap.size+1 by simp)))
          clear hbA hbu
          replace KK:=Qh (Qt KK.out HBA.out.1)
          replace HKQ:=Qh (Qa (TAt.any HKQ.out.1 (fun b hb=>hb) HBA.out.1) (TAt.any HKQ.out.2 (fun b hb=>hb) HBA.out.1))
          refine w1 8 fun K hK=>?_
          go_simp
          refine hK.out _ _ (fun _=>HSS.out _ (grown_below KK.out)) ?_
          generalize u16.alloc (.cells #[.int .i64 k6,.string nb6,.string mb6,.int .u64 b6,.int .i64 v6,.slice A6 L6 c6,.int .i64 5,.string ⟨#[61]⟩,.string ⟨#[]⟩,.int .u64 0,.int .i64 0,.slice (some ⟨q1,0,none⟩) 2 2] 25)=u17 at *
          generalize u16.heap.size=q2 at *
          refine w1 9 fun K hK=>?_
          go_simp
          (with_reducible refine (of_any _ _ _ _ _).mono ?_)
          rintro e u18 ⟨rfl,hb3⟩
          have HT9:=Qh (show TAt u18 u18.heap.size (cmpT sComma [(Tm.mk k6 n6 m6 b6 v6 ts6),cmpT sEq [varT (N9+1),(Tm.mk k7 n7 m7 b7 v7 ts7)]]) (.slice (some ⟨q2,0,none⟩) 2 2) from TAt.any HBA.out.2.1 (fun b hb=>by have:=HBA.out.2.2;rcases hb with hb | hb <;> omega) hb3)
          replace KK:=Qh (Qt KK.out hb3)
          replace HKQ:=Qh (Qa (TAt.any HKQ.out.1 (fun b hb=>hb) hb3) (TAt.any HKQ.out.2 (fun b hb=>hb) hb3))
          clear hb3 HBA
          refine hK.out _ _ (fun _=>HSS.out _ (grown_below KK.out)) ?_
          have hbA:Below u18.heap.size u18 (u18.alloc (.cells #[.int .i64 5,.string nb4,.string ⟨#[]⟩,.int .u64 0,.int .i64 0,.slice A9 (L4+2) c9,.int .i64 5,.string ⟨#[44]⟩,.string ⟨#[]⟩,.int .u64 0,.int .i64 0,.slice (some ⟨q2,0,none⟩) 2 2] 25)):=Qb
          have hbu:=built (w:=u18) (P:=fun b=>b<u18.heap.size) (s:=sNeck) (n:=2) (cs:=#[.int .i64 5,.string nb4,.string ⟨#[]⟩,.int .u64 0,.int .i64 0,.slice A9 (L4+2) c9,.int .i64 5,.string ⟨#[44]⟩,.string ⟨#[]⟩,.int .u64 0,.int .i64 0,.slice (some ⟨q2,0,none⟩) 2 2]) (ps:=[((cmpT n4 (ts4 ++ [varT N9,varT (N9+1)])),Value.slice A9 (L4+2) c9),(cmpT sComma [(Tm.mk k6 n6 m6 b6 v6 ts6),cmpT sEq [varT (N9+1),(Tm.mk k7 n7 m7 b7 v7 ts7)]],Value.slice (some ⟨q2,0,none⟩) 2 2)]) (by rw [←HL4.out.1];rfl) rfl (mem2 (HKQ.out.1) (HT9.out)) (fun b hb=>hb) (by unfold maxArgs;omega) (by decide)
          have HBA:=Qh (Qa hbA (Qa hbu (show (u18.alloc (.cells #[.int .i64 5,.string nb4,.string ⟨#[]⟩,.int .u64 0,.int .i64 0,.slice A9 (L4+2) c9,.int .i64 5,.string ⟨#[44]⟩,.string ⟨#[]⟩,.int .u64 0,.int .i64 0,.slice (some ⟨q2,0,none⟩) 2 2] 25)).heap.size=u18.heap.size+1 by simp)))
          clear hbA hbu
          replace KK:=Qh (Qt KK.out HBA.out.1)
          replace HKQ:=Qh (Qa (TAt.any HKQ.out.1 (fun b hb=>hb) HBA.out.1) (TAt.any HKQ.out.2 (fun b hb=>hb) HBA.out.1))
          refine w1 10 fun K hK=>?_
          go_simp
          refine hK.out _ _ (fun _=>HSS.out _ (grown_below KK.out)) ?_
          generalize u18.alloc (.cells #[.int .i64 5,.string nb4,.string ⟨#[]⟩,.int .u64 0,.int .i64 0,.slice A9 (L4+2) c9,.int .i64 5,.string ⟨#[44]⟩,.string ⟨#[]⟩,.int .u64 0,.int .i64 0,.slice (some ⟨q2,0,none⟩) 2 2] 25)=u19 at *
          generalize u18.heap.size=q at *
          refine w1 11 fun K hK=>?_
          go_simp
          (with_reducible refine (of_any _ _ _ _ _).mono ?_)
          rintro e u20 ⟨rfl,hb3⟩
          have HTA:=Qh (show TAt u20 u20.heap.size (cmpT sNeck [(cmpT n4 (ts4 ++ [varT N9,varT (N9+1)])),cmpT sComma [(Tm.mk k6 n6 m6 b6 v6 ts6),cmpT sEq [varT (N9+1),(Tm.mk k7 n7 m7 b7 v7 ts7)]]]) (.slice (some ⟨q,0,none⟩) 2 2) from TAt.any HBA.out.2.1 (fun b hb=>by have:=HBA.out.2.2;rcases hb with hb | hb <;> omega) hb3)
          replace KK:=Qh (Qt KK.out hb3)
          replace HKQ:=Qh (Qa (TAt.any HKQ.out.1 (fun b hb=>hb) hb3) (TAt.any HKQ.out.2 (fun b hb=>hb) hb3))
          clear hb3 HBA
          refine hK.out _ _ (fun _=>HSS.out _ (grown_below KK.out)) ?_
          have FT:=Qh (show TAt u20 u20.heap.size (cmpT sNeck [(cmpT n4 (ts4 ++ [varT N9,varT (N9+1)])),cmpT sComma [(Tm.mk k6 n6 m6 b6 v6 ts6),cmpT sEq [varT (N9+1),(Tm.mk k7 n7 m7 b7 v7 ts7)]]]) (.slice (some ⟨q,0,none⟩) 2 2)∧RD w u20∧Bare (cmpT sNeck [(cmpT n4 (ts4 ++ [varT N9,varT (N9+1)])),cmpT sComma [(Tm.mk k6 n6 m6 b6 v6 ts6),cmpT sEq [varT (N9+1),(Tm.mk k7 n7 m7 b7 v7 ts7)]]]) from ⟨HTA.out,HV10.out.1.go (N:=N) (grown_below KK.out) HNL.out,HBr.out⟩)
          have HBG:=Qh (show w.heap.size+1+1<u20.heap.size from Ql HV10.out.2.2.2.2.2.2.2.2.1 KK.out.size)
          clear HT7 HT8 HT9 HTA
          refine w1 12 fun K hK=>?_
          go_simp
          by_cases hz:4000<nodes (cmpT sNeck [(cmpT n4 (ts4 ++ [varT N9,varT (N9+1)])),cmpT sComma [(Tm.mk k6 n6 m6 b6 v6 ts6),cmpT sEq [varT (N9+1),(Tm.mk k7 n7 m7 b7 v7 ts7)]]])
          ·have hRE:Except.error nodesT=RR:=by rw [←HRE.out];simp [whole,hz]
           subst hRE
           have hwb:=whole_big FT.out.1 hz
           rw [show valT (cmpT sNeck [(cmpT n4 (ts4 ++ [varT N9,varT (N9+1)])),cmpT sComma [(Tm.mk k6 n6 m6 b6 v6 ts6),cmpT sEq [varT (N9+1),(Tm.mk k7 n7 m7 b7 v7 ts7)]]]) (.slice (some ⟨q,0,none⟩) 2 2) = .agg (Qn 5 ⟨#[58,45]⟩ (.slice (some ⟨q,0,none⟩) 2 2)) from rfl] at hwb
           (with_reducible refine hwb.mono ?_)
           rintro e v4w ⟨⟨bb,rfl,hball⟩,hb4⟩
           have HSD:=Qh (FT.out.2.1.go (N:=N) (grown_below hb4) HNL.out)
           change Leaves _ _ _ _ _ (.panicking _) _
           refine ruleDoor ⟨HSD.out.r,HSD.out.e,HSD.out.bel⟩ hball (by simp [go_sem]) (fun z hz=>?_) (fun z h=>by first | exact .inr ⟨by first | trivial | rfl,h⟩ | exact h)
           obtain ⟨r0,r1,r2,r3,r4,r5,cE2⟩:=hz
           simp [results,Tryd.results9,go_sem,r0,r1,r2,r3,r4,r5,cE2,zeroTV]
          ·have hRE:Except.ok (cmpT sNeck [(cmpT n4 (ts4 ++ [varT N9,varT (N9+1)])),cmpT sComma [(Tm.mk k6 n6 m6 b6 v6 ts6),cmpT sEq [varT (N9+1),(Tm.mk k7 n7 m7 b7 v7 ts7)]]])=RR:=by rw [←HRE.out];simp [whole,hz]
           subst hRE
           have hwf0:=whole_fit FT.out.1 FT.out.2.2 hz
           rw [show valT (cmpT sNeck [(cmpT n4 (ts4 ++ [varT N9,varT (N9+1)])),cmpT sComma [(Tm.mk k6 n6 m6 b6 v6 ts6),cmpT sEq [varT (N9+1),(Tm.mk k7 n7 m7 b7 v7 ts7)]]]) (.slice (some ⟨q,0,none⟩) 2 2) = .agg (Qn 5 ⟨#[58,45]⟩ (.slice (some ⟨q,0,none⟩) 2 2)) from rfl] at hwf0
           have hwf:=own_letters (q:=2) (k:=5) (b:=0) (v:=0) (n:=sNeck) (m:=[]) (ts:=((cmpT sNeck [(cmpT n4 (ts4 ++ [varT N9,varT (N9+1)])),cmpT sComma [(Tm.mk k6 n6 m6 b6 v6 ts6),cmpT sEq [varT (N9+1),(Tm.mk k7 n7 m7 b7 v7 ts7)]]])).as) (nb:=⟨#[58,45]⟩) (mb:=⟨#[]⟩) rfl rfl rfl hwf0
           clear hz hwf0
           (with_reducible refine hwf.mono ?_)
           rintro e w3 ⟨A0,c0,rfl,ho3,hb3⟩
           have HO3:=Qh (Qa ho3 (Qa (FT.out.2.1.go (N:=N) (grown_below hb3) HNL.out) (FT.out.2.1.bel.size)))
           have HG3:=Qh (grown_below (r:=some N) hb3)
           clear ho3 hb3 hwf
           refine hK.out _ _ (fun _=>HSS.out _ (grown_trans (grown_below KK.out) HG3.out)) ?_
           refine w1 13 fun K hK=>?_
           obtain ⟨a0,a1,a2,a3,a4,a5⟩:=HO3.out.2.1.r.cells rfl rfl
           obtain ⟨e0,e1,e2,e3,e4,e5⟩:=HO3.out.2.1.r.frozens
           go_simp
           refine hK.out _ _ (fun h=>absurd h (by simp)) ?_
           clear a0 a1 a2 a3 a4 a5 e0 e1 e2 e3 e4 e5
           obtain ⟨hbx,hgr⟩:=HO3.out.2.1.r.set6 (k:=5) (b:=0) (v:=0) (n:=sNeck) (m:=[]) (nb:=⟨#[58,45]⟩) (mb:=⟨#[]⟩) ((cmpT sNeck [(cmpT n4 (ts4 ++ [varT N9,varT (N9+1)])),cmpT sComma [(Tm.mk k6 n6 m6 b6 v6 ts6),cmpT sEq [varT (N9+1),(Tm.mk k7 n7 m7 b7 v7 ts7)]]])).as (.slice A0 2 c0) rfl rfl
           have H6x:=Qh (show ∀ z,((((((w3.setCell ⟨w.heap.size+1,0,none⟩ (.int .i64 5)).setCell ⟨w.heap.size+1,1,none⟩ (.string ⟨#[58,45]⟩)).setCell ⟨w.heap.size+1,2,none⟩ (.string ⟨#[]⟩)).setCell ⟨w.heap.size+1,3,none⟩ (.int .u64 0)).setCell ⟨w.heap.size+1,4,none⟩ (.int .i64 0)).setCell ⟨w.heap.size+1,5,none⟩ (.slice A0 2 c0))=z→TBox z (w.heap.size+1) (cmpT sNeck [(cmpT n4 (ts4 ++ [varT N9,varT (N9+1)])),cmpT sComma [(Tm.mk k6 n6 m6 b6 v6 ts6),cmpT sEq [varT (N9+1),(Tm.mk k7 n7 m7 b7 v7 ts7)]]]) (.slice A0 2 c0)∧w3.grownBy z (some (w.heap.size+1)) from fun z e=>by rw [←e];exact ⟨hbx,hgr⟩)
           clear hbx hgr
           generalize ((((((w3.setCell ⟨w.heap.size+1,0,none⟩ (.int .i64 5)).setCell ⟨w.heap.size+1,1,none⟩ (.string ⟨#[58,45]⟩)).setCell ⟨w.heap.size+1,2,none⟩ (.string ⟨#[]⟩)).setCell ⟨w.heap.size+1,3,none⟩ (.int .u64 0)).setCell ⟨w.heap.size+1,4,none⟩ (.int .i64 0)).setCell ⟨w.heap.size+1,5,none⟩ (.slice A0 2 c0))=w4 at *
           have H4:=Qh (H6x.out _ rfl)
           clear H6x
           have H6:=Qh (show TOwn w4 (cmpT sNeck [(cmpT n4 (ts4 ++ [varT N9,varT (N9+1)])),cmpT sComma [(Tm.mk k6 n6 m6 b6 v6 ts6),cmpT sEq [varT (N9+1),(Tm.mk k7 n7 m7 b7 v7 ts7)]]]) (.slice A0 2 c0) u20.heap.size w4.heap.size∧Below w.heap.size w w4∧w4.heap[w.heap.size+1+1]?=some (.cells #[.nilIface] 29 (0,0)) from by
            have h1:=HO3.out.2.2
            have h2:=HBG.out
            exact ⟨(TOwn.keep _ HO3.out.1 (fun b h3 h4=>H4.out.2.block b h4 (fun e=>by injection e with e;omega))).widen H4.out.2.size,HO3.out.2.1.bel.grown H4.out.2 HO3.out.2.1.bel.size (Qg (by omega)),blk_ne H4.out.2 HO3.out.2.1.e (by omega)⟩)
           refine w1 14 fun K hK=>?_
           have cE:=cell_of_one H6.out.2.2
           have fE:=free_of_one H6.out.2.2
           go_simp
           refine hK.out _ _ (fun h=>absurd h (by simp)) ?_
           refine wpAnyW_done (by kernel_rfl) ?_ _
           clear cE fE
           go_wp2
           have hgg:=HBG.out
           have hbx:=H4.out.1.far (p:=⟨w.heap.size+1+1,0,none⟩) (by show w.heap.size+1≠w.heap.size+1+1;omega) .nilIface
           have hE2:=one_setCell (u:=.nilIface) H6.out.2.2
           have how:TOwn (w4.setCell ⟨w.heap.size+1+1,0,none⟩ .nilIface) (cmpT sNeck [(cmpT n4 (ts4 ++ [varT N9,varT (N9+1)])),cmpT sComma [(Tm.mk k6 n6 m6 b6 v6 ts6),cmpT sEq [varT (N9+1),(Tm.mk k7 n7 m7 b7 v7 ts7)]]]) (.slice A0 2 c0) w.heap.size (w4.setCell ⟨w.heap.size+1+1,0,none⟩ .nilIface).heap.size:=((TOwn.keep _ H6.out.1 (fun b h3 h4=>Below.heap_setCell _ _ _ b (by show b≠w.heap.size+1+1;omega))).widen (by simp [World.setCell])).lower (by omega)
           have hbw:Below w.heap.size w (w4.setCell ⟨w.heap.size+1+1,0,none⟩ .nilIface):=H6.out.2.1.setCell (by show w.heap.size≤w.heap.size+1+1;omega) _
           generalize w4.setCell ⟨w.heap.size+1+1,0,none⟩ .nilIface=w5 at *
           change Leaves _ _ _ _ _ .returning _
           refine leaves_cons (f:=29) (args:=#[.pointer (some ⟨w.heap.size+1+1,0,none⟩)]) (by simp) (by simp [go_sem]) ?_
           refine (caught_idle (w.heap.size+1+1) w5).mono ?_
           rintro e u' w'' ⟨rfl,rfl,rfl⟩
           obtain ⟨r0,r1,r2,r3,r4,r5⟩:=hbx.cells (nb:=⟨#[58,45]⟩) (mb:=⟨#[]⟩) rfl rfl
           have cE2:=cell_of_one hE2
           simp only [settle,Leaves]
           first
            | exact ⟨.tuple #[.agg (Qn 5 ⟨#[58,45]⟩ (.slice A0 2 c0)),.nilIface],by simp [results,Tryd.results9,go_sem,r0,r1,r2,r3,r4,r5,cE2],.inr ⟨by first | trivial | rfl,RuleR.mkOk hbw rfl how⟩⟩
            | exact ⟨.tuple #[.agg (Qn 5 ⟨#[58,45]⟩ (.slice A0 2 c0)),.nilIface],by simp [results,Tryd.results9,go_sem,r0,r1,r2,r3,r4,r5,cE2],RuleR.mkOk hbw rfl how⟩
end Go.Proofs.YtgfeainpeplphaaDoor
