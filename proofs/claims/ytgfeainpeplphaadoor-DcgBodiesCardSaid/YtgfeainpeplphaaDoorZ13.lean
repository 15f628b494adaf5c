/- The law DcgBodies of layer 10 answers true for every input, and leaves its arguments as they were; its two listed variables hold what the program's text lays. -/
import Derived.Test.YtgfeainpeplphaaDoorCards
import Derived.Test.YtgfeainpeplphaaDoorTie
import Derived.Lay
import Derived.Test.YtgfeainpeplphaaDoorZ8
import Derived.Test.YtgfeainpeplphaaDoorZ11
import Derived.Test.YtgfeainpeplphaaDoorZ12
set_option linter.unusedVariables false
set_option linter.unusedSimpArgs false
namespace Go.Proofs.YtgfeainpeplphaaDoor
open Go.RowKit Hb Ht
theorem Bodies_walk {w0 w:World} {t f d:Tm} {st sf sd:Value} {nx:Int} {Px:Prop} (h1:TAt w w.heap.size t st) (h2:TAt w w.heap.size f sf) (h3:TAt w w.heap.size d sd) (_:Px) (hf1:Fits t) (hf2:Fits f) (hf3:Fits d) (hU:UOk w0 w) :
  Calls Tryd.prog 4 #[valT t st,valT f sf,valT d sd,.int .i64 nx] w fun e w'=>e = .returned (.bool true)∧Below w.heap.size w w':=
 Bodies_walkM (rMake_any t) h1 h2 h3 hf1 hf2 hf3 hU
end Go.Proofs.YtgfeainpeplphaaDoor
namespace Go.Proofs.YtgfeainpeplphaaDoor
open Go.ChangeShapes Go.WideShapes Go.ChangeAt Go.RowKit Go.Joins Hb Ht
theorem bodies_res:Tryd.f4.resultTypes = #[4]:=by kernel_rfl
set_option maxRecDepth 1000000 in
theorem bodies_contract (H:Type) (enc:TypeId × Value→H) (W:World) (base:Nat) (args:Array Value) (ds gs:List (DataW H)) (before:List MemPlace)
  (hval:∀ (j:Nat) t v,Tryd.f4.params[j]?=some t→args[j]?=some v→Value.okWide Tryd.prog W .any base t v)
  (hW:DataW.Whole enc Tryd.prog Tryd.f4.params.toList Rows.dcgBodiesSpec.vars false W args.toList ds gs before) (hwt:(DataW.weightsEach Tryd.prog (Tryd.f4.params.toList ++ []) (ds ++ gs)).all (· ≤ reachBytes)=true) (hL:laidMetH Tryd.prog Rows.dcgFreshRow.laid W) :
  Calls Tryd.prog 4 args W fun e W'=>∃ v,e = .returned v∧Rows.dcgBodiesSpec.post enc Tryd.prog Tryd.f4 false true false false W args v W':=by
 have hW':=hW
 obtain ⟨p,q,hA0,hV,rfl,hfz,hnd⟩:=hW
 have hA:DataW.TrodAll enc Tryd.prog W 0 (fun _=>true) true Tryd.f4.params.toList args.toList ds p:=hA0
 rw [Tryd.params4] at hA hval hwt
 obtain ⟨v0,vs0,d0,ds0,p0,q0,hargs,rfl,rfl,h0,r0⟩:=trodAll_cons hA
 obtain ⟨v1,vs1,d1,ds1,p1,q1,rfl,rfl,rfl,h1,r1⟩:=trodAll_cons r0
 obtain ⟨v2,vs2,d2,ds2,p2,q2,rfl,rfl,rfl,h2,r2⟩:=trodAll_cons r1
 obtain ⟨v3,vs3,d3,ds3,p3,q3,rfl,rfl,rfl,h3,r3⟩:=trodAll_cons r2
 obtain ⟨rfl,rfl,rfl⟩:=trodAll_nil r3
 obtain rfl:args = #[v0,v1,v2,v3]:=by cases args;simp_all
 obtain ⟨rfl,rfl⟩:=trodVars_none hV
 obtain ⟨t0,sl0,e0,ha0,hf0⟩:=open_Term (hval 0 25 v0 rfl rfl) h0 (arg_weights (j:=0) hwt rfl rfl)
 subst e0
 obtain ⟨t1,sl1,e1,ha1,hf1⟩:=open_Term (hval 1 25 v1 rfl rfl) h1 (arg_weights (j:=1) hwt rfl rfl)
 subst e1
 obtain ⟨t2,sl2,e2,ha2,hf2⟩:=open_Term (hval 2 25 v2 rfl rfl) h2 (arg_weights (j:=2) hwt rfl rfl)
 subst e2
 obtain ⟨x3,rfl,rfl,rfl,hx3⟩:=open_int Tryd.underlying3 (hval 3 3 v3 rfl rfl) h3
 have hwalk:=Bodies_walk (nx:=x3) ha0 ha1 ha2 hx3 hf0 hf1 hf2 (vtabs_laid hL).ok
 refine hwalk.mono fun e W' ⟨he,hb⟩=>?_
 subst he
 refine ⟨_,rfl,law_end (bt:=4) laidK (fun t ht=>?_) bodies_res Tryd.underlying4 rfl hW' rfl hb⟩
 rw [Tryd.params4] at ht
 simp at ht
 rcases ht with rfl | rfl
 all_goals exact ⟨by kernel_rfl,of_decide_eq_true (by kernel_rfl)⟩
theorem bodies_reads (os:Os) {H:Type} (enc:TypeId × Value→H):∃ places,DataW.whole enc Tryd.prog ((dcgWorld os).forCall (fun _ _=>0) ⟨#[],#[.agg #[.int .i64 0,.string ⟨#[]⟩,.string ⟨#[]⟩,.int .u64 0,.int .i64 0,.slice none 0 0],.agg #[.int .i64 0,.string ⟨#[]⟩,.string ⟨#[]⟩,.int .u64 0,.int .i64 0,.slice none 0 0],.agg #[.int .i64 0,.string ⟨#[]⟩,.string ⟨#[]⟩,.int .u64 0,.int .i64 0,.slice none 0 0],.int .i64 0],[]⟩).memory Tryd.f4.params.toList Rows.dcgBodiesSpec.vars false #[Value.agg #[.int .i64 0,.string ⟨#[]⟩,.string ⟨#[]⟩,.int .u64 0,.int .i64 0,.slice none 0 0],Value.agg #[.int .i64 0,.string ⟨#[]⟩,.string ⟨#[]⟩,.int .u64 0,.int .i64 0,.slice none 0 0],Value.agg #[.int .i64 0,.string ⟨#[]⟩,.string ⟨#[]⟩,.int .u64 0,.int .i64 0,.slice none 0 0],Value.int .i64 0].toList 8 =
  some ([.agg [.lit (.int .i64 0),.lit (.string []),.lit (.string []),.lit (.int .u64 0),.lit (.int .i64 0),.nil],.agg [.lit (.int .i64 0),.lit (.string []),.lit (.string []),.lit (.int .u64 0),.lit (.int .i64 0),.nil],.agg [.lit (.int .i64 0),.lit (.string []),.lit (.string []),.lit (.int .u64 0),.lit (.int .i64 0),.nil],.lit (.int .i64 0)],[],places):=
 ⟨[],by kernel_rfl⟩
set_option maxRecDepth 100000 in
theorem bodies_lifted (os:Os) (started:os.Started) (H:Type) (enc:TypeId × Value→H) (F:Stop.Interp) :
  ReturnsInHanded {} Tryd.checked os 4 .any ((OpenSpec.ofChange Rows.dcgBodiesSpec).preRow enc Tryd.prog Tryd.f4 Rows.dcgBodiesRow.domain false Rows.dcgBodiesRow.laid) (((OpenSpec.ofChange Rows.dcgBodiesSpec).at F).post enc Tryd.prog Tryd.f4 false true false false):=by
 obtain ⟨places,hx⟩:=bodies_reads os enc
 refine returnsInHanded_of_row (C:=Tryd.checked) (s:=OpenSpec.ofChange Rows.dcgBodiesSpec) dcgOwn started (by kernel_rfl) Tryd.func4
  (witness_row_atRef (enc:=enc) (C:=Tryd.checked) false (dcgWorld os) #[.agg #[.int .i64 0,.string ⟨#[]⟩,.string ⟨#[]⟩,.int .u64 0,.int .i64 0,.slice none 0 0],.agg #[.int .i64 0,.string ⟨#[]⟩,.string ⟨#[]⟩,.int .u64 0,.int .i64 0,.slice none 0 0],.agg #[.int .i64 0,.string ⟨#[]⟩,.string ⟨#[]⟩,.int .u64 0,.int .i64 0,.slice none 0 0],.int .i64 0] (World.laidAll_os _ _ _) (by kernel_rfl) (by kernel_rfl) (by kernel_rfl)
   (OpenSpec.preRow_of_cond 8 hx (by kernel_rfl) (fun k hk=>by cases hk) (by kernel_rfl) (dcgWorld_met os _))) ?_
 intro W base args ds gs before hval hW _ _ hwt hL _ _
 exact bodies_contract H enc W base args ds gs before hval hW hwt hL
theorem bodies_said:Rows.DcgBodiesSaid:=
 OpenClaim.holds_of_cond 4 Tryd.f4 rfl rfl rfl rfl rfl rfl rfl ⟨rfl,rfl,rfl,rfl,rfl⟩ rfl rfl rfl rfl rfl (by kernel_rfl) Tryd.func4 (by kernel_rfl)
  (of_decide_eq_true (by kernel_rfl)) (by unfold Func.isWrapper;first | (rw [if_pos (by decide +kernel)];kernel_rfl) | (rw [if_neg (by decide +kernel)];exact ⟨rfl,rfl⟩))
  (fun os started H enc _ F=>by rw [OpenClaim.pre_eq_preRow];exact bodies_lifted os started H enc F)
theorem bodies_plain (f:FuncId) (fn:Func) (hf:Tryd.pinned.checked.prog.funcNamed "hornbeam/hornbeamlaw10.DcgBodies" = some f) (hfn:Tryd.pinned.checked.prog.funcs[f]?=some fn) :
  true=Tryd.pinned.checked.prog.looks []∧∀ (j:Nat) t,fn.params[j]?=some t→Tryd.pinned.checked.prog.wantsStandIn t=false:=by
 obtain rfl:f=4:=Option.some.inj ((show Tryd.prog.funcNamed "hornbeam/hornbeamlaw10.DcgBodies" = some 4 by kernel_rfl).symm.trans hf) |>.symm
 obtain rfl:fn=Tryd.f4:=(Option.some.inj (Tryd.func4.symm.trans hfn)).symm
 refine ⟨by kernel_rfl,fun j t ht=>?_⟩
 rw [Tryd.params4] at ht
 have hm:t ∈ [25,25,25,3]:=by simpa using Array.mem_of_getElem? ht
 have hall:([25,25,25,3].all fun u=>!Tryd.prog.wantsStandIn u)=true:=by kernel_rfl
 exact (show Tryd.prog.wantsStandIn t=false by simpa using List.all_eq_true.1 hall t hm)
theorem bodies_card:Rows.DcgBodiesCardSaid:=
 Claim7.holds_tied_plain_at .later [] _ _ _ _ bodies_said (fun _ h=>by cases h) (by kernel_rfl) (fun _ h=>by cases h) dcgBodies_row_tie rfl ⟨rfl,rfl⟩ (by kernel_rfl) rfl bodies_plain (by kernel_rfl)
end Go.Proofs.YtgfeainpeplphaaDoor
