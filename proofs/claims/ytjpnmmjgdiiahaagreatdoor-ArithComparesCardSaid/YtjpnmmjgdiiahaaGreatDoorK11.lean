import Derived.Deep.AppendLies
import Derived.Maps.AppendAt
import Derived.Deep.OwnRows
import Derived.StillTailTactics
import Derived.Test.YtjpnmmjgdiiahaaGreatDoorK10
set_option linter.unusedVariables false
set_option linter.unusedSimpArgs false
namespace Go.Proofs.YtjpnmmjgdiiahaaGreatDoor
section
open Go.RowKit Hb Ht Hq
attribute [local go_sem ↓] Go.wp_at_zero Go.wp_at_succ
theorem lawF:Go.Maps.Keyed Tryz.prog 9:=Go.Maps.string_keyed Tryz.underlying9
abbrev FM (w:World) (b N:Nat) (T:List (List UInt8 × Value)):Prop:=FMap Tryz.prog 9 w b N T
structure MS (w0 w:World) (b N:Nat) (T:List (List UInt8 × Value)) (bx:List (Nat × TypeId × Value)):Prop where
 bel:Below w0.heap.size w0 w
 fm:FM w b N T
 lo:w0.heap.size≤b
 box:∀ p∈bx,UBox w p.1 p.2.1 p.2.2∧p.1≠b
theorem MS.below {w0 w w':World} {b N:Nat} {T:List (List UInt8 × Value)} {bx:List (Nat × TypeId × Value)} (h:MS w0 w b N T bx) (hb:Below w.heap.size w w'):MS w0 w' b N T bx:=
 ⟨h.bel.trans (hb.mono h.bel.size),h.fm.below hb h.fm.lt,h.lo,fun p hp=>⟨(h.box p hp).1.below hb (h.box p hp).1.lt,(h.box p hp).2⟩⟩
theorem MS.more {w0 w:World} {b N:Nat} {T:List (List UInt8 × Value)} {bx:List (Nat × TypeId × Value)} (h:MS w0 w b N T bx) {g:Nat} {t:TypeId} {u:Value} (hu:UBox w g t u) (hg:g≠b):MS w0 w b N T ((g,t,u) :: bx):=
 ⟨h.bel,h.fm,h.lo,fun p hp=>by rcases List.mem_cons.1 hp with rfl | hp;exact ⟨hu,hg⟩;exact h.box p hp⟩
theorem MS.put {w0 w:World} {b N:Nat} {T:List (List UInt8 × Value)} {bx:List (Nat × TypeId × Value)} (h:MS w0 w b N T bx) (hN:N<1000) {s:ByteArray} (hs:s.size≤1000) (x:Value) :
  ∃ w',(Instr.mapUpdate 90 (.map (some b)) (.string s) x).run Tryz.prog w = .ok () w'∧MS w0 w' b (N+1) ((s.data.toList,x) :: T) bx:=by
 obtain ⟨w',h1,h2,h3⟩:=h.fm.store lawF Tryz.underlying9 Tryz.underlying90 (by unfold maxLen;omega) (s:=s) (by unfold maxLen;omega) x
 exact ⟨w',h1,h.bel.grown h3 h.bel.size (fun j e=>by injection e with e;have:=h.lo;omega),h2,h.lo,fun p hp=>⟨(h3.block p.1 (h.box p hp).1.lt (fun e=>by injection e with e;exact (h.box p hp).2 e)).trans (h.box p hp).1,(h.box p hp).2⟩⟩
theorem MS.made (w0:World):MS w0 (w0.alloc (.map #[] 0)) w0.heap.size 0 [] []:=⟨(Below.refl _ _).alloc (Nat.le_refl _) _,FMap.made w0,Nat.le_refl _,fun p hp=>by cases hp⟩
theorem MS.back {w0 w1 w:World} {b N:Nat} {T:List (List UInt8 × Value)} {bx:List (Nat × TypeId × Value)} (h:MS w1 w b N T bx) (hb:Below w0.heap.size w0 w1):MS w0 w b N T bx:=
 ⟨hb.trans (h.bel.mono hb.size),h.fm,Nat.le_trans hb.size h.lo,h.box⟩
theorem run_store_func (P:Program) (w:World) (a:Addr) (m:Mode) (fn:Fn) (first cap:Array Value):(store a (.func fn first cap) m).run P w=stored P w a (.func fn first cap) m:=run_store P w a _ m rfl
attribute [local go_sem] run_store_func
set_option maxRecDepth 100000 in
theorem any_mk (fi ff:FuncId) (w:World):Calls Tryz.prog 105 #[.func (.func fi) #[] #[],.func (.func ff) #[] #[]] w fun e w'=>∃ D E,e = .returned (.func (.func 106) #[] #[.pointer (some ⟨D,0,none⟩),.pointer (some ⟨E,0,none⟩)])∧UBox w' D 134 (.func (.func fi) #[] #[])∧UBox w' E 137 (.func (.func ff) #[] #[])∧w.heap.size≤D∧w.heap.size≤E∧Below w.heap.size w w':=by
 have hmf:∀ (fn:Fn) (first cap:Array Value) (w:World),(Instr.makeFunc fn first cap).run Tryz.prog w = .ok (.func fn first cap) w:=fun _ _ _ _=>rfl
 have h1:UBox (w.alloc (.cells #[.func (.func fi) #[] #[]] 134)) w.heap.size 134 (.func (.func fi) #[] #[]):=heap_alloc_new w _
 have h2:UBox ((w.alloc (.cells #[.func (.func fi) #[] #[]] 134)).alloc (.cells #[.func (.func ff) #[] #[]] 137)) (w.heap.size+1) 137 (.func (.func ff) #[] #[]):=by
  have:=heap_alloc_new (w.alloc (.cells #[.func (.func fi) #[] #[]] 134)) (.cells #[.func (.func ff) #[] #[]] 137)
  rwa [World.size_alloc] at this
 have HU:=Lib.hid (And.intro (h1.below ((Below.refl _ _).alloc (Nat.le_refl _) (.cells #[.func (.func ff) #[] #[]] 137)) h1.lt) (And.intro h2 (show Below w.heap.size w ((w.alloc (.cells #[.func (.func fi) #[] #[]] 134)).alloc (.cells #[.func (.func ff) #[] #[]] 137)) from ((Below.refl _ _).alloc (Nat.le_refl _) _).alloc (by simp) _)))
 clear h1 h2
 go_enter Tryz.func105,Tryz.ntmps105
 go_wp2_with fail
 go_ret
 exact ⟨_,_,rfl,HU.out.1,HU.out.2.1,Nat.le_refl _,Nat.le_succ _,HU.out.2.2⟩
set_option maxRecDepth 100000 in
theorem whole_mk (fi:FuncId) (w:World):Calls Tryz.prog 103 #[.func (.func fi) #[] #[]] w fun e w'=>∃ D,e = .returned (.func (.func 104) #[] #[.pointer (some ⟨D,0,none⟩)])∧UBox w' D 134 (.func (.func fi) #[] #[])∧w.heap.size≤D∧Below w.heap.size w w':=by
 have hmf:∀ (fn:Fn) (first cap:Array Value) (w:World),(Instr.makeFunc fn first cap).run Tryz.prog w = .ok (.func fn first cap) w:=fun _ _ _ _=>rfl
 have HU:=Lib.hid (And.intro (show UBox (w.alloc (.cells #[.func (.func fi) #[] #[]] 134)) w.heap.size 134 (.func (.func fi) #[] #[]) from heap_alloc_new w _) (show Below w.heap.size w (w.alloc (.cells #[.func (.func fi) #[] #[]] 134)) from (Below.refl _ _).alloc (Nat.le_refl _) _))
 go_enter Tryz.func103,Tryz.ntmps103
 go_wp2_with fail
 go_ret
 exact ⟨_,rfl,HU.out.1,Nat.le_refl _,HU.out.2⟩
set_option maxRecDepth 100000 in
theorem round_mk (fi:FuncId) (w:World):Calls Tryz.prog 78 #[.func (.func fi) #[] #[]] w fun e w'=>∃ D,e = .returned (.func (.func 79) #[] #[.pointer (some ⟨D,0,none⟩)])∧UBox w' D 110 (.func (.func fi) #[] #[])∧w.heap.size≤D∧Below w.heap.size w w':=by
 have hmf:∀ (fn:Fn) (first cap:Array Value) (w:World),(Instr.makeFunc fn first cap).run Tryz.prog w = .ok (.func fn first cap) w:=fun _ _ _ _=>rfl
 have HU:=Lib.hid (And.intro (show UBox (w.alloc (.cells #[.func (.func fi) #[] #[]] 110)) w.heap.size 110 (.func (.func fi) #[] #[]) from heap_alloc_new w _) (show Below w.heap.size w (w.alloc (.cells #[.func (.func fi) #[] #[]] 110)) from (Below.refl _ _).alloc (Nat.le_refl _) _))
 go_enter Tryz.func78,Tryz.ntmps78
 go_wp2_with fail
 go_ret
 exact ⟨_,rfl,HU.out.1,Nat.le_refl _,HU.out.2⟩
def twoT (D0 E0 D1 E1 D2 E2 D4 D5 D6 D7 D14 D15 D16 D17:Nat):List (List UInt8 × Value):=[([103,99,100],.func (.func 104) #[] #[.pointer (some ⟨D17,0,none⟩)]),([120,111,114],.func (.func 104) #[] #[.pointer (some ⟨D16,0,none⟩)]),([92,47],.func (.func 104) #[] #[.pointer (some ⟨D15,0,none⟩)]),([47,92],.func (.func 104) #[] #[.pointer (some ⟨D14,0,none⟩)]),([60,60],.func (.func 126) #[] #[]),([62,62],.func (.func 124) #[] #[]),([42,42],.func (.func 123) #[] #[]),([94],.func (.func 123) #[] #[]),([109,97,120],.func (.func 122) #[] #[]),([109,105,110],.func (.func 121) #[] #[]),([109,111,100],.func (.func 104) #[] #[.pointer (some ⟨D7,0,none⟩)]),([100,105,118],.func (.func 104) #[] #[.pointer (some ⟨D6,0,none⟩)]),([114,101,109],.func (.func 104) #[] #[.pointer (some ⟨D5,0,none⟩)]),([47,47],.func (.func 104) #[] #[.pointer (some ⟨D4,0,none⟩)]),([47],.func (.func 114) #[] #[]),([42],.func (.func 106) #[] #[.pointer (some ⟨D2,0,none⟩),.pointer (some ⟨E2,0,none⟩)]),([45],.func (.func 106) #[] #[.pointer (some ⟨D1,0,none⟩),.pointer (some ⟨E1,0,none⟩)]),([43],.func (.func 106) #[] #[.pointer (some ⟨D0,0,none⟩),.pointer (some ⟨E0,0,none⟩)])]
def twoX (D0 E0 D1 E1 D2 E2 D4 D5 D6 D7 D14 D15 D16 D17:Nat):List (Nat × TypeId × Value):=[(D17,134,.func (.func 130) #[] #[]),(D16,134,.func (.func 129) #[] #[]),(D15,134,.func (.func 128) #[] #[]),(D14,134,.func (.func 127) #[] #[]),(D7,134,.func (.func 120) #[] #[]),(D6,134,.func (.func 118) #[] #[]),(D5,134,.func (.func 117) #[] #[]),(D4,134,.func (.func 115) #[] #[]),(E2,137,.func (.func 113) #[] #[]),(D2,134,.func (.func 112) #[] #[]),(E1,137,.func (.func 111) #[] #[]),(D1,134,.func (.func 110) #[] #[]),(E0,137,.func (.func 109) #[] #[]),(D0,134,.func (.func 108) #[] #[])]
set_option maxRecDepth 100000 in
set_option maxHeartbeats 8000000 in
theorem two_ok (w:World):Calls Tryz.prog 46 #[] w fun e w'=>∃ b D0 E0 D1 E1 D2 E2 D4 D5 D6 D7 D14 D15 D16 D17,e = .returned (.map (some b))∧MS w w' b 18 (twoT D0 E0 D1 E1 D2 E2 D4 D5 D6 D7 D14 D15 D16 D17) (twoX D0 E0 D1 E1 D2 E2 D4 D5 D6 D7 D14 D15 D16 D17):=by
 have hmf:∀ (fn:Fn) (first cap:Array Value) (w:World),(Instr.makeFunc fn first cap).run Tryz.prog w = .ok (.func fn first cap) w:=fun _ _ _ _=>rfl
 have hmm:=@run_makeMap Tryz.prog
 have HM:=Lib.hid (MS.made w)
 go_enter Tryz.func46,Tryz.ntmps46
 go_wp2_with fail
 (with_reducible refine (any_mk _ _ _).mono ?_)
 rintro e v0 ⟨D0,E0,rfl,hd,he,hD,hE,hb⟩
 have hlt:=HM.out.fm.lt
 have HM:=Lib.hid (((HM.out.below hb).more hd (by omega)).more he (by omega))
 clear hd he hD hE hb hlt
 go_wp2_with fail
 obtain ⟨w10,hrun,hm⟩:=HM.out.put (by decide) (s:=⟨#[43]⟩) (by decide) (.func (.func 106) #[] #[.pointer (some ⟨D0,0,none⟩),.pointer (some ⟨E0,0,none⟩)])
 have HM:=Lib.hid hm
 clear hm
 go_wp2_with fail
 clear hrun
 (with_reducible refine (any_mk _ _ _).mono ?_)
 rintro e v1 ⟨D1,E1,rfl,hd,he,hD,hE,hb⟩
 have hlt:=HM.out.fm.lt
 have HM:=Lib.hid (((HM.out.below hb).more hd (by omega)).more he (by omega))
 clear hd he hD hE hb hlt
 go_wp2_with fail
 obtain ⟨w11,hrun,hm⟩:=HM.out.put (by decide) (s:=⟨#[45]⟩) (by decide) (.func (.func 106) #[] #[.pointer (some ⟨D1,0,none⟩),.pointer (some ⟨E1,0,none⟩)])
 have HM:=Lib.hid hm
 clear hm
 go_wp2_with fail
 clear hrun
 (with_reducible refine (any_mk _ _ _).mono ?_)
 rintro e v2 ⟨D2,E2,rfl,hd,he,hD,hE,hb⟩
 have hlt:=HM.out.fm.lt
 have HM:=Lib.hid (((HM.out.below hb).more hd (by omega)).more he (by omega))
 clear hd he hD hE hb hlt
 go_wp2_with fail
 obtain ⟨w12,hrun,hm⟩:=HM.out.put (by decide) (s:=⟨#[42]⟩) (by decide) (.func (.func 106) #[] #[.pointer (some ⟨D2,0,none⟩),.pointer (some ⟨E2,0,none⟩)])
 have HM:=Lib.hid hm
 clear hm
 go_wp2_with fail
 clear hrun
 obtain ⟨w13,hrun,hm⟩:=HM.out.put (by decide) (s:=⟨#[47]⟩) (by decide) (.func (.func 114) #[] #[])
 have HM:=Lib.hid hm
 clear hm
 go_wp2_with fail
 clear hrun
 (with_reducible refine (whole_mk _ _).mono ?_)
 rintro e v4 ⟨D4,rfl,hd,hD,hb⟩
 have hlt:=HM.out.fm.lt
 have HM:=Lib.hid ((HM.out.below hb).more hd (by omega))
 clear hd hD hb hlt
 go_wp2_with fail
 obtain ⟨w14,hrun,hm⟩:=HM.out.put (by decide) (s:=⟨#[47,47]⟩) (by decide) (.func (.func 104) #[] #[.pointer (some ⟨D4,0,none⟩)])
 have HM:=Lib.hid hm
 clear hm
 go_wp2_with fail
 clear hrun
 (with_reducible refine (whole_mk _ _).mono ?_)
 rintro e v5 ⟨D5,rfl,hd,hD,hb⟩
 have hlt:=HM.out.fm.lt
 have HM:=Lib.hid ((HM.out.below hb).more hd (by omega))
 clear hd hD hb hlt
 go_wp2_with fail
 obtain ⟨w15,hrun,hm⟩:=HM.out.put (by decide) (s:=⟨#[114,101,109]⟩) (by decide) (.func (.func 104) #[] #[.pointer (some ⟨D5,0,none⟩)])
 have HM:=Lib.hid hm
 clear hm
 go_wp2_with fail
 clear hrun
 (with_reducible refine (whole_mk _ _).mono ?_)
 rintro e v6 ⟨D6,rfl,hd,hD,hb⟩
 have hlt:=HM.out.fm.lt
 have HM:=Lib.hid ((HM.out.below hb).more hd (by omega))
 clear hd hD hb hlt
 go_wp2_with fail
 obtain ⟨w16,hrun,hm⟩:=HM.out.put (by decide) (s:=⟨#[100,105,118]⟩) (by decide) (.func (.func 104) #[] #[.pointer (some ⟨D6,0,none⟩)])
 have HM:=Lib.hid hm
 clear hm
 go_wp2_with fail
 clear hrun
 (with_reducible refine (whole_mk _ _).mono ?_)
 rintro e v7 ⟨D7,rfl,hd,hD,hb⟩
 have hlt:=HM.out.fm.lt
 have HM:=Lib.hid ((HM.out.below hb).more hd (by omega))
 clear hd hD hb hlt
 go_wp2_with fail
 obtain ⟨w17,hrun,hm⟩:=HM.out.put (by decide) (s:=⟨#[109,111,100]⟩) (by decide) (.func (.func 104) #[] #[.pointer (some ⟨D7,0,none⟩)])
 have HM:=Lib.hid hm
 clear hm
 go_wp2_with fail
 clear hrun
 obtain ⟨w18,hrun,hm⟩:=HM.out.put (by decide) (s:=⟨#[109,105,110]⟩) (by decide) (.func (.func 121) #[] #[])
 have HM:=Lib.hid hm
 clear hm
 go_wp2_with fail
 clear hrun
 obtain ⟨w19,hrun,hm⟩:=HM.out.put (by decide) (s:=⟨#[109,97,120]⟩) (by decide) (.func (.func 122) #[] #[])
 have HM:=Lib.hid hm
 clear hm
 go_wp2_with fail
 clear hrun
 obtain ⟨w20,hrun,hm⟩:=HM.out.put (by decide) (s:=⟨#[94]⟩) (by decide) (.func (.func 123) #[] #[])
 have HM:=Lib.hid hm
 clear hm
 go_wp2_with fail
 clear hrun
 obtain ⟨w21,hrun,hm⟩:=HM.out.put (by decide) (s:=⟨#[42,42]⟩) (by decide) (.func (.func 123) #[] #[])
 have HM:=Lib.hid hm
 clear hm
 go_wp2_with fail
 clear hrun
 obtain ⟨w22,hrun,hm⟩:=HM.out.put (by decide) (s:=⟨#[62,62]⟩) (by decide) (.func (.func 124) #[] #[])
 have HM:=Lib.hid hm
 clear hm
 go_wp2_with fail
 clear hrun
 obtain ⟨w23,hrun,hm⟩:=HM.out.put (by decide) (s:=⟨#[60,60]⟩) (by decide) (.func (.func 126) #[] #[])
 have HM:=Lib.hid hm
 clear hm
 go_wp2_with fail
 clear hrun
 (with_reducible refine (whole_mk _ _).mono ?_)
 rintro e v14 ⟨D14,rfl,hd,hD,hb⟩
 have hlt:=HM.out.fm.lt
 have HM:=Lib.hid ((HM.out.below hb).more hd (by omega))
 clear hd hD hb hlt
 go_wp2_with fail
 obtain ⟨w24,hrun,hm⟩:=HM.out.put (by decide) (s:=⟨#[47,92]⟩) (by decide) (.func (.func 104) #[] #[.pointer (some ⟨D14,0,none⟩)])
 have HM:=Lib.hid hm
 clear hm
 go_wp2_with fail
 clear hrun
 (with_reducible refine (whole_mk _ _).mono ?_)
 rintro e v15 ⟨D15,rfl,hd,hD,hb⟩
 have hlt:=HM.out.fm.lt
 have HM:=Lib.hid ((HM.out.below hb).more hd (by omega))
 clear hd hD hb hlt
 go_wp2_with fail
 obtain ⟨w25,hrun,hm⟩:=HM.out.put (by decide) (s:=⟨#[92,47]⟩) (by decide) (.func (.func 104) #[] #[.pointer (some ⟨D15,0,none⟩)])
 have HM:=Lib.hid hm
 clear hm
 go_wp2_with fail
 clear hrun
 (with_reducible refine (whole_mk _ _).mono ?_)
 rintro e v16 ⟨D16,rfl,hd,hD,hb⟩
 have hlt:=HM.out.fm.lt
 have HM:=Lib.hid ((HM.out.below hb).more hd (by omega))
 clear hd hD hb hlt
 go_wp2_with fail
 obtain ⟨w26,hrun,hm⟩:=HM.out.put (by decide) (s:=⟨#[120,111,114]⟩) (by decide) (.func (.func 104) #[] #[.pointer (some ⟨D16,0,none⟩)])
 have HM:=Lib.hid hm
 clear hm
 go_wp2_with fail
 clear hrun
 (with_reducible refine (whole_mk _ _).mono ?_)
 rintro e v17 ⟨D17,rfl,hd,hD,hb⟩
 have hlt:=HM.out.fm.lt
 have HM:=Lib.hid ((HM.out.below hb).more hd (by omega))
 clear hd hD hb hlt
 go_wp2_with fail
 obtain ⟨w27,hrun,hm⟩:=HM.out.put (by decide) (s:=⟨#[103,99,100]⟩) (by decide) (.func (.func 104) #[] #[.pointer (some ⟨D17,0,none⟩)])
 have HM:=Lib.hid hm
 clear hm
 go_wp2_with fail
 clear hrun
 have HE:=Lib.hid (HM.out)
 go_ret
 exact ⟨_,_,_,_,_,_,_,_,_,_,_,_,_,_,_,rfl,HE.out⟩
def oneT (G D6 D7 D8 D9 D10:Nat):List (List UInt8 × Value):=[([115,113,114,116],.func (.func 100) #[] #[]),([102,108,111,97,116,95,102,114,97,99,116,105,111,110,97,108,95,112,97,114,116],.func (.func 99) #[] #[]),([102,108,111,97,116,95,105,110,116,101,103,101,114,95,112,97,114,116],.func (.func 98) #[] #[]),([105,110,116,101,103,101,114],.func (.func 79) #[] #[.pointer (some ⟨D10,0,none⟩)]),([114,111,117,110,100],.func (.func 79) #[] #[.pointer (some ⟨D9,0,none⟩)]),([99,101,105,108,105,110,103],.func (.func 79) #[] #[.pointer (some ⟨D8,0,none⟩)]),([102,108,111,111,114],.func (.func 79) #[] #[.pointer (some ⟨D7,0,none⟩)]),([116,114,117,110,99,97,116,101],.func (.func 79) #[] #[.pointer (some ⟨D6,0,none⟩)]),([102,108,111,97,116],.func (.func 93) #[] #[.pointer (some ⟨G,0,none⟩)]),([92],.func (.func 89) #[] #[]),([115,105,103,110],.func (.func 87) #[] #[]),([97,98,115],.func (.func 85) #[] #[]),([45],.func (.func 82) #[] #[]),([43],.func (.func 81) #[] #[])]
def oneX (G D6 D7 D8 D9 D10:Nat):List (Nat × TypeId × Value):=[(D10,110,.func (.func 97) #[] #[]),(D9,110,.func (.func 97) #[] #[]),(D8,110,.func (.func 96) #[] #[]),(D7,110,.func (.func 95) #[] #[]),(D6,110,.func (.func 67) #[] #[]),(G,125,.func (.func 75) #[] #[])]
set_option maxRecDepth 100000 in
set_option maxHeartbeats 8000000 in
theorem one_ok (w:World):Calls Tryz.prog 45 #[] w fun e w'=>∃ b G D6 D7 D8 D9 D10,e = .returned (.map (some b))∧MS w w' b 14 (oneT G D6 D7 D8 D9 D10) (oneX G D6 D7 D8 D9 D10):=by
 have hmf:∀ (fn:Fn) (first cap:Array Value) (w:World),(Instr.makeFunc fn first cap).run Tryz.prog w = .ok (.func fn first cap) w:=fun _ _ _ _=>rfl
 have hmm:=@run_makeMap Tryz.prog
 obtain ⟨G,hG⟩:∃ G,w.heap.size=G:=⟨_,rfl⟩
 have HU:=Lib.hid (show UBox (w.alloc (.cells #[.func (.func 75) #[] #[]] 125)) G 125 (.func (.func 75) #[] #[]) from hG ▸ heap_alloc_new w _)
 have HBw:=Lib.hid (show Below w.heap.size w (w.alloc (.cells #[.func (.func 75) #[] #[]] 125)) from (Below.refl _ _).alloc (Nat.le_refl _) _)
 have HZw:=Lib.hid (World.size_alloc w (.cells #[.func (.func 75) #[] #[]] 125))
 go_enter Tryz.func45,Tryz.ntmps45
 go_upto_region 3 with fail
 clear hG
 generalize w.alloc (.cells #[.func (.func 75) #[] #[]] 125)=w1 at *
 have HM:=Lib.hid (((MS.made w1).below (Below.refl _ _)).more (HU.out.below (show Below w1.heap.size w1 (w1.alloc (.map #[] 0)) from (Below.refl _ _).alloc (Nat.le_refl _) _) HU.out.lt) (by have:=HU.out.lt;omega))
 go_wp2_with fail
 obtain ⟨w10,hrun,hm⟩:=HM.out.put (by decide) (s:=⟨#[43]⟩) (by decide) (.func (.func 81) #[] #[])
 have HM:=Lib.hid hm
 clear hm
 go_wp2_with fail
 clear hrun
 obtain ⟨w11,hrun,hm⟩:=HM.out.put (by decide) (s:=⟨#[45]⟩) (by decide) (.func (.func 82) #[] #[])
 have HM:=Lib.hid hm
 clear hm
 go_wp2_with fail
 clear hrun
 obtain ⟨w12,hrun,hm⟩:=HM.out.put (by decide) (s:=⟨#[97,98,115]⟩) (by decide) (.func (.func 85) #[] #[])
 have HM:=Lib.hid hm
 clear hm
 go_wp2_with fail
 clear hrun
 obtain ⟨w13,hrun,hm⟩:=HM.out.put (by decide) (s:=⟨#[115,105,103,110]⟩) (by decide) (.func (.func 87) #[] #[])
 have HM:=Lib.hid hm
 clear hm
 go_wp2_with fail
 clear hrun
 obtain ⟨w14,hrun,hm⟩:=HM.out.put (by decide) (s:=⟨#[92]⟩) (by decide) (.func (.func 89) #[] #[])
 have HM:=Lib.hid hm
 clear hm
 go_wp2_with fail
 clear hrun
 obtain ⟨w15,hrun,hm⟩:=HM.out.put (by decide) (s:=⟨#[102,108,111,97,116]⟩) (by decide) (.func (.func 93) #[] #[.pointer (some ⟨G,0,none⟩)])
 have HM:=Lib.hid hm
 clear hm
 go_wp2_with fail
 clear hrun
 (with_reducible refine (round_mk _ _).mono ?_)
 rintro e v6 ⟨D6,rfl,hd,hD,hb⟩
 have hlt:=HM.out.fm.lt
 have HM:=Lib.hid ((HM.out.below hb).more hd (by omega))
 clear hd hD hb hlt
 go_wp2_with fail
 obtain ⟨w16,hrun,hm⟩:=HM.out.put (by decide) (s:=⟨#[116,114,117,110,99,97,116,101]⟩) (by decide) (.func (.func 79) #[] #[.pointer (some ⟨D6,0,none⟩)])
 have HM:=Lib.hid hm
 clear hm
 go_wp2_with fail
 clear hrun
 (with_reducible refine (round_mk _ _).mono ?_)
 rintro e v7 ⟨D7,rfl,hd,hD,hb⟩
 have hlt:=HM.out.fm.lt
 have HM:=Lib.hid ((HM.out.below hb).more hd (by omega))
 clear hd hD hb hlt
 go_wp2_with fail
 obtain ⟨w17,hrun,hm⟩:=HM.out.put (by decide) (s:=⟨#[102,108,111,111,114]⟩) (by decide) (.func (.func 79) #[] #[.pointer (some ⟨D7,0,none⟩)])
 have HM:=Lib.hid hm
 clear hm
 go_wp2_with fail
 clear hrun
 (with_reducible refine (round_mk _ _).mono ?_)
 rintro e v8 ⟨D8,rfl,hd,hD,hb⟩
 have hlt:=HM.out.fm.lt
 have HM:=Lib.hid ((HM.out.below hb).more hd (by omega))
 clear hd hD hb hlt
 go_wp2_with fail
 obtain ⟨w18,hrun,hm⟩:=HM.out.put (by decide) (s:=⟨#[99,101,105,108,105,110,103]⟩) (by decide) (.func (.func 79) #[] #[.pointer (some ⟨D8,0,none⟩)])
 have HM:=Lib.hid hm
 clear hm
 go_wp2_with fail
 clear hrun
 (with_reducible refine (round_mk _ _).mono ?_)
 rintro e v9 ⟨D9,rfl,hd,hD,hb⟩
 have hlt:=HM.out.fm.lt
 have HM:=Lib.hid ((HM.out.below hb).more hd (by omega))
 clear hd hD hb hlt
 go_wp2_with fail
 obtain ⟨w19,hrun,hm⟩:=HM.out.put (by decide) (s:=⟨#[114,111,117,110,100]⟩) (by decide) (.func (.func 79) #[] #[.pointer (some ⟨D9,0,none⟩)])
 have HM:=Lib.hid hm
 clear hm
 go_wp2_with fail
 clear hrun
 (with_reducible refine (round_mk _ _).mono ?_)
 rintro e v10 ⟨D10,rfl,hd,hD,hb⟩
 have hlt:=HM.out.fm.lt
 have HM:=Lib.hid ((HM.out.below hb).more hd (by omega))
 clear hd hD hb hlt
 go_wp2_with fail
 obtain ⟨w20,hrun,hm⟩:=HM.out.put (by decide) (s:=⟨#[105,110,116,101,103,101,114]⟩) (by decide) (.func (.func 79) #[] #[.pointer (some ⟨D10,0,none⟩)])
 have HM:=Lib.hid hm
 clear hm
 go_wp2_with fail
 clear hrun
 obtain ⟨w21,hrun,hm⟩:=HM.out.put (by decide) (s:=⟨#[102,108,111,97,116,95,105,110,116,101,103,101,114,95,112,97,114,116]⟩) (by decide) (.func (.func 98) #[] #[])
 have HM:=Lib.hid hm
 clear hm
 go_wp2_with fail
 clear hrun
 obtain ⟨w22,hrun,hm⟩:=HM.out.put (by decide) (s:=⟨#[102,108,111,97,116,95,102,114,97,99,116,105,111,110,97,108,95,112,97,114,116]⟩) (by decide) (.func (.func 99) #[] #[])
 have HM:=Lib.hid hm
 clear hm
 go_wp2_with fail
 clear hrun
 obtain ⟨w23,hrun,hm⟩:=HM.out.put (by decide) (s:=⟨#[115,113,114,116]⟩) (by decide) (.func (.func 100) #[] #[])
 have HM:=Lib.hid hm
 clear hm
 go_wp2_with fail
 clear hrun
 have HE:=Lib.hid (HM.out.back HBw.out)
 go_ret
 exact ⟨_,_,_,_,_,_,_,rfl,HE.out⟩
end
section
open Go.RowKit Hb Ht
theorem infoN:(Tryz.prog.info? 70).map (fun i=>(i.zero,i.size,i.bytes))=some (some (.agg #[.bool false,.slice none 0 0,.float .f64 0,.bool false]),4,48):=by kernel_rfl
structure NRow (w:World) (B:Nat) (P:Nat→Prop) (A:Option Addr) (n c:Nat) (qs:List Nv):Prop where
 own:w.ownsRow B 70 4 (.slice A n c) n (fl4 qs)
 kid:∀ q∈qs,q.At w (fun b=>P b∧(Value.slice A n c).ownBlock≠some b)
section
variable {w w':World} {B:Nat} {P:Nat→Prop} {A:Option Addr} {n c:Nat} {qs:List Nv}
theorem NRow.len (h:NRow w B P A n c qs):qs.length=n:=by have:=h.own.1;rw [fl4_length] at this;omega
theorem NRow.nil (w:World) (B:Nat) (P:Nat→Prop):NRow w B P none 0 0 []:=⟨⟨rfl,.inl ⟨rfl,rfl⟩⟩,fun p hp=>by cases hp⟩
theorem NRow.block (h:NRow w B P A n c qs):(A=none∧n=0)∨∃ g,A=some ⟨g,0,none⟩∧B≤g∧g<w.heap.size∧(Value.slice A n c).ownBlock=some g:=by
 rcases h.own.2 with ⟨h1,_⟩ | ⟨g,cap,cur,h1,h2,h3,_⟩
 ·injection h1 with a b c;exact .inl ⟨a,b⟩
 ·injection h1 with a b c
  subst a
  exact .inr ⟨g,rfl,h2,(Array.getElem?_eq_some_iff.1 h3).1,rfl⟩
theorem NRow.keepP (h:NRow w B P A n c qs) (hb:∀ b,B≤b→b<w.heap.size→w'.heap[b]?=w.heap[b]?) (hP:∀ b,P b→w'.heap[b]?=w.heap[b]?):NRow w' B P A n c qs:=by
 refine ⟨⟨h.own.1,?_⟩,fun p hp=>(h.kid p hp).keep (fun b hb2=>⟨hb2,hP b hb2.1⟩)⟩
 rcases h.own.2 with h1 | ⟨g,cap,cur,h1,h2,h3,h4⟩
 ·exact .inl h1
 ·exact .inr ⟨g,cap,cur,h1,h2,(hb g h2 (Array.getElem?_eq_some_iff.1 h3).1).trans h3,h4⟩
theorem NRow.wide {Q:Nat→Prop} (h:NRow w B P A n c qs) (hP:∀ b,P b→Q b):NRow w B Q A n c qs:=
 ⟨h.own,fun p hp=>(h.kid p hp).keep (fun b hb2=>⟨⟨hP b hb2.1,hb2.2⟩,rfl⟩)⟩
theorem NRow.up {lo:Nat} (h:NRow w B (fun b=>lo≤b∧b<w.heap.size) A n c qs) (hb:Below w.heap.size w w'):NRow w' B (fun b=>lo≤b∧b<w'.heap.size) A n c qs:=
 (h.keepP (fun b _ h2=>hb.block b h2) (fun b h2=>hb.block b h2.2)).wide (fun b h2=>⟨h2.1,Nat.lt_of_lt_of_le h2.2 hb.size⟩)
theorem NRow.rd {lo:Nat} (h:NRow w B (fun b=>lo≤b∧b<w.heap.size) A n c qs):NRd lo w A n qs:=by
 refine ⟨h.len,fun hne=>?_,fun q hq=>(h.kid q hq).wide (fun b hb=>hb.1)⟩
 have hn:0<n:=by rw [←h.len];exact List.length_pos_iff.2 hne
 rcases h.block with ⟨_,h0⟩ | ⟨g,rfl,hB,hg,_⟩
 ·omega
 ·refine ⟨g,0,rfl,hg,fun i u hi=>?_⟩
  have h9:=World.ownsRow.cells h.own (g:=g) rfl _ _ hi
  rw [add_zero'] at h9
  rw [Nat.zero_add]
  exact h9
end
theorem wpList_append_N {ops:Array Oper} {rest:List Oper} {o:Oper} {a:Act} {Q:Exit→Act→World→Prop} {w:World} (hgd:o.guard=none) (s x:Operand)
  (ho:o.op = .call { callee:=.builtin .append,args:=#[s,x],argTypes:=#[127,127] })
  {B:Nat} {P:Nat→Prop} {A:Option Addr} {n c:Nat} {ps:List Nv} (qs:List Nv) (hs:a.eval s = .slice A n c) (h:NRow w B P A n c ps) (hP:∀ b,P b→b<w.heap.size)
  (ad:Addr) (m c2:Nat) (hx:a.eval x = .slice (some ad) m c2) (hq:qs.length=m) (hk:∀ q∈qs,q.At w (fun b=>P b∧(Value.slice A n c).ownBlock≠some b)) (hnews:∀ j u,(fl4 qs)[j]?=some u→w.cell? (ad.add j)=some u)
  (hm:n+m≤1000) (hb:B≤w.heap.size)
  (hh:∀ A' c' w',NRow w' B P A' (n+m) c' (ps ++ qs)→Below B w w'→w.grownBy w' (Value.slice A n c).ownBlock→wpList Tryz.prog ops Q rest (a.put o.dst (.slice A' (n+m) c')) w') :
  wpList Tryz.prog ops Q (o :: rest) a w:=by
 obtain ⟨i0,hi,hz0,hz1,hz2⟩:=info_parts infoN
 have hml:n+m≤maxLen:=by unfold maxLen;omega
 have hmb:(n+m) * 48≤140737488355328:=by omega
 refine wpList_append_own_at _ hgd s x 127 ho B 70 i0 (.agg #[.bool false,.slice none 0 0,.float .f64 0,.bool false]) 4 48 Tryz.underlying127 hi hz0 hz1 hz2 rfl (by decide) _ n (fl4 ps) hs h.own ad m c2 (fl4 qs) hx (by rw [fl4_length,hq]) hnews (fl4_one qs) hml hmb hb ?_
 intro v' w' ho' hg _ hv
 have hf:∃ A' c',v' = .slice A' (n+m) c':=by
  rcases ho'.2 with ⟨h1,h2⟩ | ⟨g',cap,cur,h1,_⟩
  ·exact ⟨none,0,by rw [h1,h2]⟩
  ·exact ⟨_,cap,h1⟩
 obtain ⟨A',c',rfl⟩:=hf
 refine hh A' c' w' ⟨by rw [fl4_append];exact ho',fun p hp=>?_⟩ ⟨hg.os,hg.tape,hg.output,hg.size,fun j hj=>hg.block j (Nat.lt_of_lt_of_le hj hb) (fun e2=>?_)⟩ hg
 ·have hkid:p.At w (fun b=>P b∧(Value.slice A n c).ownBlock≠some b):=by
   rcases List.mem_append.1 hp with hp | hp
   ·exact h.kid p hp
   ·exact hk p hp
  refine hkid.keep (fun b hb2=>⟨⟨hb2.1,?_⟩,hg.block b (hP b hb2.1) (fun e=>hb2.2 e.symm)⟩)
  rcases hv with hv | hv
  ·rw [hv];exact hb2.2
  ·rw [hv];intro e;have:=hP b hb2.1;injection e with e;omega
 ·rcases h.block with ⟨h1,_⟩ | ⟨g,h1,h2,h3,h4⟩
  ·subst h1;simp [Value.ownBlock] at e2
  ·rw [h4] at e2;injection e2 with e2;omega
end
section
open Go.RowKit Hb Ht Hq
attribute [local go_sem ↓] Go.wp_at_zero Go.wp_at_succ
attribute [local go_sem] run_store_float
def sumI (a b:Int):Int × Int:=(a+b,err (tooLong (a+b)))
def difI (a b:Int):Int × Int:=(a - b,err (tooLong (a - b)))
def mulI (a b:Int):Int × Int:=(a * b,err (tooLong (a * b)))
def sumF (a b:Nat):Nat:=(Ieee.double.add a b).getD 0
def difF (a b:Nat):Nat:=(Ieee.double.sub a b).getD 0
def mulF (a b:Nat):Nat:=(Ieee.double.mul a b).getD 0
theorem err_short {z:Int} : err (tooLong z)=0→tooLong z=false:=by
 cases h:tooLong z with
 | true=>intro h9;exact absurd h9 (by decide)
 | false=>intro _;rfl
def IFn (fi:FuncId) (I:Int→Int→Int × Int):Prop:=FnB fi∧∀ (q1 q2:Nv) (y:World),q1.At y (fun b=>b<y.heap.size)→q2.At y (fun b=>b<y.heap.size)→Calls Tryz.prog fi #[.agg #[.bool q1.g,.slice q1.A q1.n q1.c],.agg #[.bool q2.g,.slice q2.A q2.n q2.c]] y (IPost y (I (ival q1.g q1.l) (ival q2.g q2.l)).1 (I (ival q1.g q1.l) (ival q2.g q2.l)).2)
def FFn (ff:FuncId) (p:Nat→Nat→Prop) (Fo:Nat→Nat→Nat):Prop:=FnB ff∧∀ a b,Flo64 a→Flo64 b→p a b→Num64 (Fo a b)∧∀ y,Calls Tryz.prog ff #[.float .f64 a,.float .f64 b] y (fun e w'=>e = .returned (.float .f64 (Fo a b))∧y=w')
theorem Add_fn:IFn 108 sumI:=⟨fun _ _=>by kernel_rfl,fun q1 q2 y h1 h2=>by
 have h:=Add_any q1.g q2.g (w:=y) (h1.lim.sl (fun b hb=>hb)) (h2.lim.sl (fun b hb=>hb)) (Nat.le_trans h1.sm (by decide)) (Nat.le_trans h2.sm (by decide)) (Nat.le_refl _) (Nat.le_refl _)
 rw [lng_ival rfl,lng_ival rfl,h1.sh,h2.sh,Bool.false_or,Bool.false_or] at h
 exact h.mono fun e w' hh=>hh.num err_short⟩
theorem Sub_fn:IFn 110 difI:=⟨fun _ _=>by kernel_rfl,fun q1 q2 y h1 h2=>by
 have h:=Sub_any q1.g q2.g (w:=y) (h1.lim.sl (fun b hb=>hb)) (h2.lim.sl (fun b hb=>hb)) (Nat.le_trans h1.sm (by decide)) (Nat.le_trans h2.sm (by decide)) (Nat.le_refl _) (Nat.le_refl _)
 rw [lng_ival rfl,lng_ival rfl,h1.sh,h2.sh,Bool.false_or,Bool.false_or] at h
 exact h.mono fun e w' hh=>hh.num err_short⟩
theorem Mul_fn:IFn 112 mulI:=⟨fun _ _=>by kernel_rfl,fun q1 q2 y h1 h2=>by
 have h:=Mul_any q1.g q2.g (w:=y) (h1.lim.sl (fun b hb=>hb)) (h2.lim.sl (fun b hb=>hb)) (Nat.le_trans (Nat.add_le_add h1.sm h2.sm) (by decide)) (Nat.le_refl _) (Nat.le_refl _)
 rw [lng_ival rfl,lng_ival rfl,h1.sh,h2.sh,Bool.false_or,Bool.false_or] at h
 exact h.mono fun e w' hh=>hh.num err_short⟩
set_option maxRecDepth 100000 in
theorem add_fn:FFn 109 (fun _ _=>True) sumF:=⟨fun _ _=>by kernel_rfl,fun a b ha hb _=>by
 obtain ⟨r,hr,hn⟩:=add_num ha.1 hb.1
 have hF:sumF a b=r:=by unfold sumF;rw [hr];rfl
 rw [hF]
 refine ⟨hn,fun y=>?_⟩
 have hop:∀ w1,(binOp .add 68 (.float .f64 a) (.float .f64 b)).run Tryz.prog w1 = .ok (.float .f64 r) w1:=fun w1=>run_float_arith w1 .add _ .f64 _ _ _ hr
 go_enter Tryz.func109,Tryz.ntmps109
 go_wp2
 go_ret
 exact ⟨rfl,rfl⟩⟩
set_option maxRecDepth 100000 in
theorem sub_fn:FFn 111 (fun _ _=>True) difF:=⟨fun _ _=>by kernel_rfl,fun a b ha hb _=>by
 obtain ⟨r,hr,hn⟩:=sub_num ha.1 hb.1
 have hF:difF a b=r:=by unfold difF;rw [hr];rfl
 rw [hF]
 refine ⟨hn,fun y=>?_⟩
 have hop:∀ w1,(binOp .sub 68 (.float .f64 a) (.float .f64 b)).run Tryz.prog w1 = .ok (.float .f64 r) w1:=fun w1=>run_float_arith w1 .sub _ .f64 _ _ _ hr
 go_enter Tryz.func111,Tryz.ntmps111
 go_wp2
 go_ret
 exact ⟨rfl,rfl⟩⟩
set_option maxRecDepth 100000 in
theorem mul_fn:FFn 113 (fun _ _=>True) mulF:=⟨fun _ _=>by kernel_rfl,fun a b ha hb _=>by
 obtain ⟨r,hr,hn⟩:=mul_num ha.1 hb.1
 have hF:mulF a b=r:=by unfold mulF;rw [hr];rfl
 rw [hF]
 refine ⟨hn,fun y=>?_⟩
 have hop:∀ w1,(binOp .mul 68 (.float .f64 a) (.float .f64 b)).run Tryz.prog w1 = .ok (.float .f64 r) w1:=fun w1=>run_float_arith w1 .mul _ .f64 _ _ _ hr
 go_enter Tryz.func113,Tryz.ntmps113
 go_wp2
 go_ret
 exact ⟨rfl,rfl⟩⟩
def DoP (F:FuncId) (caps:Array Value) (f:Nm→Nm→Rs) (w0:World):Prop:=FnB F∧∀ (lo:Nat) (y:World) (A:Option Addr) (c:Nat) (q1 q2:Nv),Below w0.heap.size w0 y→lo≤y.heap.size→NRd lo y A 2 [q1,q2]→Calls Tryz.prog F (#[.slice A 2 c] ++ caps) y (NPostL lo y (f q1.nm q2.nm))
theorem floR_flo {x:Nm} {a:Nat} {q:Nv} {w:World} {P:Nat→Prop} (h:q.At w P) (e:floR q.nm=some a):Flo64 a:=by
 unfold Nv.nm at e
 cases hb:q.b with
 | true=>rw [hb] at e;simp only [if_true] at e;injection e with e;subst e;exact h.fl
 | false=>
  rw [hb] at e
  simp only [Bool.false_eq_true,if_false] at e
  unfold floR at e
  simp only at e
  by_cases hc:tfC (ival q.g q.l)=0
  ·rw [if_pos hc] at e;injection e with e;subst e;exact tfB_flo h.sh hc
  ·rw [if_neg hc] at e;cases e
theorem NPostL.low {lo:Nat} {w w':World} {r:Rs} {e:Ending} (h:NPost w r e w') (hl:lo≤w.heap.size):NPostL lo w r e w':=by
 obtain ⟨hb,q,ev,he,ho⟩:=h
 exact ⟨hb,q,ev,he,ho.lower hl (Nat.le_refl _)⟩
theorem any_do {fi ff:FuncId} {I:Int→Int→Int × Int} {Fo:Nat→Nat→Nat} (hI:IFn fi I) (hF:FFn ff (fun _ _=>True) Fo) {w0:World} {D E:Nat} (hD:UBox w0 D 134 (.func (.func fi) #[] #[])) (hE:UBox w0 E 137 (.func (.func ff) #[] #[])) :
  DoP 106 #[.pointer (some ⟨D,0,none⟩),.pointer (some ⟨E,0,none⟩)] (bothR I Fo) w0:=by
 refine ⟨fun _ _=>by kernel_rfl,fun lo y A c q1 q2 hy hlo hr=>?_⟩
 have k1:q1.At y (fun b=>b<y.heap.size):=(hr.kid q1 (by simp)).wide (fun b hb=>hb.2)
 have k2:q2.At y (fun b=>b<y.heap.size):=(hr.kid q2 (by simp)).wide (fun b hb=>hb.2)
 refine (any_ok hr (hD.below hy hD.lt) (hE.below hy hE.lt) I Fo (fun a b e1 e2=>⟨fi,rfl,hI.1,fun y2 hy2=>?_⟩) (fun _=>⟨ff,rfl,hF.1,fun a b e1 e2=>hF.2 a b (floR_flo (x:=.int 0) k1 e1) (floR_flo (x:=.int 0) k2 e2) trivial⟩)).mono fun e w' h=>NPostL.low h hlo
 have h:=hI.2 q1 q2 y2 (k1.up hy2) (k2.up hy2)
 have g1:ival q1.g q1.l=a:=by
  unfold Nv.nm at e1
  cases hb:q1.b with
  | true=>rw [hb] at e1;simp at e1
  | false=>rw [hb] at e1;simpa using e1
 have g2:ival q2.g q2.l=b:=by
  unfold Nv.nm at e2
  cases hb:q2.b with
  | true=>rw [hb] at e2;simp at e2
  | false=>rw [hb] at e2;simpa using e2
 rw [g1,g2] at h
 exact h
theorem DoP.below {F:FuncId} {caps:Array Value} {f:Nm→Nm→Rs} {w0 w:World} (h:DoP F caps f w0) (hb:Below w0.heap.size w0 w):DoP F caps f w:=
 ⟨h.1,fun lo y A c q1 q2 hy=>h.2 lo y A c q1 q2 (hb.trans (hy.mono hb.size))⟩
def Desk (K:List UInt8→Option (Nm→Nm→Rs)) (w:World) (b2:Nat):Prop:=∃ T N,FM w b2 N T∧∀ nm f,K nm=some f→∃ F caps,T.lookup nm=some (.func (.func F) #[] caps)∧DoP F caps f w
theorem Desk.below {K:List UInt8→Option (Nm→Nm→Rs)} {w w':World} {b2:Nat} (h:Desk K w b2) (hb:Below w.heap.size w w'):Desk K w' b2:=by
 obtain ⟨T,N,h1,h2⟩:=h
 exact ⟨T,N,h1.below hb h1.lt,fun nm f e=>by
  obtain ⟨F,caps,e1,e2⟩:=h2 nm f e
  exact ⟨F,caps,e1,e2.below hb⟩⟩
def seqR (r1 r2:Rs) (f:Nm→Nm→Rs):Rs:=match r1 with
 | .bad t=>.bad t
 | .ok x=>match r2 with
  | .bad t=>.bad t
  | .ok y=>f x y
inductive Ev (K:List UInt8→Option (Nm→Nm→Rs)):Tm→Rs→Prop
 | num {t:Tm} {x:Nm} (h:nmOf t=some x) (ho:RdOk t):Ev K t (.ok x)
 | two {s:List UInt8} {a b:Tm} {r1 r2:Rs} {f:Nm→Nm→Rs} (hf:K s=some f) (h1:Ev K a r1) (h2:Ev K b r2):Ev K (cmpT s [a,b]) (seqR r1 r2 f)
def EvOk (K:List UInt8→Option (Nm→Nm→Rs)) (t:Tm) (r:Rs):Prop:=∀ (w:World) (sl:Value) (b1:Option Nat) (b2:Nat),TAt w w.heap.size t sl→Desk K w b2→Calls Tryz.prog 47 #[.agg #[.map b1,.map (some b2)],valT t sl] w (NPost w r)
set_option maxRecDepth 100000 in
set_option maxHeartbeats 4000000 in
theorem eval_num {K:List UInt8→Option (Nm→Nm→Rs)} {t:Tm} {x:Nm} (hx:nmOf t=some x) (ho:RdOk t):EvOk K t (.ok x):=by
 intro w sl b1 b2 h _
 have HRd:=Lib.hid (fun (y:World) (hy:Below w.heap.size w y)=>read_ok (h.to hy hy.size) ho)
 obtain ⟨k,nl,ml,b,v,ts,nb,mb,A,c,rfl,rfl,hnb,hmb,hl1,hl2,hl3,hv,hs1,hs2⟩:=h.letters
 rw [hv] at HRd ⊢
 obtain ⟨q,hq⟩:∃ q,ts.length=q:=⟨_,rfl⟩
 rw [hq] at HRd ⊢
 generalize hT:(Tm.mk k nl ml b v ts)=T at *
 have h1:Below w.heap.size w (w.alloc (.cells #[.map b1,.map (some b2)] 93)):=(Below.refl _ _).alloc (Nat.le_refl _) _
 have hX1:=TBox.new (ts:=ts) (w.alloc (.cells #[.map b1,.map (some b2)] 93)) (k:=k) (b:=b) (v:=v) (sl:=.slice A q c) hnb hmb
 have h2:=h1.alloc h1.size (.cells #[.int .i64 k,.string nb,.string mb,.int .u64 b,.int .i64 v,.slice A q c] 25)
 have hX0:=NBox.new ((w.alloc (.cells #[.map b1,.map (some b2)] 93)).alloc (.cells #[.int .i64 k,.string nb,.string mb,.int .u64 b,.int .i64 v,.slice A q c] 25)) nought
 have h3:=h2.alloc h2.size (.cells nought.vals.toArray 70)
 have hX1b:=hX1.below ((Below.refl _ _).alloc (Nat.le_refl _) (.cells nought.vals.toArray 70))
 have hZ:=World.size_alloc ((w.alloc (.cells #[.map b1,.map (some b2)] 93)).alloc (.cells #[.int .i64 k,.string nb,.string mb,.int .u64 b,.int .i64 v,.slice A q c] 25)) (.cells nought.vals.toArray 70)
 have hz1:=World.size_alloc w (.cells #[.map b1,.map (some b2)] 93)
 have hz2:=World.size_alloc (w.alloc (.cells #[.map b1,.map (some b2)] 93)) (.cells #[.int .i64 k,.string nb,.string mb,.int .u64 b,.int .i64 v,.slice A q c] 25)
 rw [hz2,hz1] at hX0 hZ
 rw [hz1] at hX1b
 obtain ⟨x0,x1,x2,x3,x4,x5⟩:=hX1b.cells hnb hmb
 have HX:=Lib.hid hX0
 have HB:=Lib.hid h3
 have HZ:=Lib.hid hZ
 have HN:=Lib.hid hx
 simp only [nought,Nv.vals] at HX HB HZ x0 x1 x2 x3 x4 x5
 clear h1 hX1 h2 hX0 h3 hX1b hZ hz1 hz2 h hx ho hv hl1 hl2 hl3 hs1 hs2 hnb hmb hq hT
 go_enter Tryz.func47,Tryz.ntmps47
 go_upto_region 1 with fail
 generalize ((w.alloc (.cells #[.map b1,.map (some b2)] 93)).alloc (.cells #[.int .i64 k,.string nb,.string mb,.int .u64 b,.int .i64 v,.slice A q c] 25)).alloc (.cells #[.bool false,.slice none 0 0,.float .f64 0,.bool false] 70)=w0 at *
 go_wp2_with fail
 (with_reducible refine (HRd.out _ HB.out).mono ?_)
 rintro e w1 ⟨hb1,qa,ok,rfl,hqa,hra⟩
 rcases hra with ⟨rfl,hra⟩ | ⟨_,hra⟩
 rotate_left
 ·rw [HN.out] at hra;cases hra
 have HRx:=Lib.hid (show x=qa.nm from by rw [HN.out] at hra;injection hra)
 obtain ⟨ga,Aa,na,ca,la,fa,ba⟩:=qa
 simp only [Nv.v,Nv.vals]
 have HNa:=Lib.hid (NBox.new w1 ⟨ga,Aa,na,ca,la,fa,ba⟩)
 have HBx:=Lib.hid ((Below.refl w1.heap.size w1).alloc (Nat.le_refl _) (.cells (Nv.vals ⟨ga,Aa,na,ca,la,fa,ba⟩).toArray 70))
 have HB1:=Lib.hid ((HB.out.trans (hb1.mono HB.out.size)).trans (HBx.out.mono (Nat.le_trans HB.out.size hb1.size)))
 have HX1:=Lib.hid ((HX.out.below hb1 HX.out.lt).below HBx.out (Nat.lt_of_lt_of_le HX.out.lt hb1.size))
 have HQ:=Lib.hid ((hqa.wide (Q:=fun b=>w.heap.size≤b∧b<w1.heap.size) (fun b hb=>⟨Nat.le_trans HB.out.size hb.1,hb.2⟩)).upL HBx.out)
 simp only [Nv.vals] at HNa HBx HB1 HX1 HQ
 clear hb1 hqa hra x0 x1 x2 x3 x4 x5 HRd HX HN
 go_upto_region 2 with fail
 generalize w1.alloc (.cells #[.bool ga,.slice Aa na ca,.float .f64 fa,.bool ba] 70)=w2 at *
 obtain ⟨a0,a1,a2,a3⟩:=HNa.out.cells
 obtain ⟨c0,c1',c2,c3⟩:=HX1.out.cells
 obtain ⟨z0,z1,z2,z3⟩:=HX1.out.frozens
 have hS:=HX1.out.set4 ⟨ga,Aa,na,ca,la,fa,ba⟩
 simp only [nought] at a0 a1 a2 a3 c0 c1' c2 c3 hS
 go_wp2_with fail
 obtain ⟨r0,r1,r2,r3⟩:=hS.1.cells
 simp only at r0 r1 r2 r3
 refine bodyPost_ret (v:=.tuple #[.agg #[.bool ga,.slice Aa na ca,.float .f64 fa,.bool ba],.nilIface]) (by simp [results,Tryz.results47,go_sem,r0,r1,r2,r3]) rfl ?_
 have hz:=HZ.out
 rw [HRx.out]
 exact NPost.fin (q:=⟨ga,Aa,na,ca,la,fa,ba⟩) HB1.out (by omega) HX1.out (.inl ⟨rfl,rfl,HQ.out⟩) hS.2
structure EL (W0:World) (r1 r2:Rs) (i:Nat) (A:Option Addr) (c:Nat) (qs:List Nv) (wr:World):Prop where
 bel:Below W0.heap.size W0 wr
 row:NRow wr W0.heap.size (fun b=>W0.heap.size≤b∧b<wr.heap.size) A i c qs
 pro:(i=0∧qs = [])∨(i=1∧∃ q1,qs = [q1]∧r1 = .ok q1.nm)∨(i=2∧∃ q1 q2,qs = [q1,q2]∧r1 = .ok q1.nm∧r2 = .ok q2.nm)
set_option maxRecDepth 100000 in
set_option maxHeartbeats 8000000 in
theorem eval_two {K:List UInt8→Option (Nm→Nm→Rs)} {s:List UInt8} {ta tb:Tm} {r1 r2:Rs} {f:Nm→Nm→Rs} (hf:K s=some f) (h1:EvOk K ta r1) (h2:EvOk K tb r2):EvOk K (cmpT s [ta,tb]) (seqR r1 r2 f):=by
 intro w sl b1 b2 h hD
 obtain ⟨A,c,hsl,hl1,hl2,hl3,ho,hargs⟩:=TAtP.iff.1 h
 have hs1:s.length≤maxLen:=ho.1
 subst hsl
 change TAt w w.heap.size (cmpT s [ta,tb]) (.slice A 2 c) at h
 obtain ⟨nb,hnb⟩:∃ nb:ByteArray,(⟨s.toArray⟩:ByteArray)=nb:=⟨_,rfl⟩
 have HRd:=Lib.hid (fun (y:World) (hy:Below w.heap.size w y)=>read_ok (h.to hy hy.size) (t:=cmpT s [ta,tb]) ⟨fun e=>absurd e (by show ¬(5:Int)=3;decide),fun e=>absurd e (by show ¬(5:Int)=4;decide)⟩)
 have hv:valT (cmpT s [ta,tb]) (.slice A 2 c) = .agg #[.int .i64 5,.string nb,.string ⟨#[]⟩,.int .u64 0,.int .i64 0,.slice A 2 c]:=by rw [←hnb];rfl
 rw [hv] at HRd
 show Calls Tryz.prog _ #[_,valT (cmpT s [ta,tb]) (.slice A 2 c)] _ _
 rw [hv]
 have g1:Below w.heap.size w (w.alloc (.cells #[.map b1,.map (some b2)] 93)):=(Below.refl _ _).alloc (Nat.le_refl _) _
 have hDb:(w.alloc (.cells #[.map b1,.map (some b2)] 93)).heap[w.heap.size]?=some (.cells #[.map b1,.map (some b2)] 93 (0,0)):=heap_alloc_new w _
 have hX1:=TBox.new (ts:=[ta,tb]) (w.alloc (.cells #[.map b1,.map (some b2)] 93)) (k:=5) (b:=0) (v:=0) (n:=s) (m:=[]) (sl:=.slice A 2 c) hnb rfl
 have g2:=g1.alloc g1.size (.cells #[.int .i64 5,.string nb,.string ⟨#[]⟩,.int .u64 0,.int .i64 0,.slice A 2 c] 25)
 have hX0:=NBox.new ((w.alloc (.cells #[.map b1,.map (some b2)] 93)).alloc (.cells #[.int .i64 5,.string nb,.string ⟨#[]⟩,.int .u64 0,.int .i64 0,.slice A 2 c] 25)) nought
 have g3:=g2.alloc g2.size (.cells nought.vals.toArray 70)
 have hX1b:=hX1.below ((Below.refl _ _).alloc (Nat.le_refl _) (.cells nought.vals.toArray 70))
 have hz1:=World.size_alloc w (.cells #[.map b1,.map (some b2)] 93)
 have hz2:=World.size_alloc (w.alloc (.cells #[.map b1,.map (some b2)] 93)) (.cells #[.int .i64 5,.string nb,.string ⟨#[]⟩,.int .u64 0,.int .i64 0,.slice A 2 c] 25)
 have hZ:=World.size_alloc ((w.alloc (.cells #[.map b1,.map (some b2)] 93)).alloc (.cells #[.int .i64 5,.string nb,.string ⟨#[]⟩,.int .u64 0,.int .i64 0,.slice A 2 c] 25)) (.cells nought.vals.toArray 70)
 have hDc:=((Below.refl (w.heap.size+1) (w.alloc (.cells #[.map b1,.map (some b2)] 93))).alloc (by omega) (.cells #[.int .i64 5,.string nb,.string ⟨#[]⟩,.int .u64 0,.int .i64 0,.slice A 2 c] 25)).alloc (by rw [hz2];omega) (.cells nought.vals.toArray 70)
 have HDb:=Lib.hid ((hDc.block w.heap.size (by omega)).trans hDb)
 rw [hz2,hz1] at hX0 hZ
 rw [hz1] at hX1b
 have HT:=Lib.hid hX1b
 have HX:=Lib.hid hX0
 have HB:=Lib.hid g3
 have HZ:=Lib.hid hZ
 have HH:=Lib.hid h
 have HDk:=Lib.hid hD
 have HNb:=Lib.hid hnb
 have HF:=Lib.hid hf
 have HSz:=Lib.hid hs1
 have H1:=Lib.hid h1
 have H2:=Lib.hid h2
 obtain ⟨x0,x1,x2,x3,x4,x5⟩:=hX1b.cells hnb rfl
 simp only [nought,Nv.vals] at HX HB HZ HT HDb x0 x1 x2 x3 x4 x5
 clear g1 hDb hX1 g2 hX0 g3 hX1b hZ hz1 hz2 hDc h hD hnb hf hs1 h1 h2 hv hl1 hl2 hl3 ho hargs
 go_enter Tryz.func47,Tryz.ntmps47
 go_upto_region 1 with fail
 generalize ((w.alloc (.cells #[.map b1,.map (some b2)] 93)).alloc (.cells #[.int .i64 5,.string nb,.string ⟨#[]⟩,.int .u64 0,.int .i64 0,.slice A 2 c] 25)).alloc (.cells #[.bool false,.slice none 0 0,.float .f64 0,.bool false] 70)=w0 at *
 go_wp2_with fail
 (with_reducible refine (HRd.out _ HB.out).mono ?_)
 rintro e w1 ⟨hb1,qa,ok,rfl,hqa,hra⟩
 rcases hra with ⟨_,hra⟩ | ⟨rfl,_⟩
 ·exact absurd hra (by show ¬(none:Option Nm)=_;simp)
 obtain ⟨ga,Aa,na,ca,la,fa,ba⟩:=qa
 simp only [Nv.v,Nv.vals]
 have HBx:=Lib.hid ((Below.refl w1.heap.size w1).alloc (Nat.le_refl _) (.cells (Nv.vals ⟨ga,Aa,na,ca,la,fa,ba⟩).toArray 70))
 have HB01:=Lib.hid (hb1.trans (HBx.out.mono hb1.size))
 simp only [Nv.vals] at HBx HB01
 clear hb1 hqa x0 x1 x2 x3 x4 x5 HRd HBx
 go_upto_region 2 with fail
 generalize w1.alloc (.cells #[.bool ga,.slice Aa na ca,.float .f64 fa,.bool ba] 70)=w2 at *
 have HB2:=Lib.hid (HB.out.trans (HB01.out.mono HB.out.size))
 have HT2:=Lib.hid (HT.out.below HB01.out)
 have HX2:=Lib.hid (HX.out.below HB01.out HX.out.lt)
 have HDb2:=Lib.hid ((HB01.out.block w.heap.size (by have:=HZ.out;omega)).trans HDb.out)
 obtain ⟨T,N,hfm,hK⟩:=(HDk.out.below HB2.out)
 obtain ⟨F,caps,hlk,hdo⟩:=hK s f HF.out
 have hlook:=hfm.look lawF Tryz.underlying9 Tryz.underlying90 (z:=.nilFunc) (by rfl) (s:=nb) (by rw [←HNb.out];exact HSz.out)
 have hnl:nb.data.toList=s:=by rw [←HNb.out]
 rw [hnl,hlk] at hlook
 simp only [Option.getD_some] at hlook
 have hnil:∀ w9,(binOp .eql 126 (.func (.func F) #[] caps) .nilFunc).run Tryz.prog w9 = .ok (.bool false) w9:=fun w9=>by rfl
 have HDo:=Lib.hid hdo
 obtain ⟨x0,x1,x2,x3,x4,x5⟩:=HT2.out.cells HNb.out rfl
 obtain ⟨d0,d1⟩:w2.cell? ⟨w.heap.size,0,none⟩=some (.map b1)∧w2.cell? ⟨w.heap.size,1,none⟩=some (.map (some b2)):=by
  refine ⟨?_,?_⟩ <;> (rw [cell_of_row _ _ _ _ _ (0,0) HDb2.out];rfl)
 clear hfm hK hlk hdo hnl HT HX HDb HB01 HF
 have HZ2:=Lib.hid (show w.heap.size+1+1+1≤w2.heap.size from by have:=HX2.out.lt;omega)
 go_upto_region 19 with fail
 go_loopw [9,90] (fun v9 v90 wr=>∃ (i:Nat) (Ar:Option Addr) (cr:Nat) (qs:List Nv),v90 = .int .i64 (i:Int)∧v9 = .slice Ar i cr∧i≤2∧Hid (EL w2 r1 r2 i Ar cr qs wr)) (fun _ v90 _=>((2:Int) - intOf v90).toNat)
 case atStart=>exact ⟨0,none,0,[],rfl,rfl,by omega,Lib.hid ⟨Below.refl _ _,NRow.nil _ _ _,.inl ⟨rfl,rfl⟩⟩⟩
 case round=>
  obtain ⟨i,Ar,cr,qs,rfl,rfl,hi,HI⟩:=hrel
  have HBw:=Lib.hid (HB2.out.trans (HI.out.bel.mono HB2.out.size))
  have HDe:=Lib.hid (show ∀ y,Below wr.heap.size wr y→y.cell? ⟨w.heap.size,0,none⟩=some (.map b1)∧y.cell? ⟨w.heap.size,1,none⟩=some (.map (some b2)) from fun y hy=>by
   have hz:=HZ2.out
   have hs:=HI.out.bel.size
   have h9:=(hy.block w.heap.size (by omega)).trans ((HI.out.bel.block w.heap.size (by omega)).trans HDb2.out)
   refine ⟨?_,?_⟩ <;> (rw [cell_of_row _ _ _ _ _ (0,0) h9];rfl))
  clear x0 x1 x2 x3 x4 x5 d0 d1
  rcases (by omega:i=0∨i=1∨i=2) with rfl | rfl | rfl
  ·
   have HQ1:=Lib.hid (show qs = [] from by
    rcases HI.out.pro with ⟨_,h0⟩ | ⟨h0,_⟩ | ⟨h0,_⟩
    ·exact h0
    ·omega
    ·omega)
   obtain ⟨g,o,hA,hgB,helt⟩:=(HH.out.to HBw.out HBw.out.size).arg (i:=0) (a:=ta) rfl
   obtain ⟨A',c',k',n',m',b',v',ts',nb',mb',hte,hnb',hmb',hta,e0,e1,e2,e3,e4,e5⟩:=EltAt.cells helt
   obtain ⟨L,hL⟩:∃ L,ts'.length=L:=⟨_,rfl⟩
   rw [hL] at hta e5
   subst hA
   subst hte
   replace e0:wr.cell? ⟨g,o,none⟩=some (.int .i64 k'):=e0
   replace e1:wr.cell? ⟨g,o+1,none⟩=some (.string nb'):=e1
   replace e2:wr.cell? ⟨g,o+2,none⟩=some (.string mb'):=e2
   replace e3:wr.cell? ⟨g,o+3,none⟩=some (.int .u64 b'):=e3
   replace e4:wr.cell? ⟨g,o+4,none⟩=some (.int .i64 v'):=e4
   replace e5:wr.cell? ⟨g,o+5,none⟩=some (.slice A' L c'):=e5
   have HX5:=Lib.hid (TBox.new wr (k:=k') (b:=b') (v:=v') (ts:=ts') (sl:=.slice A' L c') hnb' hmb')
   have HB5:=Lib.hid (show Below wr.heap.size wr (wr.alloc (.cells #[.int .i64 k',.string nb',.string mb',.int .u64 b',.int .i64 v',.slice A' L c'] 25)) from (Below.refl _ _).alloc (Nat.le_refl _) _)
   have HIh:=Lib.hid (H1.out _ (.slice A' L c') b1 b2 (hta.to HB5.out HB5.out.size) (HDk.out.below (HBw.out.trans (HB5.out.mono HBw.out.size))))
   rw [valT_mk hnb' hmb'] at HIh
   have HNm:=Lib.hid (And.intro hnb' hmb')
   obtain ⟨d0,d1⟩:=HDe.out _ (Below.refl _ _)
   clear helt hta
   go_upto_region 21 with fail
   have HDe5:=Lib.hid (HDe.out _ HB5.out)
   have HE5:=Lib.hid (HI.out.bel.trans (HB5.out.mono HI.out.bel.size))
   have HR5:=Lib.hid (HI.out.row.up HB5.out)
   have HO5:=Lib.hid HI.out.row
   clear e0 e1 e2 e3 e4 e5 d0 d1
   generalize wr.alloc (.cells #[.int .i64 k',.string nb',.string mb',.int .u64 b',.int .i64 v',.slice A' L c'] 25)=w5 at *
   obtain ⟨e0,e1,e2,e3,e4,e5⟩:=HX5.out.cells HNm.out.1 HNm.out.2
   obtain ⟨d0,d1⟩:=HDe5.out
   go_wp2_with fail
   (with_reducible refine HIh.out.mono ?_)
   rintro e w6 ⟨hb6,q,ev,rfl,hout⟩
   have HNq:=Lib.hid (NBox.new w6 q)
   have HBx:=Lib.hid ((Below.refl w6.heap.size w6).alloc (Nat.le_refl _) (.cells q.vals.toArray 70))
   have HB7:=Lib.hid (hb6.trans (HBx.out.mono hb6.size))
   have HOt:=Lib.hid (hout.up HBx.out)
   obtain ⟨gq,Aq,nq,cq,lq,fq,bq⟩:=q
   simp only [Nv.v,Nv.vals] at HNq HBx HB7 HOt ⊢
   clear hb6 hout HIh e0 e1 e2 e3 e4 e5 d0 d1 HX5
   go_upto_region 22 with fail
   generalize w6.alloc (.cells #[.bool gq,.slice Aq nq cq,.float .f64 fq,.bool bq] 70)=w7 at *
   have HE7:=Lib.hid (HE5.out.trans (HB7.out.mono HE5.out.size))
   rcases HOt.out with ⟨e1,rfl,hat⟩ | ⟨tt,e1,hqn,hball⟩
   ·
    obtain ⟨q,hq⟩:∃ q:Nv,(⟨gq,Aq,nq,cq,lq,fq,bq⟩:Nv)=q:=⟨_,rfl⟩
    rw [hq] at e1 hat
    obtain ⟨a0,a1,a2,a3⟩:=HNq.out.cells
    simp only at a0 a1 a2 a3
    have HB8:=Lib.hid (show Below w7.heap.size w7 (w7.alloc (.cells #[.bool gq,.slice Aq nq cq,.float .f64 fq,.bool bq] 70)) from (Below.refl _ _).alloc (Nat.le_refl _) _)
    have HR8:=Lib.hid ((HR5.out.up HB7.out).up HB8.out)
    have HK8:=Lib.hid (show ∀ q' ∈ [q],q'.At (w7.alloc (.cells #[.bool gq,.slice Aq nq cq,.float .f64 fq,.bool bq] 70)) (fun b=>(w2.heap.size≤b∧b<(w7.alloc (.cells #[.bool gq,.slice Aq nq cq,.float .f64 fq,.bool bq] 70)).heap.size)∧(Value.slice Ar 0 cr).ownBlock≠some b) from fun q' hq'=>by
     simp only [List.mem_singleton] at hq'
     subst hq'
     have hs5:=HE5.out.size
     refine (hat.upL HB8.out).wide (fun b hb=>⟨⟨by omega,hb.2⟩,fun e=>?_⟩)
     rcases HO5.out.block with ⟨h0,_⟩ | ⟨g9,h0,h1,h2,h3⟩
     ·subst h0;simp [Value.ownBlock] at e
     ·rw [h3] at e;injection e with e;have:=HB5.out.size;omega)
    have HW8:=Lib.hid (show ∀ j u,(fl4 [q])[j]?=some u→(w7.alloc (.cells #[.bool gq,.slice Aq nq cq,.float .f64 fq,.bool bq] 70)).cell? ((⟨w7.heap.size,0,none⟩:Addr).add j)=some u from fun j u hj=>by
     subst hq
     rw [add_zero']
     have h9:(w7.alloc (.cells #[.bool gq,.slice Aq nq cq,.float .f64 fq,.bool bq] 70)).heap[w7.heap.size]?=some (.cells (fl4 [(⟨gq,Aq,nq,cq,lq,fq,bq⟩:Nv)]).toArray 70 (0,0)):=heap_alloc_new w7 _
     rw [cell_of_row _ _ _ _ _ (0,0) h9]
     simpa using hj)
    have HZ8:=Lib.hid (show w2.heap.size≤(w7.alloc (.cells #[.bool gq,.slice Aq nq cq,.float .f64 fq,.bool bq] 70)).heap.size from Nat.le_trans HE7.out.size HB8.out.size)
    have HE8:=Lib.hid (HE7.out.trans (HB8.out.mono HE7.out.size))
    have HE1:=Lib.hid e1
    have HRr:=Lib.hid (show ∀ A9 c9 w9,NRow w9 w2.heap.size (fun b=>w2.heap.size≤b∧b<(w7.alloc (.cells #[.bool gq,.slice Aq nq cq,.float .f64 fq,.bool bq] 70)).heap.size) A9 (0+1) c9 (qs ++ [q])→Below w2.heap.size (w7.alloc (.cells #[.bool gq,.slice Aq nq cq,.float .f64 fq,.bool bq] 70)) w9→EL w2 r1 r2 1 A9 c9 (qs ++ [q]) w9 from fun A9 c9 w9 k1 k2=>
     ⟨HE8.out.trans k2,k1.wide (fun b hb=>⟨hb.1,Nat.lt_of_lt_of_le hb.2 k2.size⟩),.inr (.inl ⟨rfl,q,by rw [HQ1.out];rfl,e1⟩)⟩)
    clear e1 hat hq HOt HNq HB7 HO5 HBx
    go_wp2_with (at_builtin;refine wpList_append_N rfl _ _ rfl [q] rfl HR8.out (fun b hb=>hb.2) ⟨w7.heap.size,0,none⟩ 1 1 rfl rfl HK8.out HW8.out (by omega) HZ8.out ?_;intro A9 c9 w9 k1 k2 _;have HE9:=Lib.hid (HRr.out A9 c9 w9 k1 k2);clear k1 k2)
    go_roundw
    case rel=>exact ⟨1,A9,c9,qs ++ [q],rfl,rfl,by omega,HE9⟩
    case measure=>simp [intOf]
   ·
    obtain ⟨gg,rfl⟩:=hball.iface
    obtain ⟨a0,a1,a2,a3⟩:=HNq.out.cells
    simp only at a0 a1 a2 a3
    have HX7:=Lib.hid (HX2.out.below HE7.out (by have:=HZ2.out;omega))
    obtain ⟨c0,c1',c2,c3⟩:=HX7.out.cells
    obtain ⟨z0,z1,z2,z3⟩:=HX7.out.frozens
    have hS:=HX7.out.set4 nought
    simp only [nought] at c0 c1' c2 c3 hS
    have HBa:=Lib.hid hball
    have HE1:=Lib.hid (show seqR r1 r2 f = .bad tt from by rw [e1];rfl)
    have HW7:=Lib.hid (HB2.out.trans (HE7.out.mono HB2.out.size))
    clear hball hqn e1
    go_wp2_with fail
    obtain ⟨r0,r1',r2',r3⟩:=hS.1.cells
    simp only at r0 r1' r2' r3
    refine bodyPost_ret (v:=.tuple #[.agg #[.bool false,.slice none 0 0,.float .f64 0,.bool false],.iface 95 (.pointer (some ⟨gg,0,none⟩))]) (by simp [results,Tryz.results47,go_sem,r0,r1',r2',r3]) rfl ?_
    rw [HE1.out]
    exact NPost.fin (q:=nought) HW7.out (by omega) HX7.out (.inr ⟨_,rfl,rfl,HBa.out.lower (by have:=HE5.out.size;have:=HZ2.out;omega)⟩) hS.2
  ·
   obtain ⟨q1,hqs,hr1⟩:∃ q1,qs = [q1]∧r1 = .ok q1.nm:=by
    rcases HI.out.pro with ⟨h0,_⟩ | ⟨_,h1⟩ | ⟨h0,_⟩
    ·omega
    ·exact h1
    ·omega
   have HQ1:=Lib.hid (And.intro hqs hr1)
   clear hqs hr1
   obtain ⟨g,o,hA,hgB,helt⟩:=(HH.out.to HBw.out HBw.out.size).arg (i:=1) (a:=tb) rfl
   obtain ⟨A',c',k',n',m',b',v',ts',nb',mb',hte,hnb',hmb',hta,e0,e1,e2,e3,e4,e5⟩:=EltAt.cells helt
   obtain ⟨L,hL⟩:∃ L,ts'.length=L:=⟨_,rfl⟩
   rw [hL] at hta e5
   subst hA
   subst hte
   replace e0:wr.cell? ⟨g,o+6,none⟩=some (.int .i64 k'):=e0
   replace e1:wr.cell? ⟨g,o+7,none⟩=some (.string nb'):=e1
   replace e2:wr.cell? ⟨g,o+8,none⟩=some (.string mb'):=e2
   replace e3:wr.cell? ⟨g,o+9,none⟩=some (.int .u64 b'):=e3
   replace e4:wr.cell? ⟨g,o+10,none⟩=some (.int .i64 v'):=e4
   replace e5:wr.cell? ⟨g,o+11,none⟩=some (.slice A' L c'):=e5
   have HX5:=Lib.hid (TBox.new wr (k:=k') (b:=b') (v:=v') (ts:=ts') (sl:=.slice A' L c') hnb' hmb')
   have HB5:=Lib.hid (show Below wr.heap.size wr (wr.alloc (.cells #[.int .i64 k',.string nb',.string mb',.int .u64 b',.int .i64 v',.slice A' L c'] 25)) from (Below.refl _ _).alloc (Nat.le_refl _) _)
   have HIh:=Lib.hid (H2.out _ (.slice A' L c') b1 b2 (hta.to HB5.out HB5.out.size) (HDk.out.below (HBw.out.trans (HB5.out.mono HBw.out.size))))
   rw [valT_mk hnb' hmb'] at HIh
   have HNm:=Lib.hid (And.intro hnb' hmb')
   obtain ⟨d0,d1⟩:=HDe.out _ (Below.refl _ _)
   clear helt hta
   go_upto_region 21 with fail
   have HDe5:=Lib.hid (HDe.out _ HB5.out)
   have HE5:=Lib.hid (HI.out.bel.trans (HB5.out.mono HI.out.bel.size))
   have HR5:=Lib.hid (HI.out.row.up HB5.out)
   have HO5:=Lib.hid HI.out.row
   clear e0 e1 e2 e3 e4 e5 d0 d1
   generalize wr.alloc (.cells #[.int .i64 k',.string nb',.string mb',.int .u64 b',.int .i64 v',.slice A' L c'] 25)=w5 at *
   obtain ⟨e0,e1,e2,e3,e4,e5⟩:=HX5.out.cells HNm.out.1 HNm.out.2
   obtain ⟨d0,d1⟩:=HDe5.out
   go_wp2_with fail
   (with_reducible refine HIh.out.mono ?_)
   rintro e w6 ⟨hb6,q,ev,rfl,hout⟩
   have HNq:=Lib.hid (NBox.new w6 q)
   have HBx:=Lib.hid ((Below.refl w6.heap.size w6).alloc (Nat.le_refl _) (.cells q.vals.toArray 70))
   have HB7:=Lib.hid (hb6.trans (HBx.out.mono hb6.size))
   have HOt:=Lib.hid (hout.up HBx.out)
   obtain ⟨gq,Aq,nq,cq,lq,fq,bq⟩:=q
   simp only [Nv.v,Nv.vals] at HNq HBx HB7 HOt ⊢
   clear hb6 hout HIh e0 e1 e2 e3 e4 e5 d0 d1 HX5
   go_upto_region 22 with fail
   generalize w6.alloc (.cells #[.bool gq,.slice Aq nq cq,.float .f64 fq,.bool bq] 70)=w7 at *
   have HE7:=Lib.hid (HE5.out.trans (HB7.out.mono HE5.out.size))
   rcases HOt.out with ⟨e1,rfl,hat⟩ | ⟨tt,e1,hqn,hball⟩
   ·
    obtain ⟨q,hq⟩:∃ q:Nv,(⟨gq,Aq,nq,cq,lq,fq,bq⟩:Nv)=q:=⟨_,rfl⟩
    rw [hq] at e1 hat
    obtain ⟨a0,a1,a2,a3⟩:=HNq.out.cells
    simp only at a0 a1 a2 a3
    have HB8:=Lib.hid (show Below w7.heap.size w7 (w7.alloc (.cells #[.bool gq,.slice Aq nq cq,.float .f64 fq,.bool bq] 70)) from (Below.refl _ _).alloc (Nat.le_refl _) _)
    have HR8:=Lib.hid ((HR5.out.up HB7.out).up HB8.out)
    have HK8:=Lib.hid (show ∀ q' ∈ [q],q'.At (w7.alloc (.cells #[.bool gq,.slice Aq nq cq,.float .f64 fq,.bool bq] 70)) (fun b=>(w2.heap.size≤b∧b<(w7.alloc (.cells #[.bool gq,.slice Aq nq cq,.float .f64 fq,.bool bq] 70)).heap.size)∧(Value.slice Ar 1 cr).ownBlock≠some b) from fun q' hq'=>by
     simp only [List.mem_singleton] at hq'
     subst hq'
     have hs5:=HE5.out.size
     refine (hat.upL HB8.out).wide (fun b hb=>⟨⟨by omega,hb.2⟩,fun e=>?_⟩)
     rcases HO5.out.block with ⟨h0,_⟩ | ⟨g9,h0,h1,h2,h3⟩
     ·subst h0;simp [Value.ownBlock] at e
     ·rw [h3] at e;injection e with e;have:=HB5.out.size;omega)
    have HW8:=Lib.hid (show ∀ j u,(fl4 [q])[j]?=some u→(w7.alloc (.cells #[.bool gq,.slice Aq nq cq,.float .f64 fq,.bool bq] 70)).cell? ((⟨w7.heap.size,0,none⟩:Addr).add j)=some u from fun j u hj=>by
     subst hq
     rw [add_zero']
     have h9:(w7.alloc (.cells #[.bool gq,.slice Aq nq cq,.float .f64 fq,.bool bq] 70)).heap[w7.heap.size]?=some (.cells (fl4 [(⟨gq,Aq,nq,cq,lq,fq,bq⟩:Nv)]).toArray 70 (0,0)):=heap_alloc_new w7 _
     rw [cell_of_row _ _ _ _ _ (0,0) h9]
     simpa using hj)
    have HZ8:=Lib.hid (show w2.heap.size≤(w7.alloc (.cells #[.bool gq,.slice Aq nq cq,.float .f64 fq,.bool bq] 70)).heap.size from Nat.le_trans HE7.out.size HB8.out.size)
    have HE8:=Lib.hid (HE7.out.trans (HB8.out.mono HE7.out.size))
    have HE1:=Lib.hid e1
    have HRr:=Lib.hid (show ∀ A9 c9 w9,NRow w9 w2.heap.size (fun b=>w2.heap.size≤b∧b<(w7.alloc (.cells #[.bool gq,.slice Aq nq cq,.float .f64 fq,.bool bq] 70)).heap.size) A9 (1+1) c9 (qs ++ [q])→Below w2.heap.size (w7.alloc (.cells #[.bool gq,.slice Aq nq cq,.float .f64 fq,.bool bq] 70)) w9→EL w2 r1 r2 2 A9 c9 (qs ++ [q]) w9 from fun A9 c9 w9 k1 k2=>
     ⟨HE8.out.trans k2,k1.wide (fun b hb=>⟨hb.1,Nat.lt_of_lt_of_le hb.2 k2.size⟩),.inr (.inr ⟨rfl,q1,q,by rw [HQ1.out.1];rfl,HQ1.out.2,e1⟩)⟩)
    clear e1 hat hq HOt HNq HB7 HO5 HBx
    go_wp2_with (at_builtin;refine wpList_append_N rfl _ _ rfl [q] rfl HR8.out (fun b hb=>hb.2) ⟨w7.heap.size,0,none⟩ 1 1 rfl rfl HK8.out HW8.out (by omega) HZ8.out ?_;intro A9 c9 w9 k1 k2 _;have HE9:=Lib.hid (HRr.out A9 c9 w9 k1 k2);clear k1 k2)
    go_roundw
    case rel=>exact ⟨2,A9,c9,qs ++ [q],rfl,rfl,by omega,HE9⟩
    case measure=>simp [intOf]
   ·
    obtain ⟨gg,rfl⟩:=hball.iface
    obtain ⟨a0,a1,a2,a3⟩:=HNq.out.cells
    simp only at a0 a1 a2 a3
    have HX7:=Lib.hid (HX2.out.below HE7.out (by have:=HZ2.out;omega))
    obtain ⟨c0,c1',c2,c3⟩:=HX7.out.cells
    obtain ⟨z0,z1,z2,z3⟩:=HX7.out.frozens
    have hS:=HX7.out.set4 nought
    simp only [nought] at c0 c1' c2 c3 hS
    have HBa:=Lib.hid hball
    have HE1:=Lib.hid (show seqR r1 r2 f = .bad tt from by rw [HQ1.out.2,e1];rfl)
    have HW7:=Lib.hid (HB2.out.trans (HE7.out.mono HB2.out.size))
    clear hball hqn e1
    go_wp2_with fail
    obtain ⟨r0,r1',r2',r3⟩:=hS.1.cells
    simp only at r0 r1' r2' r3
    refine bodyPost_ret (v:=.tuple #[.agg #[.bool false,.slice none 0 0,.float .f64 0,.bool false],.iface 95 (.pointer (some ⟨gg,0,none⟩))]) (by simp [results,Tryz.results47,go_sem,r0,r1',r2',r3]) rfl ?_
    rw [HE1.out]
    exact NPost.fin (q:=nought) HW7.out (by omega) HX7.out (.inr ⟨_,rfl,rfl,HBa.out.lower (by have:=HE5.out.size;have:=HZ2.out;omega)⟩) hS.2
  ·obtain ⟨q1,q2,hqs,hr1,hr2⟩:∃ q1 q2,qs = [q1,q2]∧r1 = .ok q1.nm∧r2 = .ok q2.nm:=by
    rcases HI.out.pro with ⟨h0,_⟩ | ⟨h0,_⟩ | ⟨_,h1⟩
    ·omega
    ·omega
    ·exact h1
   have HE1:=Lib.hid (show seqR r1 r2 f=f q1.nm q2.nm from by rw [hr1,hr2];rfl)
   have HCl:=Lib.hid (HDo.out.2 w2.heap.size wr Ar cr q1 q2 HI.out.bel HI.out.bel.size (by rw [←hqs];exact HI.out.row.rd))
   have hrun:∀ (args:Array Value) (w:World),(callFunc F args).run Tryz.prog w = .ok (.enter F args) w:=HDo.out.1
   have HE7:=Lib.hid HI.out.bel
   clear hqs hr1 hr2 HI HDe H1 H2 HH HDk
   generalize f q1.nm q2.nm=R at *
   go_wp2_with fail
   (with_reducible refine HCl.out.mono ?_)
   rintro e w6 ⟨hb6,q,ev,rfl,ho6⟩
   have hs6:=HE7.out.size
   have hX6:=(HX2.out.below HE7.out (by have:=HZ2.out;omega)).below hb6 (by have:=HZ2.out;omega)
   obtain ⟨c0,c1',c2,c3⟩:=hX6.cells
   obtain ⟨z0,z1,z2,z3⟩:=hX6.frozens
   have hS:=hX6.set4 q
   have HB6:=Lib.hid (HBw.out.trans (hb6.mono HBw.out.size))
   have HO6:=Lib.hid (ho6.lower (lo':=w.heap.size) (lb':=w.heap.size+1+1+1) (by have:=HZ2.out;omega) (by have:=HZ2.out;omega))
   obtain ⟨gq,Aq,nq,cq,lq,fq,bq⟩:=q
   simp only [nought] at c0 c1' c2 c3 hS
   simp only [Nv.v,Nv.vals]
   clear hb6 ho6 hs6 HCl
   go_wp2_with fail
   obtain ⟨r0,r1',r2',r3⟩:=hS.1.cells
   simp only at r0 r1' r2' r3
   refine bodyPost_ret (v:=.tuple #[.agg #[.bool gq,.slice Aq nq cq,.float .f64 fq,.bool bq],ev]) (by simp [results,Tryz.results47,go_sem,r0,r1',r2',r3]) rfl ?_
   rw [HE1.out]
   exact NPost.fin (q:=⟨gq,Aq,nq,cq,lq,fq,bq⟩) HB6.out (by omega) hX6 HO6.out hS.2
theorem eval_ok {K:List UInt8→Option (Nm→Nm→Rs)} {t:Tm} {r:Rs} (h:Ev K t r):EvOk K t r:=by
 induction h with
 | num h ho=>exact eval_num h ho
 | two hf _ _ h1 h2=>exact eval_two hf h1 h2
def decB (z:Int):List UInt8:=(txtZ z 10).map UInt8.ofNat
def numT:Nm→Tm
 | .int z=>.mk 3 [] (decB z) 0 0 []
 | .flo f=>.mk 4 [] [] (f:Int) 0 []
set_option maxRecDepth 100000 in
set_option maxHeartbeats 2000000 in
theorem term_ok {q:Nv} {w:World} (hq:q.At w (fun b=>b<w.heap.size)):Calls Tryz.prog 48 #[q.v] w fun e w'=>e = .returned (valT (numT q.nm) (.slice none 0 0))∧Below w.heap.size w w':=by
 have HQ:=Lib.hid hq
 have hX:=NBox.new w q
 have hB:=(Below.refl w.heap.size w).alloc (Nat.le_refl _) (.cells q.vals.toArray 70)
 have hZ:=World.size_alloc w (.cells q.vals.toArray 70)
 have hX0:TBox ((w.alloc (.cells q.vals.toArray 70)).alloc (.cells #[.int .i64 0,.string ⟨#[]⟩,.string ⟨#[]⟩,.int .u64 0,.int .i64 0,.slice none 0 0] 25)) _ zeroT (.slice none 0 0):=TBox.new (w.alloc (.cells q.vals.toArray 70)) rfl rfl
 have hB2:=hB.alloc hB.size (.cells #[.int .i64 0,.string ⟨#[]⟩,.string ⟨#[]⟩,.int .u64 0,.int .i64 0,.slice none 0 0] 25)
 have hX1:=hX.below ((Below.refl _ _).alloc (Nat.le_refl _) (.cells #[.int .i64 0,.string ⟨#[]⟩,.string ⟨#[]⟩,.int .u64 0,.int .i64 0,.slice none 0 0] 25)) hX.lt
 rw [hZ] at hX0
 have HX:=Lib.hid hX0
 have HN:=Lib.hid hX1
 have HB:=Lib.hid hB2
 obtain ⟨g,A,n,c,l,f,b⟩:=q
 simp only [Nv.vals] at HX HN HB
 clear hX hB hZ hX0 hB2 hX1 hq
 show Calls Tryz.prog _ #[.agg #[.bool g,.slice A n c,.float .f64 f,.bool b]] w _
 obtain ⟨a0,a1,a2,a3⟩:=HN.out.cells
 simp only at a0 a1 a2 a3
 cases b
 ·have hnm:Nv.nm ⟨g,A,n,c,l,f,false⟩ = .int (ival g l):=rfl
  rw [hnm]
  obtain ⟨s,hs⟩:∃ s,strN (txtZ (ival g l) 10)=s:=⟨_,rfl⟩
  have HT:=Lib.hid (fun (y:World) (hy:Below w.heap.size w y)=>Text_z2 (w:=y) (neg:=g) (s:=s) (((HQ.out.up hy).lim).sl (fun b hb=>hb)) (Nat.le_trans HQ.out.sm (by decide)) rfl HQ.out.sh hs)
  have HV:=Lib.hid (show valT (numT (.int (ival g l))) (.slice none 0 0) = .agg #[.int .i64 3,.string ⟨#[]⟩,.string s,.int .u64 0,.int .i64 0,.slice none 0 0] from by rw [←hs];rfl)
  have HS:=Lib.hid (show (⟨(decB (ival g l)).toArray⟩:ByteArray)=s from by rw [←hs];rfl)
  rw [HV.out]
  generalize ival g l=z at *
  clear hs HQ
  go_enter Tryz.func48,Tryz.ntmps48
  go_upto_region 1 with fail
  generalize (w.alloc (.cells #[.bool g,.slice A n c,.float .f64 f,.bool false] 70)).alloc (.cells #[.int .i64 0,.string ⟨#[]⟩,.string ⟨#[]⟩,.int .u64 0,.int .i64 0,.slice none 0 0] 25)=w0 at *
  go_wp2_with fail
  (with_reducible refine (HT.out _ HB.out).mono ?_)
  rintro e w1 ⟨rfl,hb1⟩
  have hX1:=HX.out.below hb1
  obtain ⟨c0,c1,c2,c3,c4,c5⟩:=hX1.cells rfl rfl
  obtain ⟨z0,z1,z2,z3,z4,z5⟩:=hX1.frozens
  have hS:=hX1.set6 (k:=3) (b:=0) (v:=0) (n:=[]) (m:=decB z) (nb:=⟨#[]⟩) (mb:=s) [] (.slice none 0 0) rfl HS.out
  have HB1:=Lib.hid (HB.out.trans (hb1.mono HB.out.size))
  clear hb1 a0 a1 a2 a3
  go_wp2_with fail
  obtain ⟨hbx,hgr⟩:=hS
  generalize (((((w1.setCell ⟨w.heap.size+1,0,none⟩ (.int .i64 3)).setCell ⟨w.heap.size+1,1,none⟩ (.string ⟨#[]⟩)).setCell ⟨w.heap.size+1,2,none⟩ (.string s)).setCell ⟨w.heap.size+1,3,none⟩ (.int .u64 0)).setCell ⟨w.heap.size+1,4,none⟩ (.int .i64 0)).setCell ⟨w.heap.size+1,5,none⟩ (.slice none 0 0)=w6 at *
  obtain ⟨r0,r1,r2,r3,r4,r5⟩:=hbx.cells (nb:=⟨#[]⟩) (mb:=s) rfl HS.out
  exact bodyPost_ret (v:=.agg #[.int .i64 3,.string ⟨#[]⟩,.string s,.int .u64 0,.int .i64 0,.slice none 0 0]) (by simp [results,Tryz.results48,go_sem,r0,r1,r2,r3,r4,r5]) rfl ⟨rfl,HB1.out.grown hgr HB1.out.size (fun j e=>by injection e with e;omega)⟩
 ·have hnm:Nv.nm ⟨g,A,n,c,l,f,true⟩ = .flo f:=rfl
  rw [hnm]
  have hb:=run_bits f
  have hX1:=HX.out
  obtain ⟨c0,c1,c2,c3,c4,c5⟩:=hX1.cells rfl rfl
  obtain ⟨z0,z1,z2,z3,z4,z5⟩:=hX1.frozens
  have hS:=hX1.set6 (k:=4) (b:=(f:Int)) (v:=0) (n:=[]) (m:=[]) (nb:=⟨#[]⟩) (mb:=⟨#[]⟩) [] (.slice none 0 0) rfl rfl
  clear hX1
  go_enter Tryz.func48,Tryz.ntmps48
  go_upto_region 1 with fail
  generalize (w.alloc (.cells #[.bool g,.slice A n c,.float .f64 f,.bool true] 70)).alloc (.cells #[.int .i64 0,.string ⟨#[]⟩,.string ⟨#[]⟩,.int .u64 0,.int .i64 0,.slice none 0 0] 25)=w0 at *
  go_wp2_with fail
  obtain ⟨hbx,hgr⟩:=hS
  generalize (((((w0.setCell ⟨w.heap.size+1,0,none⟩ (.int .i64 4)).setCell ⟨w.heap.size+1,1,none⟩ (.string ⟨#[]⟩)).setCell ⟨w.heap.size+1,2,none⟩ (.string ⟨#[]⟩)).setCell ⟨w.heap.size+1,3,none⟩ (.int .u64 (f:Int))).setCell ⟨w.heap.size+1,4,none⟩ (.int .i64 0)).setCell ⟨w.heap.size+1,5,none⟩ (.slice none 0 0)=w6 at *
  obtain ⟨r0,r1,r2,r3,r4,r5⟩:=hbx.cells (nb:=⟨#[]⟩) (mb:=⟨#[]⟩) rfl rfl
  exact bodyPost_ret (v:=.agg #[.int .i64 4,.string ⟨#[]⟩,.string ⟨#[]⟩,.int .u64 (f:Int),.int .i64 0,.slice none 0 0]) (by simp [results,Tryz.results48,go_sem,r0,r1,r2,r3,r4,r5]) rfl ⟨rfl,HB.out.grown hgr HB.out.size (fun j e=>by injection e with e;omega)⟩
theorem BallP.skip {w w':World} {lo:Nat} {t:Tm} {v:Value} (h:BallP w lo t v) (hs:w.heap.size≤w'.heap.size) (hk:∀ b,lo≤b→b<w.heap.size→w'.heap[b]?=w.heap[b]?):BallP w' lo t v:=by
 obtain ⟨g,sl,e,h1,h2,h3⟩:=h
 exact ⟨g,sl,e,h1,(hk g h1 h2.lt).trans h2,TAtP.keep _ h3 (fun b hb=>⟨⟨hb.1,Nat.lt_of_lt_of_le hb.2 hs⟩,hk b hb.1 hb.2⟩)⟩
theorem Out.skip {w w':World} {lo:Nat} {r:Rs} {q:Nv} {ev:Value} (h:Out w lo lo r q ev) (hs:w.heap.size≤w'.heap.size) (hk:∀ b,lo≤b→b<w.heap.size→w'.heap[b]?=w.heap[b]?):Out w' lo lo r q ev:=by
 rcases h with ⟨h1,h2,h3⟩ | ⟨t,h1,h2,h3⟩
 ·exact .inl ⟨h1,h2,h3.keep (fun b hb=>⟨⟨hb.1,Nat.lt_of_lt_of_le hb.2 hs⟩,hk b hb.1 hb.2⟩)⟩
 ·exact .inr ⟨t,h1,h2,h3.skip hs hk⟩
def KOk (K:List UInt8→Option (Nm→Nm→Rs)):Prop:=∀ (w0 w:World) (b D0 E0 D1 E1 D2 E2 D4 D5 D6 D7 D14 D15 D16 D17:Nat),MS w0 w b 18 (twoT D0 E0 D1 E1 D2 E2 D4 D5 D6 D7 D14 D15 D16 D17) (twoX D0 E0 D1 E1 D2 E2 D4 D5 D6 D7 D14 D15 D16 D17)→Desk K w b
def NmS:Nm→Prop
 | .int z=>tooLong z=false
 | .flo f=>Flo64 f
theorem Nv.At.nms {w:World} {P:Nat→Prop} {q:Nv} (h:q.At w P):NmS q.nm:=by
 unfold Nv.nm
 cases hb:q.b with
 | true=>rw [if_pos rfl];exact h.fl
 | false=>rw [if_neg (by simp)];exact h.sh
def EvalPost (w:World) (r:Rs) (e:Ending) (w':World):Prop:=Below w.heap.size w w'∧((∃ x,r = .ok x∧e = .returned (.tuple #[valT (numT x) (.slice none 0 0),.nilIface])∧NmS x)∨(∃ t v,r = .bad t∧e = .returned (.tuple #[valT zeroT (.slice none 0 0),v])∧BallP w' w.heap.size t v))
set_option maxRecDepth 100000 in
set_option maxHeartbeats 4000000 in
theorem Eval_ok {K:List UInt8→Option (Nm→Nm→Rs)} (hKK:KOk K) {t:Tm} {r:Rs} (hev:Ev K t r) (hc:checkP t=0) {w0' w:World} {sl:Value} (ht:TAt w w.heap.size t sl) (hU:UOk w0' w):Calls Tryz.prog 24 #[valT t sl] w (EvalPost w r):=by
 obtain ⟨k,nl,ml,b,v,ts,nb,mb,A,c,rfl,rfl,hnb,hmb,hl1,hl2,hl3,hv,hs1,hs2⟩:=ht.letters
 obtain ⟨q,hq⟩:∃ q,ts.length=q:=⟨_,rfl⟩
 have HCk:=Lib.hid (fun (y:World) (hy:Below w.heap.size w y)=>Check_any (w0:=w0') (ht.to hy hy.size) (hU.below hy))
 have HEv:=Lib.hid (fun (y:World) (hy:Below w.heap.size w y) (b1 b2:Nat) (hd:Desk K y b2)=>eval_ok hev y _ (some b1) b2 (ht.to hy hy.size) hd)
 rw [hv] at HCk HEv ⊢
 rw [hq] at HCk HEv ⊢
 generalize hT:(Tm.mk k nl ml b v ts)=T at *
 rw [hc] at HCk
 have h1:Below w.heap.size w (w.alloc (.cells #[.int .i64 k,.string nb,.string mb,.int .u64 b,.int .i64 v,.slice A q c] 25)):=(Below.refl _ _).alloc (Nat.le_refl _) _
 have hX1:=TBox.new (ts:=ts) w (k:=k) (b:=b) (v:=v) (sl:=.slice A q c) hnb hmb
 have hX0:TBox ((w.alloc (.cells #[.int .i64 k,.string nb,.string mb,.int .u64 b,.int .i64 v,.slice A q c] 25)).alloc (.cells #[.int .i64 0,.string ⟨#[]⟩,.string ⟨#[]⟩,.int .u64 0,.int .i64 0,.slice none 0 0] 25)) _ zeroT (.slice none 0 0):=TBox.new (w.alloc (.cells #[.int .i64 k,.string nb,.string mb,.int .u64 b,.int .i64 v,.slice A q c] 25)) rfl rfl
 have h2:=h1.alloc h1.size (.cells #[.int .i64 0,.string ⟨#[]⟩,.string ⟨#[]⟩,.int .u64 0,.int .i64 0,.slice none 0 0] 25)
 have hX1b:=hX1.below ((Below.refl _ _).alloc (Nat.le_refl _) (.cells #[.int .i64 0,.string ⟨#[]⟩,.string ⟨#[]⟩,.int .u64 0,.int .i64 0,.slice none 0 0] 25))
 have hz1:=World.size_alloc w (.cells #[.int .i64 k,.string nb,.string mb,.int .u64 b,.int .i64 v,.slice A q c] 25)
 have hz2:=World.size_alloc (w.alloc (.cells #[.int .i64 k,.string nb,.string mb,.int .u64 b,.int .i64 v,.slice A q c] 25)) (.cells #[.int .i64 0,.string ⟨#[]⟩,.string ⟨#[]⟩,.int .u64 0,.int .i64 0,.slice none 0 0] 25)
 rw [hz1] at hX0 hz2
 have HT:=Lib.hid hX1b
 have HX:=Lib.hid hX0
 have HB:=Lib.hid h2
 have HZ:=Lib.hid hz2
 have HNm:=Lib.hid (And.intro hnb hmb)
 obtain ⟨x0,x1,x2,x3,x4,x5⟩:=hX1b.cells hnb hmb
 clear h1 hX1 hX0 h2 hX1b hz1 hz2 ht hU hev hv hl1 hl2 hl3 hs1 hs2 hnb hmb hq hc hT
 go_enter Tryz.func24,Tryz.ntmps24
 go_upto_region 1 with fail
 generalize (w.alloc (.cells #[.int .i64 k,.string nb,.string mb,.int .u64 b,.int .i64 v,.slice A q c] 25)).alloc (.cells #[.int .i64 0,.string ⟨#[]⟩,.string ⟨#[]⟩,.int .u64 0,.int .i64 0,.slice none 0 0] 25)=w0 at *
 go_upto_region 4 with (go_at_call 31;(with_reducible refine (HCk.out _ HB.out).mono ?_);rintro e w1 ⟨rfl,hb1⟩;have HB1:=Lib.hid (HB.out.trans (hb1.mono HB.out.size));have HT1:=Lib.hid (HT.out.below hb1);have HX1:=Lib.hid (HX.out.below hb1);clear hb1)
 clear x0 x1 x2 x3 x4 x5 HT HX HB
 have HZ1:=Lib.hid (show w.heap.size+1+1≤w1.heap.size from by have:=(Array.getElem?_eq_some_iff.1 HX1.out).1;omega)
 refine wp_region_U 10 (by kernel_rfl) (fun z0 K0 hs0=>?_)
 refine qz 3 K0 ?_ (y:=fun z5 hS=>by obtain ⟨x0,x1,x2,x3,x4,x5⟩:=(HT1.out.below hS).cells HNm.out.1 HNm.out.2;go_simp;rfl)
 refine wpAnyW_float [8] (fun _=>(.cells #[.bool false,.slice none 0 0,.float .f64 0,.bool false] 70)) (by kernel_rfl) (by kernel_rfl) (FloatRun.one rfl (fun a w=>by go_simp)) (fun _ _ h1 h2=>h2.trans (h1.mono h2.size)) (by kernel_rfl) (fun _ _ _ _ _ h=>h) rfl K0 ?_
 refine wpAnyF_one (i:=0) (by kernel_rfl) (by kernel_rfl) (fun _ _ _ _ _ h=>h) ⟨by kernel_rfl,by kernel_rfl⟩ (by kernel_rfl) rfl (by kernel_rfl) (fun z1 d1 K1 K hK=>?_)
 go_simp
 (with_reducible refine (one_ok _).mono ?_)
 rintro e z2 ⟨bo,_,_,_,_,_,_,rfl,hm1⟩
 have K2:=K1.trans (hm1.bel.mono K1.size)
 refine hK.out _ _ hm1.bel K2 ?_
 refine wpAnyF_one (i:=1) (by kernel_rfl) (by kernel_rfl) (fun _ _ _ _ _ h=>h) ⟨by kernel_rfl,by kernel_rfl⟩ (by kernel_rfl) rfl (by kernel_rfl) (fun z3 d3 K3 K hK=>?_)
 go_simp
 (with_reducible refine (two_ok _).mono ?_)
 rintro e z4 ⟨bt,_,_,_,_,_,_,_,_,_,_,_,_,_,_,rfl,hm2⟩
 have K4:=K3.trans (hm2.bel.mono K3.size)
 have HDk:=Lib.hid (hKK _ _ _ _ _ _ _ _ _ _ _ _ _ _ _ _ _ hm2)
 have hb4:=hm2.bel
 have hb2s:=hm1.bel.size
 refine hK.out _ _ hb4 K4 ?_
 clear hm1 hm2
 refine qF 2 ?_
 refine wpAnyF_one (i:=4) (by kernel_rfl) (by kernel_rfl) (fun _ _ _ _ _ h=>h) ⟨by kernel_rfl,by kernel_rfl⟩ (by kernel_rfl) rfl (by kernel_rfl) (fun z5 d5 K5 K hK=>?_)
 go_simp
 (with_reducible refine (HEv.out z5 (HB1.out.trans (K5.mono HB1.out.size)) bo bt (HDk.out.below d5)).mono ?_)
 rintro e z6 ⟨hb6,q,ev,rfl,ho6⟩
 have K6:=K5.trans (hb6.mono K5.size)
 obtain ⟨gq,Aq,nq,cq,lq,fq,bq⟩:=q
 simp only [Nv.v,Nv.vals]
 refine hK.out _ _ hb6 K6 ?_
 refine qF 5 ?_
 refine qF 6 ?_
 refine qF 7 ?_
 refine wpAnyF_land1 (by kernel_rfl) rfl (fun z7 HA d7 K7 hA gA=>?_)
 have gA':((((False∨(z0.heap.size≤HA∧HA<z1.heap.size))∨(z2.heap.size≤HA∧HA<z3.heap.size))∨(z4.heap.size≤HA∧HA<z5.heap.size))∨(z6.heap.size≤HA∧HA<z7.heap.size)):=gA
 have HGp:=Lib.hid (show (HA<z5.heap.size∨z6.heap.size≤HA)∧z5.heap.size≤z6.heap.size∧z6.heap.size≤z7.heap.size∧w1.heap.size≤HA∧w1.heap.size≤z5.heap.size from by
  have h0:=K0.size
  have h1:=d1.size
  have h2:=hb6.size
  have h3:=d3.size
  have h4:=hb4.size
  have h5:=d5.size
  have h7:=d7.size
  have h8:=K2.size
  have h9:=K4.size
  have h10:=K5.size
  have h11:=K6.size
  rcases gA' with (((h | h) | h) | h) | h
  ·exact h.elim
  all_goals omega)
 replace hA:NBox z7 HA nought:=hA
 have HA7:=Lib.hid hA
 obtain ⟨c0,c1',c2,c3⟩:=hA.cells
 obtain ⟨y0,y1,y2,y3⟩:=hA.frozens
 have hS:=Lib.hid (hA.set4 ⟨gq,Aq,nq,cq,lq,fq,bq⟩)
 simp only [nought] at c0 c1' c2 c3 hS
 have HO6:=Lib.hid (show ∀ u:World,z7.grownBy u (some HA)→Out u z5.heap.size z5.heap.size r ⟨gq,Aq,nq,cq,lq,fq,bq⟩ ev from fun u hg=>ho6.skip (Nat.le_trans d7.size hg.size) (fun b h1 h2=>(hg.block b (Nat.lt_of_lt_of_le h2 d7.size) (fun e=>by injection e with e;have:=HGp.out;omega)).trans (d7.block b h2)))
 have HK7:=Lib.hid K7
 clear hb2s gA gA' hb6 hb4 K0 K1 K2 K3 K4 K5 K6 K7 d1 d3 d5 d7 hs0 ho6 hA
 refine uW 9 fun K hK=>?_
 go_simp
 clear c0 c1' c2 c3 y0 y1 y2 y3
 generalize (((z7.setCell ⟨HA,0,none⟩ (.bool gq)).setCell ⟨HA,1,none⟩ (.slice Aq nq cq)).setCell ⟨HA,2,none⟩ (.float .f64 fq)).setCell ⟨HA,3,none⟩ (.bool bq)=u at *
 have HBu0:=Lib.hid (show Below w1.heap.size w1 u from HK7.out.grown hS.out.2 HK7.out.size (fun j e=>by injection e with e;have:=HGp.out;omega))
 refine hK.out _ _ (fun _=>HBu0.out) ?_
 refine uW 10 fun K hK=>?_
 go_simp
 refine hK.out _ _ (fun h=>absurd h (by simp)) ?_
 refine wpAnyW_done (by kernel_rfl) ?_ _
 have hOu:=HO6.out u hS.out.2
 have HBu:=Lib.hid (show Below w1.heap.size w1 u from HK7.out.grown hS.out.2 HK7.out.size (fun j e=>by injection e with e;have:=HGp.out;omega))
 have HWu:=Lib.hid (HB1.out.trans (HBu.out.mono HB1.out.size))
 have HXu:=Lib.hid (HX1.out.below HBu.out)
 have HNu:=Lib.hid hS.out.1
 have HGu:=Lib.hid (show w1.heap.size≤z5.heap.size from HGp.out.2.2.2.2)
 clear hS HK7 HGp HO6 HA7 HX1 HT1 HDk
 rcases hOu with ⟨e1,rfl,hat⟩ | ⟨tt,e1,hqn,hball⟩
 ·have ha:∀ (W:World),(Instr.typeAssert .nilIface 49 95 true).run Tryz.prog W = .ok (.tuple #[.pointer none,.bool false]) W:=fun W=>by kernel_rfl
  obtain ⟨a0,a1,a2,a3⟩:=HNu.out.cells
  simp only at a0 a1 a2 a3
  have HTm:=Lib.hid (term_ok (hat.wide (Q:=fun b=>b<u.heap.size) (fun b hb=>hb.2)))
  simp only [Nv.v,Nv.vals] at HTm
  subst e1
  have HSx:=Lib.hid hat.nms
  generalize Nv.nm ⟨gq,Aq,nq,cq,lq,fq,bq⟩=X at *
  clear hat
  go_upto_region 8 with fail
  go_wp2_with fail
  (with_reducible refine HTm.out.mono ?_)
  rintro e u2 ⟨rfl,hb2⟩
  have HW2:=Lib.hid (HWu.out.trans (hb2.mono HWu.out.size))
  have HE:=Lib.hid (show ∀ u',Below w.heap.size w u'→EvalPost w (.ok X) (.returned (.tuple #[valT (numT X) (.slice none 0 0),.nilIface])) u' from fun u' hu=>⟨hu,.inl ⟨X,rfl,rfl,HSx.out⟩⟩)
  have hX2:=HXu.out.below hb2
  generalize numT X=Y at *
  obtain ⟨ky,ny,my,by',vy,ay⟩:=Y
  obtain ⟨nyb,hny⟩:∃ x:ByteArray,(⟨ny.toArray⟩:ByteArray)=x:=⟨_,rfl⟩
  obtain ⟨myb,hmy⟩:∃ x:ByteArray,(⟨my.toArray⟩:ByteArray)=x:=⟨_,rfl⟩
  rw [valT_mk hny hmy] at HE ⊢
  obtain ⟨c0,c1,c2,c3,c4,c5⟩:=hX2.cells rfl rfl
  obtain ⟨y0,y1,y2,y3,y4,y5⟩:=hX2.frozens
  have hS:=hX2.set6 (k:=ky) (b:=by') (v:=vy) (n:=ny) (m:=my) (nb:=nyb) (mb:=myb) ay (.slice none 0 0) hny hmy
  have HY:=Lib.hid (And.intro hny hmy)
  clear hb2 hny hmy HTm HNu HXu
  go_wp2_with fail
  obtain ⟨hbx,hgr⟩:=hS
  generalize (((((u2.setCell ⟨w.heap.size+1,0,none⟩ (.int .i64 ky)).setCell ⟨w.heap.size+1,1,none⟩ (.string nyb)).setCell ⟨w.heap.size+1,2,none⟩ (.string myb)).setCell ⟨w.heap.size+1,3,none⟩ (.int .u64 by')).setCell ⟨w.heap.size+1,4,none⟩ (.int .i64 vy)).setCell ⟨w.heap.size+1,5,none⟩ (.slice none 0 0)=w6 at *
  obtain ⟨r0,r1,r2,r3,r4,r5⟩:=hbx.cells HY.out.1 HY.out.2
  exact bodyPost_ret (v:=.tuple #[.agg #[.int .i64 ky,.string nyb,.string myb,.int .u64 by',.int .i64 vy,.slice none 0 0],.nilIface]) (by simp [results,Tryz.results24,go_sem,r0,r1,r2,r3,r4,r5]) rfl (HE.out _ (HW2.out.grown hgr (by have:=HWu.out.size;have:=HW2.out.size;omega) (fun j e=>by injection e with e;omega)))
 ·obtain ⟨gg,rfl⟩:=hball.iface
  have ha:∀ (W:World) (v:Value),(Instr.typeAssert (.iface 95 v) 49 95 true).run Tryz.prog W = .ok (.tuple #[v,.bool true]) W:=fun W v=>by kernel_rfl
  obtain ⟨c0,c1,c2,c3,c4,c5⟩:=HXu.out.cells rfl rfl
  obtain ⟨y0,y1,y2,y3,y4,y5⟩:=HXu.out.frozens
  have hS:=HXu.out.set6 (k:=0) (b:=0) (v:=0) (n:=[]) (m:=[]) (nb:=⟨#[]⟩) (mb:=⟨#[]⟩) [] (.slice none 0 0) rfl rfl
  have HBa:=Lib.hid hball
  subst e1
  clear hball hqn
  go_upto_region 6 with fail
  go_wp2_with fail
  obtain ⟨hbx,hgr⟩:=hS
  generalize (((((u.setCell ⟨w.heap.size+1,0,none⟩ (.int .i64 0)).setCell ⟨w.heap.size+1,1,none⟩ (.string ⟨#[]⟩)).setCell ⟨w.heap.size+1,2,none⟩ (.string ⟨#[]⟩)).setCell ⟨w.heap.size+1,3,none⟩ (.int .u64 0)).setCell ⟨w.heap.size+1,4,none⟩ (.int .i64 0)).setCell ⟨w.heap.size+1,5,none⟩ (.slice none 0 0)=w6 at *
  obtain ⟨r0,r1,r2,r3,r4,r5⟩:=hbx.cells (nb:=⟨#[]⟩) (mb:=⟨#[]⟩) rfl rfl
  exact bodyPost_ret (v:=.tuple #[.agg #[.int .i64 0,.string ⟨#[]⟩,.string ⟨#[]⟩,.int .u64 0,.int .i64 0,.slice none 0 0],.iface 95 (.pointer (some ⟨gg,0,none⟩))]) (by simp [results,Tryz.results24,go_sem,r0,r1,r2,r3,r4,r5]) rfl
   ⟨HWu.out.grown hgr HWu.out.size (fun j e=>by injection e with e;omega),.inr ⟨tt,_,rfl,rfl,(HBa.out.gro hgr (by have:=HGu.out;have:=HZ1.out;omega)).lower (by have:=HGu.out;have:=HB1.out.size;omega)⟩⟩
end
end Go.Proofs.YtjpnmmjgdiiahaaGreatDoor
set_option exponentiation.threshold 5000
namespace Go.Proofs.YtjpnmmjgdiiahaaGreatDoor
section
open Go.RowKit Hb Ht
attribute [local go_sem ↓] Go.wp_at_zero Go.wp_at_succ
attribute [local go_sem] run_store_float
theorem checks_two {a b:Tm} : (checksP [a,b]≠0→cmpR a b=(0,checksP [a,b]))∧(checksP [a,b]=0→checkP a=0∧checkP b=0):=by
 have e:checksP [a,b]=if checkP a≠0 then checkP a else if checkP b≠0 then checkP b else 0:=rfl
 rw [e]
 unfold cmpR
 by_cases h1:checkP a=0 <;> by_cases h2:checkP b=0 <;> simp [h1,h2]
theorem RrPost.form {w w':World} {t:Tm} {e:Ending} (h:RrPost w t e w'):Below w.heap.size w w'∧∃ (f s:Bool) (A:Option Addr) (n c:Nat) (s':Bool) (A':Option Addr) (n' c':Nat) (ok:Bool),e = .returned (.tuple #[.agg #[.bool f,.bool s,.slice A n c,.bool s',.slice A' n' c'],.bool ok]) ∧
  ((ok=true∧∃ x,nmOf t=some x∧QAt w' w.heap.size x (.agg #[.bool f,.bool s,.slice A n c,.bool s',.slice A' n' c']))∨(ok=false∧nmOf t=none)):=by
 obtain ⟨hb,⟨x,v,hx,he,hq⟩ | ⟨hx,he⟩⟩:=h
 ·have hq':=hq
  obtain ⟨A,c,A',c',hv,_,_⟩:=hq'
  subst hv
  exact ⟨hb,_,_,_,_,_,_,_,_,_,true,he,.inl ⟨rfl,x,hx,hq⟩⟩
 ·exact ⟨hb,_,_,_,_,_,_,_,_,_,false,he,.inr ⟨rfl,hx⟩⟩
theorem qs_of {t:Tm} {x:Nm} (h:checkP t=0) (hx:nmOf t=some x) (hb:0≤t.b∧t.b<18446744073709551616):QS x∧∀ f,x = .flo f→f<18446744073709551616:=by
 have hr:=rdOk h
 unfold nmOf at hx
 split at hx
 ·rename_i h3
  injection hx with hx
  subst hx
  refine ⟨⟨?_,show 1<2 ^ 4096 from Nat.one_lt_two_pow (by decide)⟩,fun f e=>by cases e⟩
  have h1:=code_ok (hr.1 h3)
  unfold tooLong at h1
  show (pVal t.m 10).natAbs<_
  exact blen_le_iff.1 (by simpa using h1)
 ·split at hx
  ·injection hx with hx
   subst hx
   refine ⟨⟨?_,?_⟩,fun f e=>by injection e with e;subst e;omega⟩
   ·show (topS t.b.toNat).natAbs<_
    rw [topS_abs]
    exact Nat.lt_trans (topF_lt _) (Nat.pow_lt_pow_right (by decide) (by decide))
   ·show botF t.b.toNat<_
    unfold botF
    exact Nat.pow_lt_pow_right (by decide) (by omega)
  ·cases hx
set_option maxRecDepth 100000 in
set_option maxHeartbeats 8000000 in
theorem rCompare_ok {ta tb:Tm} {sa sb:Value} {w:World} (ha:TAt w w.heap.size ta sa) (hb:TAt w w.heap.size tb sb) (fa:Fits ta) (fb:Fits tb):Calls Tryz.prog 16 #[valT ta sa,valT tb sb] w (CompPost w ta tb):=by
 obtain ⟨k1,nl1,ml1,b1,v1,ts1,nb1,mb1,A1,c1,rfl,rfl,hnb1,hmb1,hl1,hl2,hl3,hv1,_,_⟩:=ha.letters
 obtain ⟨k2,nl2,ml2,b2,v2,ts2,nb2,mb2,A2,c2,rfl,rfl,hnb2,hmb2,hm1,hm2,hm3,hv2,_,_⟩:=hb.letters
 rw [hv1,hv2]
 obtain ⟨q1,hq1⟩:∃ q,ts1.length=q:=⟨_,rfl⟩
 obtain ⟨q2,hq2⟩:∃ q,ts2.length=q:=⟨_,rfl⟩
 rw [hq1] at ha hv1 ⊢
 rw [hq2] at hb hv2 ⊢
 have hoa:0≤b1∧b1<18446744073709551616:=ha.ok.2.2.1
 have hob:0≤b2∧b2<18446744073709551616:=hb.ok.2.2.1
 have HRa:=Lib.hid (fun (h0:checkP (.mk k1 nl1 ml1 b1 v1 ts1)=0) (y:World) (hy:Below w.heap.size w y)=>rRead_ok (ha.to hy hy.size) (rdOk h0))
 have HRb:=Lib.hid (fun (h0:checkP (.mk k2 nl2 ml2 b2 v2 ts2)=0) (y:World) (hy:Below w.heap.size w y)=>rRead_ok (hb.to hy hy.size) (rdOk h0))
 have HQa:=Lib.hid (fun (h0:checkP (.mk k1 nl1 ml1 b1 v1 ts1)=0) (x:Nm) (hx:nmOf (.mk k1 nl1 ml1 b1 v1 ts1)=some x)=>qs_of h0 hx hoa)
 have HQb:=Lib.hid (fun (h0:checkP (.mk k2 nl2 ml2 b2 v2 ts2)=0) (x:Nm) (hx:nmOf (.mk k2 nl2 ml2 b2 v2 ts2)=some x)=>qs_of h0 hx hob)
 rw [hv1] at HRa
 rw [hv2] at HRb
 have hrow:RowP (((w.alloc (.cells #[.int .i64 k1,.string nb1,.string mb1,.int .u64 b1,.int .i64 v1,.slice A1 q1 c1] 25)).alloc (.cells #[.int .i64 k2,.string nb2,.string mb2,.int .u64 b2,.int .i64 v2,.slice A2 q2 c2] 25)).alloc (.cells #[.int .i64 k1,.string nb1,.string mb1,.int .u64 b1,.int .i64 v1,.slice A1 q1 c1,.int .i64 k2,.string nb2,.string mb2,.int .u64 b2,.int .i64 v2,.slice A2 q2 c2] 25)) (fun b=>b<w.heap.size) (some ⟨w.heap.size+1+1,0,none⟩) 2 [((.mk k1 nl1 ml1 b1 v1 ts1:Tm),Value.slice A1 q1 c1),((.mk k2 nl2 ml2 b2 v2 ts2:Tm),Value.slice A2 q2 c2)]:=by
  have hb3:Below w.heap.size w (((w.alloc (.cells #[.int .i64 k1,.string nb1,.string mb1,.int .u64 b1,.int .i64 v1,.slice A1 q1 c1] 25)).alloc (.cells #[.int .i64 k2,.string nb2,.string mb2,.int .u64 b2,.int .i64 v2,.slice A2 q2 c2] 25)).alloc (.cells #[.int .i64 k1,.string nb1,.string mb1,.int .u64 b1,.int .i64 v1,.slice A1 q1 c1,.int .i64 k2,.string nb2,.string mb2,.int .u64 b2,.int .i64 v2,.slice A2 q2 c2] 25)):=(((Below.refl _ _).alloc (Nat.le_refl _) _).alloc (by simp) _).alloc (by simp;omega) _
  have hsz:((w.alloc (.cells #[.int .i64 k1,.string nb1,.string mb1,.int .u64 b1,.int .i64 v1,.slice A1 q1 c1] 25)).alloc (.cells #[.int .i64 k2,.string nb2,.string mb2,.int .u64 b2,.int .i64 v2,.slice A2 q2 c2] 25)).heap.size=w.heap.size+1+1:=by simp
  rw [←hsz]
  refine RowP.block (ps:=[((.mk k1 nl1 ml1 b1 v1 ts1:Tm),Value.slice A1 q1 c1),((.mk k2 nl2 ml2 b2 v2 ts2:Tm),Value.slice A2 q2 c2)]) ?_ (fun p hp=>?_)
  ·rw [←hnb1,←hmb1,←hnb2,←hmb2]
   exact heap_alloc_new _ _
  ·simp only [List.mem_cons,List.not_mem_nil,or_false] at hp
   rcases hp with rfl | rfl
   ·exact TAtP.below ha hb3 (fun b h=>h)
   ·exact TAtP.below hb hb3 (fun b h=>h)
 have HCk:=Lib.hid (rChecks_any hrow (fun b h=>Nat.lt_of_lt_of_le h (by simp;omega)) (by unfold maxArgs;omega) (c:=2) (Nat.le_refl _) (fun p hp=>by
  simp only [List.mem_cons,List.not_mem_nil,or_false] at hp
  rcases hp with rfl | rfl
  ·exact fa
  ·exact fb))
 have HT:=Lib.hid (checks_two (a:=.mk k1 nl1 ml1 b1 v1 ts1) (b:=.mk k2 nl2 ml2 b2 v2 ts2))
 simp only [List.map_cons,List.map_nil] at HCk
 generalize hTa:(Tm.mk k1 nl1 ml1 b1 v1 ts1)=Ta at *
 generalize hTb:(Tm.mk k2 nl2 ml2 b2 v2 ts2)=Tb at *
 obtain ⟨R,hR⟩:∃ R,checksP [Ta,Tb]=R:=⟨_,rfl⟩
 rw [hR] at HCk HT
 have hXa:(w.alloc (.cells #[.int .i64 k1,.string nb1,.string mb1,.int .u64 b1,.int .i64 v1,.slice A1 q1 c1] 25)).heap[w.heap.size]?=some (.cells #[.int .i64 k1,.string nb1,.string mb1,.int .u64 b1,.int .i64 v1,.slice A1 q1 c1] 25 (0,0)):=heap_alloc_new w _
 have hXb:((w.alloc (.cells #[.int .i64 k1,.string nb1,.string mb1,.int .u64 b1,.int .i64 v1,.slice A1 q1 c1] 25)).alloc (.cells #[.int .i64 k2,.string nb2,.string mb2,.int .u64 b2,.int .i64 v2,.slice A2 q2 c2] 25)).heap[w.heap.size+1]?=some (.cells #[.int .i64 k2,.string nb2,.string mb2,.int .u64 b2,.int .i64 v2,.slice A2 q2 c2] 25 (0,0)):=by
  have:=heap_alloc_new (w.alloc (.cells #[.int .i64 k1,.string nb1,.string mb1,.int .u64 b1,.int .i64 v1,.slice A1 q1 c1] 25)) (.cells #[.int .i64 k2,.string nb2,.string mb2,.int .u64 b2,.int .i64 v2,.slice A2 q2 c2] 25)
  rwa [World.size_alloc] at this
 have hb1:Below (w.heap.size+1) (w.alloc (.cells #[.int .i64 k1,.string nb1,.string mb1,.int .u64 b1,.int .i64 v1,.slice A1 q1 c1] 25)) ((w.alloc (.cells #[.int .i64 k1,.string nb1,.string mb1,.int .u64 b1,.int .i64 v1,.slice A1 q1 c1] 25)).alloc (.cells #[.int .i64 k2,.string nb2,.string mb2,.int .u64 b2,.int .i64 v2,.slice A2 q2 c2] 25)):=(Below.refl _ _).alloc (by simp) _
 have hb2:Below (w.heap.size+1+1) ((w.alloc (.cells #[.int .i64 k1,.string nb1,.string mb1,.int .u64 b1,.int .i64 v1,.slice A1 q1 c1] 25)).alloc (.cells #[.int .i64 k2,.string nb2,.string mb2,.int .u64 b2,.int .i64 v2,.slice A2 q2 c2] 25)) (((w.alloc (.cells #[.int .i64 k1,.string nb1,.string mb1,.int .u64 b1,.int .i64 v1,.slice A1 q1 c1] 25)).alloc (.cells #[.int .i64 k2,.string nb2,.string mb2,.int .u64 b2,.int .i64 v2,.slice A2 q2 c2] 25)).alloc (.cells #[.int .i64 k1,.string nb1,.string mb1,.int .u64 b1,.int .i64 v1,.slice A1 q1 c1,.int .i64 k2,.string nb2,.string mb2,.int .u64 b2,.int .i64 v2,.slice A2 q2 c2] 25)):=(Below.refl _ _).alloc (by simp) _
 have HXa:=Lib.hid (((hb1.trans (hb2.mono (by omega))).block w.heap.size (by omega)).trans hXa)
 have HXb:=Lib.hid ((hb2.block (w.heap.size+1) (by omega)).trans hXb)
 have HB:=Lib.hid (show Below w.heap.size w (((w.alloc (.cells #[.int .i64 k1,.string nb1,.string mb1,.int .u64 b1,.int .i64 v1,.slice A1 q1 c1] 25)).alloc (.cells #[.int .i64 k2,.string nb2,.string mb2,.int .u64 b2,.int .i64 v2,.slice A2 q2 c2] 25)).alloc (.cells #[.int .i64 k1,.string nb1,.string mb1,.int .u64 b1,.int .i64 v1,.slice A1 q1 c1,.int .i64 k2,.string nb2,.string mb2,.int .u64 b2,.int .i64 v2,.slice A2 q2 c2] 25)) from (((Below.refl _ _).alloc (Nat.le_refl _) _).alloc (by simp) _).alloc (by simp;omega) _)
 have HZ:=Lib.hid (show (((w.alloc (.cells #[.int .i64 k1,.string nb1,.string mb1,.int .u64 b1,.int .i64 v1,.slice A1 q1 c1] 25)).alloc (.cells #[.int .i64 k2,.string nb2,.string mb2,.int .u64 b2,.int .i64 v2,.slice A2 q2 c2] 25)).alloc (.cells #[.int .i64 k1,.string nb1,.string mb1,.int .u64 b1,.int .i64 v1,.slice A1 q1 c1,.int .i64 k2,.string nb2,.string mb2,.int .u64 b2,.int .i64 v2,.slice A2 q2 c2] 25)).heap.size=w.heap.size+1+1+1 from by simp)
 have HUnf:=Lib.hid (show ∀ (y:World) (p:Int × Int),Below w.heap.size w y→cmpR Ta Tb=p→CompPost w Ta Tb (.returned (.tuple #[.int .i64 p.1,.int .i64 p.2])) y from fun y p hy hp=>⟨by rw [hp],hy⟩)
 have HSp:=Lib.hid (show (∀ x y,checkP Ta=0→checkP Tb=0→nmOf Ta=some x→nmOf Tb=some y→cmpR Ta Tb=(cmpM x y,0))∧(checkP Ta=0→checkP Tb=0→(nmOf Ta=none∨nmOf Tb=none)→cmpR Ta Tb=(0,70)) from by
  constructor
  ·intro x y h1 h2 h3 h4
   unfold cmpR
   rw [if_neg (by simp [h1]),if_neg (by simp [h2]),h3,h4]
  ·intro h1 h2 h3
   unfold cmpR
   rw [if_neg (by simp [h1]),if_neg (by simp [h2])]
   rcases h3 with h3 | h3
   ·rw [h3]
   ·cases h4:nmOf Ta with
    | none=>rfl
    | some x=>rw [h3])
 clear hrow hXa hXb hb1 hb2 ha hb fa fb hv1 hv2 hl1 hl2 hl3 hm1 hm2 hm3 hnb1 hmb1 hnb2 hmb2 hq1 hq2 hTa hTb hR hoa hob
 go_enter Tryz.func16,Tryz.ntmps16
 go_wp2_with fail
 generalize (((w.alloc (.cells #[.int .i64 k1,.string nb1,.string mb1,.int .u64 b1,.int .i64 v1,.slice A1 q1 c1] 25)).alloc (.cells #[.int .i64 k2,.string nb2,.string mb2,.int .u64 b2,.int .i64 v2,.slice A2 q2 c2] 25)).alloc (.cells #[.int .i64 k1,.string nb1,.string mb1,.int .u64 b1,.int .i64 v1,.slice A1 q1 c1,.int .i64 k2,.string nb2,.string mb2,.int .u64 b2,.int .i64 v2,.slice A2 q2 c2] 25))=W0 at *
 (with_reducible refine HCk.out.mono ?_)
 rintro e w1 ⟨rfl,hb⟩
 have HB1:=Lib.hid (HB.out.trans (hb.mono HB.out.size))
 have HD1:=Lib.hid hb
 clear hb
 by_cases h0:R=0
 ·subst h0
  obtain ⟨ca,cb⟩:=HT.out.2 rfl
  have HRa:=Lib.hid (HRa.out ca)
  have HRb:=Lib.hid (HRb.out cb)
  have HQa:=Lib.hid (HQa.out ca)
  have HQb:=Lib.hid (HQb.out cb)
  have HSp:=Lib.hid (And.intro (fun x y=>HSp.out.1 x y ca cb) (HSp.out.2 ca cb))
  clear ca cb HT HCk
  go_upto_region 4 with fail
  obtain ⟨xa0,xa1,xa2,xa3,xa4,xa5⟩:w1.cell? ⟨w.heap.size,0,none⟩=some (.int .i64 k1)∧w1.cell? ⟨w.heap.size,1,none⟩=some (.string nb1)∧w1.cell? ⟨w.heap.size,2,none⟩=some (.string mb1)∧w1.cell? ⟨w.heap.size,3,none⟩=some (.int .u64 b1)∧w1.cell? ⟨w.heap.size,4,none⟩=some (.int .i64 v1)∧w1.cell? ⟨w.heap.size,5,none⟩=some (.slice A1 q1 c1):=(by refine ⟨?_,?_,?_,?_,?_,?_⟩ <;> (rw [cell_of_row _ _ _ _ _ (0,0) ((HD1.out.block _ (by have:=HZ.out;omega)).trans HXa.out)];rfl))
  go_wp2_with fail
  (with_reducible refine (HRa.out _ HB1.out).mono ?_)
  intro e w2 hp
  obtain ⟨hb,f1,s1,B1,n1,d1,s1',B1',n1',d1',ok1,rfl,hok1⟩:=hp.form
  clear hp xa0 xa1 xa2 xa3 xa4 xa5
  have HB2:=Lib.hid (HB1.out.trans (hb.mono HB1.out.size))
  have HD2:=Lib.hid (HD1.out.trans (hb.mono HD1.out.size))
  have HOk1:=Lib.hid hok1
  have HX1:=Lib.hid (QBox.new w2 (.bool f1) (.bool s1) (.slice B1 n1 d1) (.bool s1') (.slice B1' n1' d1'))
  have HA1:=Lib.hid (show Below w2.heap.size w2 (w2.alloc (.cells #[.bool f1,.bool s1,.slice B1 n1 d1,.bool s1',.slice B1' n1' d1'] 61)) from (Below.refl _ _).alloc (Nat.le_refl _) _)
  clear hb hok1
  go_upto_region 5 with fail
  generalize w2.alloc (.cells #[.bool f1,.bool s1,.slice B1 n1 d1,.bool s1',.slice B1' n1' d1'] 61)=w3 at *
  have HB3:=Lib.hid (HB2.out.trans (HA1.out.mono HB2.out.size))
  have HD3:=Lib.hid (HD2.out.trans (HA1.out.mono HD2.out.size))
  obtain ⟨xb0,xb1,xb2,xb3,xb4,xb5⟩:w3.cell? ⟨w.heap.size+1,0,none⟩=some (.int .i64 k2)∧w3.cell? ⟨w.heap.size+1,1,none⟩=some (.string nb2)∧w3.cell? ⟨w.heap.size+1,2,none⟩=some (.string mb2)∧w3.cell? ⟨w.heap.size+1,3,none⟩=some (.int .u64 b2)∧w3.cell? ⟨w.heap.size+1,4,none⟩=some (.int .i64 v2)∧w3.cell? ⟨w.heap.size+1,5,none⟩=some (.slice A2 q2 c2):=(by refine ⟨?_,?_,?_,?_,?_,?_⟩ <;> (rw [cell_of_row _ _ _ _ _ (0,0) ((HD3.out.block _ (by have:=HZ.out;omega)).trans HXb.out)];rfl))
  go_wp2_with fail
  (with_reducible refine (HRb.out _ HB3.out).mono ?_)
  intro e w4 hp
  obtain ⟨hb,f2,s2,B2,n2,d2,s2',B2',n2',d2',ok2,rfl,hok2⟩:=hp.form
  clear hp xb0 xb1 xb2 xb3 xb4 xb5
  have HB4:=Lib.hid (HB3.out.trans (hb.mono HB3.out.size))
  have HOk2:=Lib.hid hok2
  have HE4:=Lib.hid (HA1.out.trans (hb.mono HA1.out.size))
  have HX1:=Lib.hid (HX1.out.below hb HX1.out.lt)
  have HX2:=Lib.hid (QBox.new w4 (.bool f2) (.bool s2) (.slice B2 n2 d2) (.bool s2') (.slice B2' n2' d2'))
  have HA2:=Lib.hid (show Below w4.heap.size w4 (w4.alloc (.cells #[.bool f2,.bool s2,.slice B2 n2 d2,.bool s2',.slice B2' n2' d2'] 61)) from (Below.refl _ _).alloc (Nat.le_refl _) _)
  clear hb hok2
  go_upto_region 6 with fail
  generalize w4.alloc (.cells #[.bool f2,.bool s2,.slice B2 n2 d2,.bool s2',.slice B2' n2' d2'] 61)=w5 at *
  have HB5:=Lib.hid (HB4.out.trans (HA2.out.mono HB4.out.size))
  have HX1:=Lib.hid (HX1.out.below HA2.out HX1.out.lt)
  cases ok1
  ·have hn1:nmOf Ta=none:=by
    rcases HOk1.out with ⟨h,_⟩ | ⟨_,h⟩
    ·cases h
    ·exact h
   have HP:=Lib.hid (HUnf.out w5 (0,70) HB5.out (HSp.out.2 (.inl hn1)))
   clear hn1
   go_wp2_with fail
   exact bodyPost_ret (v:=.tuple #[.int .i64 0,.int .i64 70]) (by simp [results,Tryz.results16,go_sem]) rfl HP.out
  cases ok2
  ·have hn2:nmOf Tb=none:=by
    rcases HOk2.out with ⟨h,_⟩ | ⟨_,h⟩
    ·cases h
    ·exact h
   have HP:=Lib.hid (HUnf.out w5 (0,70) HB5.out (HSp.out.2 (.inr hn2)))
   clear hn2
   go_wp2_with fail
   exact bodyPost_ret (v:=.tuple #[.int .i64 0,.int .i64 70]) (by simp [results,Tryz.results16,go_sem]) rfl HP.out
  obtain ⟨x,hx,hqx⟩:∃ x,nmOf Ta=some x∧QAt w2 w1.heap.size x (.agg #[.bool f1,.bool s1,.slice B1 n1 d1,.bool s1',.slice B1' n1' d1']):=by
   rcases HOk1.out with ⟨_,h⟩ | ⟨h,_⟩
   ·exact h
   ·cases h
  obtain ⟨y,hy,hqy⟩:∃ y,nmOf Tb=some y∧QAt w4 w3.heap.size y (.agg #[.bool f2,.bool s2,.slice B2 n2 d2,.bool s2',.slice B2' n2' d2']):=by
   rcases HOk2.out with ⟨_,h⟩ | ⟨h,_⟩
   ·exact h
   ·cases h
  have HP:=Lib.hid (fun (u:World) (hu:Below w.heap.size w u)=>HUnf.out u (cmpM x y,0) hu (HSp.out.1 x y hx hy))
  have HCm:=Lib.hid (rQCmp_ok ((hqx.below HE4.out (Nat.le_refl _)).below HA2.out (Nat.le_refl _)) (hqy.below HA2.out (Nat.le_refl _)) (HQa.out x hx).1 (HQb.out y hy).1 (HQa.out x hx).2 (HQb.out y hy).2)
  obtain ⟨r0,r1,r2,r3,r4⟩:=HX1.out.cells
  obtain ⟨t0,t1,t2,t3,t4⟩:=HX2.out.cells
  clear hx hy hqx hqy HOk1 HOk2 HSp HQa HQb HRa HRb HUnf
  go_wp2_with fail
  (with_reducible refine HCm.out.mono ?_)
  rintro e w6 ⟨rfl,hb⟩
  have HB6:=Lib.hid (HP.out w6 (HB5.out.trans (hb.mono HB5.out.size)))
  clear hb
  go_wp2_with fail
  exact bodyPost_ret (v:=.tuple #[.int .i64 (cmpM x y),.int .i64 0]) (by simp [results,Tryz.results16,go_sem]) rfl HB6.out
 ·have h0b:(R != 0)=true:=by simpa using h0
  have HP:=Lib.hid (HUnf.out w1 (0,R) HB1.out (HT.out.1 h0))
  clear h0
  go_wp2_with fail
  exact bodyPost_ret (v:=.tuple #[.int .i64 0,.int .i64 R]) (by simp [results,Tryz.results16,go_sem]) rfl HP.out
end
end Go.Proofs.YtjpnmmjgdiiahaaGreatDoor
set_option exponentiation.threshold 5000
namespace Go.Proofs.YtjpnmmjgdiiahaaGreatDoor
section
open Go.RowKit Hb Ht Hq
attribute [local go_sem ↓] Go.wp_at_zero Go.wp_at_succ
attribute [local go_sem] run_store_float
def divF (a b:Nat):Nat:=(Ieee.double.div a b).getD 0
def noI (a b:Int):Int × Int:=(0,0)
def isZ:Nm→Bool
 | .int z=>decide (z=0)
 | .flo f=>decide (f=0)
def divR (x y:Nm):Rs:=if isZ y then .bad (evT sZero) else match x,y with
 | .int a,.int b=>if a.tmod b=0 then .ok (.int (a.tdiv b)) else match floR (.int a) with
  | none=>.bad (evT sOver)
  | some fa=>bothR noI divF (.flo fa) (.int b)
 | x,y=>bothR noI divF x y
set_option maxRecDepth 100000 in
theorem div_fn:FFn 178 (fun _ b=>b≠0) divF:=⟨fun _ _=>by kernel_rfl,fun a b ha hb h0=>by
 obtain ⟨r,hr,hn⟩:=div_num ha.1 hb.1 (by have:=hb.2;have:=hb.1.2;omega)
 have hF:divF a b=r:=by unfold divF;rw [hr];rfl
 rw [hF]
 refine ⟨hn,fun y=>?_⟩
 have hop:∀ w1,(binOp .quo 68 (.float .f64 a) (.float .f64 b)).run Tryz.prog w1 = .ok (.float .f64 r) w1:=fun w1=>run_float_arith w1 .quo _ .f64 _ _ _ hr
 go_enter Tryz.func178,Tryz.ntmps178
 go_wp2
 go_ret
 exact ⟨rfl,rfl⟩⟩
theorem tfB_zero_iff {z:Int} (h0:z≠0) (hl:tooLong z=false) (hc:tfC z=0):tfB z≠0:=by
 unfold tfC at hc
 unfold tfB
 rw [hl] at hc ⊢
 simp only [Bool.false_eq_true,if_false] at hc ⊢
 rw [if_neg h0]
 cases hi:flInf z.natAbs with
 | true=>rw [hi] at hc;simp at hc
 | false=>
  simp only [Bool.false_eq_true,if_false]
  unfold flInf at hi
  simp only [Bool.or_eq_false_iff,decide_eq_false_iff_not] at hi
  obtain ⟨h1,h2⟩:=flBits_le (show z.natAbs≠0 by omega) (by omega)
  omega
theorem floR_ne {q:Nv} {w:World} {P:Nat→Prop} (h:q.At w P) (hz:isZ q.nm=false) {b:Nat} (e:floR q.nm=some b):b≠0:=by
 unfold Nv.nm at hz e
 cases hb:q.b with
 | true=>
  rw [hb] at hz e
  simp only [if_true] at hz e
  injection e with e
  subst e
  exact of_decide_eq_false hz
 | false=>
  rw [hb] at hz e
  simp only [Bool.false_eq_true,if_false] at hz e
  have h0:ival q.g q.l≠0:=of_decide_eq_false hz
  change (if tfC (ival q.g q.l)=0 then some (tfB (ival q.g q.l)) else none)=some b at e
  by_cases hc:tfC (ival q.g q.l)=0
  ·rw [if_pos hc] at e;injection e with e;rw [←e];exact tfB_zero_iff h0 h.sh hc
  ·rw [if_neg hc] at e;cases e
theorem long_mono {a b:Int} (h:a.natAbs≤b.natAbs) (hb:tooLong b=false):tooLong a=false:=by
 rw [tooLong,decide_eq_false_iff_not] at hb ⊢
 have h1:blen b.natAbs≤4096:=by omega
 have h2:blen a.natAbs≤4096:=blen_le_iff.2 (Nat.lt_of_le_of_lt h (blen_le_iff.1 h1))
 omega
theorem tdiv_abs9 (x y:Int):(x.tdiv y).natAbs≤x.natAbs:=by
 rw [Int.natAbs_tdiv]
 exact Nat.div_le_self _ _
theorem tmod_abs9 (x y:Int):(x.tmod y).natAbs≤x.natAbs:=by
 rw [Int.natAbs_tmod]
 exact Nat.mod_le _ _
theorem both_div {q1 q2:Nv} {w:World} (h1:q1.At w (fun b=>b<w.heap.size)) (h2:q2.At w (fun b=>b<w.heap.size)) (hf:q1.b=true∨q2.b=true) (hz:isZ q2.nm=false) :
  Calls Tryz.prog 107 #[q1.v,q2.v,.nilFunc,.func (.func 178) #[] #[]] w (NPost w (bothR noI divF q1.nm q2.nm)):=
 both_ok h1 h2 noI divF (fun a b e1 e2=>by
  exfalso
  unfold Nv.nm at e1 e2
  rcases hf with hf | hf
  ·rw [hf] at e1;simp at e1
  ·rw [hf] at e2;simp at e2) (fun _=>⟨_,rfl,div_fn.1,fun a b e1 e2=>div_fn.2 a b (floR_flo (x:=.int 0) h1 e1) (floR_flo (x:=.int 0) h2 e2) (floR_ne h2 hz e2)⟩)
structure DS (w:World) (q1 q2:Nv) (H4 H5:Nat) (u:World):Prop where
 bel:Below w.heap.size w u
 res:NBox u w.heap.size nought
 x:NBox u H4 q1
 y:NBox u H5 q2
 l4:w.heap.size<H4
 l5:w.heap.size<H5
 ne:H4≠H5
 k1:q1.At u (fun b=>b<u.heap.size)
 k2:q2.At u (fun b=>b<u.heap.size)
theorem DS.up {w:World} {q1 q2:Nv} {H4 H5:Nat} {u u':World} (h:DS w q1 q2 H4 H5 u) (hb:Below u.heap.size u u'):DS w q1 q2 H4 H5 u':=
 ⟨h.bel.trans (hb.mono h.bel.size),h.res.below hb h.res.lt,h.x.below hb h.x.lt,h.y.below hb h.y.lt,h.l4,h.l5,h.ne,h.k1.up hb,h.k2.up hb⟩
theorem isZ_int {g:Bool} {A:Option Addr} {n c:Nat} {l:List Nat} {f:Nat} : isZ (Nv.nm ⟨g,A,n,c,l,f,false⟩)=((ival g l).sign==0):=by
 show decide (ival g l=0)=_
 by_cases h:ival g l=0
 ·rw [decide_eq_true h,h];rfl
 ·rw [decide_eq_false h]
  exact (beq_eq_false_iff_ne.2 (fun e=>h (Int.sign_eq_zero_iff_zero.1 e))).symm
theorem isZ_flo {g:Bool} {A:Option Addr} {n c:Nat} {l:List Nat} {f:Nat} (h:Flo64 f):isZ (Nv.nm ⟨g,A,n,c,l,f,true⟩)=(FloatKind.f64.format.order f 0==some .eq):=by
 show decide (f=0)=_
 obtain ⟨s,r,e1,e2,e3,e4⟩:=order_zero (fin_num h.1)
 rw [show FloatKind.f64.format.order f 0=_ from e4]
 by_cases h0:f=0
 ·have:r=0:=by rw [←e3,h0]
  rw [decide_eq_true h0,if_pos this];rfl
 ·have:r≠0:=by have:=h.2;have:=h.1.2;omega
  rw [decide_eq_false h0,if_neg this];cases s <;> rfl
set_option maxRecDepth 100000 in
set_option maxHeartbeats 8000000 in
theorem divide_ok {lo:Nat} {q1 q2:Nv} {w:World} {A:Option Addr} {c:Nat} (h:NRd lo w A 2 [q1,q2]):Calls Tryz.prog 114 #[.slice A 2 c] w (NPost w (divR q1.nm q2.nm)):=by
 have HQ1:=Lib.hid (h.kid q1 (by simp))
 have HQ2:=Lib.hid (h.kid q2 (by simp))
 obtain ⟨Rb,Ro,rfl,hlt,⟨a0,a1,a2,a3⟩,⟨b0,b1,b2,b3⟩⟩:=h.two
 have HB:=Lib.hid (show Below w.heap.size w (w.alloc (.cells #[.bool false,.slice none 0 0,.float .f64 0,.bool false] 70)) from (Below.refl _ _).alloc (Nat.le_refl _) _)
 have HZ:=Lib.hid (World.size_alloc w (.cells #[.bool false,.slice none 0 0,.float .f64 0,.bool false] 70))
 have HX:=Lib.hid (show NBox (w.alloc (.cells #[.bool false,.slice none 0 0,.float .f64 0,.bool false] 70)) w.heap.size nought from NBox.new w nought)
 have HA:=Lib.hid (show ∀ y,Below w.heap.size w y→(y.cell? ⟨Rb,Ro,none⟩=some (.bool q1.g)∧y.cell? ⟨Rb,Ro+1,none⟩=some (.slice q1.A q1.n q1.c)∧y.cell? ⟨Rb,Ro+2,none⟩=some (.float .f64 q1.f)∧y.cell? ⟨Rb,Ro+3,none⟩=some (.bool q1.b))∧(y.cell? ⟨Rb,Ro+4,none⟩=some (.bool q2.g)∧y.cell? ⟨Rb,Ro+5,none⟩=some (.slice q2.A q2.n q2.c)∧y.cell? ⟨Rb,Ro+6,none⟩=some (.float .f64 q2.f)∧y.cell? ⟨Rb,Ro+7,none⟩=some (.bool q2.b)) from
  fun y hy=>⟨⟨(hy.cell (p:=⟨Rb,Ro,none⟩) hlt).trans a0,(hy.cell (p:=⟨Rb,Ro+1,none⟩) hlt).trans a1,(hy.cell (p:=⟨Rb,Ro+2,none⟩) hlt).trans a2,(hy.cell (p:=⟨Rb,Ro+3,none⟩) hlt).trans a3⟩,
   ⟨(hy.cell (p:=⟨Rb,Ro+4,none⟩) hlt).trans b0,(hy.cell (p:=⟨Rb,Ro+5,none⟩) hlt).trans b1,(hy.cell (p:=⟨Rb,Ro+6,none⟩) hlt).trans b2,(hy.cell (p:=⟨Rb,Ro+7,none⟩) hlt).trans b3⟩⟩)
 clear h a0 a1 a2 a3 b0 b1 b2 b3 hlt
 obtain ⟨g,A,n,c,l,f,b⟩:=q1
 obtain ⟨g',A',n',c',l',f',b'⟩:=q2
 simp only at HA
 go_enter Tryz.func114,Tryz.ntmps114
 go_upto_region 1 with fail
 generalize w.alloc (.cells #[.bool false,.slice none 0 0,.float .f64 0,.bool false] 70)=w0 at *
 refine wp_region_U 9 (by kernel_rfl) (fun z0 K0 hs0=>?_)
 refine qz 0 K0 ?_
 refine qz 1 K0 ?_
 refine qz 2 K0 ?_ (y:=fun z5 hS=>by obtain ⟨⟨a0,a1,a2,a3⟩,⟨b0,b1,b2,b3⟩⟩:=HA.out _ (HB.out.trans (hS.mono HB.out.size));go_simp;rfl)
 refine qz 3 K0 ?_
 refine qz 4 K0 ?_
 refine qz 5 K0 ?_ (y:=fun z5 hS=>by obtain ⟨⟨a0,a1,a2,a3⟩,⟨b0,b1,b2,b3⟩⟩:=HA.out _ (HB.out.trans (hS.mono HB.out.size));go_simp;rfl)
 refine wpAnyW_float [6,7] (fun q=>if q=6 then .cells #[.bool false,.slice none 0 0,.float .f64 0,.bool false] 70 else .cells #[.bool false,.slice none 0 0,.float .f64 0,.bool false] 70) (by kernel_rfl) (by kernel_rfl) (FloatRun.two rfl rfl (fun a w=>by go_simp) rfl (fun a w=>by go_simp)) (fun _ _ h1 h2=>h2.trans (h1.mono h2.size)) (by kernel_rfl) (fun _ _ _ _ _ h=>h) rfl K0 ?_
 refine wpAnyF_land2 (by kernel_rfl) rfl rfl rfl (fun z7 H4 H5 d7 K7 hA hB gA gB hne=>?_)
 have gA':(False∨(z0.heap.size≤H4∧H4<z7.heap.size)):=gA
 have gB':(False∨(z0.heap.size≤H5∧H5<z7.heap.size)):=gB
 have hg4:w.heap.size<H4:=by have:=K0.size;have:=HZ.out;rcases gA' with h | h;exact h.elim;omega
 have hg5:w.heap.size<H5:=by have:=K0.size;have:=HZ.out;rcases gB' with h | h;exact h.elim;omega
 replace hA:NBox z7 H4 nought:=hA
 replace hB:NBox z7 H5 nought:=hB
 obtain ⟨c0,c1',c2,c3⟩:=hA.cells
 obtain ⟨y0,y1,y2,y3⟩:=hA.frozens
 have hS4:=hA.set4 ⟨g,A,n,c,l,f,b⟩
 simp only [nought] at c0 c1' c2 c3 hS4
 refine uW 8 fun K hK=>?_
 go_simp
 clear c0 c1' c2 c3 y0 y1 y2 y3
 generalize (((z7.setCell ⟨H4,0,none⟩ (.bool g)).setCell ⟨H4,1,none⟩ (.slice A n c)).setCell ⟨H4,2,none⟩ (.float .f64 f)).setCell ⟨H4,3,none⟩ (.bool b)=u1 at *
 have K8:Below w0.heap.size w0 u1:=K7.grown hS4.2 K7.size (fun j e=>by injection e with e;have:=HZ.out;omega)
 refine hK.out _ _ (fun _=>K8) ?_
 have hB1:=hB.gro hS4.2 hne.symm
 obtain ⟨c0,c1',c2,c3⟩:=hB1.cells
 obtain ⟨y0,y1,y2,y3⟩:=hB1.frozens
 have hS5:=hB1.set4 ⟨g',A',n',c',l',f',b'⟩
 simp only [nought] at c0 c1' c2 c3 hS5
 refine uW 9 fun K hK=>?_
 go_simp
 clear c0 c1' c2 c3 y0 y1 y2 y3
 generalize (((u1.setCell ⟨H5,0,none⟩ (.bool g')).setCell ⟨H5,1,none⟩ (.slice A' n' c')).setCell ⟨H5,2,none⟩ (.float .f64 f')).setCell ⟨H5,3,none⟩ (.bool b')=u at *
 refine hK.out _ _ (fun h=>absurd h (by simp)) ?_
 refine wpAnyW_done (by kernel_rfl) ?_ _
 have K9:Below w0.heap.size w0 u:=K8.grown hS5.2 K8.size (fun j e=>by injection e with e;have:=HZ.out;omega)
 have hk7:=HB.out.trans (K7.mono HB.out.size)
 have HD:=Lib.hid (show DS w ⟨g,A,n,c,l,f,b⟩ ⟨g',A',n',c',l',f',b'⟩ H4 H5 u from
  ⟨HB.out.trans (K9.mono HB.out.size),HX.out.below K9 HX.out.lt,hS4.1.gro hS5.2 hne,hS5.1,hg4,hg5,hne,
   ((((HQ1.out.upL hk7).gro (fun b h=>h.2) hA hS4.2).gro (fun b h=>Nat.lt_of_lt_of_le h.2 hS4.2.size) hB1 hS5.2)).wide (fun b h=>Nat.lt_of_lt_of_le (Nat.lt_of_lt_of_le h.2 hS4.2.size) hS5.2.size),
   ((((HQ2.out.upL hk7).gro (fun b h=>h.2) hA hS4.2).gro (fun b h=>Nat.lt_of_lt_of_le h.2 hS4.2.size) hB1 hS5.2)).wide (fun b h=>Nat.lt_of_lt_of_le (Nat.lt_of_lt_of_le h.2 hS4.2.size) hS5.2.size)⟩)
 clear hS4 hS5 hA hB hB1 K0 K7 K8 K9 hk7 gA gB gA' gB' d7 hs0 HQ1 HQ2 HA HB HX hg4 hg5 hne
 obtain ⟨zb,hzb⟩:∃ zb,isZ (Nv.nm ⟨g',A',n',c',l',f',b'⟩)=zb:=⟨_,rfl⟩
 cases b'
 ·
  rw [isZ_int] at hzb
  have HSg:=Lib.hid (sign_any g' (w:=u) (HD.out.k2.lim.sl (fun b hb=>hb)) (Nat.le_refl _))
  cases zb
  ·
   obtain ⟨a0,a1,a2,a3⟩:=HD.out.x.cells
   obtain ⟨b0,b1,b2,b3⟩:=HD.out.y.cells
   simp only at a0 a1 a2 a3 b0 b1 b2 b3
   cases b
   ·
    go_wp2_with fail
    (with_reducible refine HSg.out.mono ?_)
    rintro e u2 ⟨rfl,hb2⟩
    have HD2:=Lib.hid (HD.out.up hb2)
    clear hb2 a0 a1 a2 a3 b0 b1 b2 b3
    obtain ⟨a0,a1,a2,a3⟩:=HD2.out.x.cells
    obtain ⟨b0,b1,b2,b3⟩:=HD2.out.y.cells
    simp only at a0 a1 a2 a3 b0 b1 b2 b3
    have HQR:=Lib.hid (QuoRem_any g g' (w:=u2) (HD2.out.k1.lim.sl (fun b hb=>hb)) (HD2.out.k2.lim.sl (fun b hb=>hb)) (Nat.le_trans HD2.out.k1.sm (by decide)) (Nat.le_trans HD2.out.k2.sm (by decide)) (Nat.le_refl _) (Nat.le_refl _))
    have hy0:ival g' l'≠0:=fun e=>by rw [e] at hzb;exact absurd hzb (by decide)
    rw [lng_ival (neg:=g) (l:=l) rfl,lng_ival (neg:=g') (l:=l') rfl,show tooLong (ival g l)=false from HD2.out.k1.sh,show tooLong (ival g' l')=false from HD2.out.k2.sh,if_neg (by simp),if_neg hy0] at HQR
    have HRx:=Lib.hid (show divR (Nv.nm ⟨g,A,n,c,l,f,false⟩) (Nv.nm ⟨g',A',n',c',l',f',false⟩)=if (ival g l).tmod (ival g' l')=0 then .ok (.int ((ival g l).tdiv (ival g' l'))) else match floR (.int (ival g l)) with
      | none=>.bad (evT sOver)
      | some fa=>bothR noI divF (.flo fa) (.int (ival g' l')) from by
     unfold divR
     rw [isZ_int,hzb]
     rfl)
    have hqs:tooLong ((ival g l).tdiv (ival g' l'))=false:=long_mono (tdiv_abs9 _ _) HD2.out.k1.sh
    have hrs:tooLong ((ival g l).tmod (ival g' l'))=false:=long_mono (tmod_abs9 _ _) HD2.out.k1.sh
    have HSh:=Lib.hid (And.intro hqs hrs)
    have HZn:=Lib.hid (show isZ (Nv.nm ⟨g',A',n',c',l',f',false⟩)=false from by rw [isZ_int];exact hzb)
    obtain ⟨zq,hzq⟩:∃ z,(ival g l).tdiv (ival g' l')=z:=⟨_,rfl⟩
    obtain ⟨zr,hzr⟩:∃ z,(ival g l).tmod (ival g' l')=z:=⟨_,rfl⟩
    rw [hzq,hzr] at HQR HRx HSh
    clear hqs hrs hzq hzr hy0
    go_wp2_with fail
    (with_reducible refine HQR.out.mono ?_)
    rintro e u3 ⟨v1,v2,rfl,h0,_,hb3⟩
    obtain ⟨r1,r2,_⟩:=h0 rfl
    obtain ⟨gq,Aq,nq,cq,lq,rfl,dq1,dq2,dq3⟩:=r1.num HSh.out.1
    obtain ⟨gr,Ar,nr,cr,lr,rfl,dr1,dr2,dr3⟩:=r2.num HSh.out.2
    have HD3:=Lib.hid (HD2.out.up hb3)
    have HBy:=Lib.hid (show Below u3.heap.size u3 ((u3.alloc (.cells #[.bool gq,.slice Aq nq cq] 39)).alloc (.cells #[.bool gr,.slice Ar nr cr] 39)) from ((Below.refl _ _).alloc (Nat.le_refl _) _).alloc (by simp) _)
    have HKq:=Lib.hid (show KBox ((u3.alloc (.cells #[.bool gq,.slice Aq nq cq] 39)).alloc (.cells #[.bool gr,.slice Ar nr cr] 39)) u3.heap.size gq Aq nq cq from (KBox.new u3 gq Aq nq cq).below (B:=u3.heap.size) ((Below.refl _ _).alloc (Nat.le_refl _) _) (KBox.new u3 gq Aq nq cq).lt)
    have HKr:=Lib.hid (show KBox ((u3.alloc (.cells #[.bool gq,.slice Aq nq cq] 39)).alloc (.cells #[.bool gr,.slice Ar nr cr] 39)) (u3.heap.size+1) gr Ar nr cr from by
     have:=KBox.new (u3.alloc (.cells #[.bool gq,.slice Aq nq cq] 39)) gr Ar nr cr
     rwa [World.size_alloc] at this)
    have HD4:=Lib.hid (HD3.out.up HBy.out)
    have HLq:=Lib.hid (dq1.keep (w':=(u3.alloc (.cells #[.bool gq,.slice Aq nq cq] 39)).alloc (.cells #[.bool gr,.slice Ar nr cr] 39)) (Q:=fun b=>b<((u3.alloc (.cells #[.bool gq,.slice Aq nq cq] 39)).alloc (.cells #[.bool gr,.slice Ar nr cr] 39)).heap.size∧u2.heap.size≤b) (fun b hb=>⟨⟨Nat.lt_of_lt_of_le hb.2 HBy.out.size,hb.1⟩,HBy.out.block b hb.2⟩))
    have HLr:=Lib.hid (dr1.keep (w':=(u3.alloc (.cells #[.bool gq,.slice Aq nq cq] 39)).alloc (.cells #[.bool gr,.slice Ar nr cr] 39)) (Q:=fun b=>b<((u3.alloc (.cells #[.bool gq,.slice Aq nq cq] 39)).alloc (.cells #[.bool gr,.slice Ar nr cr] 39)).heap.size) (fun b hb=>⟨Nat.lt_of_lt_of_le hb.2 HBy.out.size,HBy.out.block b hb.2⟩))
    have HVq:=Lib.hid (And.intro dq2 (And.intro dq3 dr3))
    clear hb3 h0 r1 r2 dq1 dq2 dq3 dr1 dr2 dr3 HQR a0 a1 a2 a3 b0 b1 b2 b3 HSg HD HD3
    go_upto_region 6 with fail
    generalize (u3.alloc (.cells #[.bool gq,.slice Aq nq cq] 39)).alloc (.cells #[.bool gr,.slice Ar nr cr] 39)=u4 at *
    obtain ⟨k0,k1⟩:=HKr.out.cells
    have HSr:=Lib.hid (sign_any gr (w:=u4) (HLr.out.sl (fun b hb=>hb)) (Nat.le_refl _))
    rw [HVq.out.2.2] at HSr
    go_wp2_with fail
    (with_reducible refine HSr.out.mono ?_)
    rintro e u5 ⟨rfl,hb5⟩
    have HD5:=Lib.hid (HD4.out.up hb5)
    have HKq5:=Lib.hid (HKq.out.below hb5 HKq.out.lt)
    have HLq5:=Lib.hid (HLq.out.keep (w':=u5) (Q:=fun b=>w.heap.size≤b∧b<u5.heap.size) (fun b hb=>⟨⟨Nat.le_trans HD2.out.bel.size hb.2,Nat.lt_of_lt_of_le hb.1 hb5.size⟩,hb5.block b hb.1⟩))
    clear hb5 HD4 HKq HKr HLq HLr HSr k0 k1
    obtain ⟨k0,k1⟩:=HKq5.out.cells
    obtain ⟨a0,a1,a2,a3⟩:=HD5.out.x.cells
    obtain ⟨z0,z1,z2,z3⟩:=HD5.out.x.frozens
    simp only at a0 a1 a2 a3
    by_cases hr0:zr=0
    ·
     have hsg:(zr.sign==0)=true:=by rw [hr0];rfl
     have HR:=Lib.hid (show divR (Nv.nm ⟨g,A,n,c,l,f,false⟩) (Nv.nm ⟨g',A',n',c',l',f',false⟩) = .ok (.int zq) from by rw [HRx.out,if_pos hr0])
     obtain ⟨c0,c1',c2,c3⟩:=HD5.out.res.cells
     obtain ⟨y0,y1,y2,y3⟩:=HD5.out.res.frozens
     have hS:=HD5.out.res.set4 ⟨gq,Aq,nq,cq,lq,0,false⟩
     simp only [nought] at c0 c1' c2 c3 hS
     clear hr0 HRx
     go_wp2_with fail
     obtain ⟨r0,r1,r2,r3⟩:=hS.1.cells
     simp only at r0 r1 r2 r3
     refine bodyPost_ret (v:=.tuple #[.agg #[.bool gq,.slice Aq nq cq,.float .f64 0,.bool false],.nilIface]) (by simp [results,Tryz.results114,go_sem,r0,r1,r2,r3]) rfl ?_
     rw [HR.out]
     have hnm:Nv.nm ⟨gq,Aq,nq,cq,lq,0,false⟩ = .int zq:=by unfold Nv.nm;simp only [Bool.false_eq_true,if_false];rw [HVq.out.2.1]
     exact NPost.fin (q:=⟨gq,Aq,nq,cq,lq,0,false⟩) HD5.out.bel (Nat.le_refl _) HD5.out.res (.inl ⟨by rw [hnm],rfl,⟨HLq5.out,HVq.out.1,flo0,by rw [show ival _ _=zq from HVq.out.2.1];exact HSh.out.1⟩⟩) hS.2
    ·
     have hsg:(zr.sign==0)=false:=beq_eq_false_iff_ne.2 (fun e=>hr0 (Int.sign_eq_zero_iff_zero.1 e))
     rw [if_neg hr0] at HRx
     have hX1:=HD5.out.x
     have hg1:u5.grownBy (u5.setCell ⟨H4,3,none⟩ (.bool true)) (some H4):=gb_setCell (gb_refl _ _) _ _
     have hx1:NBox (u5.setCell ⟨H4,3,none⟩ (.bool true)) H4 ⟨g,A,n,c,l,f,true⟩:=by
      have h9:=HD5.out.x
      unfold NBox at h9 ⊢
      simp [World.setCell,Array.getElem?_modify,h9,Nv.vals]
     have HD6:=Lib.hid (show DS w ⟨g,A,n,c,l,f,true⟩ ⟨g',A',n',c',l',f',false⟩ H4 H5 (u5.setCell ⟨H4,3,none⟩ (.bool true)) from
      ⟨HD5.out.bel.grown hg1 HD5.out.bel.size (fun j e=>by injection e with e;have:=HD5.out.l4;omega),HD5.out.res.gro hg1 (by have:=HD5.out.l4;omega),hx1,HD5.out.y.gro hg1 (fun e=>HD5.out.ne e.symm),HD5.out.l4,HD5.out.l5,HD5.out.ne,
       (show Nv.At _ _ ⟨g,A,n,c,l,f,true⟩ from ⟨((HD5.out.k1.gro (fun b h=>h) HD5.out.x hg1).wide (fun b h=>Nat.lt_of_lt_of_le h hg1.size)).lim,HD5.out.k1.sm,HD5.out.k1.fl,HD5.out.k1.sh⟩),(HD5.out.k2.gro (fun b h=>h) HD5.out.x hg1).wide (fun b h=>Nat.lt_of_lt_of_le h hg1.size)⟩)
     clear hX1 hg1 hx1 hr0
     go_upto_region 9 with fail
     generalize u5.setCell ⟨H4,3,none⟩ (.bool true)=u6 at *
     clear a0 a1 a2 a3 z0 z1 z2 z3 k0 k1
     obtain ⟨a0,a1,a2,a3⟩:=HD6.out.x.cells
     simp only at a0 a1 a2 a3
     have HFl:=Lib.hid (floated_ok (q:=⟨g,A,n,c,l,0,false⟩) (w:=u6) ⟨HD6.out.k1.lim,HD6.out.k1.sm,flo0,HD6.out.k1.sh⟩)
     simp only [Nv.v,Nv.vals] at HFl
     rw [show Nv.nm ⟨g,A,n,c,l,0,false⟩ = .int (ival g l) from rfl] at HFl
     go_wp2_with fail
     (with_reducible refine HFl.out.mono ?_)
     rintro e u7 ⟨hb7,F7,v7,rfl,hv7⟩
     have HD7:=Lib.hid (HD6.out.up hb7)
     have HL7:=Lib.hid HD6.out.res.lt
     clear hb7 HFl a0 a1 a2 a3
     rcases hv7 with ⟨e1,e2,rfl⟩ | ⟨e1,hvv⟩
     rotate_left
     ·obtain ⟨gg,rfl⟩:=hvv.iface
      have hX2:=HD7.out.res
      obtain ⟨c0,c1',c2,c3⟩:=hX2.cells
      obtain ⟨y0,y1,y2,y3⟩:=hX2.frozens
      have hS:=hX2.set4 nought
      simp only [nought] at hS c0 c1' c2 c3
      have HV:=Lib.hid hvv
      have HR:=Lib.hid (show divR (Nv.nm ⟨g,A,n,c,l,f,false⟩) (Nv.nm ⟨g',A',n',c',l',f',false⟩) = .bad (evT sOver) from by rw [HRx.out,e1])
      clear hvv e1 HRx
      go_wp2_with fail
      obtain ⟨r0,r1,r2,r3⟩:=hS.1.cells
      simp only at r0 r1 r2 r3
      refine bodyPost_ret (v:=.tuple #[.agg #[.bool false,.slice none 0 0,.float .f64 0,.bool false],.iface 95 (.pointer (some ⟨gg,0,none⟩))]) (by simp [results,Tryz.results114,go_sem,r0,r1,r2,r3]) rfl ?_
      have hl9:=HL7.out
      rw [HR.out]
      exact NPost.fin (q:=nought) HD7.out.bel (Nat.le_refl _) hX2 (.inr ⟨_,rfl,rfl,HV.out.lower (by omega)⟩) hS.2
     have HR:=Lib.hid (show divR (Nv.nm ⟨g,A,n,c,l,f,false⟩) (Nv.nm ⟨g',A',n',c',l',f',false⟩)=bothR noI divF (.flo F7) (.int (ival g' l')) from by rw [HRx.out,e1])
     obtain ⟨a0,a1,a2,a3⟩:=HD7.out.x.cells
     obtain ⟨z0,z1,z2,z3⟩:=HD7.out.x.frozens
     simp only at a0 a1 a2 a3
     have hg1:u7.grownBy (u7.setCell ⟨H4,2,none⟩ (.float .f64 F7)) (some H4):=gb_setCell (gb_refl _ _) _ _
     have hx1:NBox (u7.setCell ⟨H4,2,none⟩ (.float .f64 F7)) H4 ⟨g,A,n,c,l,F7,true⟩:=by
      have h9:=HD7.out.x
      unfold NBox at h9 ⊢
      simp [World.setCell,Array.getElem?_modify,h9,Nv.vals]
     have HD8:=Lib.hid (show DS w ⟨g,A,n,c,l,F7,true⟩ ⟨g',A',n',c',l',f',false⟩ H4 H5 (u7.setCell ⟨H4,2,none⟩ (.float .f64 F7)) from
      ⟨HD7.out.bel.grown hg1 HD7.out.bel.size (fun j e=>by injection e with e;have:=HD7.out.l4;omega),HD7.out.res.gro hg1 (by have:=HD7.out.l4;omega),hx1,HD7.out.y.gro hg1 (fun e=>HD7.out.ne e.symm),HD7.out.l4,HD7.out.l5,HD7.out.ne,
       (show Nv.At _ _ ⟨g,A,n,c,l,F7,true⟩ from ⟨((HD7.out.k1.gro (fun b h=>h) HD7.out.x hg1).wide (fun b h=>Nat.lt_of_lt_of_le h hg1.size)).lim,HD7.out.k1.sm,e2,HD7.out.k1.sh⟩),(HD7.out.k2.gro (fun b h=>h) HD7.out.x hg1).wide (fun b h=>Nat.lt_of_lt_of_le h hg1.size)⟩)
     clear hg1 hx1 e1 e2 HRx HD7 HL7
     go_upto_region 13 with fail
     generalize u7.setCell ⟨H4,2,none⟩ (.float .f64 F7)=u8 at *
     clear a0 a1 a2 a3 z0 z1 z2 z3
     obtain ⟨a0,a1,a2,a3⟩:=HD8.out.x.cells
     obtain ⟨b0,b1,b2,b3⟩:=HD8.out.y.cells
     simp only at a0 a1 a2 a3 b0 b1 b2 b3
     have HBo:=Lib.hid (both_div HD8.out.k1 HD8.out.k2 (.inl rfl) HZn.out)
     simp only [Nv.v,Nv.vals] at HBo
     go_wp2_with fail
     (with_reducible refine HBo.out.mono ?_)
     rintro e w2 ⟨hb9,q,ev,rfl,ho9⟩
     have hX2:=HD8.out.res.below hb9 HD8.out.res.lt
     obtain ⟨c0,c1',c2,c3⟩:=hX2.cells
     obtain ⟨y0,y1,y2,y3⟩:=hX2.frozens
     have hS:=hX2.set4 q
     have HB9:=Lib.hid (HD8.out.bel.trans (hb9.mono HD8.out.bel.size))
     have HO9:=Lib.hid (ho9.lower (lo':=w.heap.size) (lb':=w.heap.size+1) HD8.out.bel.size HD8.out.res.lt)
     obtain ⟨gq,Aq,nq,cq,lq,fq,bq⟩:=q
     simp only [nought] at c0 c1' c2 c3 hS
     simp only [Nv.v,Nv.vals]
     clear hb9 ho9 HBo
     go_wp2_with fail
     obtain ⟨r0,r1,r2,r3⟩:=hS.1.cells
     simp only at r0 r1 r2 r3
     refine bodyPost_ret (v:=.tuple #[.agg #[.bool gq,.slice Aq nq cq,.float .f64 fq,.bool bq],ev]) (by simp [results,Tryz.results114,go_sem,r0,r1,r2,r3]) rfl ?_
     rw [HR.out]
     exact NPost.fin (q:=⟨gq,Aq,nq,cq,lq,fq,bq⟩) HB9.out (Nat.le_refl _) hX2 HO9.out hS.2
   ·
    have HR:=Lib.hid (show divR (Nv.nm ⟨g,A,n,c,l,f,true⟩) (Nv.nm ⟨g',A',n',c',l',f',false⟩)=bothR noI divF (Nv.nm ⟨g,A,n,c,l,f,true⟩) (Nv.nm ⟨g',A',n',c',l',f',false⟩) from by
     unfold divR
     rw [isZ_int,hzb]
     rfl)
    go_wp2_with fail
    (with_reducible refine HSg.out.mono ?_)
    rintro e u2 ⟨rfl,hb2⟩
    have HD2:=Lib.hid (HD.out.up hb2)
    have HBo:=Lib.hid (both_div HD2.out.k1 HD2.out.k2 (.inl rfl) (by rw [isZ_int];exact hzb))
    simp only [Nv.v,Nv.vals] at HBo
    clear hb2 a0 a1 a2 a3 b0 b1 b2 b3
    obtain ⟨a0,a1,a2,a3⟩:=HD2.out.x.cells
    obtain ⟨b0,b1,b2,b3⟩:=HD2.out.y.cells
    simp only at a0 a1 a2 a3 b0 b1 b2 b3
    go_wp2_with fail
    (with_reducible refine HBo.out.mono ?_)
    rintro e w2 ⟨hb9,q,ev,rfl,ho9⟩
    have hX2:=HD2.out.res.below hb9 HD2.out.res.lt
    obtain ⟨c0,c1',c2,c3⟩:=hX2.cells
    obtain ⟨y0,y1,y2,y3⟩:=hX2.frozens
    have hS:=hX2.set4 q
    have HB9:=Lib.hid (HD2.out.bel.trans (hb9.mono HD2.out.bel.size))
    have HO9:=Lib.hid (ho9.lower (lo':=w.heap.size) (lb':=w.heap.size+1) HD2.out.bel.size HD2.out.res.lt)
    obtain ⟨gq,Aq,nq,cq,lq,fq,bq⟩:=q
    simp only [nought] at c0 c1' c2 c3 hS
    simp only [Nv.v,Nv.vals]
    clear hb9 ho9 HBo
    go_wp2_with fail
    obtain ⟨r0,r1,r2,r3⟩:=hS.1.cells
    simp only at r0 r1 r2 r3
    refine bodyPost_ret (v:=.tuple #[.agg #[.bool gq,.slice Aq nq cq,.float .f64 fq,.bool bq],ev]) (by simp [results,Tryz.results114,go_sem,r0,r1,r2,r3]) rfl ?_
    rw [HR.out]
    exact NPost.fin (q:=⟨gq,Aq,nq,cq,lq,fq,bq⟩) HB9.out (Nat.le_refl _) hX2 HO9.out hS.2
  ·
   have HR:=Lib.hid (show divR (Nv.nm ⟨g,A,n,c,l,f,b⟩) (Nv.nm ⟨g',A',n',c',l',f',false⟩) = .bad (evT sZero) from by
    unfold divR
    rw [isZ_int,hzb]
    rfl)
   obtain ⟨a0,a1,a2,a3⟩:=HD.out.x.cells
   obtain ⟨b0,b1,b2,b3⟩:=HD.out.y.cells
   simp only at a0 a1 a2 a3 b0 b1 b2 b3
   go_wp2_with fail
   (with_reducible refine HSg.out.mono ?_)
   rintro e u2 ⟨rfl,hb2⟩
   have HD2:=Lib.hid (HD.out.up hb2)
   clear hb2 a0 a1 a2 a3 b0 b1 b2 b3
   go_wp2_with fail
   refine (evaluation_ok (s:=sZero) rfl (by decide) _).mono ?_
   rintro e w2 ⟨vv,rfl,hvv,hb9⟩
   obtain ⟨gg,rfl⟩:=hvv.iface
   have hX2:=HD2.out.res.below hb9 HD2.out.res.lt
   obtain ⟨c0,c1',c2,c3⟩:=hX2.cells
   obtain ⟨y0,y1,y2,y3⟩:=hX2.frozens
   have hS:=hX2.set4 nought
   simp only [nought] at hS c0 c1' c2 c3
   have HV:=Lib.hid hvv
   have HB9:=Lib.hid (HD2.out.bel.trans (hb9.mono HD2.out.bel.size))
   have HL9:=Lib.hid HD2.out.res.lt
   clear hvv hb9
   go_wp2_with fail
   obtain ⟨r0,r1,r2,r3⟩:=hS.1.cells
   simp only at r0 r1 r2 r3
   refine bodyPost_ret (v:=.tuple #[.agg #[.bool false,.slice none 0 0,.float .f64 0,.bool false],.iface 95 (.pointer (some ⟨gg,0,none⟩))]) (by simp [results,Tryz.results114,go_sem,r0,r1,r2,r3]) rfl ?_
   have hl9:=HL9.out
   rw [HR.out]
   exact NPost.fin (q:=nought) HB9.out (Nat.le_refl _) hX2 (.inr ⟨_,rfl,rfl,HV.out.lower (by omega)⟩) hS.2
 ·
  rw [isZ_flo HD.out.k2.fl] at hzb
  cases zb
  ·
   have HR:=Lib.hid (show divR (Nv.nm ⟨g,A,n,c,l,f,b⟩) (Nv.nm ⟨g',A',n',c',l',f',true⟩)=bothR noI divF (Nv.nm ⟨g,A,n,c,l,f,b⟩) (Nv.nm ⟨g',A',n',c',l',f',true⟩) from by
    unfold divR
    rw [isZ_flo HD.out.k2.fl,hzb]
    cases b <;> rfl)
   have HBo:=Lib.hid (both_div HD.out.k1 HD.out.k2 (.inr rfl) (by rw [isZ_flo HD.out.k2.fl];exact hzb))
   simp only [Nv.v,Nv.vals] at HBo
   obtain ⟨a0,a1,a2,a3⟩:=HD.out.x.cells
   obtain ⟨b0,b1,b2,b3⟩:=HD.out.y.cells
   simp only at a0 a1 a2 a3 b0 b1 b2 b3
   cases b
   all_goals
    go_wp2_with fail
    (with_reducible refine HBo.out.mono ?_)
    rintro e w2 ⟨hb9,q,ev,rfl,ho9⟩
    have hX2:=HD.out.res.below hb9 HD.out.res.lt
    obtain ⟨c0,c1',c2,c3⟩:=hX2.cells
    obtain ⟨y0,y1,y2,y3⟩:=hX2.frozens
    have hS:=hX2.set4 q
    have HB9:=Lib.hid (HD.out.bel.trans (hb9.mono HD.out.bel.size))
    have HO9:=Lib.hid (ho9.lower (lo':=w.heap.size) (lb':=w.heap.size+1) HD.out.bel.size HD.out.res.lt)
    obtain ⟨gq,Aq,nq,cq,lq,fq,bq⟩:=q
    simp only [nought] at c0 c1' c2 c3 hS
    simp only [Nv.v,Nv.vals]
    clear hb9 ho9 HBo
    go_wp2_with fail
    obtain ⟨r0,r1,r2,r3⟩:=hS.1.cells
    simp only at r0 r1 r2 r3
    refine bodyPost_ret (v:=.tuple #[.agg #[.bool gq,.slice Aq nq cq,.float .f64 fq,.bool bq],ev]) (by simp [results,Tryz.results114,go_sem,r0,r1,r2,r3]) rfl ?_
    rw [HR.out]
    exact NPost.fin (q:=⟨gq,Aq,nq,cq,lq,fq,bq⟩) HB9.out (Nat.le_refl _) hX2 HO9.out hS.2
  ·
   have HR:=Lib.hid (show divR (Nv.nm ⟨g,A,n,c,l,f,b⟩) (Nv.nm ⟨g',A',n',c',l',f',true⟩) = .bad (evT sZero) from by
    unfold divR
    rw [isZ_flo HD.out.k2.fl,hzb]
    rfl)
   obtain ⟨a0,a1,a2,a3⟩:=HD.out.x.cells
   obtain ⟨b0,b1,b2,b3⟩:=HD.out.y.cells
   simp only at a0 a1 a2 a3 b0 b1 b2 b3
   go_wp2_with fail
   refine (evaluation_ok (s:=sZero) rfl (by decide) _).mono ?_
   rintro e w2 ⟨vv,rfl,hvv,hb9⟩
   obtain ⟨gg,rfl⟩:=hvv.iface
   have hX2:=HD.out.res.below hb9 HD.out.res.lt
   obtain ⟨c0,c1',c2,c3⟩:=hX2.cells
   obtain ⟨y0,y1,y2,y3⟩:=hX2.frozens
   have hS:=hX2.set4 nought
   simp only [nought] at hS c0 c1' c2 c3
   have HV:=Lib.hid hvv
   have HB9:=Lib.hid (HD.out.bel.trans (hb9.mono HD.out.bel.size))
   have HL9:=Lib.hid HD.out.res.lt
   clear hvv hb9
   go_wp2_with fail
   obtain ⟨r0,r1,r2,r3⟩:=hS.1.cells
   simp only at r0 r1 r2 r3
   refine bodyPost_ret (v:=.tuple #[.agg #[.bool false,.slice none 0 0,.float .f64 0,.bool false],.iface 95 (.pointer (some ⟨gg,0,none⟩))]) (by simp [results,Tryz.results114,go_sem,r0,r1,r2,r3]) rfl ?_
   have hl9:=HL9.out
   rw [HR.out]
   exact NPost.fin (q:=nought) HB9.out (Nat.le_refl _) hX2 (.inr ⟨_,rfl,rfl,HV.out.lower (by omega)⟩) hS.2
end
section
open Go.RowKit Hb Ht Hq
attribute [local go_sem ↓] Go.wp_at_zero Go.wp_at_succ
attribute [local go_sem] run_store_float
attribute [local go_sem] Oper.semAt_some
set_option maxRecDepth 100000 in
set_option maxHeartbeats 2000000 in
theorem f2_ok {w:World} {P:Nat→Prop} {ta tb:Tm} {sa sb:Value} {s:List UInt8} {nb:ByteArray} (ha:TAtP w P ta sa) (hb:TAtP w P tb sb) (hP:∀ b,P b→b<w.heap.size) (hs:(⟨s.toArray⟩:ByteArray)=nb) (hl:s.length≤maxLen) :
  Calls Tryz.prog 14 #[.string nb,valT ta sa,valT tb sb] w (TmPost w P (cmpT s [ta,tb])):=by
 obtain ⟨k1,nl1,ml1,b1,v1,ts1,nb1,mb1,A1,c1,rfl,rfl,hnb1,hmb1,hl1,hl2,hl3,hv1,_,_⟩:=ha.letters
 obtain ⟨k2,nl2,ml2,b2,v2,ts2,nb2,mb2,A2,c2,rfl,rfl,hnb2,hmb2,hm1,hm2,hm3,hv2,_,_⟩:=hb.letters
 rw [hv1,hv2]
 obtain ⟨q1,hq1⟩:∃ q,ts1.length=q:=⟨_,rfl⟩
 obtain ⟨q2,hq2⟩:∃ q,ts2.length=q:=⟨_,rfl⟩
 rw [hq1] at ha ⊢
 rw [hq2] at hb ⊢
 obtain ⟨W1,hW1⟩:∃ W1,w.alloc (.cells #[.int .i64 k1,.string nb1,.string mb1,.int .u64 b1,.int .i64 v1,.slice A1 q1 c1] 25)=W1:=⟨_,rfl⟩
 obtain ⟨W2,hW2⟩:∃ W2,W1.alloc (.cells #[.int .i64 k2,.string nb2,.string mb2,.int .u64 b2,.int .i64 v2,.slice A2 q2 c2] 25)=W2:=⟨_,rfl⟩
 obtain ⟨W3,hW3⟩:∃ W3,W2.alloc (.cells #[.int .i64 5,.string nb,.string ⟨#[]⟩,.int .u64 0,.int .i64 0,.slice (some ⟨w.heap.size+1+1+1,0,none⟩) 2 2] 25)=W3:=⟨_,rfl⟩
 obtain ⟨W4,hW4⟩:∃ W4,W3.alloc (.cells #[.int .i64 k1,.string nb1,.string mb1,.int .u64 b1,.int .i64 v1,.slice A1 q1 c1,.int .i64 k2,.string nb2,.string mb2,.int .u64 b2,.int .i64 v2,.slice A2 q2 c2] 25)=W4:=⟨_,rfl⟩
 have h1:Below w.heap.size w W1:=by rw [←hW1];exact (Below.refl _ _).alloc (Nat.le_refl _) _
 have s1:W1.heap.size=w.heap.size+1:=by rw [←hW1];simp
 have h2:Below W1.heap.size W1 W2:=by rw [←hW2];exact (Below.refl _ _).alloc (Nat.le_refl _) _
 have s2:W2.heap.size=W1.heap.size+1:=by rw [←hW2];simp
 have h3:Below W2.heap.size W2 W3:=by rw [←hW3];exact (Below.refl _ _).alloc (Nat.le_refl _) _
 have s3:W3.heap.size=W2.heap.size+1:=by rw [←hW3];simp
 have h4:Below W3.heap.size W3 W4:=by rw [←hW4];exact (Below.refl _ _).alloc (Nat.le_refl _) _
 have s4:W4.heap.size=W3.heap.size+1:=by rw [←hW4];simp
 have s31:W3.heap.size=w.heap.size+1+1+1:=by omega
 have hX1:TBox W1 w.heap.size (.mk k1 nl1 ml1 b1 v1 ts1) (.slice A1 q1 c1):=by rw [←hW1];exact TBox.new w hnb1 hmb1
 have hX2:TBox W2 W1.heap.size (.mk k2 nl2 ml2 b2 v2 ts2) (.slice A2 q2 c2):=by rw [←hW2];exact TBox.new W1 hnb2 hmb2
 have hX3:TBox W3 W2.heap.size (cmpT s [.mk k1 nl1 ml1 b1 v1 ts1,.mk k2 nl2 ml2 b2 v2 ts2]) (.slice (some ⟨w.heap.size+1+1+1,0,none⟩) 2 2):=by rw [←hW3];exact TBox.new W2 hs rfl
 have hX0:TBox (W2.alloc (.cells #[.int .i64 0,.string ⟨#[]⟩,.string ⟨#[]⟩,.int .u64 0,.int .i64 0,.slice none 0 0] 25)) W2.heap.size zeroT (.slice none 0 0):=TBox.new W2 rfl rfl
 have h3':Below W2.heap.size W2 (W2.alloc (.cells #[.int .i64 0,.string ⟨#[]⟩,.string ⟨#[]⟩,.int .u64 0,.int .i64 0,.slice none 0 0] 25)):=(Below.refl _ _).alloc (Nat.le_refl _) _
 have hX1':=(hX1.below h2).below h3'
 have hX2':=hX2.below h3'
 have hb12:=h1.trans ((h2.trans ((h3.trans (h4.mono (by omega))).mono (by omega))).mono (by omega))
 have hrow:RowP W4 P (some ⟨W3.heap.size,0,none⟩) 2 [((.mk k1 nl1 ml1 b1 v1 ts1:Tm),Value.slice A1 q1 c1),((.mk k2 nl2 ml2 b2 v2 ts2:Tm),Value.slice A2 q2 c2)]:=by
  refine RowP.block (ps:=[((.mk k1 nl1 ml1 b1 v1 ts1:Tm),Value.slice A1 q1 c1),((.mk k2 nl2 ml2 b2 v2 ts2:Tm),Value.slice A2 q2 c2)]) ?_ (fun p hp=>?_)
  ·rw [←hW4,←hnb1,←hmb1,←hnb2,←hmb2]
   exact heap_alloc_new W3 _
  ·simp only [List.mem_cons,List.not_mem_nil,or_false] at hp
   rcases hp with rfl | rfl
   ·exact ha.below hb12 hP
   ·exact hb.below hb12 hP
 have ht:TAtP W4 (Grow P w W4) (cmpT s [.mk k1 nl1 ml1 b1 v1 ts1,.mk k2 nl2 ml2 b2 v2 ts2]) (.slice (some ⟨W3.heap.size,0,none⟩) 2 2):=
  RowP.term (ps:=[((.mk k1 nl1 ml1 b1 v1 ts1:Tm),Value.slice A1 q1 c1),((.mk k2 nl2 ml2 b2 v2 ts2:Tm),Value.slice A2 q2 c2)]) ⟨hrow.1,fun p hp=>(hrow.2.1 p hp).wide (fun b hb=>.inl hb),hrow.2.2⟩ (fun g o _ e=>by injection e with e;injection e with e;exact .inr ⟨by omega,by omega⟩) rfl (by omega) (by unfold maxLen;omega) (by unfold maxArgs;omega) (okF_cmp hl)
 rw [s31] at ht
 have HK:=Lib.hid (show TmPost w P (cmpT s [.mk k1 nl1 ml1 b1 v1 ts1,.mk k2 nl2 ml2 b2 v2 ts2]) (.returned (.agg #[.int .i64 5,.string nb,.string ⟨#[]⟩,.int .u64 0,.int .i64 0,.slice (some ⟨w.heap.size+1+1+1,0,none⟩) 2 2])) W4 from
  ⟨.slice (some ⟨w.heap.size+1+1+1,0,none⟩) 2 2,by rw [←hs];rfl,ht,hb12⟩)
 have hX4:=hX3.below h4
 rw [s2,s1] at hX4
 have HX4:=Lib.hid hX4
 rw [s2,s1] at hX0
 rw [s1] at hX2'
 obtain ⟨x0,x1,x2,x3,x4,x5⟩:=hX1'.cells hnb1 hmb1
 obtain ⟨y0,y1,y2,y3,y4,y5⟩:=hX2'.cells hnb2 hmb2
 obtain ⟨z0,z1,z2,z3,z4,z5⟩:=hX0.frozens
 subst hW4 hW3 hW2 hW1
 clear ha hb h1 h2 h3 h4 h3' s1 s2 s3 s4 s31 hX1 hX2 hX3 hX0 hX1' hX2' hX4 hb12 hrow hnb1 hmb1 hnb2 hmb2 hq1 hq2 hv1 hv2 ht
 go_enter Tryz.func14,Tryz.ntmps14
 go_wp2
 obtain ⟨r0,r1,r2,r3,r4,r5⟩:=HX4.out.cells (nb:=nb) (mb:=⟨#[]⟩) hs rfl
 exact bodyPost_ret (by simp [results,Tryz.results14,go_sem,r0,r1,r2,r3,r4,r5]) rfl HK.out
set_option maxRecDepth 100000 in
theorem n_ok (nb:ByteArray) (w:World):Calls Tryz.prog 23 #[.string nb] w fun e w'=>e = .returned (.agg #[.int .i64 3,.string ⟨#[]⟩,.string nb,.int .u64 0,.int .i64 0,.slice none 0 0])∧Below w.heap.size w w':=by
 go_enter Tryz.func23,Tryz.ntmps23
 go_wp2
 refine bodyPost_ret (v:=.agg #[.int .i64 3,.string ⟨#[]⟩,.string nb,.int .u64 0,.int .i64 0,.slice none 0 0]) (by simp [results,Tryz.results23,go_sem]) rfl ⟨rfl,?_⟩
 exact (Below.refl _ _).alloc (Nat.le_refl _) _
def binK (nm:List UInt8):Option (Nm→Nm→Rs):=if nm = [43] then some (bothR sumI sumF) else if nm = [45] then some (bothR difI difF) else if nm = [42] then some (bothR mulI mulF) else if nm = [47] then some divR else none
theorem div_do (w0:World):DoP 114 #[] divR w0:=
 ⟨fun _ _=>by kernel_rfl,fun lo y A c q1 q2 hy hlo hr=>(divide_ok hr).mono fun e w' h=>NPostL.low h hlo⟩
theorem kok:KOk binK:=by
 intro w0 w b D0 E0 D1 E1 D2 E2 D4 D5 D6 D7 D14 D15 D16 D17 h
 refine ⟨_,_,h.fm,fun nm f hf=>?_⟩
 unfold binK at hf
 split at hf
 ·rename_i e;subst e;injection hf with hf;subst hf
  exact ⟨_,_,rfl,any_do Add_fn add_fn (h.box (D0,_,_) (by simp [twoX])).1 (h.box (E0,_,_) (by simp [twoX])).1⟩
 ·split at hf
  ·rename_i e;subst e;injection hf with hf;subst hf
   exact ⟨_,_,rfl,any_do Sub_fn sub_fn (h.box (D1,_,_) (by simp [twoX])).1 (h.box (E1,_,_) (by simp [twoX])).1⟩
  ·split at hf
   ·rename_i e;subst e;injection hf with hf;subst hf
    exact ⟨_,_,rfl,any_do Mul_fn mul_fn (h.box (D2,_,_) (by simp [twoX])).1 (h.box (E2,_,_) (by simp [twoX])).1⟩
   ·split at hf
    ·rename_i e;subst e;injection hf with hf;subst hf
     exact ⟨_,_,rfl,div_do w⟩
    ·cases hf
end
end Go.Proofs.YtjpnmmjgdiiahaaGreatDoor
set_option exponentiation.threshold 5000
namespace Go.Proofs.YtjpnmmjgdiiahaaGreatDoor
section
open Go.RowKit Hb Ht Hq
attribute [local go_sem ↓] Go.wp_at_zero Go.wp_at_succ
attribute [local go_sem] run_store_float
def intT (m:List UInt8):Tm:=.mk 3 [] m 0 0 []
def floT (f:Nat):Tm:=.mk 4 [] [] (f:Int) 0 []
theorem int_leaf (w:World) (P:Nat→Prop) {m:List UInt8} (h:m.length≤1000):TAtP w P (intT m) (.slice none 0 0):=
 TAtP.leaf w P (t:=intT m) rfl (by unfold maxLen;omega) ⟨by show ([]:List UInt8).length≤_;unfold maxLen;simp,by show m.length≤maxLen;unfold maxLen;omega,by show (0:Int)≤0∧(0:Int)<18446744073709551616;omega,by show (-9223372036854775808:Int)≤0∧(0:Int)≤9223372036854775807;omega,by show (-9223372036854775808:Int)≤3∧(3:Int)≤9223372036854775807;omega⟩
theorem flo_leaf (w:World) (P:Nat→Prop) {f:Nat} (h:f<18446744073709551616):TAtP w P (floT f) (.slice none 0 0):=
 TAtP.leaf w P (t:=floT f) rfl (by unfold maxLen;omega) ⟨by show ([]:List UInt8).length≤_;unfold maxLen;simp,by show ([]:List UInt8).length≤_;unfold maxLen;simp,by show (0:Int)≤(f:Int)∧(f:Int)<18446744073709551616;omega,by show (-9223372036854775808:Int)≤0∧(0:Int)≤9223372036854775807;omega,by show (-9223372036854775808:Int)≤4∧(4:Int)≤9223372036854775807;omega⟩
theorem Eval_val {t:Tm} {r:Rs} {x:Nm} (hev:Ev binK t r) (hr:r = .ok x) (hc:checkP t=0) {w0' w:World} {sl:Value} (ht:TAt w w.heap.size t sl) (hU:UOk w0' w):Calls Tryz.prog 24 #[valT t sl] w fun e w'=>e = .returned (.tuple #[valT (numT x) (.slice none 0 0),.nilIface])∧Below w.heap.size w w':=
 (Eval_ok kok hev hc ht hU).mono fun e w' ⟨hb,h⟩=>by
  rcases h with ⟨y,h1,h2,_⟩ | ⟨t,v,h1,_⟩
  ·rw [hr] at h1;injection h1 with h1;subst h1;exact ⟨h2,hb⟩
  ·rw [hr] at h1;cases h1
theorem Eval_err {t b:Tm} {r:Rs} (hev:Ev binK t r) (hr:r = .bad b) (hc:checkP t=0) {w0' w:World} {sl:Value} (ht:TAt w w.heap.size t sl) (hU:UOk w0' w):Calls Tryz.prog 24 #[valT t sl] w fun e w'=>∃ g,e = .returned (.tuple #[valT zeroT (.slice none 0 0),.iface 95 (.pointer (some ⟨g,0,none⟩))])∧Below w.heap.size w w':=
 (Eval_ok kok hev hc ht hU).mono fun e w' ⟨hb,h⟩=>by
  rcases h with ⟨y,h1,h2,_⟩ | ⟨t,v,h1,h2,h3⟩
  ·rw [hr] at h1;cases h1
  ·obtain ⟨g,rfl⟩:=h3.iface
   exact ⟨g,h2,hb⟩
theorem ev_int {m:List UInt8} (h:pCode m 10=0):Ev binK (intT m) (.ok (.int (pVal m 10))):=.num rfl ⟨fun _=>h,fun e=>absurd e (by show ¬(3:Int)=4;decide)⟩
theorem ev_one:Ev binK (cmpT [43] [(intT [49]),(cmpT [42] [(intT [50]),(intT [51])])]) (.ok (.int 7)):=by
 have h:Ev binK (cmpT [43] [(intT [49]),(cmpT [42] [(intT [50]),(intT [51])])]) (seqR (.ok (.int (pVal [49] 10))) (seqR (.ok (.int (pVal [50] 10))) (.ok (.int (pVal [51] 10))) (bothR mulI mulF)) (bothR sumI sumF)):=.two rfl (ev_int (by decide +kernel)) (.two rfl (ev_int (by decide +kernel)) (ev_int (by decide +kernel)))
 have e:seqR (.ok (.int (pVal [49] 10))) (seqR (.ok (.int (pVal [50] 10))) (.ok (.int (pVal [51] 10))) (bothR mulI mulF)) (bothR sumI sumF) = .ok (.int 7):=by kernel_rfl
 rw [e] at h
 exact h
theorem ev_half:Ev binK (cmpT [47] [(intT [55]),(intT [50])]) (.ok (.flo 4615063718147915776)):=by
 have h:Ev binK (cmpT [47] [(intT [55]),(intT [50])]) (seqR (.ok (.int (pVal [55] 10))) (.ok (.int (pVal [50] 10))) divR):=.two rfl (ev_int (by decide +kernel)) (ev_int (by decide +kernel))
 have e:seqR (.ok (.int (pVal [55] 10))) (.ok (.int (pVal [50] 10))) divR = .ok (.flo 4615063718147915776):=by kernel_rfl
 rw [e] at h
 exact h
theorem ev_zero:Ev binK (cmpT [47] [(intT [49]),(intT [48])]) (.bad (evT sZero)):=by
 have h:Ev binK (cmpT [47] [(intT [49]),(intT [48])]) (seqR (.ok (.int (pVal [49] 10))) (.ok (.int (pVal [48] 10))) divR):=.two rfl (ev_int (by decide +kernel)) (ev_int (by decide +kernel))
 have e:seqR (.ok (.int (pVal [49] 10))) (.ok (.int (pVal [48] 10))) divR = .bad (evT sZero):=by kernel_rfl
 rw [e] at h
 exact h
theorem chk_one:checkP (cmpT [43] [(intT [49]),(cmpT [42] [(intT [50]),(intT [51])])])=0:=by decide +kernel
theorem chk_half:checkP (cmpT [47] [(intT [55]),(intT [50])])=0:=by decide +kernel
theorem chk_zero:checkP (cmpT [47] [(intT [49]),(intT [48])])=0:=by decide +kernel
theorem cmp_awake:cmpR (intT [57,48,48,55,49,57,57,50,53,52,55,52,48,57,57,51]) (floT 4845873199050653696)=(1,0):=by
 unfold cmpR
 rw [show checkP (intT [57,48,48,55,49,57,57,50,53,52,55,52,48,57,57,51])=0 from by decide +kernel,show checkP (floT 4845873199050653696)=0 from by decide +kernel]
 rw [if_neg (by simp),if_neg (by simp)]
 show (cmpE (pVal [57,48,48,55,49,57,57,50,53,52,55,52,48,57,57,51] 10 * U74) (fV 4845873199050653696),(0:Int))=_
 rw [show fV 4845873199050653696=9007199254740992 * U74 from by
  unfold fV U74
  decide +kernel]
 rw [cmpE_scale U74_pos]
 decide +kernel
set_option maxRecDepth 100000 in
set_option maxHeartbeats 8000000 in
theorem awake_ok {w0' w:World} (hU:UOk w0' w):Calls Tryz.prog 10 #[] w fun e w'=>e = .returned (.bool true)∧Below w.heap.size w w':=by
 have HU:=Lib.hid hU
 have HB0:=Lib.hid (Below.refl w.heap.size w)
 clear hU
 go_enter Tryz.func10,Tryz.ntmps10
 go_wp2_with fail
 refine (n_ok _ _).mono ?_
 rintro e v1 ⟨rfl,hb⟩
 have HB1:=Lib.hid (HB0.out.trans (hb.mono HB0.out.size))
 clear hb
 go_wp2_with fail
 refine (n_ok _ _).mono ?_
 rintro e v2 ⟨rfl,hb⟩
 have HB2:=Lib.hid (HB1.out.trans (hb.mono HB1.out.size))
 clear hb
 go_wp2_with fail
 refine (n_ok _ _).mono ?_
 rintro e v3 ⟨rfl,hb⟩
 have HB3:=Lib.hid (HB2.out.trans (hb.mono HB2.out.size))
 clear hb
 have HF:=Lib.hid (f2_ok (w:=v3) (P:=fun b=>b<v3.heap.size) (ta:=(intT [50])) (tb:=(intT [51])) (sa:=(.slice none 0 0)) (sb:=(.slice none 0 0)) (s:=[42]) (nb:=⟨#[42]⟩) (int_leaf _ _ (by decide)) (int_leaf _ _ (by decide)) (fun b h=>h) rfl (by decide))
 rw [show valT (intT [50]) (.slice none 0 0) = .agg #[.int .i64 3,.string ⟨#[]⟩,.string ⟨#[50]⟩,.int .u64 0,.int .i64 0,.slice none 0 0] from rfl,show valT (intT [51]) (.slice none 0 0) = .agg #[.int .i64 3,.string ⟨#[]⟩,.string ⟨#[51]⟩,.int .u64 0,.int .i64 0,.slice none 0 0] from rfl] at HF
 go_wp2_with fail
 (with_reducible refine HF.out.mono ?_)
 rintro e v4 ⟨sl4,rfl,hat,hb⟩
 obtain ⟨A4,c4,rfl,_⟩:=TAtP.iff.1 hat
 have HT4:=Lib.hid (show TAt v4 v4.heap.size (cmpT [42] [(intT [50]),(intT [51])]) (.slice A4 2 c4) from hat.wide (fun b hb2=>hb2.elim (fun h=>Nat.lt_of_lt_of_le h hb.size) (·.2)))
 have HB4:=Lib.hid (HB3.out.trans (hb.mono HB3.out.size))
 rw [show valT (cmpT [42] [(intT [50]),(intT [51])]) (.slice A4 (Ht.Tm.as (cmpT [42] [(intT [50]),(intT [51])])).length c4) = .agg #[.int .i64 5,.string ⟨#[42]⟩,.string ⟨#[]⟩,.int .u64 0,.int .i64 0,.slice A4 2 c4] from rfl]
 clear hb hat HF
 have HF:=Lib.hid (f2_ok (w:=v4) (P:=fun b=>b<v4.heap.size) (ta:=(intT [49])) (tb:=(cmpT [42] [(intT [50]),(intT [51])])) (sa:=(.slice none 0 0)) (sb:=(.slice A4 2 c4)) (s:=[43]) (nb:=⟨#[43]⟩) (int_leaf _ _ (by decide)) (HT4.out) (fun b h=>h) rfl (by decide))
 rw [show valT (intT [49]) (.slice none 0 0) = .agg #[.int .i64 3,.string ⟨#[]⟩,.string ⟨#[49]⟩,.int .u64 0,.int .i64 0,.slice none 0 0] from rfl,show valT (cmpT [42] [(intT [50]),(intT [51])]) (.slice A4 2 c4) = .agg #[.int .i64 5,.string ⟨#[42]⟩,.string ⟨#[]⟩,.int .u64 0,.int .i64 0,.slice A4 2 c4] from rfl] at HF
 go_wp2_with fail
 (with_reducible refine HF.out.mono ?_)
 rintro e v5 ⟨sl5,rfl,hat,hb⟩
 obtain ⟨A5,c5,rfl,_⟩:=TAtP.iff.1 hat
 have HT5:=Lib.hid (show TAt v5 v5.heap.size (cmpT [43] [(intT [49]),(cmpT [42] [(intT [50]),(intT [51])])]) (.slice A5 2 c5) from hat.wide (fun b hb2=>hb2.elim (fun h=>Nat.lt_of_lt_of_le h hb.size) (·.2)))
 have HB5:=Lib.hid (HB4.out.trans (hb.mono HB4.out.size))
 rw [show valT (cmpT [43] [(intT [49]),(cmpT [42] [(intT [50]),(intT [51])])]) (.slice A5 (Ht.Tm.as (cmpT [43] [(intT [49]),(cmpT [42] [(intT [50]),(intT [51])])])).length c5) = .agg #[.int .i64 5,.string ⟨#[43]⟩,.string ⟨#[]⟩,.int .u64 0,.int .i64 0,.slice A5 2 c5] from rfl]
 clear hb hat HF
 have HE:=Lib.hid (Eval_val ev_one rfl chk_one HT5.out (HU.out.below HB5.out))
 rw [show valT (cmpT [43] [(intT [49]),(cmpT [42] [(intT [50]),(intT [51])])]) (.slice A5 2 c5) = .agg #[.int .i64 5,.string ⟨#[43]⟩,.string ⟨#[]⟩,.int .u64 0,.int .i64 0,.slice A5 2 c5] from rfl] at HE
 go_wp2_with fail
 (with_reducible refine HE.out.mono ?_)
 rintro e v6 ⟨rfl,hb⟩
 rw [show valT (numT (.int 7)) (.slice none 0 0) = .agg #[.int .i64 3,.string ⟨#[]⟩,.string ⟨#[55]⟩,.int .u64 0,.int .i64 0,.slice none 0 0] from by kernel_rfl]
 have HX1:=Lib.hid (show (v6.alloc (.cells #[.int .i64 3,.string ⟨#[]⟩,.string ⟨#[55]⟩,.int .u64 0,.int .i64 0,.slice none 0 0] 25)).heap[v6.heap.size]?=some (.cells #[.int .i64 3,.string ⟨#[]⟩,.string ⟨#[55]⟩,.int .u64 0,.int .i64 0,.slice none 0 0] 25 (0,0)) from heap_alloc_new v6 _)
 have HBa:=Lib.hid (show Below v6.heap.size v6 (v6.alloc (.cells #[.int .i64 3,.string ⟨#[]⟩,.string ⟨#[55]⟩,.int .u64 0,.int .i64 0,.slice none 0 0] 25)) from (Below.refl _ _).alloc (Nat.le_refl _) _)
 have HBb:=Lib.hid (hb.trans (HBa.out.mono hb.size))
 have HB7:=Lib.hid (HB5.out.trans (HBb.out.mono HB5.out.size))
 clear hb HE HBa HBb
 go_upto_region 2 with fail
 generalize v6.alloc (.cells #[.int .i64 3,.string ⟨#[]⟩,.string ⟨#[55]⟩,.int .u64 0,.int .i64 0,.slice none 0 0] 25)=v7 at *
 go_wp2_with fail
 refine (n_ok _ _).mono ?_
 rintro e v8 ⟨rfl,hb⟩
 have HB8:=Lib.hid (HB7.out.trans (hb.mono HB7.out.size))
 have HX1:=Lib.hid ((hb.block _ (Array.getElem?_eq_some_iff.1 HX1.out).1).trans HX1.out)
 clear hb
 go_wp2_with fail
 refine (n_ok _ _).mono ?_
 rintro e v9 ⟨rfl,hb⟩
 have HB9:=Lib.hid (HB8.out.trans (hb.mono HB8.out.size))
 have HX1:=Lib.hid ((hb.block _ (Array.getElem?_eq_some_iff.1 HX1.out).1).trans HX1.out)
 clear hb
 have HF:=Lib.hid (f2_ok (w:=v9) (P:=fun b=>b<v9.heap.size) (ta:=(intT [55])) (tb:=(intT [50])) (sa:=(.slice none 0 0)) (sb:=(.slice none 0 0)) (s:=[47]) (nb:=⟨#[47]⟩) (int_leaf _ _ (by decide)) (int_leaf _ _ (by decide)) (fun b h=>h) rfl (by decide))
 rw [show valT (intT [55]) (.slice none 0 0) = .agg #[.int .i64 3,.string ⟨#[]⟩,.string ⟨#[55]⟩,.int .u64 0,.int .i64 0,.slice none 0 0] from rfl,show valT (intT [50]) (.slice none 0 0) = .agg #[.int .i64 3,.string ⟨#[]⟩,.string ⟨#[50]⟩,.int .u64 0,.int .i64 0,.slice none 0 0] from rfl] at HF
 go_wp2_with fail
 (with_reducible refine HF.out.mono ?_)
 rintro e v10 ⟨sl10,rfl,hat,hb⟩
 obtain ⟨A10,c10,rfl,_⟩:=TAtP.iff.1 hat
 have HT10:=Lib.hid (show TAt v10 v10.heap.size (cmpT [47] [(intT [55]),(intT [50])]) (.slice A10 2 c10) from hat.wide (fun b hb2=>hb2.elim (fun h=>Nat.lt_of_lt_of_le h hb.size) (·.2)))
 have HB10:=Lib.hid (HB9.out.trans (hb.mono HB9.out.size))
 rw [show valT (cmpT [47] [(intT [55]),(intT [50])]) (.slice A10 (Ht.Tm.as (cmpT [47] [(intT [55]),(intT [50])])).length c10) = .agg #[.int .i64 5,.string ⟨#[47]⟩,.string ⟨#[]⟩,.int .u64 0,.int .i64 0,.slice A10 2 c10] from rfl]
 have HX1:=Lib.hid ((hb.block _ (Array.getElem?_eq_some_iff.1 HX1.out).1).trans HX1.out)
 clear hb hat HF
 have HE:=Lib.hid (Eval_val ev_half rfl chk_half HT10.out (HU.out.below HB10.out))
 rw [show valT (cmpT [47] [(intT [55]),(intT [50])]) (.slice A10 2 c10) = .agg #[.int .i64 5,.string ⟨#[47]⟩,.string ⟨#[]⟩,.int .u64 0,.int .i64 0,.slice A10 2 c10] from rfl] at HE
 go_wp2_with fail
 (with_reducible refine HE.out.mono ?_)
 rintro e v11 ⟨rfl,hb⟩
 rw [show valT (numT (.flo 4615063718147915776)) (.slice none 0 0) = .agg #[.int .i64 4,.string ⟨#[]⟩,.string ⟨#[]⟩,.int .u64 4615063718147915776,.int .i64 0,.slice none 0 0] from by kernel_rfl]
 have HX2:=Lib.hid (show (v11.alloc (.cells #[.int .i64 4,.string ⟨#[]⟩,.string ⟨#[]⟩,.int .u64 4615063718147915776,.int .i64 0,.slice none 0 0] 25)).heap[v11.heap.size]?=some (.cells #[.int .i64 4,.string ⟨#[]⟩,.string ⟨#[]⟩,.int .u64 4615063718147915776,.int .i64 0,.slice none 0 0] 25 (0,0)) from heap_alloc_new v11 _)
 have HBa:=Lib.hid (show Below v11.heap.size v11 (v11.alloc (.cells #[.int .i64 4,.string ⟨#[]⟩,.string ⟨#[]⟩,.int .u64 4615063718147915776,.int .i64 0,.slice none 0 0] 25)) from (Below.refl _ _).alloc (Nat.le_refl _) _)
 have HBb:=Lib.hid (hb.trans (HBa.out.mono hb.size))
 have HB12:=Lib.hid (HB10.out.trans (HBb.out.mono HB10.out.size))
 have HX1:=Lib.hid ((HBb.out.block _ (Array.getElem?_eq_some_iff.1 HX1.out).1).trans HX1.out)
 clear hb HE HBa HBb
 go_upto_region 3 with fail
 generalize v11.alloc (.cells #[.int .i64 4,.string ⟨#[]⟩,.string ⟨#[]⟩,.int .u64 4615063718147915776,.int .i64 0,.slice none 0 0] 25)=v12 at *
 go_wp2_with fail
 refine (n_ok _ _).mono ?_
 rintro e v13 ⟨rfl,hb⟩
 have HB13:=Lib.hid (HB12.out.trans (hb.mono HB12.out.size))
 have HX1:=Lib.hid ((hb.block _ (Array.getElem?_eq_some_iff.1 HX1.out).1).trans HX1.out)
 have HX2:=Lib.hid ((hb.block _ (Array.getElem?_eq_some_iff.1 HX2.out).1).trans HX2.out)
 clear hb
 go_wp2_with fail
 refine (n_ok _ _).mono ?_
 rintro e v14 ⟨rfl,hb⟩
 have HB14:=Lib.hid (HB13.out.trans (hb.mono HB13.out.size))
 have HX1:=Lib.hid ((hb.block _ (Array.getElem?_eq_some_iff.1 HX1.out).1).trans HX1.out)
 have HX2:=Lib.hid ((hb.block _ (Array.getElem?_eq_some_iff.1 HX2.out).1).trans HX2.out)
 clear hb
 have HF:=Lib.hid (f2_ok (w:=v14) (P:=fun b=>b<v14.heap.size) (ta:=(intT [49])) (tb:=(intT [48])) (sa:=(.slice none 0 0)) (sb:=(.slice none 0 0)) (s:=[47]) (nb:=⟨#[47]⟩) (int_leaf _ _ (by decide)) (int_leaf _ _ (by decide)) (fun b h=>h) rfl (by decide))
 rw [show valT (intT [49]) (.slice none 0 0) = .agg #[.int .i64 3,.string ⟨#[]⟩,.string ⟨#[49]⟩,.int .u64 0,.int .i64 0,.slice none 0 0] from rfl,show valT (intT [48]) (.slice none 0 0) = .agg #[.int .i64 3,.string ⟨#[]⟩,.string ⟨#[48]⟩,.int .u64 0,.int .i64 0,.slice none 0 0] from rfl] at HF
 go_wp2_with fail
 (with_reducible refine HF.out.mono ?_)
 rintro e v15 ⟨sl15,rfl,hat,hb⟩
 obtain ⟨A15,c15,rfl,_⟩:=TAtP.iff.1 hat
 have HT15:=Lib.hid (show TAt v15 v15.heap.size (cmpT [47] [(intT [49]),(intT [48])]) (.slice A15 2 c15) from hat.wide (fun b hb2=>hb2.elim (fun h=>Nat.lt_of_lt_of_le h hb.size) (·.2)))
 have HB15:=Lib.hid (HB14.out.trans (hb.mono HB14.out.size))
 rw [show valT (cmpT [47] [(intT [49]),(intT [48])]) (.slice A15 (Ht.Tm.as (cmpT [47] [(intT [49]),(intT [48])])).length c15) = .agg #[.int .i64 5,.string ⟨#[47]⟩,.string ⟨#[]⟩,.int .u64 0,.int .i64 0,.slice A15 2 c15] from rfl]
 have HX1:=Lib.hid ((hb.block _ (Array.getElem?_eq_some_iff.1 HX1.out).1).trans HX1.out)
 have HX2:=Lib.hid ((hb.block _ (Array.getElem?_eq_some_iff.1 HX2.out).1).trans HX2.out)
 clear hb hat HF
 have HE:=Lib.hid (Eval_err ev_zero rfl chk_zero HT15.out (HU.out.below HB15.out))
 rw [show valT (cmpT [47] [(intT [49]),(intT [48])]) (.slice A15 2 c15) = .agg #[.int .i64 5,.string ⟨#[47]⟩,.string ⟨#[]⟩,.int .u64 0,.int .i64 0,.slice A15 2 c15] from rfl] at HE
 go_wp2_with fail
 (with_reducible refine HE.out.mono ?_)
 rintro e v16 ⟨gg,rfl,hb⟩
 rw [show valT zeroT (.slice none 0 0) = .agg #[.int .i64 0,.string ⟨#[]⟩,.string ⟨#[]⟩,.int .u64 0,.int .i64 0,.slice none 0 0] from rfl]
 have HX3:=Lib.hid (show (v16.alloc (.cells #[.int .i64 0,.string ⟨#[]⟩,.string ⟨#[]⟩,.int .u64 0,.int .i64 0,.slice none 0 0] 25)).heap[v16.heap.size]?=some (.cells #[.int .i64 0,.string ⟨#[]⟩,.string ⟨#[]⟩,.int .u64 0,.int .i64 0,.slice none 0 0] 25 (0,0)) from heap_alloc_new v16 _)
 have HBa:=Lib.hid (show Below v16.heap.size v16 (v16.alloc (.cells #[.int .i64 0,.string ⟨#[]⟩,.string ⟨#[]⟩,.int .u64 0,.int .i64 0,.slice none 0 0] 25)) from (Below.refl _ _).alloc (Nat.le_refl _) _)
 have HBb:=Lib.hid (hb.trans (HBa.out.mono hb.size))
 have HB17:=Lib.hid (HB15.out.trans (HBb.out.mono HB15.out.size))
 have HX1:=Lib.hid ((HBb.out.block _ (Array.getElem?_eq_some_iff.1 HX1.out).1).trans HX1.out)
 have HX2:=Lib.hid ((HBb.out.block _ (Array.getElem?_eq_some_iff.1 HX2.out).1).trans HX2.out)
 clear hb HE HBa HBb
 go_upto_region 4 with fail
 generalize v16.alloc (.cells #[.int .i64 0,.string ⟨#[]⟩,.string ⟨#[]⟩,.int .u64 0,.int .i64 0,.slice none 0 0] 25)=v17 at *
 go_wp2_with fail
 refine (n_ok _ _).mono ?_
 rintro e v18 ⟨rfl,hb⟩
 have HB18:=Lib.hid (HB17.out.trans (hb.mono HB17.out.size))
 have HX1:=Lib.hid ((hb.block _ (Array.getElem?_eq_some_iff.1 HX1.out).1).trans HX1.out)
 have HX2:=Lib.hid ((hb.block _ (Array.getElem?_eq_some_iff.1 HX2.out).1).trans HX2.out)
 have HX3:=Lib.hid ((hb.block _ (Array.getElem?_eq_some_iff.1 HX3.out).1).trans HX3.out)
 clear hb
 have HC:=Lib.hid (Compare_ok (w:=v18) (w0':=w0') (ta:=(intT [57,48,48,55,49,57,57,50,53,52,55,52,48,57,57,51])) (tb:=floT 4845873199050653696) (sa:=.slice none 0 0) (sb:=.slice none 0 0) (int_leaf _ _ (by decide)) (flo_leaf _ _ (by decide)) (HU.out.below HB18.out))
 rw [show valT (intT [57,48,48,55,49,57,57,50,53,52,55,52,48,57,57,51]) (.slice none 0 0) = .agg #[.int .i64 3,.string ⟨#[]⟩,.string ⟨#[57,48,48,55,49,57,57,50,53,52,55,52,48,57,57,51]⟩,.int .u64 0,.int .i64 0,.slice none 0 0] from rfl,show valT (floT 4845873199050653696) (.slice none 0 0) = .agg #[.int .i64 4,.string ⟨#[]⟩,.string ⟨#[]⟩,.int .u64 4845873199050653696,.int .i64 0,.slice none 0 0] from rfl] at HC
 have hcu:∀ (e:Ending) (w1:World),CompPost v18 (intT [57,48,48,55,49,57,57,50,53,52,55,52,48,57,57,51]) (floT 4845873199050653696) e w1→e = .returned (.tuple #[.int .i64 1,.int .i64 0])∧Below v18.heap.size v18 w1:=fun e w1 h=>by
  obtain ⟨h1,h2⟩:=h
  rw [cmp_awake] at h1
  exact ⟨h1,h2⟩
 go_wp2_with fail
 (with_reducible refine HC.out.mono ?_)
 intro e v19 hcp
 obtain ⟨rfl,hb⟩:=hcu _ _ hcp
 have HB19:=Lib.hid (HB18.out.trans (hb.mono HB18.out.size))
 have HX1:=Lib.hid ((hb.block _ (Array.getElem?_eq_some_iff.1 HX1.out).1).trans HX1.out)
 have HX2:=Lib.hid ((hb.block _ (Array.getElem?_eq_some_iff.1 HX2.out).1).trans HX2.out)
 have HX3:=Lib.hid ((hb.block _ (Array.getElem?_eq_some_iff.1 HX3.out).1).trans HX3.out)
 clear hb hcp hcu HC
 go_upto_region 5 with fail
 refine wp_region_H (by kernel_rfl) (fun z0 K0 hs0=>?_)
 refine qh 0 K0 ?_ (y:=fun z5 hS=>by obtain ⟨x0,x1,x2,x3,x4,x5⟩:z5.cell? ⟨v6.heap.size,0,none⟩=some (.int .i64 3)∧z5.cell? ⟨v6.heap.size,1,none⟩=some (.string ⟨#[]⟩)∧z5.cell? ⟨v6.heap.size,2,none⟩=some (.string ⟨#[55]⟩)∧z5.cell? ⟨v6.heap.size,3,none⟩=some (.int .u64 0)∧z5.cell? ⟨v6.heap.size,4,none⟩=some (.int .i64 0)∧z5.cell? ⟨v6.heap.size,5,none⟩=some (.slice none 0 0):=(by refine ⟨?_,?_,?_,?_,?_,?_⟩ <;> (rw [cell_of_row _ _ _ _ _ (0,0) ((hS.block _ (Array.getElem?_eq_some_iff.1 HX1.out).1).trans HX1.out)];rfl));go_simp;rfl)
 refine oq 1 fun K hK=>?_
 go_simp
 refine (n_ok _ _).mono ?_
 rintro e z1 ⟨rfl,hb1⟩
 have K1:=K0.trans (hb1.mono K0.size)
 refine hK.out _ _ K1 ?_
 have HSm:=Lib.hid (Same_any (intT [55]) z1 (.slice none 0 0) (.slice none 0 0) (int_leaf _ _ (by decide)) (int_leaf _ _ (by decide)))
 rw [show valT (intT [55]) (.slice none 0 0) = .agg #[.int .i64 3,.string ⟨#[]⟩,.string ⟨#[55]⟩,.int .u64 0,.int .i64 0,.slice none 0 0] from rfl] at HSm
 refine oq 2 fun K hK=>?_
 go_simp
 (with_reducible refine HSm.out.mono ?_)
 rintro e z2 ⟨rfl,hb2⟩
 have K2:=K1.trans (hb2.mono K1.size)
 refine hK.out _ _ K2 ?_
 refine qh 3 K2 ?_
 refine wpAnyH_end (by kernel_rfl) ?_ _
 have HBz:=Lib.hid (HB19.out.trans (K2.mono HB19.out.size))
 have HXz:=Lib.hid ((K2.block _ (Array.getElem?_eq_some_iff.1 HX2.out).1).trans HX2.out)
 clear K0 K1 K2 hs0 hb1 hb2 HSm
 obtain ⟨x0,x1,x2,x3,x4,x5⟩:z2.cell? ⟨v11.heap.size,0,none⟩=some (.int .i64 4)∧z2.cell? ⟨v11.heap.size,1,none⟩=some (.string ⟨#[]⟩)∧z2.cell? ⟨v11.heap.size,2,none⟩=some (.string ⟨#[]⟩)∧z2.cell? ⟨v11.heap.size,3,none⟩=some (.int .u64 4615063718147915776)∧z2.cell? ⟨v11.heap.size,4,none⟩=some (.int .i64 0)∧z2.cell? ⟨v11.heap.size,5,none⟩=some (.slice none 0 0):=(by refine ⟨?_,?_,?_,?_,?_,?_⟩ <;> (rw [cell_of_row _ _ _ _ _ (0,0) HXz.out];rfl))
 have HSm:=Lib.hid (Same_any (floT 4615063718147915776) z2 (.slice none 0 0) (.slice none 0 0) (flo_leaf _ _ (by decide)) (flo_leaf _ _ (by decide)))
 rw [show valT (floT 4615063718147915776) (.slice none 0 0) = .agg #[.int .i64 4,.string ⟨#[]⟩,.string ⟨#[]⟩,.int .u64 4615063718147915776,.int .i64 0,.slice none 0 0] from rfl] at HSm
 go_wp2_with fail
 (with_reducible refine HSm.out.mono ?_)
 rintro e z3 ⟨rfl,hb3⟩
 have HBe:=Lib.hid (HBz.out.trans (hb3.mono HBz.out.size))
 clear hb3 HSm
 go_wp2_with fail
 go_ret
 exact ⟨rfl,HBe.out⟩
end
end Go.Proofs.YtjpnmmjgdiiahaaGreatDoor
