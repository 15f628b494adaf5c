import Derived.Test.YtggdmhkdmkldoaaCp
import Derived.Maps.AppendAt
import Derived.IntWalk
namespace Go.Proofs.Ytggdmhkdmkldoaa
open Go.RowKit Hb

/-- append, and that no other block is touched -/
theorem wp_append_far {o : Oper} {a : Act} {K : Act → World → Prop} {Q : Exit → Act → World → Prop} {w : World} (s x : Operand)
    (ho : o.op = .call { callee := .builtin .append, args := #[s, x], argTypes := #[22, 22] })
    {base B : Nat} {A A0 : Option Addr} {n0 c0 m c : Nat} {l0 l : List Nat} (hs : a.eval s = .slice A0 n0 c0) (hown : OwnU w base A0 n0 c0 (u32s l0)) (hx : a.eval x = .slice A m c) (hA : A = none → c = 0) (hrd : SlU w B A m c l)
    (hm : n0 + m ≤ 67108864) (hbase : base ≤ w.heap.size)
    (h : ∀ A' c' w', OwnU w' base A' (n0 + m) c' (u32s (l0 ++ l)) → Below base w w' → (∀ g, g < w.heap.size → A0 ≠ some ⟨g, 0, none⟩ → w'.heap[g]? = w.heap[g]?) → (∀ g, A' = some ⟨g, 0, none⟩ → A0 = some ⟨g, 0, none⟩ ∨ w.heap.size ≤ g) → K (a.put o.dst (.slice A' (n0 + m) c')) w') : o.wp Try.prog a w K Q := by
  obtain ⟨i0, hi, hz0, hz1, hz2⟩ := info_parts infoU
  cases A with
  | none =>
    have hm0 : m = 0 := by
      rcases Nat.eq_zero_or_pos m with h0 | h0
      · exact h0
      · obtain ⟨b, o, h1, _⟩ := hrd.at_ h0; cases h1
    have hc0 := hA rfl
    subst hm0; subst hc0
    have hl : l = [] := List.length_eq_zero_iff.1 hrd.len
    subst hl
    have hrun := run_append_owned_none (P := Try.prog) (w := w) base 22 o.type 48 i0 1 Try.underlying22 hi _ n0 (u32s l0) hown
    unfold Oper.wp
    simp [execOp, ho, resolve, invoke, builtin, hs, hx, hrun, Result.andThen]
    exact h A0 c0 w (by rw [List.append_nil]; exact hown) (Below.refl _ _) (fun _ _ _ => rfl) (fun _ e => .inl e)
  | some ad =>
    have hnews : ∀ j u, (u32s l)[j]? = some u → w.cell? (ad.add j) = some u := by
      intro j u hj
      have hj2 : j < m := by
        rw [← hrd.len, ← u32s_length l]
        exact (List.getElem?_eq_some_iff.1 hj).1
      obtain ⟨b, o', h1, _, hc⟩ := hrd.at_ (by omega)
      obtain rfl := Option.some.inj h1
      rw [addr_add, hc j hj2, ← u32s_get (by rw [hrd.len]; exact hj2), hj]
    obtain ⟨v', w', hr, hown', hg, _, hat⟩ := run_append_own_at (P := Try.prog) w base 22 o.type 48 i0 (.int .u32 0) 1 4 Try.underlying22 hi hz0 hz1 hz2 rfl (by decide) _ n0 (u32s l0) hown ad m c (u32s l) (by rw [u32s_length, hrd.len]; simp) hnews (u32s_one l) (by simp [maxLen]; omega) (by omega) hbase
    have hf : ∃ A' c', v' = .slice A' (n0 + m) c' := by
      rcases hown'.2 with ⟨h1, h2⟩ | ⟨g', cap, cur, h1, _⟩
      · exact ⟨none, 0, by rw [h1, h2]⟩
      · exact ⟨_, _, h1⟩
    obtain ⟨A', c', rfl⟩ := hf
    unfold Oper.wp execOp
    simp only [ho, resolve, invoke, builtin, Sem.run_bind, Sem.run_pure, Result.andThen_ok, List.map_toArray, List.map_cons, List.map_nil, hs, hx, hr]
    refine h A' c' w' (by have h3 := hown'; rw [u32s_append] at h3; exact h3) ⟨hg.os, hg.tape, hg.output, hg.size, fun j hj => hg.block j (by omega) ?_⟩ (fun j hj hne => hg.block j hj ?_) (fun g e => ?_)
    · rcases Own.form hown with ⟨rfl, _⟩ | ⟨g', rfl, h4, _⟩
      · simp [Value.ownBlock]
      · simp [Value.ownBlock]; omega
    · rcases Own.form hown with ⟨rfl, _⟩ | ⟨g', rfl, h4, _⟩
      · simp [Value.ownBlock]
      · simp [Value.ownBlock]
        rintro rfl
        exact hne rfl
    · subst e
      rcases Own.form hown with ⟨rfl, _⟩ | ⟨g', rfl, h4, _⟩
      · simp [Value.ownBlock] at hat
        exact .inr (by omega)
      · simp [Value.ownBlock] at hat
        rcases hat with rfl | h5
        · exact .inl rfl
        · exact .inr (by omega)
theorem Own.same {t : TypeId} {w w' : World} {B g n c : Nat} {xs : List Value} (h : Own t w B (some ⟨g, 0, none⟩) n c xs) (he : w'.heap[g]? = w.heap[g]?) : Own t w' B (some ⟨g, 0, none⟩) n c xs := by
  refine ⟨h.1, ?_⟩
  rcases h.2 with ⟨h1, _⟩ | ⟨g', cap, cur, h1, h2, h3, h4⟩
  · cases h1
  · have h5 := h1
    injection h5 with a b cc
    injection a with a
    injection a with a
    subst a
    exact .inr ⟨g, cap, cur, h1, h2, he.trans h3, h4⟩
theorem wrap_u32 (p : Nat) (h : p < 4294967296) : IntKind.u32.wrap (p : Int) = (p : Int) := IntWalk.u32_in _ (by omega)
theorem Bx.same {w w' : World} {g : Nat} {x y : Value} (h : Bx w g x y) (he : w'.heap[g]? = w.heap[g]?) : Bx w' g x y := he.trans h
theorem own_one (w : World) {B : Nat} (a : Nat) (hB : B ≤ w.heap.size) : OwnU (w.alloc (.cells #[.int .u32 (a : Int)] 48)) B (some ⟨w.heap.size, 0, none⟩) 1 1 (u32s [a]) :=
  Own.of_block (xs := u32s [a]) (by exact heap_alloc_new w _) hB (by simp [u32s, maxLen])
theorem own_zeros (w : World) {B : Nat} (n : Nat) (hB : B ≤ w.heap.size) (hm : n ≤ maxLen) : OwnU (w.alloc (.cells (madeCells #[.int .u32 0] n) 48)) B (some ⟨w.heap.size, 0, none⟩) n n (u32s (List.replicate n 0)) := by
  have := Own.made w (.int .u32 0) n 48 hB hm
  rwa [u32s_zeros] at this
section
variable {P : Program} {ops : Array Oper} {Q : Exit → Act → World → Prop} {md : Region.Mode} {S : World → Prop} {st : Nat}
/-- Three may come up. -/
theorem wpAnyW_three {i i2 i3 : Nat} {o o2 o3 : Oper} {fuel : Nat} {listed : Array Bool} {a : Act} {w : World} (hr : Region.ready md ops listed = [i, i2, i3]) (ho : ops[i]? = some o) (ho2 : ops[i2]? = some o2) (ho3 : ops[i3]? = some o3)
    (h : ∀ K' : Act → World → Prop, Shut (∀ a w, ((listed.setIfInBounds i true).getD st true = false → S w) → wpAnyW P md ops Q S st fuel (listed.setIfInBounds i true) a w → K' a w) → if Region.wanted o (yielded ops a.tmps) = true then Oper.wp P o a w K' Q else K' (a.put o.dst undef) w)
    (h2 : ∀ K' : Act → World → Prop, Shut (∀ a w, ((listed.setIfInBounds i2 true).getD st true = false → S w) → wpAnyW P md ops Q S st fuel (listed.setIfInBounds i2 true) a w → K' a w) → if Region.wanted o2 (yielded ops a.tmps) = true then Oper.wp P o2 a w K' Q else K' (a.put o2.dst undef) w)
    (h3 : ∀ K' : Act → World → Prop, Shut (∀ a w, ((listed.setIfInBounds i3 true).getD st true = false → S w) → wpAnyW P md ops Q S st fuel (listed.setIfInBounds i3 true) a w → K' a w) → if Region.wanted o3 (yielded ops a.tmps) = true then Oper.wp P o3 a w K' Q else K' (a.put o3.dst undef) w) :
    wpAnyW P md ops Q S st (fuel + 1) listed a w :=
  ⟨fun h0 => absurd (hr ▸ h0) (by simp), fun j hj => by
    rw [hr] at hj
    rcases List.mem_cons.1 hj with rfl | hj
    · exact wpOp_step ho (fun K' hK => h K' (fun a w hS hW => hK a w ⟨hS, hW⟩))
    · rcases List.mem_cons.1 hj with rfl | hj
      · exact wpOp_step ho2 (fun K' hK => h2 K' (fun a w hS hW => hK a w ⟨hS, hW⟩))
      · obtain rfl : j = i3 := by simpa using hj
        exact wpOp_step ho3 (fun K' hK => h3 K' (fun a w hS hW => hK a w ⟨hS, hW⟩))⟩
end
end Go.Proofs.Ytggdmhkdmkldoaa
