/-
  Plain: the program's and the document's normal form are one; what the document builds of two sets.
-/
import Derived.Test.YtpikjceodmepiaaQc
set_option linter.unusedVariables false
set_option linter.unusedSimpArgs false
namespace Hf
def numL : Ed → List Int
  | .num x => [x]
  | _ => []
def rawT (l : List R) : List Int := l.flatMap fun r => numL r.1 ++ (numL r.2).map (· + 1)
def inB (z : Int) (r : R) : Bool := decide (leE r.1 (.num z)) && decide (leE (.num z) r.2)
def memB (z : Int) (l : List R) : Bool := l.any (inB z)
def lowR (r : R) : Bool := decide (r.1 = .lo) && !decide (r.2 = .lo)
def lowB (l : List R) : Bool := l.any lowR
theorem inB_iff {z : Int} {r : R} : inB z r = true ↔ inR z r := by
  obtain ⟨a, b⟩ := r
  simp only [inB, inR, Bool.and_eq_true, decide_eq_true_eq]
  cases a <;> cases b <;> simp [leE, lob, hib]
theorem memB_iff {z : Int} {l : List R} : memB z l = true ↔ mem z l := by
  simp only [memB, List.any_eq_true, mem, inB_iff]
theorem raw_lo {l : List R} {r : R} (hr : r ∈ l) {x : Int} (h : r.1 = .num x) : x ∈ rawT l :=
  List.mem_flatMap.2 ⟨r, hr, List.mem_append.2 (.inl (by rw [h]; exact List.mem_singleton.2 rfl))⟩
theorem raw_hi {l : List R} {r : R} (hr : r ∈ l) {y : Int} (h : r.2 = .num y) : y + 1 ∈ rawT l :=
  List.mem_flatMap.2 ⟨r, hr, List.mem_append.2 (.inr (by rw [h]; exact List.mem_singleton.2 rfl))⟩
theorem inR_step {l : List R} {r : R} (hr : r ∈ l) {z : Int} (h : z + 1 ∉ rawT l) : inR (z + 1) r ↔ inR z r := by
  have h1 : lob r.1 (z + 1) ↔ lob r.1 z := by
    cases e : r.1 with
    | lo => exact Iff.rfl
    | hi => exact Iff.rfl
    | num x =>
      have : x ≠ z + 1 := fun e2 => h (e2 ▸ raw_lo hr e)
      show x ≤ z + 1 ↔ x ≤ z
      omega
  have h2 : hib r.2 (z + 1) ↔ hib r.2 z := by
    cases e : r.2 with
    | lo => exact Iff.rfl
    | hi => exact Iff.rfl
    | num y =>
      have : y + 1 ≠ z + 1 := fun e2 => h (e2 ▸ raw_hi hr e)
      show z + 1 ≤ y ↔ z ≤ y
      omega
  unfold inR
  rw [h1, h2]
theorem memB_step {l : List R} {z : Int} (h : z + 1 ∉ rawT l) : memB (z + 1) l = memB z l := by
  have : memB (z + 1) l = true ↔ memB z l = true := by
    rw [memB_iff, memB_iff]
    exact ⟨fun ⟨r, hr, k⟩ => ⟨r, hr, (inR_step hr h).1 k⟩, fun ⟨r, hr, k⟩ => ⟨r, hr, (inR_step hr h).2 k⟩⟩
  exact Bool.eq_iff_iff.2 this
theorem memB_low {l : List R} {b z : Int} (hb : ∀ x ∈ rawT l, b < x) (hz : z ≤ b) : memB z l = lowB l := by
  have : memB z l = true ↔ lowB l = true := by
    rw [memB_iff]
    simp only [lowB, List.any_eq_true, mem]
    refine exists_congr fun r => and_congr_right fun hr => ?_
    simp only [lowR, inR, Bool.and_eq_true, decide_eq_true_eq, Bool.not_eq_true', decide_eq_false_iff_not]
    refine and_congr ?_ ?_
    · cases e : r.1 with
      | lo => exact ⟨fun _ => rfl, fun _ => trivial⟩
      | hi => exact ⟨fun k => k.elim, fun k => (by cases k)⟩
      | num x =>
        have := hb x (raw_lo hr e)
        exact ⟨fun k => (by have k : x ≤ z := k; omega), fun k => (by cases k)⟩
    · cases e : r.2 with
      | lo => exact ⟨fun k => k.elim, fun k => (k rfl).elim⟩
      | hi => exact ⟨fun _ k => (by cases k), fun _ => trivial⟩
      | num y =>
        have := hb (y + 1) (raw_hi hr e)
        exact ⟨fun _ k => (by cases k), fun _ => show z ≤ y by omega⟩
  exact Bool.eq_iff_iff.2 this
/-- what the document builds of two sets by w, at the places t -/
def builtP (w : Bool → Bool → Bool) (a b : List R) (t : List Int) : List R :=
  sweep (fun z => w (memB z a) (memB z b)) (if w (lowB a) (lowB b) = true then some .lo else none) t
theorem exists_below : ∀ t : List Int, ∃ b, ∀ x ∈ t, b < x
  | [] => ⟨0, by simp⟩
  | x :: t => by
    obtain ⟨b, h⟩ := exists_below t
    refine ⟨min b (x - 1), fun y hy => ?_⟩
    rcases List.mem_cons.1 hy with rfl | hy
    · omega
    · have := h y hy; omega
theorem built_spec {w : Bool → Bool → Bool} {a b : List R} {t : List Int} (hp : t.Pairwise (· < ·)) (hta : ∀ x ∈ rawT a, x ∈ t) (htb : ∀ x ∈ rawT b, x ∈ t) :
    NF (builtP w a b t) ∧ ∀ z, mem z (builtP w a b t) ↔ w (memB z a) (memB z b) = true := by
  obtain ⟨c, hc⟩ := exists_below t
  exact sweep_NF hp (fun z hz => by rw [memB_step fun h => hz (hta _ h), memB_step fun h => hz (htb _ h)]) hc
    (fun z hz => by rw [memB_low (fun x hx => hc x (hta x hx)) hz, memB_low (fun x hx => hc x (htb x hx)) hz])
/-- the program's normal form of raw ranges is the document's -/
theorem norm_eq {l s : List R} {t : List Int} (hs : ∀ r, r ∈ s ↔ r ∈ l ∧ ok r) (hp : s.Pairwise fun a b => leE a.1 b.1) (ht : t.Pairwise (· < ·)) (hta : ∀ x ∈ rawT l, x ∈ t) : normalP s = builtP (fun a b => a || b) l [] t := by
  obtain ⟨h1, h2⟩ := normalP_NF (fun r hr => ((hs r).1 hr).2) hp
  obtain ⟨h3, h4⟩ := built_spec (w := fun a b => a || b) (a := l) (b := []) ht hta (by simp [rawT])
  refine h1.uniq h3 fun z => ?_
  rw [h2, h4]
  show _ ↔ (memB z l || memB z []) = true
  rw [show memB z [] = false from rfl, Bool.or_false, memB_iff]
  exact ⟨fun ⟨r, hr, k⟩ => ⟨r, ((hs r).1 hr).1, k⟩, fun ⟨r, hr, k⟩ => ⟨r, (hs r).2 ⟨hr, z, k⟩, k⟩⟩
end Hf
