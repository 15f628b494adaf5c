import Derived.Test.YtggdmhkdmkldoaaEz
namespace Go.Proofs.Ytggdmhkdmkldoaa
open Go.RowKit Hb

set_option maxRecDepth 100000 in
set_option maxHeartbeats 2000000 in
theorem each_bad (F : FuncId) (na nb : Bool) {B B' : Nat} {A A' : Option Addr} {l m : List Nat} {n c n' c' : Nat} {w : World} (hs : SlU w B A n c l) (ht : SlU w B' A' n' c' m) (hn : n ≤ 67108000) (hn' : n' ≤ 67108000) (hB : B ≤ w.heap.size) (hB' : B' ≤ w.heap.size)
    (hlg : (lng l || lng m) = true) (z : Int) :
    Calls Try.prog 89 #[.agg #[.bool na, .slice A n c], .agg #[.bool nb, .slice A' n' c'], .func (.func F) #[] #[]] w (PostC w z 10) := by
  have HL := Lib.hid (W2_long (na := na) (nb := nb) hs ht (by omega) (by omega) hB hB')
  rw [hlg] at HL
  have HW := Lib.hid (W2_below w na nb A A' n c n' c')
  have HK := Lib.hid (fun C w2 (hb : Below C (W2 w na nb A A' n c n' c') w2) hC => W2_cells hb hC)
  clear hs ht hn hn' hB hB' hlg
  go_enter Try.func89, Try.ntmps89
  go_wp2_with fail
  refine HL.out.mono ?_
  rintro ex w3 ⟨rfl, hb3⟩
  obtain ⟨_, _, r0, r1, r2, r3⟩ := HK.out _ _ hb3 (by first | omega | (simp; done) | (simp; omega))
  have HB3 := Lib.hid (HW.out.trans (hb3.mono (B' := w.heap.size) (by first | omega | (simp; done) | (simp; omega))))
  clear hb3
  go_wp2_with fail
  exact bodyPost_ret (v := .tuple #[zeroV, .int .i64 10]) (by simp [results, Try.results89, go_sem, r0, r1]) rfl
    (PostC.bad rfl (by decide) ((HB3.out.setCell (by simp; omega) _).setCell (by simp; omega) _))
theorem each_any (F : FuncId) (hen : ∀ (args : Array Value) (w : World), (callFunc F args).run Try.prog w = .ok (.enter F args) w) {opf : Nat → Nat → Nat} {bop : Bool → Bool → Bool} (hF : OpC F opf) (hf : ∀ x y, x < 4294967296 → y < 4294967296 → opf x y < 4294967296)
    (hbit : ∀ x y i, x < 4294967296 → y < 4294967296 → i < 32 → (opf x y).testBit i = bop (x.testBit i) (y.testBit i))
    (na nb : Bool) {B B' : Nat} {A A' : Option Addr} {l m : List Nat} {n c n' c' : Nat} {w : World} (hs : SlU w B A n c l) (ht : SlU w B' A' n' c' m) (hn : n ≤ 67108000) (hn' : n' ≤ 67108000) (hB : B ≤ w.heap.size) (hB' : B' ≤ w.heap.size)
    {x y z : Int} (hx : ival na l = x) (hy : ival nb m = y) (hz : ∀ i, ib z i = bop (ib x i) (ib y i)) :
    Calls Try.prog 89 #[.agg #[.bool na, .slice A n c], .agg #[.bool nb, .slice A' n' c'], .func (.func F) #[] #[]] w (PostC w z (err (lng l || lng m || tooLong z))) := by
  subst hx; subst hy
  cases h : (lng l || lng m)
  · rw [Bool.false_or]
    exact each_good F hen hF hf hbit na nb hs ht hn hn' hB hB' h hz
  · exact each_bad F na nb hs ht hn hn' hB hB' h z
theorem Calls.toR {P : Program} {f : FuncId} {args : Array Value} {w : World} {z Z co co' : Int} (hco : co' = co) (hZ : (if co = 0 then z else 0) = Z) (h : Calls P f args w (PostC w z co')) : Calls P f args w (PostR w Z co) := by
  subst hco; subst hZ
  exact h.mono fun _ _ h => h.toR
theorem bits_and_u32 (a b : Nat) (ha : a < 4294967296) (hb : b < 4294967296) : bits .and .u32 (a : Int) (b : Int) = ((a &&& b : Nat) : Int) := by
  have hx : a &&& b < 2 ^ 32 := Nat.and_lt_two_pow a (by omega)
  show IntKind.u32.wrap ((BitVec.ofInt 32 (a : Int) &&& BitVec.ofInt 32 (b : Int)).toNat : Int) = _
  rw [BitVec.toNat_and, u32_bv _ (by omega) (by omega), u32_bv _ (by omega) (by omega), IntKind.wrap_u32, Int.toNat_natCast, Int.toNat_natCast]
  omega
theorem bits_xor_u32 (a b : Nat) (ha : a < 4294967296) (hb : b < 4294967296) : bits .xor .u32 (a : Int) (b : Int) = ((a ^^^ b : Nat) : Int) := by
  have hx : a ^^^ b < 2 ^ 32 := Nat.xor_lt_two_pow (by omega) (by omega)
  show IntKind.u32.wrap ((BitVec.ofInt 32 (a : Int) ^^^ BitVec.ofInt 32 (b : Int)).toNat : Int) = _
  rw [BitVec.toNat_xor, u32_bv _ (by omega) (by omega), u32_bv _ (by omega) (by omega), IntKind.wrap_u32, Int.toNat_natCast, Int.toNat_natCast]
  omega
theorem not_bit (x i : Nat) (hx : x < 4294967296) (hi : i < 32) : (4294967295 - x).testBit i = !x.testBit i := by
  have := Nat.testBit_two_pow_sub_succ (n := 32) (x := x) (by omega) i
  rw [show 2 ^ 32 - (x + 1) = 4294967295 - x by omega] at this
  rw [this]; simp [hi]
/-- an integer of any two integers' bits -/
theorem bit_ex (bop : Bool → Bool → Bool) {x y : Int} {N : Nat} (hx : -(2 : Int) ^ N ≤ x ∧ x < 2 ^ N) (hy : -(2 : Int) ^ N ≤ y ∧ y < 2 ^ N) : ∃ z : Int, (∀ i, ib z i = bop (ib x i) (ib y i)) ∧ -(2 : Int) ^ N ≤ z ∧ z < 2 ^ N := by
  have key : ∀ M : Nat, ∃ v : Nat, v < 2 ^ M ∧ ∀ i, i < M → v.testBit i = bop (ib x i) (ib y i) := by
    intro M
    induction M with
    | zero => exact ⟨0, by simp, fun i hi => by omega⟩
    | succ M ih =>
      obtain ⟨v, hv, hb⟩ := ih
      by_cases h : bop (ib x M) (ib y M) = true
      · refine ⟨2 ^ M + v, by rw [Nat.pow_succ]; omega, fun i hi => ?_⟩
        by_cases hiM : i = M
        · subst hiM
          rw [Nat.testBit_two_pow_add_eq, Nat.testBit_lt_two_pow hv, h]; rfl
        · rw [Nat.testBit_two_pow_add_gt (by omega)]
          exact hb i (by omega)
      · refine ⟨v, by rw [Nat.pow_succ]; omega, fun i hi => ?_⟩
        by_cases hiM : i = M
        · subst hiM
          rw [Nat.testBit_lt_two_pow hv]
          cases h2 : bop (ib x i) (ib y i)
          · rfl
          · exact absurd h2 h
        · exact hb i (by omega)
  obtain ⟨v, hv, hb⟩ := key (N + 1)
  have hz : ∀ i, ib (tcv (N + 1) v) i = bop (ib x i) (ib y i) := by
    intro i
    rw [ib_tcv hv]
    by_cases hi : i < N + 1
    · rw [if_pos hi]; exact hb i hi
    · rw [if_neg hi, ← top_bit (by omega) hv, Nat.add_sub_cancel, hb N (by omega), ib_of_range hx.1 hx.2 (i := N) (Nat.le_refl _), ib_of_range hy.1 hy.2 (i := N) (Nat.le_refl _), ib_of_range hx.1 hx.2 (i := i) (by omega), ib_of_range hy.1 hy.2 (i := i) (by omega)]
  refine ⟨_, hz, range_of_ib fun i hi => ?_⟩
  rw [hz, hz, ib_of_range hx.1 hx.2 hi, ib_of_range hy.1 hy.2 hi, ib_of_range hx.1 hx.2 (i := N) (Nat.le_refl _), ib_of_range hy.1 hy.2 (i := N) (Nat.le_refl _)]
theorem range_abs {z : Int} {N : Nat} (h : -(2 : Int) ^ N ≤ z ∧ z < 2 ^ N) : z.natAbs < 2 ^ (N + 1) := by
  have e := two_pow_cast N
  rw [Nat.pow_succ]
  have := Nat.two_pow_pos N
  omega
theorem abs_range {z : Int} {N : Nat} (h : z.natAbs < 2 ^ N) : -(2 : Int) ^ N ≤ z ∧ z < 2 ^ N := by
  have e := two_pow_cast N
  omega

theorem And_op : OpC 90 (fun x y => x &&& y) := by
  intro x y w hx hy
  have h := bits_and_u32 x y hx hy
  go_enter Try.func90, Try.ntmps90
  go_wp2
  go_ret
  exact ⟨rfl, rfl⟩
theorem And_en : ∀ (args : Array Value) (w : World), (callFunc 90 args).run Try.prog w = .ok (.enter 90 args) w :=
  fun args w => enter_run Try.func90 (by kernel_rfl) rfl args w

set_option maxRecDepth 100000 in
set_option maxHeartbeats 1000000 in
theorem And_any (na nb : Bool) {A A' : Option Addr} {l m : List Nat} {n c n' c' : Nat} {w : World} (hs : SlU w w.heap.size A n c l) (ht : SlU w w.heap.size A' n' c' m) (hn : n ≤ 67108000) (hn' : n' ≤ 67108000)
    {x y z : Int} (hx : ival na l = x) (hy : ival nb m = y) (hz : ∀ i, ib z i = (ib x i && ib y i)) :
    Calls Try.prog 59 #[.agg #[.bool na, .slice A n c], .agg #[.bool nb, .slice A' n' c']] w (PostR w (if err (lng l || lng m || tooLong z) = 0 then z else 0) (err (lng l || lng m || tooLong z))) := by
  obtain ⟨co, hco⟩ : ∃ co, err (lng l || lng m || tooLong z) = co := ⟨_, rfl⟩
  obtain ⟨Z, hZ⟩ : ∃ Z, (if co = 0 then z else 0) = Z := ⟨_, rfl⟩
  rw [hco, hZ]
  have HE : Hid (∀ w1, Below w.heap.size w w1 → Calls Try.prog 89 #[.agg #[.bool na, .slice A n c], .agg #[.bool nb, .slice A' n' c'], .func (.func 90) #[] #[]] w1 (PostR w1 Z co)) := Lib.hid (fun w1 (hb : Below w.heap.size w w1) => Calls.toR hco hZ <| each_any 90 And_en (opf := fun x y => x &&& y) (bop := fun p q => p && q) And_op (fun x y hx _ => Nat.lt_of_le_of_lt Nat.and_le_left hx) (fun x y i _ _ _ => Nat.testBit_and x y i) na nb (hs.below (C := w.heap.size) hb (Nat.le_refl _)) (ht.below (C := w.heap.size) hb (Nat.le_refl _)) hn hn' hb.size hb.size hx hy hz)
  have HW := Lib.hid ((((Below.refl w.heap.size w).alloc (Nat.le_refl _) (.cells #[.bool na, .slice A n c] 24)).alloc (by simp) (.cells #[.bool nb, .slice A' n' c'] 24)).alloc (by simp; omega) (.cells #[.bool false, .slice none 0 0] 24))
  have HK := Lib.hid (fun C w2 (hb : Below C (((w.alloc (.cells #[.bool na, .slice A n c] 24)).alloc (.cells #[.bool nb, .slice A' n' c'] 24)).alloc (.cells #[.bool false, .slice none 0 0] 24)) w2) hC => three_boxes (Dr.refl _) hb hC)
  clear hs ht hn hn' hx hy hz hco hZ
  go_enter Try.func59, Try.ntmps59
  go_wp2_with fail
  (with_reducible refine (HE.out _ HW.out).mono ?_)
  rintro ex w3 ⟨v, rfl, ⟨A3, c3, rfl, ho3⟩, hb3⟩
  obtain ⟨_, _, r0, r1, r2, r3⟩ := HK.out _ _ hb3 (by first | omega | (simp; done) | (simp; omega))
  have HO := Lib.hid ho3
  have HB3 := Lib.hid (HW.out.trans (hb3.mono (B' := w.heap.size) (by simp; omega)))
  have hz3 := hb3.size
  simp at hz3
  clear ho3 hb3
  go_wp2
  have hr := ResI.stored (w := w) (g := w.heap.size + 1 + 1) (u := .bool (decide (Z < 0))) (u' := .slice A3 (digs W Z.natAbs).length c3) ⟨A3, c3, rfl, HO.out⟩ HB3.out (by first | omega | (simp; done) | (simp; omega)) (by omega)
  exact bodyPost_ret (v := .tuple #[.agg #[.bool (decide (Z < 0)), .slice A3 (digs W Z.natAbs).length c3], .int .i64 co]) (by simp [results, Try.results59, go_sem, r0, r1]) rfl ⟨_, rfl, hr.1, hr.2⟩
theorem And_z {na nb : Bool} {A A' : Option Addr} {l m : List Nat} {n c n' c' : Nat} {w : World} {x y z : Int} (hs : SlU w w.heap.size A n c l) (ht : SlU w w.heap.size A' n' c' m) (hn : n ≤ 1000) (hn' : n' ≤ 1000) (hx : ival na l = x) (hy : ival nb m = y) (hz : ∀ i, ib z i = (ib x i && ib y i))
    (t1 : tooLong x = false) (t2 : tooLong y = false) (t3 : tooLong z = false) :
    Calls Try.prog 59 #[.agg #[.bool na, .slice A n c], .agg #[.bool nb, .slice A' n' c']] w (PostR w z 0) := by
  have h := And_any na nb hs ht (by omega) (by omega) hx hy hz
  rw [lng_ival hx, lng_ival hy, t1, t2, t3] at h
  exact h

theorem Or_op : OpC 91 (fun x y => x ||| y) := by
  intro x y w hx hy
  have h := bits_or_u32 x y hx hy
  go_enter Try.func91, Try.ntmps91
  go_wp2
  go_ret
  exact ⟨rfl, rfl⟩
theorem Or_en : ∀ (args : Array Value) (w : World), (callFunc 91 args).run Try.prog w = .ok (.enter 91 args) w :=
  fun args w => enter_run Try.func91 (by kernel_rfl) rfl args w

set_option maxRecDepth 100000 in
set_option maxHeartbeats 1000000 in
theorem Or_any (na nb : Bool) {A A' : Option Addr} {l m : List Nat} {n c n' c' : Nat} {w : World} (hs : SlU w w.heap.size A n c l) (ht : SlU w w.heap.size A' n' c' m) (hn : n ≤ 67108000) (hn' : n' ≤ 67108000)
    {x y z : Int} (hx : ival na l = x) (hy : ival nb m = y) (hz : ∀ i, ib z i = (ib x i || ib y i)) :
    Calls Try.prog 60 #[.agg #[.bool na, .slice A n c], .agg #[.bool nb, .slice A' n' c']] w (PostR w (if err (lng l || lng m || tooLong z) = 0 then z else 0) (err (lng l || lng m || tooLong z))) := by
  obtain ⟨co, hco⟩ : ∃ co, err (lng l || lng m || tooLong z) = co := ⟨_, rfl⟩
  obtain ⟨Z, hZ⟩ : ∃ Z, (if co = 0 then z else 0) = Z := ⟨_, rfl⟩
  rw [hco, hZ]
  have HE : Hid (∀ w1, Below w.heap.size w w1 → Calls Try.prog 89 #[.agg #[.bool na, .slice A n c], .agg #[.bool nb, .slice A' n' c'], .func (.func 91) #[] #[]] w1 (PostR w1 Z co)) := Lib.hid (fun w1 (hb : Below w.heap.size w w1) => Calls.toR hco hZ <| each_any 91 Or_en (opf := fun x y => x ||| y) (bop := fun p q => p || q) Or_op (fun x y hx hy => Nat.or_lt_two_pow (n := 32) hx hy) (fun x y i _ _ _ => Nat.testBit_or x y i) na nb (hs.below (C := w.heap.size) hb (Nat.le_refl _)) (ht.below (C := w.heap.size) hb (Nat.le_refl _)) hn hn' hb.size hb.size hx hy hz)
  have HW := Lib.hid ((((Below.refl w.heap.size w).alloc (Nat.le_refl _) (.cells #[.bool na, .slice A n c] 24)).alloc (by simp) (.cells #[.bool nb, .slice A' n' c'] 24)).alloc (by simp; omega) (.cells #[.bool false, .slice none 0 0] 24))
  have HK := Lib.hid (fun C w2 (hb : Below C (((w.alloc (.cells #[.bool na, .slice A n c] 24)).alloc (.cells #[.bool nb, .slice A' n' c'] 24)).alloc (.cells #[.bool false, .slice none 0 0] 24)) w2) hC => three_boxes (Dr.refl _) hb hC)
  clear hs ht hn hn' hx hy hz hco hZ
  go_enter Try.func60, Try.ntmps60
  go_wp2_with fail
  (with_reducible refine (HE.out _ HW.out).mono ?_)
  rintro ex w3 ⟨v, rfl, ⟨A3, c3, rfl, ho3⟩, hb3⟩
  obtain ⟨_, _, r0, r1, r2, r3⟩ := HK.out _ _ hb3 (by first | omega | (simp; done) | (simp; omega))
  have HO := Lib.hid ho3
  have HB3 := Lib.hid (HW.out.trans (hb3.mono (B' := w.heap.size) (by simp; omega)))
  have hz3 := hb3.size
  simp at hz3
  clear ho3 hb3
  go_wp2
  have hr := ResI.stored (w := w) (g := w.heap.size + 1 + 1) (u := .bool (decide (Z < 0))) (u' := .slice A3 (digs W Z.natAbs).length c3) ⟨A3, c3, rfl, HO.out⟩ HB3.out (by first | omega | (simp; done) | (simp; omega)) (by omega)
  exact bodyPost_ret (v := .tuple #[.agg #[.bool (decide (Z < 0)), .slice A3 (digs W Z.natAbs).length c3], .int .i64 co]) (by simp [results, Try.results60, go_sem, r0, r1]) rfl ⟨_, rfl, hr.1, hr.2⟩
theorem Or_z {na nb : Bool} {A A' : Option Addr} {l m : List Nat} {n c n' c' : Nat} {w : World} {x y z : Int} (hs : SlU w w.heap.size A n c l) (ht : SlU w w.heap.size A' n' c' m) (hn : n ≤ 1000) (hn' : n' ≤ 1000) (hx : ival na l = x) (hy : ival nb m = y) (hz : ∀ i, ib z i = (ib x i || ib y i))
    (t1 : tooLong x = false) (t2 : tooLong y = false) (t3 : tooLong z = false) :
    Calls Try.prog 60 #[.agg #[.bool na, .slice A n c], .agg #[.bool nb, .slice A' n' c']] w (PostR w z 0) := by
  have h := Or_any na nb hs ht (by omega) (by omega) hx hy hz
  rw [lng_ival hx, lng_ival hy, t1, t2, t3] at h
  exact h

theorem Xor_op : OpC 92 (fun x y => x ^^^ y) := by
  intro x y w hx hy
  have h := bits_xor_u32 x y hx hy
  go_enter Try.func92, Try.ntmps92
  go_wp2
  go_ret
  exact ⟨rfl, rfl⟩
theorem Xor_en : ∀ (args : Array Value) (w : World), (callFunc 92 args).run Try.prog w = .ok (.enter 92 args) w :=
  fun args w => enter_run Try.func92 (by kernel_rfl) rfl args w

set_option maxRecDepth 100000 in
set_option maxHeartbeats 1000000 in
theorem Xor_any (na nb : Bool) {A A' : Option Addr} {l m : List Nat} {n c n' c' : Nat} {w : World} (hs : SlU w w.heap.size A n c l) (ht : SlU w w.heap.size A' n' c' m) (hn : n ≤ 67108000) (hn' : n' ≤ 67108000)
    {x y z : Int} (hx : ival na l = x) (hy : ival nb m = y) (hz : ∀ i, ib z i = (ib x i ^^ ib y i)) :
    Calls Try.prog 61 #[.agg #[.bool na, .slice A n c], .agg #[.bool nb, .slice A' n' c']] w (PostR w (if err (lng l || lng m || tooLong z) = 0 then z else 0) (err (lng l || lng m || tooLong z))) := by
  obtain ⟨co, hco⟩ : ∃ co, err (lng l || lng m || tooLong z) = co := ⟨_, rfl⟩
  obtain ⟨Z, hZ⟩ : ∃ Z, (if co = 0 then z else 0) = Z := ⟨_, rfl⟩
  rw [hco, hZ]
  have HE : Hid (∀ w1, Below w.heap.size w w1 → Calls Try.prog 89 #[.agg #[.bool na, .slice A n c], .agg #[.bool nb, .slice A' n' c'], .func (.func 92) #[] #[]] w1 (PostR w1 Z co)) := Lib.hid (fun w1 (hb : Below w.heap.size w w1) => Calls.toR hco hZ <| each_any 92 Xor_en (opf := fun x y => x ^^^ y) (bop := fun p q => p ^^ q) Xor_op (fun x y hx hy => Nat.xor_lt_two_pow (n := 32) hx hy) (fun x y i _ _ _ => Nat.testBit_xor x y i) na nb (hs.below (C := w.heap.size) hb (Nat.le_refl _)) (ht.below (C := w.heap.size) hb (Nat.le_refl _)) hn hn' hb.size hb.size hx hy hz)
  have HW := Lib.hid ((((Below.refl w.heap.size w).alloc (Nat.le_refl _) (.cells #[.bool na, .slice A n c] 24)).alloc (by simp) (.cells #[.bool nb, .slice A' n' c'] 24)).alloc (by simp; omega) (.cells #[.bool false, .slice none 0 0] 24))
  have HK := Lib.hid (fun C w2 (hb : Below C (((w.alloc (.cells #[.bool na, .slice A n c] 24)).alloc (.cells #[.bool nb, .slice A' n' c'] 24)).alloc (.cells #[.bool false, .slice none 0 0] 24)) w2) hC => three_boxes (Dr.refl _) hb hC)
  clear hs ht hn hn' hx hy hz hco hZ
  go_enter Try.func61, Try.ntmps61
  go_wp2_with fail
  (with_reducible refine (HE.out _ HW.out).mono ?_)
  rintro ex w3 ⟨v, rfl, ⟨A3, c3, rfl, ho3⟩, hb3⟩
  obtain ⟨_, _, r0, r1, r2, r3⟩ := HK.out _ _ hb3 (by first | omega | (simp; done) | (simp; omega))
  have HO := Lib.hid ho3
  have HB3 := Lib.hid (HW.out.trans (hb3.mono (B' := w.heap.size) (by simp; omega)))
  have hz3 := hb3.size
  simp at hz3
  clear ho3 hb3
  go_wp2
  have hr := ResI.stored (w := w) (g := w.heap.size + 1 + 1) (u := .bool (decide (Z < 0))) (u' := .slice A3 (digs W Z.natAbs).length c3) ⟨A3, c3, rfl, HO.out⟩ HB3.out (by first | omega | (simp; done) | (simp; omega)) (by omega)
  exact bodyPost_ret (v := .tuple #[.agg #[.bool (decide (Z < 0)), .slice A3 (digs W Z.natAbs).length c3], .int .i64 co]) (by simp [results, Try.results61, go_sem, r0, r1]) rfl ⟨_, rfl, hr.1, hr.2⟩
theorem Xor_z {na nb : Bool} {A A' : Option Addr} {l m : List Nat} {n c n' c' : Nat} {w : World} {x y z : Int} (hs : SlU w w.heap.size A n c l) (ht : SlU w w.heap.size A' n' c' m) (hn : n ≤ 1000) (hn' : n' ≤ 1000) (hx : ival na l = x) (hy : ival nb m = y) (hz : ∀ i, ib z i = (ib x i ^^ ib y i))
    (t1 : tooLong x = false) (t2 : tooLong y = false) (t3 : tooLong z = false) :
    Calls Try.prog 61 #[.agg #[.bool na, .slice A n c], .agg #[.bool nb, .slice A' n' c']] w (PostR w z 0) := by
  have h := Xor_any na nb hs ht (by omega) (by omega) hx hy hz
  rw [lng_ival hx, lng_ival hy, t1, t2, t3] at h
  exact h

theorem Not_op : OpC 93 (fun x _ => 4294967295 - x) := by
  intro x y w hx hy
  have h := cpl_u32 x hx
  go_enter Try.func93, Try.ntmps93
  go_wp2
  go_ret
  exact ⟨rfl, rfl⟩
theorem Not_en : ∀ (args : Array Value) (w : World), (callFunc 93 args).run Try.prog w = .ok (.enter 93 args) w :=
  fun args w => enter_run Try.func93 (by kernel_rfl) rfl args w

set_option maxRecDepth 100000 in
set_option maxHeartbeats 1000000 in
theorem Not_any (na : Bool) {A : Option Addr} {l : List Nat} {n c : Nat} {w : World} (hs : SlU w w.heap.size A n c l) (hn : n ≤ 67108000) {x z : Int} (hx : ival na l = x) (hz : -1 - x = z) :
    Calls Try.prog 62 #[.agg #[.bool na, .slice A n c]] w (PostR w (if err (lng l || tooLong z) = 0 then z else 0) (err (lng l || tooLong z))) := by
  have hl0 : lng [] = false := by rw [lng]; simp [nv, blen_zero]
  obtain ⟨co, hco⟩ : ∃ co, err (lng l || tooLong z) = co := ⟨_, rfl⟩
  obtain ⟨Z, hZ⟩ : ∃ Z, (if co = 0 then z else 0) = Z := ⟨_, rfl⟩
  rw [hco, hZ]
  have HE : Hid (∀ w1, Below w.heap.size w w1 → Calls Try.prog 89 #[.agg #[.bool na, .slice A n c], .agg #[.bool false, .slice none 0 0], .func (.func 93) #[] #[]] w1 (PostR w1 Z co)) := Lib.hid (fun w1 (hb : Below w.heap.size w w1) => Calls.toR (by rw [hl0, Bool.or_false]; exact hco) hZ <| each_any 93 Not_en (opf := fun x _ => 4294967295 - x) (bop := fun p _ => !p) Not_op (fun x y _ _ => by show 4294967295 - x < 4294967296; omega) (fun x y i hx _ hi => not_bit x i hx hi) na false (hs.below (C := w.heap.size) hb (Nat.le_refl _)) (SlU.nil w1 w1.heap.size none 0 (by simp [maxLen])) hn (by omega) hb.size (Nat.le_refl _) hx (y := 0) rfl (z := z) (fun i => by rw [← hz]; exact ib_not x i))
  have HW := Lib.hid (((Below.refl w.heap.size w).alloc (Nat.le_refl _) (.cells #[.bool na, .slice A n c] 24)).alloc (by simp) (.cells #[.bool false, .slice none 0 0] 24))
  have hbx : Bx ((w.alloc (.cells #[.bool na, .slice A n c] 24)).alloc (.cells #[.bool false, .slice none 0 0] 24)) (w.heap.size + 1) (.bool false) (.slice none 0 0) := by
    have := Bx.new (w.alloc (.cells #[.bool na, .slice A n c] 24)) (.bool false) (.slice none 0 0)
    rwa [World.size_alloc] at this
  have HK := Lib.hid hbx
  clear hs hn hx hz hbx hl0 hco hZ
  go_enter Try.func62, Try.ntmps62
  go_wp2_with fail
  (with_reducible refine (HE.out _ HW.out).mono ?_)
  rintro ex w3 ⟨v, rfl, ⟨A3, c3, rfl, ho3⟩, hb3⟩
  obtain ⟨r0, r1, r2, r3⟩ := (HK.out.below hb3 (Bx.lt HK.out)).facts
  have HO := Lib.hid ho3
  have HB3 := Lib.hid (HW.out.trans (hb3.mono (B' := w.heap.size) (by simp; omega)))
  have hz3 := hb3.size
  simp at hz3
  clear ho3 hb3
  go_wp2
  have hr := ResI.stored (w := w) (g := w.heap.size + 1) (u := .bool (decide (Z < 0))) (u' := .slice A3 (digs W Z.natAbs).length c3) ⟨A3, c3, rfl, HO.out⟩ HB3.out (by first | omega | (simp; done) | (simp; omega)) (by omega)
  exact bodyPost_ret (v := .tuple #[.agg #[.bool (decide (Z < 0)), .slice A3 (digs W Z.natAbs).length c3], .int .i64 co]) (by simp [results, Try.results62, go_sem, r0, r1]) rfl ⟨_, rfl, hr.1, hr.2⟩
theorem Not_z {na : Bool} {A : Option Addr} {l : List Nat} {n c : Nat} {w : World} {x z : Int} (hs : SlU w w.heap.size A n c l) (hn : n ≤ 1000) (hx : ival na l = x) (hz : -1 - x = z) (t1 : tooLong x = false) (t3 : tooLong z = false) :
    Calls Try.prog 62 #[.agg #[.bool na, .slice A n c]] w (PostR w z 0) := by
  have h := Not_any na hs (by omega) hx hz
  rw [lng_ival hx, t1, t3] at h
  exact h
end Go.Proofs.Ytggdmhkdmkldoaa
