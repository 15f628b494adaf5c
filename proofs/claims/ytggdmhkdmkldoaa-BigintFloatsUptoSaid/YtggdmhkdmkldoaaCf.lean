import Derived.Test.YtggdmhkdmkldoaaCe
namespace Go.Proofs.Ytggdmhkdmkldoaa
open Go.RowKit Hb

def strN (l : List Nat) : ByteArray := ⟨(l.map UInt8.ofNat).toArray⟩
def TextPost (w : World) (l : List Nat) (co : Int) (e : Ending) (w' : World) : Prop := e = .returned (.tuple #[.string (strN l), .int .i64 co]) ∧ Below w.heap.size w w'
def tCode (lg : Bool) (r : Int) : Int := if lg then 10 else if r < 2 ∨ 36 < r then 13 else 0
def tList (lg : Bool) (neg : Bool) (n : Nat) (r : Int) : List Nat := if lg then [] else if r < 2 ∨ 36 < r then [] else txtL neg r.toNat n
theorem TextPost.mk {w w' : World} {l l' : List Nat} {co co' : Int} {s : ByteArray} (h1 : l = l') (h2 : co = co') (h3 : s = strN l') (hb : Below w.heap.size w w') : TextPost w l co (.returned (.tuple #[.string s, .int .i64 co'])) w' := by
  subst h1; subst h2; subst h3; exact ⟨rfl, hb⟩
abbrev W1x (w : World) (neg : Bool) (A : Option Addr) (n c : Nat) : World := (w.alloc (.cells #[.bool neg, .slice A n c] 24)).alloc (.cells #[.bool neg, .slice A n c] 24)
theorem W1x_long {w : World} {neg : Bool} {B : Nat} {A : Option Addr} {l : List Nat} {n c : Nat} (hs : SlU w B A n c l) (hn : n ≤ 67108864) (hB : B ≤ w.heap.size) :
    Calls Try.prog 69 #[.slice (some ⟨w.heap.size + 1, 0, none⟩) 1 1] (W1x w neg A n c) (LongPost (lng l) (W1x w neg A n c)) := by
  have hb : Below w.heap.size w (W1x w neg A n c) := ((Below.refl _ _).alloc (Nat.le_refl _) _).alloc (by simp) _
  have hf := (Bx.new (w.alloc (.cells #[.bool neg, .slice A n c] 24)) (.bool neg) (.slice A n c)).facts
  simp only [World.size_alloc] at hf
  exact long1_any (neg := neg) (hs.below hb hB) hn (Nat.le_trans hB hb.size) hf.1 hf.2.1

set_option maxRecDepth 100000 in
set_option maxHeartbeats 1000000 in
theorem Text_bad (neg : Bool) {B : Nat} {A : Option Addr} {l : List Nat} {n c : Nat} {w : World} (hs : SlU w B A n c l) (hn : n ≤ 67108864) (hB : B ≤ w.heap.size) (r : Int) (hbad : lng l = true ∨ r < 2 ∨ 36 < r) :
    Calls Try.prog 29 #[.agg #[.bool neg, .slice A n c], .int .i64 r] w (TextPost w (tList (lng l) neg (nv W l) r) (tCode (lng l) r)) := by
  have HL := Lib.hid (W1x_long (neg := neg) hs hn hB)
  have HB := Lib.hid (Below.refl w.heap.size w)
  cases hb : lng l
  · rw [hb] at HL
    have hr : r < 2 ∨ 36 < r := by
      rcases hbad with h | h
      · rw [hb] at h; cases h
      · exact h
    have H1 := Lib.hid (show tList false neg (nv W l) r = [] by rw [tList, if_neg (by simp), if_pos hr])
    have H2 := Lib.hid (show tCode false r = 13 by rw [tCode, if_neg (by simp), if_pos hr])
    clear hbad hb hs hn hB
    by_cases h2 : r < 2
    · have d1 : decide (r < 2) = true := decide_eq_true h2
      clear hr
      go_enter Try.func29, Try.ntmps29
      go_wp2_with fail
      refine HL.out.mono ?_
      rintro ex w3 ⟨rfl, hb3⟩
      go_wp2
      go_ret2
      exact TextPost.mk H1.out H2.out rfl (((HB.out.alloc (Nat.le_refl _) _).alloc (by simp) _).trans (hb3.mono (B' := w.heap.size) (by simp; omega)))
    · have d1 : decide (r < 2) = false := decide_eq_false h2
      have d2 : decide (36 < r) = true := decide_eq_true (by omega)
      clear hr
      go_enter Try.func29, Try.ntmps29
      go_wp2_with fail
      refine HL.out.mono ?_
      rintro ex w3 ⟨rfl, hb3⟩
      go_wp2
      go_ret2
      exact TextPost.mk H1.out H2.out rfl (((HB.out.alloc (Nat.le_refl _) _).alloc (by simp) _).trans (hb3.mono (B' := w.heap.size) (by simp; omega)))
  · rw [hb] at HL
    have H1 := Lib.hid (show tList true neg (nv W l) r = [] by rw [tList, if_pos rfl])
    have H2 := Lib.hid (show tCode true r = 10 by rw [tCode, if_pos rfl])
    clear hbad hb hs hn hB
    go_enter Try.func29, Try.ntmps29
    go_wp2_with fail
    refine HL.out.mono ?_
    rintro ex w3 ⟨rfl, hb3⟩
    go_wp2
    go_ret2
    exact TextPost.mk H1.out H2.out rfl (((HB.out.alloc (Nat.le_refl _) _).alloc (by simp) _).trans (hb3.mono (B' := w.heap.size) (by simp; omega)))

theorem strNums_rev (l : List Nat) : strOfNums (l.map (fun x : Nat => (x : Int))).reverse = strN l.reverse := by
  simp [strOfNums, strN, List.map_reverse]
theorem alpha_all : ∀ i : Fin 36, ((#[48, 49, 50, 51, 52, 53, 54, 55, 56, 57, 97, 98, 99, 100, 101, 102, 103, 104, 105, 106, 107, 108, 109, 110, 111, 112, 113, 114, 115, 116, 117, 118, 119, 120, 121, 122] : Array UInt8)[i.1]!).toNat = chrN i.1 := by decide
theorem alpha_get {rr : Nat} (h : rr < 36) (h' : rr < (⟨#[48, 49, 50, 51, 52, 53, 54, 55, 56, 57, 97, 98, 99, 100, 101, 102, 103, 104, 105, 106, 107, 108, 109, 110, 111, 112, 113, 114, 115, 116, 117, 118, 119, 120, 121, 122]⟩ : ByteArray).size) : ((⟨#[48, 49, 50, 51, 52, 53, 54, 55, 56, 57, 97, 98, 99, 100, 101, 102, 103, 104, 105, 106, 107, 108, 109, 110, 111, 112, 113, 114, 115, 116, 117, 118, 119, 120, 121, 122]⟩ : ByteArray)[rr]'h').toNat = chrN rr := by
  rw [← alpha_all ⟨rr, h⟩]
  show _ = ((#[48, 49, 50, 51, 52, 53, 54, 55, 56, 57, 97, 98, 99, 100, 101, 102, 103, 104, 105, 106, 107, 108, 109, 110, 111, 112, 113, 114, 115, 116, 117, 118, 119, 120, 121, 122] : Array UInt8)[rr]!).toNat
  rw [getElem!_pos _ rr (by simpa using h)]
  rfl
set_option maxRecDepth 100000 in
set_option maxHeartbeats 2000000 in
theorem Text_good (neg : Bool) {B : Nat} {A : Option Addr} {l : List Nat} {n c : Nat} {w : World} (hs : SlU w B A n c l) (hn : n ≤ 67108864) (hB : B ≤ w.heap.size) (r : Nat) (hr : 2 ≤ r) (hr2 : r ≤ 36) (hlg : lng l = false) :
    Calls Try.prog 29 #[.agg #[.bool neg, .slice A n c], .int .i64 (r : Int)] w (TextPost w (txtL neg r (nv W l)) 0) := by
  have HL := Lib.hid (W1x_long (neg := neg) hs hn hB)
  rw [hlg] at HL
  have HB := Lib.hid (Below.refl w.heap.size w)
  have d1 : decide ((r : Int) < 2) = false := decide_eq_false (by omega)
  have d2 : decide ((36 : Int) < (r : Int)) = false := decide_eq_false (by omega)
  have HI := Lib.hid (fun w1 (hb : Below w.heap.size w w1) => trim_any (hs.below (C := w.heap.size) hb hB))
  have HO := Lib.hid (fun w1 (hb : Below w.heap.size w w1) => own_any ((hs.tr).below (C := w.heap.size) hb hB) (by have := tlen_le l; have := hs.len; omega) (Nat.le_trans hB hb.size))
  have HD := Lib.hid (And.intro hs.dig.tr (tr_nrm l))
  have hv := nv_tr W l
  have hlt : nv W l < 2 ^ 4096 := by
    have := of_decide_eq_false hlg
    exact (blen_le_iff (n := nv W l) (k := 4096)).1 (by omega)
  have HTz := Lib.hid (show tlen l = 0 → txtL neg r (nv W (tr l)) = [48] from fun h => by rw [nv_tr, (tlen_zero_iff (b := W) (by decide) l).1 h]; rfl)
  have HTp := Lib.hid (show tlen l ≠ 0 → nv W (tr l) ≠ 0 from fun h => by rw [nv_tr]; exact fun h2 => h ((tlen_zero_iff (b := W) (by decide) l).2 h2))
  have HTL := Lib.hid (tr_length l)
  rw [← hv] at hlt ⊢
  have h128 := Lib.hid (nrm_len (k := 128) (tr_nrm l) (by rw [W128]; exact hlt))
  have HLT := Lib.hid hlt
  generalize tr l = l2 at *
  generalize tlen l = tl at *
  clear hlg hs hn hB hv hlt
  go_enter Try.func29, Try.ntmps29
  go_wp2_with fail
  refine HL.out.mono ?_
  rintro ex w3 ⟨rfl, hb3⟩
  have HB3 := Lib.hid (((HB.out.alloc (Nat.le_refl _) (.cells #[.bool neg, .slice A n c] 24)).alloc (by simp) (.cells #[.bool neg, .slice A n c] 24)).trans (hb3.mono (B' := w.heap.size) (by simp; omega)))
  have hz3 := hb3.size
  simp at hz3
  have hbx := ((Bx.alloc (Bx.new w (.bool neg) (.slice A n c)) _).below hb3 (by simp; omega))
  obtain ⟨a0, a1, _, _⟩ := hbx.facts
  clear hb3
  go_wp2_with (go_at_call 80; refine (HI.out _ HB3.out).mono ?_; rintro e w' ⟨rfl, rfl⟩)
  refine (HO.out _ HB3.out).mono ?_
  rintro e w1 ⟨A1, n1, c1, rfl, ho1, hl1, hb1⟩
  obtain rfl : n1 = tl := by rw [← hl1]; exact HTL.out
  by_cases h0 : n1 = 0
  · have HT := Lib.hid (HTz.out h0)
    subst h0
    go_wp2
    go_ret2
    exact TextPost.mk HT.out rfl rfl (HB3.out.trans (hb1.mono (B' := w.heap.size) (by omega)))
  · obtain ⟨g, rfl, hg1, hg2⟩ := Own.at_ ho1 (by omega)
    have hk0 : ((n1 : Int) == 0) = false := beq_eq_false_iff_ne.2 (by omega)
    obtain ⟨b0, _, _, _⟩ := (hbx.below hb1 (by omega)).facts
    have HX := Lib.hid (hbx.below hb1 (by omega))
    have H3 := Lib.hid hb1
    have HS := Lib.hid (show TRel w1 w3.heap.size w1.heap.size g c1 r (nv W l2) (.slice (some ⟨g, 0, none⟩) n1 c1) (.slice none 0 0) w1 from
      ⟨n1, l2, none, 0, 0, [], rfl, rfl, hl1, by rw [← hl1]; exact h128.out, HD.out.1, HD.out.2, rfl, rfl, by omega, ho1, ⟨rfl, .inl ⟨rfl, rfl⟩⟩, Below.refl _ _⟩)
    have HNz := Lib.hid (HTp.out h0)
    clear ho1 hb1 a0 a1 hbx
    have hg2' := hg2
    have HLT2 := Lib.hid (digs_len_r hr HLT.out)
    generalize hN : nv W l2 = N at *
    obtain ⟨K, hK⟩ : ∃ K, (digs r N).length = K := ⟨_, rfl⟩
    rw [hK] at HLT2
    have HK := Lib.hid hK
    have HNN := Lib.hid hN
    have HW := Lib.hid (And.intro (HX.out) (And.intro hg1 hg2))
    generalize hB2 : w1.heap.size = B2 at *
    have HB2 := Lib.hid hB2
    generalize hB1 : w3.heap.size = B1 at *
    have HB1 := Lib.hid hB1
    clear hK hN hB1 hB2
    go_wp2_with fail
    go_loopw [6, 7] (fun lv ov wr => TRel w1 B1 B2 g c1 r N lv ov wr) (fun _ ov _ => K - (match ov with | .slice _ n _ => n | _ => 0))
    case atStart => exact HS.out
    case round =>
      obtain ⟨n, l, A', n', c', ds, rfl, rfl, hln, hn128, hdl, hnrm, hdg, hdn, hn4, ho, hob, hbw⟩ := hrel
      by_cases hn0 : n = 0
      · have hl0 : l = [] := List.length_eq_zero_iff.1 (by omega)
        subst hl0
        have hdr : digs r N = ds := by rw [hdg, show nv W ([] : List Nat) = 0 from rfl, digs_zero, List.append_nil]
        obtain ⟨b0, b1, _, _⟩ := (HW.out.1.below hbw (by omega)).facts
        have hKz : 0 < K := by rw [← HK.out, digs_pos (by omega) HNz.out]; simp
        have hKn : K = n' := by rw [← HK.out, hdr, hdn]
        have HKn := Lib.hid hKn
        have hB2z : B2 ≤ wr.heap.size := by have := hbw.size; rw [← HB2.out]; exact this
        have hn'0 : 0 < n' := by omega
        subst hn0
        clear hKn
        cases neg
        · have HOB := Lib.hid hob
          have HBW := Lib.hid hbw
          clear hob hbw ho
          go_wp2_with fail
          have hn1 : (ds.map chrN).length = n' := by simp [hdn]
          obtain ⟨g2, hA2, hg3, hg4⟩ := Own.at_ HOB.out (by omega)
          subst hA2
          have HRS := Lib.hid (RvRel.start (B1 := B1) (w1 := w1) hn1 HOB.out HBW.out)
          have HTX := Lib.hid (show txtL false r N = (ds.map chrN).reverse by rw [txtL, if_neg HNz.out, hdr]; simp)
          have HLEN := Lib.hid hn1
          have hnI : ((n' : Nat) : Int) ≤ 5000 := by omega
          have hnI0 : (1 : Int) ≤ ((n' : Nat) : Int) := by omega
          have HG := Lib.hid (show B1 ≤ g2 by have := HW.out.2; omega)
          generalize hnn : n' = nn at *
          have HNN2 := Lib.hid (show (nn : Int) - 1 = (nn : Int) - 1 from rfl)
          clear hnn

          generalize ds.map chrN = ll at *
          clear hdg hdr hn1 hdn hn4
          go_loopw [10, 11] (fun iv kv wr => ∃ i : Nat, 2 * i ≤ nn + 1 ∧ iv = .int .i64 (i : Int) ∧ kv = .int .i64 ((nn : Int) - 1 - (i : Int)) ∧ RvRel w1 B1 B2 nn g2 c' ll i wr) (fun _ kv _ => (intOf kv + 1).toNat)
          case atStart => exact ⟨0, by omega, rfl, congrArg (Value.int .i64) (by have := HNN2.out; omega), HRS.out⟩
          case round =>
            obtain ⟨i, hi, rfl, rfl, hrv⟩ := hrel
            by_cases hik : 2 * i + 1 < nn
            · obtain ⟨k, hk⟩ : ∃ k : Nat, k + i + 1 = nn := ⟨nn - 1 - i, by omega⟩
              have hkI : (nn : Int) - 1 - (i : Int) = (k : Int) := by omega
              obtain ⟨f1, f2, f3, f4, hnx⟩ := hrv.facts hk (by omega) HG.out
              have HNX := Lib.hid hnx
              have hi0 : (0 : Int) ≤ (i : Int) := by omega
              have hi1 : (i : Int) < (nn : Int) := by omega
              have hk0 : (0 : Int) ≤ (k : Int) := by omega
              have hk1 : (k : Int) < (nn : Int) := by omega
              have hik2 : (i : Int) < (k : Int) := by omega
              have hne1 : ¬ (i = k) := by omega
              have hne2 : ¬ (k = i) := by omega
              generalize ll.getD i 0 = x at *
              generalize ll.getD k 0 = y at *
              rw [hkI]
              have HKI := Lib.hid hkI
              clear hnx hrv hkI
              go_wp2_with fail
              go_region
              all_goals
                go_wp2
                exact ⟨⟨i + 1, by omega, by go_num, congrArg (Value.int .i64) (by have := HKI.out; omega), HNX.out.drew⟩, by simp [intOf]⟩
            · obtain ⟨ho9, hb9⟩ := hrv.done HLEN.out (by omega)
              have hcv := conv_own ho9 (by simpa using HLEN.out)
              have HB9 := Lib.hid hb9
              have hd5 : decide ((i : Int) < (nn : Int) - 1 - (i : Int)) = false := decide_eq_false (by omega)
              clear ho9 hb9 hrv
              go_wp2
              go_ret2
              exact TextPost.mk HTX.out rfl (strNums_rev _) (HB3.out.trans ((H3.out.trans HB9.out).mono (by omega)))
        · have HOB0 := Lib.hid hob
          have HBW0 := Lib.hid hbw
          have hbz := hbw.size
          clear hob hbw ho
          go_wp2_with (at_builtin; refine wpList_append_u8 (by rfl) _ _ (by rfl) _ A' n' c' (ds.map chrN) (by rfl) (Own.alloc HOB0.out _) wr.heap.size 45 (by rfl) ?hc (by omega) (by simp; omega) ?_; rotate_left; intro A'' c'' w4 ho4 hb4)
          case hc => exact cell_of_row _ _ 0 _ _ (0, 0) (heap_alloc_new wr _)
          have HOB := Lib.hid ho4
          have HBW := Lib.hid ((HBW0.out.alloc (by have := HW.out.2; omega) _).trans (hb4.mono (by have := HW.out.2; omega)))
          clear ho4 hb4
          go_wp2_with fail
          have hn1 : (ds.map chrN ++ [45]).length = n' + 1 := by simp [hdn]
          obtain ⟨g2, hA2, hg3, hg4⟩ := Own.at_ HOB.out (by omega)
          subst hA2
          have HRS := Lib.hid (RvRel.start (B1 := B1) (w1 := w1) hn1 HOB.out HBW.out)
          have HTX := Lib.hid (show txtL true r N = (ds.map chrN ++ [45]).reverse by rw [txtL, if_neg HNz.out, hdr]; simp)
          have HLEN := Lib.hid hn1
          have hnI : ((n' + 1 : Nat) : Int) ≤ 5000 := by omega
          have hnI0 : (1 : Int) ≤ ((n' + 1 : Nat) : Int) := by omega
          have HG := Lib.hid (show B1 ≤ g2 by have := HW.out.2; omega)
          generalize hnn : n' + 1 = nn at *
          have HNN2 := Lib.hid (show (n' : Int) = (nn : Int) - 1 by omega)
          clear hnn
          generalize ds.map chrN ++ [45] = ll at *
          clear hdg hdr hn1 hdn hn4
          go_loopw [10, 11] (fun iv kv wr => ∃ i : Nat, 2 * i ≤ nn + 1 ∧ iv = .int .i64 (i : Int) ∧ kv = .int .i64 ((nn : Int) - 1 - (i : Int)) ∧ RvRel w1 B1 B2 nn g2 c'' ll i wr) (fun _ kv _ => (intOf kv + 1).toNat)
          case atStart => exact ⟨0, by omega, rfl, congrArg (Value.int .i64) (by have := HNN2.out; omega), HRS.out⟩
          case round =>
            obtain ⟨i, hi, rfl, rfl, hrv⟩ := hrel
            by_cases hik : 2 * i + 1 < nn
            · obtain ⟨k, hk⟩ : ∃ k : Nat, k + i + 1 = nn := ⟨nn - 1 - i, by omega⟩
              have hkI : (nn : Int) - 1 - (i : Int) = (k : Int) := by omega
              obtain ⟨f1, f2, f3, f4, hnx⟩ := hrv.facts hk (by omega) HG.out
              have HNX := Lib.hid hnx
              have hi0 : (0 : Int) ≤ (i : Int) := by omega
              have hi1 : (i : Int) < (nn : Int) := by omega
              have hk0 : (0 : Int) ≤ (k : Int) := by omega
              have hk1 : (k : Int) < (nn : Int) := by omega
              have hik2 : (i : Int) < (k : Int) := by omega
              have hne1 : ¬ (i = k) := by omega
              have hne2 : ¬ (k = i) := by omega
              generalize ll.getD i 0 = x at *
              generalize ll.getD k 0 = y at *
              rw [hkI]
              have HKI := Lib.hid hkI
              clear hnx hrv hkI
              go_wp2_with fail
              go_region
              all_goals
                go_wp2
                exact ⟨⟨i + 1, by omega, by go_num, congrArg (Value.int .i64) (by have := HKI.out; omega), HNX.out.drew⟩, by simp [intOf]⟩
            · obtain ⟨ho9, hb9⟩ := hrv.done HLEN.out (by omega)
              have hcv := conv_own ho9 (by simpa using HLEN.out)
              have HB9 := Lib.hid hb9
              have hd5 : decide ((i : Int) < (nn : Int) - 1 - (i : Int)) = false := decide_eq_false (by omega)
              clear ho9 hb9 hrv
              go_wp2
              go_ret2
              exact TextPost.mk HTX.out rfl (strNums_rev _) (HB3.out.trans ((H3.out.trans HB9.out).mono (by omega)))
      · have hne : l ≠ [] := by intro e; rw [e] at hln; exact hn0 hln.symm
        have hlt := TRel.lt hr hne hnrm hdg
        rw [HK.out, hdn] at hlt
        have HIn := Lib.hid (TIn.start (by omega) hln hdl ho hob hbw (r := r))
        have HNx := Lib.hid (fun n o A'' c'' wr => TRel.next (W1 := w1) (wr := wr) (B1 := B1) (B2 := B2) (g := g) (n := n) (c := c1) (n' := n') (c' := c'') (A' := A'') (o := o) hr HLT.out hne hnrm hdg hdn)
        have HLn := Lib.hid (And.intro hln hdl)
        have hszB : ∀ wr : World, w1.heap.size ≤ wr.heap.size → B2 ≤ wr.heap.size := by rw [HB2.out]; exact fun _ h => h
        have hd3 : decide ((0 : Int) < (n : Int)) = true := decide_eq_true (by omega)
        have hd4 : decide (0 < n) = true := decide_eq_true (by omega)
        have hnI : (n : Int) ≤ 128 := by omega
        have hnI0 : (1 : Int) ≤ (n : Int) := by omega
        obtain ⟨wo, hwo⟩ : ∃ wo : World, wo = wr := ⟨_, rfl⟩
        subst hwo
        clear ho hob hbw hln hdl hnrm hdg hdn hne
        go_wp2_with fail
        go_loopw [8, 9] (fun sv iv wr => ∃ i : Nat, i ≤ n ∧ iv = .int .i64 ((i : Int) - 1) ∧ TIn w1 B1 B2 g n c1 l A' n' c' (ds.map chrN) r i sv wr) (fun _ iv _ => (intOf iv + 1).toNat)
        case atStart => exact ⟨n, Nat.le_refl _, rfl, HIn.out⟩
        case round =>
          obtain ⟨i, hi, rfl, hin⟩ := hrel
          by_cases hi0 : i = 0
          · subst hi0
            obtain ⟨o, rfl, hrm, h1, h2, h3, h4, h5, h6⟩ := hin.done
            have HT := Lib.hid (trim_any (Own.sl h4 h2 h1))
            have HO4 := Lib.hid (And.intro h1 (And.intro h2 (And.intro h3 (And.intro h4 (And.intro h5 h6)))))
            have hz := (Own.lt' h4).1
            have hzb := h6.size
            have hB2z := hszB wr (by have := h6.size; omega)
            have HNy := Lib.hid (fun A'' c'' w2 k1 k2 => HNx.out n o A'' c'' w2 h1 hn128 h2 h3 k1 (by exact k2))
            generalize hrr : nv W l % r = rr at *
            have h36 : rr < 36 := by omega
            have h36I : (rr : Int) < 36 := by omega
            clear hin h1 h2 h3 h4 h5 h6 hrr
            go_wp2_with (first
              | (go_at_call 80; (with_reducible refine HT.out.mono ?_); rintro e w2 ⟨rfl, rfl⟩)
              | (at_builtin; refine wpList_append_u8 (by rfl) _ _ (by rfl) _ A' n' c' (ds.map chrN) (by rfl) (Own.alloc HO4.out.2.2.2.2.1 _) wr.heap.size (chrN rr) (by rfl) ?hc (by omega) (by simp; omega) ?_; rotate_left; intro A'' c'' w4 ho4 hb4))
            case hc =>
              rw [alpha_get h36]
              exact cell_of_row _ _ 0 _ _ (0, 0) (heap_alloc_new wr _)
            have HEnd := Lib.hid (HNy.out A'' c'' w4 (Own.keep (Own.alloc HO4.out.2.2.2.1 _) (hb4.mono (by exact Nat.le_refl _)) (by exact HW.out.2.2)) ho4 ((HO4.out.2.2.2.2.2.alloc (by have := HW.out.2.1; omega) _).trans (hb4.mono (by have := HW.out.2; omega))))
            go_roundw
            case rel => exact HEnd.out
            case measure => simp; omega
          · obtain ⟨j, rfl⟩ : ∃ j, i = j + 1 := ⟨i - 1, by omega⟩
            obtain ⟨rem, rfl, hrem, hc, hf, hst⟩ := hin.facts (by omega) HLn.out.2 HLn.out.1 hr2 HW.out.2.1 HW.out.2.2
            have hx : l.getD j 0 < 4294967296 := HLn.out.2.getD (by decide) j
            have HDv := Lib.hid (fun w1 => div32_any rem (l.getD j 0) r w1 hrem (by omega) hx)
            generalize l.getD j 0 = x at *
            have hj0 : (0 : Int) ≤ (j : Int) := by omega
            have hj1 : (j : Int) < (n : Int) := by omega
            generalize hqq : (rem * 4294967296 + x) / r = q at *
            generalize hmm : (rem * 4294967296 + x) % r = m at *
            clear hin hqq hmm
            go_wp2_with (go_at_call 81; (with_reducible refine (HDv.out _).mono ?_); rintro e w2 ⟨rfl, hdr⟩; obtain ⟨k1, k2, hS⟩ := hst.out _ hdr; have HSS := Lib.hid hS; clear hS)
            go_roundw
            case rel => exact ⟨j, by omega, by go_num, HSS.out⟩
            case measure => simp [intOf]
theorem Text_any (neg : Bool) {B : Nat} {A : Option Addr} {l : List Nat} {n c : Nat} {w : World} (hs : SlU w B A n c l) (hn : n ≤ 67108864) (hB : B ≤ w.heap.size) (r : Int) :
    Calls Try.prog 29 #[.agg #[.bool neg, .slice A n c], .int .i64 r] w (TextPost w (tList (lng l) neg (nv W l) r) (tCode (lng l) r)) := by
  by_cases hbad : lng l = true ∨ r < 2 ∨ 36 < r
  · exact Text_bad neg hs hn hB r hbad
  · have hl : lng l = false := by
      cases h : lng l with
      | false => rfl
      | true => exact absurd (.inl h) hbad
    obtain ⟨k, rfl⟩ := Int.eq_ofNat_of_zero_le (show 0 ≤ r by omega)
    rw [hl, tList, tCode, if_neg (by simp), if_neg (by omega), if_neg (by simp), if_neg (by omega), Int.toNat_natCast]
    exact Text_good neg hs hn hB k (by omega) (by omega) hl
end Go.Proofs.Ytggdmhkdmkldoaa
