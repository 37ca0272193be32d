/- The reference's dual, Paths, Cuts. -/
import Derived.Test.YtfoeamgjjhfkdaaRp
namespace Go.Proofs.Ytfoeamgjjhfkdaa
open Go Go.Shelf Go.RowKit Go.Proofs L9

/-- asked, of a circuit alone -/
def PostAsk0 (c : ByteArray) (w : World) (e : Ending) (w' : World) : Prop :=
  Below w.heap.size w w' ∧ ((∃ x, circ c.data.toList = some x ∧ e = .returned (.tuple #[.agg (tabArr (evC x)), .int .i64 0])) ∨ (∃ t, circ c.data.toList = none ∧ e = .returned (.tuple #[.agg (tabArr t), .int .i64 90])))
theorem refAsked0 (c : ByteArray) (w : World) (hm : c.size ≤ maxLen) : Calls Try.prog 61 #[.string c, .string ⟨#[]⟩] w (PostAsk0 c w) := by
  refine (refAsked c ⟨#[]⟩ w hm (by decide)).mono ?_
  rintro e w1 ⟨t, rfl, hb, ht⟩
  refine ⟨hb, ?_⟩
  cases hc : circ c.data.toList with
  | none => exact Or.inr ⟨t, rfl, rfl⟩
  | some x =>
    refine Or.inl ⟨x, rfl, ?_⟩
    rw [tabArr_congr (f := t) (g := evC x) (fun i hi => ht x hc i hi)]
    rfl

set_option maxHeartbeats 4000000 in
set_option maxRecDepth 100000 in
theorem refDual (t : Nat → Bool) (w : World) :
    Calls Try.prog 64 #[.agg (tabArr t)] w fun e w' => e = .returned (.agg (tabArr fun i => !t (255 - i))) ∧ Below w.heap.size w w' := by
  have hget : ∀ i, i < 256 → (tabArr t)[i]? = some (.bool (t i)) := fun i hi => tab_get t i hi
  have HGET := Lib.hid hget
  clear hget
  generalize tabArr t = A at *
  go_enter Try.func64, Try.ntmps64
  go_wp2_with fail
  have hb0 : Below w.heap.size w (((w.alloc (.cells A 50)).alloc (.cells Try.zeroCells50 50)).alloc (.cells Try.zeroCells50 50)) :=
    (((Below.refl _ _).alloc (Nat.le_refl _) _).alloc (by simp) _).alloc (by simp; omega) _
  have hA : (((w.alloc (.cells A 50)).alloc (.cells Try.zeroCells50 50)).alloc (.cells Try.zeroCells50 50)).heap[w.heap.size]? = some (.cells A 50 (0, 0)) := by
    rw [Below.heap_alloc _ _ _ (by simp; omega), Below.heap_alloc _ _ _ (by simp)]
    exact alloc_last _ _
  have hres : (((w.alloc (.cells A 50)).alloc (.cells Try.zeroCells50 50)).alloc (.cells Try.zeroCells50 50)).heap[w.heap.size + 1]? = some (.cells (tabArr fun _ => false) 50 (0, 0)) := by
    rw [Below.heap_alloc _ _ _ (by simp), ← zeros50]
    have := alloc_last (w.alloc (.cells A 50)) (.cells Try.zeroCells50 50)
    simpa using this
  have htab : TabTo (w.heap.size + 2) (fun i => !t (255 - i)) (fun _ => false) 0 (((w.alloc (.cells A 50)).alloc (.cells Try.zeroCells50 50)).alloc (.cells Try.zeroCells50 50)) := by
    apply TabTo.of_full
    rw [← zeros50]
    have := alloc_last ((w.alloc (.cells A 50)).alloc (.cells Try.zeroCells50 50)) (.cells Try.zeroCells50 50)
    simpa using this
  generalize (((w.alloc (.cells A 50)).alloc (.cells Try.zeroCells50 50)).alloc (.cells Try.zeroCells50 50)) = W1 at *
  have H0 := Lib.hid (And.intro hb0 (And.intro hA (And.intro hres htab)))
  clear hb0 hA hres htab
  go_loopw [4] (fun i wr => ∃ k : Nat, k ≤ 256 ∧ i = .int .i64 k ∧ Below w.heap.size w wr ∧ wr.heap[w.heap.size]? = some (.cells A 50 (0, 0)) ∧ wr.heap[w.heap.size + 1]? = some (.cells (tabArr fun _ => false) 50 (0, 0)) ∧ TabTo (w.heap.size + 2) (fun i => !t (255 - i)) (fun _ => false) k wr) (fun i _ => 256 - (intOf i).toNat)
  case atStart => exact ⟨0, by omega, rfl, H0.out⟩
  case round =>
    obtain ⟨k, hk, rfl, hb, hA, hres, htab⟩ := hrel
    clear H0
    have HB := Lib.hid hb
    have HA := Lib.hid hA
    have HR := Lib.hid hres
    have HT := Lib.hid htab
    by_cases hlt : k < 256
    · have hcell := htab.cell k hlt
      have hfz := htab.frozen k
      have hld : wr.cell? ⟨w.heap.size, 255 - k, none⟩ = some (.bool (t (255 - k))) := by rw [Lib.cell_of_heap hA]; exact HGET.out _ (by omega)
      have hsub : (255 - (k : Int)) = ((255 - k : Nat) : Int) := by omega
      have hq : 255 - k < 256 := by omega
      generalize (if k < k then (fun i => !t (255 - i)) k else false) = old at hcell
      generalize hy : t (255 - k) = y at hld
      generalize hqk : 255 - k = q at *
      have HQ := Lib.hid hqk
      clear hqk
      have HY := Lib.hid hy
      clear hb hA hres htab hy
      go_wp2_with fail
      go_roundw
      case rel =>
        refine ⟨k + 1, by omega, by go_num, HB.out.setCell (p := ⟨w.heap.size + 2, k, none⟩) (by simp) _, ?_, ?_, ?_⟩
        · rw [setCell_ne _ _ _ _ _ (by omega)]; exact HA.out
        · rw [setCell_ne _ _ _ _ _ (by omega)]; exact HR.out
        · have := HT.out.step hlt
          rw [HQ.out, HY.out] at this
          exact this
      case measure => simp [intOf]; omega
    · obtain rfl : k = 256 := by omega
      have hfull := htab.full
      have HF := Lib.hid hfull
      clear hb hA hres htab hfull
      go_wp2_with (first | (refine wpList_load_row rfl 50 _ rfl (w.heap.size + 2) rfl 50 (tabArr fun i => !t (255 - i)) (0, 0) _ HF.out Try.underlying50 rfl (by rw [tabArr_size]; exact info50) ?_) | (refine wpList_store_row rfl 50 _ _ rfl (w.heap.size + 1) (tabArr fun i => !t (255 - i)) rfl rfl 50 _ HR.out (by rw [tabArr_size]; exact info50) (by rw [tabArr_size, tabArr_size]) (tabArr_one _) ?_))
      refine tabRet rfl rfl (setRow_at _ _ _ _ _ HR.out) ?_
      exact ⟨rfl, setRow_below HB.out _ _ (by omega)⟩

/-- what the reference's Paths and Cuts leave -/
theorem least_eq (t : Nat → Bool) (ht : Grows t) : (order.filter (isMin1 t)).map txt = (leastL t).map txt := by rw [least_ref t ht]
theorem grows_C (c : List (List Part)) : Grows (tblC c) := fun n m _ _ h h1 => evC_mono c n m h h1
theorem le_not {n m : Nat} (hn : n < 256) (hm : m < 256) (h : Le n m) : Le (255 - m) (255 - n) := by
  intro i hi
  have hi8 := bit_lt8 (show 255 - m < 256 by omega) hi
  have h1 := bit_not i m hi8 hm
  have h2 := bit_not i n hi8 hn
  rw [hi] at h1
  cases hx : n.testBit i with
  | true => rw [h i hx] at h1; cases h1
  | false =>
    rw [hx] at h2
    generalize (255 - n).testBit i = z at *
    cases z
    · cases h2
    · rfl
theorem grows_X (c : List (List Part)) : Grows (tblX c) := by
  intro n m hn hm h h1
  unfold tblX at *
  cases hx : evC c (255 - m) with
  | false => rfl
  | true =>
    rw [evC_mono c _ _ (le_not hn hm h) hx] at h1
    cases h1

set_option maxHeartbeats 2000000 in
set_option maxRecDepth 100000 in
theorem refPaths (s : ByteArray) (w : World) (hm : s.size ≤ maxLen) : Calls Try.prog 17 #[.string s] w (ListPost w (pathsOf s.data.toList)) := by
  have HA := Lib.hid (refAsked0 s w hm)
  unfold PostAsk0 at HA
  unfold pathsOf
  generalize circ s.data.toList = o at *
  go_enter Try.func17, Try.ntmps17
  go_wp2_with fail
  refine HA.out.mono ?_
  rintro e w1 ⟨hb, ⟨x, ho, rfl⟩ | ⟨t, ho, rfl⟩⟩
  · obtain ⟨hb2, hT2⟩ := keepTab (t := evC x) hb
    have HS := Lib.hid (alloc_zeros w1)
    have HB2 := Lib.hid hb2
    have HT2 := Lib.hid hT2
    have HL := Lib.hid (fun W => refLeast (evC x) W)
    have HO := Lib.hid ho
    have HE := Lib.hid (least_eq _ (grows_C x))
    change Hid ((order.filter (isMin1 (evC x))).map txt = _) at HE
    clear hb hb2 hT2 ho HA
    go_wp2_with (first | (refine wpList_store_row rfl 50 _ _ rfl w1.heap.size (tabArr (evC x)) rfl rfl 50 _ HS.out (by rw [tabArr_size]; exact info50) (by rw [tabArr_size, tabArr_size]) (tabArr_one _) ?_) | (refine wpList_load_row rfl 50 _ rfl w1.heap.size rfl 50 (tabArr (evC x)) (0, 0) _ HT2.out Try.underlying50 rfl (by rw [tabArr_size]; exact info50) ?_))
    refine (HL.out _).mono ?_
    rintro e w2 ⟨u, rfl, hu, hb3⟩
    rw [HE.out] at hu
    have HB3 := Lib.hid (HB2.out.trans (hb3.mono HB2.out.size))
    have HU := Lib.hid hu
    clear hu hb3 HE
    go_wp2_with fail
    go_ret2
    rw [HO.out]
    exact ⟨HB3.out, u, rfl, HU.out⟩
  · have HS := Lib.hid (alloc_zeros w1)
    obtain ⟨hb2, hT2⟩ := keepTab (t := t) hb
    have HO := Lib.hid ho
    have HB2 := Lib.hid hb2
    clear ho hb hb2 hT2
    go_wp2_with (refine wpList_store_row rfl 50 _ _ rfl w1.heap.size (tabArr t) rfl rfl 50 _ HS.out (by rw [tabArr_size]; exact info50) (by rw [tabArr_size, tabArr_size]) (tabArr_one _) ?_)
    go_ret2
    rw [HO.out]
    exact ⟨HB2.out, rfl⟩

set_option maxHeartbeats 2000000 in
set_option maxRecDepth 100000 in
theorem refCuts (s : ByteArray) (w : World) (hm : s.size ≤ maxLen) : Calls Try.prog 19 #[.string s] w (ListPost w (cutsOf s.data.toList)) := by
  have HA := Lib.hid (refAsked0 s w hm)
  unfold PostAsk0 at HA
  unfold cutsOf
  generalize circ s.data.toList = o at *
  go_enter Try.func19, Try.ntmps19
  go_wp2_with fail
  refine HA.out.mono ?_
  rintro e w1 ⟨hb, ⟨x, ho, rfl⟩ | ⟨t, ho, rfl⟩⟩
  · obtain ⟨hb2, hT2⟩ := keepTab (t := evC x) hb
    have HS := Lib.hid (alloc_zeros w1)
    have HB2 := Lib.hid hb2
    have HT2 := Lib.hid hT2
    have HD := Lib.hid (fun W => refDual (evC x) W)
    have HL := Lib.hid (fun W => refLeast (tblX x) W)
    have HO := Lib.hid ho
    have HE := Lib.hid (least_eq _ (grows_X x))
    clear hb hb2 hT2 ho HA
    go_wp2_with (first | (refine wpList_store_row rfl 50 _ _ rfl w1.heap.size (tabArr (evC x)) rfl rfl 50 _ HS.out (by rw [tabArr_size]; exact info50) (by rw [tabArr_size, tabArr_size]) (tabArr_one _) ?_) | (refine wpList_load_row rfl 50 _ rfl w1.heap.size rfl 50 (tabArr (evC x)) (0, 0) _ HT2.out Try.underlying50 rfl (by rw [tabArr_size]; exact info50) ?_))
    refine (HD.out _).mono ?_
    rintro e w2 ⟨rfl, hb3⟩
    have HB3 := Lib.hid (HB2.out.trans (hb3.mono HB2.out.size))
    clear hb3 HB2
    go_wp2_with fail
    refine (HL.out _).mono ?_
    rintro e w3 ⟨u, rfl, hu, hb4⟩
    rw [HE.out] at hu
    have HB4 := Lib.hid (HB3.out.trans (hb4.mono HB3.out.size))
    have HU := Lib.hid hu
    clear hu hb4 HE
    go_wp2_with fail
    go_ret2
    rw [HO.out]
    exact ⟨HB4.out, u, rfl, HU.out⟩
  · have HS := Lib.hid (alloc_zeros w1)
    obtain ⟨hb2, hT2⟩ := keepTab (t := t) hb
    have HO := Lib.hid ho
    have HB2 := Lib.hid hb2
    clear ho hb hb2 hT2
    go_wp2_with (refine wpList_store_row rfl 50 _ _ rfl w1.heap.size (tabArr t) rfl rfl 50 _ HS.out (by rw [tabArr_size]; exact info50) (by rw [tabArr_size, tabArr_size]) (tabArr_one _) ?_)
    go_ret2
    rw [HO.out]
    exact ⟨HB2.out, rfl⟩
end Go.Proofs.Ytfoeamgjjhfkdaa
