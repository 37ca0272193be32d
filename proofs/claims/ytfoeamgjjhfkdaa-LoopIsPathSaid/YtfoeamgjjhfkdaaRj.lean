/- The reference: Conducts, IsPath, IsCut. -/
import Derived.Test.YtfoeamgjjhfkdaaRi
namespace Go.Proofs.Ytfoeamgjjhfkdaa
open Go Go.Shelf Go.RowKit Go.Proofs L9

/-- the table that asked's caller keeps: its block, and where it lies -/
theorem keepTab {w w1 : World} {t : Nat → Bool} (hb : Below w.heap.size w w1) :
    Below w.heap.size w ((w1.alloc (.cells Try.zeroCells50 50)).setRow w1.heap.size (tabArr t)) ∧
    ((w1.alloc (.cells Try.zeroCells50 50)).setRow w1.heap.size (tabArr t)).heap[w1.heap.size]? = some (.cells (tabArr t) 50 (0, 0)) :=
  ⟨setRow_below (hb.alloc hb.size _) _ _ hb.size, setRow_at _ _ _ _ _ (alloc_zeros w1)⟩

theorem tabCell {w : World} {g : Nat} {t : Nat → Bool} (h : w.heap[g]? = some (.cells (tabArr t) 50 (0, 0))) (i : Nat) (hi : i < 256) : w.cell? ⟨g, i, none⟩ = some (.bool (t i)) := by
  rw [Lib.cell_of_heap h]; exact tab_get t i hi

def refAns (o : Option (List (List Part))) (q : Option Nat) (f : List (List Part) → Nat → Bool) : Bool × Int := match o with
  | none => (false, 90)
  | some x => match q with
    | none => (false, 91)
    | some n => (f x n, 0)

set_option maxHeartbeats 2000000 in
set_option maxRecDepth 100000 in
theorem refConducts (c s : ByteArray) (w : World) (hm : c.size ≤ maxLen) (hs : s.size ≤ 1000000) :
    Calls Try.prog 46 #[.string c, .string s] w fun e w' => e = .returned (.tuple #[.bool (conductsOf c.data.toList s.data.toList).1, .int .i64 (conductsOf c.data.toList s.data.toList).2]) ∧ Below w.heap.size w w' := by
  have HA := Lib.hid (refAsked c s w hm hs)
  have HB := Lib.hid (fun m (h : setOf s.data.toList = some m) W => refBits s m W hs h)
  have hq := setOf_lt s.data.toList
  unfold PostAsk at HA
  unfold conductsOf
  generalize circ c.data.toList = o at *
  generalize setOf s.data.toList = q at *
  go_enter Try.func46, Try.ntmps46
  go_wp2_with fail
  refine HA.out.mono ?_
  rintro e w1 ⟨t, rfl, hb, ht⟩
  obtain ⟨hb2, hT2⟩ := keepTab (t := t) hb
  have HS := Lib.hid (alloc_zeros w1)
  have HB2 := Lib.hid hb2
  have HT2 := Lib.hid hT2
  have HT := Lib.hid ht
  clear hb hb2 hT2 ht HA
  cases o with
  | none =>
    unfold askCode
    go_wp2_with (refine wpList_store_row rfl 50 _ _ rfl w1.heap.size (tabArr t) rfl rfl 50 _ HS.out (by rw [tabArr_size]; exact info50) (by rw [tabArr_size, tabArr_size]) (tabArr_one _) ?_)
    go_ret2
    exact ⟨rfl, HB2.out⟩
  | some x =>
    cases q with
    | none =>
      unfold askCode
      go_wp2_with (refine wpList_store_row rfl 50 _ _ rfl w1.heap.size (tabArr t) rfl rfl 50 _ HS.out (by rw [tabArr_size]; exact info50) (by rw [tabArr_size, tabArr_size]) (tabArr_one _) ?_)
      go_ret2
      exact ⟨rfl, HB2.out⟩
    | some n =>
      unfold askCode
      have hn := hq n rfl
      have hv := HT.out x rfl n hn
      have hcell := tabCell HT2.out n hn
      rw [hv] at hcell
      generalize hy : evC x n = y at hcell
      have HY := Lib.hid hy
      have HBN := Lib.hid (HB.out n rfl)
      clear hy hv hq HT HB
      go_wp2_with (first | (refine wpList_store_row rfl 50 _ _ rfl w1.heap.size (tabArr t) rfl rfl 50 _ HS.out (by rw [tabArr_size]; exact info50) (by rw [tabArr_size, tabArr_size]) (tabArr_one _) ?_) | (go_at_call 79; refine (HBN.out _).mono ?_; rintro e w' ⟨rfl, rfl⟩))
      go_ret2
      exact ⟨by rw [← HY.out]; rfl, HB2.out⟩

theorem refIsPath (c s : ByteArray) (w : World) (hm : c.size ≤ maxLen) (hs : s.size ≤ 1000000) :
    Calls Try.prog 40 #[.string c, .string s] w fun e w' => e = .returned (.tuple #[.bool (conductsOf c.data.toList s.data.toList).1, .int .i64 (conductsOf c.data.toList s.data.toList).2]) ∧ Below w.heap.size w w' := by
  have HC := Lib.hid (refConducts c s w hm hs)
  generalize conductsOf c.data.toList s.data.toList = y at *
  obtain ⟨y1, y2⟩ := y
  go_enter Try.func40, Try.ntmps40
  go_wp2_with fail
  refine HC.out.mono ?_
  rintro e w1 ⟨rfl, hb⟩
  go_wp2_with fail
  go_ret2
  exact ⟨rfl, hb⟩

set_option maxHeartbeats 2000000 in
set_option maxRecDepth 100000 in
theorem refIsCut (c s : ByteArray) (w : World) (hm : c.size ≤ maxLen) (hs : s.size ≤ 1000000) :
    Calls Try.prog 41 #[.string c, .string s] w fun e w' => e = .returned (.tuple #[.bool (isCutOf c.data.toList s.data.toList).1, .int .i64 (isCutOf c.data.toList s.data.toList).2]) ∧ Below w.heap.size w w' := by
  have HA := Lib.hid (refAsked c s w hm hs)
  have HB := Lib.hid (fun m (h : setOf s.data.toList = some m) W => refBits s m W hs h)
  have hq := setOf_lt s.data.toList
  unfold PostAsk at HA
  unfold isCutOf
  generalize circ c.data.toList = o at *
  generalize setOf s.data.toList = q at *
  go_enter Try.func41, Try.ntmps41
  go_wp2_with fail
  refine HA.out.mono ?_
  rintro e w1 ⟨t, rfl, hb, ht⟩
  obtain ⟨hb2, hT2⟩ := keepTab (t := t) hb
  have HS := Lib.hid (alloc_zeros w1)
  have HB2 := Lib.hid hb2
  have HT2 := Lib.hid hT2
  have HT := Lib.hid ht
  clear hb hb2 hT2 ht HA
  cases o with
  | none =>
    unfold askCode
    go_wp2_with (refine wpList_store_row rfl 50 _ _ rfl w1.heap.size (tabArr t) rfl rfl 50 _ HS.out (by rw [tabArr_size]; exact info50) (by rw [tabArr_size, tabArr_size]) (tabArr_one _) ?_)
    go_ret2
    exact ⟨rfl, HB2.out⟩
  | some x =>
    cases q with
    | none =>
      unfold askCode
      go_wp2_with (refine wpList_store_row rfl 50 _ _ rfl w1.heap.size (tabArr t) rfl rfl 50 _ HS.out (by rw [tabArr_size]; exact info50) (by rw [tabArr_size, tabArr_size]) (tabArr_one _) ?_)
      go_ret2
      exact ⟨rfl, HB2.out⟩
    | some n =>
      unfold askCode
      have hn := hq n rfl
      have hv := HT.out x rfl (255 - n) (by omega)
      have hcell := tabCell HT2.out (255 - n) (by omega)
      rw [hv] at hcell
      have hsub : (255 - (n : Int)) = ((255 - n : Nat) : Int) := by omega
      generalize hy : evC x (255 - n) = y at hcell
      have HY := Lib.hid hy
      have HBN := Lib.hid (HB.out n rfl)
      clear hy hv hq HT HB
      go_wp2_with (first | (refine wpList_store_row rfl 50 _ _ rfl w1.heap.size (tabArr t) rfl rfl 50 _ HS.out (by rw [tabArr_size]; exact info50) (by rw [tabArr_size, tabArr_size]) (tabArr_one _) ?_) | (go_at_call 79; refine (HBN.out _).mono ?_; rintro e w' ⟨rfl, rfl⟩))
      go_ret2
      exact ⟨by rw [← HY.out]; rfl, HB2.out⟩
end Go.Proofs.Ytfoeamgjjhfkdaa
