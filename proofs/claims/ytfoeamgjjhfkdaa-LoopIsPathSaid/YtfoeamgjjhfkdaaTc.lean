/- sorted. -/
import Derived.Test.YtfoeamgjjhfkdaaTb
import Derived.Test.YtfoeamgjjhfkdaaShelf
import Derived.Lib.QuietBelow
import Derived.Shelf.SlSortCmp.NoneTotal
namespace Go.Proofs.Ytfoeamgjjhfkdaa
open Go.Shelf Go.RowKit Go.Proofs L9

def setCmp (a b : Nat) : Int := orI ((pop a : Int) - pop b) (Lib.compareBytes (txt a) (txt b))
theorem pop_le (n : Nat) : pop n ≤ 8 := txtTo_len n 8

theorem cell_keep {w w' : World} (h : Below w.heap.size w w') (b o : Nat) (hb : b < w.heap.size) : w'.cell? ⟨b, o, none⟩ = w.cell? ⟨b, o, none⟩ := h.cell (p := ⟨b, o, none⟩) hb

theorem new_cell (w : World) (cs : Array Value) (t : TypeId) (j : Nat) (v : Value) (h : cs[j]? = some v) : (w.alloc (.cells cs t)).cell? ⟨w.heap.size, j, none⟩ = some v := by
  rw [Lib.cell_of_heap (cs := cs) (T := t) (fr := (0, 0)) (by show (w.heap.push _)[w.heap.size]? = _; simp)]
  exact h
set_option maxHeartbeats 1000000 in
theorem sortedCmp (a b : Nat) (ha : a < 256) (hb : b < 256) (w : World) :
    Calls Try.prog 95 #[.int .i64 a, .int .i64 b] w fun e w' => e = .returned (.int .i64 (setCmp a b)) ∧ Below w.heap.size w w' ∧ w.drawn ≤ w'.drawn := by
  have p1 := pop_le a
  have p2 := pop_le b
  go_enter Try.func95, Try.ntmps95
  go_wp2_with fail
  refine (onesCount a ha _).mono ?_
  rintro e w1 ⟨rfl, rfl⟩
  go_wp2_with fail
  refine (onesCount b hb _).mono ?_
  rintro e w1 ⟨rfl, rfl⟩
  go_wp2_with fail
  refine (textOf_d a ha _).mono ?_
  rintro e w1 ⟨rfl, hb1, hd1⟩
  go_wp2_with fail
  refine (textOf_d b hb _).mono ?_
  rintro e w2 ⟨rfl, hb2, hd2⟩
  go_wp2_with fail
  refine (Try.strings_Compare _ _ _).mono ?_
  rintro e w3 ⟨rfl, rfl⟩
  go_wp2_with fail
  refine (cmpOr2 ⟨_, 0, none⟩ _ _ _ _ (new_cell _ _ _ 0 _ rfl) (new_cell _ _ _ 1 _ rfl)).mono ?_
  rintro e w4 ⟨rfl, rfl⟩
  go_wp2_with fail
  go_ret
  refine ⟨rfl, ?_, ?_⟩
  · exact (hb1.trans (hb2.mono hb1.size)).alloc (by have := hb1.size; have := hb2.size; omega) _
  · simp; omega
end Go.Proofs.Ytfoeamgjjhfkdaa
