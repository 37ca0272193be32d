/- A circuit's table. -/
import Derived.Test.YtfoeamgjjhfkdaaTn
import Derived.StillTailTactics
import Derived.Deep.QuietTactic
import Derived.BigQuiet
import Derived.RegionTactic
namespace Go.Proofs.Ytfoeamgjjhfkdaa
open Go.Shelf Go.RowKit Go.Proofs L9

set_option maxHeartbeats 1000000 in
set_option maxRecDepth 100000 in
theorem table_any (lo hi : Nat) (w : World) (v : Value) (c : List (List Part)) (hv : IsC lo hi w v c) :
    Calls Try.prog 85 #[v] w fun e w' => ∃ p, e = .returned p ∧ TableAt w' p (evC c) ∧ Below w.heap.size w w' := by
  have HV := Lib.hid hv
  clear hv
  go_enter Try.func85, Try.ntmps85
  go_wp2_with fail
  have hz : Try.zeroCells67.size = 256 := by kernel_rfl
  go_loopw [4, 7] (fun _ i wr => ∃ (k : Nat) (A : Array Value), k ≤ 256 ∧ i = .int .i64 k ∧ wr.heap[w.heap.size]? = some (.cells A 67 (0, 0)) ∧ A.size = 256 ∧ (∀ i, i < k → A[i]? = some (.bool (evC c i))) ∧ Below w.heap.size w wr) (fun _ i _ => 256 - (intOf i).toNat)
  case atStart => exact ⟨0, Try.zeroCells67, by omega, rfl, (by show (w.heap.push _)[w.heap.size]? = _; simp), hz, fun i hi => by omega, (Below.refl _ _).alloc (Nat.le_refl _) _⟩
  case round =>
    obtain ⟨k, A, hk, rfl, hA, hAs, hAk, hb⟩ := hrel
    by_cases hlt : k < 256
    · have hC := HV.out.keep (KeptIn.of_below hb HV.out.1)
      have hcall := Lib.hid ((hC.2 wr (KeptIn.refl _ _ _)).1 k hlt)
      have hcall2 := Lib.hid ((hC.2 wr.drew ⟨Nat.le_refl _, fun _ _ _ => rfl⟩).1 k hlt)
      clear hC
      have hcell : wr.cell? ⟨w.heap.size, k, none⟩ = some (A[k]'(by omega)) := by rw [Lib.cell_of_heap hA, Array.getElem?_eq_getElem (by omega)]
      have hfz := Lib.frozen_of_heap hA k
      generalize A[k]'(by omega) = old at hcell
      have HA := Lib.hid hA
      have HAK := Lib.hid hAk
      clear hA hAk
      go_wp2_with fail
      go_still_tail 7, (by kernel_rfl)
      still_call (hcall2.out)
      repeat still_step
      refine wpStill_nil ?_
      change wpList _ _ _ _ _ wr.drew
      go_wp2_with fail
      go_roundw
      case rel =>
        refine ⟨k + 1, A.setIfInBounds k (.bool (evC c k)), by omega, by go_num, ?_, by simpa using hAs, ?_, (hb.setCell (p := ⟨w.heap.size, k, none⟩) (Nat.le_refl _) _).drew⟩
        · show (wr.setCell ⟨w.heap.size, k, none⟩ (.bool (evC c k))).heap[w.heap.size]? = _
          simp [World.setCell, Array.getElem?_modify, HA.out]
        · intro i hi
          rw [Array.getElem?_setIfInBounds]
          by_cases hik : k = i
          · subst hik; rw [if_pos rfl, if_pos (by omega)]
          · rw [if_neg hik]; exact HAK.out i (by omega)
      case measure => simp [intOf]; omega
    · obtain rfl : k = 256 := by omega
      have HT : Hid (TableAt wr (.pointer (some ⟨w.heap.size, 0, none⟩)) (evC c)) := by
        refine ⟨_, rfl, ?_, fun i hi => by rw [Lib.cell_of_heap hA]; exact hAk i hi⟩
        rcases Nat.lt_or_ge w.heap.size wr.heap.size with h' | h'
        · exact h'
        · rw [Array.getElem?_eq_none h'] at hA; cases hA
      clear hA hAk
      go_wp2
      go_ret
      exact ⟨_, rfl, HT.out, hb⟩

/-- open, at every text -/
theorem open_any (s : ByteArray) (w : World) (hm : s.size ≤ maxLen) :
    Calls Try.prog 57 #[.string s] w fun e w' => Below w.heap.size w w' ∧ ((∃ c p, circ s.data.toList = some c ∧ e = .returned (.tuple #[p, .int .i64 0]) ∧ TableAt w' p (evC c)) ∨ (circ s.data.toList = none ∧ e = .returned (.tuple #[.pointer none, .int .i64 90]))) := by
  have HP := Lib.hid (parse_any s w hm)
  generalize circ s.data.toList = o at *
  go_enter Try.func57, Try.ntmps57
  go_wp2_with fail
  refine HP.out.mono ?_
  rintro e w1 ⟨hb, ⟨c, v, ho, rfl, hC⟩ | ⟨rfl, rfl⟩⟩
  · have HT := Lib.hid (table_any _ _ w1 v c hC)
    have HO := Lib.hid ho
    have hsz := hb.size
    clear ho hC
    go_wp2_with (go_at_call 85; refine HT.out.mono ?_; rintro e w2 ⟨p, rfl, ht, hb2⟩)
    go_ret2
    exact ⟨hb.trans (hb2.mono hsz), Or.inl ⟨c, p, HO.out, rfl, ht⟩⟩
  · go_wp2_with fail
    go_ret2
    exact ⟨hb, rfl⟩
end Go.Proofs.Ytfoeamgjjhfkdaa
