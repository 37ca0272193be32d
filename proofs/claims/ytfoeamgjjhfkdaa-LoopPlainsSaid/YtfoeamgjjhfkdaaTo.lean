/- parse, open, table. A circuit's table. -/
import Derived.Test.YtfoeamgjjhfkdaaTm
import Derived.StillTailTactics
import Derived.Deep.QuietTactic
import Derived.BigQuiet
import Derived.RegionTactic
namespace Go.Proofs.Ytfoeamgjjhfkdaa
open Go.Shelf Go.RowKit Go.Proofs L9

/-- the circuit of a text, of at most 40 bytes -/
def circ (s : List UInt8) : Option (List (List Part)) := if s.length ≤ 40 then parse s else none
theorem box_eta (s : ByteArray) : (⟨s.data.toList.toArray⟩ : ByteArray) = s := by simp

theorem parse_long (s : ByteArray) (w : World) (h : 40 < s.size) (hm : s.size ≤ maxLen) :
    Calls Try.prog 68 #[.string s] w fun e w' => e = .returned (.tuple #[.slice none 0 0, .int .i64 90]) ∧ w = w' := by
  unfold maxLen at hm
  go_enter Try.func68, Try.ntmps68
  go_wp2
  go_ret2
  exact ⟨rfl, rfl⟩

theorem size_list (s : ByteArray) : s.data.toList.length = s.size := by simp

set_option maxHeartbeats 1000000 in
theorem parse_short (s : ByteArray) (w : World) (h : s.size ≤ 40) :
    Calls Try.prog 68 #[.string s] w fun e w' => Below w.heap.size w w' ∧ ((∃ c v, parse s.data.toList = some c ∧ e = .returned (.tuple #[v, .int .i64 0]) ∧ IsC w.heap.size w'.heap.size w' v c) ∨ (parse s.data.toList = none ∧ e = .returned (.tuple #[.slice none 0 0, .int .i64 90]))) := by
  have hl := size_list s
  have hRB : RB w.heap.size s.data.toList false (w.alloc (.cells #[.string s, .bool false] 88)) := by
    unfold RB
    rw [box_eta]
    show (w.heap.push _)[w.heap.size]? = _
    simp
  have HC := Lib.hid (circuit_all (3 * s.data.toList.length + 3) s.data.toList w.heap.size _ hRB (Nat.le_refl _) (by omega))
  have hal : Below w.heap.size w (w.alloc (.cells #[.string s, .bool false] 88)) := (Below.refl _ _).alloc (Nat.le_refl _) _
  clear hRB
  go_enter Try.func68, Try.ntmps68
  go_wp2_with fail
  refine HC.out.mono ?_
  rintro e w1 ⟨_, s1, bad1, rfl, ⟨va, vn, vc, rfl⟩, hRw, hRB, hsl, hpost⟩
  have hbel : Below w.heap.size w w1 := hal.trans ⟨hRw.os, hRw.tape, hRw.output, hRw.size, fun k hk => hRw.block k (by have := hal.size; omega) (by simp; omega)⟩
  have hc0 := hRB.c0
  have hc1 := hRB.c1
  rcases hpost with ⟨rfl, c, r, hpc, hst, rfl, hC⟩ | ⟨rfl, hng⟩
  · cases s1 with
    | nil =>
      have hp : parse s.data.toList = some c := by unfold parse; rw [hpc]; rfl
      have HP := Lib.hid hp
      have HC2 := Lib.hid hC
      clear hp hC hpc hRB hRw
      go_wp2_with fail
      go_ret2
      exact ⟨hbel, Or.inl ⟨c, _, HP.out, rfl, ⟨Nat.le_refl _, fun w' hk => HC2.out.2 w' (hk.sub (by simp) (Nat.le_refl _))⟩⟩⟩
    | cons x r =>
      have hp : parse s.data.toList = none := by unfold parse; rw [hpc]; rfl
      have h1 : (ByteArray.mk (x :: r).toArray).toList.isEmpty = false := by simp [ByteArray.toList_eq]
      have HP := Lib.hid hp
      clear hp hC hpc hRB hRw
      go_wp2_with fail
      go_ret2
      exact ⟨hbel, Or.inr ⟨HP.out, rfl⟩⟩
  · have hp : parse s.data.toList = none := by
      unfold parse
      cases hpc : pC (3 * s.data.toList.length + 3) s.data.toList with
      | none => rfl
      | some y =>
        obtain ⟨c, r⟩ := y
        cases r with
        | nil => exact absurd ⟨c, [], hpc, rfl⟩ hng
        | cons x r => rfl
    have HP := Lib.hid hp
    clear hp hng hRB hRw
    go_wp2_with fail
    go_ret2
    exact ⟨hbel, Or.inr ⟨HP.out, rfl⟩⟩

/-- parse, at every text -/
theorem parse_any (s : ByteArray) (w : World) (hm : s.size ≤ maxLen) :
    Calls Try.prog 68 #[.string s] w fun e w' => Below w.heap.size w w' ∧ ((∃ c v, circ s.data.toList = some c ∧ e = .returned (.tuple #[v, .int .i64 0]) ∧ IsC w.heap.size w'.heap.size w' v c) ∨ (circ s.data.toList = none ∧ e = .returned (.tuple #[.slice none 0 0, .int .i64 90]))) := by
  have hl := size_list s
  by_cases h : s.size ≤ 40
  · have e : circ s.data.toList = parse s.data.toList := by unfold circ; rw [if_pos (by omega)]
    rw [e]
    exact parse_short s w h
  · have e : circ s.data.toList = none := by unfold circ; rw [if_neg (by omega)]
    rw [e]
    refine (parse_long s w (by omega) hm).mono ?_
    rintro e w' ⟨he, rfl⟩
    exact ⟨Below.refl _ _, Or.inr ⟨rfl, he⟩⟩

theorem valid_any (s : ByteArray) (w : World) (hm : s.size ≤ maxLen) :
    Calls Try.prog 49 #[.string s] w fun e w' => e = .returned (.bool (circ s.data.toList).isSome) ∧ Below w.heap.size w w' := by
  have HP := Lib.hid (parse_any s w hm)
  generalize circ s.data.toList = o at *
  go_enter Try.func49, Try.ntmps49
  go_wp2_with fail
  refine HP.out.mono ?_
  rintro e w1 ⟨hb, ⟨c, v, rfl, rfl, _⟩ | ⟨rfl, rfl⟩⟩
  · go_wp2_with fail
    go_ret
    exact ⟨rfl, hb⟩
  · go_wp2_with fail
    go_ret
    exact ⟨rfl, hb⟩
end Go.Proofs.Ytfoeamgjjhfkdaa

namespace Go.Proofs.Ytfoeamgjjhfkdaa
open Go.Shelf Go.RowKit Go.Proofs L9

set_option maxHeartbeats 1000000 in
set_option maxRecDepth 100000 in
theorem table_any (lo hi : Nat) (w : World) (v : Value) (c : List (List Part)) (hv : IsC lo hi w v c) :
    Calls Try.prog 85 #[v] w fun e w' => ∃ p, e = .returned p ∧ TableAt w' p (evC c) ∧ Below w.heap.size w w' := by
  have HV := Lib.hid hv
  clear hv
  go_enter Try.func85, Try.ntmps85
  go_wp2_with fail
  have hz : Try.zeroCells67.size = 256 := by kernel_rfl
  go_loopw [4, 7] (fun _ i wr => ∃ (k : Nat) (A : Array Value), k ≤ 256 ∧ i = .int .i64 k ∧ wr.heap[w.heap.size]? = some (.cells A 67 (0, 0)) ∧ A.size = 256 ∧ (∀ i, i < k → A[i]? = some (.bool (evC c i))) ∧ Below w.heap.size w wr) (fun _ i _ => 256 - (intOf i).toNat)
  case atStart => exact ⟨0, Try.zeroCells67, by omega, rfl, (by show (w.heap.push _)[w.heap.size]? = _; simp), hz, fun i hi => by omega, (Below.refl _ _).alloc (Nat.le_refl _) _⟩
  case round =>
    obtain ⟨k, A, hk, rfl, hA, hAs, hAk, hb⟩ := hrel
    by_cases hlt : k < 256
    · have hC := HV.out.keep (KeptIn.of_below hb HV.out.1)
      have hcall := Lib.hid ((hC.2 wr (KeptIn.refl _ _ _)).1 k hlt)
      have hcall2 := Lib.hid ((hC.2 wr.drew ⟨Nat.le_refl _, fun _ _ _ => rfl⟩).1 k hlt)
      clear hC
      have hcell : wr.cell? ⟨w.heap.size, k, none⟩ = some (A[k]'(by omega)) := by rw [Lib.cell_of_heap hA, Array.getElem?_eq_getElem (by omega)]
      have hfz := Lib.frozen_of_heap hA k
      generalize A[k]'(by omega) = old at hcell
      have HA := Lib.hid hA
      have HAK := Lib.hid hAk
      clear hA hAk
      go_wp2_with fail
      go_still_tail 7, (by kernel_rfl)
      still_call (hcall2.out)
      repeat still_step
      refine wpStill_nil ?_
      change wpList _ _ _ _ _ wr.drew
      go_wp2_with fail
      go_roundw
      case rel =>
        refine ⟨k + 1, A.setIfInBounds k (.bool (evC c k)), by omega, by go_num, ?_, by simpa using hAs, ?_, (hb.setCell (p := ⟨w.heap.size, k, none⟩) (Nat.le_refl _) _).drew⟩
        · show (wr.setCell ⟨w.heap.size, k, none⟩ (.bool (evC c k))).heap[w.heap.size]? = _
          simp [World.setCell, Array.getElem?_modify, HA.out]
        · intro i hi
          rw [Array.getElem?_setIfInBounds]
          by_cases hik : k = i
          · subst hik; rw [if_pos rfl, if_pos (by omega)]
          · rw [if_neg hik]; exact HAK.out i (by omega)
      case measure => simp [intOf]; omega
    · obtain rfl : k = 256 := by omega
      have HT : Hid (TableAt wr (.pointer (some ⟨w.heap.size, 0, none⟩)) (evC c)) := by
        refine ⟨_, rfl, ?_, fun i hi => by rw [Lib.cell_of_heap hA]; exact hAk i hi⟩
        rcases Nat.lt_or_ge w.heap.size wr.heap.size with h' | h'
        · exact h'
        · rw [Array.getElem?_eq_none h'] at hA; cases hA
      clear hA hAk
      go_wp2
      go_ret
      exact ⟨_, rfl, HT.out, hb⟩

/-- open, at every text -/
theorem open_any (s : ByteArray) (w : World) (hm : s.size ≤ maxLen) :
    Calls Try.prog 57 #[.string s] w fun e w' => Below w.heap.size w w' ∧ ((∃ c p, circ s.data.toList = some c ∧ e = .returned (.tuple #[p, .int .i64 0]) ∧ TableAt w' p (evC c)) ∨ (circ s.data.toList = none ∧ e = .returned (.tuple #[.pointer none, .int .i64 90]))) := by
  have HP := Lib.hid (parse_any s w hm)
  generalize circ s.data.toList = o at *
  go_enter Try.func57, Try.ntmps57
  go_wp2_with fail
  refine HP.out.mono ?_
  rintro e w1 ⟨hb, ⟨c, v, ho, rfl, hC⟩ | ⟨rfl, rfl⟩⟩
  · have HT := Lib.hid (table_any _ _ w1 v c hC)
    have HO := Lib.hid ho
    have hsz := hb.size
    clear ho hC
    go_wp2_with (go_at_call 85; refine HT.out.mono ?_; rintro e w2 ⟨p, rfl, ht, hb2⟩)
    go_ret2
    exact ⟨hb.trans (hb2.mono hsz), Or.inl ⟨c, p, HO.out, rfl, ht⟩⟩
  · go_wp2_with fail
    go_ret2
    exact ⟨hb, rfl⟩
end Go.Proofs.Ytfoeamgjjhfkdaa
