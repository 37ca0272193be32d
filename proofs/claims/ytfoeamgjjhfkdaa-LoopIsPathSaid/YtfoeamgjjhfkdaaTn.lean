/- parse, open, table. -/
import Derived.Test.YtfoeamgjjhfkdaaTm
namespace Go.Proofs.Ytfoeamgjjhfkdaa
open Go.Shelf Go.RowKit Go.Proofs L9

/-- the circuit of a text, of at most 40 bytes -/
def circ (s : List UInt8) : Option (List (List Part)) := if s.length ≤ 40 then parse s else none
theorem box_eta (s : ByteArray) : (⟨s.data.toList.toArray⟩ : ByteArray) = s := by simp

theorem parse_long (s : ByteArray) (w : World) (h : 40 < s.size) (hm : s.size ≤ maxLen) :
    Calls Try.prog 68 #[.string s] w fun e w' => e = .returned (.tuple #[.slice none 0 0, .int .i64 90]) ∧ w = w' := by
  unfold maxLen at hm
  go_enter Try.func68, Try.ntmps68
  go_wp2
  go_ret2
  exact ⟨rfl, rfl⟩

theorem size_list (s : ByteArray) : s.data.toList.length = s.size := by simp

set_option maxHeartbeats 1000000 in
theorem parse_short (s : ByteArray) (w : World) (h : s.size ≤ 40) :
    Calls Try.prog 68 #[.string s] w fun e w' => Below w.heap.size w w' ∧ ((∃ c v, parse s.data.toList = some c ∧ e = .returned (.tuple #[v, .int .i64 0]) ∧ IsC w.heap.size w'.heap.size w' v c) ∨ (parse s.data.toList = none ∧ e = .returned (.tuple #[.slice none 0 0, .int .i64 90]))) := by
  have hl := size_list s
  have hRB : RB w.heap.size s.data.toList false (w.alloc (.cells #[.string s, .bool false] 88)) := by
    unfold RB
    rw [box_eta]
    show (w.heap.push _)[w.heap.size]? = _
    simp
  have HC := Lib.hid (circuit_all (3 * s.data.toList.length + 3) s.data.toList w.heap.size _ hRB (Nat.le_refl _) (by omega))
  have hal : Below w.heap.size w (w.alloc (.cells #[.string s, .bool false] 88)) := (Below.refl _ _).alloc (Nat.le_refl _) _
  clear hRB
  go_enter Try.func68, Try.ntmps68
  go_wp2_with fail
  refine HC.out.mono ?_
  rintro e w1 ⟨_, s1, bad1, rfl, ⟨va, vn, vc, rfl⟩, hRw, hRB, hsl, hpost⟩
  have hbel : Below w.heap.size w w1 := hal.trans ⟨hRw.os, hRw.tape, hRw.output, hRw.size, fun k hk => hRw.block k (by have := hal.size; omega) (by simp; omega)⟩
  have hc0 := hRB.c0
  have hc1 := hRB.c1
  rcases hpost with ⟨rfl, c, r, hpc, hst, rfl, hC⟩ | ⟨rfl, hng⟩
  · cases s1 with
    | nil =>
      have hp : parse s.data.toList = some c := by unfold parse; rw [hpc]; rfl
      have HP := Lib.hid hp
      have HC2 := Lib.hid hC
      clear hp hC hpc hRB hRw
      go_wp2_with fail
      go_ret2
      exact ⟨hbel, Or.inl ⟨c, _, HP.out, rfl, ⟨Nat.le_refl _, fun w' hk => HC2.out.2 w' (hk.sub (by simp) (Nat.le_refl _))⟩⟩⟩
    | cons x r =>
      have hp : parse s.data.toList = none := by unfold parse; rw [hpc]; rfl
      have h1 : (ByteArray.mk (x :: r).toArray).toList.isEmpty = false := by simp [ByteArray.toList_eq]
      have HP := Lib.hid hp
      clear hp hC hpc hRB hRw
      go_wp2_with fail
      go_ret2
      exact ⟨hbel, Or.inr ⟨HP.out, rfl⟩⟩
  · have hp : parse s.data.toList = none := by
      unfold parse
      cases hpc : pC (3 * s.data.toList.length + 3) s.data.toList with
      | none => rfl
      | some y =>
        obtain ⟨c, r⟩ := y
        cases r with
        | nil => exact absurd ⟨c, [], hpc, rfl⟩ hng
        | cons x r => rfl
    have HP := Lib.hid hp
    clear hp hng hRB hRw
    go_wp2_with fail
    go_ret2
    exact ⟨hbel, Or.inr ⟨HP.out, rfl⟩⟩

/-- parse, at every text -/
theorem parse_any (s : ByteArray) (w : World) (hm : s.size ≤ maxLen) :
    Calls Try.prog 68 #[.string s] w fun e w' => Below w.heap.size w w' ∧ ((∃ c v, circ s.data.toList = some c ∧ e = .returned (.tuple #[v, .int .i64 0]) ∧ IsC w.heap.size w'.heap.size w' v c) ∨ (circ s.data.toList = none ∧ e = .returned (.tuple #[.slice none 0 0, .int .i64 90]))) := by
  have hl := size_list s
  by_cases h : s.size ≤ 40
  · have e : circ s.data.toList = parse s.data.toList := by unfold circ; rw [if_pos (by omega)]
    rw [e]
    exact parse_short s w h
  · have e : circ s.data.toList = none := by unfold circ; rw [if_neg (by omega)]
    rw [e]
    refine (parse_long s w (by omega) hm).mono ?_
    rintro e w' ⟨he, rfl⟩
    exact ⟨Below.refl _ _, Or.inr ⟨rfl, he⟩⟩

theorem valid_any (s : ByteArray) (w : World) (hm : s.size ≤ maxLen) :
    Calls Try.prog 49 #[.string s] w fun e w' => e = .returned (.bool (circ s.data.toList).isSome) ∧ Below w.heap.size w w' := by
  have HP := Lib.hid (parse_any s w hm)
  generalize circ s.data.toList = o at *
  go_enter Try.func49, Try.ntmps49
  go_wp2_with fail
  refine HP.out.mono ?_
  rintro e w1 ⟨hb, ⟨c, v, rfl, rfl, _⟩ | ⟨rfl, rfl⟩⟩
  · go_wp2_with fail
    go_ret
    exact ⟨rfl, hb⟩
  · go_wp2_with fail
    go_ret
    exact ⟨rfl, hb⟩
end Go.Proofs.Ytfoeamgjjhfkdaa
