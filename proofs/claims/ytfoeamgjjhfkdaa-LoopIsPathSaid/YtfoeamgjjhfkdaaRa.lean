/- The reference's reader: its block, next, part. -/
import Derived.Test.YtfoeamgjjhfkdaaTx
import Derived.Laws.Tables
namespace Go.Proofs.Ytfoeamgjjhfkdaa
open Go Go.Shelf Go.RowKit Go.Proofs L9

def RR (b : Nat) (s : ByteArray) (at_ : Nat) (bad : Bool) (w : World) : Prop := w.heap[b]? = some (.cells #[.string s, .int .i64 (at_ : Nat), .bool bad] 84 (0, 0))
section
variable {b : Nat} {s : ByteArray} {p : Nat} {bad : Bool} {w : World}
theorem RR.lt (h : RR b s p bad w) : b < w.heap.size := by
  unfold RR at h
  rcases Nat.lt_or_ge b w.heap.size with h' | h'
  · exact h'
  · simp [Array.getElem?_eq_none h'] at h
theorem RR.c0 (h : RR b s p bad w) : w.cell? ⟨b, 0, none⟩ = some (.string s) := by rw [Lib.cell_of_heap h]; rfl
theorem RR.c1 (h : RR b s p bad w) : w.cell? ⟨b, 1, none⟩ = some (.int .i64 (p : Nat)) := by rw [Lib.cell_of_heap h]; rfl
theorem RR.c2 (h : RR b s p bad w) : w.cell? ⟨b, 2, none⟩ = some (.bool bad) := by rw [Lib.cell_of_heap h]; rfl
theorem RR.f (h : RR b s p bad w) (j : Nat) : w.frozen? ⟨b, j, none⟩ = false := Lib.frozen_of_heap h j
theorem RR.set1 (h : RR b s p bad w) (q : Nat) : RR b s q bad (w.setCell ⟨b, 1, none⟩ (.int .i64 (q : Nat))) := by
  unfold RR at *
  simp [World.setCell, Array.getElem?_modify, h]
theorem RR.set2 (h : RR b s p bad w) (x : Bool) : RR b s p x (w.setCell ⟨b, 2, none⟩ (.bool x)) := by
  unfold RR at *
  simp [World.setCell, Array.getElem?_modify, h]
theorem RR.keep {w' : World} (h : RR b s p bad w) (hb : Below w.heap.size w w') : RR b s p bad w' := by
  unfold RR at *
  rw [hb.block b (RR.lt h)]; exact h
theorem RR.same {w' : World} (h : RR b s p bad w) (hb : w'.heap[b]? = w.heap[b]?) : RR b s p bad w' := by
  unfold RR at *
  rw [hb]; exact h
end

theorem refNext (b : Nat) (s : ByteArray) (p : Nat) (bad : Bool) (w : World) (h : RR b s p bad w) :
    Calls Try.prog 110 #[.pointer (some ⟨b, 0, none⟩)] w fun e w' => e = .returned (.int .u8 (hdv (s.data.toList.drop p) : Nat)) ∧ ∃ n, w' = w.drewN n := by
  have h0 := h.c0
  have h1 := h.c1
  by_cases hlt : p < s.size
  · have hd : s.data.toList.drop p = s[p]'hlt :: s.data.toList.drop (p + 1) := by
      rw [List.drop_eq_getElem_cons (by have := size_list s; omega)]; rfl
    have hv : hdv (s.data.toList.drop p) = (s[p]'hlt).toNat := by rw [hd]; rfl
    have HV := Lib.hid hv
    clear hv hd h
    go_enter Try.func110, Try.ntmps110
    go_wp2_with fail
    go_quiet (fail)
    go_wp2_with fail
    go_quiet (fail)
    go_wp2_with fail
    go_ret
    exact ⟨by rw [HV.out]; rfl, _, by rw [World.drewN_drewN]⟩
  · have hv : hdv (s.data.toList.drop p) = 0 := by rw [List.drop_of_length_le (by have := size_list s; omega)]; rfl
    have HV := Lib.hid hv
    clear hv h
    go_enter Try.func110, Try.ntmps110
    go_wp2_with fail
    go_quiet (fail)
    go_wp2_with fail
    go_ret
    exact ⟨by rw [HV.out]; rfl, _, rfl⟩

/-- a table being filled: up to k by f, from k on by g -/
def TabTo (B : Nat) (f g : Nat → Bool) (k : Nat) (w : World) : Prop :=
  ∃ A : Array Value, w.heap[B]? = some (.cells A 50 (0, 0)) ∧ A.size = 256 ∧ ∀ i, i < 256 → A[i]? = some (.bool (if i < k then f i else g i))
theorem TabTo.cell {B : Nat} {f g : Nat → Bool} {k : Nat} {w : World} (h : TabTo B f g k w) (i : Nat) (hi : i < 256) : w.cell? ⟨B, i, none⟩ = some (.bool (if i < k then f i else g i)) := by
  obtain ⟨A, h1, _, h3⟩ := h
  rw [Lib.cell_of_heap h1]; exact h3 i hi
theorem TabTo.frozen {B : Nat} {f g : Nat → Bool} {k : Nat} {w : World} (h : TabTo B f g k w) (i : Nat) : w.frozen? ⟨B, i, none⟩ = false := by
  obtain ⟨A, h1, _, _⟩ := h
  exact Lib.frozen_of_heap h1 i
theorem TabTo.step {B : Nat} {f g : Nat → Bool} {k : Nat} {w : World} (h : TabTo B f g k w) (hk : k < 256) : TabTo B f g (k + 1) (w.setCell ⟨B, k, none⟩ (.bool (f k))) := by
  obtain ⟨A, h1, h2, h3⟩ := h
  refine ⟨A.setIfInBounds k (.bool (f k)), ?_, by simpa using h2, fun i hi => ?_⟩
  · simp [World.setCell, Array.getElem?_modify, h1]
  · rw [Array.getElem?_setIfInBounds]
    by_cases hik : k = i
    · subst hik; rw [if_pos rfl, if_pos (by omega), if_pos (by omega)]
    · rw [if_neg hik, h3 i hi]
      by_cases h : i < k
      · rw [if_pos h, if_pos (by omega)]
      · rw [if_neg h, if_neg (by omega)]
theorem TabTo.same {B : Nat} {f g : Nat → Bool} {k : Nat} {w w' : World} (h : TabTo B f g k w) (hb : w'.heap[B]? = w.heap[B]?) : TabTo B f g k w' := by
  obtain ⟨A, h1, h2⟩ := h
  exact ⟨A, by rw [hb]; exact h1, h2⟩
theorem TabTo.keep {B : Nat} {f g : Nat → Bool} {k : Nat} {w w' : World} (h : TabTo B f g k w) (hb : Below w.heap.size w w') : TabTo B f g k w' := by
  refine h.same (hb.block B ?_)
  obtain ⟨A, h1, _⟩ := h
  rcases Nat.lt_or_ge B w.heap.size with h' | h'
  · exact h'
  · simp [Array.getElem?_eq_none h'] at h1
theorem TabTo.lt {B : Nat} {f g : Nat → Bool} {k : Nat} {w : World} (h : TabTo B f g k w) : B < w.heap.size := by
  obtain ⟨A, h1, _⟩ := h
  rcases Nat.lt_or_ge B w.heap.size with h' | h'
  · exact h'
  · simp [Array.getElem?_eq_none h'] at h1
theorem TabTo.next {B : Nat} {f g f' : Nat → Bool} {w : World} (h : TabTo B f g 256 w) : TabTo B f' f 0 w := by
  obtain ⟨A, h1, h2, h3⟩ := h
  exact ⟨A, h1, h2, fun i hi => by rw [h3 i hi, if_pos hi, if_neg (by omega)]⟩
theorem tabArr_size (t : Nat → Bool) : (tabArr t).size = 256 := by simp [tabArr]
theorem TabTo.full {B : Nat} {f g : Nat → Bool} {w : World} (h : TabTo B f g 256 w) : w.heap[B]? = some (.cells (tabArr f) 50 (0, 0)) := by
  obtain ⟨A, h1, h2, h3⟩ := h
  have : A = tabArr f := by
    apply Array.ext_getElem?
    intro i
    by_cases hi : i < 256
    · rw [h3 i hi, if_pos hi, tab_get f i hi]
    · rw [Array.getElem?_eq_none (by omega), Array.getElem?_eq_none (by rw [tabArr_size]; omega)]
  rw [← this]; exact h1
theorem TabTo.of_full {B : Nat} {f g : Nat → Bool} {w : World} (h : w.heap[B]? = some (.cells (tabArr f) 50 (0, 0))) : TabTo B g f 0 w :=
  ⟨_, h, tabArr_size f, fun i hi => by rw [tab_get f i hi, if_neg (by omega)]⟩
theorem tabArr_congr {f g : Nat → Bool} (h : ∀ i, i < 256 → f i = g i) : tabArr f = tabArr g := by
  unfold tabArr
  congr 1
  apply List.map_congr_left
  intro i hi
  rw [h i (List.mem_range.1 hi)]
theorem tabArr_one (f : Nat → Bool) : (tabArr f).all (·.oneCell') = true := by
  rw [Array.all_eq_true_iff_forall_mem]
  intro v hv
  unfold tabArr at hv
  simp at hv
  obtain ⟨i, _, rfl⟩ := hv
  rfl
theorem zeros50 : Try.zeroCells50 = tabArr fun _ => false := by kernel_rfl
theorem info50 : (Try.prog.info? 50).map (·.size) = some 256 := by kernel_rfl
end Go.Proofs.Ytfoeamgjjhfkdaa
