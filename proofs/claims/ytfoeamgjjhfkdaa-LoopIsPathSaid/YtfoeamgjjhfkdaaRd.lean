/- The reference's branch: what it needs. -/
import Derived.Test.YtfoeamgjjhfkdaaRc
namespace Go.Proofs.Ytfoeamgjjhfkdaa
open Go Go.Shelf Go.RowKit Go.Proofs L9

def contR (j : Nat) (ps : List Part) (r : List UInt8) : Option (List Part × List UInt8) :=
  if starts r then (pB j r).map (fun y => (ps ++ y.1, y.2)) else if ps.isEmpty then none else some (ps, r)
theorem contR_nil (n : Nat) (r : List UInt8) : pB n r = contR n [] r := by
  unfold contR
  split
  · cases pB n r <;> simp
  · rename_i h
    simp only [List.isEmpty_nil, if_true]
    cases n with
    | zero => rw [pB]
    | succ n =>
      rw [pB_succ]
      have : pP n r = none := by
        cases n with
        | zero => rw [pP]
        | succ n =>
          cases r with
          | nil => rw [pP_nil]
          | cons b r =>
            rw [pP_cons]
            simp only [starts, Bool.or_eq_true, beq_iff_eq, not_or] at h
            rw [if_neg h.2, if_neg h.1]
      rw [this]
theorem contR_cont {j : Nat} {ps : List Part} {r : List UInt8} (h : ps ≠ []) : contR j ps r = contB j ps r := by
  unfold contR contB
  split
  · rfl
  · rw [if_neg (by cases ps with | nil => exact absurd rfl h | cons _ _ => simp)]
theorem contR_step (j : Nat) (ps : List Part) (r : List UInt8) (h : starts r = true) : contR (j + 1) ps r = match pP j r with
    | none => none
    | some (p, r') => contR j (ps ++ [p]) r' := by
  have : contR (j + 1) ps r = contB (j + 1) ps r := by unfold contR contB; rw [if_pos h, if_pos h]
  rw [this, contB_step _ _ _ h]
  cases pP j r with
  | none => rfl
  | some y =>
    obtain ⟨p, r'⟩ := y
    simp only
    rw [contR_cont (by simp)]
theorem contR_stop {j : Nat} {ps : List Part} {r : List UInt8} (h : starts r = false) : contR j ps r = if ps.isEmpty then none else some (ps, r) := by
  unfold contR; rw [if_neg (by rw [h]; simp)]
theorem evB_snoc (ps : List Part) (p : Part) (i : Nat) : evB (ps ++ [p]) i = (evB ps i && p.ev i) := by
  induction ps with
  | nil => simp [evB]
  | cons q ps ih => simp only [List.cons_append, evB, ih, Bool.and_assoc]
theorem evB_nil (i : Nat) : evB [] i = true := by simp [evB]
theorem starts_iff (r : List UInt8) : starts r = true ↔ hdv r = 40 ∨ (97 ≤ hdv r ∧ hdv r ≤ 104) := by
  cases r with
  | nil => simp [starts, hdv]
  | cons x r =>
    simp only [starts, hdv, Bool.or_eq_true, beq_iff_eq, isLet_iff]
    constructor
    · rintro (h | h)
      · exact Or.inl (by rw [h]; rfl)
      · exact Or.inr h
    · rintro (h | h)
      · exact Or.inl ((u8_nat x 40 (by omega)).2 h)
      · exact Or.inr h

/-- the reader's measure -/
def rrM (sz b : Nat) (w : World) : Nat := match w.cell? ⟨b, 2, none⟩ with
  | some (.bool true) => 0
  | _ => match w.cell? ⟨b, 1, none⟩ with
    | some (.int _ a) => 1 + (sz - a.toNat)
    | _ => 0
theorem rrM_of {b : Nat} {s : ByteArray} {p : Nat} {bad : Bool} {w : World} (sz : Nat) (h : RR b s p bad w) : rrM sz b w = if bad then 0 else 1 + (sz - p) := by
  unfold rrM
  rw [h.c2, h.c1]
  cases bad <;> simp

/-- where the reference's branch stands before each part -/
def BRel (n b : Nat) (s : ByteArray) (p : Nat) (bad0 : Bool) (w : World) (i : Value) (wr : World) : Prop :=
  ∃ (k p' : Nat) (bad' : Bool) (t : Nat → Bool), i = .int .i64 k ∧ k ≤ 1000 ∧ RR b s p' bad' wr ∧ Rw b w wr ∧ wr.heap[w.heap.size]? = some (.cells (tabArr fun _ => false) 50 (0, 0)) ∧
    wr.heap[w.heap.size + 1]? = some (.cells (tabArr t) 50 (0, 0)) ∧ p ≤ p' ∧ p' + p ≤ 2 * s.size ∧
    ((bad0 = true ∧ bad' = true ∧ p' = p) ∨ (bad0 = false ∧ bad' = true ∧ pB n (dropS s p) = none) ∨
      (bad0 = false ∧ bad' = false ∧ p' ≤ s.size ∧ ∃ j ps, pB n (dropS s p) = contR j ps (dropS s p') ∧ k = ps.length ∧ ps.length + p ≤ p' ∧ 3 * (s.size - p') + 2 ≤ j ∧ j ≤ n ∧ ∀ i, i < 256 → t i = evB ps i))

/-- what a branch ends with -/
theorem BRel.done_bad {n b : Nat} {s : ByteArray} {p : Nat} {bad0 : Bool} {w : World} {t : Nat → Bool} {p' : Nat} {W : World} (hR : RR b s p' true W) (hw : Rw b w W) (h1 : p ≤ p') (h2 : p' + p ≤ 2 * s.size)
    (h : (bad0 = true ∧ p' = p) ∨ (bad0 = false ∧ pB n (dropS s p) = none)) : PostRB n b s p bad0 w (.returned (.agg (tabArr t))) W := by
  refine ⟨t, p', true, rfl, hw, hR, h1, h2, ?_⟩
  rcases h with ⟨h3, h4⟩ | ⟨h3, h4⟩
  · exact Or.inl ⟨h3, rfl, h4⟩
  · exact Or.inr ⟨h3, by rw [h4]⟩
theorem BRel.done_ok {n b : Nat} {s : ByteArray} {p : Nat} {w : World} {t : Nat → Bool} {p' j : Nat} {ps : List Part} {W : World} (hR : RR b s p' false W) (hw : Rw b w W) (h1 : ps.length + p ≤ p') (h2 : p' ≤ s.size)
    (hne : ps ≠ []) (hst : starts (dropS s p') = false) (heq : pB n (dropS s p) = contR j ps (dropS s p')) (ht : ∀ i, i < 256 → t i = evB ps i) : PostRB n b s p false w (.returned (.agg (tabArr t))) W := by
  have hl : 0 < ps.length := by cases ps with | nil => exact absurd rfl hne | cons _ _ => simp
  refine ⟨t, p', false, rfl, hw, hR, by omega, by omega, Or.inr ⟨rfl, ?_⟩⟩
  rw [heq, contR_stop hst, if_neg (by cases ps with | nil => exact absurd rfl hne | cons _ _ => simp)]
  exact ⟨rfl, rfl, by omega, h2, ht⟩
end Go.Proofs.Ytfoeamgjjhfkdaa
