/- Dual. -/
import Derived.Test.YtfoeamgjjhfkdaaTw
namespace Go.Proofs.Ytfoeamgjjhfkdaa
open Go Go.Shelf Go.RowKit Go.Proofs L9

/-- Dual's answers -/
def dualOf (s : List UInt8) : List UInt8 × Int := match circ s with
  | none => ([], 90)
  | some c => if 40 < (dtC c).length then ([], 4) else (dtC c, 0)
theorem circ_ok {s : List UInt8} {c : List (List Part)} (h : circ s = some c) : s = txtC c ∧ c ≠ [] ∧ okC c ∧ s.length ≤ 40 := by
  unfold circ at h
  split at h
  · rename_i hl
    unfold parse at h
    cases hp : pC (3 * s.length + 3) s with
    | none => rw [hp] at h; cases h
    | some y =>
      obtain ⟨c', r⟩ := y
      rw [hp] at h
      cases r with
      | nil =>
        simp at h
        subst h
        obtain ⟨e, h1, h2⟩ := (reads _).2.2 _ _ _ hp
        exact ⟨by simpa using e, h1, h2, hl⟩
      | cons x r => simp at h
  · cases h
theorem dual_len {s : List UInt8} {c : List (List Part)} (h : circ s = some c) : (dtC c).length ≤ 161 := by
  obtain ⟨e, h1, h2, h3⟩ := circ_ok h
  have := dtC_len c h1 h2
  rw [e] at h3
  omega

theorem dual_any (s : ByteArray) (w : World) (hm : s.size ≤ maxLen) :
    Calls Try.prog 28 #[.string s] w fun e w' => e = .returned (.tuple #[.string ⟨(dualOf s.data.toList).1.toArray⟩, .int .i64 (dualOf s.data.toList).2]) ∧ Below w.heap.size w w' := by
  have HP := Lib.hid (parse_any s w hm)
  have hf : ∀ o, circ s.data.toList = o → dualOf s.data.toList = match (motive := Option (List (List Part)) → List UInt8 × Int) o with | none => ([], 90) | some c => if 40 < (dtC c).length then ([], 4) else (dtC c, 0) := fun o h => by unfold dualOf; rw [h]
  have hdl := fun c => @dual_len s.data.toList c
  have HF := Lib.hid hf
  have HD := Lib.hid hdl
  clear hf hdl
  generalize dualOf s.data.toList = z at *
  go_enter Try.func28, Try.ntmps28
  go_wp2_with fail
  refine HP.out.mono ?_
  rintro e w1 ⟨hb, ⟨c, v, ho, rfl, hC⟩ | ⟨ho, rfl⟩⟩
  · have HL := Lib.hid (hC.2 w1 (KeptIn.refl _ _ _)).2
    have hf := HF.out _ ho
    have hd := HD.out _ ho
    dsimp only at hf
    have hsz := hb.size
    clear ho hC HF HD
    generalize dtC c = t at *
    have ht := bsize t
    by_cases h40 : 40 < t.length
    · rw [if_pos h40] at hf
      have HF := Lib.hid hf
      clear hf
      go_wp2_with fail
      refine HL.out.mono ?_
      rintro e w2 ⟨rfl, hb2⟩
      go_wp2_with fail
      go_ret2
      rw [HF.out]
      exact ⟨rfl, hb.trans (hb2.mono hsz)⟩
    · rw [if_neg h40] at hf
      have HF := Lib.hid hf
      clear hf
      go_wp2_with fail
      refine HL.out.mono ?_
      rintro e w2 ⟨rfl, hb2⟩
      go_wp2_with fail
      go_ret2
      rw [HF.out]
      exact ⟨rfl, hb.trans (hb2.mono hsz)⟩
  · have hf := Lib.hid (HF.out _ ho)
    clear ho
    go_wp2_with fail
    go_ret2
    rw [hf.out]
    exact ⟨rfl, hb⟩
end Go.Proofs.Ytfoeamgjjhfkdaa
