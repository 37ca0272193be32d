/- The reference's Dual. -/
import Derived.Test.YtfoeamgjjhfkdaaRv
import Derived.Test.YtfoeamgjjhfkdaaRr
namespace Go.Proofs.Ytfoeamgjjhfkdaa
open Go Go.Shelf Go.RowKit Go.Proofs L9

set_option maxHeartbeats 1000000 in
theorem refDualT (s : ByteArray) (w : World) (hm : s.size ≤ maxLen) :
    Calls Try.prog 36 #[.string s] w fun e w' => e = .returned (.tuple #[.string ⟨(dualOf s.data.toList).1.toArray⟩, .int .i64 (dualOf s.data.toList).2]) ∧ Below w.heap.size w w' := by
  have hv := refValid s w hm
  cases hc : circ s.data.toList with
  | none =>
    have hd : dualOf s.data.toList = ([], 90) := by unfold dualOf; rw [hc]
    rw [hd]
    rw [hc] at hv
    have HV := Lib.hid hv
    clear hv hc hd
    go_enter Try.func36, Try.ntmps36
    go_wp2_with fail
    refine HV.out.mono ?_
    rintro e w1 ⟨rfl, hb⟩
    go_wp2_with fail
    go_ret2
    exact ⟨rfl, hb⟩
  | some c =>
    obtain ⟨ht, h0, hok, hl⟩ := circ_text hc
    have hd : dualOf s.data.toList = if 40 < (dtC c).length then ([], 4) else (dtC c, 0) := by unfold dualOf; rw [hc]
    rw [hd]
    rw [hc] at hv
    have HV := Lib.hid hv
    have HT := Lib.hid (fun W => refTurned (txtC c).length c h0 hok (Nat.le_refl _) (by rw [← ht]; omega) s ht W)
    have hsz := bsize (dtC c)
    have hdl := dtC_len c h0 hok
    have hlc : (txtC c).length ≤ 40 := by rw [← ht]; exact hl
    clear hv hc hd ht h0 hok hl
    generalize dtC c = d at *
    by_cases h40 : 40 < d.length
    · rw [if_pos h40]
      rw [← hsz] at h40 hdl
      clear hsz
      generalize (⟨d.toArray⟩ : ByteArray) = D at *
      go_enter Try.func36, Try.ntmps36
      go_wp2_with fail
      refine HV.out.mono ?_
      rintro e w1 ⟨rfl, hb⟩
      go_wp2_with fail
      refine (HT.out _).mono ?_
      rintro e w2 ⟨rfl, hb2⟩
      go_wp2_with fail
      go_ret2
      exact ⟨rfl, hb.trans (hb2.mono hb.size)⟩
    · rw [if_neg h40]
      rw [← hsz] at h40 hdl
      clear hsz
      generalize (⟨d.toArray⟩ : ByteArray) = D at *
      go_enter Try.func36, Try.ntmps36
      go_wp2_with fail
      refine HV.out.mono ?_
      rintro e w1 ⟨rfl, hb⟩
      go_wp2_with fail
      refine (HT.out _).mono ?_
      rintro e w2 ⟨rfl, hb2⟩
      go_wp2_with fail
      go_ret2
      exact ⟨rfl, hb.trans (hb2.mono hb.size)⟩
end Go.Proofs.Ytfoeamgjjhfkdaa
