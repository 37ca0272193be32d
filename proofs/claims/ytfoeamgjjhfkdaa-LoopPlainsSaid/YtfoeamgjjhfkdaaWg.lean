/- LoopPlains, walked. -/
import Derived.Test.YtfoeamgjjhfkdaaRz
namespace Go.Proofs.Ytfoeamgjjhfkdaa
open Go Go.Shelf Go.RowKit Go.Proofs L9

set_option maxHeartbeats 4000000 in
set_option maxRecDepth 100000 in
theorem loopPlains_any (c : ByteArray) (w : World) (hc : c.size ≤ maxLen) :
    Calls Try.prog 6 #[.string c] w fun e w' => e = .returned (.bool true) ∧ Below w.heap.size w w' := by
  have HL := Lib.hid (long_any c (⟨#[]⟩ : ByteArray) w hc (by decide))
  have HF := Lib.hid first_any
  by_cases hlong : 200 < (c).size ∨ 200 < ((⟨#[]⟩ : ByteArray)).size
  · rw [decide_eq_true hlong] at HL
    clear hlong
    go_enter Try.func6, Try.ntmps6
    go_wp2_with fail
    refine HL.out.mono ?_
    rintro e w1 ⟨rfl, rfl⟩
    go_wp2_with fail
    refine (HF.out _).mono ?_
    rintro e w2 ⟨rfl, hb⟩
    go_wp2_with fail
    go_ret
    exact ⟨rfl, hb⟩
  · rw [decide_eq_false hlong] at HL
    clear hlong
    have H1 := Lib.hid (fun W => plain_any c W hc)
    have H2 := Lib.hid (fun W => refPlain c W hc)
    have H3 := Lib.hid (fun W => dual_any c W hc)
    have H4 := Lib.hid (fun W => refDualT c W hc)
    generalize (⟨(plainC c.data.toList).1.toArray⟩ : ByteArray) = y1 at *
    generalize (plainC c.data.toList).2 = y2 at *
    generalize (⟨(dualOf c.data.toList).1.toArray⟩ : ByteArray) = z1 at *
    generalize (dualOf c.data.toList).2 = z2 at *
    go_enter Try.func6, Try.ntmps6
    go_wp2_with fail
    refine HL.out.mono ?_
    rintro e w1 ⟨rfl, rfl⟩
    have HB0 := Lib.hid (Below.refl w1.heap.size w1)
    clear HL
    go_wp2_with fail
    refine (H1.out _).mono ?_
    rintro e v1 ⟨rfl, hb1⟩
    have HB1 := Lib.hid (HB0.out.trans (hb1.mono HB0.out.size))
    clear hb1 HB0 H1
    go_wp2_with fail
    refine (H2.out _).mono ?_
    rintro e v2 ⟨rfl, hb2⟩
    have HB2 := Lib.hid (HB1.out.trans (hb2.mono HB1.out.size))
    clear hb2 HB1 H2
    go_wp2_with fail
    refine (H3.out _).mono ?_
    rintro e v3 ⟨rfl, hb3⟩
    have HB3 := Lib.hid (HB2.out.trans (hb3.mono HB2.out.size))
    clear hb3 HB2 H3
    go_wp2_with fail
    refine (H4.out _).mono ?_
    rintro e v4 ⟨rfl, hb4⟩
    have HB4 := Lib.hid (HB3.out.trans (hb4.mono HB3.out.size))
    clear hb4 HB3 H4
    go_wp2_with fail
    refine (HF.out _).mono ?_
    rintro e v5 ⟨rfl, hbf⟩
    have HBF := Lib.hid (HB4.out.trans (hbf.mono HB4.out.size))
    clear hbf HB4
    go_wp2_with fail
    go_ret
    exact ⟨rfl, HBF.out⟩
end Go.Proofs.Ytfoeamgjjhfkdaa
