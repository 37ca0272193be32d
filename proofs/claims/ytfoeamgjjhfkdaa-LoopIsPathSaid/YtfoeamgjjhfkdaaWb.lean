/- LoopIsPath, walked. -/
import Derived.Test.YtfoeamgjjhfkdaaRl
namespace Go.Proofs.Ytfoeamgjjhfkdaa
open Go Go.Shelf Go.RowKit Go.Proofs L9

set_option maxHeartbeats 4000000 in
set_option maxRecDepth 100000 in
theorem loopIsPath_any (c s : ByteArray) (w : World) (hc : c.size ≤ maxLen) (hs : s.size ≤ maxLen) :
    Calls Try.prog 9 #[.string c, .string s] w fun e w' => e = .returned (.bool true) ∧ Below w.heap.size w w' := by
  have HL := Lib.hid (long_any c s w hc hs)
  have HF := Lib.hid first_any
  by_cases hlong : 200 < c.size ∨ 200 < s.size
  · rw [decide_eq_true hlong] at HL
    clear hlong
    go_enter Try.func9, Try.ntmps9
    go_wp2_with fail
    refine HL.out.mono ?_
    rintro e w1 ⟨rfl, rfl⟩
    go_wp2_with fail
    refine (HF.out _).mono ?_
    rintro e w2 ⟨rfl, hb⟩
    go_wp2_with fail
    go_ret
    exact ⟨rfl, hb⟩
  · rw [decide_eq_false hlong] at HL
    have hs2 : s.size ≤ 1000000 := by omega
    clear hlong
    have H1 := Lib.hid (isPath_any c s w hc hs2)
    have H2 := Lib.hid (fun W => refIsPath c s W hc hs2)
    have H3 := Lib.hid (fun W => isCut_any c s W hc hs2)
    have H4 := Lib.hid (fun W => refIsCut c s W hc hs2)
    generalize (conductsOf c.data.toList s.data.toList).1 = c1 at *
    generalize (conductsOf c.data.toList s.data.toList).2 = c2 at *
    generalize (isCutOf c.data.toList s.data.toList).1 = d1 at *
    generalize (isCutOf c.data.toList s.data.toList).2 = d2 at *
    go_enter Try.func9, Try.ntmps9
    go_wp2_with fail
    refine HL.out.mono ?_
    rintro e w1 ⟨rfl, rfl⟩
    go_wp2_with fail
    refine H1.out.mono ?_
    rintro e w2 ⟨rfl, hb2⟩
    have HB2 := Lib.hid hb2
    clear hb2 H1 HL
    go_wp2_with fail
    refine (H2.out _).mono ?_
    rintro e w3 ⟨rfl, hb3⟩
    have HB3 := Lib.hid (HB2.out.trans (hb3.mono HB2.out.size))
    clear hb3 HB2 H2
    go_wp2_with fail
    refine (H3.out _).mono ?_
    rintro e w4 ⟨rfl, hb4⟩
    have HB4 := Lib.hid (HB3.out.trans (hb4.mono HB3.out.size))
    clear hb4 HB3 H3
    go_wp2_with fail
    refine (H4.out _).mono ?_
    rintro e w5 ⟨rfl, hb5⟩
    have HB5 := Lib.hid (HB4.out.trans (hb5.mono HB4.out.size))
    clear hb5 HB4 H4
    go_wp2_with fail
    refine (HF.out _).mono ?_
    rintro e w6 ⟨rfl, hb6⟩
    have HB6 := Lib.hid (HB5.out.trans (hb6.mono HB5.out.size))
    clear hb6 HB5
    go_wp2_with fail
    go_ret
    exact ⟨rfl, HB6.out⟩
end Go.Proofs.Ytfoeamgjjhfkdaa
