/- LoopNumbers, walked. -/
import Derived.Test.YtfoeamgjjhfkdaaRx
namespace Go.Proofs.Ytfoeamgjjhfkdaa
open Go Go.Shelf Go.RowKit Go.Proofs L9

set_option maxHeartbeats 4000000 in
set_option maxRecDepth 100000 in
theorem loopNumbers_any (c : ByteArray) (k : Int) (w : World) (hc : c.size ≤ maxLen) (_ : (Lit.int .i64 k).wf = true) :
    Calls Try.prog 13 #[.string c, .int .i64 k] w fun e w' => e = .returned (.bool true) ∧ Below w.heap.size w w' := by
  have HL := Lib.hid (long_any c (⟨#[]⟩ : ByteArray) w hc (by decide))
  have HF := Lib.hid first_any
  by_cases hlong : 200 < (c).size ∨ 200 < ((⟨#[]⟩ : ByteArray)).size
  · rw [decide_eq_true hlong] at HL
    clear hlong
    go_enter Try.func13, Try.ntmps13
    go_wp2_with fail
    refine HL.out.mono ?_
    rintro e w1 ⟨rfl, rfl⟩
    go_wp2_with fail
    refine (HF.out _).mono ?_
    rintro e w2 ⟨rfl, hb⟩
    go_wp2_with fail
    go_ret
    exact ⟨rfl, hb⟩
  · rw [decide_eq_false hlong] at HL
    clear hlong
    have H1 := Lib.hid (fun W => numberN_any c k W hc)
    have H2 := Lib.hid (fun W => refNumber c k W hc)
    have H3 := Lib.hid (fun W => needs_any c W hc)
    have H4 := Lib.hid (fun W => refNeeds c W hc)
    have H5 := Lib.hid (fun W => idle_any c W hc)
    have H6 := Lib.hid (fun W => refIdle c W hc)
    generalize (numberT (circ c.data.toList) k).1 = x1 at *
    generalize (numberT (circ c.data.toList) k).2 = x2 at *
    generalize (⟨(needsF (circ c.data.toList)).1.toArray⟩ : ByteArray) = y1 at *
    generalize (needsF (circ c.data.toList)).2 = y2 at *
    generalize (⟨(idleF (circ c.data.toList) c.data.toList).1.toArray⟩ : ByteArray) = z1 at *
    generalize (idleF (circ c.data.toList) c.data.toList).2 = z2 at *
    go_enter Try.func13, Try.ntmps13
    go_wp2_with fail
    refine HL.out.mono ?_
    rintro e w1 ⟨rfl, rfl⟩
    have HB0 := Lib.hid (Below.refl w1.heap.size w1)
    clear HL
    go_wp2_with fail
    refine (H1.out _).mono ?_
    rintro e v1 ⟨rfl, hb1⟩
    have HB1 := Lib.hid (HB0.out.trans (hb1.mono HB0.out.size))
    clear hb1 HB0 H1
    go_wp2_with fail
    refine (H2.out _).mono ?_
    rintro e v2 ⟨rfl, hb2⟩
    have HB2 := Lib.hid (HB1.out.trans (hb2.mono HB1.out.size))
    clear hb2 HB1 H2
    go_wp2_with fail
    refine (H3.out _).mono ?_
    rintro e v3 ⟨rfl, hb3⟩
    have HB3 := Lib.hid (HB2.out.trans (hb3.mono HB2.out.size))
    clear hb3 HB2 H3
    go_wp2_with fail
    refine (H4.out _).mono ?_
    rintro e v4 ⟨rfl, hb4⟩
    have HB4 := Lib.hid (HB3.out.trans (hb4.mono HB3.out.size))
    clear hb4 HB3 H4
    go_wp2_with fail
    refine (H5.out _).mono ?_
    rintro e v5 ⟨rfl, hb5⟩
    have HB5 := Lib.hid (HB4.out.trans (hb5.mono HB4.out.size))
    clear hb5 HB4 H5
    go_wp2_with fail
    refine (H6.out _).mono ?_
    rintro e v6 ⟨rfl, hb6⟩
    have HB6 := Lib.hid (HB5.out.trans (hb6.mono HB5.out.size))
    clear hb6 HB5 H6
    go_wp2_with fail
    refine (HF.out _).mono ?_
    rintro e v7 ⟨rfl, hbf⟩
    have HBF := Lib.hid (HB6.out.trans (hbf.mono HB6.out.size))
    clear hbf HB6
    go_wp2_with fail
    go_ret
    exact ⟨rfl, HBF.out⟩
end Go.Proofs.Ytfoeamgjjhfkdaa
