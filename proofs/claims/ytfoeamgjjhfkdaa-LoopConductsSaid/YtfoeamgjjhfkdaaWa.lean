/- LoopConducts and LoopIsPath, walked. -/
import Derived.Test.YtfoeamgjjhfkdaaRl
namespace Go.Proofs.Ytfoeamgjjhfkdaa
open Go Go.Shelf Go.RowKit Go.Proofs L9

set_option maxHeartbeats 4000000 in
set_option maxRecDepth 100000 in
theorem loopConducts_any (c s : ByteArray) (w : World) (hc : c.size ≤ maxLen) (hs : s.size ≤ maxLen) :
    Calls Try.prog 11 #[.string c, .string s] w fun e w' => e = .returned (.bool true) ∧ Below w.heap.size w w' := by
  have HL := Lib.hid (long_any c s w hc hs)
  have HF := Lib.hid first_any
  by_cases hlong : 200 < c.size ∨ 200 < s.size
  · rw [decide_eq_true hlong] at HL
    clear hlong
    go_enter Try.func11, Try.ntmps11
    go_wp2_with fail
    refine HL.out.mono ?_
    rintro e w1 ⟨rfl, rfl⟩
    go_wp2_with fail
    refine (HF.out _).mono ?_
    rintro e w2 ⟨rfl, hb⟩
    go_wp2_with fail
    go_ret
    exact ⟨rfl, hb⟩
  · rw [decide_eq_false hlong] at HL
    have hs2 : s.size ≤ 1000000 := by omega
    clear hlong
    have H1 := Lib.hid (conducts_any c s w hc hs2)
    have H2 := Lib.hid (fun W => refConducts c s W hc hs2)
    have H3 := Lib.hid (fun W => letters_any c W hc)
    have H4 := Lib.hid (fun W => refLetters c W hc)
    have H5 := Lib.hid (fun W => valid_any c W hc)
    have H6 := Lib.hid (fun W => refValid c W hc)
    have H7 := Lib.hid (fun W => validSet_any s W hs2)
    have H8 := Lib.hid (fun W => refValidSet s W hs2)
    generalize (⟨(lettersOf c.data.toList).1.toArray⟩ : ByteArray) = l1 at *
    generalize (lettersOf c.data.toList).2 = l2 at *
    generalize (conductsOf c.data.toList s.data.toList).1 = c1 at *
    generalize (conductsOf c.data.toList s.data.toList).2 = c2 at *
    generalize (circ c.data.toList).isSome = v1 at *
    generalize (setOf s.data.toList).isSome = v2 at *
    go_enter Try.func11, Try.ntmps11
    go_wp2_with fail
    refine HL.out.mono ?_
    rintro e w1 ⟨rfl, rfl⟩
    go_wp2_with fail
    refine H1.out.mono ?_
    rintro e w2 ⟨rfl, hb2⟩
    have HB2 := Lib.hid hb2
    clear hb2 H1 HL
    go_wp2_with fail
    refine (H2.out _).mono ?_
    rintro e w3 ⟨rfl, hb3⟩
    have HB3 := Lib.hid (HB2.out.trans (hb3.mono HB2.out.size))
    clear hb3 HB2 H2
    go_wp2_with fail
    refine (H3.out _).mono ?_
    rintro e w4 ⟨rfl, hb4⟩
    have HB4 := Lib.hid (HB3.out.trans (hb4.mono HB3.out.size))
    clear hb4 HB3 H3
    go_wp2_with fail
    refine (H4.out _).mono ?_
    rintro e w5 ⟨rfl, hb5⟩
    have HB5 := Lib.hid (HB4.out.trans (hb5.mono HB4.out.size))
    clear hb5 HB4 H4
    go_wp2_with fail
    refine (H5.out _).mono ?_
    rintro e w6 ⟨rfl, hb6⟩
    have HB6 := Lib.hid (HB5.out.trans (hb6.mono HB5.out.size))
    clear hb6 HB5 H5
    go_wp2_with fail
    refine (H6.out _).mono ?_
    rintro e w7 ⟨rfl, hb7⟩
    have HB7 := Lib.hid (HB6.out.trans (hb7.mono HB6.out.size))
    clear hb7 HB6 H6
    go_wp2_with fail
    refine (H7.out _).mono ?_
    rintro e w8 ⟨rfl, hb8⟩
    have HB8 := Lib.hid (HB7.out.trans (hb8.mono HB7.out.size))
    clear hb8 HB7 H7
    go_wp2_with fail
    refine (H8.out _).mono ?_
    rintro e w9 ⟨rfl, n9, rfl⟩
    have HB9 := Lib.hid (HB8.out.trans (drewN_below _ _ n9))
    clear HB8 H8
    go_wp2_with fail
    refine (HF.out _).mono ?_
    rintro e w10 ⟨rfl, hb10⟩
    have HB10 := Lib.hid (HB9.out.trans (hb10.mono HB9.out.size))
    clear hb10 HB9
    go_wp2_with fail
    go_ret
    exact ⟨rfl, HB10.out⟩
end Go.Proofs.Ytfoeamgjjhfkdaa
