/- LoopPlain, walked. -/
import Derived.Test.YtfoeamgjjhfkdaaNd
import Derived.Test.YtfoeamgjjhfkdaaRl
namespace Go.Proofs.Ytfoeamgjjhfkdaa
open Go Go.Shelf Go.RowKit Go.Proofs L9

theorem gC (c : List (List Part)) : Grows (evC c) := fun n m _ _ h h1 => evC_mono c n m h h1
theorem plainOf_congr {t u : Nat → Bool} (h : ∀ n, n < 256 → t n = u n) : plainOf t = plainOf u := by
  unfold plainOf plainT
  rw [h 0 (by omega), h 255 (by omega), least_congr h]
theorem plain_facts {s : List UInt8} {x : List (List Part)} (h : circ s = some x) : plainC s = ([], 4) ∨ ((plainT (evC x)).length ≤ 40 ∧ plainC s = (plainT (evC x), 0) ∧ sameF (some x) (circ (plainT (evC x))) = (true, 0) ∧ plainC (plainT (evC x)) = (plainT (evC x), 0)) := by
  obtain ⟨_, h1, h2, _⟩ := circ_text h
  have e0 := evC_none x h2
  have e1 := evC_all x h1 h2
  have hp : plainC s = plainOf (evC x) := by unfold plainC; rw [h]
  have ho : plainOf (evC x) = if 40 < (plainT (evC x)).length then ([], 4) else (plainT (evC x), 0) := by
    unfold plainOf
    rw [e0, e1]
    rfl
  by_cases hl : 40 < (plainT (evC x)).length
  · left
    rw [hp, ho, if_pos hl]
  · right
    have hr := plain_read (evC x) (gC x) e0 e1 (by omega)
    rw [if_neg hl] at ho
    refine ⟨by omega, by rw [hp, ho], ?_, ?_⟩
    · rw [hr]
      show (sameT (evC x) (evC (plainTree (evC x))), (0 : Int)) = _
      have : sameT (evC x) (evC (plainTree (evC x))) = true := by
        unfold sameT
        rw [List.all_eq_true]
        intro n hn
        rw [plainTree_ev (evC x) (gC x) n (List.mem_range.1 hn)]
        simp
      rw [this]
    · have : plainC (plainT (evC x)) = plainOf (evC (plainTree (evC x))) := by unfold plainC; rw [hr]
      rw [this, plainOf_congr (plainTree_ev (evC x) (gC x)), ho]

set_option maxHeartbeats 4000000 in
set_option maxRecDepth 100000 in
theorem loopPlain_any (c : ByteArray) (w : World) (hc : c.size ≤ maxLen) :
    Calls Try.prog 7 #[.string c] w fun e w' => e = .returned (.bool true) ∧ Below w.heap.size w w' := by
  have HL := Lib.hid (long_any c ⟨#[]⟩ w hc (by decide))
  have HF := Lib.hid first_any
  by_cases hlong : 200 < c.size ∨ 200 < (⟨#[]⟩ : ByteArray).size
  · rw [decide_eq_true hlong] at HL
    clear hlong
    go_enter Try.func7, Try.ntmps7
    go_wp2_with fail
    refine HL.out.mono ?_
    rintro e w1 ⟨rfl, rfl⟩
    go_wp2_with fail
    refine (HF.out _).mono ?_
    rintro e w2 ⟨rfl, hb⟩
    go_wp2_with fail
    go_ret
    exact ⟨rfl, hb⟩
  · rw [decide_eq_false hlong] at HL
    clear hlong
    have HV := Lib.hid (fun W => refValid c W hc)
    have HP := Lib.hid (fun W => plain_any c W hc)
    have HS := Lib.hid (fun d hd W => same_any c d W hc hd)
    have HFA := Lib.hid (fun x => plain_facts (s := c.data.toList) (x := x))
    generalize plainC c.data.toList = z at *
    generalize circ c.data.toList = o at *
    cases o with
    | none =>
      simp only [Option.isSome_none] at HV
      go_enter Try.func7, Try.ntmps7
      go_wp2_with fail
      refine HL.out.mono ?_
      rintro e w1 ⟨rfl, rfl⟩
      go_wp2_with fail
      refine (HV.out _).mono ?_
      rintro e w2 ⟨rfl, hb2⟩
      go_wp2_with fail
      refine (HF.out _).mono ?_
      rintro e w3 ⟨rfl, hb⟩
      go_wp2_with fail
      go_ret
      exact ⟨rfl, hb2.trans (hb.mono hb2.size)⟩
    | some x =>
      simp only [Option.isSome_some] at HV
      rcases HFA.out x rfl with rfl | ⟨hl, rfl, hs, hq⟩
      · clear HFA
        go_enter Try.func7, Try.ntmps7
        go_wp2_with fail
        refine HL.out.mono ?_
        rintro e w1 ⟨rfl, rfl⟩
        go_wp2_with fail
        refine (HV.out _).mono ?_
        rintro e w2 ⟨rfl, hb2⟩
        have HB2 := Lib.hid hb2
        clear hb2
        go_wp2_with fail
        refine (HP.out _).mono ?_
        rintro e w3 ⟨rfl, hb3⟩
        have HB3 := Lib.hid (HB2.out.trans (hb3.mono HB2.out.size))
        clear hb3 HB2
        go_wp2_with fail
        refine (HF.out _).mono ?_
        rintro e w4 ⟨rfl, hb⟩
        have HB4 := Lib.hid (HB3.out.trans (hb.mono HB3.out.size))
        clear hb HB3
        go_wp2_with fail
        go_ret
        exact ⟨rfl, HB4.out⟩
      · generalize plainT (evC x) = p at *
        have hpm : (⟨p.toArray⟩ : ByteArray).size ≤ maxLen := by rw [bsize]; unfold maxLen; omega
        have HS2 := Lib.hid (HS.out ⟨p.toArray⟩ hpm)
        have HP2 := Lib.hid (fun W => plain_any ⟨p.toArray⟩ W hpm)
        simp only [hs, hq] at HS2 HP2
        clear HFA HS hs hq hpm
        go_enter Try.func7, Try.ntmps7
        go_wp2_with fail
        refine HL.out.mono ?_
        rintro e w1 ⟨rfl, rfl⟩
        go_wp2_with fail
        refine (HV.out _).mono ?_
        rintro e w2 ⟨rfl, hb2⟩
        have HB2 := Lib.hid hb2
        clear hb2
        go_wp2_with fail
        refine (HP.out _).mono ?_
        rintro e w3 ⟨rfl, hb3⟩
        have HB3 := Lib.hid (HB2.out.trans (hb3.mono HB2.out.size))
        clear hb3 HB2
        go_wp2_with fail
        refine (HS2.out _).mono ?_
        rintro e w4 ⟨rfl, hb4⟩
        have HB4 := Lib.hid (HB3.out.trans (hb4.mono HB3.out.size))
        clear hb4 HB3
        go_wp2_with fail
        refine (HP2.out _).mono ?_
        rintro e w5 ⟨rfl, hb5⟩
        have HB5 := Lib.hid (HB4.out.trans (hb5.mono HB4.out.size))
        clear hb5 HB4
        go_wp2_with fail
        refine (HF.out _).mono ?_
        rintro e w6 ⟨rfl, hb6⟩
        have HB6 := Lib.hid (HB5.out.trans (hb6.mono HB5.out.size))
        clear hb6 HB5
        go_wp2_with fail
        go_ret
        exact ⟨rfl, HB6.out⟩
end Go.Proofs.Ytfoeamgjjhfkdaa
