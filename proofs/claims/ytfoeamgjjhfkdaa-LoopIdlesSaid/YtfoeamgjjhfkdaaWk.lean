/- LoopIdles, walked. -/
import Derived.Test.YtfoeamgjjhfkdaaWi
import Derived.Test.YtfoeamgjjhfkdaaNf
import Derived.Test.YtfoeamgjjhfkdaaRw
namespace Go.Proofs.Ytfoeamgjjhfkdaa
open Go Go.Shelf Go.RowKit Go.Proofs L9

def lessB (j n : Nat) : Nat := n &&& (255 - 2 ^ j)
theorem lessB_lt (j n : Nat) (hn : n < 256) : lessB j n < 256 := Nat.lt_of_le_of_lt Nat.and_le_left hn
theorem lessB_bit (j n i : Nat) (hj : j < 8) (hi : i < 8) : (lessB j n).testBit i = (n.testBit i && decide (i ≠ j)) := by
  unfold lessB
  rw [Nat.testBit_and, without_bit j i hj hi]
theorem setN_less (j : Nat) (hj : j < 8) : ∀ (s : List UInt8) (la la' : Int) (acc n : Nat), la' ≤ la → acc < 256 → setN la acc s = some n → setN la' (lessB j acc) (s.filter (· != UInt8.ofNat (97 + j))) = some (lessB j n)
  | [], la, la', acc, n, _, _, h => by
    have : acc = n := by simpa [setN] using h
    subst this
    rfl
  | b :: r, la, la', acc, n, hle, ha, h => by
    rw [setN_cons] at h
    by_cases hb : (isLet b && decide ((b.toNat : Int) - 97 > la)) = true
    · rw [if_pos hb] at h
      rw [Bool.and_eq_true, decide_eq_true_eq] at hb
      have hl := (isLet_iff b).1 hb.1
      have hi8 : b.toNat - 97 < 8 := by omega
      have ha2 : acc ||| 2 ^ (b.toNat - 97) < 256 := Nat.or_lt_two_pow (n := 8) ha (Nat.pow_lt_pow_right (by omega) hi8)
      by_cases hbj : b = UInt8.ofNat (97 + j)
      · have hjj : b.toNat - 97 = j := by rw [hbj]; exact ofNat_sub j hj
        have hf : (b :: r).filter (· != UInt8.ofNat (97 + j)) = r.filter (· != UInt8.ofNat (97 + j)) := by
          rw [List.filter_cons]
          simp [hbj]
        have he : lessB j (acc ||| 2 ^ (b.toNat - 97)) = lessB j acc := by
          refine byte_ext (lessB_lt _ _ ha2) (lessB_lt _ _ ha) fun i hi => ?_
          rw [lessB_bit j _ i hj hi, lessB_bit j _ i hj hi, Nat.testBit_or, Nat.testBit_two_pow, hjj]
          by_cases hij : i = j
          · simp [hij]
          · simp [hij, Ne.symm hij]
        rw [hf, ← he]
        exact setN_less j hj r _ la' _ n (by omega) ha2 h
      · have hf : (b :: r).filter (· != UInt8.ofNat (97 + j)) = b :: r.filter (· != UInt8.ofNat (97 + j)) := by
          rw [List.filter_cons, if_pos (bne_iff_ne.2 hbj)]
        have hne : b.toNat - 97 ≠ j := by
          intro e
          apply hbj
          rw [← e]
          exact (let_byte b hb.1).symm
        have he : lessB j acc ||| 2 ^ (b.toNat - 97) = lessB j (acc ||| 2 ^ (b.toNat - 97)) := by
          refine byte_ext (Nat.or_lt_two_pow (n := 8) (lessB_lt _ _ ha) (Nat.pow_lt_pow_right (by omega) hi8)) (lessB_lt _ _ ha2) fun i hi => ?_
          rw [lessB_bit j _ i hj hi, Nat.testBit_or, Nat.testBit_or, Nat.testBit_two_pow, lessB_bit j _ i hj hi]
          by_cases hij : i = j
          · simp [hij, hne]
          · simp [hij]
        rw [hf, setN_cons, if_pos (by rw [Bool.and_eq_true, decide_eq_true_eq]; exact ⟨hb.1, by omega⟩), he]
        exact setN_less j hj r _ _ _ n (Int.le_refl _) ha2 h
    · rw [if_neg hb] at h; cases h
theorem setOf_less (j : Nat) (hj : j < 8) {s : List UInt8} {n : Nat} (h : setOf s = some n) : setOf (s.filter (· != UInt8.ofNat (97 + j))) = some (lessB j n) := by
  have h0 : lessB j 0 = 0 := by unfold lessB; simp
  have := setN_less j hj s (-1) (-1) 0 n (Int.le_refl _) (by omega) h
  rw [h0] at this
  exact this
theorem lessB_le (j n : Nat) : Le (lessB j n) n := fun i h => by
  unfold lessB at h
  rw [Nat.testBit_and, Bool.and_eq_true] at h
  exact h.1
theorem idle_same (q : Nat → Bool) (hq : Grows q) (K j m : Nat) (hj : j < 8) (hm : m < 256) (h : (lessL K (leastL q)).testBit j = true) : q (lessB j m) = q m := by
  rw [lessL_bit j hj _ _ (fun n hn => (leastL_mem q n hn).1), Bool.and_eq_true, List.all_eq_true] at h
  rw [Bool.eq_iff_iff]
  constructor
  · exact hq _ _ (lessB_lt j m hm) hm (lessB_le j m)
  · intro hx
    obtain ⟨a, ha, hle⟩ := (over_least q hq m hm).1 hx
    refine (over_least q hq _ (lessB_lt j m hm)).2 ⟨a, ha, fun i hi => ?_⟩
    have hi8 := bit_lt8 (leastL_mem q a ha).1 hi
    rw [lessB_bit j m i hj hi8, hle i hi]
    have : i ≠ j := by
      rintro rfl
      have := h.2 a ha
      rw [hi] at this
      cases this
    simp [this]
theorem needed_none (q : Nat → Bool) (hq : Grows q) (j m : Nat) (hj : j < 8) (hm : m < 256) (h : (andL 255 (leastL q)).testBit j = true) : q (lessB j m) = false := by
  rw [andL_bit, Bool.and_eq_true, List.all_eq_true] at h
  cases hx : q (lessB j m) with
  | false => rfl
  | true =>
    obtain ⟨a, ha, hle⟩ := (over_least q hq _ (lessB_lt j m hm)).1 hx
    have h1 := hle j (h.2 a ha)
    rw [lessB_bit j m j hj hj] at h1
    simp at h1
theorem byte_in (T : ByteArray) (k : Nat) (hk : k < T.size) : T[k]'hk ∈ T.data.toList := by
  have : T[k]'hk = T.data.toList[k]'(by rw [size_list]; exact hk) := rfl
  rw [this]
  exact List.getElem_mem _
theorem conductsOf_some {c s : List UInt8} {x : List (List Part)} {n : Nat} (h : circ c = some x) (h2 : setOf s = some n) : conductsOf c s = (evC x n, 0) := by
  unfold conductsOf
  rw [h, h2]

set_option maxHeartbeats 8000000 in
set_option maxRecDepth 100000 in
theorem loopIdles_any (c s : ByteArray) (w : World) (hc : c.size ≤ maxLen) (hs : s.size ≤ maxLen) :
    Calls Try.prog 12 #[.string c, .string s] w fun e w' => e = .returned (.bool true) ∧ Below w.heap.size w w' := by
  have HL := Lib.hid (long_any c s w hc hs)
  have HF := Lib.hid first_any
  by_cases hlong : 200 < c.size ∨ 200 < s.size
  · rw [decide_eq_true hlong] at HL
    clear hlong
    go_enter Try.func12, Try.ntmps12
    go_wp2_with fail
    refine HL.out.mono ?_
    rintro e w1 ⟨rfl, rfl⟩
    go_wp2_with fail
    refine (HF.out _).mono ?_
    rintro e w2 ⟨rfl, hb⟩
    go_wp2_with fail
    go_ret
    exact ⟨rfl, hb⟩
  · rw [decide_eq_false hlong] at HL
    have hs2 : s.size ≤ 1000000 := by omega
    have hs3 : s.size ≤ 100000 := by omega
    clear hlong
    have hv := fun W => refValid c W hc
    have hvs := fun W => refValidSet s W hs2
    cases ho : circ c.data.toList with
    | none =>
      rw [ho] at hv
      simp only [Option.isSome_none] at hv
      have HV := Lib.hid hv
      clear hv hvs ho
      go_enter Try.func12, Try.ntmps12
      go_wp2_with fail
      refine HL.out.mono ?_
      rintro e w1 ⟨rfl, rfl⟩
      go_wp2_with fail
      refine (HV.out _).mono ?_
      rintro e w2 ⟨rfl, hb2⟩
      go_wp2_with fail
      refine (HF.out _).mono ?_
      rintro e w3 ⟨rfl, hb⟩
      go_wp2_with fail
      go_ret
      exact ⟨rfl, hb2.trans (hb.mono hb2.size)⟩
    | some x =>
      rw [ho] at hv
      simp only [Option.isSome_some] at hv
      have HV := Lib.hid hv
      cases hq : setOf s.data.toList with
      | none =>
        rw [hq] at hvs
        simp only [Option.isSome_none] at hvs
        have HVS := Lib.hid hvs
        clear hv hvs ho hq
        go_enter Try.func12, Try.ntmps12
        go_wp2_with fail
        refine HL.out.mono ?_
        rintro e w1 ⟨rfl, rfl⟩
        go_wp2_with fail
        refine (HV.out _).mono ?_
        rintro e w2 ⟨rfl, hb2⟩
        go_wp2_with fail
        refine (HVS.out _).mono ?_
        rintro e w3 ⟨rfl, nq, rfl⟩
        have hb2 := hb2.trans (drewN_below _ _ nq)
        go_wp2_with fail
        refine (HF.out _).mono ?_
        rintro e w4 ⟨rfl, hb⟩
        go_wp2_with fail
        go_ret
        exact ⟨rfl, hb2.trans (hb.mono hb2.size)⟩
      | some m =>
        rw [hq] at hvs
        simp only [Option.isSome_some] at hvs
        have HVS := Lib.hid hvs
        have hm := setOf_lt _ _ hq
        have hcd := fun W => conducts_any c s W hc hs2
        simp only [conductsOf_some ho hq] at hcd
        have hid := fun W => idle_any c W hc
        have hnd := fun W => needs_any c W hc
        simp only [ho] at hid hnd
        change ∀ W, Calls _ _ _ _ fun e w' => e = .returned (.tuple #[.string ⟨(txt (lessL (letK c.data.toList 8) (leastL (evC x)))).toArray⟩, .int .i64 0]) ∧ _ at hid
        change ∀ W, Calls _ _ _ _ fun e w' => e = .returned (.tuple #[.string ⟨(txt (andL 255 (leastL (evC x)))).toArray⟩, .int .i64 0]) ∧ _ at hnd
        have hI : lessL (letK c.data.toList 8) (leastL (evC x)) < 256 := lessL_lt _ _ (letK_256 _)
        have hN : andL 255 (leastL (evC x)) < 256 := andL_lt _ _ (by omega)
        have hst1 : ∀ b ∈ txt (lessL (letK c.data.toList 8) (leastL (evC x))), conductsOf c.data.toList (s.data.toList.filter (· != b)) = (evC x m, 0) := by
          intro b hb
          obtain ⟨j, hj, rfl, hbit⟩ := (mem_txt_iff _ b hI).1 hb
          rw [conductsOf_some ho (setOf_less j hj hq), idle_same (evC x) (gTC x) _ j m hj hm hbit]
        have hst2 : ∀ b ∈ txt (andL 255 (leastL (evC x))), conductsOf c.data.toList (s.data.toList.filter (· != b)) = (false, 0) := by
          intro b hb
          obtain ⟨j, hj, rfl, hbit⟩ := (mem_txt_iff _ b hN).1 hb
          rw [conductsOf_some ho (setOf_less j hj hq), needed_none (evC x) (gTC x) j m hj hm hbit]
        have HVI := Lib.hid (fun W => refValidSet ⟨(txt (lessL (letK c.data.toList 8) (leastL (evC x)))).toArray⟩ W (by rw [bsize]; have := txtTo_len (lessL (letK c.data.toList 8) (leastL (evC x))) 8; unfold txt; omega))
        have HVN := Lib.hid (fun W => refValidSet ⟨(txt (andL 255 (leastL (evC x)))).toArray⟩ W (by rw [bsize]; have := txtTo_len (andL 255 (leastL (evC x))) 8; unfold txt; omega))
        change Hid (∀ W, Calls _ _ _ _ fun e w' => e = .returned (.bool (setOf (txt (lessL (letK c.data.toList 8) (leastL (evC x))))).isSome) ∧ _) at HVI
        change Hid (∀ W, Calls _ _ _ _ fun e w' => e = .returned (.bool (setOf (txt (andL 255 (leastL (evC x))))).isSome) ∧ _) at HVN
        rw [setOf_txt _ hI] at HVI
        rw [setOf_txt _ hN] at HVN
        simp only [Option.isSome_some] at HVI HVN
        have hl1 := txtTo_len (lessL (letK c.data.toList 8) (leastL (evC x))) 8
        have hl2 := txtTo_len (andL 255 (leastL (evC x))) 8
        change (txt _).length ≤ 8 at hl1 hl2
        generalize txt (lessL (letK c.data.toList 8) (leastL (evC x))) = t1 at *
        generalize txt (andL 255 (leastL (evC x))) = t2 at *
        have hz1 := bsize t1
        have hz2 := bsize t2
        have hd1 : (⟨t1.toArray⟩ : ByteArray).data.toList = t1 := rfl
        have hd2 : (⟨t2.toArray⟩ : ByteArray).data.toList = t2 := rfl
        rw [← hd1] at hst1
        rw [← hd2] at hst2
        rw [← hz1] at hl1
        rw [← hz2] at hl2
        clear hd1 hd2 hz1 hz2 hI hN
        generalize (⟨t1.toArray⟩ : ByteArray) = T1 at *
        generalize (⟨t2.toArray⟩ : ByteArray) = T2 at *
        have HCD := Lib.hid hcd
        have HID := Lib.hid hid
        have HND := Lib.hid hnd
        have HS1 := Lib.hid hst1
        have HS2 := Lib.hid hst2
        have hfl : ∀ b : UInt8, (⟨(s.data.toList.filter (· != b)).toArray⟩ : ByteArray).size ≤ 1000000 := by
          intro b
          rw [bsize]
          have := List.length_filter_le (· != b) s.data.toList
          rw [size_list] at this
          omega
        have HFL := Lib.hid hfl
        generalize evC x m = y at *
        clear hv hvs ho hq hcd hid hnd hst1 hst2 hm hfl
        go_enter Try.func12, Try.ntmps12
        go_wp2_with fail
        refine HL.out.mono ?_
        rintro e w1 ⟨rfl, rfl⟩
        go_wp2_with fail
        refine (HV.out _).mono ?_
        rintro e w2 ⟨rfl, hb2⟩
        have HB2 := Lib.hid hb2
        clear hb2
        go_wp2_with fail
        refine (HVS.out _).mono ?_
        rintro e w3 ⟨rfl, nq, rfl⟩
        have HB3 := Lib.hid (HB2.out.trans (drewN_below _ _ nq))
        clear HB2
        go_wp2_with fail
        refine (HCD.out _).mono ?_
        rintro e w4 ⟨rfl, hb4⟩
        have HB4 := Lib.hid (HB3.out.trans (hb4.mono HB3.out.size))
        clear hb4 HB3
        go_wp2_with fail
        refine (HID.out _).mono ?_
        rintro e w5 ⟨rfl, hb5⟩
        have HB5 := Lib.hid (HB4.out.trans (hb5.mono HB4.out.size))
        clear hb5 HB4
        go_wp2_with fail
        refine (HND.out _).mono ?_
        rintro e w6 ⟨rfl, hb6⟩
        have HB6 := Lib.hid (HB5.out.trans (hb6.mono HB5.out.size))
        clear hb6 HB5
        go_wp2_with fail
        refine (HVI.out _).mono ?_
        rintro e w7 ⟨rfl, n7, rfl⟩
        go_wp2_with fail
        refine (HVN.out _).mono ?_
        rintro e w8 ⟨rfl, n8, rfl⟩
        have HB8 := Lib.hid (HB6.out.trans (drewN_below _ _ (n7 + n8)))
        clear HB6
        go_wp2_with fail
        have HB9 : Hid (Below w1.heap.size w1 ((w6.drewN n7).drewN n8)) := Lib.hid (by rw [World.drewN_drewN]; exact HB8.out)
        clear HB8
        go_loopw [11, 12, 13] (fun i _ _ wr => ∃ k : Nat, k ≤ T1.size ∧ i = .int .i64 k ∧ Below w1.heap.size w1 wr) (fun i _ _ _ => T1.size - (intOf i).toNat)
        case atStart => exact ⟨0, by omega, rfl, by simpa using HB9.out⟩
        case round =>
          obtain ⟨k, hk, rfl, hb⟩ := hrel
          have HB := Lib.hid hb
          clear hb
          by_cases hlt : k < T1.size
          · have HW := Lib.hid (fun W => without_any s (T1[k]'hlt) W hs3)
            have hcc := fun W => conducts_any c ⟨(s.data.toList.filter (· != T1[k]'hlt)).toArray⟩ W hc (HFL.out _)
            have hcs := HS1.out _ (byte_in T1 k hlt)
            change ∀ W, Calls _ _ _ _ fun e w' => e = .returned (.tuple #[.bool (conductsOf c.data.toList (s.data.toList.filter (· != T1[k]'hlt))).1, .int .i64 (conductsOf c.data.toList (s.data.toList.filter (· != T1[k]'hlt))).2]) ∧ _ at hcc
            simp only [hcs] at hcc
            have HCC := Lib.hid hcc
            clear hcc hcs HB9
            go_wp2_with fail
            refine (HW.out _).mono ?_
            rintro e v1 ⟨rfl, rfl⟩
            go_wp2_with fail
            refine (HCC.out _).mono ?_
            rintro e v2 ⟨rfl, hb2⟩
            have HB2 := Lib.hid (HB.out.trans (hb2.mono HB.out.size))
            clear hb2
            go_wp2_with fail
            go_roundw
            case rel => exact ⟨k + 1, by omega, by go_num, HB2.out⟩
            case measure => simp [intOf]; omega
          · obtain rfl : k = T1.size := by omega
            clear HB9
            go_wp2_with fail
            go_loopw [14, 15, 16] (fun i _ _ wx => ∃ k : Nat, k ≤ T2.size ∧ i = .int .i64 k ∧ Below w1.heap.size w1 wx) (fun i _ _ _ => T2.size - (intOf i).toNat)
            case atStart => exact ⟨0, by omega, rfl, HB.out⟩
            case round =>
              obtain ⟨k, hk2, rfl, hb⟩ := hrel
              have HB2 := Lib.hid hb
              clear hb
              by_cases hlt2 : k < T2.size
              · have HW := Lib.hid (fun W => without_any s (T2[k]'hlt2) W hs3)
                have hcc := fun W => conducts_any c ⟨(s.data.toList.filter (· != T2[k]'hlt2)).toArray⟩ W hc (HFL.out _)
                have hcs := HS2.out _ (byte_in T2 k hlt2)
                change ∀ W, Calls _ _ _ _ fun e w' => e = .returned (.tuple #[.bool (conductsOf c.data.toList (s.data.toList.filter (· != T2[k]'hlt2))).1, .int .i64 (conductsOf c.data.toList (s.data.toList.filter (· != T2[k]'hlt2))).2]) ∧ _ at hcc
                simp only [hcs] at hcc
                have HCC := Lib.hid hcc
                clear hcc hcs
                go_wp2_with fail
                refine (HW.out _).mono ?_
                rintro e v1 ⟨rfl, rfl⟩
                go_wp2_with fail
                refine (HCC.out _).mono ?_
                rintro e v2 ⟨rfl, hb2⟩
                have HB3 := Lib.hid (HB2.out.trans (hb2.mono HB2.out.size))
                clear hb2
                go_wp2_with fail
                go_roundw
                case rel => exact ⟨k + 1, by omega, by go_num, HB3.out⟩
                case measure => simp [intOf]; omega
              · obtain rfl : k = T2.size := by omega
                go_wp2_with fail
                refine (HF.out _).mono ?_
                rintro e v1 ⟨rfl, hbf⟩
                have HBF := Lib.hid (HB2.out.trans (hbf.mono HB2.out.size))
                clear hbf
                go_wp2_with fail
                go_ret
                exact ⟨rfl, HBF.out⟩
end Go.Proofs.Ytfoeamgjjhfkdaa
