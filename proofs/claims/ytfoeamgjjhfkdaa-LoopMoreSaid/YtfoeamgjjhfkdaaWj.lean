/- LoopMore, walked. -/
import Derived.Test.YtfoeamgjjhfkdaaWi
namespace Go.Proofs.Ytfoeamgjjhfkdaa
open Go Go.Shelf Go.RowKit Go.Proofs L9

theorem growsC (c : List (List Part)) : Grows (evC c) := fun n m _ _ h h1 => evC_mono c n m h h1
/-- the numbers of a circuit and of its dual -/
theorem number_some (x : List (List Part)) (k : Nat) (hk : k ≤ 8) : numberT (some x) (k : Int) = (((cntT (evC x) (k : Nat) 256 : Nat) : Int), 0) := by
  unfold numberT
  simp only
  rw [if_neg (by omega)]
theorem dual_number {s : List UInt8} {x : List (List Part)} (h : circ s = some x) (hl : (dtC x).length ≤ 40) (k : Nat) (hk : k ≤ 8) :
    numberT (circ (dtC x)) ((8 - k : Nat) : Int) = (((C8 k - cntT (evC x) (k : Nat) 256 : Nat) : Int), 0) ∧ cntT (evC x) (k : Nat) 256 ≤ C8 k := by
  obtain ⟨_, h1, h2, _⟩ := circ_text h
  have hr := dual_read x h1 h2 hl
  have hc := cnt_not (evC x) k hk
  rw [hr, number_some _ (8 - k) (by omega), cnt_congr (fun n hn => duC_ev n hn x h1 h2) (8 - k), cnt_flip (evC x) k hk]
  refine ⟨?_, by omega⟩
  rw [show cntT (fun n => !evC x n) (k : Nat) 256 = C8 k - cntT (evC x) (k : Nat) 256 by omega]

/-- the numbers, one after the other -/
def NumRel (t : Nat → Bool) (k : Nat) (last : Nat) : Prop := last = if k = 0 then 0 else cntT t ((k - 1 : Nat) : Int) 256
theorem num_step (t : Nat → Bool) (ht : Grows t) (k last : Nat) (hk : k ≤ 8) (h0 : 0 < k) (h : NumRel t k last) : last * C8 k ≤ cntT t (k : Int) 256 * C8 (k - 1) := by
  unfold NumRel at h
  rw [if_neg (by omega)] at h
  have := climbs8 t ht (k - 1) (by omega)
  rw [show k - 1 + 1 = k by omega] at this
  rw [h]
  exact this
theorem num_next (t : Nat → Bool) (k : Nat) : NumRel t (k + 1) (cntT t (k : Int) 256) := by
  unfold NumRel
  rw [if_neg (by omega)]
  rfl

theorem NumRel.le {t : Nat → Bool} {k last : Nat} (h : NumRel t k last) : last ≤ 256 := by
  unfold NumRel at h
  split at h
  · omega
  · rw [h]; exact cntT_le _ _ _

set_option maxHeartbeats 8000000 in
set_option maxRecDepth 100000 in
theorem loopMoreL (c : ByteArray) (w : World) (hc : c.size ≤ maxLen) (x : List (List Part)) (ho : circ c.data.toList = some x) (hdl : 40 < (dtC x).length)
    (hl : Calls Try.prog 14 #[.string c, .string ⟨#[]⟩] w fun e w' => e = .returned (.bool false) ∧ w' = w) :
    Calls Try.prog 5 #[.string c] w fun e w' => e = .returned (.bool true) ∧ Below w.heap.size w w' := by
  have HL := Lib.hid hl
  have HF := Lib.hid first_any
  have hv := fun W => refValid c W hc
  rw [ho] at hv
  simp only [Option.isSome_some] at hv
  have HV := Lib.hid hv
  obtain ⟨_, hx1, hx2, _⟩ := circ_text ho
  have HN0 := Lib.hid (cnt_none (evC x) (evC_none x hx2))
  have HN8 := Lib.hid (cnt_one (evC x) (evC_all x hx1 hx2))
  have HLB := Lib.hid (fun k last (h : NumRel (evC x) k last) => h.le)
  have hnn : ∀ (k : Nat) (_ : k ≤ 8) (W : World), Calls Try.prog 32 #[.string c, .int .i64 k] W fun e w' => e = .returned (.tuple #[.int .i64 ((cntT (evC x) (k : Nat) 256 : Nat) : Int), .int .i64 0]) ∧ Below W.heap.size W w' := by
    intro k hk W
    have := numberN_any c k W hc
    rw [ho, number_some x k hk] at this
    exact this
  have HNUM := Lib.hid hnn
  have hd := fun W => dual_any c W hc
  have hdo : dualOf c.data.toList = if 40 < (dtC x).length then ([], 4) else (dtC x, 0) := by unfold dualOf; rw [ho]
  have HO := Lib.hid ho
  rw [hdo] at hd
  clear hdo ho hx1 hx2 hnn hl hv
  rw [if_pos hdl] at hd
  have HD := Lib.hid hd
  clear hd hdl
  go_enter Try.func5, Try.ntmps5
  go_wp2_with fail
  refine HL.out.mono ?_
  rintro e w1 ⟨rfl, rfl⟩
  go_wp2_with fail
  refine (HV.out _).mono ?_
  rintro e w2 ⟨rfl, hb2⟩
  have HB2 := Lib.hid hb2
  clear hb2
  go_wp2_with fail
  refine (HD.out _).mono ?_
  rintro e w3 ⟨rfl, hb3⟩
  have HB3 := Lib.hid (HB2.out.trans (hb3.mono HB2.out.size))
  clear hb3 HB2
  go_wp2_with fail
  go_loopw [5, 6, 7, 8, 9] (fun la i _ _ _ wr => ∃ k last : Nat, k ≤ 9 ∧ i = .int .i64 k ∧ la = .int .i64 last ∧ NumRel (evC x) k last ∧ Below w1.heap.size w1 wr) (fun _ i _ _ _ _ => 9 - (intOf i).toNat)
  case atStart => exact ⟨0, 0, by omega, rfl, rfl, rfl, HB3.out⟩
  case round =>
    obtain ⟨k, last, hk, rfl, rfl, hlast, hb⟩ := hrel
    have HB := Lib.hid hb
    clear hb
    by_cases hlt : k < 9
    · clear HB3 HL HV HD
      have hk8 : k ≤ 8 := by omega
      have hnum := HNUM.out k hk8
      have hN256 := cntT_le (evC x) (k : Int) 256
      have hnx := num_next (evC x) k
      have hch := fun W => choose_any k hk8 W
      have hC70 := C8_le k
      by_cases hk0 : k = 0
      · have hN : cntT (evC x) (k : Int) 256 = 0 := by rw [hk0]; exact HN0.out
        have hC : C8 k = 1 := by rw [hk0]; rfl
        have h0 : ((k : Int) == 0) = true := by rw [hk0]; rfl
        have h8 : ((k : Int) == 8) = false := by rw [hk0]; rfl
        have hle0 : k ≤ 0 := by omega
        rw [hN] at hnx
        simp only [hN] at hnum
        simp only [hC] at hch
        have HNUM2 := Lib.hid hnum
        have HCH := Lib.hid hch
        have HNX := Lib.hid hnx
        clear hk0 hN hC hnum hch hnx hlast hN256 hC70
        go_wp2_with fail
        refine (HNUM2.out _).mono ?_
        rintro e v1 ⟨rfl, hb1⟩
        have HB1 := Lib.hid (HB.out.trans (hb1.mono HB.out.size))
        clear hb1
        go_wp2_with fail
        go_roundw
        case rel => exact ⟨k + 1, 0, by omega, by go_num, rfl, HNX.out, HB1.out⟩
        case measure => simp [intOf]; omega
      · have hk1 : 0 < k := by omega
        have h0 : ((k : Int) == 0) = false := by rw [beq_eq_false_iff_ne]; omega
        have hstep := num_step (evC x) (growsC x) k last hk8 hk1 hlast
        have hcp := fun W => choose_any (k - 1) (by omega) W
        have hC71 := C8_le (k - 1)
        have hsub1 : (k : Int) - 1 = ((k - 1 : Nat) : Int) := by omega
        have hl256 := HLB.out k last hlast
        by_cases hk88 : k = 8
        · have hN : cntT (evC x) (k : Int) 256 = 1 := by rw [hk88]; exact HN8.out
          have hC : C8 k = 1 := by rw [hk88]; rfl
          have hC7 : C8 (k - 1) = 8 := by rw [hk88]; rfl
          have h8 : ((k : Int) == 8) = true := by rw [hk88]; rfl
          rw [hN, hC, hC7] at hstep
          have hl8 : last ≤ 8 := by omega
          rw [hN] at hnx
          simp only [hN] at hnum
          simp only [hC] at hch
          simp only [hC7] at hcp
          have HNUM2 := Lib.hid hnum
          have HCH := Lib.hid hch
          have HCP := Lib.hid hcp
          have HNX := Lib.hid hnx
          clear hk88 hN hC hC7 hnum hch hcp hnx hlast hN256 hC70 hC71 hstep hl256
          generalize k - 1 = k1 at *
          go_wp2_with fail
          refine (HNUM2.out _).mono ?_
          rintro e v1 ⟨rfl, hb1⟩
          have HB1 := Lib.hid (HB.out.trans (hb1.mono HB.out.size))
          clear hb1
          go_wp2_with fail
          refine (HCP.out _).mono ?_
          rintro e v2 ⟨rfl, rfl⟩
          go_wp2_with fail
          refine (HCH.out _).mono ?_
          rintro e v3 ⟨rfl, rfl⟩
          go_wp2_with fail
          go_roundw
          case rel => exact ⟨k + 1, 1, by omega, by go_num, rfl, HNX.out, HB1.out⟩
          case measure => simp [intOf]; omega
        · have h8 : ((k : Int) == 8) = false := by rw [beq_eq_false_iff_ne]; omega
          have hm1 : ((cntT (evC x) (k : Int) 256 : Nat) : Int) * ((C8 (k - 1) : Nat) : Int) = ((cntT (evC x) (k : Int) 256 * C8 (k - 1) : Nat) : Int) := (Int.natCast_mul _ _).symm
          have hm2 : (last : Int) * ((C8 k : Nat) : Int) = ((last * C8 k : Nat) : Int) := (Int.natCast_mul _ _).symm
          have hp1 : cntT (evC x) (k : Int) 256 * C8 (k - 1) ≤ 256 * 70 := Nat.mul_le_mul hN256 hC71
          have hp2 : last * C8 k ≤ 256 * 70 := Nat.mul_le_mul hl256 hC70
          have HNUM2 := Lib.hid hnum
          have HCH := Lib.hid hch
          have HCP := Lib.hid hcp
          have HNX := Lib.hid hnx
          clear hnum hch hcp hnx hlast hk88
          generalize cntT (evC x) (k : Int) 256 * C8 (k - 1) = P at *
          generalize last * C8 k = Q at *
          generalize cntT (evC x) (k : Int) 256 = N at *
          generalize C8 k = C at *
          generalize C8 (k - 1) = C1 at *
          generalize k - 1 = k1 at *
          go_wp2_with fail
          refine (HNUM2.out _).mono ?_
          rintro e v1 ⟨rfl, hb1⟩
          have HB1 := Lib.hid (HB.out.trans (hb1.mono HB.out.size))
          clear hb1
          go_wp2_with fail
          refine (HCP.out _).mono ?_
          rintro e v2 ⟨rfl, rfl⟩
          go_wp2_with fail
          refine (HCH.out _).mono ?_
          rintro e v3 ⟨rfl, rfl⟩
          go_wp2_with fail
          go_roundw
          case rel => exact ⟨k + 1, N, by omega, by go_num, rfl, HNX.out, HB1.out⟩
          case measure => simp [intOf]; omega
    · obtain rfl : k = 9 := by omega
      clear hlast
      go_wp2_with fail
      refine (HF.out _).mono ?_
      rintro e w4 ⟨rfl, hb4⟩
      have HB4 := Lib.hid (HB.out.trans (hb4.mono HB.out.size))
      clear hb4
      go_wp2_with fail
      go_ret
      exact ⟨rfl, HB4.out⟩

set_option maxHeartbeats 8000000 in
set_option maxRecDepth 100000 in
theorem loopMoreS (c : ByteArray) (w : World) (hc : c.size ≤ maxLen) (x : List (List Part)) (ho : circ c.data.toList = some x) (hdl : ¬ 40 < (dtC x).length)
    (hl : Calls Try.prog 14 #[.string c, .string ⟨#[]⟩] w fun e w' => e = .returned (.bool false) ∧ w' = w) :
    Calls Try.prog 5 #[.string c] w fun e w' => e = .returned (.bool true) ∧ Below w.heap.size w w' := by
  have HL := Lib.hid hl
  have HF := Lib.hid first_any
  have hv := fun W => refValid c W hc
  rw [ho] at hv
  simp only [Option.isSome_some] at hv
  have HV := Lib.hid hv
  obtain ⟨_, hx1, hx2, _⟩ := circ_text ho
  have HN0 := Lib.hid (cnt_none (evC x) (evC_none x hx2))
  have HN8 := Lib.hid (cnt_one (evC x) (evC_all x hx1 hx2))
  have HLB := Lib.hid (fun k last (h : NumRel (evC x) k last) => h.le)
  have hnn : ∀ (k : Nat) (_ : k ≤ 8) (W : World), Calls Try.prog 32 #[.string c, .int .i64 k] W fun e w' => e = .returned (.tuple #[.int .i64 ((cntT (evC x) (k : Nat) 256 : Nat) : Int), .int .i64 0]) ∧ Below W.heap.size W w' := by
    intro k hk W
    have := numberN_any c k W hc
    rw [ho, number_some x k hk] at this
    exact this
  have HNUM := Lib.hid hnn
  have hd := fun W => dual_any c W hc
  have hdo : dualOf c.data.toList = if 40 < (dtC x).length then ([], 4) else (dtC x, 0) := by unfold dualOf; rw [ho]
  have HO := Lib.hid ho
  rw [hdo] at hd
  clear hdo ho hx1 hx2 hnn hl hv
  rw [if_neg hdl] at hd
  have HD := Lib.hid hd
  have HDL : Hid ((dtC x).length ≤ 40) := Lib.hid (by omega)
  have HDS : Hid ((⟨(dtC x).toArray⟩ : ByteArray).size ≤ maxLen) := Lib.hid (by rw [bsize]; unfold maxLen; omega)
  clear hd hdl
  go_enter Try.func5, Try.ntmps5
  go_wp2_with fail
  refine HL.out.mono ?_
  rintro e w1 ⟨rfl, rfl⟩
  go_wp2_with fail
  refine (HV.out _).mono ?_
  rintro e w2 ⟨rfl, hb2⟩
  have HB2 := Lib.hid hb2
  clear hb2
  go_wp2_with fail
  refine (HD.out _).mono ?_
  rintro e w3 ⟨rfl, hb3⟩
  have HB3 := Lib.hid (HB2.out.trans (hb3.mono HB2.out.size))
  clear hb3 HB2
  go_wp2_with fail
  go_loopw [5, 6, 7, 8, 9] (fun la i _ _ _ wr => ∃ k last : Nat, k ≤ 9 ∧ i = .int .i64 k ∧ la = .int .i64 last ∧ NumRel (evC x) k last ∧ Below w1.heap.size w1 wr) (fun _ i _ _ _ _ => 9 - (intOf i).toNat)
  case atStart => exact ⟨0, 0, by omega, rfl, rfl, rfl, HB3.out⟩
  case round =>
    obtain ⟨k, last, hk, rfl, rfl, hlast, hb⟩ := hrel
    have HB := Lib.hid hb
    clear hb
    by_cases hlt : k < 9
    · clear HB3 HL HV HD
      have hk8 : k ≤ 8 := by omega
      have hnum := HNUM.out k hk8
      have hN256 := cntT_le (evC x) (k : Int) 256
      have hnx := num_next (evC x) k
      have hch := fun W => choose_any k hk8 W
      have hC70 := C8_le k
      have hdn := dual_number HO.out HDL.out k hk8
      have hnd := (fun W => (numberN_any ⟨(dtC x).toArray⟩ ((8 - k : Nat) : Int) W HDS.out))
      change (∀ W, Calls _ _ _ _ fun e w' => e = .returned (.tuple #[.int .i64 (numberT (circ (dtC x)) ((8 - k : Nat) : Int)).1, .int .i64 (numberT (circ (dtC x)) ((8 - k : Nat) : Int)).2]) ∧ _) at hnd
      simp only [hdn.1] at hnd
      have hle := hdn.2
      have hsub8 : 8 - (k : Int) = ((8 - k : Nat) : Int) := by omega
      clear hdn
      by_cases hk0 : k = 0
      · have hN : cntT (evC x) (k : Int) 256 = 0 := by rw [hk0]; exact HN0.out
        have hC : C8 k = 1 := by rw [hk0]; rfl
        have h0 : ((k : Int) == 0) = true := by rw [hk0]; rfl
        have h8 : ((k : Int) == 8) = false := by rw [hk0]; rfl
        have hle0 : k ≤ 0 := by omega
        rw [hN] at hnx
        simp only [hN] at hnum
        simp only [hC] at hch
        simp only [hN, hC] at hnd
        clear hle
        have HND := Lib.hid hnd
        clear hnd
        generalize 8 - k = k8 at *
        have HNUM2 := Lib.hid hnum
        have HCH := Lib.hid hch
        have HNX := Lib.hid hnx
        clear hk0 hN hC hnum hch hnx hlast hN256 hC70
        go_wp2_with fail
        refine (HNUM2.out _).mono ?_
        rintro e v1 ⟨rfl, hb1⟩
        have HB1 := Lib.hid (HB.out.trans (hb1.mono HB.out.size))
        clear hb1
        go_wp2_with fail
        refine (HND.out _).mono ?_
        rintro e u1 ⟨rfl, hb2⟩
        have HB2 := Lib.hid (HB1.out.trans (hb2.mono HB1.out.size))
        clear hb2
        go_wp2_with fail
        refine (HCH.out _).mono ?_
        rintro e u2 ⟨rfl, rfl⟩
        go_wp2_with fail
        go_roundw
        case rel => exact ⟨k + 1, 0, by omega, by go_num, rfl, HNX.out, HB2.out⟩
        case measure => simp [intOf]; omega
      · have hk1 : 0 < k := by omega
        have h0 : ((k : Int) == 0) = false := by rw [beq_eq_false_iff_ne]; omega
        have hstep := num_step (evC x) (growsC x) k last hk8 hk1 hlast
        have hcp := fun W => choose_any (k - 1) (by omega) W
        have hC71 := C8_le (k - 1)
        have hsub1 : (k : Int) - 1 = ((k - 1 : Nat) : Int) := by omega
        have hl256 := HLB.out k last hlast
        by_cases hk88 : k = 8
        · have hN : cntT (evC x) (k : Int) 256 = 1 := by rw [hk88]; exact HN8.out
          have hC : C8 k = 1 := by rw [hk88]; rfl
          have hC7 : C8 (k - 1) = 8 := by rw [hk88]; rfl
          have h8 : ((k : Int) == 8) = true := by rw [hk88]; rfl
          rw [hN, hC, hC7] at hstep
          have hl8 : last ≤ 8 := by omega
          rw [hN] at hnx
          simp only [hN] at hnum
          simp only [hC] at hch
          simp only [hC7] at hcp
          simp only [hN, hC] at hnd
          clear hle
          have HND := Lib.hid hnd
          clear hnd
          generalize 8 - k = k8 at *
          have HNUM2 := Lib.hid hnum
          have HCH := Lib.hid hch
          have HCP := Lib.hid hcp
          have HNX := Lib.hid hnx
          clear hk88 hN hC hC7 hnum hch hcp hnx hlast hN256 hC70 hC71 hstep hl256
          generalize k - 1 = k1 at *
          go_wp2_with fail
          refine (HNUM2.out _).mono ?_
          rintro e v1 ⟨rfl, hb1⟩
          have HB1 := Lib.hid (HB.out.trans (hb1.mono HB.out.size))
          clear hb1
          go_wp2_with fail
          refine (HCP.out _).mono ?_
          rintro e v2 ⟨rfl, rfl⟩
          go_wp2_with fail
          refine (HCH.out _).mono ?_
          rintro e v3 ⟨rfl, rfl⟩
          go_wp2_with fail
          refine (HND.out _).mono ?_
          rintro e u1 ⟨rfl, hb2⟩
          have HB2 := Lib.hid (HB1.out.trans (hb2.mono HB1.out.size))
          clear hb2
          go_wp2_with fail
          refine (HCH.out _).mono ?_
          rintro e u2 ⟨rfl, rfl⟩
          go_wp2_with fail
          go_roundw
          case rel => exact ⟨k + 1, 1, by omega, by go_num, rfl, HNX.out, HB2.out⟩
          case measure => simp [intOf]; omega
        · have h8 : ((k : Int) == 8) = false := by rw [beq_eq_false_iff_ne]; omega
          have hm1 : ((cntT (evC x) (k : Int) 256 : Nat) : Int) * ((C8 (k - 1) : Nat) : Int) = ((cntT (evC x) (k : Int) 256 * C8 (k - 1) : Nat) : Int) := (Int.natCast_mul _ _).symm
          have hm2 : (last : Int) * ((C8 k : Nat) : Int) = ((last * C8 k : Nat) : Int) := (Int.natCast_mul _ _).symm
          have hp1 : cntT (evC x) (k : Int) 256 * C8 (k - 1) ≤ 256 * 70 := Nat.mul_le_mul hN256 hC71
          have hp2 : last * C8 k ≤ 256 * 70 := Nat.mul_le_mul hl256 hC70
          have hsum : ((cntT (evC x) (k : Nat) 256 : Nat) : Int) + ((C8 k - cntT (evC x) (k : Nat) 256 : Nat) : Int) = ((C8 k : Nat) : Int) := by omega
          have HND := Lib.hid hnd
          clear hnd
          have HNUM2 := Lib.hid hnum
          have HCH := Lib.hid hch
          have HCP := Lib.hid hcp
          have HNX := Lib.hid hnx
          clear hnum hch hcp hnx hlast hk88
          generalize cntT (evC x) (k : Int) 256 * C8 (k - 1) = P at *
          generalize last * C8 k = Q at *
          generalize cntT (evC x) (k : Int) 256 = N at *
          generalize C8 k - N = M at *
          generalize 8 - k = k8 at *
          generalize C8 k = C at *
          generalize C8 (k - 1) = C1 at *
          generalize k - 1 = k1 at *
          go_wp2_with fail
          refine (HNUM2.out _).mono ?_
          rintro e v1 ⟨rfl, hb1⟩
          have HB1 := Lib.hid (HB.out.trans (hb1.mono HB.out.size))
          clear hb1
          go_wp2_with fail
          refine (HCP.out _).mono ?_
          rintro e v2 ⟨rfl, rfl⟩
          go_wp2_with fail
          refine (HCH.out _).mono ?_
          rintro e v3 ⟨rfl, rfl⟩
          go_wp2_with fail
          refine (HND.out _).mono ?_
          rintro e u1 ⟨rfl, hb2⟩
          have HB2 := Lib.hid (HB1.out.trans (hb2.mono HB1.out.size))
          clear hb2
          go_wp2_with fail
          refine (HCH.out _).mono ?_
          rintro e u2 ⟨rfl, rfl⟩
          go_wp2_with fail
          go_roundw
          case rel => exact ⟨k + 1, N, by omega, by go_num, rfl, HNX.out, HB2.out⟩
          case measure => simp [intOf]; omega
    · obtain rfl : k = 9 := by omega
      clear hlast
      go_wp2_with fail
      refine (HF.out _).mono ?_
      rintro e w4 ⟨rfl, hb4⟩
      have HB4 := Lib.hid (HB.out.trans (hb4.mono HB.out.size))
      clear hb4
      go_wp2_with fail
      go_ret
      exact ⟨rfl, HB4.out⟩

set_option maxHeartbeats 4000000 in
set_option maxRecDepth 100000 in
theorem loopMore_any (c : ByteArray) (w : World) (hc : c.size ≤ maxLen) :
    Calls Try.prog 5 #[.string c] w fun e w' => e = .returned (.bool true) ∧ Below w.heap.size w w' := by
  have hl := long_any c ⟨#[]⟩ w hc (by decide)
  have HF := Lib.hid first_any
  by_cases hlong : 200 < c.size ∨ 200 < (⟨#[]⟩ : ByteArray).size
  · rw [decide_eq_true hlong] at hl
    have HL := Lib.hid hl
    clear hlong hl
    go_enter Try.func5, Try.ntmps5
    go_wp2_with fail
    refine HL.out.mono ?_
    rintro e w1 ⟨rfl, rfl⟩
    go_wp2_with fail
    refine (HF.out _).mono ?_
    rintro e w2 ⟨rfl, hb⟩
    go_wp2_with fail
    go_ret
    exact ⟨rfl, hb⟩
  · rw [decide_eq_false hlong] at hl
    clear hlong
    cases ho : circ c.data.toList with
    | none =>
      have hv := fun W => refValid c W hc
      rw [ho] at hv
      simp only [Option.isSome_none] at hv
      have HL := Lib.hid hl
      have HV := Lib.hid hv
      clear ho hl hv
      go_enter Try.func5, Try.ntmps5
      go_wp2_with fail
      refine HL.out.mono ?_
      rintro e w1 ⟨rfl, rfl⟩
      go_wp2_with fail
      refine (HV.out _).mono ?_
      rintro e w2 ⟨rfl, hb2⟩
      go_wp2_with fail
      refine (HF.out _).mono ?_
      rintro e w3 ⟨rfl, hb⟩
      go_wp2_with fail
      go_ret
      exact ⟨rfl, hb2.trans (hb.mono hb2.size)⟩
    | some x =>
      by_cases hdl : 40 < (dtC x).length
      · exact loopMoreL c w hc x ho hdl hl
      · exact loopMoreS c w hc x ho hdl hl
end Go.Proofs.Ytfoeamgjjhfkdaa
