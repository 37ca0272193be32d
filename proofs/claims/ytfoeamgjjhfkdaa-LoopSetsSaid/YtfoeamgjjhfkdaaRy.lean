/- The reference's set, Closed, Opened. -/
import Derived.Test.YtfoeamgjjhfkdaaRx
namespace Go.Proofs.Ytfoeamgjjhfkdaa
open Go Go.Shelf Go.RowKit Go.Proofs L9

theorem pop_add (acc i : Nat) (ha : acc < 256) (hi : i < 8) (h : acc.testBit i = false) : pop (acc ||| 2 ^ i) = pop acc + 1 := by
  have := all2 (p := fun a i => a.testBit i || pop (a ||| 2 ^ i) == pop a + 1) 256 8 (by decide +kernel) acc i ha hi
  rw [h] at this
  simpa using this
theorem setN_pop : ∀ (s : List UInt8) (la : Int) (acc n : Nat), acc < 256 → (∀ i, acc.testBit i = true → (i : Int) ≤ la) → setN la acc s = some n → pop n = pop acc + s.length
  | [], _, acc, n, _, _, h => by
    have : acc = n := by simpa [setN] using h
    subst this
    simp
  | b :: r, la, acc, n, ha, hla, h => by
    rw [setN_cons] at h
    by_cases hb : (isLet b && decide ((b.toNat : Int) - 97 > la)) = true
    · rw [if_pos hb] at h
      simp only [Bool.and_eq_true, decide_eq_true_eq] at hb
      have hl := (isLet_iff b).1 hb.1
      have hi : b.toNat - 97 < 8 := by omega
      have hno : acc.testBit (b.toNat - 97) = false := by
        cases hx : acc.testBit (b.toNat - 97) with
        | false => rfl
        | true => have := hla _ hx; omega
      have := setN_pop r ((b.toNat : Int) - 97) _ n (Nat.or_lt_two_pow (n := 8) ha (Nat.pow_lt_pow_right (by omega) hi)) (by
        intro i hbit
        rw [Nat.testBit_or, Nat.testBit_two_pow, Bool.or_eq_true] at hbit
        rcases hbit with h1 | h1
        · have := hla i h1; omega
        · have : b.toNat - 97 = i := by simpa using h1
          omega) h
      rw [this, pop_add acc _ ha hi hno, List.length_cons]
      omega
    · rw [if_neg hb] at h; cases h
theorem pop_zero : pop 0 = 0 := by decide +kernel
theorem setOf_pop {s : List UInt8} {n : Nat} (h : setOf s = some n) : pop n = s.length := by
  have := setN_pop s (-1) 0 n (by omega) (by intro i h; simp at h) h
  rw [this, pop_zero]
  omega
theorem one_letter (n : Nat) (hn : n < 256) (h : pop n = 1) : ∃ k, k < 8 ∧ n = 2 ^ k := by
  have := all2 (p := fun n _ => !(pop n == 1) || (List.range 8).any (fun k => n == 2 ^ k)) 256 1 (by decide +kernel) n 0 hn (by omega)
  rw [h] at this
  simp only [beq_self_eq_true, Bool.not_true, Bool.false_or, List.any_eq_true, beq_iff_eq] at this
  obtain ⟨k, hk, e⟩ := this
  exact ⟨k, List.mem_range.1 hk, e⟩
theorem or_sub (i n : Nat) (hi : i < 256) (hn : n < 256) (h : pop n = 1) : (i ||| n) - n = i &&& (255 - n) ∧ n ≤ i ||| n := by
  obtain ⟨k, hk, rfl⟩ := one_letter n hn h
  have := all2 (p := fun i k => (i ||| 2 ^ k) - 2 ^ k == i &&& (255 - 2 ^ k)) 256 8 (by decide +kernel) i k hi hk
  exact ⟨by simpa using this, Nat.right_le_or⟩
theorem putL_grows (t : Nat → Bool) (ht : Grows t) (closed : Bool) (n : Nat) (hn : n < 256) : Grows fun i => t (putL closed n i) := by
  intro i j hi hj h
  refine ht _ _ (putL_lt closed n i hn hi) (putL_lt closed n j hn hj) fun k hk => ?_
  unfold putL at *
  cases closed with
  | true =>
    simp only [if_true, Nat.testBit_or, Bool.or_eq_true] at hk ⊢
    exact hk.imp (h k) id
  | false =>
    simp only [Bool.false_eq_true, if_false, Nat.testBit_and, Bool.and_eq_true] at hk ⊢
    exact ⟨h k hk.1, hk.2⟩

set_option maxHeartbeats 8000000 in
set_option maxRecDepth 100000 in
theorem refSet (s one : ByteArray) (closed : Bool) (w : World) (hm : s.size ≤ maxLen) (ho1 : one.size ≤ 1000000) :
    Calls Try.prog 81 #[.string s, .string one, .bool closed] w fun e w' => e = .returned (.tuple #[.string ⟨(fixedF (circ s.data.toList) (setOf one.data.toList) closed).1.toArray⟩, .int .i64 (fixedF (circ s.data.toList) (setOf one.data.toList) closed).2]) ∧ Below w.heap.size w w' := by
  have HA := Lib.hid (refAsked0 s w hm)
  unfold PostAsk0 at HA
  have HV := Lib.hid (fun W => refValidSet one W ho1)
  have HBI := Lib.hid (fun m h W => refBits one m W ho1 h)
  have HQ := Lib.hid (setOf_lt one.data.toList)
  have HP := Lib.hid (fun n => setOf_pop (s := one.data.toList) (n := n))
  have hsl := size_list one
  rw [hsl] at HP
  generalize circ s.data.toList = o at *
  generalize setOf one.data.toList = q at *
  generalize hz : fixedF o q closed = z
  have HZ := Lib.hid hz
  clear hz hsl
  go_enter Try.func81, Try.ntmps81
  go_wp2_with fail
  refine HA.out.mono ?_
  rintro e w1 ⟨hb, ⟨x, ho, rfl⟩ | ⟨t, ho, rfl⟩⟩
  · obtain ⟨hb2, hT2⟩ := keepTab (t := evC x) hb
    have HS := Lib.hid (alloc_zeros w1)
    have HB2 := Lib.hid hb2
    have HT2 := Lib.hid hT2
    have HO := Lib.hid ho
    clear hb hb2 hT2 ho HA
    by_cases hone : one.size = 1
    · have h1 : ((one.size : Int) == 1) = true := by rw [hone]; rfl
      have h1' : ((one.size : Int) != 1) = false := by rw [hone]; rfl
      have HONE := Lib.hid hone
      clear hone
      go_wp2_with (refine wpList_store_row rfl 50 _ _ rfl w1.heap.size (tabArr (evC x)) rfl rfl 50 _ HS.out (by rw [tabArr_size]; exact info50) (by rw [tabArr_size, tabArr_size]) (tabArr_one _) ?_)
      generalize ((w1.alloc (.cells Try.zeroCells50 50)).setRow w1.heap.size (tabArr (evC x))) = W at *
      refine (HV.out _).mono ?_
      rintro e w3 ⟨rfl, nq, rfl⟩
      cases q with
      | none =>
        have hzz : z = ([], 2) := by rw [← HZ.out, HO.out]; rfl
        have HZZ := Lib.hid hzz
        clear hzz HZ
        simp only [Option.isSome_none]
        go_wp2_with fail
        go_ret2
        rw [HZZ.out]
        exact ⟨rfl, HB2.out.trans (drewN_below _ _ _)⟩
      | some n =>
        have hn := HQ.out n rfl
        have hp := HP.out n rfl
        rw [HONE.out] at hp
        have HBN := Lib.hid (HBI.out n rfl)
        have hzz : z = fixedT (evC x) closed n := by rw [← HZ.out, HO.out]; unfold fixedF; simp only; rw [if_pos hp]
        have HZZ := Lib.hid hzz
        have HOS := Lib.hid (fun i hi => or_sub i n hi hn hp)
        have HGR := Lib.hid (putL_grows (evC x) (grows_C x) closed n hn)
        clear hzz HZ hp
        have hT3 : (W.drewN nq).heap[w1.heap.size]? = some (.cells (tabArr (evC x)) 50 (0, 0)) := HT2.out
        have HB3 := Lib.hid (HB2.out.trans (drewN_below _ _ nq))
        generalize W.drewN nq = V at *
        have HT3 := Lib.hid hT3
        have hlt1 := heap_lt hT3
        clear hT3 HB2 HT2
        have hstart : TabTo V.heap.size (fun i => evC x (putL closed n i)) (fun _ => false) 0 (V.alloc (.cells Try.zeroCells50 50)) := by
          apply TabTo.of_full
          rw [← zeros50]
          exact alloc_last _ _
        have HST := Lib.hid hstart
        have hb0 : Below V.heap.size V (V.alloc (.cells Try.zeroCells50 50)) := (Below.refl _ _).alloc (Nat.le_refl _) _
        have HB0 := Lib.hid hb0
        clear hstart hb0
        simp only [Option.isSome_some]
        go_wp2_with fail
        go_loopw [11, 12] (fun i _ wr => ∃ m : Nat, m ≤ 256 ∧ i = .int .i64 m ∧ TabTo V.heap.size (fun i => evC x (putL closed n i)) (fun _ => false) m wr ∧ Below V.heap.size V wr) (fun i _ _ => 256 - (intOf i).toNat)
        case atStart => exact ⟨0, by omega, rfl, HST.out, HB0.out⟩
        case round =>
          obtain ⟨m, hm2, rfl, htab, hb1⟩ := hrel
          by_cases hlt : m < 256
          · have hput := putL_lt closed n m hn hlt
            have hcell : wr.cell? ⟨w1.heap.size, putL closed n m, none⟩ = some (.bool (evC x (putL closed n m))) := by
              rw [hb1.cell (p := ⟨w1.heap.size, putL closed n m, none⟩) hlt1]; exact tabCell HT3.out _ hput
            have hold := htab.cell m hlt
            have hfz := htab.frozen m
            have hst := htab.step hlt
            have HNX := Lib.hid hst
            have HBB := Lib.hid hb1
            have hor := bits_or m n hlt hn
            have hosb := HOS.out m hlt
            have horl : m ||| n < 2 ^ 8 := Nat.or_lt_two_pow hlt hn
            generalize (if m < m then evC x (putL closed n m) else false) = old at hold
            clear hst htab hb1
            generalize evC x (putL closed n m) = y at *
            cases closed with
            | true =>
              change bits .or .i64 (m : Int) (n : Int) = ((putL true n m : Nat) : Int) at hor
              generalize putL true n m = M at *
              clear hosb horl
              go_wp2_with fail
              refine (HBN.out _).mono ?_
              rintro e w4 ⟨rfl, rfl⟩
              go_wp2_with fail
              go_roundw
              case rel => exact ⟨m + 1, by omega, by go_num, HNX.out, HBB.out.setCell (p := ⟨V.heap.size, m, none⟩) (Nat.le_refl _) _⟩
              case measure => simp [intOf]; omega
            | false =>
              have hmm : (m ||| n) - n = putL false n m := hosb.1
              have hle := hosb.2
              generalize putL false n m = M at *
              have hsub : ((m ||| n : Nat) : Int) - (n : Int) = (M : Int) := by omega
              generalize (m ||| n : Nat) = MN at *
              clear hosb hmm
              go_wp2_with fail
              refine (HBN.out _).mono ?_
              rintro e w4 ⟨rfl, rfl⟩
              go_wp2_with fail
              refine (HBN.out _).mono ?_
              rintro e w5 ⟨rfl, rfl⟩
              go_wp2_with fail
              go_roundw
              case rel => exact ⟨m + 1, by omega, by go_num, HNX.out, HBB.out.setCell (p := ⟨V.heap.size, m, none⟩) (Nat.le_refl _) _⟩
              case measure => simp [intOf]; omega
          · obtain rfl : m = 256 := by omega
            have hfull := htab.full
            have hc0 := tabCell hfull 0 (by omega)
            have hc255 := tabCell hfull 255 (by omega)
            change wr.cell? _ = some (.bool ((fun i => evC x (putL closed n i)) 0)) at hc0
            change wr.cell? _ = some (.bool ((fun i => evC x (putL closed n i)) 255)) at hc255
            have HF := Lib.hid hfull
            have HB5 := Lib.hid (HB3.out.trans (hb1.mono HB3.out.size))
            have HPL := Lib.hid (fun U => refPlainM _ HGR.out U)
            have hft : fixedT (evC x) closed n = if (fun i => evC x (putL closed n i)) 0 || !(fun i => evC x (putL closed n i)) 255 then ([], 5) else refPl (fun i => evC x (putL closed n i)) := rfl
            have HFT := Lib.hid hft
            have HSZ := Lib.hid (tabArr_size fun i => evC x (putL closed n i))
            clear htab hb1 hfull hft
            generalize fixedT (evC x) closed n = f at *
            generalize (fun i => evC x (putL closed n i)) = u at *
            generalize refPl u = rp at *
            cases h0 : u 0 with
            | true =>
              have hf : f = ([], 5) := by rw [HFT.out, h0]; rfl
              rw [h0] at hc0
              have HFF := Lib.hid hf
              clear hf h0 HFT
              go_wp2_with fail
              go_ret2
              rw [HZZ.out, HFF.out]
              exact ⟨rfl, HB5.out⟩
            | false =>
              cases h255 : u 255 with
              | false =>
                have hf : f = ([], 5) := by rw [HFT.out, h0, h255]; rfl
                rw [h0] at hc0
                rw [h255] at hc255
                have HFF := Lib.hid hf
                clear hf h0 h255 HFT
                go_wp2_with fail
                go_ret2
                rw [HZZ.out, HFF.out]
                exact ⟨rfl, HB5.out⟩
              | true =>
                have hf : f = rp := by rw [HFT.out, h0, h255]; rfl
                rw [h0] at hc0
                rw [h255] at hc255
                have HFF := Lib.hid hf
                clear hf h0 h255 HFT
                go_wp2_with (refine wpList_load_row rfl 50 _ rfl V.heap.size rfl 50 (tabArr u) (0, 0) _ HF.out Try.underlying50 rfl (by rw [HSZ.out]; exact info50) ?_)
                refine (HPL.out _).mono ?_
                rintro e w6 ⟨rfl, hb6⟩
                have HB6 := Lib.hid (HB5.out.trans (hb6.mono HB5.out.size))
                clear hb6
                go_wp2_with fail
                go_ret2
                rw [HZZ.out, HFF.out]
                exact ⟨rfl, HB6.out⟩
    · have h1 : ((one.size : Int) == 1) = false := by rw [beq_eq_false_iff_ne]; omega
      have h1' : ((one.size : Int) != 1) = true := by simpa using h1
      have hzz : z = ([], 2) := by
        rw [← HZ.out, HO.out]
        unfold fixedF
        cases q with
        | none => rfl
        | some n =>
          simp only
          rw [if_neg (by rw [HP.out n rfl]; exact hone)]
      have HZZ := Lib.hid hzz
      clear hone hzz HZ
      go_wp2_with (refine wpList_store_row rfl 50 _ _ rfl w1.heap.size (tabArr (evC x)) rfl rfl 50 _ HS.out (by rw [tabArr_size]; exact info50) (by rw [tabArr_size, tabArr_size]) (tabArr_one _) ?_)
      go_ret2
      rw [HZZ.out]
      exact ⟨rfl, HB2.out⟩
  · have HS := Lib.hid (alloc_zeros w1)
    obtain ⟨hb2, hT2⟩ := keepTab (t := t) hb
    have hzz : z = ([], 90) := by rw [← HZ.out, ho]; rfl
    have HZZ := Lib.hid hzz
    have HB2 := Lib.hid hb2
    clear ho hb hb2 hT2 HZ hzz
    go_wp2_with (refine wpList_store_row rfl 50 _ _ rfl w1.heap.size (tabArr t) rfl rfl 50 _ HS.out (by rw [tabArr_size]; exact info50) (by rw [tabArr_size, tabArr_size]) (tabArr_one _) ?_)
    go_ret2
    rw [HZZ.out]
    exact ⟨rfl, HB2.out⟩

theorem refClosed (s one : ByteArray) (w : World) (hm : s.size ≤ maxLen) (ho : one.size ≤ 1000000) :
    Calls Try.prog 43 #[.string s, .string one] w fun e w' => e = .returned (.tuple #[.string ⟨(fixedF (circ s.data.toList) (setOf one.data.toList) true).1.toArray⟩, .int .i64 (fixedF (circ s.data.toList) (setOf one.data.toList) true).2]) ∧ Below w.heap.size w w' := by
  have H := Lib.hid (refSet s one true w hm ho)
  generalize fixedF (circ s.data.toList) (setOf one.data.toList) true = z at *
  go_enter Try.func43, Try.ntmps43
  go_wp2_with fail
  refine H.out.mono ?_
  rintro e w1 ⟨rfl, hb⟩
  go_wp2_with fail
  go_ret2
  exact ⟨rfl, hb⟩
theorem refOpened (s one : ByteArray) (w : World) (hm : s.size ≤ maxLen) (ho : one.size ≤ 1000000) :
    Calls Try.prog 45 #[.string s, .string one] w fun e w' => e = .returned (.tuple #[.string ⟨(fixedF (circ s.data.toList) (setOf one.data.toList) false).1.toArray⟩, .int .i64 (fixedF (circ s.data.toList) (setOf one.data.toList) false).2]) ∧ Below w.heap.size w w' := by
  have H := Lib.hid (refSet s one false w hm ho)
  generalize fixedF (circ s.data.toList) (setOf one.data.toList) false = z at *
  go_enter Try.func45, Try.ntmps45
  go_wp2_with fail
  refine H.out.mono ?_
  rintro e w1 ⟨rfl, hb⟩
  go_wp2_with fail
  go_ret2
  exact ⟨rfl, hb⟩
end Go.Proofs.Ytfoeamgjjhfkdaa
