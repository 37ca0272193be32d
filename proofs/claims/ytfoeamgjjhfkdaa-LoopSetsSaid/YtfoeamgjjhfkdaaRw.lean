/- The reference's Number, Needs. -/
import Derived.Test.YtfoeamgjjhfkdaaRs
namespace Go.Proofs.Ytfoeamgjjhfkdaa
open Go Go.Shelf Go.RowKit Go.Proofs L9

set_option maxHeartbeats 4000000 in
set_option maxRecDepth 100000 in
theorem refNumber (s : ByteArray) (k : Int) (w : World) (hm : s.size ≤ maxLen) :
    Calls Try.prog 54 #[.string s, .int .i64 k] w fun e w' => e = .returned (.tuple #[.int .i64 (numberT (circ s.data.toList) k).1, .int .i64 (numberT (circ s.data.toList) k).2]) ∧ Below w.heap.size w w' := by
  have HA := Lib.hid (refAsked0 s w hm)
  unfold PostAsk0 at HA
  generalize circ s.data.toList = o at *
  generalize hz : numberT o k = z
  have HZ := Lib.hid hz
  clear hz
  go_enter Try.func54, Try.ntmps54
  go_wp2_with fail
  refine HA.out.mono ?_
  rintro e w1 ⟨hb, ⟨x, ho, rfl⟩ | ⟨t, ho, rfl⟩⟩
  · obtain ⟨hb2, hT2⟩ := keepTab (t := evC x) hb
    have HS := Lib.hid (alloc_zeros w1)
    have HB2 := Lib.hid hb2
    have HT2 := Lib.hid hT2
    have hzz : z = if k < 0 ∨ 8 < k then (0, 2) else (((cntT (evC x) k 256 : Nat) : Int), 0) := by rw [← HZ.out, ho]; rfl
    clear hb hb2 hT2 ho HA HZ
    by_cases hk : k < 0 ∨ 8 < k
    · rw [if_pos hk] at hzz
      have HZ := Lib.hid hzz
      clear hzz
      rcases hk with hk | hk
      all_goals
        go_wp2_with (refine wpList_store_row rfl 50 _ _ rfl w1.heap.size (tabArr (evC x)) rfl rfl 50 _ HS.out (by rw [tabArr_size]; exact info50) (by rw [tabArr_size, tabArr_size]) (tabArr_one _) ?_)
        go_ret2
        rw [HZ.out]
        exact ⟨rfl, HB2.out⟩
    · rw [if_neg hk] at hzz
      have HZ := Lib.hid hzz
      have hk0 : 0 ≤ k := by omega
      have hk8 : k ≤ 8 := by omega
      clear hzz hk
      go_wp2_with (refine wpList_store_row rfl 50 _ _ rfl w1.heap.size (tabArr (evC x)) rfl rfl 50 _ HS.out (by rw [tabArr_size]; exact info50) (by rw [tabArr_size, tabArr_size]) (tabArr_one _) ?_)
      generalize ((w1.alloc (.cells Try.zeroCells50 50)).setRow w1.heap.size (tabArr (evC x))) = W at *
      have HC := Lib.hid (tabCell HT2.out)
      generalize evC x = t at *
      go_loop [8, 9] (fun n i => ∃ m : Nat, m ≤ 256 ∧ i = .int .i64 m ∧ n = .int .i64 (cntT t k m : Nat)) (fun _ i => 256 - (intOf i).toNat)
      case atStart => exact ⟨0, by omega, rfl, rfl⟩
      case round =>
        obtain ⟨m, hm2, rfl, rfl⟩ := hrel
        by_cases hlt : m < 256
        · have hcell := HC.out m hlt
          have hsu := cntT_succ t k m
          have hle := cntT_le t k m
          have HO := Lib.hid (fun V => refSize m hlt V)
          have hpl := pop_le m
          change Hid (∀ V, Calls _ _ _ _ fun e w' => e = .returned (.int .i64 (pop m : Nat)) ∧ w' = V) at HO
          generalize cntT t k m = N at *
          generalize pop m = P at *
          cases htm : t m with
          | false =>
            rw [htm] at hcell hsu
            have HS := Lib.hid hsu
            clear hsu htm
            go_wp2_with fail
            go_round
            case rel => exact ⟨m + 1, by omega, by go_num, by rw [HS.out]; rfl⟩
            case measure => simp [intOf]; omega
          | true =>
            rw [htm] at hcell hsu
            by_cases hpk : (P : Int) = k
            · have hpk2 : ((P : Int) == k) = true := by simpa using hpk
              rw [hpk2] at hsu
              have HS := Lib.hid hsu
              have HK := Lib.hid hpk
              clear hsu htm hpk
              go_wp2_with fail
              refine (HO.out _).mono ?_
              rintro e w2 ⟨rfl, rfl⟩
              go_wp2_with fail
              go_round
              case rel => exact ⟨m + 1, by omega, by go_num, by rw [HS.out]; go_num⟩
              case measure => simp [intOf]; omega
            · have hpk2 : ((P : Int) == k) = false := by simpa using hpk
              rw [hpk2] at hsu
              have HS := Lib.hid hsu
              have HK := Lib.hid hpk
              clear hsu htm hpk
              go_wp2_with fail
              refine (HO.out _).mono ?_
              rintro e w2 ⟨rfl, rfl⟩
              go_wp2_with fail
              go_round
              case rel => exact ⟨m + 1, by omega, by go_num, by rw [HS.out]; rfl⟩
              case measure => simp [intOf]; omega
        · obtain rfl : m = 256 := by omega
          have hle := cntT_le t k 256
          generalize cntT t k 256 = N at *
          go_wp2_with fail
          go_ret2
          rw [HZ.out]
          exact ⟨rfl, HB2.out⟩
  · have HS := Lib.hid (alloc_zeros w1)
    obtain ⟨hb2, hT2⟩ := keepTab (t := t) hb
    have hzz : z = (0, 90) := by rw [← HZ.out, ho]; rfl
    have HZZ := Lib.hid hzz
    have HB2 := Lib.hid hb2
    clear ho hb hb2 hT2 HZ hzz
    go_wp2_with (refine wpList_store_row rfl 50 _ _ rfl w1.heap.size (tabArr t) rfl rfl 50 _ HS.out (by rw [tabArr_size]; exact info50) (by rw [tabArr_size, tabArr_size]) (tabArr_one _) ?_)
    go_ret2
    rw [HZZ.out]
    exact ⟨rfl, HB2.out⟩

/-- the letters without which nothing conducts, letter by letter -/
def ndTo (t : Nat → Bool) : Nat → Nat
  | 0 => 0
  | k + 1 => if t (255 - 2 ^ k) then ndTo t k else ndTo t k ||| 2 ^ k
theorem ndTo_lt (t : Nat → Bool) : ∀ k, k ≤ 8 → ndTo t k < 256
  | 0, _ => by show 0 < 256; omega
  | k + 1, h => by
    unfold ndTo
    have := ndTo_lt t k (by omega)
    split
    · exact this
    · exact Nat.or_lt_two_pow (n := 8) this (Nat.pow_lt_pow_right (by omega) (by omega))
theorem ndTo_bit (t : Nat → Bool) (i : Nat) : ∀ k, (ndTo t k).testBit i = (decide (i < k) && !t (255 - 2 ^ i))
  | 0 => by simp [ndTo]
  | k + 1 => by
    unfold ndTo
    have ih := ndTo_bit t i k
    by_cases h : i = k
    · subst h
      cases ht : t (255 - 2 ^ i) <;> simp [ih]
    · cases ht : t (255 - 2 ^ k)
      · have h2 : decide (k = i) = false := by simp; omega
        have h3 : decide (i < k + 1) = decide (i < k) := by rw [decide_eq_decide]; omega
        simp only [Bool.false_eq_true, if_false, Nat.testBit_or, Nat.testBit_two_pow, ih, h2, h3, Bool.or_false]
      · have h3 : decide (i < k + 1) = decide (i < k) := by rw [decide_eq_decide]; omega
        simp only [if_true, ih, h3]
theorem andL_bit (i : Nat) : ∀ (l : List Nat) (a : Nat), (andL a l).testBit i = (a.testBit i && l.all (·.testBit i))
  | [], a => by simp [andL]
  | x :: l, a => by
    have := andL_bit i l (a &&& x)
    unfold andL at this ⊢
    rw [List.foldl_cons, this, Nat.testBit_and, List.all_cons, Bool.and_assoc]
theorem lessL_bit (i : Nat) (hi : i < 8) : ∀ (l : List Nat) (a : Nat), (∀ n ∈ l, n < 256) → (lessL a l).testBit i = (a.testBit i && l.all (fun n => !n.testBit i))
  | [], a, _ => by simp [lessL]
  | x :: l, a, h => by
    have := lessL_bit i hi l (a &&& (255 - x)) (fun n hn => h n (List.mem_cons_of_mem _ hn))
    unfold lessL at this ⊢
    have hx := h x List.mem_cons_self
    have hb := bit_not i (255 - x) hi (by omega)
    rw [show 255 - (255 - x) = x by omega] at hb
    rw [List.foldl_cons, this, Nat.testBit_and, List.all_cons, hb, Bool.and_assoc]
theorem byte_ext {a b : Nat} (ha : a < 256) (hb : b < 256) (h : ∀ i, i < 8 → a.testBit i = b.testBit i) : a = b := by
  apply Nat.eq_of_testBit_eq
  intro i
  rcases Nat.lt_or_ge i 8 with hi | hi
  · exact h i hi
  · have h256 : 256 ≤ 2 ^ i := Nat.pow_le_pow_right (n := 2) (by omega) hi
    rw [Nat.testBit_lt_two_pow (by omega), Nat.testBit_lt_two_pow (by omega)]
/-- a minimal set is among the least -/
theorem mem_least (q : Nat → Bool) (n : Nat) (hn : n < 256) : n ∈ leastL q ↔ IsMin q n := by
  rw [least_filter, List.mem_filter, isMin_iff q n hn]
  exact ⟨fun h => h.2, fun h => ⟨order_all n hn, h⟩⟩
theorem without_bit (k i : Nat) (hk : k < 8) (hi : i < 8) : (255 - 2 ^ k).testBit i = decide (i ≠ k) := by
  have : ((List.range 8).all fun k => (List.range 8).all fun i => (255 - 2 ^ k).testBit i == decide (i ≠ k)) = true := by decide
  simpa using all2 8 8 this k i hk hi
theorem needs_eq (t : Nat → Bool) (ht : Grows t) : andL 255 (leastL t) = ndTo t 8 := by
  refine byte_ext (andL_lt _ _ (by omega)) (ndTo_lt t 8 (by omega)) fun i hi => ?_
  rw [andL_bit, ndTo_bit, bit255 i hi, decide_eq_true hi, Bool.true_and, Bool.true_and]
  have hp : 2 ^ i < 256 := Nat.pow_lt_pow_right (n := 8) (by omega) hi
  cases hx : t (255 - 2 ^ i) with
  | true =>
    rw [Bool.not_true, List.all_eq_false]
    obtain ⟨m, hm, hle, hmin⟩ := min_under t _ (255 - 2 ^ i) (Nat.le_refl _) (Nat.lt_of_le_of_lt (Nat.sub_le _ _) (by decide)) hx
    refine ⟨m, (mem_least t m hm).2 hmin, fun hb => ?_⟩
    have h1 := hle i hb
    rw [without_bit i i hi hi] at h1
    simp at h1
  | false =>
    rw [Bool.not_false, List.all_eq_true]
    intro m hm
    have hm256 := (leastL_mem t m hm).1
    cases hb : m.testBit i with
    | true => rfl
    | false =>
      have hle : Le m (255 - 2 ^ i) := by
        intro j hj
        have hj8 := bit_lt8 hm256 hj
        rw [without_bit i j hi hj8]
        by_cases hji : j = i
        · subst hji; rw [hb] at hj; cases hj
        · simp [hji]
      have := ht m (255 - 2 ^ i) hm256 (Nat.lt_of_le_of_lt (Nat.sub_le _ _) (by decide)) hle (leastL_mem t m hm).2
      rw [hx] at this
      cases this
end Go.Proofs.Ytfoeamgjjhfkdaa
