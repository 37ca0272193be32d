/- The least sets of which something holds that grows. -/
import Derived.Test.YtfoeamgjjhfkdaaTf
import Derived.Test.YtfoeamgjjhfkdaaNb
namespace Go.Proofs.Ytfoeamgjjhfkdaa
open Go Go.Shelf Go.RowKit Go.Proofs L9

theorem bits_andNot (a b : Nat) (ha : a < 256) (hb : b < 256) : bits .andNot .i64 (a : Int) (b : Int) = ((a &&& (255 - b) : Nat) : Int) := by
  have h : (BitVec.ofInt 64 (a : Int) &&& ~~~BitVec.ofInt 64 (b : Int)).toNat = a &&& (255 - b) := by
    rw [BitVec.ofInt_natCast, BitVec.ofInt_natCast, BitVec.toNat_and, BitVec.toNat_not, BitVec.toNat_ofNat, BitVec.toNat_ofNat, Nat.mod_eq_of_lt (by omega), Nat.mod_eq_of_lt (by omega)]
    apply Nat.eq_of_testBit_eq
    intro i
    rw [Nat.testBit_and, Nat.testBit_and]
    by_cases hi : i < 8
    · rw [show 255 - b = 2 ^ 8 - (b + 1) by omega, show 2 ^ 64 - 1 - b = 2 ^ 64 - (b + 1) by omega, Nat.testBit_two_pow_sub_succ (by omega), Nat.testBit_two_pow_sub_succ (by omega)]
      simp [hi, show i < 64 by omega]
    · have h256 : 256 ≤ 2 ^ i := Nat.pow_le_pow_right (n := 2) (by omega) (show 8 ≤ i by omega)
      rw [Nat.testBit_lt_two_pow (by omega : a < 2 ^ i)]
      simp
  have h2 : a &&& (255 - b) < 256 := Nat.lt_of_le_of_lt Nat.and_le_left ha
  unfold bits
  show IntKind.i64.wrap ((BitVec.ofInt 64 (a : Int) &&& ~~~BitVec.ofInt 64 (b : Int)).toNat : Int) = _
  rw [h, IntKind.wrap_i64]
  omega

theorem sub_le (a b : Nat) (ha : a < 256) (hb : b < 256) : sub a b = true ↔ Le a b := by
  unfold sub
  rw [bits_andNot a b ha hb, beq_iff_eq]
  constructor
  · intro h i hi
    have h0 : a &&& (255 - b) = 0 := by omega
    have h1 := congrArg (Nat.testBit · i) h0
    simp only [Nat.testBit_and, Nat.zero_testBit, hi, Bool.true_and] at h1
    have h8 : i < 8 := by
      rcases Nat.lt_or_ge i 8 with h | h
      · exact h
      · have h256 : 256 ≤ 2 ^ i := Nat.pow_le_pow_right (n := 2) (by omega) h
        rw [Nat.testBit_lt_two_pow (by omega : a < 2 ^ i)] at hi
        cases hi
    rw [bit_not i b h8 hb, h1]
    rfl
  · intro h
    have : a &&& (255 - b) = 0 := by
      apply Nat.eq_of_testBit_eq
      intro i
      rw [Nat.testBit_and, Nat.zero_testBit]
      cases hi : a.testBit i with
      | false => rfl
      | true =>
        have hb' := h i hi
        have h8 : i < 8 := by
          rcases Nat.lt_or_ge i 8 with h | h
          · exact h
          · have h256 : 256 ≤ 2 ^ i := Nat.pow_le_pow_right (n := 2) (by omega) h
            rw [Nat.testBit_lt_two_pow (by omega : a < 2 ^ i)] at hi
            cases hi
        rw [bit_not i b h8 hb] at hb'
        simpa using hb'
    rw [this]
    rfl
theorem L9.Le.refl (a : Nat) : Le a a := fun _ h => h
theorem L9.Le.trans {a b c : Nat} (h : Le a b) (k : Le b c) : Le a c := fun i hi => k i (h i hi)
theorem L9.Le.antisymm {a b : Nat} (h : Le a b) (k : Le b a) : a = b := by
  apply Nat.eq_of_testBit_eq
  intro i
  cases ha : a.testBit i with
  | true => rw [h i ha]
  | false =>
    cases hb : b.testBit i with
    | true => rw [k i hb] at ha; cases ha
    | false => rfl
theorem bit_lt8 {a i : Nat} (ha : a < 256) (h : a.testBit i = true) : i < 8 := by
  rcases Nat.lt_or_ge i 8 with h' | h'
  · exact h'
  · have h256 : 256 ≤ 2 ^ i := Nat.pow_le_pow_right (n := 2) (by omega) h'
    rw [Nat.testBit_lt_two_pow (by omega : a < 2 ^ i)] at h
    cases h

/-- how many letters: counted -/
theorem pop_count (n : Nat) : pop n = ((List.range 8).filter (n.testBit ·)).length := by
  unfold pop txt txtTo
  rw [List.length_map]
theorem pop_le_of {a b : Nat} (h : Le a b) : pop a ≤ pop b := by
  rw [pop_count, pop_count, ← List.countP_eq_length_filter, ← List.countP_eq_length_filter]
  exact List.countP_mono_left (fun i _ hi => h i hi)
theorem pop_lt_of {a b : Nat} (hb : b < 256) (h : Le a b) (hne : a ≠ b) : pop a < pop b := by
  obtain ⟨i, hi, hn⟩ : ∃ i, b.testBit i = true ∧ a.testBit i = false := by
    apply Classical.byContradiction
    intro hno
    apply hne
    apply Le.antisymm h
    intro i hi
    cases ha : a.testBit i with
    | true => rfl
    | false => exact absurd ⟨i, hi, ha⟩ hno
  have h8 := bit_lt8 hb hi
  rw [pop_count, pop_count, ← List.countP_eq_length_filter, ← List.countP_eq_length_filter]
  have hmem : i ∈ List.range 8 := List.mem_range.2 h8
  obtain ⟨s, t, e⟩ := List.append_of_mem hmem
  rw [e, List.countP_append, List.countP_append, List.countP_cons, List.countP_cons, if_pos hi, if_neg (by rw [hn]; simp)]
  have h1 : List.countP (a.testBit ·) s ≤ List.countP (b.testBit ·) s := List.countP_mono_left (fun i _ hi => h i hi)
  have h2 : List.countP (a.testBit ·) t ≤ List.countP (b.testBit ·) t := List.countP_mono_left (fun i _ hi => h i hi)
  omega

/-- a set has something, and no part of it has -/
def IsMin (q : Nat → Bool) (n : Nat) : Prop := q n = true ∧ ∀ m, m < 256 → Le m n → q m = true → m = n
theorem min_under (q : Nat → Bool) : ∀ (k n : Nat), pop n ≤ k → n < 256 → q n = true → ∃ m, m < 256 ∧ Le m n ∧ IsMin q m := by
  intro k
  induction k with
  | zero =>
    intro n hk hn hq
    refine ⟨n, hn, Le.refl n, hq, fun m _ hmn _ => ?_⟩
    apply Classical.byContradiction
    intro hne
    have := pop_lt_of hn hmn hne
    omega
  | succ k ih =>
    intro n hk hn hq
    by_cases h : IsMin q n
    · exact ⟨n, hn, Le.refl n, h⟩
    · obtain ⟨m, hm, hmn, hqm, hne⟩ : ∃ m, m < 256 ∧ Le m n ∧ q m = true ∧ m ≠ n := by
        apply Classical.byContradiction
        intro hno
        apply h
        refine ⟨hq, fun m hm hmn hqm => ?_⟩
        apply Classical.byContradiction
        intro hne
        exact hno ⟨m, hm, hmn, hqm, hne⟩
      have := pop_lt_of hn hmn hne
      obtain ⟨m', h1, h2, h3⟩ := ih m (by omega) hm hqm
      exact ⟨m', h1, h2.trans hmn, h3⟩

/-- a way to decide it -/
def isMin (q : Nat → Bool) (n : Nat) : Bool := q n && (List.range 256).all fun m => !(sub m n && q m) || m == n
theorem isMin_iff (q : Nat → Bool) (n : Nat) (hn : n < 256) : isMin q n = true ↔ IsMin q n := by
  unfold isMin IsMin
  rw [Bool.and_eq_true, List.all_eq_true]
  refine and_congr_right fun _ => ?_
  constructor
  · intro h m hm hmn hq
    have := h m (List.mem_range.2 hm)
    rw [(sub_le m n hm hn).2 hmn, hq] at this
    simpa using this
  · intro h m hm
    rw [List.mem_range] at hm
    cases hs : sub m n with
    | false => simp
    | true =>
      cases hq : q m with
      | false => simp
      | true =>
        have := h m hm ((sub_le m n hm hn).1 hs) hq
        simp [this]

theorem order_parts {s t : List Nat} {n : Nat} (h : order = s ++ n :: t) : ∀ m, m < 256 → pop m < pop n → m ∈ s := by
  intro m hm hp
  have hmem := order_all m hm
  have hsort := order_sorted
  rw [h] at hmem hsort
  rcases List.mem_append.1 hmem with h1 | h1
  · exact h1
  · have h2 := (List.pairwise_append.1 hsort).2.1
    rcases List.mem_cons.1 h1 with rfl | h1
    · omega
    · have h3 := (List.pairwise_cons.1 h2).1 m h1
      rw [sLt_iff] at h3
      omega

theorem least_filter_aux (q : Nat → Bool) : ∀ (t s : List Nat), order = s ++ t → t.foldl (leastStep q) (s.filter (isMin q)) = (s ++ t).filter (isMin q) := by
  intro t
  induction t with
  | nil => intro s _; simp
  | cons n t ih =>
    intro s h
    rw [List.foldl_cons]
    have hn : n < 256 := order_lt n (by rw [h]; simp)
    have hs : ∀ x ∈ s, x < 256 := fun x hx => order_lt x (by rw [h]; simp [hx])
    have hnd : n ∉ s := by
      have := order_nodup
      rw [h] at this
      intro hx
      exact (List.nodup_append.1 this).2.2 n hx n (by simp) rfl
    have hstep : leastStep q (s.filter (isMin q)) n = (s ++ [n]).filter (isMin q) := by
      rw [List.filter_append]
      unfold leastStep
      cases hm : isMin q n with
      | true =>
        have hM := (isMin_iff q n hn).1 hm
        have hany : (s.filter (isMin q)).any (sub · n) = false := by
          rw [List.any_eq_false]
          intro x hx hsx
          rw [List.mem_filter] at hx
          have hx2 := (isMin_iff q x (hs x hx.1)).1 hx.2
          have := hM.2 x (hs x hx.1) ((sub_le x n (hs x hx.1) hn).1 hsx) hx2.1
          exact hnd (this ▸ hx.1)
        rw [hM.1, hany]
        simp [hm]
      | false =>
        have : ¬ IsMin q n := fun h => by rw [(isMin_iff q n hn).2 h] at hm; cases hm
        cases hq : q n with
        | false => simp [hm]
        | true =>
          obtain ⟨m, hm1, hm2, hm3⟩ := min_under q (pop n) n (Nat.le_refl _) hn hq
          have hne : m ≠ n := fun e => this (e ▸ hm3)
          have hin := order_parts h m hm1 (pop_lt_of hn hm2 hne)
          have hany : (s.filter (isMin q)).any (sub · n) = true := by
            rw [List.any_eq_true]
            exact ⟨m, List.mem_filter.2 ⟨hin, (isMin_iff q m hm1).2 hm3⟩, (sub_le m n hm1 hn).2 hm2⟩
          rw [hany]
          simp [hm]
    rw [hstep, ih (s ++ [n]) (by rw [h]; simp)]
    simp
theorem least_filter (q : Nat → Bool) : leastL q = order.filter (isMin q) := by
  have := least_filter_aux q order [] rfl
  simpa [leastL] using this

/-- what holds of a set holds of all that have it -/
def Grows (q : Nat → Bool) : Prop := ∀ n m, n < 256 → m < 256 → Le n m → q n = true → q m = true
/-- the reference's test -/
def isMin1 (q : Nat → Bool) (n : Nat) : Bool := q n && (List.range 8).all fun k => !(n.testBit k && q (n - 2 ^ k))
theorem testBit_sub_pow_all : ((List.range 256).all fun n => (List.range 8).all fun k => (List.range 8).all fun i => !n.testBit k || (n - 2 ^ k).testBit i == (n.testBit i && decide (i ≠ k))) = true := by decide +kernel
theorem testBit_sub_pow (n k i : Nat) (hn : n < 256) (h : n.testBit k = true) : (n - 2 ^ k).testBit i = (n.testBit i && decide (i ≠ k)) := by
  have hk := bit_lt8 hn h
  rcases Nat.lt_or_ge i 8 with hi | hi
  · have := testBit_sub_pow_all
    rw [List.all_eq_true] at this
    have := this n (List.mem_range.2 hn)
    rw [List.all_eq_true] at this
    have := this k (List.mem_range.2 hk)
    rw [List.all_eq_true] at this
    have := this i (List.mem_range.2 hi)
    rw [h] at this
    simpa using this
  · have h256 : 256 ≤ 2 ^ i := Nat.pow_le_pow_right (n := 2) (by omega) hi
    rw [Nat.testBit_lt_two_pow (Nat.lt_of_le_of_lt (Nat.sub_le _ _) (by omega)), Nat.testBit_lt_two_pow (by omega : n < 2 ^ i)]
    rfl
theorem pow_le_of_bit {n k : Nat} (h : n.testBit k = true) : 2 ^ k ≤ n := Nat.ge_two_pow_of_testBit h
theorem isMin1_iff (q : Nat → Bool) (hq : Grows q) (n : Nat) (hn : n < 256) : isMin1 q n = true ↔ IsMin q n := by
  unfold isMin1 IsMin
  rw [Bool.and_eq_true, List.all_eq_true]
  refine and_congr_right fun _ => ?_
  constructor
  · intro h m hm hmn hqm
    apply Classical.byContradiction
    intro hne
    obtain ⟨i, hi, hno⟩ : ∃ i, n.testBit i = true ∧ m.testBit i = false := by
      apply Classical.byContradiction
      intro hno
      apply hne
      apply Le.antisymm hmn
      intro i hi
      cases ha : m.testBit i with
      | true => rfl
      | false => exact absurd ⟨i, hi, ha⟩ hno
    have h1 := h i (List.mem_range.2 (bit_lt8 hn hi))
    rw [hi] at h1
    have h2 : q (n - 2 ^ i) = true := hq m _ hm (Nat.lt_of_le_of_lt (Nat.sub_le _ _) hn) (fun j hj => by
      rw [testBit_sub_pow n i j hn hi, hmn j hj]
      by_cases hji : j = i
      · subst hji; rw [hno] at hj; cases hj
      · simp [hji]) hqm
    rw [h2] at h1
    simp at h1
  · intro h k hk
    cases hb : n.testBit k with
    | false => simp
    | true =>
      cases hq2 : q (n - 2 ^ k) with
      | false => simp
      | true =>
        have h1 := h (n - 2 ^ k) (Nat.lt_of_le_of_lt (Nat.sub_le _ _) hn) (fun j hj => by rw [testBit_sub_pow n k j hn hb] at hj; simp at hj; exact hj.1) hq2
        have h2 := testBit_sub_pow n k k hn hb
        rw [h1, hb] at h2
        simp at h2
theorem least_ref (q : Nat → Bool) (hq : Grows q) : leastL q = order.filter (isMin1 q) := by
  rw [least_filter]
  apply List.filter_congr
  intro n hn
  have hn := order_lt n hn
  rw [Bool.eq_iff_iff, isMin_iff q n hn, isMin1_iff q hq n hn]
end Go.Proofs.Ytfoeamgjjhfkdaa
