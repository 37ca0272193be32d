/- Paths and cuts: which sets have one, which meet all; duals. -/
import Derived.Test.YtfoeamgjjhfkdaaNd
import Derived.Test.YtfoeamgjjhfkdaaTx
namespace Go.Proofs.Ytfoeamgjjhfkdaa
open Go Go.Shelf Go.RowKit Go.Proofs L9

theorem setN_mem : ∀ (s : List UInt8) (la : Int) (acc n : Nat), setN la acc s = some n → (∀ i, i < 8 → (n.testBit i = true ↔ acc.testBit i = true ∨ UInt8.ofNat (97 + i) ∈ s)) ∧ ∀ b ∈ s, isLet b = true
  | [], _, acc, n, h => by
    have : acc = n := by simpa [setN] using h
    subst this
    exact ⟨fun i _ => by simp, fun b hb => by cases hb⟩
  | b :: r, la, acc, n, h => by
    have hc : setN la acc (b :: r) = if isLet b && decide ((b.toNat : Int) - 97 > la) then setN ((b.toNat : Int) - 97) (acc ||| 2 ^ (b.toNat - 97)) r else none := rfl
    rw [hc] at h
    by_cases hb : (isLet b && decide ((b.toNat : Int) - 97 > la)) = true
    · rw [if_pos hb] at h
      rw [Bool.and_eq_true] at hb
      obtain ⟨h1, h2⟩ := setN_mem r _ _ n h
      refine ⟨fun i hi => ?_, fun x hx => ?_⟩
      · rw [h1 i hi, Nat.testBit_or, Nat.testBit_two_pow, Bool.or_eq_true, List.mem_cons]
        have e : (decide (b.toNat - 97 = i) = true) ↔ UInt8.ofNat (97 + i) = b := by
          have hl := (isLet_iff b).1 hb.1
          rw [decide_eq_true_eq]
          constructor
          · intro e
            rw [← e]
            exact let_byte b hb.1
          · intro e
            rw [← e]
            have := ofNat_sub i hi
            exact this
        rw [e]
        constructor
        · rintro ((h | h) | h)
          · exact Or.inl h
          · exact Or.inr (Or.inl h)
          · exact Or.inr (Or.inr h)
        · rintro (h | h | h)
          · exact Or.inl (Or.inl h)
          · exact Or.inl (Or.inr h)
          · exact Or.inr h
      · rcases List.mem_cons.1 hx with rfl | hx
        · exact hb.1
        · exact h2 x hx
    · rw [if_neg hb] at h; cases h
theorem setOf_mem {s : List UInt8} {n : Nat} (h : setOf s = some n) (i : Nat) (hi : i < 8) : UInt8.ofNat (97 + i) ∈ s ↔ n.testBit i = true := by
  have := (setN_mem s _ _ n h).1 i hi
  rw [this]
  simp

/-- is a letter in a text -/
def inS (s : List UInt8) (b : UInt8) : Bool := s.any (· == b)
theorem inS_iff (s : List UInt8) (b : UInt8) : inS s b = true ↔ b ∈ s := by unfold inS; simp
/-- is one of some texts a part of another -/
def partS (l : List (List UInt8)) (s : List UInt8) : Bool := l.any fun t => t.all (inS s)
/-- does a text meet each of some -/
def meetsS (l : List (List UInt8)) (s : List UInt8) : Bool := l.all fun t => t.any (inS s)

theorem mem_txt_iff (n : Nat) (b : UInt8) (hn : n < 256) : b ∈ txt n ↔ ∃ i, i < 8 ∧ b = UInt8.ofNat (97 + i) ∧ n.testBit i = true := by
  constructor
  · intro h
    unfold txt txtTo at h
    obtain ⟨i, hi, rfl⟩ := List.mem_map.1 h
    rw [List.mem_filter, List.mem_range] at hi
    exact ⟨i, hi.1, rfl, hi.2⟩
  · rintro ⟨i, hi, rfl, h⟩
    exact (mem_txt n i hi).2 h
theorem all_in (a m : Nat) (s : List UInt8) (ha : a < 256) (hm : m < 256) (hs : setOf s = some m) : (txt a).all (inS s) = true ↔ Le a m := by
  rw [List.all_eq_true]
  constructor
  · intro h i hi
    have hi8 := bit_lt8 ha hi
    have := h _ ((mem_txt a i hi8).2 hi)
    rw [inS_iff, setOf_mem hs i hi8] at this
    exact this
  · intro h b hb
    obtain ⟨i, hi8, rfl, hi⟩ := (mem_txt_iff a b ha).1 hb
    rw [inS_iff, setOf_mem hs i hi8]
    exact h i hi
theorem any_in (a m : Nat) (s : List UInt8) (ha : a < 256) (hm : m < 256) (hs : setOf s = some m) : (txt a).any (inS s) = false ↔ Le a (255 - m) := by
  rw [List.any_eq_false]
  constructor
  · intro h i hi
    have hi8 := bit_lt8 ha hi
    have := h _ ((mem_txt a i hi8).2 hi)
    rw [inS_iff, setOf_mem hs i hi8] at this
    have hb := bit_not i m hi8 hm
    cases hx : m.testBit i with
    | true => exact absurd hx this
    | false =>
      rw [hx] at hb
      generalize (255 - m).testBit i = z at *
      cases z
      · cases hb
      · rfl
  · intro h b hb hc
    obtain ⟨i, hi8, rfl, hi⟩ := (mem_txt_iff a b ha).1 hb
    rw [inS_iff, setOf_mem hs i hi8] at hc
    have h1 := h i hi
    have hb := bit_not i m hi8 hm
    rw [hc, h1] at hb
    cases hb
theorem partS_least (q : Nat → Bool) (hq : Grows q) (m : Nat) (s : List UInt8) (hm : m < 256) (hs : setOf s = some m) : partS ((leastL q).map txt) s = q m := by
  rw [Bool.eq_iff_iff, over_least q hq m hm]
  unfold partS
  rw [List.any_map, List.any_eq_true]
  constructor
  · rintro ⟨a, ha, h⟩
    exact ⟨a, ha, (all_in a m s (leastL_mem q a ha).1 hm hs).1 h⟩
  · rintro ⟨a, ha, h⟩
    exact ⟨a, ha, (all_in a m s (leastL_mem q a ha).1 hm hs).2 h⟩
theorem meetsS_least (q : Nat → Bool) (hq : Grows q) (m : Nat) (s : List UInt8) (hm : m < 256) (hs : setOf s = some m) : meetsS ((leastL q).map txt) s = !q (255 - m) := by
  have h : meetsS ((leastL q).map txt) s = false ↔ q (255 - m) = true := by
    rw [over_least q hq (255 - m) (by omega)]
    unfold meetsS
    rw [List.all_map, List.all_eq_false]
    constructor
    · rintro ⟨a, ha, h⟩
      exact ⟨a, ha, (any_in a m s (leastL_mem q a ha).1 hm hs).1 (by simpa using h)⟩
    · rintro ⟨a, ha, h⟩
      refine ⟨a, ha, ?_⟩
      have := (any_in a m s (leastL_mem q a ha).1 hm hs).2 h
      simp only [Function.comp]
      rw [this]
      simp
  cases hx : q (255 - m) with
  | true => rw [h.2 hx]; rfl
  | false =>
    cases hy : meetsS ((leastL q).map txt) s with
    | true => rfl
    | false => rw [h.1 hy] at hx; cases hx
theorem gTC (c : List (List Part)) : Grows (tblC c) := fun n m _ _ h h1 => evC_mono c n m h h1
theorem le_not' {n m : Nat} (hn : n < 256) (hm : m < 256) (h : Le n m) : Le (255 - m) (255 - n) := by
  intro i hi
  have hi8 := bit_lt8 (show 255 - m < 256 by omega) hi
  have h1 := bit_not i m hi8 hm
  have h2 := bit_not i n hi8 hn
  rw [hi] at h1
  cases hx : n.testBit i with
  | true => rw [h i hx] at h1; cases h1
  | false =>
    rw [hx] at h2
    generalize (255 - n).testBit i = z at *
    cases z
    · cases h2
    · rfl
theorem gTX (c : List (List Part)) : Grows (tblX c) := by
  intro n m hn hm h h1
  unfold tblX at *
  cases hx : evC c (255 - m) with
  | false => rfl
  | true =>
    rw [evC_mono c _ _ (le_not' hn hm h) hx] at h1
    cases h1
theorem txt_map_inj : ∀ (l k : List Nat), (∀ n ∈ l, n < 256) → (∀ n ∈ k, n < 256) → l.map txt = k.map txt → l = k
  | [], [], _, _, _ => rfl
  | [], b :: k, _, _, h => by cases h
  | a :: l, [], _, _, h => by cases h
  | a :: l, b :: k, h1, h2, h => by
    simp only [List.map_cons, List.cons.injEq] at h
    rw [txt_inj a b (h1 a List.mem_cons_self) (h2 b List.mem_cons_self) h.1, txt_map_inj l k (fun n hn => h1 n (List.mem_cons_of_mem _ hn)) (fun n hn => h2 n (List.mem_cons_of_mem _ hn)) h.2]
/-- circuits are the same exactly if their least paths are -/
theorem same_texts (x y : List (List Part)) : decide ((leastL (tblC x)).map txt = (leastL (tblC y)).map txt) = sameT (evC x) (evC y) := by
  rw [Bool.eq_iff_iff, decide_eq_true_eq]
  unfold sameT
  rw [List.all_eq_true]
  constructor
  · intro h n hn
    rw [List.mem_range] at hn
    have := txt_map_inj _ _ (fun a ha => (leastL_mem _ a ha).1) (fun a ha => (leastL_mem _ a ha).1) h
    have := same_least (gTC x) (gTC y) this n hn
    unfold tblC at this
    rw [this]
    simp
  · intro h
    have : leastL (tblC x) = leastL (tblC y) := least_congr fun n hn => by
      have := h n (List.mem_range.2 hn)
      unfold tblC
      simpa using this
    rw [this]
theorem dual_paths (x : List (List Part)) (h0 : x ≠ []) (h : okC x) : leastL (tblC (duC x)) = leastL (tblX x) := least_congr fun n hn => by
  unfold tblC tblX
  exact duC_ev n hn x h0 h
theorem dual_cuts (x : List (List Part)) (h0 : x ≠ []) (h : okC x) : leastL (tblX (duC x)) = leastL (tblC x) := least_congr fun n hn => by
  unfold tblC tblX
  rw [duC_ev (255 - n) (by omega) x h0 h, show 255 - (255 - n) = n by omega, Bool.not_not]
theorem dual_back (x : List (List Part)) (h0 : x ≠ []) (h : okC x) : sameT (evC (duC (duC x))) (evC x) = true := by
  obtain ⟨h1, h2⟩ := duC_ok x h0 h
  unfold sameT
  rw [List.all_eq_true]
  intro n hn
  rw [List.mem_range] at hn
  rw [duC_ev n hn _ h1 h2, duC_ev (255 - n) (by omega) x h0 h, show 255 - (255 - n) = n by omega]
  simp
end Go.Proofs.Ytfoeamgjjhfkdaa
