/- The plain circuit and the dual, read back; what grows is told by its least sets. -/
import Derived.Test.YtfoeamgjjhfkdaaTx
import Derived.Test.YtfoeamgjjhfkdaaNc
namespace Go.Proofs.Ytfoeamgjjhfkdaa
open Go Go.Shelf Go.RowKit Go.Proofs L9

theorem circ_back (c : List (List Part)) (h0 : c ≠ []) (h : okC c) (hl : (txtC c).length ≤ 40) : circ (txtC c) = some c := by
  unfold circ
  rw [if_pos hl]
  exact parse_back c h0 h

/-- two tables alike have the same least sets -/
theorem least_congr {q r : Nat → Bool} (h : ∀ n, n < 256 → q n = r n) : leastL q = leastL r := by
  rw [least_filter, least_filter]
  apply List.filter_congr
  intro n hn
  have hn := order_lt n hn
  rw [Bool.eq_iff_iff, isMin_iff q n hn, isMin_iff r n hn]
  unfold IsMin
  rw [h n hn]
  refine and_congr_right fun _ => ?_
  constructor
  · intro h1 m hm hle hr; exact h1 m hm hle (by rw [h m hm]; exact hr)
  · intro h1 m hm hle hr; exact h1 m hm hle (by rw [← h m hm]; exact hr)
theorem mem_least' (q : Nat → Bool) (n : Nat) (hn : n < 256) : n ∈ leastL q ↔ IsMin q n := by
  rw [least_filter, List.mem_filter, isMin_iff q n hn]
  exact ⟨fun h => h.2, fun h => ⟨order_all n hn, h⟩⟩
/-- what grows holds exactly of the sets over a least one -/
theorem over_least (q : Nat → Bool) (hq : Grows q) (n : Nat) (hn : n < 256) : q n = true ↔ ∃ m ∈ leastL q, Le m n := by
  constructor
  · intro h
    obtain ⟨m, h1, h2, h3⟩ := min_under q _ n (Nat.le_refl _) hn h
    exact ⟨m, (mem_least' q m h1).2 h3, h2⟩
  · rintro ⟨m, h1, h2⟩
    have := leastL_mem q m h1
    exact hq m n this.1 hn h2 this.2
theorem same_least {q r : Nat → Bool} (hq : Grows q) (hr : Grows r) (h : leastL q = leastL r) (n : Nat) (hn : n < 256) : q n = r n := by
  rw [Bool.eq_iff_iff, over_least q hq n hn, over_least r hr n hn, h]

/-- the letters of a set, as a branch -/
def lets (n : Nat) : List Part := ((List.range 8).filter (n.testBit ·)).map Part.letter
theorem lets_txt (n : Nat) : txtB (lets n) = txt n := by
  unfold lets txt txtTo
  generalize (List.range 8).filter (n.testBit ·) = l
  induction l with
  | nil => rfl
  | cons i l ih => simp only [List.map_cons, txtB, Part.txt]; rw [ih]; rfl
theorem lets_ok (n : Nat) : okB (lets n) := by
  unfold lets
  have h : ∀ i ∈ (List.range 8).filter (n.testBit ·), i < 8 := fun i hi => List.mem_range.1 (List.mem_filter.1 hi).1
  generalize (List.range 8).filter (n.testBit ·) = l at *
  induction l with
  | nil => trivial
  | cons i l ih => exact ⟨h i List.mem_cons_self, ih fun j hj => h j (List.mem_cons_of_mem _ hj)⟩
theorem lets_ne (n : Nat) (hn : n < 256) (h : n ≠ 0) : lets n ≠ [] := by
  intro e
  apply h
  apply Nat.eq_of_testBit_eq
  intro i
  rw [Nat.zero_testBit]
  cases hb : n.testBit i with
  | false => rfl
  | true =>
    have : Part.letter i ∈ lets n := List.mem_map.2 ⟨i, List.mem_filter.2 ⟨List.mem_range.2 (bit_lt8 hn hb), hb⟩, rfl⟩
    rw [e] at this
    cases this
theorem lets_ev (n m : Nat) (hn : n < 256) : evB (lets n) m = true ↔ Le n m := by
  have h : ∀ l : List Nat, evB (l.map Part.letter) m = l.all (m.testBit ·) := by
    intro l
    induction l with
    | nil => rfl
    | cons i l ih => simp only [List.map_cons, evB, Part.ev, List.all_cons, ih]
  unfold lets
  rw [h, List.all_eq_true]
  constructor
  · intro h1 i hi
    exact h1 i (List.mem_filter.2 ⟨List.mem_range.2 (bit_lt8 hn hi), hi⟩)
  · intro h1 i hi
    exact h1 i (List.mem_filter.1 hi).2
def plainTree (q : Nat → Bool) : List (List Part) := (leastL q).map lets
theorem evC_lets (m : Nat) : ∀ l : List Nat, (∀ n ∈ l, n < 256) → (evC (l.map lets) m = true ↔ ∃ n ∈ l, Le n m)
  | [], _ => by simp [evC]
  | n :: l, h => by
    simp only [List.map_cons, evC, Bool.or_eq_true, lets_ev n m (h n List.mem_cons_self), evC_lets m l (fun x hx => h x (List.mem_cons_of_mem _ hx)), List.mem_cons, exists_eq_or_imp]
theorem plainTree_ev (q : Nat → Bool) (hq : Grows q) (n : Nat) (hn : n < 256) : evC (plainTree q) n = q n := by
  rw [Bool.eq_iff_iff]
  unfold plainTree
  rw [evC_lets n _ (fun x hx => (leastL_mem q x hx).1), over_least q hq n hn]
theorem joinTail_txtM : ∀ l : List Nat, Lib.joinTail [43] (l.map txt) = txtM (l.map lets)
  | [] => rfl
  | n :: l => by
    have := joinTail_txtM l
    simp only [Lib.joinTail, List.map_cons, List.flatten_cons, txtM, lets_txt] at this ⊢
    rw [this]
    simp
theorem join_txtC (l : List Nat) : Lib.join (l.map txt) [43] = txtC (l.map lets) := by
  cases l with
  | nil => rfl
  | cons n l => rw [List.map_cons, Lib.join_cons, joinTail_txtM, List.map_cons, txtC_cons, lets_txt]
theorem okC_lets : ∀ l : List Nat, (∀ n ∈ l, n < 256 ∧ n ≠ 0) → okC (l.map lets)
  | [], _ => trivial
  | n :: l, h => ⟨⟨lets_ne n (h n List.mem_cons_self).1 (h n List.mem_cons_self).2, lets_ok n⟩, okC_lets l fun x hx => h x (List.mem_cons_of_mem _ hx)⟩
theorem plainTree_ok (q : Nat → Bool) (hq : Grows q) (h0 : q 0 = false) (h1 : q 255 = true) : plainTree q ≠ [] ∧ okC (plainTree q) := by
  constructor
  · intro e
    obtain ⟨m, hm, _⟩ := (over_least q hq 255 (by omega)).1 h1
    have : lets m ∈ plainTree q := List.mem_map.2 ⟨m, hm, rfl⟩
    rw [e] at this
    cases this
  · refine okC_lets _ fun n hn => ?_
    have := leastL_mem q n hn
    refine ⟨this.1, fun e => ?_⟩
    rw [e, h0] at this
    cases this.2
/-- the plain text of what grows, read: what it was -/
theorem plain_read (q : Nat → Bool) (hq : Grows q) (h0 : q 0 = false) (h1 : q 255 = true) (hl : (plainT q).length ≤ 40) : circ (plainT q) = some (plainTree q) := by
  have e : plainT q = txtC (plainTree q) := join_txtC _
  rw [e] at hl ⊢
  obtain ⟨h2, h3⟩ := plainTree_ok q hq h0 h1
  exact circ_back _ h2 h3 hl
theorem dual_read (c : List (List Part)) (h0 : c ≠ []) (h : okC c) (hl : (dtC c).length ≤ 40) : circ (dtC c) = some (duC c) := by
  rw [duC_txt c h0 h] at hl ⊢
  obtain ⟨h1, h2⟩ := duC_ok c h0 h
  exact circ_back _ h1 h2 hl
end Go.Proofs.Ytfoeamgjjhfkdaa
