/- How many sets of a number of letters: of a circuit, of its dual, of the next number. -/
import Derived.Test.YtfoeamgjjhfkdaaNd
import Derived.Test.YtfoeamgjjhfkdaaUd
namespace Go.Proofs.Ytfoeamgjjhfkdaa
open Go Go.Shelf Go.RowKit Go.Proofs L9

def S (l : List Nat) (f : Nat → Nat) : Nat := l.foldr (fun x a => f x + a) 0
theorem S_nil (f : Nat → Nat) : S [] f = 0 := rfl
theorem S_cons (x : Nat) (l : List Nat) (f : Nat → Nat) : S (x :: l) f = f x + S l f := rfl
theorem S_add (l : List Nat) (f g : Nat → Nat) : S l (fun x => f x + g x) = S l f + S l g := by
  induction l with
  | nil => rfl
  | cons x l ih => rw [S_cons, S_cons, S_cons, ih]; omega
theorem S_zero (l : List Nat) : S l (fun _ => 0) = 0 := by
  induction l with
  | nil => rfl
  | cons x l ih => rw [S_cons, ih]
theorem S_swap (r : List Nat) (f : Nat → Nat → Nat) : ∀ l : List Nat, S l (fun x => S r (fun y => f x y)) = S r (fun y => S l (fun x => f x y))
  | [] => (S_zero r).symm
  | x :: l => by rw [S_cons, S_swap r f l, ← S_add]; rfl
theorem S_le {l : List Nat} {f g : Nat → Nat} (h : ∀ x ∈ l, f x ≤ g x) : S l f ≤ S l g := by
  induction l with
  | nil => exact Nat.le_refl _
  | cons x l ih =>
    rw [S_cons, S_cons]
    have h1 := h x List.mem_cons_self
    have h2 := ih fun y hy => h y (List.mem_cons_of_mem _ hy)
    omega
theorem S_congr {l : List Nat} {f g : Nat → Nat} (h : ∀ x ∈ l, f x = g x) : S l f = S l g := by
  apply Nat.le_antisymm
  · exact S_le fun x hx => Nat.le_of_eq (h x hx)
  · exact S_le fun x hx => Nat.le_of_eq (h x hx).symm
theorem S_mul (l : List Nat) (f : Nat → Nat) (c : Nat) : S l (fun x => f x * c) = S l f * c := by
  induction l with
  | nil => simp [S_nil]
  | cons x l ih => rw [S_cons, S_cons, ih, Nat.add_mul]
def ind (b : Bool) : Nat := if b then 1 else 0
theorem S_ind (l : List Nat) (p : Nat → Bool) : S l (fun x => ind (p x)) = (l.filter p).length := by
  induction l with
  | nil => rfl
  | cons x l ih =>
    rw [S_cons, ih, List.filter_cons]
    unfold ind
    cases p x <;> simp <;> omega
theorem S_map (g : Nat → Nat) (f : Nat → Nat) (l : List Nat) : S (l.map g) f = S l (fun x => f (g x)) := by
  induction l with
  | nil => rfl
  | cons x l ih => rw [List.map_cons, S_cons, S_cons, ih]
theorem S_append (a b : List Nat) (f : Nat → Nat) : S (a ++ b) f = S a f + S b f := by
  induction a with
  | nil => simp [S_nil]
  | cons x l ih => rw [List.cons_append, S_cons, S_cons, ih]; omega
theorem S_perm {a b : List Nat} (h : a.Perm b) (f : Nat → Nat) : S a f = S b f := by
  induction h with
  | nil => rfl
  | cons x _ ih => rw [S_cons, S_cons, ih]
  | swap x y l => rw [S_cons, S_cons, S_cons, S_cons]; omega
  | trans _ _ h1 h2 => exact h1.trans h2

theorem cnt_S (t : Nat → Bool) (k : Nat) : cntT t k 256 = S (List.range 256) (fun n => ind (t n && pop n == k)) := by
  rw [S_ind]
  unfold cntT
  congr 1
  apply List.filter_congr
  intro n _
  congr 1
  rw [Bool.eq_iff_iff, beq_iff_eq, beq_iff_eq]
  omega

/-- the sets without a letter, and with it -/
def offs (j : Nat) : List Nat := (List.range 256).filter fun n => !n.testBit j
theorem offs_all : ((List.range 8).all fun j => (offs j ++ (offs j).map (· + 2 ^ j)).isPerm (List.range 256)) = true := by decide +kernel
theorem offs_perm (j : Nat) (hj : j < 8) : (offs j ++ (offs j).map (· + 2 ^ j)).Perm (List.range 256) := by
  have := offs_all
  rw [List.all_eq_true] at this
  exact List.isPerm_iff.1 (this j (List.mem_range.2 hj))
theorem off_facts (n j : Nat) (hn : n < 256) (hj : j < 8) (h : n.testBit j = false) : n + 2 ^ j < 256 ∧ (n + 2 ^ j).testBit j = true ∧ pop (n + 2 ^ j) = pop n + 1 ∧ n ||| 2 ^ j = n + 2 ^ j := by
  have := all2 (p := fun n j => n.testBit j || (decide (n + 2 ^ j < 256) && (n + 2 ^ j).testBit j && pop (n + 2 ^ j) == pop n + 1 && (n ||| 2 ^ j) == n + 2 ^ j)) 256 8 (by decide +kernel) n j hn hj
  rw [h] at this
  simpa [and_assoc] using this
theorem le_or (n m : Nat) : Le n (n ||| m) := fun i h => by rw [Nat.testBit_or, h]; rfl

theorem missing (n : Nat) (hn : n < 256) : S (List.range 8) (fun j => ind (!n.testBit j)) = 8 - pop n := by
  have := all2 (p := fun n _ => S (List.range 8) (fun j => ind (!n.testBit j)) == 8 - pop n) 256 1 (by decide +kernel) n 0 hn (by omega)
  simpa using this
theorem having (n : Nat) (hn : n < 256) : S (List.range 8) (fun j => ind (n.testBit j)) = pop n := by
  have := all2 (p := fun n _ => S (List.range 8) (fun j => ind (n.testBit j)) == pop n) 256 1 (by decide +kernel) n 0 hn (by omega)
  simpa using this
theorem ind_and (a b : Bool) : ind (a && b) = ind a * ind b := by cases a <;> cases b <;> rfl
theorem S_mul_left (l : List Nat) (f : Nat → Nat) (c : Nat) : S l (fun x => c * f x) = c * S l f := by
  rw [Nat.mul_comm c, ← S_mul]
  exact S_congr fun x _ => Nat.mul_comm _ _

/-- one more letter: what grows has as many in proportion -/
theorem climbs (t : Nat → Bool) (ht : Grows t) (k : Nat) (hk : k < 8) : cntT t k 256 * (8 - k) ≤ cntT t (k + 1 : Nat) 256 * (k + 1) := by
  have hA : cntT t k 256 * (8 - k) = S (List.range 256) (fun n => S (List.range 8) fun j => ind ((t n && pop n == k) && !n.testBit j)) := by
    rw [cnt_S, ← S_mul]
    refine S_congr fun n hn => ?_
    rw [List.mem_range] at hn
    rw [show (fun j => ind ((t n && pop n == k) && !n.testBit j)) = fun j => ind (t n && pop n == k) * ind (!n.testBit j) from funext fun j => ind_and _ _, S_mul_left, missing n hn]
    cases h : (t n && pop n == k) with
    | false => simp [ind]
    | true =>
      simp only [Bool.and_eq_true, beq_iff_eq] at h
      rw [h.2]
  have hB : cntT t (k + 1 : Nat) 256 * (k + 1) = S (List.range 256) (fun n => S (List.range 8) fun j => ind ((t n && pop n == k + 1) && n.testBit j)) := by
    rw [cnt_S, ← S_mul]
    refine S_congr fun n hn => ?_
    rw [List.mem_range] at hn
    rw [show (fun j => ind ((t n && pop n == k + 1) && n.testBit j)) = fun j => ind (t n && pop n == k + 1) * ind (n.testBit j) from funext fun j => ind_and _ _, S_mul_left, having n hn]
    cases h : (t n && pop n == k + 1) with
    | false => simp [ind]
    | true =>
      simp only [Bool.and_eq_true, beq_iff_eq] at h
      rw [h.2]
  rw [hA, hB, S_swap (List.range 8) _ (List.range 256), S_swap (List.range 8) _ (List.range 256)]
  refine S_le fun j hj => ?_
  rw [List.mem_range] at hj
  rw [← S_perm (offs_perm j hj), ← S_perm (offs_perm j hj), S_append, S_append, S_map, S_map]
  have hmem : ∀ n ∈ offs j, n < 256 ∧ n.testBit j = false := by
    intro n hn
    have := List.mem_filter.1 hn
    exact ⟨List.mem_range.1 this.1, by simpa using this.2⟩
  have h1 : S (offs j) (fun n => ind ((t (n + 2 ^ j) && pop (n + 2 ^ j) == k) && !(n + 2 ^ j).testBit j)) = 0 := by
    refine (S_congr fun n hn => ?_).trans (S_zero (offs j))
    have := hmem n hn
    rw [(off_facts n j this.1 hj this.2).2.1]
    simp [ind]
  have h2 : S (offs j) (fun n => ind ((t n && pop n == k) && !n.testBit j)) ≤ S (offs j) (fun n => ind ((t (n + 2 ^ j) && pop (n + 2 ^ j) == k + 1) && (n + 2 ^ j).testBit j)) := by
    refine S_le fun n hn => ?_
    have hm := hmem n hn
    obtain ⟨f1, f2, f3, f4⟩ := off_facts n j hm.1 hj hm.2
    rw [f2, f3, hm.2]
    cases htn : t n with
    | false => simp [ind]
    | true =>
      rw [ht n (n + 2 ^ j) hm.1 f1 (by rw [← f4]; exact le_or _ _) htn]
      simp
  omega

def C8 (k : Nat) : Nat := [1, 8, 28, 56, 70, 56, 28, 8, 1].getD k 0
theorem climbs8 (t : Nat → Bool) (ht : Grows t) (k : Nat) (hk : k < 8) : cntT t k 256 * C8 (k + 1) ≤ cntT t (k + 1 : Nat) 256 * C8 k := by
  have h := climbs t ht k hk
  generalize cntT t k 256 = a at *
  generalize cntT t (k + 1 : Nat) 256 = b at *
  match k, hk with
  | 0, _ => simp [C8] at h ⊢; omega
  | 1, _ => simp [C8] at h ⊢; omega
  | 2, _ => simp [C8] at h ⊢; omega
  | 3, _ => simp [C8] at h ⊢; omega
  | 4, _ => simp [C8] at h ⊢; omega
  | 5, _ => simp [C8] at h ⊢; omega
  | 6, _ => simp [C8] at h ⊢; omega
  | 7, _ => simp [C8] at h ⊢; omega
theorem cnt_all (k : Nat) (hk : k ≤ 8) : cntT (fun _ => true) k 256 = C8 k := by
  have := all2 (p := fun k _ => cntT (fun _ => true) k 256 == C8 k) 9 1 (by decide +kernel) k 0 (by omega) (by omega)
  simpa using this
theorem cnt_not (t : Nat → Bool) (k : Nat) (hk : k ≤ 8) : cntT t k 256 + cntT (fun n => !t n) k 256 = C8 k := by
  rw [← cnt_all k hk, cnt_S, cnt_S, cnt_S, ← S_add]
  refine S_congr fun n _ => ?_
  cases t n <;> simp [ind]
theorem flip_perm : ((List.range 256).map (255 - ·)).Perm (List.range 256) := List.isPerm_iff.1 (by decide +kernel)
theorem pop_flip (n : Nat) (hn : n < 256) : pop (255 - n) = 8 - pop n := by
  have := all2 (p := fun n _ => pop (255 - n) == 8 - pop n) 256 1 (by decide +kernel) n 0 hn (by omega)
  simpa using this
theorem cnt_flip (t : Nat → Bool) (k : Nat) (hk : k ≤ 8) : cntT (fun n => !t (255 - n)) (8 - k : Nat) 256 = cntT (fun n => !t n) k 256 := by
  rw [cnt_S, cnt_S, ← S_perm flip_perm (fun n => ind (!t n && pop n == k)), S_map]
  refine S_congr fun n hn => ?_
  rw [List.mem_range] at hn
  have h1 := pop_flip n hn
  have h2 := pop_le n
  congr 2
  rw [Bool.eq_iff_iff, beq_iff_eq, beq_iff_eq]
  omega
theorem cnt_congr {t u : Nat → Bool} (h : ∀ n, n < 256 → t n = u n) (k : Nat) : cntT t k 256 = cntT u k 256 := by
  rw [cnt_S, cnt_S]
  exact S_congr fun n hn => by rw [h n (List.mem_range.1 hn)]
theorem pop_0 (n : Nat) (hn : n < 256) (h : pop n = 0) : n = 0 := by
  have := all2 (p := fun n _ => !(pop n == 0) || n == 0) 256 1 (by decide +kernel) n 0 hn (by omega)
  rw [h] at this
  simpa using this
theorem pop_8 (n : Nat) (hn : n < 256) (h : pop n = 8) : n = 255 := by
  have := all2 (p := fun n _ => !(pop n == 8) || n == 255) 256 1 (by decide +kernel) n 0 hn (by omega)
  rw [h] at this
  simpa using this
theorem cnt_none (t : Nat → Bool) (h : t 0 = false) : cntT t (0 : Nat) 256 = 0 := by
  rw [cnt_S]
  refine (S_congr fun n hn => ?_).trans (S_zero (List.range 256))
  by_cases hp : pop n = 0
  · rw [pop_0 n (List.mem_range.1 hn) hp, h]; rfl
  · have : (pop n == 0) = false := by simpa using hp
    rw [this]; simp [ind]
theorem cnt_one (t : Nat → Bool) (h : t 255 = true) : cntT t (8 : Nat) 256 = 1 := by
  have h1 := cnt_not t 8 (by omega)
  have h2 : cntT (fun n => !t n) (8 : Nat) 256 = 0 := by
    rw [cnt_S]
    refine (S_congr fun n hn => ?_).trans (S_zero (List.range 256))
    by_cases hp : pop n = 8
    · rw [pop_8 n (List.mem_range.1 hn) hp, h]; rfl
    · have : (pop n == 8) = false := by simpa using hp
      rw [this]; simp [ind]
  have h3 : C8 8 = 1 := rfl
  omega
end Go.Proofs.Ytfoeamgjjhfkdaa
