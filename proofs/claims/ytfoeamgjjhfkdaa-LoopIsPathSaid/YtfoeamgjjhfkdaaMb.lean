/- The order of all sets: by their sizes, then letter by letter. -/
import Derived.Test.YtfoeamgjjhfkdaaTc
namespace Go.Proofs.Ytfoeamgjjhfkdaa
open L9 Go.Sort
theorem cb_lt : ∀ a b : List UInt8, Lib.compareBytes a b < 0 ↔ a < b := by
  intro a
  induction a with
  | nil => intro b; cases b <;> simp [Lib.compareBytes]
  | cons x a ih =>
    intro b
    cases b with
    | nil => simp [Lib.compareBytes]
    | cons y b =>
      simp only [Lib.compareBytes, List.cons_lt_cons_iff]
      by_cases h1 : x < y
      · simp [h1]
      · rw [if_neg h1]
        by_cases h2 : y < x
        · rw [if_pos h2]
          simp only [h1, false_or]
          constructor
          · intro h; omega
          · rintro ⟨rfl, _⟩; exact absurd h2 (UInt8.lt_irrefl _)
        · rw [if_neg h2]
          have : x = y := by
            rcases UInt8.lt_or_lt_of_ne (a := x) (b := y) |> fun f => Classical.em (x = y) with h | h
            · exact h
            · rcases UInt8.lt_or_lt_of_ne h with h' | h'
              · exact absurd h' h1
              · exact absurd h' h2
          subst this
          rw [ih b]
          simp [h1]

theorem cb_gt (a b : List UInt8) : ¬ Lib.compareBytes a b < 0 ↔ b ≤ a := by rw [cb_lt]; exact List.not_lt

/-- is a set in front of another one? -/
def sLt (a b : Nat) : Bool := decide (pop a < pop b) || (decide (pop a = pop b) && decide (txt a < txt b))
theorem setCmp_lt (a b : Nat) : decide (setCmp a b < 0) = sLt a b := by
  unfold setCmp orI sLt
  by_cases h : (pop a : Int) - pop b = 0
  · have h' : pop a = pop b := by omega
    rw [if_pos h]
    simp [h', cb_lt]
  · have h' : pop a ≠ pop b := by omega
    rw [if_neg h]
    simp only [h', decide_false, Bool.false_and, Bool.or_false]
    rw [decide_eq_decide]
    omega
theorem sLt_irrefl (a : Nat) : sLt a a = false := by
  unfold sLt
  simp [List.lt_irrefl]
theorem sLt_iff (a b : Nat) : sLt a b = true ↔ pop a < pop b ∨ (pop a = pop b ∧ txt a < txt b) := by unfold sLt; simp
theorem sLt_iff' (a b : Nat) : sLt a b = false ↔ pop b < pop a ∨ (pop a = pop b ∧ txt b ≤ txt a) := by
  rw [← Bool.not_eq_true, sLt_iff, ← List.not_lt]
  by_cases h : txt a < txt b <;> simp [h] <;> omega
theorem sLt_trans {a b c : Nat} (h1 : sLt a b = true) (h2 : sLt b c = true) : sLt a c = true := by
  rw [sLt_iff] at *
  rcases h1 with h1 | ⟨e1, h1⟩ <;> rcases h2 with h2 | ⟨e2, h2⟩
  · left; omega
  · left; omega
  · left; omega
  · right; exact ⟨by omega, List.lt_trans h1 h2⟩
theorem sLt_ntrans {a b c : Nat} (h1 : sLt a b = false) (h2 : sLt b c = false) : sLt a c = false := by
  rw [sLt_iff'] at *
  rcases h1 with h1 | ⟨e1, h1⟩ <;> rcases h2 with h2 | ⟨e2, h2⟩
  · left; omega
  · left; omega
  · left; omega
  · right; exact ⟨by omega, List.le_trans h2 h1⟩

def order : List Nat := [0, 1, 2, 4, 8, 16, 32, 64, 128, 3, 5, 9, 17, 33, 65, 129, 6, 10, 18, 34, 66, 130, 12, 20, 36, 68, 132, 24, 40, 72, 136, 48, 80, 144, 96, 160, 192, 7, 11, 19, 35, 67, 131, 13, 21, 37, 69, 133, 25, 41, 73, 137, 49, 81, 145, 97, 161, 193, 14, 22, 38, 70, 134, 26, 42, 74, 138, 50, 82, 146, 98, 162, 194, 28, 44, 76, 140, 52, 84, 148, 100, 164, 196, 56, 88, 152, 104, 168, 200, 112, 176, 208, 224, 15, 23, 39, 71, 135, 27, 43, 75, 139, 51, 83, 147, 99, 163, 195, 29, 45, 77, 141, 53, 85, 149, 101, 165, 197, 57, 89, 153, 105, 169, 201, 113, 177, 209, 225, 30, 46, 78, 142, 54, 86, 150, 102, 166, 198, 58, 90, 154, 106, 170, 202, 114, 178, 210, 226, 60, 92, 156, 108, 172, 204, 116, 180, 212, 228, 120, 184, 216, 232, 240, 31, 47, 79, 143, 55, 87, 151, 103, 167, 199, 59, 91, 155, 107, 171, 203, 115, 179, 211, 227, 61, 93, 157, 109, 173, 205, 117, 181, 213, 229, 121, 185, 217, 233, 241, 62, 94, 158, 110, 174, 206, 118, 182, 214, 230, 122, 186, 218, 234, 242, 124, 188, 220, 236, 244, 248, 63, 95, 159, 111, 175, 207, 119, 183, 215, 231, 123, 187, 219, 235, 243, 125, 189, 221, 237, 245, 249, 126, 190, 222, 238, 246, 250, 252, 127, 191, 223, 239, 247, 251, 253, 254, 255]
theorem order_len : order.length = 256 := by decide +kernel
theorem order_lt : ∀ n ∈ order, n < 256 := by decide +kernel
theorem order_all : ∀ n, n < 256 → n ∈ order := by decide +kernel
def adj (r : Nat → Nat → Bool) : List Nat → Bool
  | [] => true
  | a :: l => (match l with | [] => true | b :: _ => r a b) && adj r l
theorem adj_pairwise {r : Nat → Nat → Bool} (tr : ∀ a b c, r a b = true → r b c = true → r a c = true) : ∀ l, adj r l = true → l.Pairwise (fun a b => r a b = true) := by
  intro l
  induction l with
  | nil => intro _; exact .nil
  | cons a l ih =>
    intro h
    simp only [adj, Bool.and_eq_true] at h
    have hp := ih h.2
    refine List.pairwise_cons.2 ⟨?_, hp⟩
    cases l with
    | nil => intro x hx; cases hx
    | cons b l =>
      intro x hx
      rcases List.mem_cons.1 hx with rfl | hx
      · exact h.1
      · exact tr _ _ _ h.1 ((List.pairwise_cons.1 hp).1 x hx)
set_option maxRecDepth 100000 in
theorem order_adj : adj sLt order = true := by decide +kernel
theorem order_sorted : order.Pairwise (fun a b => sLt a b = true) := adj_pairwise (r := sLt) (fun _ _ _ => sLt_trans) order order_adj
theorem order_nodup : order.Nodup := order_sorted.imp (by intro a b h e; subst e; rw [sLt_irrefl] at h; cases h)

/-- A list of all sets in which none is in front of an earlier one is the order. -/
theorem sorted_is_order (l : List Nat) (hp : l.Perm (List.range 256)) (hs : l.Pairwise (fun a b => sLt b a = false)) : l = order := by
  have hperm : l.Perm order := by
    refine hp.trans ?_
    refine (List.perm_ext_iff_of_nodup List.nodup_range order_nodup).2 ?_
    intro a
    rw [List.mem_range]
    exact ⟨order_all a, order_lt a⟩
  refine hperm.eq_of_pairwise (le := fun a b => sLt b a = false) ?_ hs ?_
  · intro a b ha hb h1 h2
    rw [sLt_iff'] at h1 h2
    have e : txt a = txt b := by
      rcases h1 with h1 | ⟨e1, h1⟩ <;> rcases h2 with h2 | ⟨e2, h2⟩
      · omega
      · omega
      · omega
      · exact List.le_antisymm h1 h2
    have ha' : a < 256 := order_lt a (hperm.mem_iff.1 ha)
    have hb' : b < 256 := order_lt b hb
    exact txt_inj a b ha' hb' e
  · exact order_sorted.imp (by
      intro a b h
      rw [sLt_iff] at h
      rw [sLt_iff']
      rcases h with h | ⟨e, h⟩
      · exact Or.inl h
      · exact Or.inr ⟨e.symm, List.le_of_lt h⟩)
end Go.Proofs.Ytfoeamgjjhfkdaa
