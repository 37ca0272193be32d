/- circuit: the reader's two loops. -/
import Derived.Test.YtfoeamgjjhfkdaaTk
namespace Go.Proofs.Ytfoeamgjjhfkdaa
open Go.Shelf Go.RowKit Go.Proofs L9

/-- a row of the call's own, its values told by what they are, each with its blocks -/
def RowAt {α : Type} (T base top : Nat) (I : Nat → Nat → World → Value → α → Prop) (w : World) (v : Value) (xs : List α) : Prop :=
  base ≤ top ∧ top ≤ w.heap.size ∧ ∃ vals : List Value, w.ownsRow base T 1 v xs.length vals ∧ (∀ g, v.ownBlock = some g → g < top) ∧
    ∀ (j : Nat) (x : α), xs[j]? = some x → ∃ u lo hi, vals[j]? = some u ∧ base ≤ lo ∧ hi ≤ top ∧ I lo hi w u x ∧ ∀ g, v.ownBlock = some g → g < lo ∨ hi ≤ g

theorem owns_keptIn {w w' : World} {base T top : Nat} {v : Value} {n : Nat} {vals : List Value} (h : w.ownsRow base T 1 v n vals) (hlt : ∀ g, v.ownBlock = some g → g < top) (hk : KeptIn base top w w') : w'.ownsRow base T 1 v n vals := by
  refine ⟨h.1, ?_⟩
  rcases h.2 with h2 | ⟨g, cap, cur, e, h3, h4, h5⟩
  · exact Or.inl h2
  · exact Or.inr ⟨g, cap, cur, e, h3, by rw [hk.2 g h3 (hlt g (by rw [e]; rfl))]; exact h4, h5⟩

theorem RowAt.keep {α : Type} {T base top : Nat} {I : Nat → Nat → World → Value → α → Prop} (hI : ∀ (lo hi : Nat) (w w' : World) (v : Value) (x : α), I lo hi w v x → KeptIn lo hi w w' → I lo hi w' v x)
    {w w' : World} {v : Value} {xs : List α} (h : RowAt T base top I w v xs) (hk : KeptIn base top w w') : RowAt T base top I w' v xs := by
  obtain ⟨hbt, h0, vals, h1, h2, h3⟩ := h
  refine ⟨hbt, Nat.le_trans h0 hk.1, vals, owns_keptIn h1 h2 hk, h2, fun j x hj => ?_⟩
  obtain ⟨u, lo, hi, a, b, c, d, e⟩ := h3 j x hj
  exact ⟨u, lo, hi, a, b, c, hI _ _ _ _ _ _ d (hk.sub b c), e⟩
theorem RowAt.up {α : Type} {T base top top' : Nat} {I : Nat → Nat → World → Value → α → Prop} {w : World} {v : Value} {xs : List α} (h : RowAt T base top I w v xs) (h1 : top ≤ top') (h2 : top' ≤ w.heap.size) : RowAt T base top' I w v xs := by
  obtain ⟨hbt, h0, vals, a, b, c⟩ := h
  refine ⟨by omega, h2, vals, a, fun g hg => Nat.lt_of_lt_of_le (b g hg) h1, fun j x hj => ?_⟩
  obtain ⟨u, lo, hi, p, q, r, s, t⟩ := c j x hj
  exact ⟨u, lo, hi, p, q, by omega, s, t⟩
theorem RowAt.empty {α : Type} (T : Nat) (I : Nat → Nat → World → Value → α → Prop) (w : World) : RowAt T w.heap.size w.heap.size I w (.slice none 0 0) ([] : List α) :=
  ⟨Nat.le_refl _, Nat.le_refl _, [], World.ownsRow_nil _ _ _ _, by simp [Value.ownBlock], fun j x hj => by simp at hj⟩

/-- behind an append of one value -/
theorem RowAt.snoc {α : Type} {T base top : Nat} {I : Nat → Nat → World → Value → α → Prop} (hI : ∀ (lo hi : Nat) (w w' : World) (v : Value) (x : α), I lo hi w v x → KeptIn lo hi w w' → I lo hi w' v x)
    {w wa w' : World} {v v' u : Value} {xs : List α} {x : α} {lo hi : Nat} (h : RowAt T base top I w v xs) (hx : I lo hi w u x) (hlo : top ≤ lo) (hhi : hi ≤ w.heap.size)
    (ha : Below w.heap.size w wa) {vals : List Value} (hvals : w.ownsRow base T 1 v xs.length vals) (hown : w'.ownsRow base T 1 v' (xs.length + 1) (vals ++ [u])) (hg : wa.grownBy w' v.ownBlock) (hb : ∀ g, v'.ownBlock = some g → v.ownBlock = some g ∨ wa.heap.size ≤ g) :
    RowAt T base w'.heap.size I w' v' (xs ++ [x]) := by
  obtain ⟨hbt, h0, vals', h1, h2, h3⟩ := h
  have hvv : vals' = vals := by
    rcases h1.2 with ⟨e1, e2⟩ | ⟨g, cap, cur, e, _, hg1, _, _, _, ht⟩
    · have a1 := h1.1
      have a2 := hvals.1
      rw [e2] at a1 a2
      simp at a1 a2
      rw [a1, a2]
    · rcases hvals.2 with ⟨e1, _⟩ | ⟨g', cap', cur', e', _, hg1', _, _, _, ht'⟩
      · rw [e] at e1; cases e1
      · rw [e] at e'
        injection e' with e1 _ _
        injection e1 with e1
        injection e1 with e1 _ _
        subst e1
        rw [hg1] at hg1'
        injection hg1' with e2
        injection e2 with e2 _ _
        subst e2
        rw [← ht, ← ht']
  subst hvv
  have hasz := ha.size
  have hgsz := hg.size
  refine ⟨by omega, Nat.le_refl _, vals' ++ [u], by simpa using hown, ?_, ?_⟩
  · intro g hg'
    exact (hown.lt g hg').2
  · have hkeep : ∀ lo hi, hi ≤ w.heap.size → (∀ g, v.ownBlock = some g → g < lo ∨ hi ≤ g) → KeptIn lo hi w w' := by
      intro lo hi hh hne
      refine ⟨Nat.le_trans hasz hgsz, fun k k1 k2 => ?_⟩
      rw [hg.block k (by omega) (fun e => by have := hne k e.symm; omega), ha.block k (by omega)]
    intro j y hj
    have hlen : vals'.length = xs.length := by have := h1.1; omega
    by_cases hjl : j < xs.length
    · rw [List.getElem?_append_left hjl] at hj
      obtain ⟨u', lo', hi', p, q, r, s, t⟩ := h3 j y hj
      refine ⟨u', lo', hi', by rw [List.getElem?_append_left (by omega)]; exact p, q, by omega, hI _ _ _ _ _ _ s (hkeep _ _ (by omega) t), ?_⟩
      intro g hg'
      rcases hb g hg' with e | e
      · exact t g e
      · right; omega
    · rw [List.getElem?_append_right (by omega)] at hj
      have hj0 : j - xs.length = 0 := by
        rcases Nat.eq_zero_or_pos (j - xs.length) with e | e
        · exact e
        · rw [List.getElem?_eq_none (by simp; omega)] at hj; cases hj
      rw [hj0] at hj
      simp at hj
      subst hj
      have hne : ∀ g, v.ownBlock = some g → g < lo ∨ hi ≤ g := fun g e => Or.inl (Nat.lt_of_lt_of_le (h2 g e) hlo)
      refine ⟨u, lo, hi, ?_, ?_, by omega, hI _ _ _ _ _ _ hx (hkeep _ _ hhi hne), ?_⟩
      · rw [List.getElem?_append_right (by omega), hlen, hj0]; rfl
      · omega
      · intro g hg'
        rcases hb g hg' with e | e
        · exact hne g e
        · right; omega

/-- a slice just made of one value -/
theorem RowAt.single {α : Type} {T base : Nat} {I : Nat → Nat → World → Value → α → Prop} (hI : ∀ (lo hi : Nat) (w w' : World) (v : Value) (x : α), I lo hi w v x → KeptIn lo hi w w' → I lo hi w' v x)
    {w : World} {u : Value} {x : α} {lo hi : Nat} (hx : I lo hi w u x) (hlo : base ≤ lo) (hhi : hi ≤ w.heap.size) (hb : base ≤ w.heap.size) :
    RowAt T base (w.heap.size + 1) I (w.alloc (.cells #[u] T)) (.slice (some ⟨w.heap.size, 0, none⟩) 1 1) [x] := by
  have hsz : (w.alloc (.cells #[u] T)).heap.size = w.heap.size + 1 := by simp
  refine ⟨by omega, by omega, [u], ?_, ?_, ?_⟩
  · exact World.ownsRow_lit w #[u] 1 hb (by unfold maxLen; omega) rfl
  · intro g hg
    simp [Value.ownBlock] at hg
    omega
  · intro j y hj
    match j, hj with
    | 0, hj =>
      simp at hj; subst hj
      refine ⟨u, lo, hi, rfl, hlo, by omega, hI _ _ _ _ _ _ hx (KeptIn.of_below ((Below.refl _ _).alloc (Nat.le_refl _) _) hhi), ?_⟩
      intro g hg
      simp [Value.ownBlock] at hg
      omega

theorem RowAt.cells {α : Type} {T base top : Nat} {I : Nat → Nat → World → Value → α → Prop} {w : World} {v : Value} {xs : List α} (h : RowAt T base top I w v xs) (hne : xs ≠ []) :
    top ≤ w.heap.size ∧ ∃ g cap, v = .slice (some ⟨g, 0, none⟩) xs.length cap ∧ base ≤ g ∧ g < top ∧ ∀ (j : Nat) (x : α), xs[j]? = some x → ∃ u lo hi, base ≤ lo ∧ hi ≤ top ∧ w.cell? ⟨g, j, none⟩ = some u ∧ I lo hi w u x := by
  obtain ⟨_, h0, vals, h1, h2, h3⟩ := h
  refine ⟨h0, ?_⟩
  have hpos := List.length_pos_iff.2 hne
  rcases h1.2 with ⟨_, e⟩ | ⟨g, cap, cur, rfl, hb, hg, _⟩
  · omega
  · refine ⟨g, cap, rfl, hb, h2 g rfl, fun j x hj => ?_⟩
    obtain ⟨u, lo, hi, a, b, c, d, _⟩ := h3 j x hj
    have hlt : j < xs.length := (List.getElem?_eq_some_iff.1 hj).1
    exact ⟨u, lo, hi, b, c, by rw [h1.cellAt j (by omega)]; exact a, d⟩
theorem kB : ∀ (lo hi : Nat) (w w' : World) (v : Value) (x : List Part), IsB lo hi w v x → KeptIn lo hi w w' → IsB lo hi w' v x := fun _ _ _ _ _ _ => IsB.keep
theorem kP : ∀ (lo hi : Nat) (w w' : World) (v : Value) (x : Part), IsP lo hi w v x → KeptIn lo hi w w' → IsP lo hi w' v x := fun _ _ _ _ _ _ => IsP.keep
theorem RowAt.isB {base top : Nat} {w : World} {v : Value} {ps : List Part} (h : RowAt 116 base top IsP w v ps) (hne : ps ≠ []) : IsB base top w v ps := h.cells hne
theorem RowAt.isCs {base top : Nat} {w : World} {v : Value} {cs : List (List Part)} (h : RowAt 91 base top IsB w v cs) (hne : cs ≠ []) : IsCs base top w v cs := h.cells hne
end Go.Proofs.Ytfoeamgjjhfkdaa
