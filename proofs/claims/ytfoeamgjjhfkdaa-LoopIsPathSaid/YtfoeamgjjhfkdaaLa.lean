/- A region that draws its order and holds one store, of which its other operations do not hang: one walk of the text's order serves. -/
import Derived.Test.YtfoeamgjjhfkdaaRf
namespace Go.Proofs.Ytfoeamgjjhfkdaa
open Go Go.Shelf Go.RowKit Go.Proofs L9

section
variable {P : Program} {ops : Array Oper} {md : Region.Mode} {A B : World} {K : Nat}

/-- what an operation gives: the store takes A to B, any other one yields the same in both -/
def LateAt (P : Program) (A B : World) (st : Bool) (o : Oper) (a : Act) (v : Value) : Prop :=
  match st with
  | true => (execOp a.eval o).run P A = .ok .skip B ∧ v = undef
  | false => (execOp a.eval o).run P A = .ok (.value v) A ∧ (execOp a.eval o).run P B = .ok (.value v) B

def YieldsL (P : Program) (ops : Array Oper) (A B : World) (st : Bool) (o : Oper) (v : Value) (a : Act) : Prop :=
  (Region.wanted o (yielded ops a.tmps) = true ∧ LateAt P A B st o a v) ∨ (Region.wanted o (yielded ops a.tmps) = false ∧ st = false ∧ v = undef)

/-- the walk in the text's order; the operation's number goes along -/
def wpLate (P : Program) (ops : Array Oper) (A B : World) (K : Nat) (Q : Act → Prop) : Nat → List Oper → Act → Prop
  | _, [], a => Q a
  | k, o :: rest, a => ∃ v, YieldsL P ops A B (k == K) o v a ∧ wpLate P ops A B K Q (k + 1) rest (a.put o.dst v)

def lOp (P : Program) (ops : Array Oper) (A B : World) (K : Nat) (i : Nat) (N : Act → Prop) (a : Act) : Prop :=
  match ops[i]? with
  | none => N a
  | some o => ∃ v, YieldsL P ops A B (i == K) o v a ∧ N (a.put o.dst v)

theorem lOp_mono {i : Nat} {a : Act} {N N' : Act → Prop} (h : ∀ a, N a → N' a) (hh : lOp P ops A B K i N a) : lOp P ops A B K i N' a := by
  unfold lOp at *
  split
  · exact h _ (by simpa [*] using hh)
  · rename_i o ho
    simp only [ho] at hh
    obtain ⟨v, h1, h2⟩ := hh
    exact ⟨v, h1, h _ h2⟩

def wpAnyL2 (P : Program) (md : Region.Mode) (ops : Array Oper) (A B : World) (K : Nat) (Q : Array Bool → Act → Prop) : Nat → Array Bool → Act → Prop
  | 0, listed, a => Region.ready md ops listed = [] ∧ Q listed a
  | fuel + 1, listed, a =>
    (Region.ready md ops listed = [] → Q listed a) ∧
    ∀ i ∈ Region.ready md ops listed, lOp P ops A B K i (wpAnyL2 P md ops A B K Q fuel (listed.setIfInBounds i true)) a

def side (A B : World) (K : Nat) (listed : Array Bool) : World := if listed.getD K false then B else A

theorem side_set_ne {i : Nat} {listed : Array Bool} (h : i ≠ K) : side A B K (listed.setIfInBounds i true) = side A B K listed := by
  unfold side; rw [getD_set_ne false h]
theorem side_set {listed : Array Bool} (h : K < listed.size) : side A B K (listed.setIfInBounds K true) = B := by
  unfold side
  rw [if_pos]
  simp [Array.getD_eq_getD_getElem?, h]

theorem wpOp_of_lOp {i : Nat} {listed : Array Bool} {a : Act} {N : Act → Prop} {N' : Act → World → Prop} {Q' : Exit → Act → World → Prop} (hun : listed.getD i true = false)
    (h : ∀ a, N a → N' a (side A B K (listed.setIfInBounds i true))) (hh : lOp P ops A B K i N a) (hsome : ops[i]? ≠ none) : wpOp P ops Q' i N' a (side A B K listed) := by
  have hlt : i < listed.size := by
    rcases Nat.lt_or_ge i listed.size with h' | h'
    · exact h'
    · simp [Array.getElem?_eq_none h'] at hun
  unfold lOp at hh
  unfold wpOp
  split
  · rename_i ho; exact absurd ho hsome
  · rename_i o ho
    simp only [ho] at hh
    obtain ⟨v, hy, hN⟩ := hh
    by_cases hik : i = K
    · subst hik
      have hs : side A B i listed = A := by
        unfold side
        rw [if_neg]
        simp [Array.getD_eq_getD_getElem?, hlt] at hun ⊢
        exact hun
      rw [side_set hlt] at h
      rw [hs]
      simp only [beq_self_eq_true] at hy
      rcases hy with ⟨hw, h1, rfl⟩ | ⟨_, h0, _⟩
      · rw [if_pos hw]
        refine .inl ?_
        unfold Oper.wp
        rw [h1]
        exact h _ hN
      · cases h0
    · rw [side_set_ne hik] at h
      have hb : (i == K) = false := by simpa using hik
      rw [hb] at hy
      rcases hy with ⟨hw, h1, h2⟩ | ⟨hw, _, rfl⟩
      · rw [if_pos hw]
        refine .inl ?_
        unfold Oper.wp
        have : (execOp a.eval o).run P (side A B K listed) = .ok (.value v) (side A B K listed) := by unfold side; split <;> assumption
        rw [this]
        exact h _ hN
      · rw [if_neg (by rw [hw]; simp)]
        exact h _ hN

theorem wpAny_of_late {Q : Array Bool → Act → Prop} {Q' : Exit → Act → World → Prop} (hQ : ∀ listed a, Q listed a → Q' .normal a (side A B K listed)) : ∀ (fuel : Nat) (listed : Array Bool) (a : Act),
    wpAnyL2 P md ops A B K Q fuel listed a → wpAny P md ops Q' fuel listed a (side A B K listed)
  | 0, _, _, h => ⟨h.1, hQ _ _ h.2⟩
  | fuel + 1, listed, a, h => ⟨fun h0 => hQ _ _ (h.1 h0), fun i hi => by
      obtain ⟨hun, o, ho, _⟩ := mem_ready.1 hi
      exact wpOp_of_lOp hun (fun a' hN => wpAny_of_late hQ fuel _ a' hN) (h.2 i hi) (by rw [ho]; simp)⟩

theorem YieldsL.of_same {st : Bool} {o : Oper} {v : Value} {a a' : Act} (hy : YieldsL P ops A B st o v a) (he : execOp a'.eval o = execOp a.eval o)
    (hw : Region.wanted o (yielded ops a'.tmps) = Region.wanted o (yielded ops a.tmps)) : YieldsL P ops A B st o v a' := by
  unfold YieldsL LateAt at *
  rw [he, hw]
  exact hy

theorem lOp_put {i j : Nat} {oi oj : Oper} {v : Value} (hj : ops[j]? = some oj) (hap : oi.apart ops oj = true)
    (hsi : ∀ cs b, oi.op ≠ .select cs b) (hsj : ∀ cs b, oj.op ≠ .select cs b) {N : Act → Prop} {a : Act}
    (hy : YieldsL P ops A B (i == K) oi v a) (h : lOp P ops A B K j N (a.put oi.dst v)) :
    lOp P ops A B K j (fun a' => YieldsL P ops A B (i == K) oi v a' ∧ N (a'.put oi.dst v)) a := by
  obtain ⟨h1, h2, h3⟩ := Oper.apart_spec hap
  unfold lOp at *
  simp only [hj] at *
  obtain ⟨u, hu, hn⟩ := h
  refine ⟨u, hu.of_same (execOp_put oj hsj a oi.dst v h1).symm (wanted_put oj a oi.dst v h1).symm, hy.of_same (execOp_put oi hsi a oj.dst u h3) (wanted_put oi a oj.dst u h3), ?_⟩
  rw [← Act.put_comm a v u h2]; exact hn

theorem wpAnyL2_first {Q : Array Bool → Act → Prop} {i : Nat} {oi : Oper} {v : Value} (hi : ops[i]? = some oi) (hsel : ∀ (j : Nat) (o : Oper) cs b, ops[j]? = some o → o.op ≠ .select cs b) :
    ∀ (fuel : Nat) (listed : Array Bool) (a : Act),
      (∀ j oj, ops[j]? = some oj → j ≠ i → listed.getD j true = false → (∀ e ∈ oj.after, Region.binds md e = true → e.on ≠ i) → oi.apart ops oj = true) →
      i ∈ Region.ready md ops listed → YieldsL P ops A B (i == K) oi v a →
      wpAnyL2 P md ops A B K Q fuel (listed.setIfInBounds i true) (a.put oi.dst v) → wpAnyL2 P md ops A B K Q (fuel + 1) listed a := by
  intro fuel
  induction fuel with
  | zero =>
    intro listed a _ hr hy H
    refine ⟨fun h => (by rw [h] at hr; cases hr), fun j hj => ?_⟩
    by_cases hji : j = i
    · subst hji; unfold lOp; simp only [hi]; exact ⟨v, hy, H⟩
    · have := ready_mono hj hji
      rw [H.1] at this
      cases this
  | succ fuel ih =>
    intro listed a hfree hr hy H
    refine ⟨fun h => (by rw [h] at hr; cases hr), fun j hj => ?_⟩
    by_cases hji : j = i
    · subst hji; unfold lOp; simp only [hi]; exact ⟨v, hy, H⟩
    · have h1 := H.2 j (ready_mono hj hji)
      obtain ⟨hjun, oj, hoj, hall⟩ := mem_ready.1 hj
      have hnot : ∀ e ∈ oj.after, Region.binds md e = true → e.on ≠ i := fun e he hb heq => by
        have h1 := hall e he hb
        have h0 := (mem_ready.1 hr).1
        rw [heq] at h1
        rcases Nat.lt_or_ge i listed.size with h' | h'
        · simp [h'] at h0 h1; rw [h0] at h1; cases h1
        · simp [Array.getElem?_eq_none h'] at h1
      have h2 := lOp_put (i := i) hoj (hfree j oj hoj hji hjun hnot) (fun cs b => hsel i oi cs b hi) (fun cs b => hsel j oj cs b hoj) hy h1
      have hfree' : ∀ k ok, ops[k]? = some ok → k ≠ i → (listed.setIfInBounds j true).getD k true = false →
          (∀ e ∈ ok.after, Region.binds md e = true → e.on ≠ i) → oi.apart ops ok = true := fun k ok hk hki hun hno => by
        refine hfree k ok hk hki ?_ hno
        by_cases hjk : j = k
        · subst hjk; exact hjun
        · rw [getD_set_ne true hjk] at hun; exact hun
      refine lOp_mono (fun a' h3 => ih (listed.setIfInBounds j true) a' hfree' (ready_mono hr (Ne.symm hji)) h3.1 ?_) h2
      rw [Array.setIfInBounds_comm _ _ hji]
      exact h3.2

theorem wpAnyL2_lex {Q : Act → Prop} (hs : Region.noSelect ops = true) (hK : K < ops.size) : ∀ (l : List Oper) (k : Nat) (listed : Array Bool) (a : Act), (∀ j, l[j]? = ops[k + j]?) → listed.size = ops.size → (K < k → listed.getD K false = true) →
    Region.lexFrom md ops l.length k listed = true → wpLate P ops A B K Q k l a → wpAnyL2 P md ops A B K (fun li a => li.getD K false = true ∧ Q a) l.length listed a
  | [], k, listed, _, hl, _, hk, hB, h => ⟨by simpa [Region.lexFrom] using hB, hk (by
      rcases Nat.lt_or_ge K k with h' | h'
      · exact h'
      · have := hl (K - k)
        rw [show k + (K - k) = K by omega] at this
        simp [hK] at this), h⟩
  | o :: l, k, listed, a, hl, hsz, hk, hB, h => by
    have h0 : ops[k]? = some o := by simpa using (hl 0).symm
    have hklt : k < ops.size := (Array.getElem?_eq_some_iff.1 h0).1
    simp only [List.length_cons, Region.lexFrom, Bool.and_eq_true] at hB
    obtain ⟨⟨hr, hf⟩, hB'⟩ := hB
    obtain ⟨v, hy, hN⟩ := h
    refine wpAnyL2_first h0 (Region.noSelect_spec hs) l.length listed a (Region.free_spec h0 hf) (by simpa using hr) hy
      (wpAnyL2_lex hs hK l (k + 1) _ _ (fun j => by have := hl (j + 1); simpa [Nat.add_assoc, Nat.add_comm 1 j] using this) (by simpa using hsz) (fun hlt => ?_) hB' hN)
    by_cases hkK : k = K
    · subst hkK
      simp [Array.getD_eq_getD_getElem?, hsz, hklt]
    · rw [getD_set_ne false hkK]; exact hk (by omega)

/-- the law -/
theorem wp_region_late {id : Nat} {Q : Exit → Act → World → Prop} {a : Act} {w B : World} {l : List Oper} (K : Nat) (hm : P.follows .mixedOrders = true) (hB : Region.lexB .any l.toArray = true) (hK : (decide (K < l.length)) = true)
    (h : wpLate P l.toArray w.drew B K (fun a' => Q .normal a' B) 0 l a) : (Code.region id l.toArray true).wp P Q a w := by
  simp only [Region.lexB, Bool.and_eq_true] at hB
  have hK' : K < l.toArray.size := by simpa using hK
  refine wp_region_any hm ?_
  have hs0 : side w.drew B K (Array.replicate l.toArray.size false) = w.drew := by
    unfold side
    rw [if_neg]
    rw [getD_replicate_false]
    simp
  have := wpAny_of_late (md := .any) (Q' := Q) (fun li a' h' => by unfold side; rw [if_pos h'.1]; exact h'.2) _ _ _
    (wpAnyL2_lex (md := .any) hB.1 hK' l 0 (Array.replicate l.toArray.size false) a (by simp) (by simp) (fun h => absurd h (by omega)) (by simpa using hB.2) h)
  rw [hs0] at this
  simpa using this

/-- one step that only reads -/
theorem late_step {Q : Act → Prop} {k : Nat} {o : Oper} {rest : List Oper} {a : Act} (v : Value) (hk : (k == K) = false) (hw : Region.wanted o (yielded ops a.tmps) = true) (hA : (execOp a.eval o).run P A = .ok (.value v) A) (hB : (execOp a.eval o).run P B = .ok (.value v) B)
    (h : wpLate P ops A B K Q (k + 1) rest (a.put o.dst v)) : wpLate P ops A B K Q k (o :: rest) a := ⟨v, by rw [hk]; exact .inl ⟨hw, hA, hB⟩, h⟩
theorem late_skip {Q : Act → Prop} {k : Nat} {o : Oper} {rest : List Oper} {a : Act} (hk : (k == K) = false) (hw : Region.wanted o (yielded ops a.tmps) = false)
    (h : wpLate P ops A B K Q (k + 1) rest (a.put o.dst undef)) : wpLate P ops A B K Q k (o :: rest) a := ⟨undef, by rw [hk]; exact .inr ⟨hw, rfl, rfl⟩, h⟩
theorem late_store {Q : Act → Prop} {k : Nat} {o : Oper} {rest : List Oper} {a : Act} (hk : (k == K) = true) (hw : Region.wanted o (yielded ops a.tmps) = true) (hA : (execOp a.eval o).run P A = .ok .skip B)
    (h : wpLate P ops A B K Q (k + 1) rest (a.put o.dst undef)) : wpLate P ops A B K Q k (o :: rest) a := ⟨undef, by rw [hk]; exact .inl ⟨hw, hA, rfl⟩, h⟩
theorem late_nil {Q : Act → Prop} {k : Nat} {a : Act} (h : Q a) : wpLate P ops A B K Q k [] a := h

theorem late_load_row {Q : Act → Prop} {k : Nat} {o : Oper} {rest : List Oper} {a : Act} {ty : TypeId} {x : Operand} {b : Nat} {v : Value} (hgd : o.guard = none) (ho : o.op = .load ty x) (hx : a.eval x = .pointer (some ⟨b, 0, none⟩)) (hk : (k == K) = false)
    (hA : (loadVar ty ⟨b, 0, none⟩).run P A = .ok v A) (hB : (loadVar ty ⟨b, 0, none⟩).run P B = .ok v B)
    (h : wpLate P ops A B K Q (k + 1) rest (a.put o.dst v)) : wpLate P ops A B K Q k (o :: rest) a := by
  refine late_step v hk (by simp [Region.wanted, hgd]) ?_ ?_ h
  · unfold execOp
    simp only [ho, hx, Instr.loadAt, Instr.sureAddr, Sem.run_bind, Sem.run_pure, Result.andThen_ok, hA]
  · unfold execOp
    simp only [ho, hx, Instr.loadAt, Instr.sureAddr, Sem.run_bind, Sem.run_pure, Result.andThen_ok, hB]
end
end Go.Proofs.Ytfoeamgjjhfkdaa
