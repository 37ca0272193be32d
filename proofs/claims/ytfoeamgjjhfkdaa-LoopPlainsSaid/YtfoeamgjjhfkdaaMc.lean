/- What the reader reads: texts, lengths, letters. -/
import Derived.Test.YtfoeamgjjhfkdaaMa
namespace Go.Proofs.Ytfoeamgjjhfkdaa.L9

mutual
def Part.ok : Part → Prop
  | .letter i => i < 8
  | .circ c => c ≠ [] ∧ okC c
def okB : List Part → Prop
  | [] => True
  | p :: b => p.ok ∧ okB b
def okC : List (List Part) → Prop
  | [] => True
  | b :: c => (b ≠ [] ∧ okB b) ∧ okC c
end

theorem pC_succ (n : Nat) (s : List UInt8) : pC (n + 1) s = match pB n s with
    | none => none
    | some (b, r) => match r with
      | [] => some ([b], r)
      | x :: r' => if x = 43 then (pC n r').map fun y => (b :: y.1, y.2) else some ([b], r) := by rw [pC]; rfl
theorem pB_succ (n : Nat) (s : List UInt8) : pB (n + 1) s = match pP n s with
    | none => none
    | some (p, r) => if starts r then (pB n r).map fun y => (p :: y.1, y.2) else some ([p], r) := by rw [pB]; rfl
theorem pP_nil (n : Nat) : pP (n + 1) [] = none := by rw [pP]
theorem pP_cons (n : Nat) (b : UInt8) (r : List UInt8) : pP (n + 1) (b :: r) = if isLet b then some (.letter (b.toNat - 97), r) else if b = 40 then (match pC n r with
      | none => none
      | some (c, r') => match r' with
        | [] => none
        | x :: r'' => if x = 41 then some (.circ c, r'') else none) else none := by rw [pP]; rfl

theorem isLet_iff (b : UInt8) : isLet b = true ↔ 97 ≤ b.toNat ∧ b.toNat ≤ 104 := by unfold isLet; simp
theorem let_byte (b : UInt8) (h : isLet b = true) : UInt8.ofNat (97 + (b.toNat - 97)) = b := by
  rw [isLet_iff] at h
  rw [show 97 + (b.toNat - 97) = b.toNat by omega]
  simp

theorem reads (n : Nat) : (∀ s p r, pP n s = some (p, r) → s = p.txt ++ r ∧ p.ok) ∧ (∀ s b r, pB n s = some (b, r) → s = txtB b ++ r ∧ b ≠ [] ∧ okB b) ∧ (∀ s c r, pC n s = some (c, r) → s = txtC c ++ r ∧ c ≠ [] ∧ okC c) := by
  induction n with
  | zero => refine ⟨?_, ?_, ?_⟩ <;> (intro s _ _ h; simp [pP, pB, pC] at h)
  | succ n ih =>
    obtain ⟨ihP, ihB, ihC⟩ := ih
    refine ⟨?_, ?_, ?_⟩
    · intro s p r h
      cases s with
      | nil => rw [pP_nil] at h; cases h
      | cons b s =>
        rw [pP_cons] at h
        by_cases hl : isLet b = true
        · rw [if_pos hl] at h
          simp only [Option.some.injEq, Prod.mk.injEq] at h
          obtain ⟨rfl, rfl⟩ := h
          refine ⟨?_, ?_⟩
          · simp only [Part.txt, List.cons_append, List.nil_append]
            rw [let_byte b hl]
          · rw [isLet_iff] at hl
            show b.toNat - 97 < 8
            omega
        · rw [if_neg hl] at h
          by_cases h40 : b = 40
          · rw [if_pos h40] at h
            cases hc : pC n s with
            | none => rw [hc] at h; cases h
            | some y =>
              obtain ⟨c, r'⟩ := y
              rw [hc] at h
              simp only at h
              cases r' with
              | nil => cases h
              | cons x r'' =>
                simp only at h
                by_cases h41 : x = 41
                · rw [if_pos h41] at h
                  simp only [Option.some.injEq, Prod.mk.injEq] at h
                  obtain ⟨rfl, rfl⟩ := h
                  obtain ⟨e, h1, h2⟩ := ihC _ _ _ hc
                  refine ⟨?_, h1, h2⟩
                  rw [e, h40, h41]
                  simp [Part.txt]
                · rw [if_neg h41] at h; cases h
          · rw [if_neg h40] at h; cases h
    · intro s b r h
      rw [pB_succ] at h
      cases hp : pP n s with
      | none => rw [hp] at h; cases h
      | some y =>
        obtain ⟨p, r1⟩ := y
        rw [hp] at h
        simp only at h
        obtain ⟨e, h1⟩ := ihP _ _ _ hp
        by_cases hs : starts r1 = true
        · rw [if_pos hs] at h
          cases hb : pB n r1 with
          | none => rw [hb] at h; cases h
          | some z =>
            obtain ⟨b', r2⟩ := z
            rw [hb] at h
            simp only [Option.map_some, Option.some.injEq, Prod.mk.injEq] at h
            obtain ⟨rfl, rfl⟩ := h
            obtain ⟨e2, h3, h4⟩ := ihB _ _ _ hb
            refine ⟨?_, by simp, h1, h4⟩
            rw [e, e2]; simp [txtB]
        · rw [if_neg hs] at h
          simp only [Option.some.injEq, Prod.mk.injEq] at h
          obtain ⟨rfl, rfl⟩ := h
          exact ⟨by rw [e]; simp [txtB], by simp, h1, trivial⟩
    · intro s c r h
      rw [pC_succ] at h
      cases hp : pB n s with
      | none => rw [hp] at h; cases h
      | some y =>
        obtain ⟨b, r1⟩ := y
        rw [hp] at h
        simp only at h
        obtain ⟨e, h1, h2⟩ := ihB _ _ _ hp
        cases r1 with
        | nil =>
          simp only [Option.some.injEq, Prod.mk.injEq] at h
          obtain ⟨rfl, rfl⟩ := h
          exact ⟨by rw [e]; simp [txtC, txtM], by simp, ⟨h1, h2⟩, trivial⟩
        | cons x r' =>
          simp only at h
          by_cases h43 : x = 43
          · rw [if_pos h43] at h
            cases hc : pC n r' with
            | none => rw [hc] at h; cases h
            | some z =>
              obtain ⟨c', r2⟩ := z
              rw [hc] at h
              simp only [Option.map_some, Option.some.injEq, Prod.mk.injEq] at h
              obtain ⟨rfl, rfl⟩ := h
              obtain ⟨e2, h3, h4⟩ := ihC _ _ _ hc
              refine ⟨?_, by simp, ⟨h1, h2⟩, h4⟩
              rw [e, e2, h43]
              cases c' with
              | nil => exact absurd rfl h3
              | cons b' c' => simp [txtC, txtM]
          · rw [if_neg h43] at h
            simp only [Option.some.injEq, Prod.mk.injEq] at h
            obtain ⟨rfl, rfl⟩ := h
            exact ⟨by rw [e]; simp [txtC, txtM], by simp, ⟨h1, h2⟩, trivial⟩

mutual
theorem Part.txt_pos : ∀ p : Part, 1 ≤ p.txt.length
  | .letter _ => by simp [Part.txt]
  | .circ _ => by simp [Part.txt]
end
theorem txtB_len : ∀ b : List Part, b.length ≤ (txtB b).length
  | [] => by simp
  | p :: b => by
    have := txtB_len b
    have := p.txt_pos
    simp only [txtB, List.length_append, List.length_cons]; omega
theorem txtM_len : ∀ c : List (List Part), c.length ≤ (txtM c).length
  | [] => by simp
  | b :: c => by
    have := txtM_len c
    simp only [txtM, List.length_append, List.length_cons]; omega
theorem txtC_len (c : List (List Part)) : c.length ≤ (txtC c).length + 1 := by
  cases c with
  | nil => simp
  | cons b c => have := txtM_len c; simp only [txtC, List.length_append, List.length_cons]; omega
theorem txtB_le_M : ∀ (c : List (List Part)) (b : List Part), b ∈ c → (txtB b).length ≤ (txtM c).length
  | b' :: c, b, h => by
    simp only [txtM, List.length_append, List.length_cons]
    rcases List.mem_cons.1 h with rfl | h
    · omega
    · have := txtB_le_M c b h; omega
theorem txtB_le_C (c : List (List Part)) (b : List Part) (h : b ∈ c) : (txtB b).length ≤ (txtC c).length := by
  cases c with
  | nil => cases h
  | cons b' c =>
    simp only [txtC, List.length_append]
    rcases List.mem_cons.1 h with rfl | h
    · omega
    · have := txtB_le_M c b h; omega

theorem wrap_len (d : List UInt8) : (wrapT d).length ≤ d.length + 2 := by unfold wrapT; split <;> simp
mutual
theorem Part.dt_len : ∀ p : Part, p.ok → p.dt.length + 1 ≤ 4 * p.txt.length
  | .letter _, _ => by simp [Part.dt, Part.txt]
  | .circ c, h => by
    have h1 := dtC_len c h.1 h.2
    have h2 : (Part.circ c).dt.length = (dtC c).length := rfl
    have h3 : (Part.circ c).txt.length = (txtC c).length + 2 := by simp [Part.txt]
    omega
theorem dtB_len : ∀ b : List Part, b ≠ [] → okB b → (dtB b).length + 1 ≤ 4 * (txtB b).length
  | p :: b, _, h => by
    have h1 := p.dt_len h.1
    have h2 := dtP_len b h.2
    simp only [dtB, txtB, List.length_append]
    omega
theorem dtP_len : ∀ b : List Part, okB b → (dtP b).length ≤ 4 * (txtB b).length
  | [], _ => by simp [dtP]
  | p :: b, h => by
    have h1 := p.dt_len h.1
    have h2 := dtP_len b h.2
    simp only [dtP, txtB, List.length_append, List.length_cons]
    omega
theorem dtC_len : ∀ c : List (List Part), c ≠ [] → okC c → (dtC c).length ≤ 4 * (txtC c).length + 1
  | [b], _, h => by
    have h1 := dtB_len b h.1.1 h.1.2
    simp only [dtC, dtM, txtC, txtM, List.append_nil]
    omega
  | b :: b' :: c, _, h => by
    have h1 := dtB_len b h.1.1 h.1.2
    have h2 := dtM_len (b' :: c) h.2
    have h3 := wrap_len (dtB b)
    have e : dtC (b :: b' :: c) = wrapT (dtB b) ++ dtM (b' :: c) := rfl
    rw [e]
    have e2 : txtC (b :: b' :: c) = txtB b ++ txtM (b' :: c) := rfl
    rw [e2]
    simp only [List.length_append]
    omega
theorem dtM_len : ∀ c : List (List Part), okC c → (dtM c).length ≤ 4 * (txtM c).length
  | [], _ => by simp [dtM]
  | b :: c, h => by
    have h1 := dtB_len b h.1.1 h.1.2
    have h2 := dtM_len c h.2
    have h3 := wrap_len (dtB b)
    simp only [dtM, txtM, List.length_append, List.length_cons]
    omega
end
theorem dtM_le (c : List (List Part)) (h0 : c ≠ []) (h : okC c) : (dtM c).length ≤ 4 * (txtC c).length + 4 := by
  cases c with
  | nil => simp [dtM]
  | cons b c =>
    have h1 := dtB_len b h.1.1 h.1.2
    have h2 := dtM_len c h.2
    have h3 := wrap_len (dtB b)
    simp only [dtM, txtC, List.length_append]
    omega

def Asc (l : List UInt8) : Prop := ∀ x ∈ l, x.toNat < 128
theorem Asc.append {a b : List UInt8} (ha : Asc a) (hb : Asc b) : Asc (a ++ b) := fun x hx => (List.mem_append.1 hx).elim (ha x) (hb x)
theorem Asc.cons {x : UInt8} {a : List UInt8} (hx : x.toNat < 128) (ha : Asc a) : Asc (x :: a) := fun y hy => (List.mem_cons.1 hy).elim (fun e => e ▸ hx) (ha y)
theorem Asc.nil : Asc [] := fun x hx => by cases hx
theorem Asc.wrap {d : List UInt8} (h : Asc d) : Asc (wrapT d) := by
  unfold wrapT
  split
  · exact Asc.cons (by decide) (h.append (Asc.cons (by decide) Asc.nil))
  · exact h
mutual
theorem Part.dt_asc : ∀ p : Part, p.ok → Asc p.dt
  | .letter i, h => by
    have h : i < 8 := h
    refine Asc.cons ?_ Asc.nil
    simp [UInt8.toNat_ofNat']
    omega
  | .circ c, h => dtC_asc c h.2
theorem dtB_asc : ∀ b : List Part, okB b → Asc (dtB b)
  | [], _ => Asc.nil
  | p :: b, h => (p.dt_asc h.1).append (dtP_asc b h.2)
theorem dtP_asc : ∀ b : List Part, okB b → Asc (dtP b)
  | [], _ => Asc.nil
  | p :: b, h => Asc.cons (by decide) ((p.dt_asc h.1).append (dtP_asc b h.2))
theorem dtC_asc : ∀ c : List (List Part), okC c → Asc (dtC c)
  | [], _ => Asc.nil
  | [b], h => (dtB_asc b h.1.2).append Asc.nil
  | b :: b' :: c, h => (dtB_asc b h.1.2).wrap.append (dtM_asc (b' :: c) h.2)
theorem dtM_asc : ∀ c : List (List Part), okC c → Asc (dtM c)
  | [], _ => Asc.nil
  | b :: c, h => (dtB_asc b h.1.2).wrap.append (dtM_asc c h.2)
end
theorem okC_mem : ∀ (c : List (List Part)) (b : List Part), okC c → b ∈ c → b ≠ [] ∧ okB b
  | b' :: c, b, h, hb => by
    rcases List.mem_cons.1 hb with rfl | hb
    · exact h.1
    · exact okC_mem c b h.2 hb
end Go.Proofs.Ytfoeamgjjhfkdaa.L9
