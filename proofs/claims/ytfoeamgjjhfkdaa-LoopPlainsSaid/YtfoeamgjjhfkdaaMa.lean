/- The circuits of the document: their parts, what they conduct, the texts of their duals, and a reader of them. -/
namespace Go.Proofs.Ytfoeamgjjhfkdaa.L9

/-- A part of a branch: a letter, or a circuit in brackets (its branches, each a list of parts). -/
inductive Part where
  | letter (i : Nat)
  | circ (c : List (List Part))

mutual
def Part.ev : Part → Nat → Bool
  | .letter i, n => n.testBit i
  | .circ c, n => evC c n
def evB : List Part → Nat → Bool
  | [], _ => true
  | p :: b, n => p.ev n && evB b n
def evC : List (List Part) → Nat → Bool
  | [], _ => false
  | b :: c, n => evB b n || evC c n
end

mutual
def Part.txt : Part → List UInt8
  | .letter i => [UInt8.ofNat (97 + i)]
  | .circ c => 40 :: (txtC c ++ [41])
def txtB : List Part → List UInt8
  | [] => []
  | p :: b => p.txt ++ txtB b
def txtC : List (List Part) → List UInt8
  | [] => []
  | b :: c => txtB b ++ txtM c
def txtM : List (List Part) → List UInt8
  | [] => []
  | b :: c => 43 :: (txtB b ++ txtM c)
end

/-- Has a text a + outside brackets, read at a depth? (As an int, as the program counts.) -/
def wideAt : Int → List UInt8 → Bool
  | _, [] => false
  | d, b :: r => if b = 40 then wideAt (d + 1) r else if b = 41 then wideAt (d - 1) r else if b = 43 then (if d = 0 then true else wideAt d r) else wideAt d r

def wrapT (d : List UInt8) : List UInt8 := if wideAt 0 d then 40 :: (d ++ [41]) else d

mutual
def Part.dt : Part → List UInt8
  | .letter i => [UInt8.ofNat (97 + i)]
  | .circ c => dtC c
def dtB : List Part → List UInt8
  | [] => []
  | p :: b => p.dt ++ dtP b
def dtP : List Part → List UInt8
  | [] => []
  | p :: b => 43 :: (p.dt ++ dtP b)
def dtC : List (List Part) → List UInt8
  | [] => []
  | b :: c => (match c with | [] => dtB b | _ :: _ => wrapT (dtB b)) ++ dtM c
def dtM : List (List Part) → List UInt8
  | [] => []
  | b :: c => wrapT (dtB b) ++ dtM c
end

def isLet (b : UInt8) : Bool := 97 ≤ b.toNat && b.toNat ≤ 104
/-- Can a part begin here? -/
def starts : List UInt8 → Bool
  | [] => false
  | b :: _ => b == 40 || isLet b

mutual
def pC : Nat → List UInt8 → Option (List (List Part) × List UInt8)
  | 0, _ => none
  | n + 1, s => match pB n s with
    | none => none
    | some (b, r) => match r with
      | [] => some ([b], r)
      | x :: r' => if x = 43 then (pC n r').map fun y => (b :: y.1, y.2) else some ([b], r)
def pB : Nat → List UInt8 → Option (List Part × List UInt8)
  | 0, _ => none
  | n + 1, s => match pP n s with
    | none => none
    | some (p, r) => if starts r then (pB n r).map fun y => (p :: y.1, y.2) else some ([p], r)
def pP : Nat → List UInt8 → Option (Part × List UInt8)
  | 0, _ => none
  | n + 1, s => match s with
    | [] => none
    | b :: r => if isLet b then some (.letter (b.toNat - 97), r) else if b = 40 then (match pC n r with
      | none => none
      | some (c, r') => match r' with
        | [] => none
        | x :: r'' => if x = 41 then some (.circ c, r'') else none) else none
end

/-- The circuit of a text. -/
def parse (s : List UInt8) : Option (List (List Part)) :=
  match pC (3 * s.length + 3) s with
  | none => none
  | some (c, r) => if r.isEmpty then some c else none

/-- The letters of a set, up to one. -/
def txtTo (n k : Nat) : List UInt8 := ((List.range k).filter (n.testBit ·)).map fun i => UInt8.ofNat (97 + i)
/-- The text of a set. -/
def txt (n : Nat) : List UInt8 := txtTo n 8
theorem txtTo_succ (n k : Nat) : txtTo n (k + 1) = if n.testBit k then txtTo n k ++ [UInt8.ofNat (97 + k)] else txtTo n k := by
  unfold txtTo
  rw [List.range_succ, List.filter_append, List.map_append]
  by_cases h : n.testBit k <;> simp [h]
theorem txtTo_len (n k : Nat) : (txtTo n k).length ≤ k := by
  unfold txtTo
  rw [List.length_map]
  have := List.length_filter_le (n.testBit ·) (List.range k)
  simpa using this

theorem mem_txt (n i : Nat) (hi : i < 8) : UInt8.ofNat (97 + i) ∈ txt n ↔ n.testBit i = true := by
  unfold txt txtTo
  rw [List.mem_map]
  constructor
  · rintro ⟨j, hj, e⟩
    rw [List.mem_filter, List.mem_range] at hj
    have : j = i := by
      have h := congrArg UInt8.toNat e
      simp [UInt8.toNat_ofNat'] at h
      omega
    rw [← this]; exact hj.2
  · intro h
    exact ⟨i, List.mem_filter.2 ⟨List.mem_range.2 hi, h⟩, rfl⟩
theorem txt_inj (a b : Nat) (ha : a < 256) (hb : b < 256) (h : txt a = txt b) : a = b := by
  apply Nat.eq_of_testBit_eq
  intro i
  by_cases hi : i < 8
  · have h1 := mem_txt a i hi
    have h2 := mem_txt b i hi
    rw [h] at h1
    have := h1.symm.trans h2
    cases h3 : a.testBit i <;> cases h4 : b.testBit i <;> simp_all
  · have h256 : 256 ≤ 2 ^ i := Nat.pow_le_pow_right (n := 2) (by omega) (show 8 ≤ i by omega)
    rw [Nat.testBit_lt_two_pow (by omega), Nat.testBit_lt_two_pow (by omega)]

end Go.Proofs.Ytfoeamgjjhfkdaa.L9
