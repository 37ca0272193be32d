/- Circuits: they grow with their sets; with none of the letters they never conduct, with all always; a text is read back; the dual's text. The dual of a circuit, as a circuit: its text is the dual's text, and what it conducts. -/
import Derived.Test.YtfoeamgjjhfkdaaMc
namespace Go.Proofs.Ytfoeamgjjhfkdaa.L9

/-- all letters of a set are in another one -/
def Le (n m : Nat) : Prop := ∀ i, n.testBit i = true → m.testBit i = true
mutual
theorem Part.ev_mono : ∀ (p : Part) (n m : Nat), Le n m → p.ev n = true → p.ev m = true
  | .letter i, _, _, h, h1 => h i h1
  | .circ c, n, m, h, h1 => evC_mono c n m h h1
theorem evB_mono : ∀ (b : List Part) (n m : Nat), Le n m → evB b n = true → evB b m = true
  | [], _, _, _, _ => rfl
  | p :: b, n, m, h, h1 => by
    simp only [evB, Bool.and_eq_true] at h1 ⊢
    exact ⟨p.ev_mono n m h h1.1, evB_mono b n m h h1.2⟩
theorem evC_mono : ∀ (c : List (List Part)) (n m : Nat), Le n m → evC c n = true → evC c m = true
  | [], _, _, _, h1 => h1
  | b :: c, n, m, h, h1 => by
    simp only [evC, Bool.or_eq_true] at h1 ⊢
    exact h1.imp (evB_mono b n m h) (evC_mono c n m h)
end
mutual
theorem Part.ev_none : ∀ p : Part, p.ok → p.ev 0 = false
  | .letter _, _ => by simp [Part.ev]
  | .circ c, h => evC_none c h.2
theorem evB_none : ∀ b : List Part, b ≠ [] → okB b → evB b 0 = false
  | p :: _, _, h => by
    simp only [evB, Bool.and_eq_false_iff]
    exact Or.inl (p.ev_none h.1)
theorem evC_none : ∀ c : List (List Part), okC c → evC c 0 = false
  | [], _ => rfl
  | b :: c, h => by
    simp only [evC, Bool.or_eq_false_iff]
    exact ⟨evB_none b h.1.1 h.1.2, evC_none c h.2⟩
end
theorem bit255 (i : Nat) (hi : i < 8) : (255 : Nat).testBit i = true := by
  revert hi; revert i; decide
mutual
theorem Part.ev_all : ∀ p : Part, p.ok → p.ev 255 = true
  | .letter i, h => bit255 i h
  | .circ c, h => evC_all c h.1 h.2
theorem evB_all : ∀ b : List Part, okB b → evB b 255 = true
  | [], _ => rfl
  | p :: b, h => by
    simp only [evB, Bool.and_eq_true]
    exact ⟨p.ev_all h.1, evB_all b h.2⟩
theorem evC_all : ∀ c : List (List Part), c ≠ [] → okC c → evC c 255 = true
  | b :: c, _, h => by
    simp only [evC, Bool.or_eq_true]
    exact Or.inl (evB_all b h.1.2)
end

/-! A text is read back. -/
theorem starts_app {a r : List UInt8} (h : a ≠ []) : starts (a ++ r) = starts a := by
  cases a with
  | nil => exact absurd rfl h
  | cons x a => rfl
theorem isLet_ofNat (i : Nat) (hi : i < 8) : isLet (UInt8.ofNat (97 + i)) = true := by
  revert hi; revert i; decide
theorem ofNat_sub (i : Nat) (hi : i < 8) : (UInt8.ofNat (97 + i)).toNat - 97 = i := by
  revert hi; revert i; decide
theorem txtP_ne (p : Part) : p.txt ≠ [] := by
  intro h
  have := p.txt_pos
  rw [h] at this
  simp at this
theorem starts_P (p : Part) (h : p.ok) : starts p.txt = true := by
  cases p with
  | letter i => simp only [Part.txt, starts, isLet_ofNat i h, Bool.or_true]
  | circ c => simp [Part.txt, starts]
theorem starts_B (b : List Part) (h0 : b ≠ []) (h : okB b) (r : List UInt8) : starts (txtB b ++ r) = true := by
  cases b with
  | nil => exact absurd rfl h0
  | cons p b =>
    rw [show txtB (p :: b) ++ r = p.txt ++ (txtB b ++ r) by simp [txtB], starts_app (txtP_ne p)]
    exact starts_P p h.1
theorem txtC_cons (b : List Part) (c : List (List Part)) : txtC (b :: c) = txtB b ++ txtM c := by simp [txtC]
theorem txtM_cons (b : List Part) (c : List (List Part)) : txtM (b :: c) = 43 :: txtC (b :: c) := by simp [txtM, txtC]
theorem txtB_cons (p : Part) (b : List Part) : txtB (p :: b) = p.txt ++ txtB b := by simp [txtB]
mutual
theorem pP_back : ∀ (p : Part), p.ok → ∀ (n : Nat) (r : List UInt8), 3 * p.txt.length ≤ n + 2 → pP n (p.txt ++ r) = some (p, r)
  | .letter i, h, n, r, hn => by
    have h : i < 8 := h
    obtain ⟨n, rfl⟩ : ∃ m, n = m + 1 := ⟨n - 1, by simp [Part.txt] at hn; omega⟩
    rw [show (Part.letter i).txt ++ r = UInt8.ofNat (97 + i) :: r by simp [Part.txt], pP_cons, if_pos (isLet_ofNat i h), ofNat_sub i h]
  | .circ c, h, n, r, hn => by
    have hl : (Part.circ c).txt.length = (txtC c).length + 2 := by simp [Part.txt]
    obtain ⟨n, rfl⟩ : ∃ m, n = m + 1 := ⟨n - 1, by omega⟩
    rw [show (Part.circ c).txt ++ r = 40 :: (txtC c ++ (41 :: r)) by simp [Part.txt], pP_cons, if_neg (by decide), if_pos rfl, pC_back c h.1 h.2 n (41 :: r) (by omega) rfl (by simp)]
    simp
theorem pB_back : ∀ (b : List Part), b ≠ [] → okB b → ∀ (n : Nat) (r : List UInt8), 3 * (txtB b).length ≤ n + 1 → starts r = false → pB n (txtB b ++ r) = some (b, r)
  | p :: b, _, h, n, r, hn, hs => by
    have hp := p.txt_pos
    have hl : (txtB (p :: b)).length = p.txt.length + (txtB b).length := by simp [txtB]
    obtain ⟨n, rfl⟩ : ∃ m, n = m + 1 := ⟨n - 1, by omega⟩
    rw [show txtB (p :: b) ++ r = p.txt ++ (txtB b ++ r) by simp [txtB], pB_succ, pP_back p h.1 n _ (by omega)]
    simp only
    cases b with
    | nil => simp [txtB, hs]
    | cons q b =>
      rw [if_pos (starts_B (q :: b) (by simp) h.2 r), pB_back (q :: b) (by simp) h.2 n r (by omega) hs]
      rfl
theorem pC_back : ∀ (c : List (List Part)), c ≠ [] → okC c → ∀ (n : Nat) (r : List UInt8), 3 * (txtC c).length ≤ n → starts r = false → r.head? ≠ some 43 → pC n (txtC c ++ r) = some (c, r)
  | b :: c, _, h, n, r, hn, hs, h43 => by
    have hb : 1 ≤ (txtB b).length := by
      have := txtB_len b
      have : b.length ≠ 0 := fun e => h.1.1 (List.length_eq_zero_iff.1 e)
      omega
    have hl : (txtC (b :: c)).length = (txtB b).length + (txtM c).length := by simp [txtC]
    obtain ⟨n, rfl⟩ : ∃ m, n = m + 1 := ⟨n - 1, by omega⟩
    have hs2 : starts (txtM c ++ r) = false := by
      cases c with
      | nil => simpa [txtM] using hs
      | cons b' c => rw [txtM_cons]; rfl
    rw [show txtC (b :: c) ++ r = txtB b ++ (txtM c ++ r) by simp [txtC], pC_succ, pB_back b h.1.1 h.1.2 n _ (by omega) hs2]
    simp only
    cases c with
    | nil =>
      simp only [txtM, List.nil_append]
      cases r with
      | nil => rfl
      | cons x r =>
        have : x ≠ 43 := fun e => h43 (by rw [e]; rfl)
        simp only
        rw [if_neg this]
    | cons b' c =>
      have hl2 : (txtM (b' :: c)).length = (txtC (b' :: c)).length + 1 := by rw [txtM_cons]; rfl
      rw [show txtM (b' :: c) ++ r = 43 :: (txtC (b' :: c) ++ r) by rw [txtM_cons]; rfl]
      simp only [if_true]
      rw [pC_back (b' :: c) (by simp) h.2 n r (by omega) hs h43]
      rfl
end
theorem parse_back (c : List (List Part)) (h0 : c ≠ []) (h : okC c) : parse (txtC c) = some c := by
  unfold parse
  have := pC_back c h0 h (3 * (txtC c).length + 3) [] (by omega) rfl (by simp)
  rw [List.append_nil] at this
  rw [this]
  rfl
end Go.Proofs.Ytfoeamgjjhfkdaa.L9

namespace Go.Proofs.Ytfoeamgjjhfkdaa.L9

def wr : List (List Part) → List Part
  | [b] => b
  | c => [.circ c]
mutual
def Part.du : Part → List (List Part)
  | .letter i => [[.letter i]]
  | .circ c => duC c
def duB : List Part → List (List Part)
  | [] => []
  | p :: b => p.du ++ duB b
def duC : List (List Part) → List (List Part)
  | [] => []
  | b :: c => match c with
    | [] => duB b
    | _ :: _ => [wr (duB b) ++ duM c]
def duM : List (List Part) → List Part
  | [] => []
  | b :: c => wr (duB b) ++ duM c
end
theorem okC_append : ∀ (x y : List (List Part)), okC x → okC y → okC (x ++ y)
  | [], _, _, h => h
  | _ :: x, y, h, h2 => ⟨h.1, okC_append x y h.2 h2⟩
theorem okB_append : ∀ (x y : List Part), okB x → okB y → okB (x ++ y)
  | [], _, _, h => h
  | _ :: x, y, h, h2 => ⟨h.1, okB_append x y h.2 h2⟩
theorem wr_ok (c : List (List Part)) (h0 : c ≠ []) (h : okC c) : wr c ≠ [] ∧ okB (wr c) := by
  cases c with
  | nil => exact absurd rfl h0
  | cons b c => cases c with
    | nil => exact h.1
    | cons b' c => exact ⟨by simp [wr], ⟨⟨h0, h⟩, trivial⟩⟩
mutual
theorem du_ok : ∀ p : Part, p.ok → p.du ≠ [] ∧ okC p.du
  | .letter _, h => ⟨by simp [Part.du], ⟨by simp, h, trivial⟩, trivial⟩
  | .circ c, h => duC_ok c h.1 h.2
theorem duB_ok : ∀ b : List Part, okB b → (b ≠ [] → duB b ≠ []) ∧ okC (duB b)
  | [], _ => ⟨fun h => absurd rfl h, trivial⟩
  | p :: b, h => by
    have h1 := du_ok p h.1
    have h2 := duB_ok b h.2
    exact ⟨fun _ => by simp [duB, h1.1], okC_append _ _ h1.2 h2.2⟩
theorem duC_ok : ∀ c : List (List Part), c ≠ [] → okC c → duC c ≠ [] ∧ okC (duC c)
  | [b], _, h => by
    have h1 := duB_ok b h.1.2
    exact ⟨h1.1 h.1.1, h1.2⟩
  | b :: b' :: c, _, h => by
    have h1 := duB_ok b h.1.2
    have h2 := wr_ok _ (h1.1 h.1.1) h1.2
    have h3 := duM_ok (b' :: c) h.2
    exact ⟨by simp [duC], ⟨by simp [h2.1], okB_append _ _ h2.2 h3⟩, trivial⟩
theorem duM_ok : ∀ c : List (List Part), okC c → okB (duM c)
  | [], _ => trivial
  | b :: c, h => by
    have h1 := duB_ok b h.1.2
    have h2 := wr_ok _ (h1.1 h.1.1) h1.2
    exact okB_append _ _ h2.2 (duM_ok c h.2)
end

theorem txtM_append : ∀ (x y : List (List Part)), txtM (x ++ y) = txtM x ++ txtM y
  | [], _ => rfl
  | b :: x, y => by simp [txtM, txtM_append x y]
theorem txtC_append (x y : List (List Part)) (h : x ≠ []) : txtC (x ++ y) = txtC x ++ txtM y := by
  cases x with
  | nil => exact absurd rfl h
  | cons b x => simp [txtC, txtM_append]
theorem txtB_append : ∀ (x y : List Part), txtB (x ++ y) = txtB x ++ txtB y
  | [], _ => rfl
  | p :: x, y => by simp [txtB, txtB_append x y]

theorem wide_let (d : Int) (x : UInt8) (h : isLet x = true) (r : List UInt8) : wideAt d (x :: r) = wideAt d r := by
  rw [isLet_iff] at h
  have h1 : x ≠ 40 := by rintro rfl; exact absurd h.1 (by decide)
  have h2 : x ≠ 41 := by rintro rfl; exact absurd h.1 (by decide)
  have h3 : x ≠ 43 := by rintro rfl; exact absurd h.1 (by decide)
  simp only [wideAt]
  rw [if_neg h1, if_neg h2, if_neg h3]
theorem wide_open (d : Int) (r : List UInt8) : wideAt d (40 :: r) = wideAt (d + 1) r := by simp only [wideAt]; rw [if_pos trivial]
theorem wide_shut (d : Int) (r : List UInt8) : wideAt d (41 :: r) = wideAt (d - 1) r := by simp only [wideAt]; rw [if_neg (by decide), if_pos trivial]
theorem wide_plus (d : Int) (r : List UInt8) : wideAt d (43 :: r) = if d = 0 then true else wideAt d r := by simp only [wideAt]; rw [if_neg (by decide), if_neg (by decide), if_pos trivial]
mutual
theorem wide_P : ∀ (p : Part), p.ok → ∀ (d : Int), 0 ≤ d → ∀ r, wideAt d (p.txt ++ r) = wideAt d r
  | .letter i, h, d, _, r => by
    rw [show (Part.letter i).txt ++ r = UInt8.ofNat (97 + i) :: r by simp [Part.txt]]
    exact wide_let d _ (isLet_ofNat i h) r
  | .circ c, h, d, hd, r => by
    rw [show (Part.circ c).txt ++ r = 40 :: (txtC c ++ (41 :: r)) by simp [Part.txt], wide_open, wide_C c h.2 (d + 1) (by omega), wide_shut]
    congr 1
    omega
theorem wide_B : ∀ (b : List Part), okB b → ∀ (d : Int), 0 ≤ d → ∀ r, wideAt d (txtB b ++ r) = wideAt d r
  | [], _, _, _, _ => rfl
  | p :: b, h, d, hd, r => by
    rw [show txtB (p :: b) ++ r = p.txt ++ (txtB b ++ r) by simp [txtB], wide_P p h.1 d hd, wide_B b h.2 d hd]
theorem wide_C : ∀ (c : List (List Part)), okC c → ∀ (d : Int), 0 < d → ∀ r, wideAt d (txtC c ++ r) = wideAt d r
  | [], _, _, _, _ => rfl
  | b :: c, h, d, hd, r => by
    rw [show txtC (b :: c) ++ r = txtB b ++ (txtM c ++ r) by simp [txtC], wide_B b h.1.2 d (by omega), wide_M c h.2 d hd]
theorem wide_M : ∀ (c : List (List Part)), okC c → ∀ (d : Int), 0 < d → ∀ r, wideAt d (txtM c ++ r) = wideAt d r
  | [], _, _, _, _ => rfl
  | b :: c, h, d, hd, r => by
    rw [show txtM (b :: c) ++ r = 43 :: (txtB b ++ (txtM c ++ r)) by simp [txtM], wide_plus, if_neg (by omega), wide_B b h.1.2 d (by omega), wide_M c h.2 d hd]
end
theorem wide_one (b : List Part) (h : okB b) : wideAt 0 (txtC [b]) = false := by
  have := wide_B b h 0 (by omega) []
  rw [show txtC [b] = txtB b ++ [] by simp [txtC, txtM], this]
  rfl
theorem wide_two (b b' : List Part) (c : List (List Part)) (h : okB b) : wideAt 0 (txtC (b :: b' :: c)) = true := by
  rw [show txtC (b :: b' :: c) = txtB b ++ (43 :: (txtB b' ++ txtM c)) by simp [txtC, txtM], wide_B b h 0 (by omega), wide_plus, if_pos rfl]
theorem wrap_txt (c : List (List Part)) (h0 : c ≠ []) (h : okC c) : wrapT (txtC c) = txtB (wr c) := by
  unfold wrapT
  cases c with
  | nil => exact absurd rfl h0
  | cons b c => cases c with
    | nil => rw [wide_one b h.1.2, if_neg (by simp)]; simp [wr, txtC, txtM]
    | cons b' c => rw [wide_two b b' c h.1.2, if_pos rfl]; simp [wr, txtB, Part.txt]
mutual
theorem du_txt : ∀ p : Part, p.ok → p.dt = txtC p.du
  | .letter _, _ => by simp [Part.dt, Part.du, txtC, txtM, txtB, Part.txt]
  | .circ c, h => by
    have := duC_txt c h.1 h.2
    simpa [Part.dt, Part.du] using this
theorem duB_txt : ∀ b : List Part, b ≠ [] → okB b → dtB b = txtC (duB b)
  | p :: b, _, h => by
    rw [show dtB (p :: b) = p.dt ++ dtP b by simp [dtB], show duB (p :: b) = p.du ++ duB b by simp [duB], txtC_append _ _ (du_ok p h.1).1, du_txt p h.1, duP_txt b h.2]
theorem duP_txt : ∀ b : List Part, okB b → dtP b = txtM (duB b)
  | [], _ => by simp [dtP, duB, txtM]
  | p :: b, h => by
    rw [show dtP (p :: b) = 43 :: (p.dt ++ dtP b) by simp [dtP], show duB (p :: b) = p.du ++ duB b by simp [duB], txtM_append, du_txt p h.1, duP_txt b h.2]
    have := (du_ok p h.1).1
    cases hd : p.du with
    | nil => exact absurd hd this
    | cons x y => rw [txtM_cons]; rfl
theorem duC_txt : ∀ c : List (List Part), c ≠ [] → okC c → dtC c = txtC (duC c)
  | [b], _, h => by
    rw [show dtC [b] = dtB b by simp [dtC, dtM], show duC [b] = duB b by simp [duC]]
    exact duB_txt b h.1.1 h.1.2
  | b :: b' :: c, _, h => by
    have h1 := duB_ok b h.1.2
    rw [show dtC (b :: b' :: c) = wrapT (dtB b) ++ dtM (b' :: c) by simp [dtC], show duC (b :: b' :: c) = [wr (duB b) ++ duM (b' :: c)] by simp [duC], duB_txt b h.1.1 h.1.2, wrap_txt _ (h1.1 h.1.1) h1.2, duM_txt (b' :: c) h.2]
    simp [txtC, txtM, txtB_append]
theorem duM_txt : ∀ c : List (List Part), okC c → dtM c = txtB (duM c)
  | [], _ => by simp [dtM, duM, txtB]
  | b :: c, h => by
    have h1 := duB_ok b h.1.2
    rw [show dtM (b :: c) = wrapT (dtB b) ++ dtM c by simp [dtM], show duM (b :: c) = wr (duB b) ++ duM c by simp [duM], duB_txt b h.1.1 h.1.2, wrap_txt _ (h1.1 h.1.1) h1.2, duM_txt c h.2, txtB_append]
end

theorem evC_append (n : Nat) : ∀ (x y : List (List Part)), evC (x ++ y) n = (evC x n || evC y n)
  | [], _ => by simp [evC]
  | b :: x, y => by simp [evC, evC_append n x y, Bool.or_assoc]
theorem evB_append (n : Nat) : ∀ (x y : List Part), evB (x ++ y) n = (evB x n && evB y n)
  | [], _ => by simp [evB]
  | p :: x, y => by simp [evB, evB_append n x y, Bool.and_assoc]
theorem evB_wr (c : List (List Part)) (n : Nat) : evB (wr c) n = evC c n := by
  cases c with
  | nil => simp [wr, evB, evC, Part.ev]
  | cons b c => cases c with
    | nil => simp [wr, evC]
    | cons b' c => simp [wr, evB, Part.ev]
theorem bit_not (i n : Nat) (hi : i < 8) (hn : n < 256) : n.testBit i = !(255 - n).testBit i := by
  have h : (255 - n) = (2 ^ 8 - (n + 1)) := by omega
  rw [h, Nat.testBit_two_pow_sub_succ hn]
  simp [hi]
mutual
theorem du_ev (n : Nat) (hn : n < 256) : ∀ p : Part, p.ok → evC p.du n = !p.ev (255 - n)
  | .letter i, h => by
    simp only [Part.du, evC, evB, Part.ev, Bool.and_true, Bool.or_false]
    exact bit_not i n h hn
  | .circ c, h => by
    have := duC_ev n hn c h.1 h.2
    simpa [Part.du, Part.ev] using this
theorem duB_ev (n : Nat) (hn : n < 256) : ∀ b : List Part, okB b → evC (duB b) n = !evB b (255 - n)
  | [], _ => by simp [duB, evC, evB]
  | p :: b, h => by
    rw [show duB (p :: b) = p.du ++ duB b by simp [duB], evC_append, du_ev n hn p h.1, duB_ev n hn b h.2]
    simp [evB]
theorem duC_ev (n : Nat) (hn : n < 256) : ∀ c : List (List Part), c ≠ [] → okC c → evC (duC c) n = !evC c (255 - n)
  | [b], _, h => by
    rw [show duC [b] = duB b by simp [duC], duB_ev n hn b h.1.2]
    simp [evC]
  | b :: b' :: c, _, h => by
    rw [show duC (b :: b' :: c) = [wr (duB b) ++ duM (b' :: c)] by simp [duC], show evC [wr (duB b) ++ duM (b' :: c)] n = evB (wr (duB b) ++ duM (b' :: c)) n by simp [evC], evB_append, evB_wr, duB_ev n hn b h.1.2, duM_ev n hn (b' :: c) h.2]
    simp [evC]
theorem duM_ev (n : Nat) (hn : n < 256) : ∀ c : List (List Part), okC c → evB (duM c) n = !evC c (255 - n)
  | [], _ => by simp [duM, evC, evB]
  | b :: c, h => by
    rw [show duM (b :: c) = wr (duB b) ++ duM c by simp [duM], evB_append, evB_wr, duB_ev n hn b h.1.2, duM_ev n hn c h.2]
    simp [evC]
end
end Go.Proofs.Ytfoeamgjjhfkdaa.L9
