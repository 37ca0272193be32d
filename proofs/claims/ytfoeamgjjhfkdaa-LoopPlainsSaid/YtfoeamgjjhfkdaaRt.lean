/- The reference's closing, sums, added. -/
import Derived.Test.YtfoeamgjjhfkdaaRl
import Derived.Test.YtfoeamgjjhfkdaaNb
namespace Go.Proofs.Ytfoeamgjjhfkdaa
open Go Go.Shelf Go.RowKit Go.Proofs L9

/-- how deep a byte leads -/
def deepN (d : Int) (b : UInt8) : Int := if b = 40 then d + 1 else if b = 41 then d - 1 else d
/-- how far to where the depth is none -/
def closeAt : Int → List UInt8 → Nat
  | _, [] => 0
  | d, b :: r => if deepN d b = 0 then 0 else 1 + closeAt (deepN d b) r
theorem close_cons (d : Int) (b : UInt8) (r : List UInt8) : closeAt d (b :: r) = if deepN d b = 0 then 0 else 1 + closeAt (deepN d b) r := rfl
theorem close_let (d : Int) (hd : 0 < d) (b : UInt8) (h : isLet b = true) (r : List UInt8) : closeAt d (b :: r) = 1 + closeAt d r := by
  rw [isLet_iff] at h
  have h1 : b ≠ 40 := by rintro rfl; exact absurd h.1 (by decide)
  have h2 : b ≠ 41 := by rintro rfl; exact absurd h.1 (by decide)
  have h3 : deepN d b = d := by unfold deepN; rw [if_neg h1, if_neg h2]
  rw [close_cons, h3, if_neg (by omega)]
theorem close_open (d : Int) (hd : 0 ≤ d) (r : List UInt8) : closeAt d (40 :: r) = 1 + closeAt (d + 1) r := by
  have h3 : deepN d 40 = d + 1 := by unfold deepN; rw [if_pos rfl]
  rw [close_cons, h3, if_neg (by omega)]
theorem close_shut (d : Int) (r : List UInt8) : closeAt d (41 :: r) = if d - 1 = 0 then 0 else 1 + closeAt (d - 1) r := by
  have h3 : deepN d 41 = d - 1 := by unfold deepN; rw [if_neg (by decide), if_pos rfl]
  rw [close_cons, h3]
theorem close_plus (d : Int) (hd : 0 < d) (r : List UInt8) : closeAt d (43 :: r) = 1 + closeAt d r := by
  have h3 : deepN d 43 = d := by unfold deepN; rw [if_neg (by decide), if_neg (by decide)]
  rw [close_cons, h3, if_neg (by omega)]
mutual
theorem close_P : ∀ (p : Part), p.ok → ∀ (d : Int), 0 < d → ∀ r, closeAt d (p.txt ++ r) = p.txt.length + closeAt d r
  | .letter i, h, d, hd, r => by
    rw [show (Part.letter i).txt ++ r = UInt8.ofNat (97 + i) :: r by simp [Part.txt], close_let d hd _ (isLet_ofNat i h)]
    simp [Part.txt]
  | .circ c, h, d, hd, r => by
    rw [show (Part.circ c).txt ++ r = 40 :: (txtC c ++ (41 :: r)) by simp [Part.txt], close_open d (by omega), close_C c h.2 (d + 1) (by omega), close_shut, if_neg (by omega), show d + 1 - 1 = d by omega, show (Part.circ c).txt.length = (txtC c).length + 2 by simp [Part.txt]]
    omega
theorem close_B : ∀ (b : List Part), okB b → ∀ (d : Int), 0 < d → ∀ r, closeAt d (txtB b ++ r) = (txtB b).length + closeAt d r
  | [], _, _, _, _ => by simp [txtB]
  | p :: b, h, d, hd, r => by
    rw [show txtB (p :: b) ++ r = p.txt ++ (txtB b ++ r) by simp [txtB], close_P p h.1 d hd, close_B b h.2 d hd, show (txtB (p :: b)).length = p.txt.length + (txtB b).length by simp [txtB]]
    omega
theorem close_C : ∀ (c : List (List Part)), okC c → ∀ (d : Int), 0 < d → ∀ r, closeAt d (txtC c ++ r) = (txtC c).length + closeAt d r
  | [], _, _, _, _ => by simp [txtC]
  | b :: c, h, d, hd, r => by
    rw [show txtC (b :: c) ++ r = txtB b ++ (txtM c ++ r) by simp [txtC], close_B b h.1.2 d hd, close_M c h.2 d hd, show (txtC (b :: c)).length = (txtB b).length + (txtM c).length by simp [txtC]]
    omega
theorem close_M : ∀ (c : List (List Part)), okC c → ∀ (d : Int), 0 < d → ∀ r, closeAt d (txtM c ++ r) = (txtM c).length + closeAt d r
  | [], _, _, _, _ => by simp [txtM]
  | b :: c, h, d, hd, r => by
    rw [show txtM (b :: c) ++ r = 43 :: (txtB b ++ (txtM c ++ r)) by simp [txtM], close_plus d hd, close_B b h.1.2 d hd, close_M c h.2 d hd, show (txtM (b :: c)).length = 1 + ((txtB b).length + (txtM c).length) by simp [txtM]; omega]
    omega
end
/-- the bracket that closes the one in front -/
theorem close_circ (c : List (List Part)) (h : okC c) (r : List UInt8) : closeAt 0 (40 :: (txtC c ++ (41 :: r))) = (txtC c).length + 1 := by
  rw [close_open 0 (by omega), close_C c h (0 + 1) (by omega), close_shut, if_pos (by omega)]
  omega

theorem drop_at (s : ByteArray) (k : Nat) (h : k < s.size) : s.data.toList.drop k = s[k]'h :: s.data.toList.drop (k + 1) := by
  rw [List.drop_eq_getElem_cons (by have := size_list s; omega)]; rfl

set_option maxHeartbeats 2000000 in
theorem refClosing (s : ByteArray) (a : Nat) (w : World) (ha : a ≤ s.size) (hs : s.size ≤ 100000) :
    Calls Try.prog 102 #[.string s, .int .i64 a] w fun e w' => e = .returned (.int .i64 ((a + closeAt 0 (s.data.toList.drop a) : Nat) : Int)) ∧ w' = w := by
  generalize hz : a + closeAt 0 (s.data.toList.drop a) = z
  have HZ := Lib.hid hz
  clear hz
  go_enter Try.func102, Try.ntmps102
  go_wp2_with fail
  go_loop [5, 6] (fun d i => ∃ (k : Nat) (n : Int), a ≤ k ∧ k ≤ s.size ∧ i = .int .i64 k ∧ d = .int .i64 n ∧ -100000 ≤ n ∧ n ≤ 100000 ∧ n ≤ k ∧ -(k : Int) ≤ n ∧ k + closeAt n (s.data.toList.drop k) = z) (fun _ i => s.size - (intOf i).toNat)
  case atStart => exact ⟨a, 0, Nat.le_refl _, ha, rfl, rfl, by omega, by omega, by omega, by omega, HZ.out⟩
  case round =>
    obtain ⟨k, n, hak, hk, rfl, rfl, hn1, hn2, hn3, hn4, hz⟩ := hrel
    have HZ2 := Lib.hid hz
    clear hz HZ
    by_cases hlt : k < s.size
    · have hstep := HZ2.out
      rw [drop_at s k hlt, close_cons] at hstep
      have h40 : s[k]'hlt = 40 ↔ ((s[k]'hlt).toNat : Int) = 40 := by
        rw [← UInt8.toNat_inj]; constructor <;> intro h <;> (simp at h ⊢; omega)
      have h41 : s[k]'hlt = 41 ↔ ((s[k]'hlt).toNat : Int) = 41 := by
        rw [← UInt8.toNat_inj]; constructor <;> intro h <;> (simp at h ⊢; omega)
      have hstep2 : ((deepN n (s[k]'hlt) = 0 ∧ k = z) ∨ (deepN n (s[k]'hlt) ≠ 0 ∧ (k + 1) + closeAt (deepN n (s[k]'hlt)) (s.data.toList.drop (k + 1)) = z)) := by
        by_cases h0 : deepN n (s[k]'hlt) = 0
        · rw [if_pos h0] at hstep; exact Or.inl ⟨h0, hstep⟩
        · rw [if_neg h0] at hstep; exact Or.inr ⟨h0, by omega⟩
      have hA : ((s[k]'hlt).toNat : Int) = 40 → deepN n (s[k]'hlt) = n + 1 := fun h => by unfold deepN; rw [if_pos (h40.2 h)]
      have hB : ((s[k]'hlt).toNat : Int) = 41 → deepN n (s[k]'hlt) = n - 1 := fun h => by unfold deepN; rw [if_neg (fun h' => by have := h40.1 h'; omega), if_pos (h41.2 h)]
      have hC : ((s[k]'hlt).toNat : Int) ≠ 40 → ((s[k]'hlt).toNat : Int) ≠ 41 → deepN n (s[k]'hlt) = n := fun h h' => by unfold deepN; rw [if_neg (fun e => h (h40.1 e)), if_neg (fun e => h' (h41.1 e))]
      have hall : ∀ e : Int, deepN n (s[k]'hlt) = e → (e = 0 → k = z) ∧ (e ≠ 0 → (k + 1) + closeAt e (s.data.toList.drop (k + 1)) = z) := by
        intro e he
        rw [he] at hstep2
        rcases hstep2 with ⟨h1, h2⟩ | ⟨h1, h2⟩
        · exact ⟨fun _ => h2, fun h => absurd h1 h⟩
        · exact ⟨fun h => absurd h h1, fun _ => h2⟩
      have HA := Lib.hid hA
      have HB := Lib.hid hB
      have HC := Lib.hid hC
      have HALL := Lib.hid hall
      clear hstep hstep2 h40 h41 hA hB hC hall HZ2
      go_wp2
      all_goals
        first
        | (have h1 : (((s[k]'hlt).toNat : Int) == 40) = true := by assumption
           have h2 : (((s[k]'hlt).toNat : Int) == 41) = true := by assumption
           exfalso; simp only [beq_iff_eq] at h1 h2; omega)
        | (have h1 : (((s[k]'hlt).toNat : Int) == 40) = true := by assumption
           have hx := HALL.out _ (HA.out (by simpa using h1))
           first
           | (have h0 : (n + 1 == 0) = true := by assumption
              go_ret
              have hx1 := hx.1 (by simpa using h0)
              exact ⟨ret_int (by rw [hx1]), rfl⟩)
           | (have h0 : (n + 1 == 0) = false := by assumption
              have hx1 := hx.2 (by simpa using h0)
              have HX := Lib.hid hx1
              clear hx hx1
              go_round
              case rel => exact ⟨k + 1, n + 1, by omega, by omega, by go_num, rfl, by omega, by omega, by omega, by omega, HX.out⟩
              case measure => simp [intOf]; omega))
        | (have h1 : (((s[k]'hlt).toNat : Int) == 41) = true := by assumption
           have hx := HALL.out _ (HB.out (by simpa using h1))
           first
           | (have h0 : (n - 1 == 0) = true := by assumption
              go_ret
              have hx1 := hx.1 (by simpa using h0)
              exact ⟨ret_int (by rw [hx1]), rfl⟩)
           | (have h0 : (n - 1 == 0) = false := by assumption
              have hx1 := hx.2 (by simpa using h0)
              have HX := Lib.hid hx1
              clear hx hx1
              go_round
              case rel => exact ⟨k + 1, n - 1, by omega, by omega, by go_num, rfl, by omega, by omega, by omega, by omega, HX.out⟩
              case measure => simp [intOf]; omega))
        | (have h1 : (((s[k]'hlt).toNat : Int) == 40) = false := by assumption
           have h2 : (((s[k]'hlt).toNat : Int) == 41) = false := by assumption
           have hx := HALL.out _ (HC.out (by simpa using h1) (by simpa using h2))
           first
           | (have h0 : (n == 0) = true := by assumption
              go_ret
              have hx1 := hx.1 (by simpa using h0)
              exact ⟨ret_int (by rw [hx1]), rfl⟩)
           | (have h0 : (n == 0) = false := by assumption
              have hx1 := hx.2 (by simpa using h0)
              have HX := Lib.hid hx1
              clear hx hx1
              go_round
              case rel => exact ⟨k + 1, n, by omega, by omega, by go_num, rfl, by omega, by omega, by omega, by omega, HX.out⟩
              case measure => simp [intOf]; omega))
    · obtain rfl : k = s.size := by omega
      have hzz : s.size = z := by
        rw [← HZ2.out, List.drop_of_length_le (by rw [size_list]; exact Nat.le_refl _)]
        rfl
      have HZZ := Lib.hid hzz
      clear hzz HZ2
      go_wp2
      go_ret
      exact ⟨ret_int (by rw [← HZZ.out]), rfl⟩
end Go.Proofs.Ytfoeamgjjhfkdaa
