/- OnesCount of small sets, cmp.Or of two numbers. -/
import Derived.Test.YtfoeamgjjhfkdaaTa
import Derived.WalkLawsBesides
namespace Go.Proofs.Ytfoeamgjjhfkdaa
open Go.Shelf Go.RowKit Go.Proofs L9

/-- how many letters a set has -/
def pop (n : Nat) : Nat := (txt n).length

theorem ret_int {k : IntKind} {a b : Int} (h : a = b) : Ending.returned (.int k a) = .returned (.int k b) := by rw [h]
set_option maxRecDepth 100000 in
theorem onesCount (n : Nat) (hn : n < 256) (w : World) :
    Calls Try.prog 73 #[.int .u64 n] w fun e w' => e = .returned (.int .i64 (pop n)) ∧ w' = w := by
  have h64 : Calls Try.prog 100 #[.int .u64 n] w fun e w' => e = .returned (.int .i64 (pop n)) ∧ w' = w := by
    go_enter Try.func100, Try.ntmps100
    go_wp2
    go_ret
    refine ⟨ret_int ?_, rfl⟩
    clear w
    revert hn
    revert n
    decide +kernel
  go_enter Try.func73, Try.ntmps73
  go_wp2_with (go_at_call 100; refine h64.mono ?_; rintro e w' ⟨rfl, rfl⟩)
  go_ret
  exact ⟨rfl, rfl⟩

def orI (x y : Int) : Int := if x = 0 then y else x
theorem cmpOr2 (a : Addr) (x y : Int) (c : Nat) (w : World) (h0 : w.cell? ⟨a.block, a.off, none⟩ = some (.int .i64 x)) (h1 : w.cell? ⟨a.block, a.off + 1, none⟩ = some (.int .i64 y)) :
    Calls Try.prog 96 #[.slice (some ⟨a.block, a.off, none⟩) 2 c] w fun e w' => e = .returned (.int .i64 (orI x y)) ∧ w' = w := by
  go_enter Try.func96, Try.ntmps96
  go_wp2_with fail
  go_loop [5, 8] (fun _ i => i = .int .i64 0 ∨ (i = .int .i64 1 ∧ x = 0) ∨ (i = .int .i64 2 ∧ x = 0 ∧ y = 0)) (fun _ i => 2 - (intOf i).toNat)
  case atStart => exact Or.inl rfl
  case round =>
    rcases hrel with rfl | ⟨rfl, h⟩ | ⟨rfl, h, h'⟩
    · by_cases hx : x = 0
      · have e : (x != 0) = false := by simp [hx]
        have hx' := Lib.hid hx
        clear hx
        go_wp2
        go_round
        case rel => exact Or.inr (Or.inl ⟨rfl, hx'.out⟩)
        case measure => simp [intOf]
      · have e : (x != 0) = true := by simp [hx]
        go_wp2
        go_ret
        exact ⟨ret_int (by simp [orI, hx]), rfl⟩
    · have h2 := Lib.hid h
      clear h
      by_cases hy : y = 0
      · have e : (y != 0) = false := by simp [hy]
        have hy' := Lib.hid hy
        clear hy
        go_wp2
        go_round
        case rel => exact Or.inr (Or.inr ⟨rfl, h2.out, hy'.out⟩)
        case measure => simp [intOf]
      · have e : (y != 0) = true := by simp [hy]
        go_wp2
        go_ret
        exact ⟨ret_int (by simp [orI, h2.out]), rfl⟩
    · have h2 := Lib.hid h
      have h3 := Lib.hid h'
      clear h h'
      go_wp2
      go_ret
      exact ⟨ret_int (by simp [orI, h2.out, h3.out]), rfl⟩
end Go.Proofs.Ytfoeamgjjhfkdaa
