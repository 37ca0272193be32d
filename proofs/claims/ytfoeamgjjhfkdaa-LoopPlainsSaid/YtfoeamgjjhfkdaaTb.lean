/- textOf. OnesCount of small sets, cmp.Or of two numbers. -/
import Derived.Test.YtfoeamgjjhfkdaaBd
import Derived.Test.YtfoeamgjjhfkdaaMa
import Derived.LoopTactic
import Derived.Outline
import Derived.Lib.Hide
import Derived.WalkLawsBesides
namespace Go.Proofs.Ytfoeamgjjhfkdaa
open Go.Shelf Go.RowKit Go.Proofs L9

theorem all2 {p : Nat → Nat → Bool} (a b : Nat) (h : ((List.range a).all fun n => (List.range b).all fun k => p n k) = true) (n k : Nat) (hn : n < a) (hk : k < b) : p n k = true := by
  rw [List.all_eq_true] at h
  have := h n (List.mem_range.2 hn)
  rw [List.all_eq_true] at this
  exact this k (List.mem_range.2 hk)
theorem bit_test (n k : Nat) (hn : n < 256) (hk : k < 8) : (bits BinOp.and IntKind.i64 ((n : Int) / 2 ^ k) 1 == 1) = n.testBit k := by
  have := all2 (p := fun n k => (bits BinOp.and IntKind.i64 ((n : Int) / 2 ^ k) 1 == 1) == n.testBit k) 256 8 (by decide +kernel) n k hn hk
  simpa using this
theorem byte_of (k : Nat) (hk : k < 8) (h : k < (ByteArray.mk #[97, 98, 99, 100, 101, 102, 103, 104]).size) : (ByteArray.mk #[97, 98, 99, 100, 101, 102, 103, 104])[k]'h = UInt8.ofNat (97 + k) := by
  match k, hk with
  | 0, _ => rfl
  | 1, _ => rfl
  | 2, _ => rfl
  | 3, _ => rfl
  | 4, _ => rfl
  | 5, _ => rfl
  | 6, _ => rfl
  | 7, _ => rfl
theorem fresh_builder (w : World) : Lib.IsBuilder 95 5 w.heap.size w.heap.size (Lib.byteCells []) (w.alloc (.cells #[.pointer none, .slice none 0 0] 95)) :=
  Or.inl ⟨Nat.le_refl _, .slice none 0 0, (by show (w.heap.push _)[w.heap.size]? = _; simp), World.ownsRow_nil _ _ _ _, by simp [Value.ownBlock]⟩

set_option maxHeartbeats 1000000 in
theorem textOf_d (n : Nat) (hn : n < 256) (w : World) :
    Calls Try.prog 72 #[.int .i64 n] w fun e w' => e = .returned (.string ⟨(txt n).toArray⟩) ∧ Below w.heap.size w w' ∧ w.drawn ≤ w'.drawn := by
  go_enter Try.func72, Try.ntmps72
  go_wp2
  go_loopw [4, 5] (fun _ i wr => ∃ k : Nat, k ≤ 8 ∧ i = .int .i64 k ∧ Lib.IsBuilder 95 5 w.heap.size w.heap.size (Lib.byteCells (txtTo n k)) wr ∧ Below w.heap.size w wr ∧ w.drawn ≤ wr.drawn ∧ (txtTo n k = [] → wr.heap[w.heap.size]? = some (.cells #[.pointer none, .slice none 0 0] 95 (0, 0)))) (fun _ i _ => 8 - (intOf i).toNat)
  case atStart =>
    refine ⟨0, by omega, rfl, ?_, (Below.refl _ _).alloc (Nat.le_refl _) _, Nat.le_refl _, fun _ => (by show (w.heap.push _)[w.heap.size]? = _; simp)⟩
    exact fresh_builder w
  case round =>
    obtain ⟨k, hk, rfl, hB, hb, hd, he⟩ := hrel
    have HE := Lib.hid he
    clear he
    have hl := txtTo_len n k
    have hsz := hb.size
    by_cases hlt : k < 8
    · have hbit := Lib.hid (bit_test n k hn hlt)
      have hby := Lib.hid (byte_of k hlt (by show k < 8; exact hlt))
      have hsu := Lib.hid (txtTo_succ n k)
      go_wp2_with (go_at_call 98; refine (WriteByte_d w.heap.size w.heap.size _ _ _ hB (by simp [Lib.byteCells]; omega) (by omega)).mono ?_; rintro e w1 ⟨rfl, hB1, hb1, hd1⟩)
      · go_roundw
        case rel =>
          have ht : n.testBit k = true := by rw [← hbit.out]; assumption
          refine ⟨k + 1, by omega, by go_num, ?_, hb.trans hb1, by omega, fun h => by rw [hsu.out, if_pos ht] at h; simp at h⟩
          rw [hsu.out, if_pos ht]
          rw [hby.out] at hB1
          exact Or.inr (by simpa [Lib.byteCells] using hB1)
        case measure => simp [intOf]; omega
      · go_roundw
        case rel =>
          have ht : n.testBit k = false := by rw [← hbit.out]; assumption
          refine ⟨k + 1, by omega, by go_num, ?_, hb, hd, fun h => HE.out (by rw [hsu.out, if_neg (by rw [ht]; simp)] at h; exact h)⟩
          rw [hsu.out, if_neg (by rw [ht]; simp)]
          exact hB
        case measure => simp [intOf]; omega
    · obtain rfl : k = 8 := by omega
      by_cases h0 : txt n = []
      · have h1 := HE.out h0
        clear HE
        go_wp2_with (go_at_call 93; refine (BString_nil_d w.heap.size _ _ h1).mono ?_; rintro e w1 ⟨rfl, rfl⟩)
        go_ret
        exact ⟨by rw [h0]; rfl, hb.drew, by simp; omega⟩
      · go_wp2_with (go_at_call 93; refine (BString_d w.heap.size w.heap.size (txt n) _ hB h0).mono ?_; rintro e w1 ⟨rfl, hb1, hd1⟩)
        go_ret
        exact ⟨rfl, hb.trans hb1, by omega⟩
end Go.Proofs.Ytfoeamgjjhfkdaa

namespace Go.Proofs.Ytfoeamgjjhfkdaa
open Go.Shelf Go.RowKit Go.Proofs L9

/-- how many letters a set has -/
def pop (n : Nat) : Nat := (txt n).length

theorem ret_int {k : IntKind} {a b : Int} (h : a = b) : Ending.returned (.int k a) = .returned (.int k b) := by rw [h]
set_option maxRecDepth 100000 in
theorem onesCount (n : Nat) (hn : n < 256) (w : World) :
    Calls Try.prog 73 #[.int .u64 n] w fun e w' => e = .returned (.int .i64 (pop n)) ∧ w' = w := by
  have h64 : Calls Try.prog 100 #[.int .u64 n] w fun e w' => e = .returned (.int .i64 (pop n)) ∧ w' = w := by
    go_enter Try.func100, Try.ntmps100
    go_wp2
    go_ret
    refine ⟨ret_int ?_, rfl⟩
    clear w
    revert hn
    revert n
    decide +kernel
  go_enter Try.func73, Try.ntmps73
  go_wp2_with (go_at_call 100; refine h64.mono ?_; rintro e w' ⟨rfl, rfl⟩)
  go_ret
  exact ⟨rfl, rfl⟩

def orI (x y : Int) : Int := if x = 0 then y else x
theorem cmpOr2 (a : Addr) (x y : Int) (c : Nat) (w : World) (h0 : w.cell? ⟨a.block, a.off, none⟩ = some (.int .i64 x)) (h1 : w.cell? ⟨a.block, a.off + 1, none⟩ = some (.int .i64 y)) :
    Calls Try.prog 96 #[.slice (some ⟨a.block, a.off, none⟩) 2 c] w fun e w' => e = .returned (.int .i64 (orI x y)) ∧ w' = w := by
  go_enter Try.func96, Try.ntmps96
  go_wp2_with fail
  go_loop [5, 8] (fun _ i => i = .int .i64 0 ∨ (i = .int .i64 1 ∧ x = 0) ∨ (i = .int .i64 2 ∧ x = 0 ∧ y = 0)) (fun _ i => 2 - (intOf i).toNat)
  case atStart => exact Or.inl rfl
  case round =>
    rcases hrel with rfl | ⟨rfl, h⟩ | ⟨rfl, h, h'⟩
    · by_cases hx : x = 0
      · have e : (x != 0) = false := by simp [hx]
        have hx' := Lib.hid hx
        clear hx
        go_wp2
        go_round
        case rel => exact Or.inr (Or.inl ⟨rfl, hx'.out⟩)
        case measure => simp [intOf]
      · have e : (x != 0) = true := by simp [hx]
        go_wp2
        go_ret
        exact ⟨ret_int (by simp [orI, hx]), rfl⟩
    · have h2 := Lib.hid h
      clear h
      by_cases hy : y = 0
      · have e : (y != 0) = false := by simp [hy]
        have hy' := Lib.hid hy
        clear hy
        go_wp2
        go_round
        case rel => exact Or.inr (Or.inr ⟨rfl, h2.out, hy'.out⟩)
        case measure => simp [intOf]
      · have e : (y != 0) = true := by simp [hy]
        go_wp2
        go_ret
        exact ⟨ret_int (by simp [orI, h2.out]), rfl⟩
    · have h2 := Lib.hid h
      have h3 := Lib.hid h'
      clear h h'
      go_wp2
      go_ret
      exact ⟨ret_int (by simp [orI, h2.out, h3.out]), rfl⟩
end Go.Proofs.Ytfoeamgjjhfkdaa
