/- textOf. -/
import Derived.Test.YtfoeamgjjhfkdaaBd
import Derived.Test.YtfoeamgjjhfkdaaMa
import Derived.LoopTactic
import Derived.Outline
import Derived.Lib.Hide
namespace Go.Proofs.Ytfoeamgjjhfkdaa
open Go.Shelf Go.RowKit Go.Proofs L9

theorem all2 {p : Nat → Nat → Bool} (a b : Nat) (h : ((List.range a).all fun n => (List.range b).all fun k => p n k) = true) (n k : Nat) (hn : n < a) (hk : k < b) : p n k = true := by
  rw [List.all_eq_true] at h
  have := h n (List.mem_range.2 hn)
  rw [List.all_eq_true] at this
  exact this k (List.mem_range.2 hk)
theorem bit_test (n k : Nat) (hn : n < 256) (hk : k < 8) : (bits BinOp.and IntKind.i64 ((n : Int) / 2 ^ k) 1 == 1) = n.testBit k := by
  have := all2 (p := fun n k => (bits BinOp.and IntKind.i64 ((n : Int) / 2 ^ k) 1 == 1) == n.testBit k) 256 8 (by decide +kernel) n k hn hk
  simpa using this
theorem byte_of (k : Nat) (hk : k < 8) (h : k < (ByteArray.mk #[97, 98, 99, 100, 101, 102, 103, 104]).size) : (ByteArray.mk #[97, 98, 99, 100, 101, 102, 103, 104])[k]'h = UInt8.ofNat (97 + k) := by
  match k, hk with
  | 0, _ => rfl
  | 1, _ => rfl
  | 2, _ => rfl
  | 3, _ => rfl
  | 4, _ => rfl
  | 5, _ => rfl
  | 6, _ => rfl
  | 7, _ => rfl
theorem fresh_builder (w : World) : Lib.IsBuilder 95 5 w.heap.size w.heap.size (Lib.byteCells []) (w.alloc (.cells #[.pointer none, .slice none 0 0] 95)) :=
  Or.inl ⟨Nat.le_refl _, .slice none 0 0, (by show (w.heap.push _)[w.heap.size]? = _; simp), World.ownsRow_nil _ _ _ _, by simp [Value.ownBlock]⟩

set_option maxHeartbeats 1000000 in
theorem textOf_d (n : Nat) (hn : n < 256) (w : World) :
    Calls Try.prog 72 #[.int .i64 n] w fun e w' => e = .returned (.string ⟨(txt n).toArray⟩) ∧ Below w.heap.size w w' ∧ w.drawn ≤ w'.drawn := by
  go_enter Try.func72, Try.ntmps72
  go_wp2
  go_loopw [4, 5] (fun _ i wr => ∃ k : Nat, k ≤ 8 ∧ i = .int .i64 k ∧ Lib.IsBuilder 95 5 w.heap.size w.heap.size (Lib.byteCells (txtTo n k)) wr ∧ Below w.heap.size w wr ∧ w.drawn ≤ wr.drawn ∧ (txtTo n k = [] → wr.heap[w.heap.size]? = some (.cells #[.pointer none, .slice none 0 0] 95 (0, 0)))) (fun _ i _ => 8 - (intOf i).toNat)
  case atStart =>
    refine ⟨0, by omega, rfl, ?_, (Below.refl _ _).alloc (Nat.le_refl _) _, Nat.le_refl _, fun _ => (by show (w.heap.push _)[w.heap.size]? = _; simp)⟩
    exact fresh_builder w
  case round =>
    obtain ⟨k, hk, rfl, hB, hb, hd, he⟩ := hrel
    have HE := Lib.hid he
    clear he
    have hl := txtTo_len n k
    have hsz := hb.size
    by_cases hlt : k < 8
    · have hbit := Lib.hid (bit_test n k hn hlt)
      have hby := Lib.hid (byte_of k hlt (by show k < 8; exact hlt))
      have hsu := Lib.hid (txtTo_succ n k)
      go_wp2_with (go_at_call 98; refine (WriteByte_d w.heap.size w.heap.size _ _ _ hB (by simp [Lib.byteCells]; omega) (by omega)).mono ?_; rintro e w1 ⟨rfl, hB1, hb1, hd1⟩)
      · go_roundw
        case rel =>
          have ht : n.testBit k = true := by rw [← hbit.out]; assumption
          refine ⟨k + 1, by omega, by go_num, ?_, hb.trans hb1, by omega, fun h => by rw [hsu.out, if_pos ht] at h; simp at h⟩
          rw [hsu.out, if_pos ht]
          rw [hby.out] at hB1
          exact Or.inr (by simpa [Lib.byteCells] using hB1)
        case measure => simp [intOf]; omega
      · go_roundw
        case rel =>
          have ht : n.testBit k = false := by rw [← hbit.out]; assumption
          refine ⟨k + 1, by omega, by go_num, ?_, hb, hd, fun h => HE.out (by rw [hsu.out, if_neg (by rw [ht]; simp)] at h; exact h)⟩
          rw [hsu.out, if_neg (by rw [ht]; simp)]
          exact hB
        case measure => simp [intOf]; omega
    · obtain rfl : k = 8 := by omega
      by_cases h0 : txt n = []
      · have h1 := HE.out h0
        clear HE
        go_wp2_with (go_at_call 93; refine (BString_nil_d w.heap.size _ _ h1).mono ?_; rintro e w1 ⟨rfl, rfl⟩)
        go_ret
        exact ⟨by rw [h0]; rfl, hb.drew, by simp; omega⟩
      · go_wp2_with (go_at_call 93; refine (BString_d w.heap.size w.heap.size (txt n) _ hB h0).mono ?_; rintro e w1 ⟨rfl, hb1, hd1⟩)
        go_ret
        exact ⟨rfl, hb.trans hb1, by omega⟩
end Go.Proofs.Ytfoeamgjjhfkdaa
