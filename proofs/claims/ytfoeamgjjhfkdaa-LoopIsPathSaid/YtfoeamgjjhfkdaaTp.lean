/- IndexRune among the letters, number. -/
import Derived.Test.YtfoeamgjjhfkdaaTo
import Derived.Laws.Runes
import Derived.Laws.RangeAny
import Derived.Deep.QuietTactic
import Derived.BigQuiet
import Derived.IntWalk
namespace Go.Proofs.Ytfoeamgjjhfkdaa
open Go.Shelf Go.RowKit Go.Proofs L9

theorem letAll (j : Nat) (h : j < (ByteArray.mk #[97, 98, 99, 100, 101, 102, 103, 104]).size) : ((ByteArray.mk #[97, 98, 99, 100, 101, 102, 103, 104])[j]'h).toNat = 97 + j := by
  rw [byte_of j h h]
  have hj : j < 8 := h
  simp [UInt8.toNat_ofNat']
  omega

set_option maxHeartbeats 1000000 in
set_option maxRecDepth 100000 in
theorem indexRune_err (w : World) :
    Calls Try.prog 106 #[.string ⟨#[97, 98, 99, 100, 101, 102, 103, 104]⟩, .int .i32 65533] w fun e w' => e = .returned (.int .i64 (-1)) ∧ Below w.heap.size w w' := by
  have hsz : (ByteArray.mk #[97, 98, 99, 100, 101, 102, 103, 104]).size = 8 := rfl
  have HL := Lib.hid letAll
  generalize ByteArray.mk #[97, 98, 99, 100, 101, 102, 103, 104] = s at *
  go_enter Try.func106, Try.ntmps106
  go_wp2_with fail
  go_loopw [5, 6] (fun _ _ wr => ∃ pos : Nat, pos ≤ 8 ∧ wr = w.iter s pos) (fun _ _ wr => 8 - wr.iterPos w.heap.size)
  case atStart => exact ⟨0, by omega, rfl⟩
  case round =>
    obtain ⟨pos, hpos, rfl⟩ := hrel
    by_cases hp : pos < s.size
    · have h1 := HL.out pos hp
      have hasc : (s[pos]'hp).toNat < 128 := by omega
      have hnx : ∀ ty, (Instr.next (.pointer (some ⟨w.heap.size, 0, none⟩)) true ty).run Try.prog (w.iter s pos) = _ := fun ty => run_next_ascii w s pos ty hp hasc
      generalize s[pos]'hp = x at *
      have e : (((x.toNat : Nat) : Int) == 65533) = false := by simp; omega
      clear h1 hasc
      go_wp2
      go_roundw
      case rel => exact ⟨pos + 1, by omega, rfl⟩
      case measure => simp; omega
    · have hnx : ∀ ty, (Instr.next (.pointer (some ⟨w.heap.size, 0, none⟩)) true ty).run Try.prog (w.iter s pos) = _ := fun ty => run_next_end w s pos ty hp
      go_wp2
      go_ret
      exact ⟨rfl, below_iter _ _ _⟩

theorem idxHi (L : Nat) (hL : L ≤ 3) (n : Nat) (h1 : 128 ≤ n) (h2 : n < 256) : Lib.indexByte ((ByteArray.mk #[97, 98, 99, 100, 101, 102, 103, 104]).extract (L + 1) 8).data.toList n.toUInt8 = -1 := by
  have h : ∀ L, L ≤ 3 → ∀ n, n < 256 → 128 ≤ n → Lib.indexByte ((#[97, 98, 99, 100, 101, 102, 103, 104] : Array UInt8).extract (L + 1) 8).toList n.toUInt8 = -1 := by decide +kernel
  rw [ByteArray.data_extract]
  exact h L hL n h2 h1

set_option maxHeartbeats 1000000 in
set_option maxRecDepth 100000 in
theorem indexRune_other (r : Int) (h1 : 128 ≤ r) (h2 : r ≤ 2147483647) (h3 : r ≠ 65533) (w : World) :
    Calls Try.prog 106 #[.string ⟨#[97, 98, 99, 100, 101, 102, 103, 104]⟩, .int .i32 r] w fun e w' => e = .returned (.int .i64 (-1)) ∧ Below w.heap.size w w' := by
  have hsz : (ByteArray.mk #[97, 98, 99, 100, 101, 102, 103, 104]).size = 8 := rfl
  have HL := Lib.hid letAll
  have hne : (r == 65533) = false := by simpa using h3
  generalize hs00 : ByteArray.mk #[97, 98, 99, 100, 101, 102, 103, 104] = s at *
  have hs0 := Lib.hid hs00
  clear hs00
  go_enter Try.func106, Try.ntmps106
  cases hv : Lib.validRune r with
  | false =>
    have HV0 := Try.utf8_ValidRune r
    rw [hv] at HV0
    have HV := Lib.hid HV0
    clear HV0
    clear hv
    go_wp2_with (go_at_call 119; refine (HV.out _).mono ?_; rintro e w' ⟨rfl, rfl⟩)
    go_ret
    exact ⟨rfl, Below.refl _ _⟩
  | true =>
    have HV0 := Try.utf8_ValidRune r
    rw [hv] at HV0
    have HV := Lib.hid HV0
    clear HV0
    have hval : Utf8.valid r = true := by
      unfold Lib.validRune at hv
      unfold Utf8.valid
      simp at hv ⊢
      omega
    have hf := encode_facts r hval h1
    obtain ⟨f1, f2, f3⟩ := hf
    have F3 := Lib.hid f3
    clear hv hval f3
    go_wp2_with fail
    refine (HV.out _).mono ?_
    rintro e w' ⟨rfl, rfl⟩
    go_wp2_with fail
    go_step3
    go_wp2_with fail
    generalize Utf8.encode r = rs at *
    obtain ⟨L, hL⟩ : ∃ L : Nat, L = rs.size - 1 := ⟨_, rfl⟩
    have eL : ((rs.size : Int) - 1) = (L : Int) := by omega
    rw [eL]
    have hLs : L < rs.size := by omega
    have hLs2 : L < s.size := by omega
    have g1 := HL.out L hLs2
    have g2 : 128 ≤ (rs[L]'hLs).toNat := by subst hL; exact F3.out hLs
    have hne2 : (((s[L]'hLs2).toNat : Int) != ((rs[L]'hLs).toNat : Int)) = true := by simp; omega
    have hL4 : L ≤ 3 := by omega
    clear eL hL F3
    refine wp_loop_rounds 1 ?_
    rw [rounds_succ]
    go_wp2_with fail
    go_step3
    go_wp2_with fail
    go_quiet (fail)
    go_wp2_with fail
    have HI := Lib.hid (idxHi L hL4 (rs[L]'hLs).toNat g2 (rs[L]'hLs).toNat_lt)
    rw [hs0.out] at HI
    have HC0 := fun W => Try.strings_IndexByte (s.extract (L + 1) 8) ((rs[L]'hLs).toNat : Int) W
    rw [Int.toNat_natCast, HI.out] at HC0
    have HC := Lib.hid HC0
    clear HC0
    have hwr : IntKind.i64.wrap ((L : Int) + 1) = (L : Int) + 1 := IntWalk.i64_in _ (by omega)
    have hnn : 0 ≤ (L : Int) + 1 := by omega
    have htn : ((L : Int) + 1).toNat = L + 1 := by omega
    have hle8 : (L : Int) + 1 ≤ 8 := by omega
    have HB : Below w'.heap.size w' (w'.drewN nq) := ⟨rfl, rfl, rfl, Nat.le_refl _, fun _ _ => rfl⟩
    generalize w'.drewN nq = wq at *
    go_quiet ((go_at_call 82; exact Calls.quiet_of_same (HC.out _)))
    go_wp2_with fail
    simp only [Exit.inBlock, Exit.then, Exit.noGoto_ret]
    go_ret
    exact ⟨rfl, HB.trans ⟨rfl, rfl, rfl, Nat.le_refl _, fun _ _ => rfl⟩⟩
end Go.Proofs.Ytfoeamgjjhfkdaa
