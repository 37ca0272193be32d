/- IndexRune among the letters, number. number: the set of a text. -/
import Derived.Test.YtfoeamgjjhfkdaaTo
import Derived.Laws.Runes
import Derived.Laws.RangeAny
import Derived.Deep.QuietTactic
import Derived.BigQuiet
import Derived.IntWalk
import Derived.Lib.TrimU
namespace Go.Proofs.Ytfoeamgjjhfkdaa
open Go.Shelf Go.RowKit Go.Proofs L9

theorem letAll (j : Nat) (h : j < (ByteArray.mk #[97, 98, 99, 100, 101, 102, 103, 104]).size) : ((ByteArray.mk #[97, 98, 99, 100, 101, 102, 103, 104])[j]'h).toNat = 97 + j := by
  rw [byte_of j h h]
  have hj : j < 8 := h
  simp [UInt8.toNat_ofNat']
  omega

set_option maxHeartbeats 1000000 in
set_option maxRecDepth 100000 in
theorem indexRune_err (w : World) :
    Calls Try.prog 106 #[.string ⟨#[97, 98, 99, 100, 101, 102, 103, 104]⟩, .int .i32 65533] w fun e w' => e = .returned (.int .i64 (-1)) ∧ Below w.heap.size w w' := by
  have hsz : (ByteArray.mk #[97, 98, 99, 100, 101, 102, 103, 104]).size = 8 := rfl
  have HL := Lib.hid letAll
  generalize ByteArray.mk #[97, 98, 99, 100, 101, 102, 103, 104] = s at *
  go_enter Try.func106, Try.ntmps106
  go_wp2_with fail
  go_loopw [5, 6] (fun _ _ wr => ∃ pos : Nat, pos ≤ 8 ∧ wr = w.iter s pos) (fun _ _ wr => 8 - wr.iterPos w.heap.size)
  case atStart => exact ⟨0, by omega, rfl⟩
  case round =>
    obtain ⟨pos, hpos, rfl⟩ := hrel
    by_cases hp : pos < s.size
    · have h1 := HL.out pos hp
      have hasc : (s[pos]'hp).toNat < 128 := by omega
      have hnx : ∀ ty, (Instr.next (.pointer (some ⟨w.heap.size, 0, none⟩)) true ty).run Try.prog (w.iter s pos) = _ := fun ty => run_next_ascii w s pos ty hp hasc
      generalize s[pos]'hp = x at *
      have e : (((x.toNat : Nat) : Int) == 65533) = false := by simp; omega
      clear h1 hasc
      go_wp2
      go_roundw
      case rel => exact ⟨pos + 1, by omega, rfl⟩
      case measure => simp; omega
    · have hnx : ∀ ty, (Instr.next (.pointer (some ⟨w.heap.size, 0, none⟩)) true ty).run Try.prog (w.iter s pos) = _ := fun ty => run_next_end w s pos ty hp
      go_wp2
      go_ret
      exact ⟨rfl, below_iter _ _ _⟩

theorem idxHi (L : Nat) (hL : L ≤ 3) (n : Nat) (h1 : 128 ≤ n) (h2 : n < 256) : Lib.indexByte ((ByteArray.mk #[97, 98, 99, 100, 101, 102, 103, 104]).extract (L + 1) 8).data.toList n.toUInt8 = -1 := by
  have h : ∀ L, L ≤ 3 → ∀ n, n < 256 → 128 ≤ n → Lib.indexByte ((#[97, 98, 99, 100, 101, 102, 103, 104] : Array UInt8).extract (L + 1) 8).toList n.toUInt8 = -1 := by decide +kernel
  rw [ByteArray.data_extract]
  exact h L hL n h2 h1

set_option maxHeartbeats 1000000 in
set_option maxRecDepth 100000 in
theorem indexRune_other (r : Int) (h1 : 128 ≤ r) (h2 : r ≤ 2147483647) (h3 : r ≠ 65533) (w : World) :
    Calls Try.prog 106 #[.string ⟨#[97, 98, 99, 100, 101, 102, 103, 104]⟩, .int .i32 r] w fun e w' => e = .returned (.int .i64 (-1)) ∧ Below w.heap.size w w' := by
  have hsz : (ByteArray.mk #[97, 98, 99, 100, 101, 102, 103, 104]).size = 8 := rfl
  have HL := Lib.hid letAll
  have hne : (r == 65533) = false := by simpa using h3
  generalize hs00 : ByteArray.mk #[97, 98, 99, 100, 101, 102, 103, 104] = s at *
  have hs0 := Lib.hid hs00
  clear hs00
  go_enter Try.func106, Try.ntmps106
  cases hv : Lib.validRune r with
  | false =>
    have HV0 := Try.utf8_ValidRune r
    rw [hv] at HV0
    have HV := Lib.hid HV0
    clear HV0
    clear hv
    go_wp2_with (go_at_call 119; refine (HV.out _).mono ?_; rintro e w' ⟨rfl, rfl⟩)
    go_ret
    exact ⟨rfl, Below.refl _ _⟩
  | true =>
    have HV0 := Try.utf8_ValidRune r
    rw [hv] at HV0
    have HV := Lib.hid HV0
    clear HV0
    have hval : Utf8.valid r = true := by
      unfold Lib.validRune at hv
      unfold Utf8.valid
      simp at hv ⊢
      omega
    have hf := encode_facts r hval h1
    obtain ⟨f1, f2, f3⟩ := hf
    have F3 := Lib.hid f3
    clear hv hval f3
    go_wp2_with fail
    refine (HV.out _).mono ?_
    rintro e w' ⟨rfl, rfl⟩
    go_wp2_with fail
    go_step3
    go_wp2_with fail
    generalize Utf8.encode r = rs at *
    obtain ⟨L, hL⟩ : ∃ L : Nat, L = rs.size - 1 := ⟨_, rfl⟩
    have eL : ((rs.size : Int) - 1) = (L : Int) := by omega
    rw [eL]
    have hLs : L < rs.size := by omega
    have hLs2 : L < s.size := by omega
    have g1 := HL.out L hLs2
    have g2 : 128 ≤ (rs[L]'hLs).toNat := by subst hL; exact F3.out hLs
    have hne2 : (((s[L]'hLs2).toNat : Int) != ((rs[L]'hLs).toNat : Int)) = true := by simp; omega
    have hL4 : L ≤ 3 := by omega
    clear eL hL F3
    refine wp_loop_rounds 1 ?_
    rw [rounds_succ]
    go_wp2_with fail
    go_step3
    go_wp2_with fail
    go_quiet (fail)
    go_wp2_with fail
    have HI := Lib.hid (idxHi L hL4 (rs[L]'hLs).toNat g2 (rs[L]'hLs).toNat_lt)
    rw [hs0.out] at HI
    have HC0 := fun W => Try.strings_IndexByte (s.extract (L + 1) 8) ((rs[L]'hLs).toNat : Int) W
    rw [Int.toNat_natCast, HI.out] at HC0
    have HC := Lib.hid HC0
    clear HC0
    have hwr : IntKind.i64.wrap ((L : Int) + 1) = (L : Int) + 1 := IntWalk.i64_in _ (by omega)
    have hnn : 0 ≤ (L : Int) + 1 := by omega
    have htn : ((L : Int) + 1).toNat = L + 1 := by omega
    have hle8 : (L : Int) + 1 ≤ 8 := by omega
    have HB : Below w'.heap.size w' (w'.drewN nq) := ⟨rfl, rfl, rfl, Nat.le_refl _, fun _ _ => rfl⟩
    generalize w'.drewN nq = wq at *
    go_quiet ((go_at_call 82; exact Calls.quiet_of_same (HC.out _)))
    go_wp2_with fail
    simp only [Exit.inBlock, Exit.then, Exit.noGoto_ret]
    go_ret
    exact ⟨rfl, HB.trans ⟨rfl, rfl, rfl, Nat.le_refl _, fun _ _ => rfl⟩⟩
end Go.Proofs.Ytfoeamgjjhfkdaa

namespace Go.Proofs.Ytfoeamgjjhfkdaa
open Go.Shelf Go.RowKit Go.Proofs L9

/-- reading a set: its letters so far, the last one -/
def setN : Int → Nat → List UInt8 → Option Nat
  | _, acc, [] => some acc
  | last, acc, b :: r => if isLet b && decide ((b.toNat : Int) - 97 > last) then setN ((b.toNat : Int) - 97) (acc ||| 2 ^ (b.toNat - 97)) r else none
def setOf (s : List UInt8) : Option Nat := setN (-1) 0 s

theorem orShl (n i : Nat) (hn : n < 256) (hi : i < 8) : bits .or .i64 (n : Int) (wrap64 (2 ^ i)) = ((n ||| 2 ^ i : Nat) : Int) := by
  have := all2 (p := fun n i => bits .or .i64 (n : Int) (wrap64 (2 ^ i)) == ((n ||| 2 ^ i : Nat) : Int)) 256 8 (by decide +kernel) n i hn hi
  simpa using this

set_option maxHeartbeats 2000000 in
set_option maxRecDepth 100000 in
theorem number_any (s : ByteArray) (w : World) (hm : s.size ≤ 1000000) :
    Calls Try.prog 83 #[.string s] w fun e w' => e = .returned (.tuple #[.int .i64 ((setOf s.data.toList).getD 0 : Nat), .bool (setOf s.data.toList).isSome]) ∧ Below w.heap.size w w' := by
  go_enter Try.func83, Try.ntmps83
  go_wp2
  go_loopw [4, 5, 7, 8] (fun out last _ _ wr => ∃ (pos acc : Nat) (la : Int), pos ≤ s.size ∧ acc < 256 ∧ -1 ≤ la ∧ la < 8 ∧ wr = w.iter s pos ∧ out = .int .i64 acc ∧ last = .int .i64 la ∧ setOf s.data.toList = setN la acc (s.data.toList.drop pos)) (fun _ _ _ _ wr => s.size - wr.iterPos w.heap.size)
  case atStart => exact ⟨0, 0, -1, by omega, by omega, by omega, by omega, rfl, rfl, rfl, by rw [List.drop_zero]; rfl⟩
  case round =>
    obtain ⟨pos, acc, la, hpos, hacc, hla1, hla2, rfl, rfl, rfl, he⟩ := hrel
    have HE := Lib.hid he
    clear he
    by_cases hp : pos < s.size
    · have hsz : s.data.toList.length = s.size := by simp
      have hdrop : s.data.toList.drop pos = s[pos]'hp :: s.data.toList.drop (pos + 1) := by
        rw [List.drop_eq_getElem_cons (by omega)]; rfl
      rw [hdrop] at HE
      have hsn : ∀ b r, setN la acc (b :: r) = if isLet b && decide ((b.toNat : Int) - 97 > la) then setN ((b.toNat : Int) - 97) (acc ||| 2 ^ (b.toNat - 97)) r else none := fun _ _ => rfl
      rw [hsn] at HE
      clear hdrop hsn hsz
      by_cases hasc : (s[pos]'hp).toNat < 128
      · have hnx : ∀ ty, (Instr.next (.pointer (some ⟨w.heap.size, 0, none⟩)) true ty).run Try.prog (w.iter s pos) = _ := fun ty => run_next_ascii w s pos ty hp hasc
        generalize s[pos]'hp = x at *
        have HC0 := fun W => Try.strings_IndexRune_ascii ⟨#[97, 98, 99, 100, 101, 102, 103, 104]⟩ (x.toNat : Int) W (by omega) (by omega)
        rw [show (ByteArray.mk #[97, 98, 99, 100, 101, 102, 103, 104]).data.toList = [97, 98, 99, 100, 101, 102, 103, 104] from rfl, Int.toNat_natCast, show x.toNat.toUInt8 = x by simp, idxLet] at HC0
        by_cases hgo : isLet x = true ∧ (x.toNat : Int) - 97 > la
        · have hl := hgo.1
          rw [isLet_iff] at hl
          obtain ⟨i, hi⟩ : ∃ i : Nat, (x.toNat : Int) - 97 = i := ⟨x.toNat - 97, by omega⟩
          have hi8 : i < 8 := by omega
          rw [if_pos hgo.1, hi] at HC0
          have hgt : la < i := by omega
          have hor := Lib.hid (orShl acc i hacc hi8)
          have hlt2 : acc ||| 2 ^ i < 256 := Nat.or_lt_two_pow (n := 8) hacc (Nat.pow_lt_pow_right (by omega) hi8)
          rw [if_pos (by simp [hgo.1]; omega), show x.toNat - 97 = i by omega, hi] at HE
          have HC := Lib.hid HC0
          clear HC0 hgo hi hl
          go_wp2_with fail
          refine (HC.out _).mono ?_
          rintro e w' ⟨rfl, rfl⟩
          go_wp2_with fail
          go_roundw
          case rel => exact ⟨pos + 1, acc ||| 2 ^ i, i, by omega, hlt2, by omega, by omega, rfl, by rw [hor.out], rfl, HE.out⟩
          case measure => simp; omega
        · rw [if_neg (by simpa using hgo)] at HE
          obtain ⟨i, hi, hile⟩ : ∃ i : Int, (if isLet x then (x.toNat : Int) - 97 else -1) = i ∧ i ≤ la := by
            by_cases hl : isLet x = true
            · rw [if_pos hl]
              refine ⟨_, rfl, ?_⟩
              have : ¬ ((x.toNat : Int) - 97 > la) := fun h => hgo ⟨hl, h⟩
              omega
            · rw [if_neg hl]; exact ⟨_, rfl, hla1⟩
          rw [hi] at HC0
          have HC := Lib.hid HC0
          clear HC0 hgo hi
          go_wp2_with fail
          refine (HC.out _).mono ?_
          rintro e w' ⟨rfl, rfl⟩
          go_wp2_with fail
          go_ret2
          exact ⟨by rw [HE.out]; rfl, below_iter _ _ _⟩
      · have hnx : ∀ ty, (Instr.next (.pointer (some ⟨w.heap.size, 0, none⟩)) true ty).run Try.prog (w.iter s pos) = _ := fun ty => run_next_any w s pos ty hp
        have hhigh := (decode_high s pos hp (by omega)).1
        have hle := Lib.rune_le s pos
        have hnl : isLet (s[pos]'hp) = false := by
          cases h : isLet (s[pos]'hp) with
          | false => rfl
          | true => rw [isLet_iff] at h; omega
        rw [if_neg (by rw [hnl]; simp)] at HE
        clear hnl
        generalize (Utf8.decode s pos).1 = r at *
        have HC : Hid (∀ W, Calls Try.prog 106 #[.string ⟨#[97, 98, 99, 100, 101, 102, 103, 104]⟩, .int .i32 (r : Int)] W fun e w' => e = .returned (.int .i64 (-1)) ∧ Below W.heap.size W w') := by
          intro W
          by_cases h : (r : Int) = 65533
          · rw [h]; exact indexRune_err W
          · exact indexRune_other r (by omega) (by omega) h W
        clear hasc
        go_wp2_with fail
        refine (HC.out _).mono ?_
        rintro e w' ⟨rfl, hb'⟩
        have hb2 := (below_iter w s (pos + (Utf8.decode s pos).2)).trans (hb'.mono (below_iter w s _).size)
        have HB := Lib.hid hb2
        clear hb' hb2
        go_wp2_with fail
        go_ret2
        exact ⟨by rw [HE.out]; rfl, HB.out⟩
    · have hnx : ∀ ty, (Instr.next (.pointer (some ⟨w.heap.size, 0, none⟩)) true ty).run Try.prog (w.iter s pos) = _ := fun ty => run_next_end w s pos ty hp
      have hfin : setOf s.data.toList = some acc := by
        rw [HE.out, List.drop_of_length_le (by have hsz : s.data.toList.length = s.size := by simp
                                               omega)]
        rfl
      have HF := Lib.hid hfin
      clear hfin HE
      go_wp2_with fail
      go_ret2
      exact ⟨by rw [HF.out]; rfl, below_iter _ _ _⟩

theorem setN_lt : ∀ (s : List UInt8) (la : Int) (acc n : Nat), acc < 256 → setN la acc s = some n → n < 256
  | [], _, acc, n, ha, h => by simp [setN] at h; omega
  | b :: r, la, acc, n, ha, h => by
    unfold setN at h
    split at h
    · rename_i hc
      simp only [Bool.and_eq_true] at hc
      have hl := hc.1
      rw [isLet_iff] at hl
      exact setN_lt r _ _ n (Nat.or_lt_two_pow (n := 8) ha (Nat.pow_lt_pow_right (by omega) (show b.toNat - 97 < 8 by omega))) h
    · cases h
theorem setOf_lt (s : List UInt8) (n : Nat) (h : setOf s = some n) : n < 256 := setN_lt s _ _ n (by omega) h
theorem setOf_getD_lt (s : List UInt8) : (setOf s).getD 0 < 256 := by
  cases h : setOf s with
  | none => simp
  | some n => simpa using setOf_lt s n h
end Go.Proofs.Ytfoeamgjjhfkdaa
