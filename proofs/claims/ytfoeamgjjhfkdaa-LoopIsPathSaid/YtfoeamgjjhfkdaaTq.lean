/- number: the set of a text. -/
import Derived.Test.YtfoeamgjjhfkdaaTp
import Derived.Lib.TrimU
namespace Go.Proofs.Ytfoeamgjjhfkdaa
open Go.Shelf Go.RowKit Go.Proofs L9

/-- reading a set: its letters so far, the last one -/
def setN : Int → Nat → List UInt8 → Option Nat
  | _, acc, [] => some acc
  | last, acc, b :: r => if isLet b && decide ((b.toNat : Int) - 97 > last) then setN ((b.toNat : Int) - 97) (acc ||| 2 ^ (b.toNat - 97)) r else none
def setOf (s : List UInt8) : Option Nat := setN (-1) 0 s

theorem orShl (n i : Nat) (hn : n < 256) (hi : i < 8) : bits .or .i64 (n : Int) (wrap64 (2 ^ i)) = ((n ||| 2 ^ i : Nat) : Int) := by
  have := all2 (p := fun n i => bits .or .i64 (n : Int) (wrap64 (2 ^ i)) == ((n ||| 2 ^ i : Nat) : Int)) 256 8 (by decide +kernel) n i hn hi
  simpa using this

set_option maxHeartbeats 2000000 in
set_option maxRecDepth 100000 in
theorem number_any (s : ByteArray) (w : World) (hm : s.size ≤ 1000000) :
    Calls Try.prog 83 #[.string s] w fun e w' => e = .returned (.tuple #[.int .i64 ((setOf s.data.toList).getD 0 : Nat), .bool (setOf s.data.toList).isSome]) ∧ Below w.heap.size w w' := by
  go_enter Try.func83, Try.ntmps83
  go_wp2
  go_loopw [4, 5, 7, 8] (fun out last _ _ wr => ∃ (pos acc : Nat) (la : Int), pos ≤ s.size ∧ acc < 256 ∧ -1 ≤ la ∧ la < 8 ∧ wr = w.iter s pos ∧ out = .int .i64 acc ∧ last = .int .i64 la ∧ setOf s.data.toList = setN la acc (s.data.toList.drop pos)) (fun _ _ _ _ wr => s.size - wr.iterPos w.heap.size)
  case atStart => exact ⟨0, 0, -1, by omega, by omega, by omega, by omega, rfl, rfl, rfl, by rw [List.drop_zero]; rfl⟩
  case round =>
    obtain ⟨pos, acc, la, hpos, hacc, hla1, hla2, rfl, rfl, rfl, he⟩ := hrel
    have HE := Lib.hid he
    clear he
    by_cases hp : pos < s.size
    · have hsz : s.data.toList.length = s.size := by simp
      have hdrop : s.data.toList.drop pos = s[pos]'hp :: s.data.toList.drop (pos + 1) := by
        rw [List.drop_eq_getElem_cons (by omega)]; rfl
      rw [hdrop] at HE
      have hsn : ∀ b r, setN la acc (b :: r) = if isLet b && decide ((b.toNat : Int) - 97 > la) then setN ((b.toNat : Int) - 97) (acc ||| 2 ^ (b.toNat - 97)) r else none := fun _ _ => rfl
      rw [hsn] at HE
      clear hdrop hsn hsz
      by_cases hasc : (s[pos]'hp).toNat < 128
      · have hnx : ∀ ty, (Instr.next (.pointer (some ⟨w.heap.size, 0, none⟩)) true ty).run Try.prog (w.iter s pos) = _ := fun ty => run_next_ascii w s pos ty hp hasc
        generalize s[pos]'hp = x at *
        have HC0 := fun W => Try.strings_IndexRune_ascii ⟨#[97, 98, 99, 100, 101, 102, 103, 104]⟩ (x.toNat : Int) W (by omega) (by omega)
        rw [show (ByteArray.mk #[97, 98, 99, 100, 101, 102, 103, 104]).data.toList = [97, 98, 99, 100, 101, 102, 103, 104] from rfl, Int.toNat_natCast, show x.toNat.toUInt8 = x by simp, idxLet] at HC0
        by_cases hgo : isLet x = true ∧ (x.toNat : Int) - 97 > la
        · have hl := hgo.1
          rw [isLet_iff] at hl
          obtain ⟨i, hi⟩ : ∃ i : Nat, (x.toNat : Int) - 97 = i := ⟨x.toNat - 97, by omega⟩
          have hi8 : i < 8 := by omega
          rw [if_pos hgo.1, hi] at HC0
          have hgt : la < i := by omega
          have hor := Lib.hid (orShl acc i hacc hi8)
          have hlt2 : acc ||| 2 ^ i < 256 := Nat.or_lt_two_pow (n := 8) hacc (Nat.pow_lt_pow_right (by omega) hi8)
          rw [if_pos (by simp [hgo.1]; omega), show x.toNat - 97 = i by omega, hi] at HE
          have HC := Lib.hid HC0
          clear HC0 hgo hi hl
          go_wp2_with fail
          refine (HC.out _).mono ?_
          rintro e w' ⟨rfl, rfl⟩
          go_wp2_with fail
          go_roundw
          case rel => exact ⟨pos + 1, acc ||| 2 ^ i, i, by omega, hlt2, by omega, by omega, rfl, by rw [hor.out], rfl, HE.out⟩
          case measure => simp; omega
        · rw [if_neg (by simpa using hgo)] at HE
          obtain ⟨i, hi, hile⟩ : ∃ i : Int, (if isLet x then (x.toNat : Int) - 97 else -1) = i ∧ i ≤ la := by
            by_cases hl : isLet x = true
            · rw [if_pos hl]
              refine ⟨_, rfl, ?_⟩
              have : ¬ ((x.toNat : Int) - 97 > la) := fun h => hgo ⟨hl, h⟩
              omega
            · rw [if_neg hl]; exact ⟨_, rfl, hla1⟩
          rw [hi] at HC0
          have HC := Lib.hid HC0
          clear HC0 hgo hi
          go_wp2_with fail
          refine (HC.out _).mono ?_
          rintro e w' ⟨rfl, rfl⟩
          go_wp2_with fail
          go_ret2
          exact ⟨by rw [HE.out]; rfl, below_iter _ _ _⟩
      · have hnx : ∀ ty, (Instr.next (.pointer (some ⟨w.heap.size, 0, none⟩)) true ty).run Try.prog (w.iter s pos) = _ := fun ty => run_next_any w s pos ty hp
        have hhigh := (decode_high s pos hp (by omega)).1
        have hle := Lib.rune_le s pos
        have hnl : isLet (s[pos]'hp) = false := by
          cases h : isLet (s[pos]'hp) with
          | false => rfl
          | true => rw [isLet_iff] at h; omega
        rw [if_neg (by rw [hnl]; simp)] at HE
        clear hnl
        generalize (Utf8.decode s pos).1 = r at *
        have HC : Hid (∀ W, Calls Try.prog 106 #[.string ⟨#[97, 98, 99, 100, 101, 102, 103, 104]⟩, .int .i32 (r : Int)] W fun e w' => e = .returned (.int .i64 (-1)) ∧ Below W.heap.size W w') := by
          intro W
          by_cases h : (r : Int) = 65533
          · rw [h]; exact indexRune_err W
          · exact indexRune_other r (by omega) (by omega) h W
        clear hasc
        go_wp2_with fail
        refine (HC.out _).mono ?_
        rintro e w' ⟨rfl, hb'⟩
        have hb2 := (below_iter w s (pos + (Utf8.decode s pos).2)).trans (hb'.mono (below_iter w s _).size)
        have HB := Lib.hid hb2
        clear hb' hb2
        go_wp2_with fail
        go_ret2
        exact ⟨by rw [HE.out]; rfl, HB.out⟩
    · have hnx : ∀ ty, (Instr.next (.pointer (some ⟨w.heap.size, 0, none⟩)) true ty).run Try.prog (w.iter s pos) = _ := fun ty => run_next_end w s pos ty hp
      have hfin : setOf s.data.toList = some acc := by
        rw [HE.out, List.drop_of_length_le (by have hsz : s.data.toList.length = s.size := by simp
                                               omega)]
        rfl
      have HF := Lib.hid hfin
      clear hfin HE
      go_wp2_with fail
      go_ret2
      exact ⟨by rw [HF.out]; rfl, below_iter _ _ _⟩

theorem setN_lt : ∀ (s : List UInt8) (la : Int) (acc n : Nat), acc < 256 → setN la acc s = some n → n < 256
  | [], _, acc, n, ha, h => by simp [setN] at h; omega
  | b :: r, la, acc, n, ha, h => by
    unfold setN at h
    split at h
    · rename_i hc
      simp only [Bool.and_eq_true] at hc
      have hl := hc.1
      rw [isLet_iff] at hl
      exact setN_lt r _ _ n (Nat.or_lt_two_pow (n := 8) ha (Nat.pow_lt_pow_right (by omega) (show b.toNat - 97 < 8 by omega))) h
    · cases h
theorem setOf_lt (s : List UInt8) (n : Nat) (h : setOf s = some n) : n < 256 := setN_lt s _ _ n (by omega) h
theorem setOf_getD_lt (s : List UInt8) : (setOf s).getD 0 < 256 := by
  cases h : setOf s with
  | none => simp
  | some n => simpa using setOf_lt s n h
end Go.Proofs.Ytfoeamgjjhfkdaa
