/- The reference's sets: text, size. -/
import Derived.Test.YtfoeamgjjhfkdaaRg
namespace Go.Proofs.Ytfoeamgjjhfkdaa
open Go Go.Shelf Go.RowKit Go.Proofs L9

theorem ba_ext {a b : ByteArray} (h : a.data.toList = b.data.toList) : a = b := by
  cases a; cases b; simp at h; rw [h]
theorem ba_append (a b : ByteArray) : (a ++ b).data.toList = a.data.toList ++ b.data.toList := by simp
theorem letter_slice (k : Nat) (hk : k < 8) : ((ByteArray.mk #[97, 98, 99, 100, 101, 102, 103, 104]).extract k (k + 1)).data.toList = [UInt8.ofNat (97 + k)] := by
  match k, hk with
  | 0, _ => rfl
  | 1, _ => rfl
  | 2, _ => rfl
  | 3, _ => rfl
  | 4, _ => rfl
  | 5, _ => rfl
  | 6, _ => rfl
  | 7, _ => rfl

set_option maxHeartbeats 1000000 in
theorem refText (n : Nat) (hn : n < 256) (w : World) :
    Calls Try.prog 78 #[.int .i64 n] w fun e w' => e = .returned (.string ⟨(txt n).toArray⟩) ∧ w' = w := by
  go_enter Try.func78, Try.ntmps78
  go_wp2
  go_loop [3, 4] (fun v i => ∃ (k : Nat) (S : ByteArray), k ≤ 8 ∧ i = .int .i64 k ∧ v = .string S ∧ S.data.toList = txtTo n k) (fun _ i => 8 - (intOf i).toNat)
  case atStart => exact ⟨0, _, by omega, rfl, rfl, rfl⟩
  case round =>
    obtain ⟨k, S, hk, rfl, rfl, hS⟩ := hrel
    have HS := Lib.hid hS
    clear hS
    by_cases hlt : k < 8
    · have hbit := bit_test n k hn hlt
      have hsu := Lib.hid (txtTo_succ n k)
      cases ht : n.testBit k with
      | true =>
        rw [ht] at hbit
        have HT := Lib.hid ht
        clear ht
        have hlen := txtTo_len n k
        have hSz : S.size ≤ 8 := by rw [← size_list, HS.out]; omega
        go_wp2_with fail
        go_round
        case rel => exact ⟨k + 1, _, by omega, by go_num, rfl, by rw [ba_append, HS.out, letter_slice k hlt, hsu.out, if_pos HT.out]⟩
        case measure => simp [intOf]; omega
      | false =>
        rw [ht] at hbit
        have HT := Lib.hid ht
        clear ht
        go_wp2_with fail
        go_round
        case rel => exact ⟨k + 1, S, by omega, by go_num, rfl, by rw [hsu.out, if_neg (by rw [HT.out]; simp)]; exact HS.out⟩
        case measure => simp [intOf]; omega
    · obtain rfl : k = 8 := by omega
      go_wp2
      go_ret
      obtain rfl : S = ⟨(txt n).toArray⟩ := ba_ext (by rw [HS.out]; rfl)
      exact ⟨rfl, rfl⟩

theorem refSize (n : Nat) (hn : n < 256) (w : World) :
    Calls Try.prog 84 #[.int .i64 n] w fun e w' => e = .returned (.int .i64 ((txt n).length : Nat)) ∧ w' = w := by
  have HT := Lib.hid (refText n hn w)
  have hsz : (⟨(txt n).toArray⟩ : ByteArray).size = (txt n).length := by rw [← size_list]
  generalize (⟨(txt n).toArray⟩ : ByteArray) = S at *
  go_enter Try.func84, Try.ntmps84
  go_wp2_with fail
  refine HT.out.mono ?_
  rintro e w1 ⟨rfl, rfl⟩
  go_wp2
  go_ret
  exact ⟨rfl, rfl⟩

theorem setN_cons (la : Int) (acc : Nat) (b : UInt8) (r : List UInt8) : setN la acc (b :: r) = if isLet b && decide ((b.toNat : Int) - 97 > la) then setN ((b.toNat : Int) - 97) (acc ||| 2 ^ (b.toNat - 97)) r else none := rfl

/-- the last letter before a place -/
def laOf (s : ByteArray) (k : Nat) : Int := if h : 0 < k ∧ k - 1 < s.size then ((s[k - 1]'h.2).toNat : Int) - 97 else -1

set_option maxHeartbeats 4000000 in
theorem refValidSet (s : ByteArray) (w : World) (hm : s.size ≤ 1000000) :
    Calls Try.prog 22 #[.string s] w fun e w' => e = .returned (.bool (setOf s.data.toList).isSome) ∧ ∃ n, w' = w.drewN n := by
  go_enter Try.func22, Try.ntmps22
  go_wp2
  go_loopw [3] (fun i wr => ∃ (k acc n : Nat), k ≤ s.size ∧ i = .int .i64 k ∧ wr = w.drewN n ∧ setOf s.data.toList = setN (laOf s k) acc (s.data.toList.drop k)) (fun i _ => s.size - (intOf i).toNat)
  case atStart => exact ⟨0, 0, 0, by omega, rfl, rfl, by rw [List.drop_zero]; rfl⟩
  case round =>
    obtain ⟨k, acc, n, hk, rfl, rfl, he⟩ := hrel
    have HE := Lib.hid he
    clear he
    by_cases hlt : k < s.size
    · have hsl := size_list s
      have hdrop : s.data.toList.drop k = s[k]'hlt :: s.data.toList.drop (k + 1) := by
        rw [List.drop_eq_getElem_cons (by omega)]; rfl
      have he := HE.out
      rw [hdrop, setN_cons] at he
      have hla1 : laOf s (k + 1) = ((s[k]'hlt).toNat : Int) - 97 := by
        unfold laOf
        rw [dif_pos ⟨by omega, by simpa using hlt⟩]
        rfl
      have HE := Lib.hid he
      have HLA := Lib.hid hla1
      clear he hdrop hla1 hsl
      by_cases hl : 97 ≤ (s[k]'hlt).toNat ∧ (s[k]'hlt).toNat ≤ 104
      · have hlt' := (isLet_iff _).2 hl
        obtain ⟨hl1, hl2⟩ := hl
        by_cases hk0 : k = 0
        · subst hk0
          have h0 : laOf s 0 = -1 := by unfold laOf; rw [dif_neg (by omega)]
          have he := HE.out
          rw [h0, if_pos (by simp [hlt']; omega), ← HLA.out] at he
          have HE2 := Lib.hid he
          clear he h0 HE HLA hlt'
          have d1 : decide (((s[0]'hlt).toNat : Int) < 97) = false := by simp; omega
          have d2 : decide (((s[0]'hlt).toNat : Int) > 104) = false := by simp; omega
          go_wp2_with fail
          go_quiet (fail)
          go_wp2_with fail
          go_roundw
          case rel => exact ⟨1, acc ||| 2 ^ ((s[0]'hlt).toNat - 97), n + nq, by omega, rfl, rfl, HE2.out⟩
          case measure => simp [intOf]; omega
        · have hk1 : 0 < k := by omega
          have hj : k - 1 < s.size := by omega
          have h0 : laOf s k = ((s[k - 1]'hj).toNat : Int) - 97 := by
            unfold laOf
            rw [dif_pos ⟨by omega, hj⟩]
          have d1 : decide (((s[k]'hlt).toNat : Int) < 97) = false := by simp; omega
          have d2 : decide (((s[k]'hlt).toNat : Int) > 104) = false := by simp; omega
          have d4 : decide ((k : Int) > 0) = true := by simp; omega
          have hw : IntKind.i64.wrap ((k : Int) - 1) = ((k - 1 : Nat) : Int) := by
            rw [IntKind.wrap_i64]; omega
          by_cases hgt : (s[k - 1]'hj).toNat < (s[k]'hlt).toNat
          · have he := HE.out
            rw [h0, if_pos (by simp [hlt']; omega), ← HLA.out] at he
            have HE2 := Lib.hid he
            clear he h0 HE HLA hlt' hl1 hl2
            go_wp2_with fail
            go_quiet (fail)
            go_wp2_with fail
            clear hw d1 d2 d4
            go_roundw
            case rel => exact ⟨k + 1, acc ||| 2 ^ ((s[k]'hlt).toNat - 97), n + nq, by omega, by go_num, rfl, HE2.out⟩
            case measure => simp [intOf]; omega
          · have he := HE.out
            rw [h0, if_neg (by simp; omega)] at he
            have HE2 := Lib.hid he
            clear he h0 HE HLA hlt' hl1 hl2
            go_wp2_with fail
            go_quiet (fail)
            go_wp2_with fail
            go_ret
            exact ⟨by rw [HE2.out]; rfl, _, by first | rfl | (rw [World.drewN_drewN])⟩
      · have hnl : isLet (s[k]'hlt) = false := by
          cases h : isLet (s[k]'hlt) with
          | false => rfl
          | true => exact absurd ((isLet_iff _).1 h) hl
        have he := HE.out
        rw [if_neg (by rw [hnl]; simp)] at he
        have HE2 := Lib.hid he
        clear he HE HLA hnl
        by_cases hl1 : (s[k]'hlt).toNat < 97
        · have d1 : decide (((s[k]'hlt).toNat : Int) < 97) = true := by simp; omega
          clear hl
          go_wp2_with fail
          go_quiet (fail)
          go_wp2_with fail
          go_ret
          exact ⟨by rw [HE2.out]; rfl, _, by first | rfl | (rw [World.drewN_drewN])⟩
        · have d1 : decide (((s[k]'hlt).toNat : Int) < 97) = false := by simp; omega
          have d2 : decide (((s[k]'hlt).toNat : Int) > 104) = true := by simp; omega
          clear hl hl1
          go_wp2_with fail
          go_quiet (fail)
          go_wp2_with fail
          go_ret
          exact ⟨by rw [HE2.out]; rfl, _, by first | rfl | (rw [World.drewN_drewN])⟩
    · obtain rfl : k = s.size := by omega
      have he := HE.out
      rw [List.drop_of_length_le (by rw [size_list]; omega)] at he
      have HE2 := Lib.hid he
      clear he HE
      go_wp2_with fail
      go_ret
      exact ⟨by rw [HE2.out]; rfl, _, by first | rfl | (rw [World.drewN_drewN])⟩

theorem orShl8 (n i : Nat) (hn : n < 256) (hi : i < 8) : bits .or .i64 (n : Int) (wrap64 (2 ^ i)) = ((n ||| 2 ^ i : Nat) : Int) := orShl n i hn hi

set_option maxHeartbeats 2000000 in
theorem refBits (s : ByteArray) (m : Nat) (w : World) (hm : s.size ≤ 1000000) (hset : setOf s.data.toList = some m) :
    Calls Try.prog 79 #[.string s] w fun e w' => e = .returned (.int .i64 (m : Nat)) ∧ w' = w := by
  have HSET := Lib.hid hset
  clear hset
  go_enter Try.func79, Try.ntmps79
  go_wp2
  go_loop [3, 4] (fun v i => ∃ (k acc : Nat) (la : Int), k ≤ s.size ∧ i = .int .i64 k ∧ v = .int .i64 acc ∧ acc < 256 ∧ setN la acc (s.data.toList.drop k) = some m) (fun _ i => s.size - (intOf i).toNat)
  case atStart => exact ⟨0, 0, -1, by omega, rfl, rfl, by omega, by rw [List.drop_zero]; exact HSET.out⟩
  case round =>
    obtain ⟨k, acc, la, hk, rfl, rfl, hacc, he⟩ := hrel
    by_cases hlt : k < s.size
    · have hsl := size_list s
      have hdrop : s.data.toList.drop k = s[k]'hlt :: s.data.toList.drop (k + 1) := by
        rw [List.drop_eq_getElem_cons (by omega)]; rfl
      rw [hdrop, setN_cons] at he
      split at he
      · rename_i hc
        simp only [Bool.and_eq_true] at hc
        have hl := (isLet_iff _).1 hc.1
        have hlt2 : acc ||| 2 ^ ((s[k]'hlt).toNat - 97) < 256 := Nat.or_lt_two_pow (n := 8) hacc (Nat.pow_lt_pow_right (by omega) (by omega))
        have hor := orShl acc ((s[k]'hlt).toNat - 97) hacc (by omega)
        have HOR := Lib.hid hor
        have HE := Lib.hid he
        obtain ⟨hl1, hl2⟩ := hl
        clear he hdrop hc hor hsl
        go_wp2_with fail
        go_round
        case rel => exact ⟨k + 1, _, _, by omega, by go_num, by rw [HOR.out], hlt2, HE.out⟩
        case measure => simp [intOf]; omega
      · cases he
    · obtain rfl : k = s.size := by omega
      rw [List.drop_of_length_le (by rw [size_list]; omega)] at he
      have : acc = m := by simpa [setN] using he
      subst this
      clear he
      go_wp2
      go_ret
      exact ⟨rfl, rfl⟩
end Go.Proofs.Ytfoeamgjjhfkdaa
