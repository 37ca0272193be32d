/- The laws' helpers: choose, without. -/
import Derived.Test.YtfoeamgjjhfkdaaNe
import Derived.Test.YtfoeamgjjhfkdaaRl
namespace Go.Proofs.Ytfoeamgjjhfkdaa
open Go Go.Shelf Go.RowKit Go.Proofs L9

theorem C8_le (k : Nat) : C8 k ≤ 70 := by
  unfold C8
  match k with
  | 0 => decide
  | 1 => decide
  | 2 => decide
  | 3 => decide
  | 4 => decide
  | 5 => decide
  | 6 => decide
  | 7 => decide
  | 8 => decide
  | k + 9 => simp
theorem C8_step (i : Nat) (hi : i < 8) : (C8 i : Int) * (8 - (i : Int)) = ((C8 i * (8 - i) : Nat) : Int) ∧ ((C8 i * (8 - i) : Nat) : Int) / ((i : Int) + 1) = (C8 (i + 1) : Nat) ∧ C8 i * (8 - i) ≤ 560 := by
  revert hi
  revert i
  decide +kernel

set_option maxHeartbeats 1000000 in
theorem choose_any (k : Nat) (hk : k ≤ 8) (w : World) :
    Calls Try.prog 33 #[.int .i64 k] w fun e w' => e = .returned (.int .i64 (C8 k : Nat)) ∧ w' = w := by
  go_enter Try.func33, Try.ntmps33
  go_wp2_with fail
  go_loop [3, 4] (fun o i => ∃ m : Nat, m ≤ k ∧ i = .int .i64 m ∧ o = .int .i64 (C8 m : Nat)) (fun _ i => k - (intOf i).toNat)
  case atStart => exact ⟨0, by omega, rfl, rfl⟩
  case round =>
    obtain ⟨m, hm, rfl, rfl⟩ := hrel
    by_cases hlt : m < k
    · obtain ⟨h1, h2, h3⟩ := C8_step m (by omega)
      have h4 := C8_le (m + 1)
      generalize hb : C8 (m + 1) = b at *
      have HBB := Lib.hid hb
      clear hb
      generalize C8 m * (8 - m) = q at *
      generalize C8 m = a at *
      have H2 := Lib.hid h2
      clear h2
      go_wp2_with fail
      go_round
      case rel => exact ⟨m + 1, by omega, by go_num, by rw [H2.out, HBB.out, show wrap64 (b : Int) = b by unfold wrap64; omega]⟩
      case measure => simp [intOf]; omega
    · obtain rfl : m = k := by omega
      go_wp2_with fail
      go_ret
      exact ⟨rfl, rfl⟩

theorem drop_at2 (s : ByteArray) (k : Nat) (h : k < s.size) : s.data.toList.drop k = s[k]'h :: s.data.toList.drop (k + 1) := by
  rw [List.drop_eq_getElem_cons (by have := size_list s; omega)]; rfl
theorem take_filter (s : ByteArray) (k : Nat) (h : k < s.size) (b : UInt8) : (s.data.toList.take (k + 1)).filter (· != b) = if s[k]'h != b then (s.data.toList.take k).filter (· != b) ++ [s[k]'h] else (s.data.toList.take k).filter (· != b) := by
  have hk : k < s.data.toList.length := by rw [size_list]; exact h
  have e : s.data.toList[k] = s[k]'h := rfl
  rw [List.take_succ_eq_append_getElem hk, List.filter_append, e]
  cases hx : (s[k]'h != b) with
  | true => simp [hx]
  | false => simp [hx]

set_option maxHeartbeats 1000000 in
theorem without_any (s : ByteArray) (b : UInt8) (w : World) (hs : s.size ≤ 100000) :
    Calls Try.prog 53 #[.string s, .int .u8 b.toNat] w fun e w' => e = .returned (.string ⟨(s.data.toList.filter (· != b)).toArray⟩) ∧ w' = w := by
  go_enter Try.func53, Try.ntmps53
  go_wp2_with fail
  go_loop [5, 6] (fun o i => ∃ (k : Nat) (S : ByteArray), k ≤ s.size ∧ i = .int .i64 k ∧ o = .string S ∧ S.size ≤ k ∧ S.data.toList = (s.data.toList.take k).filter (· != b)) (fun _ i => s.size - (intOf i).toNat)
  case atStart => exact ⟨0, _, by omega, rfl, rfl, by decide, by simp⟩
  case round =>
    obtain ⟨k, S, hk, rfl, rfl, hsz, hS⟩ := hrel
    have HS := Lib.hid hS
    clear hS
    by_cases hlt : k < s.size
    · have HT := Lib.hid (take_filter s k hlt b)
      have hex : (s.extract k (k + 1)).data.toList = [s[k]'hlt] := by
        rw [Lib.extract_data, drop_at2 s k hlt, show k + 1 - k = 1 by omega]
        rfl
      have hes : (s.extract k (k + 1)).size = 1 := by rw [← size_list, hex]; rfl
      have HEX := Lib.hid hex
      clear hex
      by_cases hx : s[k]'hlt = b
      · have h1 : (((s[k]'hlt).toNat : Int) == (b.toNat : Int)) = true := by rw [hx]; simp
        have h2 : (s[k]'hlt != b) = false := by simp [hx]
        rw [h2] at HT
        clear hx h2
        go_wp2_with fail
        go_round
        case rel => exact ⟨k + 1, S, by omega, by go_num, rfl, by omega, by rw [HT.out]; exact HS.out⟩
        case measure => simp [intOf]; omega
      · have h1 : (((s[k]'hlt).toNat : Int) == (b.toNat : Int)) = false := by
          rw [beq_eq_false_iff_ne]
          intro h
          exact hx (UInt8.toNat_inj.1 (by omega))
        have h2 : (s[k]'hlt != b) = true := by simpa using hx
        rw [h2] at HT
        clear hx h2
        go_wp2_with fail
        go_round
        case rel => exact ⟨k + 1, _, by omega, by go_num, rfl, by rw [ByteArray.size_append]; omega, by rw [ba_append, HS.out, HEX.out, HT.out]; rfl⟩
        case measure => simp [intOf]; omega
    · obtain rfl : k = s.size := by omega
      rw [List.take_of_length_le (by rw [size_list]; exact Nat.le_refl _)] at HS
      go_wp2_with fail
      go_ret
      obtain rfl : S = ⟨(s.data.toList.filter (· != b)).toArray⟩ := ba_ext (by rw [HS.out])
      exact ⟨rfl, rfl⟩
end Go.Proofs.Ytfoeamgjjhfkdaa
