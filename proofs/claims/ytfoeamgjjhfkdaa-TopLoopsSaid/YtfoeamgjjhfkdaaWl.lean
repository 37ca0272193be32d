/- The laws' helpers over texts: in, part, meets. -/
import Derived.Test.YtfoeamgjjhfkdaaNf
import Derived.Test.YtfoeamgjjhfkdaaRl
namespace Go.Proofs.Ytfoeamgjjhfkdaa
open Go Go.Shelf Go.RowKit Go.Proofs L9

theorem getD_byte (T : ByteArray) (k : Nat) (hk : k < T.size) : T.data.toList.take (k + 1) = T.data.toList.take k ++ [T[k]'hk] := by
  rw [List.take_succ_eq_append_getElem (by rw [size_list]; exact hk)]
  rfl

set_option maxHeartbeats 1000000 in
theorem in_any (s : ByteArray) (b : UInt8) (w : World) (hs : s.size ≤ 100000) :
    Calls Try.prog 67 #[.string s, .int .u8 b.toNat] w fun e w' => e = .returned (.bool (inS s.data.toList b)) ∧ w' = w := by
  have h0 : inS s.data.toList b = (s.data.toList.take s.size).any (· == b) := by rw [← size_list, List.take_length]; rfl
  rw [h0]
  clear h0
  generalize hz : (s.data.toList.take s.size).any (· == b) = z
  have HZ := Lib.hid hz
  clear hz
  go_enter Try.func67, Try.ntmps67
  go_wp2_with fail
  go_loop [5] (fun i => ∃ k : Nat, k ≤ s.size ∧ i = .int .i64 k ∧ (s.data.toList.take k).any (· == b) = false) (fun i => s.size - (intOf i).toNat)
  case atStart => exact ⟨0, by omega, rfl, rfl⟩
  case round =>
    obtain ⟨k, hk, rfl, hno⟩ := hrel
    have HNO := Lib.hid hno
    clear hno
    by_cases hlt : k < s.size
    · have HT := Lib.hid (getD_byte s k hlt)
      by_cases hx : s[k]'hlt = b
      · have h1 : (((s[k]'hlt).toNat : Int) == (b.toNat : Int)) = true := by rw [hx]; simp
        have hzz : z = true := by
          rw [← HZ.out, List.any_eq_true]
          have hm : s[k]'hlt ∈ s.data.toList := by
            have : s[k]'hlt = s.data.toList[k]'(by rw [size_list]; exact hlt) := rfl
            rw [this]
            exact List.getElem_mem _
          exact ⟨s[k]'hlt, by rw [← size_list, List.take_length]; exact hm, by simpa using hx⟩
        have HZZ := Lib.hid hzz
        clear hx hzz HZ
        go_wp2_with fail
        go_ret
        exact ⟨by rw [HZZ.out]; rfl, rfl⟩
      · have h1 : (((s[k]'hlt).toNat : Int) == (b.toNat : Int)) = false := by
          rw [beq_eq_false_iff_ne]
          intro h
          exact hx (UInt8.toNat_inj.1 (by omega))
        have hx2 : (s[k]'hlt == b) = false := by simpa using hx
        have hst : (s.data.toList.take (k + 1)).any (· == b) = false := by
          rw [HT.out, List.any_append, HNO.out]
          simp [hx2]
        have HST := Lib.hid hst
        clear hx hx2 hst
        go_wp2_with fail
        go_round
        case rel => exact ⟨k + 1, by omega, by go_num, HST.out⟩
        case measure => simp [intOf]; omega
    · obtain rfl : k = s.size := by omega
      rw [HZ.out] at HNO
      have HNO2 : Hid (z = false) := HNO
      go_wp2_with fail
      go_ret
      exact ⟨by rw [HNO2.out]; rfl, rfl⟩

theorem getD_mem (l : List (List UInt8)) (k : Nat) (hk : k < l.length) : l.getD k [] ∈ l := by
  rw [List.getD_eq_getElem?_getD, List.getElem?_eq_getElem hk]
  exact List.getElem_mem _

set_option maxHeartbeats 4000000 in
set_option maxRecDepth 100000 in
theorem partS_any (v : Value) (l : List (List UInt8)) (s : ByteArray) (w : World) (hv : StrsR w v l) (hl : l.length ≤ 1000) (ht : ∀ t ∈ l, t.length ≤ 1000) (hs : s.size ≤ 100000) :
    Calls Try.prog 26 #[v, .string s] w fun e w' => e = .returned (.bool (partS l s.data.toList)) ∧ w' = w := by
  generalize hz : partS l s.data.toList = z
  have HZ := Lib.hid hz
  clear hz
  obtain ⟨a, cap, rfl, hc⟩ := hv.form
  have HC := Lib.hid hc
  have HT := Lib.hid ht
  clear hc ht hv
  generalize hN : l.length = N at *
  have HN := Lib.hid hN
  clear hN
  go_enter Try.func26, Try.ntmps26
  go_wp2_with fail
  go_loop [5, 6, 7] (fun i _ _ => ∃ k : Nat, k ≤ N ∧ i = .int .i64 k ∧ ∀ j, j < k → (l.getD j []).all (inS s.data.toList) = false) (fun i _ _ => N - (intOf i).toNat)
  case atStart => exact ⟨0, by omega, rfl, fun j hj => by omega⟩
  case round =>
    obtain ⟨k, hk, rfl, hno⟩ := hrel
    have HNO := Lib.hid hno
    clear hno
    by_cases hlt : k < N
    · obtain ⟨g, rfl, hcell⟩ := HC.out k hlt
      have hmem := getD_mem l k (by rw [HN.out]; exact hlt)
      have htl := HT.out _ hmem
      have hyes : (l.getD k []).all (inS s.data.toList) = true → z = true := by
        intro h
        rw [← HZ.out]
        unfold partS
        rw [List.any_eq_true]
        exact ⟨_, hmem, h⟩
      have hnx : (l.getD k []).all (inS s.data.toList) = false → ∀ j, j < k + 1 → (l.getD j []).all (inS s.data.toList) = false := by
        intro h j hj
        rcases Nat.lt_or_ge j k with h' | h'
        · exact HNO.out j h'
        · obtain rfl : j = k := by omega
          exact h
      have HYES := Lib.hid hyes
      have HNX := Lib.hid hnx
      clear hyes hnx hmem
      generalize l.getD k [] = t at *
      have hts := bsize t
      have htd : (⟨t.toArray⟩ : ByteArray).data.toList = t := rfl
      generalize (⟨t.toArray⟩ : ByteArray) = T at *
      subst htd
      rw [← hts] at htl
      clear hts
      go_wp2_with fail
      go_loop [6, 7] (fun al i => ∃ m : Nat, m ≤ T.size ∧ i = .int .i64 m ∧ al = .bool ((T.data.toList.take m).all (inS s.data.toList))) (fun _ i => T.size - (intOf i).toNat)
      case atStart => exact ⟨0, by omega, rfl, rfl⟩
      case round =>
        obtain ⟨m, hm, rfl, rfl⟩ := hrel
        by_cases hlt2 : m < T.size
        · have HTK := Lib.hid (getD_byte T m hlt2)
          have HIN := Lib.hid (fun W => in_any s (T[m]'hlt2) W hs)
          have hsu : (T.data.toList.take (m + 1)).all (inS s.data.toList) = ((T.data.toList.take m).all (inS s.data.toList) && inS s.data.toList (T[m]'hlt2)) := by
            rw [HTK.out, List.all_append]
            simp
          have HSU := Lib.hid hsu
          clear hsu
          generalize (T.data.toList.take m).all (inS s.data.toList) = al at *
          generalize inS s.data.toList (T[m]'hlt2) = ib at *
          cases al with
          | true =>
            go_wp2_with fail
            refine (HIN.out _).mono ?_
            rintro e w1 ⟨rfl, rfl⟩
            go_wp2_with fail
            go_round
            case rel => exact ⟨m + 1, by omega, by go_num, by rw [HSU.out]; rfl⟩
            case measure => simp [intOf]; omega
          | false =>
            go_wp2_with fail
            go_round
            case rel => exact ⟨m + 1, by omega, by go_num, by rw [HSU.out]; rfl⟩
            case measure => simp [intOf]; omega
        · obtain rfl : m = T.size := by omega
          have hfull : (T.data.toList.take T.size).all (inS s.data.toList) = T.data.toList.all (inS s.data.toList) := by rw [← size_list, List.take_length]
          rw [hfull]
          clear hfull
          generalize T.data.toList.all (inS s.data.toList) = al at *
          cases al with
          | true =>
            have HZZ := Lib.hid (HYES.out rfl)
            go_wp2_with fail
            go_ret
            exact ⟨by rw [HZZ.out]; rfl, rfl⟩
          | false =>
            have HNX2 := Lib.hid (HNX.out rfl)
            go_wp2_with fail
            go_round
            case rel => exact ⟨k + 1, by omega, by go_num, HNX2.out⟩
            case measure => simp [intOf]; omega
    · obtain rfl : k = N := by omega
      have hzz : z = false := by
        rw [← HZ.out]
        unfold partS
        rw [List.any_eq_false]
        intro t ht
        obtain ⟨j, hj, rfl⟩ := List.mem_iff_getElem.1 ht
        have := HNO.out j (by rw [← HN.out]; exact hj)
        rw [List.getD_eq_getElem?_getD, List.getElem?_eq_getElem hj] at this
        simpa using this
      have HZZ := Lib.hid hzz
      clear hzz
      go_wp2_with fail
      go_ret
      exact ⟨by rw [HZZ.out]; rfl, rfl⟩

set_option maxHeartbeats 4000000 in
set_option maxRecDepth 100000 in
theorem meets_any (v : Value) (l : List (List UInt8)) (s : ByteArray) (w : World) (hv : StrsR w v l) (hl : l.length ≤ 1000) (ht : ∀ t ∈ l, t.length ≤ 1000) (hs : s.size ≤ 100000) :
    Calls Try.prog 27 #[v, .string s] w fun e w' => e = .returned (.bool (meetsS l s.data.toList)) ∧ w' = w := by
  generalize hz : meetsS l s.data.toList = z
  have HZ := Lib.hid hz
  clear hz
  obtain ⟨a, cap, rfl, hc⟩ := hv.form
  have HC := Lib.hid hc
  have HT := Lib.hid ht
  clear hc ht hv
  generalize hN : l.length = N at *
  have HN := Lib.hid hN
  clear hN
  go_enter Try.func27, Try.ntmps27
  go_wp2_with fail
  go_loop [5, 6, 7] (fun i _ _ => ∃ k : Nat, k ≤ N ∧ i = .int .i64 k ∧ ∀ j, j < k → (l.getD j []).any (inS s.data.toList) = true) (fun i _ _ => N - (intOf i).toNat)
  case atStart => exact ⟨0, by omega, rfl, fun j hj => by omega⟩
  case round =>
    obtain ⟨k, hk, rfl, hno⟩ := hrel
    have HNO := Lib.hid hno
    clear hno
    by_cases hlt : k < N
    · obtain ⟨g, rfl, hcell⟩ := HC.out k hlt
      have hmem := getD_mem l k (by rw [HN.out]; exact hlt)
      have htl := HT.out _ hmem
      have hyes : (l.getD k []).any (inS s.data.toList) = false → z = false := by
        intro h
        rw [← HZ.out]
        unfold meetsS
        rw [List.all_eq_false]
        exact ⟨_, hmem, by rw [h]; simp⟩
      have hnx : (l.getD k []).any (inS s.data.toList) = true → ∀ j, j < k + 1 → (l.getD j []).any (inS s.data.toList) = true := by
        intro h j hj
        rcases Nat.lt_or_ge j k with h' | h'
        · exact HNO.out j h'
        · obtain rfl : j = k := by omega
          exact h
      have HYES := Lib.hid hyes
      have HNX := Lib.hid hnx
      clear hyes hnx hmem
      generalize l.getD k [] = t at *
      have hts := bsize t
      have htd : (⟨t.toArray⟩ : ByteArray).data.toList = t := rfl
      generalize (⟨t.toArray⟩ : ByteArray) = T at *
      subst htd
      rw [← hts] at htl
      clear hts
      go_wp2_with fail
      go_loop [6, 7] (fun al i => ∃ m : Nat, m ≤ T.size ∧ i = .int .i64 m ∧ al = .bool ((T.data.toList.take m).any (inS s.data.toList))) (fun _ i => T.size - (intOf i).toNat)
      case atStart => exact ⟨0, by omega, rfl, rfl⟩
      case round =>
        obtain ⟨m, hm, rfl, rfl⟩ := hrel
        by_cases hlt2 : m < T.size
        · have HTK := Lib.hid (getD_byte T m hlt2)
          have HIN := Lib.hid (fun W => in_any s (T[m]'hlt2) W hs)
          have hsu : (T.data.toList.take (m + 1)).any (inS s.data.toList) = ((T.data.toList.take m).any (inS s.data.toList) || inS s.data.toList (T[m]'hlt2)) := by
            rw [HTK.out, List.any_append]
            simp
          have HSU := Lib.hid hsu
          clear hsu
          generalize (T.data.toList.take m).any (inS s.data.toList) = al at *
          generalize inS s.data.toList (T[m]'hlt2) = ib at *
          cases al with
          | false =>
            go_wp2_with fail
            refine (HIN.out _).mono ?_
            rintro e w1 ⟨rfl, rfl⟩
            go_wp2_with fail
            go_round
            case rel => exact ⟨m + 1, by omega, by go_num, by rw [HSU.out]; rfl⟩
            case measure => simp [intOf]; omega
          | true =>
            go_wp2_with fail
            go_round
            case rel => exact ⟨m + 1, by omega, by go_num, by rw [HSU.out]; rfl⟩
            case measure => simp [intOf]; omega
        · obtain rfl : m = T.size := by omega
          have hfull : (T.data.toList.take T.size).any (inS s.data.toList) = T.data.toList.any (inS s.data.toList) := by rw [← size_list, List.take_length]
          rw [hfull]
          clear hfull
          generalize T.data.toList.any (inS s.data.toList) = al at *
          cases al with
          | false =>
            have HZZ := Lib.hid (HYES.out rfl)
            go_wp2_with fail
            go_ret
            exact ⟨by rw [HZZ.out]; rfl, rfl⟩
          | true =>
            have HNX2 := Lib.hid (HNX.out rfl)
            go_wp2_with fail
            go_round
            case rel => exact ⟨k + 1, by omega, by go_num, HNX2.out⟩
            case measure => simp [intOf]; omega
    · obtain rfl : k = N := by omega
      have hzz : z = true := by
        rw [← HZ.out]
        unfold meetsS
        rw [List.all_eq_true]
        intro t ht
        obtain ⟨j, hj, rfl⟩ := List.mem_iff_getElem.1 ht
        have := HNO.out j (by rw [← HN.out]; exact hj)
        rw [List.getD_eq_getElem?_getD, List.getElem?_eq_getElem hj] at this
        simpa using this
      have HZZ := Lib.hid hzz
      clear hzz
      go_wp2_with fail
      go_ret
      exact ⟨by rw [HZZ.out]; rfl, rfl⟩
end Go.Proofs.Ytfoeamgjjhfkdaa
