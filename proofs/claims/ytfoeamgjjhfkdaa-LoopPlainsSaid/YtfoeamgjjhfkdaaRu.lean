/- The reference's sums, added. -/
import Derived.Test.YtfoeamgjjhfkdaaRt
namespace Go.Proofs.Ytfoeamgjjhfkdaa
open Go Go.Shelf Go.RowKit Go.Proofs L9

theorem drop_cons {s : ByteArray} {k : Nat} {x : UInt8} {r : List UInt8} (h : s.data.toList.drop k = x :: r) : ∃ hk : k < s.size, s[k]'hk = x ∧ s.data.toList.drop (k + 1) = r := by
  have hk : k < s.size := by
    rcases Nat.lt_or_ge k s.size with h' | h'
    · exact h'
    · rw [List.drop_of_length_le (by rw [size_list]; exact h')] at h; cases h
  rw [drop_at s k hk] at h
  injection h with h1 h2
  exact ⟨hk, h1, h2⟩
theorem drop_nil {s : ByteArray} {k : Nat} (hk : k ≤ s.size) (h : s.data.toList.drop k = []) : k = s.size := by
  rcases Nat.lt_or_ge k s.size with h' | h'
  · rw [drop_at s k h'] at h; cases h
  · omega
theorem drop_app {s : ByteArray} {k : Nat} {a r : List UInt8} (h : s.data.toList.drop k = a ++ r) : s.data.toList.drop (k + a.length) = r := by
  rw [← List.drop_drop, h, List.drop_left]
theorem drop_le {s : ByteArray} {k : Nat} {a r : List UInt8} (h : s.data.toList.drop k = a ++ r) (hk : k ≤ s.size) : k + a.length ≤ s.size := by
  have := congrArg List.length h
  rw [List.length_drop, size_list, List.length_append] at this
  omega
theorem let_test (i : Nat) (hi : i < 8) : ((UInt8.ofNat (97 + i)).toNat : Int) = 97 + i := by
  revert hi; revert i; decide

set_option maxHeartbeats 2000000 in
theorem refSums (s : ByteArray) (c : List (List Part)) (h0 : c ≠ []) (h : okC c) (hc : s.data.toList = txtC c) (w : World) (hs : s.size ≤ 100000) :
    Calls Try.prog 104 #[.string s] w fun e w' => e = .returned (.bool (decide (2 ≤ c.length))) ∧ w' = w := by
  obtain ⟨b0, c', rfl⟩ : ∃ b c', c = b :: c' := by
    cases c with
    | nil => exact absurd rfl h0
    | cons b c' => exact ⟨b, c', rfl⟩
  have hall : s.data.toList.drop 0 = txtB b0 ++ txtM c' := by rw [List.drop_zero, hc, txtC_cons]
  have hcl : decide (2 ≤ (b0 :: c').length) = decide (c' ≠ []) := by
    rw [decide_eq_decide]
    cases c' <;> simp
  rw [hcl]
  have HALL := Lib.hid hall
  have HOK := Lib.hid h
  clear hall hcl hc h h0
  generalize hz : decide (c' ≠ []) = z
  have HZ := Lib.hid hz
  clear hz
  go_enter Try.func104, Try.ntmps104
  go_wp2_with fail
  go_loop [3] (fun i => ∃ (k : Nat) (b : List Part), k ≤ s.size ∧ i = .int .i64 k ∧ okB b ∧ s.data.toList.drop k = txtB b ++ txtM c') (fun i => s.size - (intOf i).toNat)
  case atStart => exact ⟨0, b0, by omega, rfl, HOK.out.1.2, HALL.out⟩
  case round =>
    obtain ⟨k, b, hk, rfl, hb, hd⟩ := hrel
    cases b with
    | nil =>
      cases c' with
      | nil =>
        obtain rfl := drop_nil hk (by rw [hd]; rfl)
        have hzz : z = false := by rw [← HZ.out]; rfl
        subst hzz
        clear hd HALL HZ
        go_wp2
        go_ret
        exact ⟨rfl, rfl⟩
      | cons b' c' =>
        have hd2 : s.data.toList.drop k = 43 :: (txtB b' ++ txtM c') := by rw [hd]; simp [txtB, txtM]
        obtain ⟨hlt, hx, _⟩ := drop_cons hd2
        have hx2 : ((s[k]'hlt).toNat : Int) = 43 := by rw [hx]; rfl
        have hzz : z = true := by rw [← HZ.out]; rfl
        subst hzz
        clear hd hd2 HALL HZ hx
        go_wp2
        go_ret
        exact ⟨rfl, rfl⟩
    | cons p b =>
      cases p with
      | letter i =>
        have hi : i < 8 := hb.1
        have hd2 : s.data.toList.drop k = UInt8.ofNat (97 + i) :: (txtB b ++ txtM c') := by rw [hd]; simp [txtB, Part.txt]
        obtain ⟨hlt, hx, hd3⟩ := drop_cons hd2
        have hx2 : ((s[k]'hlt).toNat : Int) = 97 + i := by rw [hx]; exact let_test i hi
        have HD := Lib.hid hd3
        have HB := Lib.hid hb.2
        clear hd hd2 hd3 HALL HZ hx hb
        go_wp2
        go_round
        case rel => exact ⟨k + 1, b, by omega, by go_num, HB.out, HD.out⟩
        case measure => simp [intOf]; omega
      | circ c1 =>
        have hok1 : okC c1 := hb.1.2
        have hd2 : s.data.toList.drop k = 40 :: (txtC c1 ++ (41 :: (txtB b ++ txtM c'))) := by rw [hd]; simp [txtB, Part.txt]
        obtain ⟨hlt, hx, hd3⟩ := drop_cons hd2
        have hx2 : ((s[k]'hlt).toNat : Int) = 40 := by rw [hx]; rfl
        have hcl := refClosing s k w hk hs
        rw [hd2, close_circ c1 hok1] at hcl
        have hd4 := drop_app hd3
        obtain ⟨hlt5, _, hd5⟩ := drop_cons hd4
        have hle : k + ((txtC c1).length + 1) < s.size := by omega
        have hd6 : s.data.toList.drop (k + ((txtC c1).length + 1) + 1) = txtB b ++ txtM c' := by rw [← hd5]; congr 1; omega
        have hkK : k < k + ((txtC c1).length + 1) + 1 := by omega
        generalize k + ((txtC c1).length + 1) = K at *
        have HD := Lib.hid hd6
        have HB := Lib.hid hb.2
        have HCL := Lib.hid hcl
        clear hd hd2 hd3 hd4 hd5 hd6 HALL HZ hx hb hcl
        go_wp2_with fail
        refine HCL.out.mono ?_
        rintro e w1 ⟨rfl, rfl⟩
        go_wp2
        go_round
        case rel => exact ⟨K + 1, b, by omega, by go_num, HB.out, HD.out⟩
        case measure => simp [intOf]; omega

def addT (a b : List UInt8) : List UInt8 := if a = [] then b else a ++ 43 :: b
theorem refAdded (a b : List UInt8) (w : World) (ha : a.length ≤ 100000) (hb : b.length ≤ 100000) :
    Calls Try.prog 103 #[.string ⟨a.toArray⟩, .string ⟨b.toArray⟩] w fun e w' => e = .returned (.string ⟨(addT a b).toArray⟩) ∧ w' = w := by
  have hs := bsize a
  have hs2 := bsize b
  by_cases h : a = []
  · have hz : addT a b = b := by unfold addT; rw [if_pos h]
    rw [hz]
    clear hz
    subst h
    go_enter Try.func103, Try.ntmps103
    go_wp2
    go_ret
    exact ⟨rfl, rfl⟩
  · have hz : addT a b = a ++ 43 :: b := by unfold addT; rw [if_neg h]
    rw [hz]
    have hcat : (ByteArray.mk a.toArray ++ ByteArray.mk #[43] ++ ByteArray.mk b.toArray) = ⟨(a ++ 43 :: b).toArray⟩ := ba_ext (by rw [ba_append, ba_append]; simp)
    have hne : ((ByteArray.mk a.toArray).toList == []) = false := by
      rw [ByteArray.toList_eq, beq_eq_false_iff_ne]
      exact h
    have hne2 : (ByteArray.mk a.toArray).toList.isEmpty = false := by
      rw [ByteArray.toList_eq]
      cases a with
      | nil => exact absurd rfl h
      | cons x r => rfl
    rw [← hcat]
    clear hcat hz h
    generalize (ByteArray.mk a.toArray) = A at *
    generalize (ByteArray.mk b.toArray) = B at *
    go_enter Try.func103, Try.ntmps103
    go_wp2
    go_ret
    exact ⟨rfl, rfl⟩
end Go.Proofs.Ytfoeamgjjhfkdaa
