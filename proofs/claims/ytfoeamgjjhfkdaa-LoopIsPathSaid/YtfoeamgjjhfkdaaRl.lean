/- The laws' own helpers: Long, SameTexts, First. -/
import Derived.Test.YtfoeamgjjhfkdaaRk
namespace Go.Proofs.Ytfoeamgjjhfkdaa
open Go Go.Shelf Go.RowKit Go.Proofs L9

theorem long_any (a b : ByteArray) (w : World) (ha : a.size ≤ maxLen) (hb : b.size ≤ maxLen) :
    Calls Try.prog 14 #[.string a, .string b] w fun e w' => e = .returned (.bool (decide (200 < a.size ∨ 200 < b.size))) ∧ w' = w := by
  unfold maxLen at ha hb
  by_cases h1 : 200 < a.size
  · go_enter Try.func14, Try.ntmps14
    go_wp2
    go_ret
    exact ⟨by simp, rfl⟩
  · by_cases h2 : 200 < b.size
    · go_enter Try.func14, Try.ntmps14
      go_wp2
      go_ret
      exact ⟨by rw [decide_eq_true (show 200 < a.size ∨ 200 < b.size from Or.inr h2)]; simp; exact Or.inr (by omega), rfl⟩
    · go_enter Try.func14, Try.ntmps14
      go_wp2
      go_ret
      exact ⟨by simp [h1, h2]; try omega, rfl⟩

/-- what a slice of texts gives a reader -/
theorem StrsR.form {w : World} {v : Value} {l : List (List UInt8)} (h : StrsR w v l) : ∃ a cap, v = .slice a l.length cap ∧ ∀ j, j < l.length → ∃ g, a = some ⟨g, 0, none⟩ ∧ w.cell? ⟨g, j, none⟩ = some (.string ⟨(l.getD j []).toArray⟩) := by
  rcases h with ⟨rfl, rfl⟩ | ⟨g, cap, rfl, _, _, hc⟩
  · exact ⟨none, 0, rfl, fun j hj => by simp at hj⟩
  · exact ⟨_, cap, rfl, fun j hj => ⟨g, rfl, hc j hj⟩⟩

set_option maxHeartbeats 2000000 in
theorem sameTexts_any (u v : Value) (la lb : List (List UInt8)) (w : World) (hu : StrsR w u la) (hv : StrsR w v lb) (_hla : la.length ≤ 1000000) (hlb : lb.length ≤ 1000000) :
    Calls Try.prog 20 #[u, v] w fun e w' => e = .returned (.bool (decide (la = lb))) ∧ ∃ n, w' = w.drewN n := by
  obtain ⟨a, ca, rfl, ha⟩ := hu.form
  obtain ⟨b, cb, rfl, hb⟩ := hv.form
  have HA := Lib.hid ha
  have HB := Lib.hid hb
  clear ha hb hu hv
  by_cases hlen : la.length = lb.length
  · have HEX : Hid (∀ k, k < lb.length → la.getD k [] ≠ lb.getD k [] → decide (la = lb) = false) := by
      intro k hk hne
      apply decide_eq_false
      rintro rfl
      exact hne rfl
    have HALL : Hid ((∀ k, k < lb.length → la.getD k [] = lb.getD k []) → decide (la = lb) = true) := by
      intro h
      apply decide_eq_true
      apply List.ext_getElem hlen
      intro i h1 h2
      have := h i (by omega)
      simp [List.getD_eq_getElem?_getD, List.getElem?_eq_getElem h1, List.getElem?_eq_getElem h2] at this
      exact this
    rw [hlen] at HA ⊢
    clear hlen _hla
    generalize hz : decide (la = lb) = z at *
    clear hz
    generalize lb.length = L at *
    go_enter Try.func20, Try.ntmps20
    go_wp2
    go_loopw [5] (fun i wr => ∃ k n : Nat, k ≤ L ∧ i = .int .i64 k ∧ wr = w.drewN n ∧ ∀ j, j < k → la.getD j [] = lb.getD j []) (fun i _ => L - (intOf i).toNat)
    case atStart => exact ⟨0, 0, by omega, rfl, rfl, fun j hj => by omega⟩
    case round =>
      obtain ⟨k, n, hk, rfl, rfl, hsame⟩ := hrel
      by_cases hlt : k < L
      · obtain ⟨g, rfl, hc⟩ := HA.out k hlt
        obtain ⟨g', rfl, hc'⟩ := HB.out k (by omega)
        have hiff : (⟨(la.getD k []).toArray⟩ : ByteArray) = ⟨(lb.getD k []).toArray⟩ ↔ la.getD k [] = lb.getD k [] := by simp
        generalize hx : (⟨(la.getD k []).toArray⟩ : ByteArray) = x at *
        generalize hy : (⟨(lb.getD k []).toArray⟩ : ByteArray) = y at *
        have HSAME := Lib.hid hsame
        have HIFF := Lib.hid hiff
        clear hx hy hsame hiff
        by_cases hxy : x = y
        · subst hxy
          have he := HIFF.out.1 rfl
          have HE := Lib.hid he
          clear he
          go_wp2_with fail
          go_quiet (fail)
          go_wp2_with fail
          go_roundw
          case rel => exact ⟨k + 1, n + nq, by omega, by go_num, rfl, fun j hj => by
            rcases Nat.lt_or_ge j k with h | h
            · exact HSAME.out j h
            · obtain rfl : j = k := by omega
              exact HE.out⟩
          case measure => simp [intOf]; omega
        · have hz := HEX.out k hlt (fun h => hxy (HIFF.out.2 h))
          subst hz
          have hne : (x.toList == y.toList) = false := by
            rw [ByteArray.toList_eq, ByteArray.toList_eq, beq_eq_false_iff_ne]
            exact fun h => hxy (ba_ext h)
          clear HIFF
          go_wp2_with fail
          go_quiet (fail)
          go_wp2_with fail
          go_ret
          exact ⟨rfl, _, by first | rfl | rw [World.drewN_drewN]⟩
      · obtain rfl : k = L := by omega
        have hz := HALL.out hsame
        subst hz
        clear HALL HEX hsame
        go_wp2
        go_ret
        exact ⟨rfl, _, rfl⟩
  · have hz : decide (la = lb) = false := decide_eq_false (fun h => hlen (by rw [h]))
    rw [hz]
    clear hz
    go_enter Try.func20, Try.ntmps20
    go_wp2
    go_ret
    exact ⟨rfl, 0, rfl⟩

theorem first_paths : pathsOf [97, 40, 98, 43, 99, 41] = some [[97, 98], [97, 99]] := by decide +kernel
theorem first_cuts : cutsOf [97, 40, 98, 43, 99, 41] = some [[97], [98, 99]] := by decide +kernel
theorem first_dual : dualOf [97, 40, 98, 43, 99, 41] = ([97, 43, 98, 99], 0) := by decide +kernel

theorem strsAt_new (w : World) (a b : List UInt8) : StrsR (w.alloc (.cells #[.string ⟨a.toArray⟩, .string ⟨b.toArray⟩] 9)) (.slice (some ⟨w.heap.size, 0, none⟩) 2 2) [a, b] := by
  refine Or.inr ⟨w.heap.size, 2, rfl, by simp, by simp, fun j hj => ?_⟩
  rw [Lib.cell_of_heap (alloc_last w (.cells #[.string ⟨a.toArray⟩, .string ⟨b.toArray⟩] 9))]
  match j, hj with
  | 0, _ => rfl
  | 1, _ => rfl

set_option maxHeartbeats 2000000 in
theorem first_any (w : World) : Calls Try.prog 15 #[] w fun e w' => e = .returned (.bool true) ∧ Below w.heap.size w w' := by
  have HP := Lib.hid (fun W => paths_any ⟨#[97, 40, 98, 43, 99, 41]⟩ W (by decide))
  have HC := Lib.hid (fun W => cuts_any ⟨#[97, 40, 98, 43, 99, 41]⟩ W (by decide))
  have HD := Lib.hid (fun W => dual_any ⟨#[97, 40, 98, 43, 99, 41]⟩ W (by decide))
  rw [show (⟨#[97, 40, 98, 43, 99, 41]⟩ : ByteArray).data.toList = [97, 40, 98, 43, 99, 41] from rfl] at HP HC HD
  rw [first_paths] at HP
  rw [first_cuts] at HC
  rw [first_dual] at HD
  go_enter Try.func15, Try.ntmps15
  go_wp2_with fail
  refine (HP.out _).mono ?_
  rintro e w1 ⟨hb1, u, rfl, hu⟩
  have HU1 := Lib.hid hu
  clear hu
  go_wp2_with fail
  refine (HC.out _).mono ?_
  rintro e w2 ⟨hb2, v, rfl, hv⟩
  have HU2 := Lib.hid (HU1.out.keep hb2)
  have HV2 := Lib.hid hv
  have hb2' := hb1.trans (hb2.mono hb1.size)
  clear hv hb1 hb2 HU1
  go_wp2_with fail
  refine (HD.out _).mono ?_
  rintro e w3 ⟨rfl, hb3⟩
  have HU3 := Lib.hid (HU2.out.keep hb3)
  have HV3 := Lib.hid (HV2.out.keep hb3)
  have hb3' := hb2'.trans (hb3.mono hb2'.size)
  clear hb2' hb3 HU2 HV2
  have hal4 : Below w3.heap.size w3 (w3.alloc (.cells #[.string ⟨#[97, 98]⟩, .string ⟨#[97, 99]⟩] 9)) := (Below.refl _ _).alloc (Nat.le_refl _) _
  have HS1 := Lib.hid (sameTexts_any u _ _ _ _ (HU3.out.keep hal4) (strsAt_new w3 [97, 98] [97, 99]) (by simp) (by simp))
  have HV4 := Lib.hid (HV3.out.keep hal4)
  have hb4 := hb3'.trans (hal4.mono hb3'.size)
  have HB4 := Lib.hid hb4
  clear hb3' hal4 hb4 HU3 HV3
  go_wp2_with fail
  refine HS1.out.mono ?_
  rintro e w5 ⟨rfl, n5, rfl⟩
  have hb5 : Below w.heap.size w ((w3.alloc (.cells #[.string ⟨#[97, 98]⟩, .string ⟨#[97, 99]⟩] 9)).drewN n5) := HB4.out.trans (drewN_below _ _ _)
  have hv5 : StrsR ((w3.alloc (.cells #[.string ⟨#[97, 98]⟩, .string ⟨#[97, 99]⟩] 9)).drewN n5) v [[97], [98, 99]] := HV4.out.keep (drewN_below _ _ _)
  generalize ((w3.alloc (.cells #[.string ⟨#[97, 98]⟩, .string ⟨#[97, 99]⟩] 9)).drewN n5) = w5 at *
  have hal6 : Below w5.heap.size w5 (w5.alloc (.cells #[.string ⟨#[97]⟩, .string ⟨#[98, 99]⟩] 9)) := (Below.refl _ _).alloc (Nat.le_refl _) _
  have HS2 := Lib.hid (sameTexts_any v _ _ _ _ (hv5.keep hal6) (strsAt_new w5 [97] [98, 99]) (by simp) (by simp))
  have HB6 := Lib.hid (hb5.trans (hal6.mono hb5.size))
  clear hb5 hv5 hal6 HS1 HB4 HV4
  go_wp2_with fail
  refine HS2.out.mono ?_
  rintro e w6 ⟨rfl, n6, rfl⟩
  go_wp2_with fail
  go_ret
  exact ⟨rfl, HB6.out.trans (drewN_below _ _ _)⟩
end Go.Proofs.Ytfoeamgjjhfkdaa
