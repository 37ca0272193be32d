/- The reference's Differ, Same, Within. -/
import Derived.Test.YtfoeamgjjhfkdaaRr
namespace Go.Proofs.Ytfoeamgjjhfkdaa
open Go Go.Shelf Go.RowKit Go.Proofs L9

/-- two circuits' tables, kept: what stands behind both of asked's calls -/
theorem keepTab2 {w w1 w2 : World} {t u : Nat → Bool} (hb : Below w.heap.size w w1)
    (hb2 : Below ((w1.alloc (.cells Try.zeroCells50 50)).setRow w1.heap.size (tabArr t)).heap.size ((w1.alloc (.cells Try.zeroCells50 50)).setRow w1.heap.size (tabArr t)) w2) :
    Below w.heap.size w ((w2.alloc (.cells Try.zeroCells50 50)).setRow w2.heap.size (tabArr u)) ∧
    ((w2.alloc (.cells Try.zeroCells50 50)).setRow w2.heap.size (tabArr u)).heap[w1.heap.size]? = some (.cells (tabArr t) 50 (0, 0)) ∧
    ((w2.alloc (.cells Try.zeroCells50 50)).setRow w2.heap.size (tabArr u)).heap[w2.heap.size]? = some (.cells (tabArr u) 50 (0, 0)) := by
  obtain ⟨h1, h2⟩ := keepTab (t := t) hb
  have h3 := h1.trans (hb2.mono h1.size)
  obtain ⟨h4, h5⟩ := keepTab (t := u) h3
  refine ⟨h4, ?_, h5⟩
  have hlt := heap_lt h2
  have h6 := hb2.block w1.heap.size hlt
  rw [setRow_ne _ _ _ _ (by have := hb2.size; omega), Below.heap_alloc _ _ _ (by have := hb2.size; omega), h6]
  exact h2

set_option maxHeartbeats 4000000 in
set_option maxRecDepth 100000 in
theorem refDiffer (c d : ByteArray) (w : World) (hc : c.size ≤ maxLen) (hd : d.size ≤ maxLen) :
    Calls Try.prog 38 #[.string c, .string d] w fun e w' => e = .returned (.tuple #[.string ⟨(differF (circ c.data.toList) (circ d.data.toList)).1.toArray⟩, .int .i64 (differF (circ c.data.toList) (circ d.data.toList)).2]) ∧ Below w.heap.size w w' := by
  have HA := Lib.hid (refAsked0 c w hc)
  have HD := Lib.hid (fun W => refAsked0 d W hd)
  unfold PostAsk0 at HA HD
  generalize circ c.data.toList = o at *
  generalize circ d.data.toList = q at *
  generalize hz : differF o q = z
  have HZ := Lib.hid hz
  clear hz
  go_enter Try.func38, Try.ntmps38
  go_wp2_with fail
  refine HA.out.mono ?_
  rintro e w1 ⟨hb, h⟩
  have h' : ∃ t k, e = .returned (.tuple #[.agg (tabArr t), .int .i64 k]) ∧ ((∃ x, o = some x ∧ t = evC x ∧ k = 0) ∨ (o = none ∧ k = 90)) := by
    rcases h with ⟨x, ho, he⟩ | ⟨t, ho, he⟩
    · exact ⟨_, _, he, Or.inl ⟨x, ho, rfl, rfl⟩⟩
    · exact ⟨_, _, he, Or.inr ⟨ho, rfl⟩⟩
  obtain ⟨t, k, rfl, hk⟩ := h'
  have HK := Lib.hid hk
  have HB1 := Lib.hid hb
  have HS := Lib.hid (alloc_zeros w1)
  clear hk h hb HA
  go_wp2_with (refine wpList_store_row rfl 50 _ _ rfl w1.heap.size (tabArr t) rfl rfl 50 _ HS.out (by rw [tabArr_size]; exact info50) (by rw [tabArr_size, tabArr_size]) (tabArr_one _) ?_)
  refine (HD.out _).mono ?_
  rintro e w2 ⟨hb, h⟩
  have h' : ∃ u k, e = .returned (.tuple #[.agg (tabArr u), .int .i64 k]) ∧ ((∃ x, q = some x ∧ u = evC x ∧ k = 0) ∨ (q = none ∧ k = 90)) := by
    rcases h with ⟨x, ho, he⟩ | ⟨t, ho, he⟩
    · exact ⟨_, _, he, Or.inl ⟨x, ho, rfl, rfl⟩⟩
    · exact ⟨_, _, he, Or.inr ⟨ho, rfl⟩⟩
  obtain ⟨u, k2, rfl, hk2⟩ := h'
  have HK2 := Lib.hid hk2
  have HT := Lib.hid (keepTab2 (u := u) HB1.out hb)
  have HS2 := Lib.hid (alloc_zeros w2)
  clear hk2 h hb HD HS
  have hres : ((k = 0 ∧ k2 = 0) ∧ z = differT t u) ∨ ((k = 90 ∨ (k = 0 ∧ k2 = 90)) ∧ z = ([], 90)) := by
    rcases HK.out with ⟨x, h1, h2, h3⟩ | ⟨h1, h2⟩
    · rcases HK2.out with ⟨y, h4, h5, h6⟩ | ⟨h4, h5⟩
      · left
        refine ⟨⟨h3, h6⟩, ?_⟩
        rw [← HZ.out, h1, h4, h2, h5]
        rfl
      · right
        refine ⟨Or.inr ⟨h3, h5⟩, ?_⟩
        rw [← HZ.out, h4]
        unfold differF
        cases o <;> rfl
    · right
      refine ⟨Or.inl h2, ?_⟩
      rw [← HZ.out, h1]
      rfl
  clear HK HK2 HZ
  rcases hres with ⟨⟨rfl, rfl⟩, hz⟩ | ⟨hkk, hz⟩
  · have HZ := Lib.hid hz
    clear hz
    go_wp2_with (refine wpList_store_row rfl 50 _ _ rfl w2.heap.size (tabArr u) rfl rfl 50 _ HS2.out (by rw [tabArr_size]; exact info50) (by rw [tabArr_size, tabArr_size]) (tabArr_one _) ?_)
    generalize ((w2.alloc (.cells Try.zeroCells50 50)).setRow w2.heap.size (tabArr u)) = W at *
    refine (refSets _).mono ?_
    rintro e w3 ⟨v, rfl, hv, hb3⟩
    have h1 : ∀ i, i < 256 → w3.cell? ⟨w1.heap.size, i, none⟩ = some (.bool (t i)) := by
      intro i hi
      rw [hb3.cell (p := ⟨w1.heap.size, i, none⟩) (heap_lt HT.out.2.1)]
      exact tabCell HT.out.2.1 i hi
    have h2 : ∀ i, i < 256 → w3.cell? ⟨w2.heap.size, i, none⟩ = some (.bool (u i)) := by
      intro i hi
      rw [hb3.cell (p := ⟨w2.heap.size, i, none⟩) (heap_lt HT.out.2.2)]
      exact tabCell HT.out.2.2 i hi
    have HB3 := Lib.hid (HT.out.1.trans (hb3.mono HT.out.1.size))
    have HC1 := Lib.hid h1
    have HC2 := Lib.hid h2
    obtain ⟨a, cap, rfl, hc⟩ := hv.block
    rw [order_len] at *
    have HC := Lib.hid hc
    clear h1 h2 hc hb3 hv HT HB1 HS2
    go_wp2_with fail
    go_loopw [11] (fun i wr => ∃ m n : Nat, m ≤ 256 ∧ i = .int .i64 m ∧ wr = w3.drewN n ∧ ∀ j, j < m → (t (order.getD j 0) != u (order.getD j 0)) = false) (fun i _ => 256 - (intOf i).toNat)
    case atStart => exact ⟨0, 0, by omega, rfl, rfl, fun j hj => by omega⟩
    case round =>
      obtain ⟨m, nn, hm2, rfl, rfl, hno⟩ := hrel
      have HN := Lib.hid hno
      clear hno
      by_cases hlt : m < 256
      · obtain ⟨g, rfl, _, hcell⟩ := HC.out m hlt
        have hn := order_getD m hlt
        have hfs := find_some (fun n => t n != u n) m hlt HN.out
        have hst : (t (order.getD m 0) != u (order.getD m 0)) = false → ∀ j, j < m + 1 → (t (order.getD j 0) != u (order.getD j 0)) = false := by
          intro h j hj
          rcases Nat.lt_or_ge j m with h' | h'
          · exact HN.out j h'
          · obtain rfl : j = m := by omega
            exact h
        have hcell1 := HC1.out _ hn
        have hcell2 := HC2.out _ hn
        generalize order.getD m 0 = n at *
        by_cases hne : t n = u n
        · have HST := Lib.hid (hst (by rw [hne]; simp))
          rw [hne] at hcell1
          have h1 : (u n != u n) = false := by simp
          clear hst hfs hne
          generalize u n = x at hcell1 hcell2 h1
          go_wp2_with fail
          go_quiet (fail)
          go_wp2_with fail
          go_roundw
          case rel => exact ⟨m + 1, nn + nq, by omega, by go_num, by simp, HST.out⟩
          case measure => simp [intOf]; omega
        · have h1 : (t n != u n) = true := by simpa using hne
          have h3 : (t n == u n) = false := by simpa using hne
          have hzz : z = (txt n, 0) := by
            rw [HZ.out]
            unfold differT
            rw [hfs h1]
          have HZZ := Lib.hid hzz
          clear hst hfs hne HZ hzz h1
          generalize t n = x1 at *
          generalize u n = x2 at *
          have HTX := Lib.hid (fun W => refText n hn W)
          go_wp2_with fail
          go_quiet (fail)
          go_wp2_with fail
          refine (HTX.out _).mono ?_
          rintro e w4 ⟨rfl, rfl⟩
          go_wp2_with fail
          go_ret2
          rw [HZZ.out]
          exact ⟨rfl, HB3.out.trans (drewN_below _ _ _)⟩
      · obtain rfl : m = 256 := by omega
        have hzz : z = ([], 5) := by
          rw [HZ.out]
          unfold differT
          rw [find_none _ HN.out]
        have HZZ := Lib.hid hzz
        clear hzz HZ
        go_wp2_with fail
        go_ret2
        rw [HZZ.out]
        exact ⟨rfl, HB3.out.trans (drewN_below _ _ _)⟩
  · have HZ := Lib.hid hz
    clear hz
    rcases hkk with rfl | ⟨rfl, rfl⟩
    all_goals
      go_wp2_with (refine wpList_store_row rfl 50 _ _ rfl w2.heap.size (tabArr u) rfl rfl 50 _ HS2.out (by rw [tabArr_size]; exact info50) (by rw [tabArr_size, tabArr_size]) (tabArr_one _) ?_)
      go_ret2
      rw [HZ.out]
      exact ⟨rfl, HT.out.1⟩

/-- two tables differ in the order exactly if they differ anywhere -/
theorem differT_same (t u : Nat → Bool) : (differT t u).2 = if sameT t u then 5 else 0 := by
  unfold differT
  cases h : order.find? (fun n => t n != u n) with
  | some n =>
    have h1 := List.find?_some h
    have h2 := order_lt n (List.mem_of_find?_eq_some h)
    have h3 : sameT t u = false := by
      unfold sameT
      rw [List.all_eq_false]
      exact ⟨n, List.mem_range.2 h2, by simpa using h1⟩
    rw [h3]
    rfl
  | none =>
    rw [List.find?_eq_none] at h
    have h3 : sameT t u = true := by
      unfold sameT
      rw [List.all_eq_true]
      intro i hi
      have := h i (order_all i (List.mem_range.1 hi))
      simpa using this
    rw [h3]
    rfl
theorem sameF_differ (o q : Option (List (List Part))) : sameF o q = if (differF o q).2 = 5 then (true, 0) else (false, (differF o q).2) := by
  cases o with
  | none => rfl
  | some x =>
    cases q with
    | none => rfl
    | some y =>
      show (sameT (evC x) (evC y), (0 : Int)) = if (differT (evC x) (evC y)).2 = 5 then (true, 0) else (false, (differT (evC x) (evC y)).2)
      rw [differT_same]
      cases sameT (evC x) (evC y) <;> simp

set_option maxRecDepth 100000 in
theorem refSame (c d : ByteArray) (w : World) (hc : c.size ≤ maxLen) (hd : d.size ≤ maxLen) :
    Calls Try.prog 37 #[.string c, .string d] w fun e w' => e = .returned (.tuple #[.bool (sameF (circ c.data.toList) (circ d.data.toList)).1, .int .i64 (sameF (circ c.data.toList) (circ d.data.toList)).2]) ∧ Below w.heap.size w w' := by
  have H := Lib.hid (refDiffer c d w hc hd)
  rw [sameF_differ]
  generalize differF (circ c.data.toList) (circ d.data.toList) = z at *
  obtain ⟨z1, z2⟩ := z
  by_cases h5 : z2 = 5
  · subst h5
    rw [if_pos rfl]
    go_enter Try.func37, Try.ntmps37
    go_wp2_with fail
    refine H.out.mono ?_
    rintro e w1 ⟨rfl, hb⟩
    go_wp2_with fail
    go_ret2
    exact ⟨rfl, hb⟩
  · rw [if_neg h5]
    have h1 : (z2 == 5) = false := by simpa using h5
    clear h5
    go_enter Try.func37, Try.ntmps37
    go_wp2_with fail
    refine H.out.mono ?_
    rintro e w1 ⟨rfl, hb⟩
    go_wp2_with fail
    go_ret2
    exact ⟨rfl, hb⟩

set_option maxHeartbeats 4000000 in
set_option maxRecDepth 100000 in
theorem refWithin (c d : ByteArray) (w : World) (hc : c.size ≤ maxLen) (hd : d.size ≤ maxLen) :
    Calls Try.prog 39 #[.string c, .string d] w fun e w' => e = .returned (.tuple #[.bool (withinF (circ c.data.toList) (circ d.data.toList)).1, .int .i64 (withinF (circ c.data.toList) (circ d.data.toList)).2]) ∧ Below w.heap.size w w' := by
  have HA := Lib.hid (refAsked0 c w hc)
  have HD := Lib.hid (fun W => refAsked0 d W hd)
  unfold PostAsk0 at HA HD
  generalize circ c.data.toList = o at *
  generalize circ d.data.toList = q at *
  generalize hz : withinF o q = z
  have HZ := Lib.hid hz
  clear hz
  go_enter Try.func39, Try.ntmps39
  go_wp2_with fail
  refine HA.out.mono ?_
  rintro e w1 ⟨hb, h⟩
  have h' : ∃ t k, e = .returned (.tuple #[.agg (tabArr t), .int .i64 k]) ∧ ((∃ x, o = some x ∧ t = evC x ∧ k = 0) ∨ (o = none ∧ k = 90)) := by
    rcases h with ⟨x, ho, he⟩ | ⟨t, ho, he⟩
    · exact ⟨_, _, he, Or.inl ⟨x, ho, rfl, rfl⟩⟩
    · exact ⟨_, _, he, Or.inr ⟨ho, rfl⟩⟩
  obtain ⟨t, k, rfl, hk⟩ := h'
  have HK := Lib.hid hk
  have HB1 := Lib.hid hb
  have HS := Lib.hid (alloc_zeros w1)
  clear hk h hb HA
  go_wp2_with (refine wpList_store_row rfl 50 _ _ rfl w1.heap.size (tabArr t) rfl rfl 50 _ HS.out (by rw [tabArr_size]; exact info50) (by rw [tabArr_size, tabArr_size]) (tabArr_one _) ?_)
  refine (HD.out _).mono ?_
  rintro e w2 ⟨hb, h⟩
  have h' : ∃ u k, e = .returned (.tuple #[.agg (tabArr u), .int .i64 k]) ∧ ((∃ x, q = some x ∧ u = evC x ∧ k = 0) ∨ (q = none ∧ k = 90)) := by
    rcases h with ⟨x, ho, he⟩ | ⟨t, ho, he⟩
    · exact ⟨_, _, he, Or.inl ⟨x, ho, rfl, rfl⟩⟩
    · exact ⟨_, _, he, Or.inr ⟨ho, rfl⟩⟩
  obtain ⟨u, k2, rfl, hk2⟩ := h'
  have HK2 := Lib.hid hk2
  have HT := Lib.hid (keepTab2 (u := u) HB1.out hb)
  have HS2 := Lib.hid (alloc_zeros w2)
  clear hk2 h hb HD HS
  have hres : ((k = 0 ∧ k2 = 0) ∧ z = (inT t u, 0)) ∨ ((k = 90 ∨ (k = 0 ∧ k2 = 90)) ∧ z = (false, 90)) := by
    rcases HK.out with ⟨x, h1, h2, h3⟩ | ⟨h1, h2⟩
    · rcases HK2.out with ⟨y, h4, h5, h6⟩ | ⟨h4, h5⟩
      · left
        refine ⟨⟨h3, h6⟩, ?_⟩
        rw [← HZ.out, h1, h4, h2, h5]
        rfl
      · right
        refine ⟨Or.inr ⟨h3, h5⟩, ?_⟩
        rw [← HZ.out, h4]
        unfold withinF
        cases o <;> rfl
    · right
      refine ⟨Or.inl h2, ?_⟩
      rw [← HZ.out, h1]
      rfl
  clear HK HK2 HZ
  rcases hres with ⟨⟨rfl, rfl⟩, hz⟩ | ⟨hkk, hz⟩
  · have HZ := Lib.hid hz
    clear hz
    go_wp2_with (refine wpList_store_row rfl 50 _ _ rfl w2.heap.size (tabArr u) rfl rfl 50 _ HS2.out (by rw [tabArr_size]; exact info50) (by rw [tabArr_size, tabArr_size]) (tabArr_one _) ?_)
    generalize ((w2.alloc (.cells Try.zeroCells50 50)).setRow w2.heap.size (tabArr u)) = W at *
    have HC1 := Lib.hid (tabCell HT.out.2.1)
    have HC2 := Lib.hid (tabCell HT.out.2.2)
    go_loop [10] (fun i => ∃ m : Nat, m ≤ 256 ∧ i = .int .i64 m ∧ ∀ j, j < m → (t j && !u j) = false) (fun i => 256 - (intOf i).toNat)
    case atStart => exact ⟨0, by omega, rfl, fun j hj => by omega⟩
    case round =>
      obtain ⟨m, hm2, rfl, hno⟩ := hrel
      have HN := Lib.hid hno
      clear hno
      by_cases hlt : m < 256
      · have hcell := HC1.out m hlt
        have hcell2 := HC2.out m hlt
        have hst : (t m && !u m) = false → ∀ j, j < m + 1 → (t j && !u j) = false := by
          intro h j hj
          rcases Nat.lt_or_ge j m with h' | h'
          · exact HN.out j h'
          · obtain rfl : j = m := by omega
            exact h
        have hno := inT_no (t := t) (u := u) hlt
        generalize t m = x1 at *
        generalize u m = x2 at *
        cases x1 with
        | false =>
          have HST := Lib.hid (hst rfl)
          clear hst hno
          go_wp2_with fail
          go_round
          case rel => exact ⟨m + 1, by omega, by go_num, HST.out⟩
          case measure => simp [intOf]; omega
        | true =>
          cases x2 with
          | true =>
            have HST := Lib.hid (hst rfl)
            clear hst hno
            go_wp2_with fail
            go_round
            case rel => exact ⟨m + 1, by omega, by go_num, HST.out⟩
            case measure => simp [intOf]; omega
          | false =>
            have hi := hno rfl rfl
            rw [hi] at HZ
            clear hst hno hi
            go_wp2_with fail
            go_ret2
            rw [HZ.out]
            exact ⟨rfl, HT.out.1⟩
      · obtain rfl : m = 256 := by omega
        have hi := inT_yes HN.out
        rw [hi] at HZ
        clear hi
        go_wp2_with fail
        go_ret2
        rw [HZ.out]
        exact ⟨rfl, HT.out.1⟩
  · have HZ := Lib.hid hz
    clear hz
    rcases hkk with rfl | ⟨rfl, rfl⟩
    all_goals
      go_wp2_with (refine wpList_store_row rfl 50 _ _ rfl w2.heap.size (tabArr u) rfl rfl 50 _ HS2.out (by rw [tabArr_size]; exact info50) (by rw [tabArr_size, tabArr_size]) (tabArr_one _) ?_)
      go_ret2
      rw [HZ.out]
      exact ⟨rfl, HT.out.1⟩
end Go.Proofs.Ytfoeamgjjhfkdaa
