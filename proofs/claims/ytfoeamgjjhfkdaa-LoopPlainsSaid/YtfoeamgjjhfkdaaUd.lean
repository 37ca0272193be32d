/- Number, Within. Differ, Needs, Idle. Needs, Idle. Closed, Opened. -/
import Derived.Test.YtfoeamgjjhfkdaaTx
import Derived.Test.YtfoeamgjjhfkdaaNc
import Derived.Test.YtfoeamgjjhfkdaaRl
namespace Go.Proofs.Ytfoeamgjjhfkdaa
open Go Go.Shelf Go.RowKit Go.Proofs L9

/-- how many of the first sets of a table have so many letters -/
def cntT (t : Nat → Bool) (k : Int) (m : Nat) : Nat := ((List.range m).filter fun i => t i && ((pop i : Int) == k)).length
theorem cntT_succ (t : Nat → Bool) (k : Int) (m : Nat) : cntT t k (m + 1) = if t m && ((pop m : Int) == k) then cntT t k m + 1 else cntT t k m := by
  unfold cntT
  rw [List.range_succ, List.filter_append, List.length_append]
  cases h : (t m && ((pop m : Int) == k)) <;> simp [h]
theorem cntT_le (t : Nat → Bool) (k : Int) (m : Nat) : cntT t k m ≤ m := by
  unfold cntT
  have := List.length_filter_le (fun i => t i && ((pop i : Int) == k)) (List.range m)
  simpa using this
def numberT (o : Option (List (List Part))) (k : Int) : Int × Int := match o with
  | none => (0, 90)
  | some c => if k < 0 ∨ 8 < k then (0, 2) else (cntT (evC c) k 256, 0)

set_option maxHeartbeats 2000000 in
set_option maxRecDepth 100000 in
theorem numberN_any (s : ByteArray) (k : Int) (w : World) (hm : s.size ≤ maxLen) :
    Calls Try.prog 32 #[.string s, .int .i64 k] w fun e w' => e = .returned (.tuple #[.int .i64 (numberT (circ s.data.toList) k).1, .int .i64 (numberT (circ s.data.toList) k).2]) ∧ Below w.heap.size w w' := by
  have HP := Lib.hid (open_any s w hm)
  generalize circ s.data.toList = o at *
  by_cases hk : k < 0 ∨ 8 < k
  · have h2 : ∀ c, o = some c → numberT o k = (0, 2) := by
      rintro c rfl
      unfold numberT
      simp only
      rw [if_pos hk]
    have H2 := Lib.hid h2
    clear h2
    rcases hk with hk | hk
    all_goals
      go_enter Try.func32, Try.ntmps32
      go_wp2_with fail
      refine HP.out.mono ?_
      rintro e w1 ⟨hb, ⟨c, p, ho, rfl, hT⟩ | ⟨ho, rfl⟩⟩
      · have hf := Lib.hid (H2.out c ho)
        clear hT ho
        go_wp2_with fail
        go_ret2
        rw [hf.out]
        exact ⟨rfl, hb⟩
      · have hf : Hid (numberT o k = (0, 90)) := by rw [ho]; exact rfl
        clear ho
        go_wp2_with fail
        go_ret2
        rw [hf.out]
        exact ⟨rfl, hb⟩
  · have hk0 : 0 ≤ k := by omega
    have hk8 : k ≤ 8 := by omega
    have h2 : ∀ c, o = some c → numberT o k = (((cntT (evC c) k 256 : Nat) : Int), 0) := by
      rintro c rfl
      unfold numberT
      simp only
      rw [if_neg hk]
    have H2 := Lib.hid h2
    clear h2 hk
    go_enter Try.func32, Try.ntmps32
    go_wp2_with fail
    refine HP.out.mono ?_
    rintro e w1 ⟨hb, ⟨c, p, ho, rfl, hT⟩ | ⟨ho, rfl⟩⟩
    · have hf := Lib.hid (H2.out c ho)
      clear ho H2
      generalize evC c = t at *
      obtain ⟨b, rfl, hbl, hc⟩ := hT
      have HC := Lib.hid hc
      clear hc
      go_wp2_with fail
      go_loopw [8, 9, 10, 28] (fun n _ _ i wr => ∃ m : Nat, m ≤ 256 ∧ i = .int .i64 m ∧ n = .int .i64 (cntT t k m : Nat) ∧ Below w1.heap.size w1 wr) (fun _ _ _ i _ => 256 - (intOf i).toNat)
      case atStart => exact ⟨0, by omega, rfl, rfl, Below.refl _ _⟩
      case round =>
        obtain ⟨m, hm2, rfl, rfl, hb1⟩ := hrel
        by_cases hlt : m < 256
        · have hcell : wr.cell? ⟨b, m, none⟩ = some (.bool (t m)) := by rw [hb1.cell (p := ⟨b, m, none⟩) hbl]; exact HC.out m hlt
          have hsu := cntT_succ t k m
          have hle := cntT_le t k m
          have HO := Lib.hid (fun W => onesCount m hlt W)
          have hpl := pop_le m
          generalize cntT t k m = N at *
          generalize pop m = P at *
          cases htm : t m with
          | false =>
            rw [htm] at hcell hsu
            have HS := Lib.hid hsu
            clear hsu htm
            go_wp2_with fail
            go_quiet (fail)
            go_wp2_with fail
            go_roundw
            case rel => exact ⟨m + 1, by omega, by go_num, by rw [HS.out]; rfl, hb1.trans ⟨rfl, rfl, rfl, Nat.le_refl _, fun _ _ => rfl⟩⟩
            case measure => simp [intOf]; omega
          | true =>
            rw [htm] at hcell hsu
            by_cases hpk : (P : Int) = k
            · have hpk2 : ((P : Int) == k) = true := by simpa using hpk
              rw [hpk2] at hsu
              have HS := Lib.hid hsu
              have HK := Lib.hid hpk
              clear hsu htm hpk
              go_wp2_with fail
              go_quiet (fail)
              go_wp2_with fail
              refine (HO.out _).mono ?_
              rintro e w2 ⟨rfl, rfl⟩
              go_wp2_with fail
              go_roundw
              case rel => exact ⟨m + 1, by omega, by go_num, by rw [HS.out]; go_num, hb1.trans ⟨rfl, rfl, rfl, Nat.le_refl _, fun _ _ => rfl⟩⟩
              case measure => simp [intOf]; omega
            · have hpk2 : ((P : Int) == k) = false := by simpa using hpk
              rw [hpk2] at hsu
              have HS := Lib.hid hsu
              have HK := Lib.hid hpk
              clear hsu htm hpk
              go_wp2_with fail
              go_quiet (fail)
              go_wp2_with fail
              refine (HO.out _).mono ?_
              rintro e w2 ⟨rfl, rfl⟩
              go_wp2_with fail
              go_roundw
              case rel => exact ⟨m + 1, by omega, by go_num, by rw [HS.out]; rfl, hb1.trans ⟨rfl, rfl, rfl, Nat.le_refl _, fun _ _ => rfl⟩⟩
              case measure => simp [intOf]; omega
        · obtain rfl : m = 256 := by omega
          have hle := cntT_le t k 256
          generalize cntT t k 256 = N at *
          go_wp2_with fail
          go_ret2
          rw [hf.out]
          exact ⟨rfl, hb.trans (hb1.mono hb.size)⟩
    · have hf : Hid (numberT o k = (0, 90)) := by rw [ho]; exact rfl
      clear ho
      go_wp2_with fail
      go_ret2
      rw [hf.out]
      exact ⟨rfl, hb⟩

/-- is one table within another -/
def inT (t u : Nat → Bool) : Bool := (List.range 256).all fun i => !t i || u i
def withinF (o q : Option (List (List Part))) : Bool × Int := match o, q with
  | some x, some y => (inT (evC x) (evC y), 0)
  | _, _ => (false, 90)
theorem inT_no {t u : Nat → Bool} {i : Nat} (hi : i < 256) (ht : t i = true) (hu : u i = false) : inT t u = false := by
  unfold inT
  rw [List.all_eq_false]
  exact ⟨i, List.mem_range.2 hi, by simp [ht, hu]⟩
theorem inT_yes {t u : Nat → Bool} (h : ∀ i, i < 256 → (t i && !u i) = false) : inT t u = true := by
  unfold inT
  rw [List.all_eq_true]
  intro i hi
  have := h i (List.mem_range.1 hi)
  cases h1 : t i <;> cases h2 : u i <;> simp_all

set_option maxHeartbeats 2000000 in
set_option maxRecDepth 100000 in
theorem within_any (c d : ByteArray) (w : World) (hc : c.size ≤ maxLen) (hd : d.size ≤ maxLen) :
    Calls Try.prog 31 #[.string c, .string d] w fun e w' => e = .returned (.tuple #[.bool (withinF (circ c.data.toList) (circ d.data.toList)).1, .int .i64 (withinF (circ c.data.toList) (circ d.data.toList)).2]) ∧ Below w.heap.size w w' := by
  have HP := two_any c d w hc hd
  generalize circ c.data.toList = o at *
  generalize circ d.data.toList = q at *
  have hno : ∀ f : Bool × Int, f = (false, 90) → (Calls Try.prog 70 #[.string c, .string d] w fun e w' => Below w.heap.size w w' ∧ e = .returned (.tuple #[.pointer none, .pointer none, .int .i64 90])) → Calls Try.prog 31 #[.string c, .string d] w fun e w' => e = .returned (.tuple #[.bool f.1, .int .i64 f.2]) ∧ Below w.heap.size w w' := by
    rintro f rfl h
    have H := Lib.hid h
    clear h HP
    go_enter Try.func31, Try.ntmps31
    go_wp2_with fail
    refine H.out.mono ?_
    rintro e w1 ⟨hb, rfl⟩
    go_wp2_with fail
    go_ret2
    exact ⟨rfl, hb⟩
  cases o with
  | none => exact hno _ rfl (HP.mono fun _ _ h => ⟨h.1, h.2⟩)
  | some x =>
    cases q with
    | none => exact hno _ rfl (HP.mono fun _ _ h => ⟨h.1, h.2⟩)
    | some y =>
      have H := Lib.hid HP
      have hs : withinF (some x) (some y) = (inT (evC x) (evC y), 0) := rfl
      rw [hs]
      clear HP hno hs
      go_enter Try.func31, Try.ntmps31
      go_wp2_with fail
      refine H.out.mono ?_
      rintro e w1 ⟨hb, p, r, rfl, hT, hU⟩
      obtain ⟨b, rfl, hbl, hcb⟩ := hT
      obtain ⟨b', rfl, hbl', hcb'⟩ := hU
      obtain ⟨t, ht⟩ : ∃ t, t = evC x := ⟨_, rfl⟩
      obtain ⟨u, hu⟩ : ∃ u, u = evC y := ⟨_, rfl⟩
      rw [← ht] at hcb
      rw [← hu] at hcb'
      have HX : Hid (inT (evC x) (evC y) = inT t u) := by rw [ht, hu]; exact rfl
      clear ht hu
      have HC := Lib.hid hcb
      have HC' := Lib.hid hcb'
      clear hcb hcb' H
      go_wp2_with fail
      go_loopw [9, 10, 22] (fun _ _ i wr => ∃ m : Nat, m ≤ 256 ∧ i = .int .i64 m ∧ Below w1.heap.size w1 wr ∧ ∀ j, j < m → (t j && !u j) = false) (fun _ _ i _ => 256 - (intOf i).toNat)
      case atStart => exact ⟨0, by omega, rfl, Below.refl _ _, fun j hj => by omega⟩
      case round =>
        obtain ⟨m, hm2, rfl, hb1, hno⟩ := hrel
        have HN := Lib.hid hno
        clear hno
        by_cases hlt : m < 256
        · have hcell : wr.cell? ⟨b, m, none⟩ = some (.bool (t m)) := by rw [hb1.cell (p := ⟨b, m, none⟩) hbl]; exact HC.out m hlt
          have hcell2 : wr.cell? ⟨b', m, none⟩ = some (.bool (u m)) := by rw [hb1.cell (p := ⟨b', m, none⟩) hbl']; exact HC'.out m hlt
          cases htm : t m with
          | false =>
            rw [htm] at hcell
            have HT := Lib.hid htm
            clear htm hcell2
            go_wp2_with fail
            go_quiet (fail)
            go_wp2_with fail
            go_roundw
            case rel =>
              refine ⟨m + 1, by omega, by go_num, hb1.trans ⟨rfl, rfl, rfl, Nat.le_refl _, fun _ _ => rfl⟩, fun j hj => ?_⟩
              rcases Nat.lt_or_ge j m with h | h
              · exact HN.out j h
              · obtain rfl : j = m := by omega
                rw [HT.out]; rfl
            case measure => simp [intOf]; omega
          | true =>
            cases hum : u m with
            | true =>
              rw [htm] at hcell
              rw [hum] at hcell2
              have HT := Lib.hid hum
              clear htm hum
              go_wp2_with fail
              go_quiet (fail)
              go_wp2_with fail
              go_roundw
              case rel =>
                refine ⟨m + 1, by omega, by go_num, hb1.trans ⟨rfl, rfl, rfl, Nat.le_refl _, fun _ _ => rfl⟩, fun j hj => ?_⟩
                rcases Nat.lt_or_ge j m with h | h
                · exact HN.out j h
                · obtain rfl : j = m := by omega
                  rw [HT.out]; simp
              case measure => simp [intOf]; omega
            | false =>
              rw [htm] at hcell
              rw [hum] at hcell2
              have HZ := Lib.hid (inT_no hlt htm hum)
              clear htm hum
              go_wp2_with fail
              go_quiet (fail)
              go_wp2_with fail
              go_ret2
              rw [HX.out, HZ.out]
              exact ⟨rfl, (hb.trans (hb1.mono hb.size)).trans ⟨rfl, rfl, rfl, Nat.le_refl _, fun _ _ => rfl⟩⟩
        · obtain rfl : m = 256 := by omega
          have HZ := Lib.hid (inT_yes HN.out)
          go_wp2_with fail
          go_ret2
          rw [HX.out, HZ.out]
          exact ⟨rfl, hb.trans (hb1.mono hb.size)⟩
end Go.Proofs.Ytfoeamgjjhfkdaa

namespace Go.Proofs.Ytfoeamgjjhfkdaa
open Go Go.Shelf Go.RowKit Go.Proofs L9

theorem find_none (p : Nat → Bool) (h : ∀ j, j < 256 → p (order.getD j 0) = false) : order.find? p = none := by
  rw [List.find?_eq_none]
  intro x hx
  obtain ⟨i, hi, rfl⟩ := List.mem_iff_getElem.1 hx
  have := h i (by rw [order_len] at hi; exact hi)
  rw [List.getD_eq_getElem?_getD, List.getElem?_eq_getElem hi] at this
  simpa using this
theorem find_some (p : Nat → Bool) (k : Nat) (hk : k < 256) (h : ∀ j, j < k → p (order.getD j 0) = false) (hp : p (order.getD k 0) = true) : order.find? p = some (order.getD k 0) := by
  have hk' : k < order.length := by rw [order_len]; exact hk
  have e : order.getD k 0 = order[k] := by rw [List.getD_eq_getElem?_getD, List.getElem?_eq_getElem hk']; rfl
  rw [e] at hp ⊢
  rw [List.find?_eq_some_iff_getElem]
  refine ⟨hp, k, hk', rfl, fun j hj => ?_⟩
  have := h j hj
  rw [List.getD_eq_getElem?_getD, List.getElem?_eq_getElem (by omega)] at this
  rw [Bool.not_eq_true', ← this]
  rfl
theorem order_getD (k : Nat) (hk : k < 256) : order.getD k 0 < 256 := by
  rw [List.getD_eq_getElem?_getD, List.getElem?_eq_getElem (by rw [order_len]; exact hk)]
  exact order_lt _ (List.getElem_mem _)
def differT (t u : Nat → Bool) : List UInt8 × Int := match order.find? (fun n => t n != u n) with
  | some n => (txt n, 0)
  | none => ([], 5)
def differF (o q : Option (List (List Part))) : List UInt8 × Int := match o, q with
  | some x, some y => differT (evC x) (evC y)
  | _, _ => ([], 90)

set_option maxHeartbeats 2000000 in
set_option maxRecDepth 100000 in
theorem differ_any (c d : ByteArray) (w : World) (hc : c.size ≤ maxLen) (hd : d.size ≤ maxLen) :
    Calls Try.prog 30 #[.string c, .string d] w fun e w' => e = .returned (.tuple #[.string ⟨(differF (circ c.data.toList) (circ d.data.toList)).1.toArray⟩, .int .i64 (differF (circ c.data.toList) (circ d.data.toList)).2]) ∧ Below w.heap.size w w' := by
  have HP := two_any c d w hc hd
  generalize circ c.data.toList = o at *
  generalize circ d.data.toList = q at *
  have hno : ∀ f : List UInt8 × Int, f = ([], 90) → (Calls Try.prog 70 #[.string c, .string d] w fun e w' => Below w.heap.size w w' ∧ e = .returned (.tuple #[.pointer none, .pointer none, .int .i64 90])) → Calls Try.prog 30 #[.string c, .string d] w fun e w' => e = .returned (.tuple #[.string ⟨f.1.toArray⟩, .int .i64 f.2]) ∧ Below w.heap.size w w' := by
    rintro f rfl h
    have H := Lib.hid h
    clear h HP
    go_enter Try.func30, Try.ntmps30
    go_wp2_with fail
    refine H.out.mono ?_
    rintro e w1 ⟨hb, rfl⟩
    go_wp2_with fail
    go_ret2
    exact ⟨rfl, hb⟩
  cases o with
  | none => exact hno _ rfl (HP.mono fun _ _ h => ⟨h.1, h.2⟩)
  | some x =>
    cases q with
    | none => exact hno _ rfl (HP.mono fun _ _ h => ⟨h.1, h.2⟩)
    | some y =>
      have H := Lib.hid HP
      have hs : differF (some x) (some y) = differT (evC x) (evC y) := rfl
      rw [hs]
      clear HP hno hs
      generalize hz : differT (evC x) (evC y) = z
      go_enter Try.func30, Try.ntmps30
      go_wp2_with fail
      refine H.out.mono ?_
      rintro e w1 ⟨hb, p, r, rfl, hT, hU⟩
      obtain ⟨b, rfl, hbl, hcb⟩ := hT
      obtain ⟨b', rfl, hbl', hcb'⟩ := hU
      generalize evC x = t at *
      generalize evC y = u at *
      have HZ := Lib.hid hz
      have HC := Lib.hid hcb
      have HC' := Lib.hid hcb'
      clear hcb hcb' H hz
      go_wp2_with fail
      refine (sorted_any _).mono ?_
      rintro e w2 ⟨v, rfl, hs, hb0⟩
      have hsz0 := hb0.size
      have hbb := hb.trans (hb0.mono hb.size)
      obtain ⟨g, cap, rfl, hg, hcc⟩ := hs
      rw [order_len] at *
      have HCC := Lib.hid hcc
      have HB0 := Lib.hid hb0
      have HBB := Lib.hid hbb
      clear hcc hb0 hb hbb
      go_wp2_with fail
      go_loopw [10, 23] (fun _ i wr => ∃ m : Nat, m ≤ 256 ∧ i = .int .i64 m ∧ Below w2.heap.size w2 wr ∧ ∀ j, j < m → (t (order.getD j 0) != u (order.getD j 0)) = false) (fun _ i _ => 256 - (intOf i).toNat)
      case atStart => exact ⟨0, by omega, rfl, Below.refl _ _, fun j hj => by omega⟩
      case round =>
        obtain ⟨m, hm2, rfl, hb1, hno⟩ := hrel
        have HN := Lib.hid hno
        clear hno
        by_cases hlt : m < 256
        · have hn := order_getD m hlt
          have hcell : wr.cell? ⟨g, m, none⟩ = some (.int .i64 (order.getD m 0 : Nat)) := by rw [hb1.cell (p := ⟨g, m, none⟩) hg]; exact HCC.out m hlt
          have hfs := find_some (fun n => t n != u n) m hlt HN.out
          have hst : (t (order.getD m 0) != u (order.getD m 0)) = false → ∀ j, j < m + 1 → (t (order.getD j 0) != u (order.getD j 0)) = false := by
            intro h j hj
            rcases Nat.lt_or_ge j m with h' | h'
            · exact HN.out j h'
            · obtain rfl : j = m := by omega
              exact h
          generalize order.getD m 0 = n at *
          have hcell1 : wr.cell? ⟨b, n, none⟩ = some (.bool (t n)) := by
            rw [hb1.cell (p := ⟨b, n, none⟩) (Nat.lt_of_lt_of_le hbl hsz0), HB0.out.cell (p := ⟨b, n, none⟩) hbl]; exact HC.out n hn
          have hcell2 : wr.cell? ⟨b', n, none⟩ = some (.bool (u n)) := by
            rw [hb1.cell (p := ⟨b', n, none⟩) (Nat.lt_of_lt_of_le hbl' hsz0), HB0.out.cell (p := ⟨b', n, none⟩) hbl']; exact HC'.out n hn
          by_cases hne : t n = u n
          · have HST := Lib.hid (hst (by rw [hne]; simp))
            rw [hne] at hcell1
            have h1 : (u n != u n) = false := by simp
            clear hst hfs hne
            generalize u n = x at hcell1 hcell2 h1
            go_wp2_with fail
            go_quiet (fail)
            go_wp2_with fail
            go_roundw
            case rel => exact ⟨m + 1, by omega, by go_num, hb1.trans ⟨rfl, rfl, rfl, Nat.le_refl _, fun _ _ => rfl⟩, HST.out⟩
            case measure => simp [intOf]; omega
          · have h1 : (t n != u n) = true := by simpa using hne
            have hzz : z = (txt n, 0) := by
              rw [← HZ.out]
              unfold differT
              rw [hfs h1]
            have HZZ := Lib.hid hzz
            clear hst hfs hne HZ
            have h3 : (t n == u n) = false := by simpa using h1
            generalize t n = x1 at *
            generalize u n = x2 at *
            clear h1 hzz
            have HTX := Lib.hid (fun W => textOf_d n hn W)
            go_wp2_with fail
            go_quiet (fail)
            go_wp2_with fail
            refine (HTX.out _).mono ?_
            rintro e w3 ⟨rfl, hb3, _⟩
            go_wp2_with fail
            go_ret2
            rw [HZZ.out]
            have hb4 : Below w2.heap.size w2 w3 := (hb1.trans (drewN_below _ _ nq)).trans (hb3.mono hb1.size)
            exact ⟨rfl, HBB.out.trans (hb4.mono HBB.out.size)⟩
        · obtain rfl : m = 256 := by omega
          have hzz : z = ([], 5) := by
            rw [← HZ.out]
            unfold differT
            rw [find_none _ HN.out]
          have HZZ := Lib.hid hzz
          clear hzz HZ
          go_wp2_with fail
          go_ret2
          rw [HZZ.out]
          exact ⟨rfl, HBB.out.trans (hb1.mono HBB.out.size)⟩
end Go.Proofs.Ytfoeamgjjhfkdaa

namespace Go.Proofs.Ytfoeamgjjhfkdaa
open Go Go.Shelf Go.RowKit Go.Proofs L9

theorem bits_and (a b : Nat) (ha : a < 256) (hb : b < 256) : bits .and .i64 (a : Int) (b : Int) = ((a &&& b : Nat) : Int) := by
  have h : (BitVec.ofInt 64 (a : Int) &&& BitVec.ofInt 64 (b : Int)).toNat = a &&& b := by
    rw [BitVec.ofInt_natCast, BitVec.ofInt_natCast, BitVec.toNat_and, BitVec.toNat_ofNat, BitVec.toNat_ofNat, Nat.mod_eq_of_lt (by omega), Nat.mod_eq_of_lt (by omega)]
  have h2 : a &&& b < 256 := Nat.lt_of_le_of_lt Nat.and_le_left ha
  unfold bits
  show IntKind.i64.wrap ((BitVec.ofInt 64 (a : Int) &&& BitVec.ofInt 64 (b : Int)).toNat : Int) = _
  rw [h, IntKind.wrap_i64]
  omega
theorem bits_or (a b : Nat) (ha : a < 256) (hb : b < 256) : bits .or .i64 (a : Int) (b : Int) = ((a ||| b : Nat) : Int) := by
  have h : (BitVec.ofInt 64 (a : Int) ||| BitVec.ofInt 64 (b : Int)).toNat = a ||| b := by
    rw [BitVec.ofInt_natCast, BitVec.ofInt_natCast, BitVec.toNat_or, BitVec.toNat_ofNat, BitVec.toNat_ofNat, Nat.mod_eq_of_lt (by omega), Nat.mod_eq_of_lt (by omega)]
  have h2 : a ||| b < 2 ^ 8 := Nat.or_lt_two_pow (by omega) (by omega)
  unfold bits
  show IntKind.i64.wrap ((BitVec.ofInt 64 (a : Int) ||| BitVec.ofInt 64 (b : Int)).toNat : Int) = _
  rw [h, IntKind.wrap_i64]
  omega
def andL (a : Nat) (l : List Nat) : Nat := l.foldl (fun a n => a &&& n) a
def lessL (a : Nat) (l : List Nat) : Nat := l.foldl (fun a n => a &&& (255 - n)) a
theorem andL_lt (l : List Nat) : ∀ a, a < 256 → andL a l < 256 := by
  induction l with
  | nil => intro a h; exact h
  | cons x l ih => intro a h; exact ih _ (Nat.lt_of_le_of_lt Nat.and_le_left h)
theorem lessL_lt (l : List Nat) : ∀ a, a < 256 → lessL a l < 256 := by
  induction l with
  | nil => intro a h; exact h
  | cons x l ih => intro a h; exact ih _ (Nat.lt_of_le_of_lt Nat.and_le_left h)
theorem andL_take (l : List Nat) (a k : Nat) (hk : k < l.length) : andL a (l.take (k + 1)) = andL a (l.take k) &&& l.getD k 0 := by
  unfold andL
  rw [List.take_succ_eq_append_getElem hk, List.foldl_append, List.getD_eq_getElem?_getD, List.getElem?_eq_getElem hk]
  rfl
theorem lessL_take (l : List Nat) (a k : Nat) (hk : k < l.length) : lessL a (l.take (k + 1)) = lessL a (l.take k) &&& (255 - l.getD k 0) := by
  unfold lessL
  rw [List.take_succ_eq_append_getElem hk, List.foldl_append, List.getD_eq_getElem?_getD, List.getElem?_eq_getElem hk]
  rfl
def needsF (o : Option (List (List Part))) : List UInt8 × Int := match o with
  | none => ([], 90)
  | some c => (txt (andL 255 (leastL (evC c))), 0)
theorem leastL_getD (q : Nat → Bool) (k : Nat) (hk : k < (leastL q).length) : (leastL q).getD k 0 < 256 := by
  rw [List.getD_eq_getElem?_getD, List.getElem?_eq_getElem hk]
  exact (leastL_mem q _ (List.getElem_mem _)).1
theorem IntsR.block {w : World} {v : Value} {l : List Nat} (h : IntsR w v l) : ∃ p cap, v = .slice p l.length cap ∧ ∀ j, j < l.length → ∃ g, p = some ⟨g, 0, none⟩ ∧ g < w.heap.size ∧ w.cell? ⟨g, j, none⟩ = some (.int .i64 (l.getD j 0 : Nat)) := by
  rcases h with ⟨rfl, rfl⟩ | ⟨g, cap, rfl, hg, hc⟩
  · exact ⟨none, 0, rfl, fun j hj => by simp at hj⟩
  · exact ⟨_, cap, rfl, fun j hj => ⟨g, rfl, hg, hc j hj⟩⟩

set_option maxHeartbeats 2000000 in
set_option maxRecDepth 100000 in
theorem needs_any (s : ByteArray) (w : World) (hm : s.size ≤ maxLen) :
    Calls Try.prog 52 #[.string s] w fun e w' => e = .returned (.tuple #[.string ⟨(needsF (circ s.data.toList)).1.toArray⟩, .int .i64 (needsF (circ s.data.toList)).2]) ∧ Below w.heap.size w w' := by
  have HP := Lib.hid (open_any s w hm)
  have hmf : ∀ (fn : Fn) (first cap : Array Value) (w : World), (Instr.makeFunc fn first cap).run Try.prog w = .ok (.func fn first cap) w := fun _ _ _ _ => rfl
  generalize circ s.data.toList = o at *
  generalize hz : needsF o = z
  have HZ := Lib.hid hz
  clear hz
  go_enter Try.func52, Try.ntmps52
  go_wp2_with fail
  refine HP.out.mono ?_
  rintro e w1 ⟨hb, ⟨c, p, ho, rfl, hT⟩ | ⟨ho, rfl⟩⟩
  · have hf : z = (txt (andL 255 (leastL (evC c))), 0) := by rw [← HZ.out, ho]; rfl
    have HF := Lib.hid hf
    have HL := Lib.hid (least_table p _ w1 hT)
    have hlen := leastL_len (evC c)
    have HG := Lib.hid (leastL_getD (evC c))
    generalize leastL (evC c) = l at *
    clear hf ho hT HZ HP
    go_wp2_with fail
    refine HL.out.mono ?_
    rintro e w2 ⟨v, rfl, hv, hb2⟩
    have HB := Lib.hid (hb.trans (hb2.mono hb.size))
    obtain ⟨a, cap, rfl, hc⟩ := hv.block
    have HC := Lib.hid hc
    clear hc hb hb2 HL hv
    go_wp2_with fail
    go_loop [6, 8, 21] (fun out _ i => ∃ k : Nat, k ≤ l.length ∧ i = .int .i64 k ∧ out = .int .i64 (andL 255 (l.take k) : Nat)) (fun _ _ i => l.length - (intOf i).toNat)
    case atStart => exact ⟨0, by omega, rfl, rfl⟩
    case round =>
      obtain ⟨k, hk, rfl, rfl⟩ := hrel
      have h1 := andL_lt (l.take k) 255 (by omega)
      by_cases hlt : k < l.length
      · obtain ⟨g, rfl, _, hcell⟩ := HC.out k hlt
        have h2 := HG.out k hlt
        have hb := bits_and _ _ h1 h2
        have HS := Lib.hid (andL_take l 255 k hlt)
        generalize andL 255 (l.take k) = A at *
        generalize l.getD k 0 = n at *
        have HBI := Lib.hid hb
        clear hb
        go_wp2_with fail
        go_round
        case rel => exact ⟨k + 1, by omega, by go_num, by rw [HS.out, HBI.out]⟩
        case measure => simp [intOf]; omega
      · obtain rfl : k = l.length := by omega
        rw [List.take_length] at *
        have HTX := Lib.hid (fun W => textOf_d _ h1 W)
        generalize andL 255 l = A at *
        go_wp2_with fail
        refine (HTX.out _).mono ?_
        rintro e w3 ⟨rfl, hb3, _⟩
        go_wp2_with fail
        go_ret2
        rw [HF.out]
        exact ⟨rfl, HB.out.trans (hb3.mono HB.out.size)⟩
  · have hf : z = ([], 90) := by rw [← HZ.out, ho]; rfl
    have HF := Lib.hid hf
    clear hf ho HZ
    go_wp2_with fail
    go_ret2
    rw [HF.out]
    exact ⟨rfl, hb⟩

set_option maxRecDepth 100000 in
theorem setOf_txt (n : Nat) (hn : n < 256) : setOf (txt n) = some n := by
  have : ((List.range 256).all fun n => setOf (txt n) == some n) = true := by decide +kernel
  rw [List.all_eq_true] at this
  simpa using this n (List.mem_range.2 hn)
theorem letK_256 (l : List UInt8) : letK l 8 < 256 := letK_lt l 8
def idleF (o : Option (List (List Part))) (s : List UInt8) : List UInt8 × Int := match o with
  | none => ([], 90)
  | some c => (txt (lessL (letK s 8) (leastL (evC c))), 0)

set_option maxHeartbeats 2000000 in
set_option maxRecDepth 100000 in
theorem idle_any (s : ByteArray) (w : World) (hm : s.size ≤ maxLen) :
    Calls Try.prog 51 #[.string s] w fun e w' => e = .returned (.tuple #[.string ⟨(idleF (circ s.data.toList) s.data.toList).1.toArray⟩, .int .i64 (idleF (circ s.data.toList) s.data.toList).2]) ∧ Below w.heap.size w w' := by
  have HP := Lib.hid (open_any s w hm)
  have hle := fun W => letters_any s W hm
  have hlf : ∀ c, circ s.data.toList = some c → lettersOf s.data.toList = (txt (letK s.data.toList 8), 0) := by
    intro c h
    unfold lettersOf
    rw [h]
  have HLF := Lib.hid hlf
  have HLE := Lib.hid hle
  have hK := letK_256 s.data.toList
  clear hle hlf
  have hmf : ∀ (fn : Fn) (first cap : Array Value) (w : World), (Instr.makeFunc fn first cap).run Try.prog w = .ok (.func fn first cap) w := fun _ _ _ _ => rfl
  generalize lettersOf s.data.toList = le at *
  have hzf : ∀ c, circ s.data.toList = some c → idleF (circ s.data.toList) s.data.toList = (txt (lessL (letK s.data.toList 8) (leastL (evC c))), 0) := fun c h => by rw [h]; rfl
  have hzn : circ s.data.toList = none → idleF (circ s.data.toList) s.data.toList = ([], 90) := fun h => by rw [h]; rfl
  have HZF := Lib.hid hzf
  have HZN := Lib.hid hzn
  clear hzf hzn
  generalize idleF (circ s.data.toList) s.data.toList = z at *
  generalize circ s.data.toList = o at *
  generalize letK s.data.toList 8 = K at *
  go_enter Try.func51, Try.ntmps51
  go_wp2_with fail
  refine HP.out.mono ?_
  rintro e w1 ⟨hb, ⟨c, p, ho, rfl, hT⟩ | ⟨ho, rfl⟩⟩
  · have HF := Lib.hid (HZF.out c ho)
    have hle2 := HLF.out c ho
    subst hle2
    clear ho HZF HZN HP HLF
    go_wp2_with fail
    refine (HLE.out _).mono ?_
    rintro e w2 ⟨rfl, hb2⟩
    have HB2 := Lib.hid (hb.trans (hb2.mono hb.size))
    have hT2 := hT.keep hb2
    clear hb hb2 hT HLE
    have hnum := fun W => number_any ⟨(txt K).toArray⟩ W (by rw [bsize]; have := txtTo_len K 8; unfold txt; omega)
    simp only [setOf_txt K hK] at hnum
    have HN := Lib.hid hnum
    clear hnum
    go_wp2_with fail
    refine (HN.out _).mono ?_
    rintro e w3 ⟨rfl, hb3⟩
    have HB3 := Lib.hid (HB2.out.trans (hb3.mono HB2.out.size))
    have hT3 := hT2.keep hb3
    have HL := Lib.hid (least_table p _ w3 hT3)
    clear hT2 hb3 HB2 HN hT3
    have hlen := leastL_len (evC c)
    have HG := Lib.hid (leastL_getD (evC c))
    generalize leastL (evC c) = l at *
    go_wp2_with fail
    refine HL.out.mono ?_
    rintro e w4 ⟨v, rfl, hv, hb4⟩
    have HB := Lib.hid (HB3.out.trans (hb4.mono HB3.out.size))
    obtain ⟨a, cap, rfl, hc⟩ := hv.block
    have HC := Lib.hid hc
    clear hc hb4 HL hv HB3
    go_wp2_with fail
    go_loop [8, 11, 34] (fun out _ i => ∃ k : Nat, k ≤ l.length ∧ i = .int .i64 k ∧ out = .int .i64 (lessL K (l.take k) : Nat)) (fun _ _ i => l.length - (intOf i).toNat)
    case atStart => exact ⟨0, by omega, rfl, rfl⟩
    case round =>
      obtain ⟨k, hk, rfl, rfl⟩ := hrel
      have h1 := lessL_lt (l.take k) K hK
      by_cases hlt : k < l.length
      · obtain ⟨g, rfl, _, hcell⟩ := HC.out k hlt
        have h2 := HG.out k hlt
        have hb := bits_andNot _ _ h1 h2
        have HS := Lib.hid (lessL_take l K k hlt)
        generalize lessL K (l.take k) = A at *
        generalize l.getD k 0 = n at *
        have HBI := Lib.hid hb
        clear hb
        go_wp2_with fail
        go_round
        case rel => exact ⟨k + 1, by omega, by go_num, by rw [HS.out, HBI.out]⟩
        case measure => simp [intOf]; omega
      · obtain rfl : k = l.length := by omega
        rw [List.take_length] at *
        have HTX := Lib.hid (fun W => textOf_d _ h1 W)
        generalize lessL K l = A at *
        go_wp2_with fail
        refine (HTX.out _).mono ?_
        rintro e w5 ⟨rfl, hb5, _⟩
        go_wp2_with fail
        go_ret2
        rw [HF.out]
        exact ⟨rfl, HB.out.trans (hb5.mono HB.out.size)⟩
  · have HF := Lib.hid (HZN.out ho)
    clear ho HZF HZN
    go_wp2_with fail
    go_ret2
    rw [HF.out]
    exact ⟨rfl, hb⟩
end Go.Proofs.Ytfoeamgjjhfkdaa

namespace Go.Proofs.Ytfoeamgjjhfkdaa
open Go Go.Shelf Go.RowKit Go.Proofs L9

/-- a set with a letter always in it, or never -/
def putL (closed : Bool) (n i : Nat) : Nat := if closed then i ||| n else i &&& (255 - n)
theorem putL_lt (closed : Bool) (n i : Nat) (hn : n < 256) (hi : i < 256) : putL closed n i < 256 := by
  unfold putL
  cases closed
  · exact Nat.lt_of_le_of_lt Nat.and_le_left hi
  · exact Nat.or_lt_two_pow (n := 8) hi hn
def fixedT (t : Nat → Bool) (closed : Bool) (n : Nat) : List UInt8 × Int := plainOf fun i => t (putL closed n i)
def fixedF (o : Option (List (List Part))) (q : Option Nat) (closed : Bool) : List UInt8 × Int := match o with
  | none => ([], 90)
  | some c => match q with
    | none => ([], 2)
    | some n => if pop n = 1 then fixedT (evC c) closed n else ([], 2)

/-- a table being filled -/
def FillTo (B : Nat) (f : Nat → Bool) (k : Nat) (w : World) : Prop :=
  ∃ A : Array Value, w.heap[B]? = some (.cells A 67 (0, 0)) ∧ A.size = 256 ∧ ∀ i, i < k → A[i]? = some (.bool (f i))
theorem FillTo.start (f : Nat → Bool) (w : World) : FillTo w.heap.size f 0 (w.alloc (.cells Try.zeroCells67 67)) :=
  ⟨_, alloc_last _ _, by kernel_rfl, fun i hi => by omega⟩
theorem FillTo.step {B : Nat} {f : Nat → Bool} {k : Nat} {w : World} (h : FillTo B f k w) : FillTo B f (k + 1) (w.setCell ⟨B, k, none⟩ (.bool (f k))) ∨ 256 ≤ k := by
  rcases Nat.lt_or_ge k 256 with hk | hk
  · left
    obtain ⟨A, h1, h2, h3⟩ := h
    refine ⟨A.setIfInBounds k (.bool (f k)), ?_, by simpa using h2, fun i hi => ?_⟩
    · simp [World.setCell, Array.getElem?_modify, h1]
    · rw [Array.getElem?_setIfInBounds]
      by_cases hik : k = i
      · subst hik; rw [if_pos rfl, if_pos (by omega)]
      · rw [if_neg hik]; exact h3 i (by omega)
  · exact Or.inr hk
theorem FillTo.store {B : Nat} {f : Nat → Bool} {k : Nat} {w : World} (h : FillTo B f k w) (hk : k < 256) : (∃ x, w.cell? ⟨B, k, none⟩ = some x) ∧ w.frozen? ⟨B, k, none⟩ = false := by
  obtain ⟨A, h1, h2, _⟩ := h
  exact ⟨⟨A[k]'(by omega), by rw [Lib.cell_of_heap h1, Array.getElem?_eq_getElem (by omega)]⟩, Lib.frozen_of_heap h1 k⟩
theorem FillTo.table {B : Nat} {f : Nat → Bool} {w : World} (h : FillTo B f 256 w) : TableAt w (.pointer (some ⟨B, 0, none⟩)) f := by
  obtain ⟨A, h1, _, h3⟩ := h
  exact ⟨B, rfl, heap_lt h1, fun i hi => by rw [Lib.cell_of_heap h1]; exact h3 i hi⟩

set_option maxHeartbeats 4000000 in
set_option maxRecDepth 100000 in
theorem fixed_any (s one : ByteArray) (closed : Bool) (w : World) (hm : s.size ≤ maxLen) (ho : one.size ≤ 1000000) :
    Calls Try.prog 80 #[.string s, .string one, .bool closed] w fun e w' => e = .returned (.tuple #[.string ⟨(fixedF (circ s.data.toList) (setOf one.data.toList) closed).1.toArray⟩, .int .i64 (fixedF (circ s.data.toList) (setOf one.data.toList) closed).2]) ∧ Below w.heap.size w w' := by
  have HP := Lib.hid (open_any s w hm)
  have HN := Lib.hid (fun W => number_any one W ho)
  have HQ := Lib.hid (setOf_lt one.data.toList)
  generalize circ s.data.toList = o at *
  generalize setOf one.data.toList = q at *
  generalize hz : fixedF o q closed = z
  have HZ := Lib.hid hz
  clear hz
  go_enter Try.func80, Try.ntmps80
  go_wp2_with fail
  refine HP.out.mono ?_
  rintro e w1 ⟨hb, ⟨c, p, ho, rfl, hT⟩ | ⟨ho, rfl⟩⟩
  · have HO := Lib.hid ho
    clear ho HP
    go_wp2_with fail
    refine (HN.out _).mono ?_
    rintro e w2 ⟨rfl, hb2⟩
    have HT := Lib.hid (hT.keep hb2)
    have HB := Lib.hid (hb.trans (hb2.mono hb.size))
    clear hb hb2 hT HN
    cases q with
    | none =>
      have hf : z = ([], 2) := by rw [← HZ.out, HO.out]; rfl
      have HF := Lib.hid hf
      clear hf HZ HO
      simp only [Option.getD_none, Option.isSome_none]
      go_wp2_with fail
      go_ret2
      rw [HF.out]
      exact ⟨rfl, HB.out⟩
    | some n =>
      have hn := HQ.out n rfl
      have HOC := Lib.hid (fun W => onesCount n hn W)
      have hpl := pop_le n
      have hf : z = if pop n = 1 then fixedT (evC c) closed n else ([], 2) := by rw [← HZ.out, HO.out]; rfl
      have HF := Lib.hid hf
      clear hf HZ HO
      simp only [Option.getD_some, Option.isSome_some]
      go_wp2_with fail
      refine (HOC.out _).mono ?_
      rintro e w3 ⟨rfl, rfl⟩
      by_cases hp1 : pop n = 1
      · rw [if_pos hp1] at HF
        rw [hp1]
        clear hp1 HOC hpl
        generalize evC c = t at *
        obtain ⟨b, rfl, hbl, hc⟩ := HT.out
        have HC := Lib.hid hc
        clear hc HT
        have hstart := FillTo.start (fun i => t (putL closed n i)) w3
        go_wp2_with fail
        go_loopw [13, 39] (fun _ i wr => ∃ m : Nat, m ≤ 256 ∧ i = .int .i64 m ∧ FillTo w3.heap.size (fun i => t (putL closed n i)) m wr ∧ Below w3.heap.size w3 wr) (fun _ i _ => 256 - (intOf i).toNat)
        case atStart => exact ⟨0, by omega, rfl, hstart, (Below.refl _ _).alloc (Nat.le_refl _) _⟩
        case round =>
          obtain ⟨m, hm2, rfl, hfill, hb1⟩ := hrel
          clear hstart
          by_cases hlt : m < 256
          · obtain ⟨⟨old, hold⟩, hfz⟩ := hfill.store hlt
            have hput := putL_lt closed n m hn hlt
            have hcell : wr.cell? ⟨b, putL closed n m, none⟩ = some (.bool (t (putL closed n m))) := by rw [hb1.cell (p := ⟨b, putL closed n m, none⟩) hbl]; exact HC.out _ hput
            have hst := hfill.step.resolve_right (by omega)
            have HST := Lib.hid hst
            clear hst hfill
            generalize t (putL closed n m) = x at *
            cases closed with
            | true =>
              have hbit := bits_or m n hlt hn
              change bits .or .i64 (m : Int) (n : Int) = ((putL true n m : Nat) : Int) at hbit
              generalize putL true n m = M at *
              go_wp2_with fail
              go_region
              go_wp2_with fail
              go_roundw
              case rel =>
                refine ⟨m + 1, by omega, by go_num, ?_, (hb1.setCell (p := ⟨w3.heap.size, m, none⟩) (Nat.le_refl _) _).drew⟩
                exact HST.out
              case measure => simp [intOf]; omega
            | false =>
              have hbit := bits_andNot m n hlt hn
              change bits .andNot .i64 (m : Int) (n : Int) = ((putL false n m : Nat) : Int) at hbit
              generalize putL false n m = M at *
              go_wp2_with fail
              go_region
              go_wp2_with fail
              go_roundw
              case rel =>
                refine ⟨m + 1, by omega, by go_num, ?_, (hb1.setCell (p := ⟨w3.heap.size, m, none⟩) (Nat.le_refl _) _).drew⟩
                exact HST.out
              case measure => simp [intOf]; omega
          · obtain rfl : m = 256 := by omega
            have HPL := Lib.hid (plainM_any _ _ wr hfill.table)
            change Hid (Calls _ _ _ _ fun e w' => e = .returned (.tuple #[.string ⟨(fixedT t closed n).1.toArray⟩, .int .i64 (fixedT t closed n).2]) ∧ _) at HPL
            clear hfill
            generalize fixedT t closed n = f at *
            go_wp2_with fail
            refine HPL.out.mono ?_
            rintro e w4 ⟨rfl, hb4⟩
            go_wp2_with fail
            go_ret2
            rw [HF.out]
            exact ⟨rfl, HB.out.trans ((hb1.trans (hb4.mono hb1.size)).mono HB.out.size)⟩
      · rw [if_neg hp1] at HF
        have hne : ((pop n : Int) == 1) = false := by rw [beq_eq_false_iff_ne]; omega
        have hne2 : ((pop n : Int) != 1) = true := by simpa using hne
        clear hp1 HOC HT
        generalize pop n = P at *
        go_wp2_with fail
        go_ret2
        rw [HF.out]
        exact ⟨rfl, HB.out⟩
  · have hf : z = ([], 90) := by rw [← HZ.out, ho]; rfl
    have HF := Lib.hid hf
    clear hf ho HZ HP
    go_wp2_with fail
    refine (HN.out _).mono ?_
    rintro e w2 ⟨rfl, hb2⟩
    have HB := Lib.hid (hb.trans (hb2.mono hb.size))
    clear hb hb2 HN
    generalize q.isSome = r
    generalize q.getD 0 = m
    go_wp2_with fail
    go_ret2
    rw [HF.out]
    exact ⟨rfl, HB.out⟩

theorem closed_any (s one : ByteArray) (w : World) (hm : s.size ≤ maxLen) (ho : one.size ≤ 1000000) :
    Calls Try.prog 42 #[.string s, .string one] w fun e w' => e = .returned (.tuple #[.string ⟨(fixedF (circ s.data.toList) (setOf one.data.toList) true).1.toArray⟩, .int .i64 (fixedF (circ s.data.toList) (setOf one.data.toList) true).2]) ∧ Below w.heap.size w w' := by
  have H := Lib.hid (fixed_any s one true w hm ho)
  generalize fixedF (circ s.data.toList) (setOf one.data.toList) true = z at *
  go_enter Try.func42, Try.ntmps42
  go_wp2_with fail
  refine H.out.mono ?_
  rintro e w1 ⟨rfl, hb⟩
  go_wp2_with fail
  go_ret2
  exact ⟨rfl, hb⟩
theorem opened_any (s one : ByteArray) (w : World) (hm : s.size ≤ maxLen) (ho : one.size ≤ 1000000) :
    Calls Try.prog 44 #[.string s, .string one] w fun e w' => e = .returned (.tuple #[.string ⟨(fixedF (circ s.data.toList) (setOf one.data.toList) false).1.toArray⟩, .int .i64 (fixedF (circ s.data.toList) (setOf one.data.toList) false).2]) ∧ Below w.heap.size w w' := by
  have H := Lib.hid (fixed_any s one false w hm ho)
  generalize fixedF (circ s.data.toList) (setOf one.data.toList) false = z at *
  go_enter Try.func44, Try.ntmps44
  go_wp2_with fail
  refine H.out.mono ?_
  rintro e w1 ⟨rfl, hb⟩
  go_wp2_with fail
  go_ret2
  exact ⟨rfl, hb⟩
end Go.Proofs.Ytfoeamgjjhfkdaa
