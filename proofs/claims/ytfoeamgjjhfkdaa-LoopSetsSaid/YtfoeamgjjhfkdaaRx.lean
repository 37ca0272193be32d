/- The reference's Needs, Idle. -/
import Derived.Test.YtfoeamgjjhfkdaaRw
namespace Go.Proofs.Ytfoeamgjjhfkdaa
open Go Go.Shelf Go.RowKit Go.Proofs L9

theorem needsF_some (x : List (List Part)) : needsF (some x) = (txt (ndTo (evC x) 8), 0) := by
  unfold needsF
  simp only
  rw [needs_eq (evC x) (grows_C x)]

set_option maxHeartbeats 4000000 in
set_option maxRecDepth 100000 in
theorem refNeeds (s : ByteArray) (w : World) (hm : s.size ≤ maxLen) :
    Calls Try.prog 55 #[.string s] w fun e w' => e = .returned (.tuple #[.string ⟨(needsF (circ s.data.toList)).1.toArray⟩, .int .i64 (needsF (circ s.data.toList)).2]) ∧ Below w.heap.size w w' := by
  have HA := Lib.hid (refAsked0 s w hm)
  unfold PostAsk0 at HA
  generalize circ s.data.toList = o at *
  generalize hz : needsF o = z
  have HZ := Lib.hid hz
  clear hz
  go_enter Try.func55, Try.ntmps55
  go_wp2_with fail
  refine HA.out.mono ?_
  rintro e w1 ⟨hb, ⟨x, ho, rfl⟩ | ⟨t, ho, rfl⟩⟩
  · obtain ⟨hb2, hT2⟩ := keepTab (t := evC x) hb
    have HS := Lib.hid (alloc_zeros w1)
    have HB2 := Lib.hid hb2
    have HT2 := Lib.hid hT2
    have hzz : z = (txt (ndTo (evC x) 8), 0) := by rw [← HZ.out, ho]; exact needsF_some x
    have HZZ := Lib.hid hzz
    clear hb hb2 hT2 ho HA HZ hzz
    go_wp2_with (refine wpList_store_row rfl 50 _ _ rfl w1.heap.size (tabArr (evC x)) rfl rfl 50 _ HS.out (by rw [tabArr_size]; exact info50) (by rw [tabArr_size, tabArr_size]) (tabArr_one _) ?_)
    generalize ((w1.alloc (.cells Try.zeroCells50 50)).setRow w1.heap.size (tabArr (evC x))) = W at *
    have HC := Lib.hid (tabCell HT2.out)
    generalize evC x = t at *
    go_loop [6, 7] (fun n i => ∃ k : Nat, k ≤ 8 ∧ i = .int .i64 k ∧ n = .int .i64 (ndTo t k : Nat)) (fun _ i => 8 - (intOf i).toNat)
    case atStart => exact ⟨0, by omega, rfl, rfl⟩
    case round =>
      obtain ⟨k, hk, rfl, rfl⟩ := hrel
      by_cases hlt : k < 8
      · have hpow : 2 ^ k < 256 := Nat.pow_lt_pow_right (n := 8) (by omega) hlt
        have hP := shl8 k hlt
        have hcell := HC.out (255 - 2 ^ k) (Nat.lt_of_le_of_lt (Nat.sub_le _ _) (by decide))
        have hnl := ndTo_lt t k (by omega)
        have hor := bits_or (ndTo t k) (2 ^ k) hnl hpow
        have hsu : ndTo t (k + 1) = if t (255 - 2 ^ k) then ndTo t k else ndTo t k ||| 2 ^ k := rfl
        generalize (2 ^ k : Nat) = P at *
        have hsub : 255 - (P : Int) = ((255 - P : Nat) : Int) := by omega
        have hq : 255 - P < 256 := by omega
        generalize 255 - P = q at *
        generalize ndTo t k = N at *
        generalize t q = y at *
        have HS := Lib.hid hsu
        have HOR := Lib.hid hor
        clear hsu hor
        cases y with
        | true =>
          go_wp2_with fail
          go_round
          case rel => exact ⟨k + 1, by omega, by go_num, by rw [HS.out]; rfl⟩
          case measure => simp [intOf]; omega
        | false =>
          go_wp2_with fail
          go_round
          case rel => exact ⟨k + 1, by omega, by go_num, by rw [HS.out, HOR.out]; rfl⟩
          case measure => simp [intOf]; omega
      · obtain rfl : k = 8 := by omega
        have HTX := Lib.hid (fun V => refText (ndTo t 8) (ndTo_lt t 8 (by omega)) V)
        generalize ndTo t 8 = N at *
        go_wp2_with fail
        refine (HTX.out _).mono ?_
        rintro e w2 ⟨rfl, rfl⟩
        go_wp2_with fail
        go_ret2
        rw [HZZ.out]
        exact ⟨rfl, HB2.out⟩
  · have HS := Lib.hid (alloc_zeros w1)
    obtain ⟨hb2, hT2⟩ := keepTab (t := t) hb
    have hzz : z = ([], 90) := by rw [← HZ.out, ho]; rfl
    have HZZ := Lib.hid hzz
    have HB2 := Lib.hid hb2
    clear ho hb hb2 hT2 HZ hzz
    go_wp2_with (refine wpList_store_row rfl 50 _ _ rfl w1.heap.size (tabArr t) rfl rfl 50 _ HS.out (by rw [tabArr_size]; exact info50) (by rw [tabArr_size, tabArr_size]) (tabArr_one _) ?_)
    go_ret2
    rw [HZZ.out]
    exact ⟨rfl, HB2.out⟩

set_option maxHeartbeats 4000000 in
set_option maxRecDepth 100000 in
theorem refIdle (s : ByteArray) (w : World) (hm : s.size ≤ maxLen) :
    Calls Try.prog 56 #[.string s] w fun e w' => e = .returned (.tuple #[.string ⟨(idleF (circ s.data.toList) s.data.toList).1.toArray⟩, .int .i64 (idleF (circ s.data.toList) s.data.toList).2]) ∧ Below w.heap.size w w' := by
  have HLE := Lib.hid (refLetters s w hm)
  have HR := Lib.hid (fun W => refRead s W hm)
  unfold PostRead at HR
  have hK := letK_256 s.data.toList
  have hcase : (∃ x, circ s.data.toList = some x ∧ lettersOf s.data.toList = (txt (letK s.data.toList 8), 0) ∧ idleF (circ s.data.toList) s.data.toList = (txt (lessL (letK s.data.toList 8) (leastL (evC x))), 0)) ∨ (circ s.data.toList = none ∧ lettersOf s.data.toList = ([], 90) ∧ idleF (circ s.data.toList) s.data.toList = ([], 90)) := by
    unfold lettersOf
    cases h : circ s.data.toList with
    | none => exact Or.inr ⟨rfl, rfl, rfl⟩
    | some x => exact Or.inl ⟨x, rfl, rfl, rfl⟩
  have HCASE := Lib.hid hcase
  clear hcase
  generalize lettersOf s.data.toList = le at *
  generalize idleF (circ s.data.toList) s.data.toList = z at *
  generalize circ s.data.toList = o at *
  generalize letK s.data.toList 8 = K at *
  go_enter Try.func56, Try.ntmps56
  go_wp2_with fail
  refine HLE.out.mono ?_
  rintro e w1 ⟨rfl, hb⟩
  have HB := Lib.hid hb
  clear hb HLE
  rcases HCASE.out with ⟨x, ho, rfl, hz⟩ | ⟨ho, rfl, hz⟩
  · have HZ := Lib.hid hz
    have HO := Lib.hid ho
    clear hz ho HCASE
    go_wp2_with fail
    refine (HR.out _).mono ?_
    rintro e w2 ⟨t, rfl, hb2, ht⟩
    have htt : tabArr t = tabArr (evC x) := tabArr_congr fun i hi => ht x HO.out i hi
    rw [htt]
    have hb2' := HB.out.trans (hb2.mono HB.out.size)
    obtain ⟨hb3, hT3⟩ := keepTab (t := evC x) hb2'
    have HS := Lib.hid (alloc_zeros w2)
    have HB3 := Lib.hid hb3
    have HT3 := Lib.hid hT3
    have HBI := Lib.hid (fun W => refBits ⟨(txt K).toArray⟩ K W (by rw [bsize]; have := txtTo_len K 8; unfold txt; omega) (setOf_txt K hK))
    clear hb2 ht htt hb2' hb3 hT3 HR HO
    generalize hoi : o.isSome = oi
    clear hoi
    go_wp2_with (refine wpList_store_row rfl 50 _ _ rfl w2.heap.size (tabArr (evC x)) rfl rfl 50 _ HS.out (by rw [tabArr_size]; exact info50) (by rw [tabArr_size, tabArr_size]) (tabArr_one _) ?_)
    generalize ((w2.alloc (.cells Try.zeroCells50 50)).setRow w2.heap.size (tabArr (evC x))) = W at *
    refine (HBI.out _).mono ?_
    rintro e w3 ⟨rfl, rfl⟩
    have HL := Lib.hid (fun V => refLeast (evC x) V)
    have HE := Lib.hid (least_eq _ (grows_C x))
    change Hid ((order.filter (isMin1 (evC x))).map txt = (leastL (evC x)).map txt) at HE
    have hll := leastL_len (evC x)
    have HMEM := Lib.hid (leastL_mem (evC x))
    go_wp2_with (refine wpList_load_row rfl 50 _ rfl w2.heap.size rfl 50 (tabArr (evC x)) (0, 0) _ HT3.out Try.underlying50 rfl (by rw [tabArr_size]; exact info50) ?_)
    refine (HL.out _).mono ?_
    rintro e w4 ⟨u, rfl, hu, hb4⟩
    rw [HE.out] at hu
    have HB4 := Lib.hid (HB3.out.trans (hb4.mono HB3.out.size))
    obtain ⟨a, cap, rfl, hc⟩ := hu.form
    have HC := Lib.hid hc
    clear hc hu hb4 HL HE HS HT3 HB3 HBI HB
    generalize leastL (evC x) = L at *
    rw [List.length_map] at *
    go_wp2_with fail
    go_loop [8, 10] (fun n i => ∃ k : Nat, k ≤ L.length ∧ i = .int .i64 k ∧ n = .int .i64 (lessL K (L.take k) : Nat)) (fun _ i => L.length - (intOf i).toNat)
    case atStart => exact ⟨0, by omega, rfl, rfl⟩
    case round =>
      obtain ⟨k, hk, rfl, rfl⟩ := hrel
      have h1 := lessL_lt (L.take k) K hK
      by_cases hlt : k < L.length
      · obtain ⟨g, rfl, hcell⟩ := HC.out k hlt
        have hn : L.getD k 0 < 256 := (HMEM.out _ (by rw [List.getD_eq_getElem?_getD, List.getElem?_eq_getElem hlt]; exact List.getElem_mem hlt)).1
        have hg2 : (L.map txt).getD k [] = txt (L.getD k 0) := by
          simp [List.getD_eq_getElem?_getD, List.getElem?_eq_getElem hlt]
        rw [hg2] at hcell
        have HS := Lib.hid (lessL_take L K k hlt)
        generalize L.getD k 0 = n at *
        have HBI := Lib.hid (fun W => refBits ⟨(txt n).toArray⟩ n W (by rw [bsize]; have := txtTo_len n 8; unfold txt; omega) (setOf_txt n hn))
        have hsub : 255 - (n : Int) = ((255 - n : Nat) : Int) := by omega
        have hand := bits_and (lessL K (L.take k)) (255 - n) h1 (by omega)
        have hq : 255 - n < 256 := by omega
        generalize lessL K (L.take k) = A at *
        generalize 255 - n = q at *
        have HAND := Lib.hid hand
        clear hand hg2
        go_wp2_with fail
        refine (HBI.out _).mono ?_
        rintro e w5 ⟨rfl, rfl⟩
        go_wp2_with fail
        go_round
        case rel => exact ⟨k + 1, by omega, by go_num, by rw [HS.out, HAND.out]⟩
        case measure => simp [intOf]; omega
      · obtain rfl : k = L.length := by omega
        rw [List.take_length] at *
        have HTX := Lib.hid (fun W => refText _ h1 W)
        generalize lessL K L = A at *
        go_wp2_with fail
        refine (HTX.out _).mono ?_
        rintro e w5 ⟨rfl, rfl⟩
        go_wp2_with fail
        go_ret2
        rw [HZ.out]
        exact ⟨rfl, HB4.out⟩
  · have HZ := Lib.hid hz
    clear hz ho HCASE
    go_wp2_with fail
    go_ret2
    rw [HZ.out]
    exact ⟨rfl, HB.out⟩
end Go.Proofs.Ytfoeamgjjhfkdaa
