/- The reference's plain, Plain, Differ, Same, Within. -/
import Derived.Test.YtfoeamgjjhfkdaaRq
namespace Go.Proofs.Ytfoeamgjjhfkdaa
open Go Go.Shelf Go.RowKit Go.Proofs L9

theorem join_snoc (L : List (List UInt8)) (x s : List UInt8) (h : L ≠ []) : Lib.join (L ++ [x]) s = Lib.join L s ++ s ++ x := by
  cases L with
  | nil => exact absurd rfl h
  | cons y r => rw [List.cons_append, Lib.join_cons, Lib.join_cons]; simp [Lib.joinTail, List.append_assoc]
def jn (L : List (List UInt8)) (k : Nat) : List UInt8 := Lib.join (L.take k) [43]
theorem jn_zero (L : List (List UInt8)) : jn L 0 = [] := rfl
theorem jn_first (L : List (List UInt8)) (h : 0 < L.length) : jn L 1 = L.getD 0 [] := by
  cases L with
  | nil => simp at h
  | cons x r => unfold jn; simp [Lib.join_one]
theorem jn_next (L : List (List UInt8)) (k : Nat) (h0 : 0 < k) (h : k < L.length) : jn L (k + 1) = jn L k ++ [43] ++ L.getD k [] := by
  unfold jn
  rw [List.take_succ_eq_append_getElem h, join_snoc _ _ _ (by intro e; have := congrArg List.length e; rw [List.length_take, List.length_nil] at this; omega), List.getD_eq_getElem?_getD, List.getElem?_eq_getElem h]
  rfl
theorem jn_all (L : List (List UInt8)) : jn L L.length = Lib.join L [43] := by unfold jn; rw [List.take_length]
theorem jn_len (t : Nat → Bool) (k : Nat) : (jn ((leastL t).map txt) k).length ≤ 2304 := by
  unfold jn
  have h := join_le [43] 8 (((leastL t).map txt).take k) (by
    intro x hx
    obtain ⟨n, _, rfl⟩ := List.mem_map.1 (List.mem_of_mem_take hx)
    exact txtTo_len n 8)
  have h1 := leastL_len t
  have h2 := List.length_take_le k ((leastL t).map txt)
  have h3 := List.length_take_le' k ((leastL t).map txt)
  rw [List.length_map] at h3
  simp only [List.length_cons, List.length_nil] at h
  omega
def refPl (t : Nat → Bool) : List UInt8 × Int := if 40 < (plainT t).length then ([], 4) else (plainT t, 0)

set_option maxHeartbeats 2000000 in
set_option maxRecDepth 100000 in
theorem refPlainM (t : Nat → Bool) (ht : Grows t) (w : World) :
    Calls Try.prog 75 #[.agg (tabArr t)] w fun e w' => e = .returned (.tuple #[.string ⟨(refPl t).1.toArray⟩, .int .i64 (refPl t).2]) ∧ Below w.heap.size w w' := by
  have HL := Lib.hid (fun W => refLeast t W)
  have HE := Lib.hid (least_eq t ht)
  have hll := leastL_len t
  have HJL := Lib.hid (jn_len t)
  have HJA := Lib.hid (jn_all ((leastL t).map txt))
  change Hid (jn _ _ = plainT t) at HJA
  have HRP : Hid (refPl t = if 40 < (plainT t).length then ([], 4) else (plainT t, 0)) := Lib.hid rfl
  have HSZ := Lib.hid (tabArr_size t)
  generalize refPl t = z at *
  generalize plainT t = pl at *
  generalize hA : tabArr t = A at *
  have HAA := Lib.hid hA
  clear hA
  have hc0 := alloc_last w (.cells A 50)
  have HC0 := Lib.hid hc0
  clear hc0
  go_enter Try.func75, Try.ntmps75
  go_wp2_with (refine wpList_load_row rfl 50 _ rfl w.heap.size rfl 50 A (0, 0) _ HC0.out Try.underlying50 rfl (by rw [HSZ.out]; exact info50) ?_)
  refine (HL.out _).mono ?_
  rintro e w1 ⟨u, rfl, hu, hb⟩
  rw [HE.out] at hu
  have HB := Lib.hid ((((Below.refl _ _).alloc (Nat.le_refl _) (.cells A 50)).trans (hb.mono (by simp))) : Below w.heap.size w w1)
  obtain ⟨a, cap, rfl, hc⟩ := hu.form
  have HC := Lib.hid hc
  have hlen : ((leastL t).map txt).length ≤ 256 := by rw [List.length_map]; exact hll
  clear hc hu hb HL HE hll
  generalize (leastL t).map txt = L at *
  generalize hN : L.length = N at *
  have HN := Lib.hid hN
  clear hN
  go_wp2_with fail
  go_loop [4, 6] (fun out i => ∃ (k : Nat) (S : ByteArray), k ≤ N ∧ i = .int .i64 k ∧ out = .string S ∧ S.data.toList = jn L k) (fun _ i => N - (intOf i).toNat)
  case atStart => exact ⟨0, _, by omega, rfl, rfl, (jn_zero L).symm⟩
  case round =>
    obtain ⟨k, S, hk, rfl, rfl, hS⟩ := hrel
    have hSz : S.size ≤ 2304 := by rw [← size_list, hS]; exact HJL.out k
    have HS := Lib.hid hS
    clear hS
    by_cases hlt : k < N
    · obtain ⟨g, rfl, hcell⟩ := HC.out k hlt
      have hx2 : (⟨(L.getD k []).toArray⟩ : ByteArray).data.toList = L.getD k [] := rfl
      have hxs : (⟨(L.getD k []).toArray⟩ : ByteArray).size ≤ 2304 := by
        rw [← size_list, hx2]
        have := HJL.out (k + 1)
        rcases Nat.eq_zero_or_pos k with h0 | h0
        · subst h0
          rw [jn_first L (by rw [HN.out]; exact hlt)] at this
          exact this
        · rw [jn_next L k h0 (by rw [HN.out]; exact hlt), List.length_append] at this
          omega
      have HX := Lib.hid hx2
      clear hx2
      rcases Nat.eq_zero_or_pos k with h0 | h0
      · subst h0
        have hj := jn_first L (by rw [HN.out]; exact hlt)
        have HJ := Lib.hid hj
        clear hj
        generalize L.getD 0 [] = xl at *
        generalize (⟨xl.toArray⟩ : ByteArray) = X at *
        go_wp2_with fail
        go_round
        case rel => exact ⟨1, _, by omega, rfl, rfl, by rw [ba_append, HS.out, HX.out, HJ.out, jn_zero]; rfl⟩
        case measure => simp [intOf]; omega
      · have hj := jn_next L k h0 (by rw [HN.out]; exact hlt)
        have HJ := Lib.hid hj
        clear hj
        generalize L.getD k [] = xl at *
        generalize (⟨xl.toArray⟩ : ByteArray) = X at *
        go_wp2_with fail
        go_round
        case rel => exact ⟨k + 1, _, by omega, by go_num, rfl, by rw [ba_append, ba_append, HS.out, HX.out, HJ.out]⟩
        case measure => simp [intOf]; omega
    · obtain rfl : k = N := by omega
      have hS2 : S.data.toList = pl := by
        rw [HS.out]
        exact HJA.out
      obtain rfl : S = ⟨pl.toArray⟩ := ba_ext (by rw [hS2])
      have hz := bsize pl
      clear hS2
      by_cases h40 : 40 < pl.length
      · rw [if_pos h40] at HRP
        have HR := HRP
        go_wp2_with fail
        go_ret2
        rw [HRP.out]
        exact ⟨rfl, HB.out⟩
      · rw [if_neg h40] at HRP
        go_wp2_with fail
        go_ret2
        rw [HRP.out]
        exact ⟨rfl, HB.out⟩

theorem plainC_some {s : List UInt8} {x : List (List Part)} (h : circ s = some x) : plainC s = refPl (evC x) := by
  obtain ⟨_, h1, h2, _⟩ := circ_text h
  unfold plainC
  rw [h]
  show plainOf (evC x) = _
  unfold plainOf
  rw [evC_none x h2, evC_all x h1 h2]
  rfl
theorem plainC_none {s : List UInt8} (h : circ s = none) : plainC s = ([], 90) := by unfold plainC; rw [h]

set_option maxHeartbeats 2000000 in
set_option maxRecDepth 100000 in
theorem refPlain (s : ByteArray) (w : World) (hm : s.size ≤ maxLen) :
    Calls Try.prog 35 #[.string s] w fun e w' => e = .returned (.tuple #[.string ⟨(plainC s.data.toList).1.toArray⟩, .int .i64 (plainC s.data.toList).2]) ∧ Below w.heap.size w w' := by
  have HA := Lib.hid (refAsked0 s w hm)
  unfold PostAsk0 at HA
  have HP1 := Lib.hid (fun x h => plainC_some (s := s.data.toList) (x := x) h)
  have HP2 := Lib.hid (plainC_none (s := s.data.toList))
  generalize plainC s.data.toList = z at *
  generalize circ s.data.toList = o at *
  go_enter Try.func35, Try.ntmps35
  go_wp2_with fail
  refine HA.out.mono ?_
  rintro e w1 ⟨hb, ⟨x, ho, rfl⟩ | ⟨t, ho, rfl⟩⟩
  · obtain ⟨hb2, hT2⟩ := keepTab (t := evC x) hb
    have HS := Lib.hid (alloc_zeros w1)
    have HB2 := Lib.hid hb2
    have HT2 := Lib.hid hT2
    have HL := Lib.hid (fun W => refPlainM (evC x) (grows_C x) W)
    have hz := HP1.out x ho
    rw [← hz] at HL
    clear hb hb2 hT2 ho HA hz HP1 HP2
    go_wp2_with (first | (refine wpList_store_row rfl 50 _ _ rfl w1.heap.size (tabArr (evC x)) rfl rfl 50 _ HS.out (by rw [tabArr_size]; exact info50) (by rw [tabArr_size, tabArr_size]) (tabArr_one _) ?_) | (refine wpList_load_row rfl 50 _ rfl w1.heap.size rfl 50 (tabArr (evC x)) (0, 0) _ HT2.out Try.underlying50 rfl (by rw [tabArr_size]; exact info50) ?_))
    refine (HL.out _).mono ?_
    rintro e w2 ⟨rfl, hb3⟩
    have HB3 := Lib.hid (HB2.out.trans (hb3.mono HB2.out.size))
    clear hb3
    go_wp2_with fail
    go_ret2
    exact ⟨rfl, HB3.out⟩
  · have HS := Lib.hid (alloc_zeros w1)
    obtain ⟨hb2, hT2⟩ := keepTab (t := t) hb
    have HZ := Lib.hid (HP2.out ho)
    have HB2 := Lib.hid hb2
    clear ho hb hb2 hT2 HP1 HP2
    go_wp2_with (refine wpList_store_row rfl 50 _ _ rfl w1.heap.size (tabArr t) rfl rfl 50 _ HS.out (by rw [tabArr_size]; exact info50) (by rw [tabArr_size, tabArr_size]) (tabArr_one _) ?_)
    go_ret2
    rw [HZ.out]
    exact ⟨rfl, HB2.out⟩
end Go.Proofs.Ytfoeamgjjhfkdaa
