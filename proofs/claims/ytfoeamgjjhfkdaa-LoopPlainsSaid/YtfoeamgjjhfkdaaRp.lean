/- The reference's least. -/
import Derived.Test.YtfoeamgjjhfkdaaRo
import Derived.Test.YtfoeamgjjhfkdaaUd
namespace Go.Proofs.Ytfoeamgjjhfkdaa
open Go Go.Shelf Go.RowKit Go.Proofs L9

/-- the reference's test, letter by letter -/
def minTo (t : Nat → Bool) (n k : Nat) : Bool := t n && (List.range k).all fun j => !(n.testBit j && t (n - 2 ^ j))
theorem minTo_succ (t : Nat → Bool) (n k : Nat) : minTo t n (k + 1) = (minTo t n k && !(n.testBit k && t (n - 2 ^ k))) := by
  unfold minTo
  rw [List.range_succ, List.all_append, List.all_cons, List.all_nil, Bool.and_true, Bool.and_assoc]
theorem minTo_8 (t : Nat → Bool) (n : Nat) : minTo t n 8 = isMin1 t n := rfl
theorem shl8 (m : Nat) (hm : m < 8) : wrap64 ((2 : Int) ^ m) = ((2 ^ m : Nat) : Int) := by
  revert hm; revert m; decide +kernel
theorem powLe (n k : Nat) (h : n.testBit k = true) : 2 ^ k ≤ n := pow_le_of_bit h

def minsTo (t : Nat → Bool) (i : Nat) : List Nat := (order.take i).filter (isMin1 t)
theorem minsTo_succ (t : Nat → Bool) (i : Nat) (hi : i < 256) : minsTo t (i + 1) = if isMin1 t (order.getD i 0) then minsTo t i ++ [order.getD i 0] else minsTo t i := by
  unfold minsTo
  rw [List.take_succ_eq_append_getElem (by rw [order_len]; exact hi), List.filter_append, List.getD_eq_getElem?_getD, List.getElem?_eq_getElem (by rw [order_len]; exact hi)]
  cases h : isMin1 t (order[i]'(by rw [order_len]; exact hi)) <;> simp [h]
theorem minsTo_len (t : Nat → Bool) (i : Nat) : (minsTo t i).length ≤ i := by
  unfold minsTo
  have h1 := List.length_filter_le (isMin1 t) (order.take i)
  have h2 := List.length_take_le i order
  omega
theorem minsTo_all (t : Nat → Bool) : minsTo t 256 = order.filter (isMin1 t) := by
  unfold minsTo
  rw [List.take_of_length_le (by rw [order_len]; exact Nat.le_refl _)]
def strV (t : List UInt8) : Value := .string ⟨t.toArray⟩

set_option maxHeartbeats 4000000 in
set_option maxRecDepth 100000 in
theorem refLeast (t : Nat → Bool) (w : World) :
    Calls Try.prog 62 #[.agg (tabArr t)] w fun e w' => ∃ u, e = .returned u ∧ StrsR w' u ((order.filter (isMin1 t)).map txt) ∧ Below w.heap.size w w' := by
  have hi' : (Try.prog.info? 9).map (fun i => (i.zero, i.size, i.bytes)) = some (some (.string ⟨#[]⟩), 1, 16) := by kernel_rfl
  obtain ⟨i0, hi, hz0, hz1, hz2⟩ := info_parts hi'
  clear hi'
  have hget : ∀ i, i < 256 → (tabArr t)[i]? = some (.bool (t i)) := fun i hi => tab_get t i hi
  have HGET := Lib.hid hget
  clear hget
  generalize tabArr t = A at *
  go_enter Try.func62, Try.ntmps62
  go_wp2_with fail
  refine (refSets _).mono ?_
  rintro e w1 ⟨v, rfl, hv, hb0⟩
  have hsz0 := hb0.size
  have hA0 : Below w.heap.size w (w.alloc (.cells A 50)) := (Below.refl _ _).alloc (Nat.le_refl _) _
  have hBB := hA0.trans (hb0.mono hA0.size)
  have hcA : ∀ i, i < 256 → w1.cell? ⟨w.heap.size, i, none⟩ = some (.bool (t i)) := by
    intro i hi
    rw [hb0.cell (p := ⟨w.heap.size, i, none⟩) (by simp), Lib.cell_of_heap (alloc_last w _)]
    exact HGET.out i hi
  have hlt0 : w.heap.size < w1.heap.size := by simp at hsz0; omega
  obtain ⟨a, cap, rfl, hc⟩ := hv.block
  rw [order_len] at *
  have HBB := Lib.hid hBB
  have HCA := Lib.hid hcA
  have HC := Lib.hid hc
  clear hb0 hA0 hBB hcA hc hsz0 hv HGET
  go_wp2_with fail
  go_loopw [3, 5, 6, 7, 8] (fun out i _ _ _ wr => ∃ k : Nat, k ≤ 256 ∧ i = .int .i64 k ∧ wr.ownsRow w1.heap.size 9 1 out (minsTo t k).length (((minsTo t k).map txt).map strV) ∧ Below w1.heap.size w1 wr) (fun _ i _ _ _ _ => 256 - (intOf i).toNat)
  case atStart => exact ⟨0, by omega, rfl, World.ownsRow_nil _ _ _ _, Below.refl _ _⟩
  case round =>
    obtain ⟨k, hk, rfl, hown, hb⟩ := hrel
    have hsz := hb.size
    by_cases hlt : k < 256
    · obtain ⟨g, rfl, hg, hcell0⟩ := HC.out k hlt
      have hn := order_getD k hlt
      have hcell : wr.cell? ⟨g, k, none⟩ = some (.int .i64 (order.getD k 0 : Nat)) := by rw [hb.cell (p := ⟨g, k, none⟩) hg]; exact hcell0
      have hsucc := minsTo_succ t k hlt
      have hml := minsTo_len t k
      generalize order.getD k 0 = n at *
      have hcn : ∀ j, j < 256 → wr.cell? ⟨w.heap.size, j, none⟩ = some (.bool (t j)) := fun j hj => by rw [hb.cell (p := ⟨w.heap.size, j, none⟩) hlt0]; exact HCA.out j hj
      have hcell1 := hcn n hn
      have hm0 : t n = minTo t n 0 := by unfold minTo; simp
      rw [hm0] at hcell1
      have HM := Lib.hid (minTo_succ t n)
      have H8 := Lib.hid (minTo_8 t n)
      have HOW := Lib.hid hown
      have HCN := Lib.hid hcn
      have HSU := Lib.hid hsucc
      clear hcn hsucc hown hm0 hcell0
      go_wp2_with fail
      go_loop [7, 8] (fun ok j => ∃ m : Nat, m ≤ 8 ∧ j = .int .i64 m ∧ ok = .bool (minTo t n m)) (fun _ j => 8 - (intOf j).toNat)
      case atStart => exact ⟨0, by omega, rfl, rfl⟩
      case round =>
        obtain ⟨m, hm, rfl, rfl⟩ := hrel
        by_cases hm8 : m < 8
        · have hms := HM.out m
          have hbit := bit_test n m hn hm8
          generalize minTo t n m = x at *
          cases hb2 : n.testBit m with
          | false =>
            rw [hb2] at hbit hms
            have HMS := Lib.hid hms
            clear hms hb2 hcell hcell1
            go_wp2_with fail
            go_round
            case rel => exact ⟨m + 1, by omega, by go_num, by rw [HMS.out]; simp⟩
            case measure => simp [intOf]; omega
          | true =>
            rw [hb2] at hbit hms
            have hpow := pow_le_of_bit hb2
            have hcell2 := HCN.out (n - 2 ^ m) (Nat.lt_of_le_of_lt (Nat.sub_le _ _) hn)
            have hP := shl8 m hm8
            have hsub : (n : Int) - ((2 ^ m : Nat) : Int) = ((n - 2 ^ m : Nat) : Int) := (Int.ofNat_sub hpow).symm
            have hlt3 : n - 2 ^ m < 256 := Nat.lt_of_le_of_lt (Nat.sub_le _ _) hn
            rw [Bool.true_and] at hms
            generalize t (n - 2 ^ m) = y at *
            generalize n - 2 ^ m = q at *
            generalize (2 ^ m : Nat) = P at *
            cases y with
            | false =>
              have HMS := Lib.hid hms
              clear hms hb2 hcell hcell1
              go_wp2_with fail
              go_round
              case rel => exact ⟨m + 1, by omega, by go_num, by rw [HMS.out]; simp⟩
              case measure => simp [intOf]; omega
            | true =>
              have HMS := Lib.hid hms
              clear hms hb2 hcell hcell1
              go_wp2_with fail
              go_round
              case rel => exact ⟨m + 1, by omega, by go_num, by rw [HMS.out]; simp⟩
              case measure => simp [intOf]; omega
        · obtain rfl : m = 8 := by omega
          rw [H8.out]
          clear hcell hcell1
          cases hx : isMin1 t n with
          | false =>
            have hsu : minsTo t (k + 1) = minsTo t k := by rw [HSU.out, if_neg (by rw [hx]; simp)]
            have HS := Lib.hid hsu
            clear hsu HSU hx
            go_wp2_with fail
            go_roundw
            case rel => exact ⟨k + 1, by omega, by go_num, by rw [HS.out]; exact HOW.out, hb⟩
            case measure => simp [intOf]; omega
          | true =>
            have hsu : minsTo t (k + 1) = minsTo t k ++ [n] := by rw [HSU.out, if_pos hx]
            have HS := Lib.hid hsu
            have HTX := Lib.hid (fun W => refText n hn W)
            clear hsu HSU hx
            go_wp2_with fail
            refine (HTX.out _).mono ?_
            rintro e w2 ⟨rfl, rfl⟩
            have HL := Lib.hid (fun k hk => (HOW.out.lt k hk).1)
            have HO1 := Lib.hid (HOW.out.alloc (.cells #[.string ⟨(txt n).toArray⟩] 9))
            go_wp2_with (at_builtin; refine wpList_append_own _ rfl _ _ 24 rfl w1.heap.size 9 i0 (.string ⟨#[]⟩) 1 16 Try.underlying24 hi hz0 hz1 hz2 rfl (by decide) _ _ _ rfl HO1.out ⟨w2.heap.size, 0, none⟩ 1 1 [.string ⟨(txt n).toArray⟩] rfl rfl ?c1 ?c2 ?c3 ?c4 ?c5 ?_)
            case c1 => intro j u hj; match j, hj with | 0, hj => simp at hj; subst hj; exact new_cell _ _ _ 0 _ rfl
            case c2 => intro u hu; simp at hu; subst hu; rfl
            case c3 => unfold maxLen; omega
            case c4 => omega
            case c5 => simp; omega
            intro v' w3 hown' hgrow _
            have HO := Lib.hid hown'
            have HG := Lib.hid hgrow
            clear hown' hgrow HO1
            go_wp2_with fail
            go_roundw
            case rel =>
              refine ⟨k + 1, by omega, by go_num, ?_, ?_⟩
              · rw [HS.out, List.length_append, List.map_append, List.map_append, List.map_map]
                exact HO.out
              · exact ((hb.alloc (by omega) _).grown HG.out (by simp; omega) HL.out)
            case measure => simp [intOf]; omega
    · obtain rfl : k = 256 := by omega
      rw [minsTo_all] at hown
      have h1 : wr.ownsRow w1.heap.size 9 1 u3 (order.filter (isMin1 t)).length (((order.filter (isMin1 t)).map txt).map fun x => Value.string ⟨x.toArray⟩) := hown
      have HR := Lib.hid (owns_StrsR h1).1
      clear hown h1
      go_wp2_with fail
      go_ret
      exact ⟨_, rfl, HR.out, HBB.out.trans (hb.mono HBB.out.size)⟩
end Go.Proofs.Ytfoeamgjjhfkdaa
