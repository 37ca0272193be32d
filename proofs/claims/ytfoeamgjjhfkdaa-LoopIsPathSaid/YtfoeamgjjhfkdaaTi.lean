/- The dual of a circuit; circuits in memory. -/
import Derived.Test.YtfoeamgjjhfkdaaTh
namespace Go.Proofs.Ytfoeamgjjhfkdaa
open Go.Shelf Go.RowKit Go.Proofs L9

theorem dtM_append (a b : List (List Part)) : dtM (a ++ b) = dtM a ++ dtM b := by
  induction a with
  | nil => rfl
  | cons x a ih => simp only [List.cons_append, dtM, ih, List.append_assoc]
theorem dtM_take (c : List (List Part)) (k : Nat) (hk : k < c.length) : dtM (c.take (k + 1)) = dtM (c.take k) ++ wrapT (dtB c[k]) := by
  rw [List.take_succ_eq_append_getElem hk, dtM_append]
  simp [dtM]
theorem dtM_take_le (c : List (List Part)) (k : Nat) : (dtM (c.take k)).length ≤ (dtM c).length := by
  have h : dtM c = dtM (c.take k) ++ dtM (c.drop k) := by rw [← dtM_append, List.take_append_drop]
  rw [h, List.length_append]; omega
theorem dtB_le_M (c : List (List Part)) (b : List Part) (hb : b ∈ c) : (dtB b).length ≤ (dtM c).length := by
  induction c with
  | nil => cases hb
  | cons x c ih =>
    simp only [dtM, List.length_append]
    rcases List.mem_cons.1 hb with rfl | h
    · have : (dtB b).length ≤ (wrapT (dtB b)).length := by unfold wrapT; split <;> simp; omega
      omega
    · have := ih h; omega
theorem dtC_many (b b' : List Part) (c : List (List Part)) : dtC (b :: b' :: c) = dtM (b :: b' :: c) := rfl
theorem dtC_one (b : List Part) : dtC [b] = dtB b := by simp [dtC, dtM]
theorem strCells_bytes (l : List UInt8) : Lib.strCells ⟨l.toArray⟩ = Lib.byteCells l := by
  simp [Lib.strCells, Lib.byteCells]

theorem bsize (l : List UInt8) : (ByteArray.mk l.toArray).size = l.length := by show l.toArray.size = _; simp
theorem cat_brackets (d : List UInt8) : (ByteArray.mk #[40] ++ ByteArray.mk d.toArray ++ ByteArray.mk #[41]) = ⟨(40 :: (d ++ [41])).toArray⟩ := by
  apply ByteArray.ext
  simp
theorem builder_keep {T e : TypeId} {B b : Nat} {bs : List Value} {w w' : World} (h : Lib.IsBuilder T e B b bs w) (hb : Below w.heap.size w w') : Lib.IsBuilder T e B b bs w' := by
  have key : ∀ p, Lib.BuilderAt T e B b p bs w → Lib.BuilderAt T e B b p bs w' := by
    intro p hp
    have hlt := hp.lt
    obtain ⟨h1, v, h2, h3, h4⟩ := hp
    exact ⟨h1, v, by rw [hb.block b hlt]; exact h2, h3.kept (grown_none hb) (Classical.em _), h4⟩
  exact h.imp (key _) (key _)

set_option maxHeartbeats 2000000 in
set_option maxRecDepth 100000 in
theorem circuitDual (lo hi : Nat) (w : World) (v : Value) (c : List (List Part)) (hv : IsCs lo hi w v c) (hne : c ≠ []) (hcl : c.length ≤ 1000) (hbl : ∀ b ∈ c, b ≠ [] ∧ b.length ≤ 1000 ∧ Ascii (dtB b)) (hdl : (dtM c).length ≤ 100000) :
    Calls Try.prog 69 #[v] w fun e w' => e = .returned (.string ⟨(dtC c).toArray⟩) ∧ Below w.heap.size w w' := by
  obtain ⟨hhi, g, cap, rfl, hlo, hghi, hc⟩ := hv
  have hpos := List.length_pos_iff.2 hne
  by_cases h1 : c.length = 1
  · obtain ⟨b, rfl⟩ := List.length_eq_one_iff.1 h1
    obtain ⟨u, lo', hi', hl, hh, hcell, hib⟩ := hc 0 b rfl
    have hb := hbl b (by simp)
    have hcall := branchDual lo' hi' w u b hib hb.1 hb.2.1 (by have := dtB_le_M [b] b (by simp); omega)
    have HCALL := Lib.hid hcall
    rw [dtC_one]
    clear hcall hc hib hb hbl hdl hne hcl
    go_enter Try.func69, Try.ntmps69
    go_wp2_with (go_at_call 90; refine HCALL.out.mono ?_; rintro e w' ⟨rfl, hb1⟩)
    go_ret
    exact ⟨rfl, hb1⟩
  · have hC : dtC c = dtM c := by
      match c, hpos, h1 with
      | [_], _, h1 => simp at h1
      | b :: b' :: c, _, _ => exact dtC_many b b' c
    rw [hC]
    have HC := Lib.hid hc
    have HBL := Lib.hid hbl
    have h1' : ((c.length : Int) == 1) = false := by simp; omega
    clear hc hbl hC hne
    go_enter Try.func69, Try.ntmps69
    go_wp2_with fail
    go_loopw [5, 6, 16] (fun _ _ i wr => ∃ k : Nat, k ≤ c.length ∧ i = .int .i64 k ∧ Lib.IsBuilder 95 5 w.heap.size w.heap.size (Lib.byteCells (dtM (c.take k))) wr ∧ Below w.heap.size w wr) (fun _ _ i _ => c.length - (intOf i).toNat)
    case atStart =>
      refine ⟨0, by omega, rfl, ?_, (Below.refl _ _).alloc (Nat.le_refl _) _⟩
      exact fresh_builder w
    case round =>
      obtain ⟨k, hk, rfl, hB, hb⟩ := hrel
      have hsz := hb.size
      by_cases hlt : k < c.length
      · obtain ⟨u, lo', hi', hl, hh, hcell0, hib0⟩ := HC.out k c[k] (List.getElem?_eq_getElem hlt)
        have hcell : wr.cell? ⟨g, k, none⟩ = some u := by rw [hb.cell (p := ⟨g, k, none⟩) (by show g < w.heap.size; omega)]; exact hcell0
        have hbb := HBL.out _ (List.getElem_mem hlt)
        have hcall := branchDual lo' hi' wr u c[k] (hib0.keep (KeptIn.of_below hb (by omega))) hbb.1 hbb.2.1 (by have := dtB_le_M c c[k] (List.getElem_mem hlt); omega)
        have htake := dtM_take c k hlt
        have hle1 := dtM_take_le c (k + 1)
        have hle0 := dtM_take_le c k
        have hle : (dtB c[k]).length ≤ (dtM c).length := dtB_le_M c c[k] (List.getElem_mem hlt)
        rw [htake, List.length_append] at hle1
        unfold wrapT at htake hle1
        have hasc := hbb.2.2
        clear hcell0 hib0 hbb
        generalize dtB c[k] = d at *
        have HCALL := Lib.hid hcall
        have HT := Lib.hid htake
        have HB := Lib.hid hB
        clear hcall htake hB
        cases hw : wideAt 0 d with
        | true =>
          rw [if_pos hw] at hle1
          have HW := Lib.hid hw
          clear hw
          go_wp2_with fail
          refine HCALL.out.mono ?_
          rintro e w1 ⟨rfl, hb1⟩
          have hB1 := builder_keep HB.out hb1
          have HB1 := Lib.hid hB1
          clear hB1
          have hsz1 := hb1.size
          go_wp2_with fail
          refine (wide_any ⟨d.toArray⟩ (by show d.toArray.size ≤ _; simp; omega) (by simpa using hasc) _).mono ?_
          rintro e w2 ⟨rfl, hb2⟩
          have hB2 := builder_keep HB1.out hb2
          have HB2 := Lib.hid hB2
          clear hB2 HB1
          have hsz2 := hb2.size
          have hw2 : wideAt 0 (ByteArray.mk d.toArray).data.toList = true := by simpa using HW.out
          go_wp2_with fail
          rw [cat_brackets]
          refine (WriteString w.heap.size w.heap.size _ _ _ HB2.out (by rw [bsize]; simp [Lib.byteCells]; omega) (by omega)).mono ?_
          rintro e w3 ⟨rfl, hB3, hb3⟩
          rw [strCells_bytes] at hB3
          have HB3 := Lib.hid hB3
          clear hB3 HB2
          go_wp2_with fail
          go_roundw
          case rel =>
            refine ⟨k + 1, by omega, by go_num, ?_, (hb.trans ((hb1.mono hsz).trans (hb2.mono (by omega)))).trans hb3⟩
            rw [HT.out, if_pos HW.out]
            have := HB3.out
            refine Or.inr ?_
            simpa [Lib.byteCells] using this
          case measure => simp [intOf]; omega
        | false =>
          rw [if_neg (by rw [hw]; simp)] at hle1
          have HW := Lib.hid hw
          clear hw
          go_wp2_with fail
          refine HCALL.out.mono ?_
          rintro e w1 ⟨rfl, hb1⟩
          have hB1 := builder_keep HB.out hb1
          have HB1 := Lib.hid hB1
          clear hB1
          have hsz1 := hb1.size
          go_wp2_with fail
          refine (wide_any ⟨d.toArray⟩ (by show d.toArray.size ≤ _; simp; omega) (by simpa using hasc) _).mono ?_
          rintro e w2 ⟨rfl, hb2⟩
          have hB2 := builder_keep HB1.out hb2
          have HB2 := Lib.hid hB2
          clear hB2 HB1
          have hsz2 := hb2.size
          have hw2 : wideAt 0 (ByteArray.mk d.toArray).data.toList = false := by simpa using HW.out
          go_wp2_with fail
          refine (WriteString w.heap.size w.heap.size _ _ _ HB2.out (by rw [bsize]; simp [Lib.byteCells]; omega) (by omega)).mono ?_
          rintro e w3 ⟨rfl, hB3, hb3⟩
          rw [strCells_bytes] at hB3
          have HB3 := Lib.hid hB3
          clear hB3 HB2
          go_wp2_with fail
          go_roundw
          case rel =>
            refine ⟨k + 1, by omega, by go_num, ?_, (hb.trans ((hb1.mono hsz).trans (hb2.mono (by omega)))).trans hb3⟩
            rw [HT.out, if_neg (by rw [HW.out]; simp)]
            have := HB3.out
            refine Or.inr ?_
            simpa [Lib.byteCells] using this
          case measure => simp [intOf]; omega
      · obtain rfl : k = c.length := by omega
        rw [List.take_length] at hB
        have HB := Lib.hid hB
        clear hB
        go_wp2_with (go_at_call 93; refine (BString w.heap.size w.heap.size _ _ HB.out (by omega)).mono ?_; rintro e w1 ⟨rfl, hb1⟩)
        go_ret
        exact ⟨rfl, hb.trans hb1⟩

/-- a circuit in memory does what it must -/
theorem isC_of (lo hi : Nat) (w : World) (v : Value) (c : List (List Part)) (hv : IsCs lo hi w v c) (hne : c ≠ []) (hcl : c.length ≤ 1000) (hbl : ∀ b ∈ c, b ≠ [] ∧ b.length ≤ 1000 ∧ Ascii (dtB b)) (hdl : (dtM c).length ≤ 100000) : IsC lo hi w v c :=
  ⟨hv.1, fun w' hk => ⟨fun n hn => circuitConducts lo hi w' v c (hv.keep hk) hcl (fun b hb => (hbl b hb).2.1) n hn, circuitDual lo hi w' v c (hv.keep hk) hne hcl hbl hdl⟩⟩
end Go.Proofs.Ytfoeamgjjhfkdaa
