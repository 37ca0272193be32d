/- TopLoops, walked. -/
import Derived.Test.YtfoeamgjjhfkdaaWc
import Derived.Test.YtfoeamgjjhfkdaaWh
import Derived.Test.YtfoeamgjjhfkdaaWl
import Derived.Test.YtfoeamgjjhfkdaaRs
namespace Go.Proofs.Ytfoeamgjjhfkdaa
open Go Go.Shelf Go.RowKit Go.Proofs L9

theorem P_le (q : Nat → Bool) : ∀ t ∈ (leastL q).map txt, t.length ≤ 1000 := by
  intro t ht
  obtain ⟨n, _, rfl⟩ := List.mem_map.1 ht
  have := txtTo_len n 8
  unfold txt
  omega
theorem P_len (q : Nat → Bool) : ((leastL q).map txt).length ≤ 1000 := by
  rw [List.length_map]; have := leastL_len q; omega
theorem inT_both (t u : Nat → Bool) : (inT t u && inT u t) = sameT t u := by
  unfold inT sameT
  rw [Bool.eq_iff_iff, Bool.and_eq_true, List.all_eq_true, List.all_eq_true, List.all_eq_true]
  constructor
  · rintro ⟨h1, h2⟩ i hi
    have a := h1 i hi
    have b := h2 i hi
    cases h3 : t i <;> cases h4 : u i <;> simp_all
  · intro h
    constructor
    all_goals
      intro i hi
      have a := h i hi
      simp only [beq_iff_eq] at a
      rw [a]
      cases u i <;> rfl
theorem getD_in (l : List (List UInt8)) (k : Nat) (hk : k < l.length) : l.getD k [] ∈ l := by
  rw [List.getD_eq_getElem?_getD, List.getElem?_eq_getElem hk]
  exact List.getElem_mem _
/-- what the calls of TopLoops come to, for one circuit and a set -/
structure TopFacts (x : List (List Part)) (s : List UInt8) (m : Nat) : Prop where
  part1 : partS ((leastL (tblC x)).map txt) s = evC x m
  meet1 : meetsS ((leastL (tblX x)).map txt) s = evC x m
  part2 : partS ((leastL (tblX x)).map txt) s = tblX x m
  meet2 : meetsS ((leastL (tblC x)).map txt) s = tblX x m
  all : ∀ t ∈ (leastL (tblC x)).map txt, meetsS ((leastL (tblX x)).map txt) t = true
theorem topFacts {x : List (List Part)} {s : List UInt8} {m : Nat} (hs : setOf s = some m) : TopFacts x s m := by
  have hm := setOf_lt s m hs
  refine ⟨partS_least _ (gTC x) m s hm hs, ?_, partS_least _ (gTX x) m s hm hs, ?_, ?_⟩
  · rw [meetsS_least _ (gTX x) m s hm hs]
    unfold tblX
    rw [show 255 - (255 - m) = m by omega, Bool.not_not]
  · rw [meetsS_least _ (gTC x) m s hm hs]
    rfl
  · intro t ht
    obtain ⟨a, ha, rfl⟩ := List.mem_map.1 ht
    have h1 := leastL_mem _ a ha
    rw [meetsS_least _ (gTX x) a (txt a) h1.1 (setOf_txt a h1.1)]
    unfold tblX
    rw [show 255 - (255 - a) = a by omega, Bool.not_not]
    exact h1.2
theorem isCutOf_some {c s : List UInt8} {x : List (List Part)} {n : Nat} (h : circ c = some x) (h2 : setOf s = some n) : isCutOf c s = (tblX x n, 0) := by
  unfold isCutOf
  rw [h, h2]
  rfl
theorem conductsOf_some' {c s : List UInt8} {x : List (List Part)} {n : Nat} (h : circ c = some x) (h2 : setOf s = some n) : conductsOf c s = (evC x n, 0) := by
  unfold conductsOf
  rw [h, h2]
theorem pathsAt {c : ByteArray} {x : List (List Part)} (W : World) (hc : c.size ≤ maxLen) (h : circ c.data.toList = some x) :
    Calls Try.prog 16 #[.string c] W fun e w' => Below W.heap.size W w' ∧ ∃ u, e = .returned (.tuple #[u, .int .i64 0]) ∧ StrsR w' u ((leastL (tblC x)).map txt) := by
  refine (paths_any c W hc).mono fun e w' hp => ?_
  have := hp.both
  unfold pathsOf at this
  rw [h] at this
  exact this
theorem cutsAt {c : ByteArray} {x : List (List Part)} (W : World) (hc : c.size ≤ maxLen) (h : circ c.data.toList = some x) :
    Calls Try.prog 18 #[.string c] W fun e w' => Below W.heap.size W w' ∧ ∃ u, e = .returned (.tuple #[u, .int .i64 0]) ∧ StrsR w' u ((leastL (tblX x)).map txt) := by
  refine (cuts_any c W hc).mono fun e w' hp => ?_
  have := hp.both
  unfold cutsOf at this
  rw [h] at this
  exact this
theorem dualOf_some {c : List UInt8} {x : List (List Part)} (h : circ c = some x) : dualOf c = if 40 < (dtC x).length then ([], 4) else (dtC x, 0) := by unfold dualOf; rw [h]

set_option maxHeartbeats 16000000 in
set_option maxRecDepth 100000 in
theorem topLoopsL (c d s : ByteArray) (w : World) (hc : c.size ≤ maxLen) (hd : d.size ≤ maxLen) (hs : s.size ≤ 20) (x y : List (List Part)) (m : Nat) (hx : circ c.data.toList = some x) (hy : circ d.data.toList = some y) (hq : setOf s.data.toList = some m) (hdl : 40 < (dtC x).length)
    (hl : Calls Try.prog 14 #[.string c, .string d] w fun e w' => e = .returned (.bool false) ∧ w' = w) :
    Calls Try.prog 4 #[.string c, .string d, .string s] w fun e w' => e = .returned (.bool true) ∧ Below w.heap.size w w' := by
  have HL := Lib.hid (fun (_ : Unit) => hl)
  have HF := Lib.hid first_any
  have hs2 : s.size ≤ 1000000 := by omega
  have hs3 : s.size ≤ 100000 := by omega
  have hvc := fun W => refValid c W hc
  have hvd := fun W => refValid d W hd
  have hvs := fun W => refValidSet s W hs2
  simp only [hx, Option.isSome_some] at hvc
  simp only [hy, Option.isSome_some] at hvd
  simp only [hq, Option.isSome_some] at hvs
  have HVC := Lib.hid hvc
  have HVD := Lib.hid hvd
  have HVS := Lib.hid hvs
  have HP := Lib.hid (fun W => pathsAt W hc hx)
  have HX := Lib.hid (fun W => cutsAt W hc hx)
  have hip := fun W => isPath_any c s W hc hs2
  have hic := fun W => isCut_any c s W hc hs2
  have hcd := fun W => conducts_any c s W hc hs2
  simp only [conductsOf_some' hx hq] at hip hcd
  simp only [isCutOf_some hx hq] at hic
  have hft := topFacts (x := x) hq
  have hdu := fun W => dual_any c W hc
  have HP2 := Lib.hid (fun W => pathsAt W hd hy)
  have hsm := fun W => same_any c d W hc hd
  have hdf := fun W => differ_any c d W hc hd
  have hi1 := fun W => within_any c d W hc hd
  have hi2 := fun W => within_any d c W hd hc
  simp only [hx, hy] at hsm hdf hi1 hi2
  change ∀ W, Calls _ _ _ _ fun e w' => e = .returned (.tuple #[.bool (sameT (evC x) (evC y)), .int .i64 0]) ∧ _ at hsm
  change ∀ W, Calls _ _ _ _ fun e w' => e = .returned (.tuple #[.string ⟨(differT (evC x) (evC y)).1.toArray⟩, .int .i64 (differT (evC x) (evC y)).2]) ∧ _ at hdf
  change ∀ W, Calls _ _ _ _ fun e w' => e = .returned (.tuple #[.bool (inT (evC x) (evC y)), .int .i64 0]) ∧ _ at hi1
  change ∀ W, Calls _ _ _ _ fun e w' => e = .returned (.tuple #[.bool (inT (evC y) (evC x)), .int .i64 0]) ∧ _ at hi2
  simp only [differT_same] at hdf
  have HDC : ∃ dc : Int, Hid (dc = if sameT (evC x) (evC y) then 5 else 0) ∧ dc = if sameT (evC x) (evC y) then 5 else 0 := ⟨_, Lib.hid rfl, rfl⟩
  obtain ⟨dc, HDC, hdc⟩ := HDC
  simp only [← hdc] at hdf
  clear hdc
  generalize (⟨(differT (evC x) (evC y)).1.toArray⟩ : ByteArray) = dtx at *
  have HSM := Lib.hid hsm
  have HDF := Lib.hid hdf
  have HI1 := Lib.hid hi1
  have HI2 := Lib.hid hi2
  have HBOTH := Lib.hid (inT_both (evC x) (evC y))
  have HSAME := Lib.hid (same_texts x y)
  have HLP := Lib.hid (mins_len (tblC x))
  have HLX := Lib.hid (mins_len (tblX x))
  have HLP2 := Lib.hid (mins_len (tblC y))
  have hpl := P_len (tblC x)
  have hxl := P_len (tblX x)
  have HPLE := Lib.hid (P_le (tblC x))
  have HXLE := Lib.hid (P_le (tblX x))
  have h1 := hft.part1
  have h2 := hft.meet1
  have h3 := hft.part2
  have h4 := hft.meet2
  have HALL := Lib.hid hft.all
  rw [dualOf_some hx] at hdu
  obtain ⟨_, hne, hok, _⟩ := circ_text hx
  rw [if_pos hdl] at hdu
  have HDU := Lib.hid hdu
  clear hne hok
  generalize hcp : (leastL (tblC x)).map txt = CP at *
  generalize hcx : (leastL (tblX x)).map txt = CX at *
  generalize hc2 : (leastL (tblC y)).map txt = CP2 at *
  generalize tblX x m = z at *
  generalize evC x m = b at *
  have HIP := Lib.hid hip
  have HIC := Lib.hid hic
  have HCD := Lib.hid hcd
  have HE1 := Lib.hid h1
  have HE2 := Lib.hid h2
  have HE3 := Lib.hid h3
  have HE4 := Lib.hid h4
  clear hl hvc hvd hvs hip hic hcd hft hdu hsm hdf hi1 hi2 h1 h2 h3 h4 hx hy hq hdl hcp hcx hc2
  go_enter Try.func4, Try.ntmps4
  have HB := Lib.hid (Below.refl w.heap.size w)
  go_wp2_with fail
  refine (HL.out ()).mono ?_
  rintro e v1 ⟨rfl, rfl⟩
  go_wp2_with fail
  refine (HVC.out _).mono ?_
  rintro e v2 ⟨rfl, hb2⟩
  have HB := Lib.hid (HB.out.trans (hb2.mono HB.out.size))
  clear hb2
  go_wp2_with fail
  refine (HVD.out _).mono ?_
  rintro e v3 ⟨rfl, hb3⟩
  have HB := Lib.hid (HB.out.trans (hb3.mono HB.out.size))
  clear hb3
  go_wp2_with fail
  refine (HVS.out _).mono ?_
  rintro e v4 ⟨rfl, nq4, rfl⟩
  have kt := HB.out.trans (drewN_below _ _ nq4)
  have HB := Lib.hid kt
  clear kt
  go_wp2_with fail
  refine (HP.out _).mono ?_
  rintro e v5 ⟨hb5, u1, rfl, hu1⟩
  have Ku1 := Lib.hid hu1
  clear hu1
  have HB := Lib.hid (HB.out.trans (hb5.mono HB.out.size))
  clear hb5
  go_wp2_with fail
  refine (HX.out _).mono ?_
  rintro e v6 ⟨hb6, u2, rfl, hu2⟩
  have Ku1 := Lib.hid (Ku1.out.keep hb6)
  have Ku2 := Lib.hid hu2
  clear hu2
  have HB := Lib.hid (HB.out.trans (hb6.mono HB.out.size))
  clear hb6
  go_wp2_with fail
  refine (HIP.out _).mono ?_
  rintro e v7 ⟨rfl, hb7⟩
  have Ku1 := Lib.hid (Ku1.out.keep hb7)
  have Ku2 := Lib.hid (Ku2.out.keep hb7)
  have HB := Lib.hid (HB.out.trans (hb7.mono HB.out.size))
  clear hb7
  go_wp2_with fail
  refine (HIC.out _).mono ?_
  rintro e v8 ⟨rfl, hb8⟩
  have Ku1 := Lib.hid (Ku1.out.keep hb8)
  have Ku2 := Lib.hid (Ku2.out.keep hb8)
  have HB := Lib.hid (HB.out.trans (hb8.mono HB.out.size))
  clear hb8
  go_wp2_with fail
  refine (HCD.out _).mono ?_
  rintro e v9 ⟨rfl, hb9⟩
  have Ku1 := Lib.hid (Ku1.out.keep hb9)
  have Ku2 := Lib.hid (Ku2.out.keep hb9)
  have HB := Lib.hid (HB.out.trans (hb9.mono HB.out.size))
  clear hb9
  have hp1 := partS_any _ _ s v9 Ku1.out hpl HPLE.out hs3
  have hp2 := meets_any _ _ s v9 Ku2.out hxl HXLE.out hs3
  have hp3 := partS_any _ _ s v9 Ku2.out hxl HXLE.out hs3
  have hp4 := meets_any _ _ s v9 Ku1.out hpl HPLE.out hs3
  rw [HE1.out] at hp1
  rw [HE2.out] at hp2
  rw [HE3.out] at hp3
  rw [HE4.out] at hp4
  have HQ1 := Lib.hid (fun (_ : Unit) => hp1)
  have HQ2 := Lib.hid (fun (_ : Unit) => hp2)
  have HQ3 := Lib.hid (fun (_ : Unit) => hp3)
  have HQ4 := Lib.hid (fun (_ : Unit) => hp4)
  clear hp1 hp2 hp3 hp4
  go_wp2_with fail
  refine (HQ1.out ()).mono ?_
  rintro e vp ⟨rfl, rfl⟩
  go_wp2_with fail
  refine (HQ2.out ()).mono ?_
  rintro e vp ⟨rfl, rfl⟩
  go_wp2_with fail
  refine (HQ3.out ()).mono ?_
  rintro e vp ⟨rfl, rfl⟩
  go_wp2_with fail
  refine (HQ4.out ()).mono ?_
  rintro e vp ⟨rfl, rfl⟩
  have HMT := Lib.hid (fun (t : ByteArray) (ht : t.size ≤ 100000) => meets_any _ _ t vp Ku2.out hxl HXLE.out ht)
  obtain ⟨a1, cap1, rfl, hcl⟩ := Ku1.out.form
  have HCL := Lib.hid hcl
  clear hcl
  go_wp2_with fail
  go_loop [17] (fun i => ∃ k : Nat, k ≤ CP.length ∧ i = .int .i64 k) (fun i => CP.length - (intOf i).toNat)
  case atStart => exact ⟨0, by omega, rfl⟩
  case round =>
    obtain ⟨k, hk, rfl⟩ := hrel
    by_cases hlt : k < CP.length
    · obtain ⟨g, rfl, hcell⟩ := HCL.out k hlt
      have hmem := getD_in CP k hlt
      have hmt := HMT.out ⟨(CP.getD k []).toArray⟩ (by rw [bsize]; have := HPLE.out _ hmem; omega)
      have hall := HALL.out _ hmem
      change Calls _ _ _ _ fun e w' => e = .returned (.bool (meetsS CX (CP.getD k []))) ∧ _ at hmt
      rw [hall] at hmt
      have HMK := Lib.hid hmt
      clear hmt hall hmem
      generalize (⟨(CP.getD k []).toArray⟩ : ByteArray) = TK at *
      go_wp2_with fail
      refine HMK.out.mono ?_
      rintro e vk ⟨rfl, rfl⟩
      go_wp2_with fail
      go_round
      case rel => exact ⟨k + 1, by omega, by go_num⟩
      case measure => simp [intOf]; omega
    · obtain rfl : k = CP.length := by omega
      clear HMT HCL
      go_wp2_with fail
      refine (HDU.out _).mono ?_
      rintro e v10 ⟨rfl, hb10⟩
      have Ku1 := Lib.hid (Ku1.out.keep hb10)
      have Ku2 := Lib.hid (Ku2.out.keep hb10)
      have HB := Lib.hid (HB.out.trans (hb10.mono HB.out.size))
      clear hb10
      go_wp2_with fail
      refine (HP2.out _).mono ?_
      rintro e v11 ⟨hb11, u5, rfl, hu5⟩
      have Ku1 := Lib.hid (Ku1.out.keep hb11)
      have Ku2 := Lib.hid (Ku2.out.keep hb11)
      have Ku5 := Lib.hid hu5
      clear hu5
      have HB := Lib.hid (HB.out.trans (hb11.mono HB.out.size))
      clear hb11
      go_wp2_with fail
      refine (HSM.out _).mono ?_
      rintro e v12 ⟨rfl, hb12⟩
      have Ku1 := Lib.hid (Ku1.out.keep hb12)
      have Ku2 := Lib.hid (Ku2.out.keep hb12)
      have Ku5 := Lib.hid (Ku5.out.keep hb12)
      have HB := Lib.hid (HB.out.trans (hb12.mono HB.out.size))
      clear hb12
      go_wp2_with fail
      refine (HDF.out _).mono ?_
      rintro e v13 ⟨rfl, hb13⟩
      have Ku1 := Lib.hid (Ku1.out.keep hb13)
      have Ku2 := Lib.hid (Ku2.out.keep hb13)
      have Ku5 := Lib.hid (Ku5.out.keep hb13)
      have HB := Lib.hid (HB.out.trans (hb13.mono HB.out.size))
      clear hb13
      go_wp2_with fail
      refine (HI1.out _).mono ?_
      rintro e v14 ⟨rfl, hb14⟩
      have Ku1 := Lib.hid (Ku1.out.keep hb14)
      have Ku2 := Lib.hid (Ku2.out.keep hb14)
      have Ku5 := Lib.hid (Ku5.out.keep hb14)
      have HB := Lib.hid (HB.out.trans (hb14.mono HB.out.size))
      clear hb14
      go_wp2_with fail
      refine (HI2.out _).mono ?_
      rintro e v15 ⟨rfl, hb15⟩
      have Ku1 := Lib.hid (Ku1.out.keep hb15)
      have Ku2 := Lib.hid (Ku2.out.keep hb15)
      have Ku5 := Lib.hid (Ku5.out.keep hb15)
      have HB := Lib.hid (HB.out.trans (hb15.mono HB.out.size))
      clear hb15
      have HST := Lib.hid (sameTexts_any _ _ _ _ v15 Ku1.out Ku5.out HLP.out HLP2.out)
      rw [HSAME.out] at HST
      generalize sameT (evC x) (evC y) = sm at *
      generalize inT (evC x) (evC y) = i1 at *
      generalize inT (evC y) (evC x) = i2 at *
      have hbo := HBOTH.out
      clear HBOTH HSAME
      cases sm with
      | true =>
        obtain ⟨rfl, rfl⟩ : i1 = true ∧ i2 = true := by simpa using hbo
        obtain rfl : dc = 5 := by rw [HDC.out]; rfl
        clear hbo
        go_wp2_with fail
        refine HST.out.mono ?_
        rintro e vq ⟨rfl, nq, rfl⟩
        have HB := Lib.hid (HB.out.trans (drewN_below _ _ nq))
        go_wp2_with fail
        refine (HF.out _).mono ?_
        rintro e v16 ⟨rfl, hb16⟩
        have HB := Lib.hid (HB.out.trans (hb16.mono HB.out.size))
        clear hb16
        go_wp2_with fail
        go_ret
        exact ⟨rfl, HB.out⟩
      | false =>
        obtain rfl : dc = 0 := by rw [HDC.out]; rfl
        cases i1 with
        | true =>
          obtain rfl : i2 = false := by simpa using hbo
          clear hbo
          go_wp2_with fail
          refine HST.out.mono ?_
          rintro e vq ⟨rfl, nq, rfl⟩
          have HB := Lib.hid (HB.out.trans (drewN_below _ _ nq))
          go_wp2_with fail
          refine (HF.out _).mono ?_
          rintro e v16 ⟨rfl, hb16⟩
          have HB := Lib.hid (HB.out.trans (hb16.mono HB.out.size))
          clear hb16
          go_wp2_with fail
          go_ret
          exact ⟨rfl, HB.out⟩
        | false =>
          clear hbo
          go_wp2_with fail
          refine HST.out.mono ?_
          rintro e vq ⟨rfl, nq, rfl⟩
          have HB := Lib.hid (HB.out.trans (drewN_below _ _ nq))
          go_wp2_with fail
          refine (HF.out _).mono ?_
          rintro e v16 ⟨rfl, hb16⟩
          have HB := Lib.hid (HB.out.trans (hb16.mono HB.out.size))
          clear hb16
          go_wp2_with fail
          go_ret
          exact ⟨rfl, HB.out⟩

set_option maxHeartbeats 16000000 in
set_option maxRecDepth 100000 in
theorem topLoopsM (c d s : ByteArray) (w : World) (hc : c.size ≤ maxLen) (hd : d.size ≤ maxLen) (hs : s.size ≤ 20) (x y : List (List Part)) (m : Nat) (hx : circ c.data.toList = some x) (hy : circ d.data.toList = some y) (hq : setOf s.data.toList = some m) (hdl : ¬ 40 < (dtC x).length) (hbl : 40 < (dtC (duC x)).length)
    (hl : Calls Try.prog 14 #[.string c, .string d] w fun e w' => e = .returned (.bool false) ∧ w' = w) :
    Calls Try.prog 4 #[.string c, .string d, .string s] w fun e w' => e = .returned (.bool true) ∧ Below w.heap.size w w' := by
  have HL := Lib.hid (fun (_ : Unit) => hl)
  have HF := Lib.hid first_any
  have hs2 : s.size ≤ 1000000 := by omega
  have hs3 : s.size ≤ 100000 := by omega
  have hvc := fun W => refValid c W hc
  have hvd := fun W => refValid d W hd
  have hvs := fun W => refValidSet s W hs2
  simp only [hx, Option.isSome_some] at hvc
  simp only [hy, Option.isSome_some] at hvd
  simp only [hq, Option.isSome_some] at hvs
  have HVC := Lib.hid hvc
  have HVD := Lib.hid hvd
  have HVS := Lib.hid hvs
  have HP := Lib.hid (fun W => pathsAt W hc hx)
  have HX := Lib.hid (fun W => cutsAt W hc hx)
  have hip := fun W => isPath_any c s W hc hs2
  have hic := fun W => isCut_any c s W hc hs2
  have hcd := fun W => conducts_any c s W hc hs2
  simp only [conductsOf_some' hx hq] at hip hcd
  simp only [isCutOf_some hx hq] at hic
  have hft := topFacts (x := x) hq
  have hdu := fun W => dual_any c W hc
  have HP2 := Lib.hid (fun W => pathsAt W hd hy)
  have hsm := fun W => same_any c d W hc hd
  have hdf := fun W => differ_any c d W hc hd
  have hi1 := fun W => within_any c d W hc hd
  have hi2 := fun W => within_any d c W hd hc
  simp only [hx, hy] at hsm hdf hi1 hi2
  change ∀ W, Calls _ _ _ _ fun e w' => e = .returned (.tuple #[.bool (sameT (evC x) (evC y)), .int .i64 0]) ∧ _ at hsm
  change ∀ W, Calls _ _ _ _ fun e w' => e = .returned (.tuple #[.string ⟨(differT (evC x) (evC y)).1.toArray⟩, .int .i64 (differT (evC x) (evC y)).2]) ∧ _ at hdf
  change ∀ W, Calls _ _ _ _ fun e w' => e = .returned (.tuple #[.bool (inT (evC x) (evC y)), .int .i64 0]) ∧ _ at hi1
  change ∀ W, Calls _ _ _ _ fun e w' => e = .returned (.tuple #[.bool (inT (evC y) (evC x)), .int .i64 0]) ∧ _ at hi2
  simp only [differT_same] at hdf
  have HDC : ∃ dc : Int, Hid (dc = if sameT (evC x) (evC y) then 5 else 0) ∧ dc = if sameT (evC x) (evC y) then 5 else 0 := ⟨_, Lib.hid rfl, rfl⟩
  obtain ⟨dc, HDC, hdc⟩ := HDC
  simp only [← hdc] at hdf
  clear hdc
  generalize (⟨(differT (evC x) (evC y)).1.toArray⟩ : ByteArray) = dtx at *
  have HSM := Lib.hid hsm
  have HDF := Lib.hid hdf
  have HI1 := Lib.hid hi1
  have HI2 := Lib.hid hi2
  have HBOTH := Lib.hid (inT_both (evC x) (evC y))
  have HSAME := Lib.hid (same_texts x y)
  have HLP := Lib.hid (mins_len (tblC x))
  have HLX := Lib.hid (mins_len (tblX x))
  have HLP2 := Lib.hid (mins_len (tblC y))
  have hpl := P_len (tblC x)
  have hxl := P_len (tblX x)
  have HPLE := Lib.hid (P_le (tblC x))
  have HXLE := Lib.hid (P_le (tblX x))
  have h1 := hft.part1
  have h2 := hft.meet1
  have h3 := hft.part2
  have h4 := hft.meet2
  have HALL := Lib.hid hft.all
  rw [dualOf_some hx] at hdu
  obtain ⟨_, hne, hok, _⟩ := circ_text hx
  rw [if_neg hdl] at hdu
  have HDU := Lib.hid hdu
  have hdsz : (⟨(dtC x).toArray⟩ : ByteArray).size ≤ maxLen := by rw [bsize]; unfold maxLen; omega
  have hdr : circ (⟨(dtC x).toArray⟩ : ByteArray).data.toList = some (duC x) := dual_read x hne hok (by omega)
  have hpd := fun W => pathsAt W hdsz hdr
  have hxd := fun W => cutsAt W hdsz hdr
  rw [dual_paths x hne hok] at hpd
  rw [dual_cuts x hne hok] at hxd
  have HPD := Lib.hid hpd
  have HXD := Lib.hid hxd
  have hdd := fun W => dual_any ⟨(dtC x).toArray⟩ W hdsz
  rw [dualOf_some hdr] at hdd
  rw [if_pos hbl] at hdd
  have HDD := Lib.hid hdd
  generalize (⟨(dtC x).toArray⟩ : ByteArray) = DU at *
  clear hdsz hdr hpd hxd hdd hne hok hbl
  generalize hcp : (leastL (tblC x)).map txt = CP at *
  generalize hcx : (leastL (tblX x)).map txt = CX at *
  generalize hc2 : (leastL (tblC y)).map txt = CP2 at *
  generalize tblX x m = z at *
  generalize evC x m = b at *
  have HIP := Lib.hid hip
  have HIC := Lib.hid hic
  have HCD := Lib.hid hcd
  have HE1 := Lib.hid h1
  have HE2 := Lib.hid h2
  have HE3 := Lib.hid h3
  have HE4 := Lib.hid h4
  clear hl hvc hvd hvs hip hic hcd hft hdu hsm hdf hi1 hi2 h1 h2 h3 h4 hx hy hq hdl hcp hcx hc2
  go_enter Try.func4, Try.ntmps4
  have HB := Lib.hid (Below.refl w.heap.size w)
  go_wp2_with fail
  refine (HL.out ()).mono ?_
  rintro e v1 ⟨rfl, rfl⟩
  go_wp2_with fail
  refine (HVC.out _).mono ?_
  rintro e v2 ⟨rfl, hb2⟩
  have HB := Lib.hid (HB.out.trans (hb2.mono HB.out.size))
  clear hb2
  go_wp2_with fail
  refine (HVD.out _).mono ?_
  rintro e v3 ⟨rfl, hb3⟩
  have HB := Lib.hid (HB.out.trans (hb3.mono HB.out.size))
  clear hb3
  go_wp2_with fail
  refine (HVS.out _).mono ?_
  rintro e v4 ⟨rfl, nq4, rfl⟩
  have kt := HB.out.trans (drewN_below _ _ nq4)
  have HB := Lib.hid kt
  clear kt
  go_wp2_with fail
  refine (HP.out _).mono ?_
  rintro e v5 ⟨hb5, u1, rfl, hu1⟩
  have Ku1 := Lib.hid hu1
  clear hu1
  have HB := Lib.hid (HB.out.trans (hb5.mono HB.out.size))
  clear hb5
  go_wp2_with fail
  refine (HX.out _).mono ?_
  rintro e v6 ⟨hb6, u2, rfl, hu2⟩
  have Ku1 := Lib.hid (Ku1.out.keep hb6)
  have Ku2 := Lib.hid hu2
  clear hu2
  have HB := Lib.hid (HB.out.trans (hb6.mono HB.out.size))
  clear hb6
  go_wp2_with fail
  refine (HIP.out _).mono ?_
  rintro e v7 ⟨rfl, hb7⟩
  have Ku1 := Lib.hid (Ku1.out.keep hb7)
  have Ku2 := Lib.hid (Ku2.out.keep hb7)
  have HB := Lib.hid (HB.out.trans (hb7.mono HB.out.size))
  clear hb7
  go_wp2_with fail
  refine (HIC.out _).mono ?_
  rintro e v8 ⟨rfl, hb8⟩
  have Ku1 := Lib.hid (Ku1.out.keep hb8)
  have Ku2 := Lib.hid (Ku2.out.keep hb8)
  have HB := Lib.hid (HB.out.trans (hb8.mono HB.out.size))
  clear hb8
  go_wp2_with fail
  refine (HCD.out _).mono ?_
  rintro e v9 ⟨rfl, hb9⟩
  have Ku1 := Lib.hid (Ku1.out.keep hb9)
  have Ku2 := Lib.hid (Ku2.out.keep hb9)
  have HB := Lib.hid (HB.out.trans (hb9.mono HB.out.size))
  clear hb9
  have hp1 := partS_any _ _ s v9 Ku1.out hpl HPLE.out hs3
  have hp2 := meets_any _ _ s v9 Ku2.out hxl HXLE.out hs3
  have hp3 := partS_any _ _ s v9 Ku2.out hxl HXLE.out hs3
  have hp4 := meets_any _ _ s v9 Ku1.out hpl HPLE.out hs3
  rw [HE1.out] at hp1
  rw [HE2.out] at hp2
  rw [HE3.out] at hp3
  rw [HE4.out] at hp4
  have HQ1 := Lib.hid (fun (_ : Unit) => hp1)
  have HQ2 := Lib.hid (fun (_ : Unit) => hp2)
  have HQ3 := Lib.hid (fun (_ : Unit) => hp3)
  have HQ4 := Lib.hid (fun (_ : Unit) => hp4)
  clear hp1 hp2 hp3 hp4
  go_wp2_with fail
  refine (HQ1.out ()).mono ?_
  rintro e vp ⟨rfl, rfl⟩
  go_wp2_with fail
  refine (HQ2.out ()).mono ?_
  rintro e vp ⟨rfl, rfl⟩
  go_wp2_with fail
  refine (HQ3.out ()).mono ?_
  rintro e vp ⟨rfl, rfl⟩
  go_wp2_with fail
  refine (HQ4.out ()).mono ?_
  rintro e vp ⟨rfl, rfl⟩
  have HMT := Lib.hid (fun (t : ByteArray) (ht : t.size ≤ 100000) => meets_any _ _ t vp Ku2.out hxl HXLE.out ht)
  obtain ⟨a1, cap1, rfl, hcl⟩ := Ku1.out.form
  have HCL := Lib.hid hcl
  clear hcl
  go_wp2_with fail
  go_loop [17] (fun i => ∃ k : Nat, k ≤ CP.length ∧ i = .int .i64 k) (fun i => CP.length - (intOf i).toNat)
  case atStart => exact ⟨0, by omega, rfl⟩
  case round =>
    obtain ⟨k, hk, rfl⟩ := hrel
    by_cases hlt : k < CP.length
    · obtain ⟨g, rfl, hcell⟩ := HCL.out k hlt
      have hmem := getD_in CP k hlt
      have hmt := HMT.out ⟨(CP.getD k []).toArray⟩ (by rw [bsize]; have := HPLE.out _ hmem; omega)
      have hall := HALL.out _ hmem
      change Calls _ _ _ _ fun e w' => e = .returned (.bool (meetsS CX (CP.getD k []))) ∧ _ at hmt
      rw [hall] at hmt
      have HMK := Lib.hid hmt
      clear hmt hall hmem
      generalize (⟨(CP.getD k []).toArray⟩ : ByteArray) = TK at *
      go_wp2_with fail
      refine HMK.out.mono ?_
      rintro e vk ⟨rfl, rfl⟩
      go_wp2_with fail
      go_round
      case rel => exact ⟨k + 1, by omega, by go_num⟩
      case measure => simp [intOf]; omega
    · obtain rfl : k = CP.length := by omega
      clear HMT HCL
      go_wp2_with fail
      refine (HDU.out _).mono ?_
      rintro e v10 ⟨rfl, hb10⟩
      have Ku1 := Lib.hid (Ku1.out.keep hb10)
      have Ku2 := Lib.hid (Ku2.out.keep hb10)
      have HB := Lib.hid (HB.out.trans (hb10.mono HB.out.size))
      clear hb10
      go_wp2_with fail
      refine (HPD.out _).mono ?_
      rintro e v11 ⟨hb11, u3, rfl, hu3⟩
      have Ku1 := Lib.hid (Ku1.out.keep hb11)
      have Ku2 := Lib.hid (Ku2.out.keep hb11)
      have Ku3 := Lib.hid hu3
      clear hu3
      have HB := Lib.hid (HB.out.trans (hb11.mono HB.out.size))
      clear hb11
      go_wp2_with fail
      refine (HXD.out _).mono ?_
      rintro e v12 ⟨hb12, u4, rfl, hu4⟩
      have Ku1 := Lib.hid (Ku1.out.keep hb12)
      have Ku2 := Lib.hid (Ku2.out.keep hb12)
      have Ku3 := Lib.hid (Ku3.out.keep hb12)
      have Ku4 := Lib.hid hu4
      clear hu4
      have HB := Lib.hid (HB.out.trans (hb12.mono HB.out.size))
      clear hb12
      have hs1 := sameTexts_any _ _ _ _ v12 Ku3.out Ku2.out HLX.out HLX.out
      rw [decide_eq_true rfl] at hs1
      have HS1 := Lib.hid (fun (_ : Unit) => hs1)
      clear hs1
      go_wp2_with fail
      refine (HS1.out ()).mono ?_
      rintro e v13 ⟨rfl, nq13, rfl⟩
      have kt := Ku1.out.keep (drewN_below _ _ nq13)
      have Ku1 := Lib.hid kt
      clear kt
      have kt := Ku2.out.keep (drewN_below _ _ nq13)
      have Ku2 := Lib.hid kt
      clear kt
      have kt := Ku3.out.keep (drewN_below _ _ nq13)
      have Ku3 := Lib.hid kt
      clear kt
      have kt := Ku4.out.keep (drewN_below _ _ nq13)
      have Ku4 := Lib.hid kt
      clear kt
      have kt := HB.out.trans (drewN_below _ _ nq13)
      have HB := Lib.hid kt
      clear kt
      have hs2 := sameTexts_any _ _ _ _ _ Ku4.out Ku1.out HLP.out HLP.out
      rw [decide_eq_true rfl] at hs2
      have HS2 := Lib.hid (fun (_ : Unit) => hs2)
      clear hs2
      go_wp2_with fail
      refine (HS2.out ()).mono ?_
      rintro e v14 ⟨rfl, nq14, rfl⟩
      have kt := Ku1.out.keep (drewN_below _ _ nq14)
      simp only [World.drewN_drewN] at kt
      have Ku1 := Lib.hid kt
      clear kt
      have kt := Ku2.out.keep (drewN_below _ _ nq14)
      simp only [World.drewN_drewN] at kt
      have Ku2 := Lib.hid kt
      clear kt
      have kt := Ku3.out.keep (drewN_below _ _ nq14)
      simp only [World.drewN_drewN] at kt
      have Ku3 := Lib.hid kt
      clear kt
      have kt := Ku4.out.keep (drewN_below _ _ nq14)
      simp only [World.drewN_drewN] at kt
      have Ku4 := Lib.hid kt
      clear kt
      have kt := HB.out.trans (drewN_below _ _ nq14)
      simp only [World.drewN_drewN] at kt
      have HB := Lib.hid kt
      clear kt
      go_wp2_with fail
      refine (HDD.out _).mono ?_
      rintro e v15 ⟨rfl, hb15⟩
      have Ku1 := Lib.hid (Ku1.out.keep hb15)
      have Ku2 := Lib.hid (Ku2.out.keep hb15)
      have Ku3 := Lib.hid (Ku3.out.keep hb15)
      have Ku4 := Lib.hid (Ku4.out.keep hb15)
      have HB := Lib.hid (HB.out.trans (hb15.mono HB.out.size))
      clear hb15
      go_wp2_with fail
      refine (HP2.out _).mono ?_
      rintro e v16 ⟨hb16, u5, rfl, hu5⟩
      have Ku1 := Lib.hid (Ku1.out.keep hb16)
      have Ku2 := Lib.hid (Ku2.out.keep hb16)
      have Ku3 := Lib.hid (Ku3.out.keep hb16)
      have Ku4 := Lib.hid (Ku4.out.keep hb16)
      have Ku5 := Lib.hid hu5
      clear hu5
      have HB := Lib.hid (HB.out.trans (hb16.mono HB.out.size))
      clear hb16
      go_wp2_with fail
      refine (HSM.out _).mono ?_
      rintro e v17 ⟨rfl, hb17⟩
      have Ku1 := Lib.hid (Ku1.out.keep hb17)
      have Ku2 := Lib.hid (Ku2.out.keep hb17)
      have Ku3 := Lib.hid (Ku3.out.keep hb17)
      have Ku4 := Lib.hid (Ku4.out.keep hb17)
      have Ku5 := Lib.hid (Ku5.out.keep hb17)
      have HB := Lib.hid (HB.out.trans (hb17.mono HB.out.size))
      clear hb17
      go_wp2_with fail
      refine (HDF.out _).mono ?_
      rintro e v18 ⟨rfl, hb18⟩
      have Ku1 := Lib.hid (Ku1.out.keep hb18)
      have Ku2 := Lib.hid (Ku2.out.keep hb18)
      have Ku3 := Lib.hid (Ku3.out.keep hb18)
      have Ku4 := Lib.hid (Ku4.out.keep hb18)
      have Ku5 := Lib.hid (Ku5.out.keep hb18)
      have HB := Lib.hid (HB.out.trans (hb18.mono HB.out.size))
      clear hb18
      go_wp2_with fail
      refine (HI1.out _).mono ?_
      rintro e v19 ⟨rfl, hb19⟩
      have Ku1 := Lib.hid (Ku1.out.keep hb19)
      have Ku2 := Lib.hid (Ku2.out.keep hb19)
      have Ku3 := Lib.hid (Ku3.out.keep hb19)
      have Ku4 := Lib.hid (Ku4.out.keep hb19)
      have Ku5 := Lib.hid (Ku5.out.keep hb19)
      have HB := Lib.hid (HB.out.trans (hb19.mono HB.out.size))
      clear hb19
      go_wp2_with fail
      refine (HI2.out _).mono ?_
      rintro e v20 ⟨rfl, hb20⟩
      have Ku1 := Lib.hid (Ku1.out.keep hb20)
      have Ku2 := Lib.hid (Ku2.out.keep hb20)
      have Ku3 := Lib.hid (Ku3.out.keep hb20)
      have Ku4 := Lib.hid (Ku4.out.keep hb20)
      have Ku5 := Lib.hid (Ku5.out.keep hb20)
      have HB := Lib.hid (HB.out.trans (hb20.mono HB.out.size))
      clear hb20
      have HST := Lib.hid (sameTexts_any _ _ _ _ v20 Ku1.out Ku5.out HLP.out HLP2.out)
      rw [HSAME.out] at HST
      generalize sameT (evC x) (evC y) = sm at *
      generalize inT (evC x) (evC y) = i1 at *
      generalize inT (evC y) (evC x) = i2 at *
      have hbo := HBOTH.out
      clear HBOTH HSAME
      cases sm with
      | true =>
        obtain ⟨rfl, rfl⟩ : i1 = true ∧ i2 = true := by simpa using hbo
        obtain rfl : dc = 5 := by rw [HDC.out]; rfl
        clear hbo
        go_wp2_with fail
        refine HST.out.mono ?_
        rintro e vq ⟨rfl, nq, rfl⟩
        have HB := Lib.hid (HB.out.trans (drewN_below _ _ nq))
        go_wp2_with fail
        refine (HF.out _).mono ?_
        rintro e v21 ⟨rfl, hb21⟩
        have HB := Lib.hid (HB.out.trans (hb21.mono HB.out.size))
        clear hb21
        go_wp2_with fail
        go_ret
        exact ⟨rfl, HB.out⟩
      | false =>
        obtain rfl : dc = 0 := by rw [HDC.out]; rfl
        cases i1 with
        | true =>
          obtain rfl : i2 = false := by simpa using hbo
          clear hbo
          go_wp2_with fail
          refine HST.out.mono ?_
          rintro e vq ⟨rfl, nq, rfl⟩
          have HB := Lib.hid (HB.out.trans (drewN_below _ _ nq))
          go_wp2_with fail
          refine (HF.out _).mono ?_
          rintro e v21 ⟨rfl, hb21⟩
          have HB := Lib.hid (HB.out.trans (hb21.mono HB.out.size))
          clear hb21
          go_wp2_with fail
          go_ret
          exact ⟨rfl, HB.out⟩
        | false =>
          clear hbo
          go_wp2_with fail
          refine HST.out.mono ?_
          rintro e vq ⟨rfl, nq, rfl⟩
          have HB := Lib.hid (HB.out.trans (drewN_below _ _ nq))
          go_wp2_with fail
          refine (HF.out _).mono ?_
          rintro e v21 ⟨rfl, hb21⟩
          have HB := Lib.hid (HB.out.trans (hb21.mono HB.out.size))
          clear hb21
          go_wp2_with fail
          go_ret
          exact ⟨rfl, HB.out⟩

set_option maxHeartbeats 16000000 in
set_option maxRecDepth 100000 in
theorem topLoopsB (c d s : ByteArray) (w : World) (hc : c.size ≤ maxLen) (hd : d.size ≤ maxLen) (hs : s.size ≤ 20) (x y : List (List Part)) (m : Nat) (hx : circ c.data.toList = some x) (hy : circ d.data.toList = some y) (hq : setOf s.data.toList = some m) (hdl : ¬ 40 < (dtC x).length) (hbl : ¬ 40 < (dtC (duC x)).length)
    (hl : Calls Try.prog 14 #[.string c, .string d] w fun e w' => e = .returned (.bool false) ∧ w' = w) :
    Calls Try.prog 4 #[.string c, .string d, .string s] w fun e w' => e = .returned (.bool true) ∧ Below w.heap.size w w' := by
  have HL := Lib.hid (fun (_ : Unit) => hl)
  have HF := Lib.hid first_any
  have hs2 : s.size ≤ 1000000 := by omega
  have hs3 : s.size ≤ 100000 := by omega
  have hvc := fun W => refValid c W hc
  have hvd := fun W => refValid d W hd
  have hvs := fun W => refValidSet s W hs2
  simp only [hx, Option.isSome_some] at hvc
  simp only [hy, Option.isSome_some] at hvd
  simp only [hq, Option.isSome_some] at hvs
  have HVC := Lib.hid hvc
  have HVD := Lib.hid hvd
  have HVS := Lib.hid hvs
  have HP := Lib.hid (fun W => pathsAt W hc hx)
  have HX := Lib.hid (fun W => cutsAt W hc hx)
  have hip := fun W => isPath_any c s W hc hs2
  have hic := fun W => isCut_any c s W hc hs2
  have hcd := fun W => conducts_any c s W hc hs2
  simp only [conductsOf_some' hx hq] at hip hcd
  simp only [isCutOf_some hx hq] at hic
  have hft := topFacts (x := x) hq
  have hdu := fun W => dual_any c W hc
  have HP2 := Lib.hid (fun W => pathsAt W hd hy)
  have hsm := fun W => same_any c d W hc hd
  have hdf := fun W => differ_any c d W hc hd
  have hi1 := fun W => within_any c d W hc hd
  have hi2 := fun W => within_any d c W hd hc
  simp only [hx, hy] at hsm hdf hi1 hi2
  change ∀ W, Calls _ _ _ _ fun e w' => e = .returned (.tuple #[.bool (sameT (evC x) (evC y)), .int .i64 0]) ∧ _ at hsm
  change ∀ W, Calls _ _ _ _ fun e w' => e = .returned (.tuple #[.string ⟨(differT (evC x) (evC y)).1.toArray⟩, .int .i64 (differT (evC x) (evC y)).2]) ∧ _ at hdf
  change ∀ W, Calls _ _ _ _ fun e w' => e = .returned (.tuple #[.bool (inT (evC x) (evC y)), .int .i64 0]) ∧ _ at hi1
  change ∀ W, Calls _ _ _ _ fun e w' => e = .returned (.tuple #[.bool (inT (evC y) (evC x)), .int .i64 0]) ∧ _ at hi2
  simp only [differT_same] at hdf
  have HDC : ∃ dc : Int, Hid (dc = if sameT (evC x) (evC y) then 5 else 0) ∧ dc = if sameT (evC x) (evC y) then 5 else 0 := ⟨_, Lib.hid rfl, rfl⟩
  obtain ⟨dc, HDC, hdc⟩ := HDC
  simp only [← hdc] at hdf
  clear hdc
  generalize (⟨(differT (evC x) (evC y)).1.toArray⟩ : ByteArray) = dtx at *
  have HSM := Lib.hid hsm
  have HDF := Lib.hid hdf
  have HI1 := Lib.hid hi1
  have HI2 := Lib.hid hi2
  have HBOTH := Lib.hid (inT_both (evC x) (evC y))
  have HSAME := Lib.hid (same_texts x y)
  have HLP := Lib.hid (mins_len (tblC x))
  have HLX := Lib.hid (mins_len (tblX x))
  have HLP2 := Lib.hid (mins_len (tblC y))
  have hpl := P_len (tblC x)
  have hxl := P_len (tblX x)
  have HPLE := Lib.hid (P_le (tblC x))
  have HXLE := Lib.hid (P_le (tblX x))
  have h1 := hft.part1
  have h2 := hft.meet1
  have h3 := hft.part2
  have h4 := hft.meet2
  have HALL := Lib.hid hft.all
  rw [dualOf_some hx] at hdu
  obtain ⟨_, hne, hok, _⟩ := circ_text hx
  rw [if_neg hdl] at hdu
  have HDU := Lib.hid hdu
  have hdsz : (⟨(dtC x).toArray⟩ : ByteArray).size ≤ maxLen := by rw [bsize]; unfold maxLen; omega
  have hdr : circ (⟨(dtC x).toArray⟩ : ByteArray).data.toList = some (duC x) := dual_read x hne hok (by omega)
  have hpd := fun W => pathsAt W hdsz hdr
  have hxd := fun W => cutsAt W hdsz hdr
  rw [dual_paths x hne hok] at hpd
  rw [dual_cuts x hne hok] at hxd
  have HPD := Lib.hid hpd
  have HXD := Lib.hid hxd
  have hdd := fun W => dual_any ⟨(dtC x).toArray⟩ W hdsz
  rw [dualOf_some hdr] at hdd
  rw [if_neg hbl] at hdd
  have HDD := Lib.hid hdd
  have hne2 := duC_ok x hne hok
  have hbsz : (⟨(dtC (duC x)).toArray⟩ : ByteArray).size ≤ maxLen := by rw [bsize]; unfold maxLen; omega
  have hbr : circ (⟨(dtC (duC x)).toArray⟩ : ByteArray).data.toList = some (duC (duC x)) := dual_read (duC x) hne2.1 hne2.2 (by omega)
  have hbs := fun W => same_any ⟨(dtC (duC x)).toArray⟩ c W hbsz hc
  simp only [hbr, hx] at hbs
  change ∀ W, Calls _ _ _ _ fun e w' => e = .returned (.tuple #[.bool (sameT (evC (duC (duC x))) (evC x)), .int .i64 0]) ∧ _ at hbs
  simp only [dual_back x hne hok] at hbs
  have HBS := Lib.hid hbs
  generalize (⟨(dtC (duC x)).toArray⟩ : ByteArray) = BK at *
  clear hbs hbr hbsz hne2
  generalize (⟨(dtC x).toArray⟩ : ByteArray) = DU at *
  clear hdsz hdr hpd hxd hdd hne hok hbl
  generalize hcp : (leastL (tblC x)).map txt = CP at *
  generalize hcx : (leastL (tblX x)).map txt = CX at *
  generalize hc2 : (leastL (tblC y)).map txt = CP2 at *
  generalize tblX x m = z at *
  generalize evC x m = b at *
  have HIP := Lib.hid hip
  have HIC := Lib.hid hic
  have HCD := Lib.hid hcd
  have HE1 := Lib.hid h1
  have HE2 := Lib.hid h2
  have HE3 := Lib.hid h3
  have HE4 := Lib.hid h4
  clear hl hvc hvd hvs hip hic hcd hft hdu hsm hdf hi1 hi2 h1 h2 h3 h4 hx hy hq hdl hcp hcx hc2
  go_enter Try.func4, Try.ntmps4
  have HB := Lib.hid (Below.refl w.heap.size w)
  go_wp2_with fail
  refine (HL.out ()).mono ?_
  rintro e v1 ⟨rfl, rfl⟩
  go_wp2_with fail
  refine (HVC.out _).mono ?_
  rintro e v2 ⟨rfl, hb2⟩
  have HB := Lib.hid (HB.out.trans (hb2.mono HB.out.size))
  clear hb2
  go_wp2_with fail
  refine (HVD.out _).mono ?_
  rintro e v3 ⟨rfl, hb3⟩
  have HB := Lib.hid (HB.out.trans (hb3.mono HB.out.size))
  clear hb3
  go_wp2_with fail
  refine (HVS.out _).mono ?_
  rintro e v4 ⟨rfl, nq4, rfl⟩
  have kt := HB.out.trans (drewN_below _ _ nq4)
  have HB := Lib.hid kt
  clear kt
  go_wp2_with fail
  refine (HP.out _).mono ?_
  rintro e v5 ⟨hb5, u1, rfl, hu1⟩
  have Ku1 := Lib.hid hu1
  clear hu1
  have HB := Lib.hid (HB.out.trans (hb5.mono HB.out.size))
  clear hb5
  go_wp2_with fail
  refine (HX.out _).mono ?_
  rintro e v6 ⟨hb6, u2, rfl, hu2⟩
  have Ku1 := Lib.hid (Ku1.out.keep hb6)
  have Ku2 := Lib.hid hu2
  clear hu2
  have HB := Lib.hid (HB.out.trans (hb6.mono HB.out.size))
  clear hb6
  go_wp2_with fail
  refine (HIP.out _).mono ?_
  rintro e v7 ⟨rfl, hb7⟩
  have Ku1 := Lib.hid (Ku1.out.keep hb7)
  have Ku2 := Lib.hid (Ku2.out.keep hb7)
  have HB := Lib.hid (HB.out.trans (hb7.mono HB.out.size))
  clear hb7
  go_wp2_with fail
  refine (HIC.out _).mono ?_
  rintro e v8 ⟨rfl, hb8⟩
  have Ku1 := Lib.hid (Ku1.out.keep hb8)
  have Ku2 := Lib.hid (Ku2.out.keep hb8)
  have HB := Lib.hid (HB.out.trans (hb8.mono HB.out.size))
  clear hb8
  go_wp2_with fail
  refine (HCD.out _).mono ?_
  rintro e v9 ⟨rfl, hb9⟩
  have Ku1 := Lib.hid (Ku1.out.keep hb9)
  have Ku2 := Lib.hid (Ku2.out.keep hb9)
  have HB := Lib.hid (HB.out.trans (hb9.mono HB.out.size))
  clear hb9
  have hp1 := partS_any _ _ s v9 Ku1.out hpl HPLE.out hs3
  have hp2 := meets_any _ _ s v9 Ku2.out hxl HXLE.out hs3
  have hp3 := partS_any _ _ s v9 Ku2.out hxl HXLE.out hs3
  have hp4 := meets_any _ _ s v9 Ku1.out hpl HPLE.out hs3
  rw [HE1.out] at hp1
  rw [HE2.out] at hp2
  rw [HE3.out] at hp3
  rw [HE4.out] at hp4
  have HQ1 := Lib.hid (fun (_ : Unit) => hp1)
  have HQ2 := Lib.hid (fun (_ : Unit) => hp2)
  have HQ3 := Lib.hid (fun (_ : Unit) => hp3)
  have HQ4 := Lib.hid (fun (_ : Unit) => hp4)
  clear hp1 hp2 hp3 hp4
  go_wp2_with fail
  refine (HQ1.out ()).mono ?_
  rintro e vp ⟨rfl, rfl⟩
  go_wp2_with fail
  refine (HQ2.out ()).mono ?_
  rintro e vp ⟨rfl, rfl⟩
  go_wp2_with fail
  refine (HQ3.out ()).mono ?_
  rintro e vp ⟨rfl, rfl⟩
  go_wp2_with fail
  refine (HQ4.out ()).mono ?_
  rintro e vp ⟨rfl, rfl⟩
  have HMT := Lib.hid (fun (t : ByteArray) (ht : t.size ≤ 100000) => meets_any _ _ t vp Ku2.out hxl HXLE.out ht)
  obtain ⟨a1, cap1, rfl, hcl⟩ := Ku1.out.form
  have HCL := Lib.hid hcl
  clear hcl
  go_wp2_with fail
  go_loop [17] (fun i => ∃ k : Nat, k ≤ CP.length ∧ i = .int .i64 k) (fun i => CP.length - (intOf i).toNat)
  case atStart => exact ⟨0, by omega, rfl⟩
  case round =>
    obtain ⟨k, hk, rfl⟩ := hrel
    by_cases hlt : k < CP.length
    · obtain ⟨g, rfl, hcell⟩ := HCL.out k hlt
      have hmem := getD_in CP k hlt
      have hmt := HMT.out ⟨(CP.getD k []).toArray⟩ (by rw [bsize]; have := HPLE.out _ hmem; omega)
      have hall := HALL.out _ hmem
      change Calls _ _ _ _ fun e w' => e = .returned (.bool (meetsS CX (CP.getD k []))) ∧ _ at hmt
      rw [hall] at hmt
      have HMK := Lib.hid hmt
      clear hmt hall hmem
      generalize (⟨(CP.getD k []).toArray⟩ : ByteArray) = TK at *
      go_wp2_with fail
      refine HMK.out.mono ?_
      rintro e vk ⟨rfl, rfl⟩
      go_wp2_with fail
      go_round
      case rel => exact ⟨k + 1, by omega, by go_num⟩
      case measure => simp [intOf]; omega
    · obtain rfl : k = CP.length := by omega
      clear HMT HCL
      go_wp2_with fail
      refine (HDU.out _).mono ?_
      rintro e v10 ⟨rfl, hb10⟩
      have Ku1 := Lib.hid (Ku1.out.keep hb10)
      have Ku2 := Lib.hid (Ku2.out.keep hb10)
      have HB := Lib.hid (HB.out.trans (hb10.mono HB.out.size))
      clear hb10
      go_wp2_with fail
      refine (HPD.out _).mono ?_
      rintro e v11 ⟨hb11, u3, rfl, hu3⟩
      have Ku1 := Lib.hid (Ku1.out.keep hb11)
      have Ku2 := Lib.hid (Ku2.out.keep hb11)
      have Ku3 := Lib.hid hu3
      clear hu3
      have HB := Lib.hid (HB.out.trans (hb11.mono HB.out.size))
      clear hb11
      go_wp2_with fail
      refine (HXD.out _).mono ?_
      rintro e v12 ⟨hb12, u4, rfl, hu4⟩
      have Ku1 := Lib.hid (Ku1.out.keep hb12)
      have Ku2 := Lib.hid (Ku2.out.keep hb12)
      have Ku3 := Lib.hid (Ku3.out.keep hb12)
      have Ku4 := Lib.hid hu4
      clear hu4
      have HB := Lib.hid (HB.out.trans (hb12.mono HB.out.size))
      clear hb12
      have hs1 := sameTexts_any _ _ _ _ v12 Ku3.out Ku2.out HLX.out HLX.out
      rw [decide_eq_true rfl] at hs1
      have HS1 := Lib.hid (fun (_ : Unit) => hs1)
      clear hs1
      go_wp2_with fail
      refine (HS1.out ()).mono ?_
      rintro e v13 ⟨rfl, nq13, rfl⟩
      have kt := Ku1.out.keep (drewN_below _ _ nq13)
      have Ku1 := Lib.hid kt
      clear kt
      have kt := Ku2.out.keep (drewN_below _ _ nq13)
      have Ku2 := Lib.hid kt
      clear kt
      have kt := Ku3.out.keep (drewN_below _ _ nq13)
      have Ku3 := Lib.hid kt
      clear kt
      have kt := Ku4.out.keep (drewN_below _ _ nq13)
      have Ku4 := Lib.hid kt
      clear kt
      have kt := HB.out.trans (drewN_below _ _ nq13)
      have HB := Lib.hid kt
      clear kt
      have hs2 := sameTexts_any _ _ _ _ _ Ku4.out Ku1.out HLP.out HLP.out
      rw [decide_eq_true rfl] at hs2
      have HS2 := Lib.hid (fun (_ : Unit) => hs2)
      clear hs2
      go_wp2_with fail
      refine (HS2.out ()).mono ?_
      rintro e v14 ⟨rfl, nq14, rfl⟩
      have kt := Ku1.out.keep (drewN_below _ _ nq14)
      simp only [World.drewN_drewN] at kt
      have Ku1 := Lib.hid kt
      clear kt
      have kt := Ku2.out.keep (drewN_below _ _ nq14)
      simp only [World.drewN_drewN] at kt
      have Ku2 := Lib.hid kt
      clear kt
      have kt := Ku3.out.keep (drewN_below _ _ nq14)
      simp only [World.drewN_drewN] at kt
      have Ku3 := Lib.hid kt
      clear kt
      have kt := Ku4.out.keep (drewN_below _ _ nq14)
      simp only [World.drewN_drewN] at kt
      have Ku4 := Lib.hid kt
      clear kt
      have kt := HB.out.trans (drewN_below _ _ nq14)
      simp only [World.drewN_drewN] at kt
      have HB := Lib.hid kt
      clear kt
      go_wp2_with fail
      refine (HDD.out _).mono ?_
      rintro e v15 ⟨rfl, hb15⟩
      have Ku1 := Lib.hid (Ku1.out.keep hb15)
      have Ku2 := Lib.hid (Ku2.out.keep hb15)
      have Ku3 := Lib.hid (Ku3.out.keep hb15)
      have Ku4 := Lib.hid (Ku4.out.keep hb15)
      have HB := Lib.hid (HB.out.trans (hb15.mono HB.out.size))
      clear hb15
      go_wp2_with fail
      refine (HBS.out _).mono ?_
      rintro e v16 ⟨rfl, hb16⟩
      have Ku1 := Lib.hid (Ku1.out.keep hb16)
      have Ku2 := Lib.hid (Ku2.out.keep hb16)
      have Ku3 := Lib.hid (Ku3.out.keep hb16)
      have Ku4 := Lib.hid (Ku4.out.keep hb16)
      have HB := Lib.hid (HB.out.trans (hb16.mono HB.out.size))
      clear hb16
      go_wp2_with fail
      refine (HP2.out _).mono ?_
      rintro e v17 ⟨hb17, u5, rfl, hu5⟩
      have Ku1 := Lib.hid (Ku1.out.keep hb17)
      have Ku2 := Lib.hid (Ku2.out.keep hb17)
      have Ku3 := Lib.hid (Ku3.out.keep hb17)
      have Ku4 := Lib.hid (Ku4.out.keep hb17)
      have Ku5 := Lib.hid hu5
      clear hu5
      have HB := Lib.hid (HB.out.trans (hb17.mono HB.out.size))
      clear hb17
      go_wp2_with fail
      refine (HSM.out _).mono ?_
      rintro e v18 ⟨rfl, hb18⟩
      have Ku1 := Lib.hid (Ku1.out.keep hb18)
      have Ku2 := Lib.hid (Ku2.out.keep hb18)
      have Ku3 := Lib.hid (Ku3.out.keep hb18)
      have Ku4 := Lib.hid (Ku4.out.keep hb18)
      have Ku5 := Lib.hid (Ku5.out.keep hb18)
      have HB := Lib.hid (HB.out.trans (hb18.mono HB.out.size))
      clear hb18
      go_wp2_with fail
      refine (HDF.out _).mono ?_
      rintro e v19 ⟨rfl, hb19⟩
      have Ku1 := Lib.hid (Ku1.out.keep hb19)
      have Ku2 := Lib.hid (Ku2.out.keep hb19)
      have Ku3 := Lib.hid (Ku3.out.keep hb19)
      have Ku4 := Lib.hid (Ku4.out.keep hb19)
      have Ku5 := Lib.hid (Ku5.out.keep hb19)
      have HB := Lib.hid (HB.out.trans (hb19.mono HB.out.size))
      clear hb19
      go_wp2_with fail
      refine (HI1.out _).mono ?_
      rintro e v20 ⟨rfl, hb20⟩
      have Ku1 := Lib.hid (Ku1.out.keep hb20)
      have Ku2 := Lib.hid (Ku2.out.keep hb20)
      have Ku3 := Lib.hid (Ku3.out.keep hb20)
      have Ku4 := Lib.hid (Ku4.out.keep hb20)
      have Ku5 := Lib.hid (Ku5.out.keep hb20)
      have HB := Lib.hid (HB.out.trans (hb20.mono HB.out.size))
      clear hb20
      go_wp2_with fail
      refine (HI2.out _).mono ?_
      rintro e v21 ⟨rfl, hb21⟩
      have Ku1 := Lib.hid (Ku1.out.keep hb21)
      have Ku2 := Lib.hid (Ku2.out.keep hb21)
      have Ku3 := Lib.hid (Ku3.out.keep hb21)
      have Ku4 := Lib.hid (Ku4.out.keep hb21)
      have Ku5 := Lib.hid (Ku5.out.keep hb21)
      have HB := Lib.hid (HB.out.trans (hb21.mono HB.out.size))
      clear hb21
      have HST := Lib.hid (sameTexts_any _ _ _ _ v21 Ku1.out Ku5.out HLP.out HLP2.out)
      rw [HSAME.out] at HST
      generalize sameT (evC x) (evC y) = sm at *
      generalize inT (evC x) (evC y) = i1 at *
      generalize inT (evC y) (evC x) = i2 at *
      have hbo := HBOTH.out
      clear HBOTH HSAME
      cases sm with
      | true =>
        obtain ⟨rfl, rfl⟩ : i1 = true ∧ i2 = true := by simpa using hbo
        obtain rfl : dc = 5 := by rw [HDC.out]; rfl
        clear hbo
        go_wp2_with fail
        refine HST.out.mono ?_
        rintro e vq ⟨rfl, nq, rfl⟩
        have HB := Lib.hid (HB.out.trans (drewN_below _ _ nq))
        go_wp2_with fail
        refine (HF.out _).mono ?_
        rintro e v22 ⟨rfl, hb22⟩
        have HB := Lib.hid (HB.out.trans (hb22.mono HB.out.size))
        clear hb22
        go_wp2_with fail
        go_ret
        exact ⟨rfl, HB.out⟩
      | false =>
        obtain rfl : dc = 0 := by rw [HDC.out]; rfl
        cases i1 with
        | true =>
          obtain rfl : i2 = false := by simpa using hbo
          clear hbo
          go_wp2_with fail
          refine HST.out.mono ?_
          rintro e vq ⟨rfl, nq, rfl⟩
          have HB := Lib.hid (HB.out.trans (drewN_below _ _ nq))
          go_wp2_with fail
          refine (HF.out _).mono ?_
          rintro e v22 ⟨rfl, hb22⟩
          have HB := Lib.hid (HB.out.trans (hb22.mono HB.out.size))
          clear hb22
          go_wp2_with fail
          go_ret
          exact ⟨rfl, HB.out⟩
        | false =>
          clear hbo
          go_wp2_with fail
          refine HST.out.mono ?_
          rintro e vq ⟨rfl, nq, rfl⟩
          have HB := Lib.hid (HB.out.trans (drewN_below _ _ nq))
          go_wp2_with fail
          refine (HF.out _).mono ?_
          rintro e v22 ⟨rfl, hb22⟩
          have HB := Lib.hid (HB.out.trans (hb22.mono HB.out.size))
          clear hb22
          go_wp2_with fail
          go_ret
          exact ⟨rfl, HB.out⟩

set_option maxHeartbeats 4000000 in
set_option maxRecDepth 100000 in
theorem topLoops_any (c d s : ByteArray) (w : World) (hc : c.size ≤ maxLen) (hd : d.size ≤ maxLen) (hs : s.size ≤ maxLen) :
    Calls Try.prog 4 #[.string c, .string d, .string s] w fun e w' => e = .returned (.bool true) ∧ Below w.heap.size w w' := by
  have hl := long_any c d w hc hd
  have HF := Lib.hid first_any
  have hsm := hs
  unfold maxLen at hsm
  by_cases hlong : 200 < c.size ∨ 200 < d.size
  · rw [decide_eq_true hlong] at hl
    have HL := Lib.hid (fun (_ : Unit) => hl)
    clear hlong hl
    go_enter Try.func4, Try.ntmps4
    have HB := Lib.hid (Below.refl w.heap.size w)
    go_wp2_with fail
    refine (HL.out ()).mono ?_
    rintro e v1 ⟨rfl, rfl⟩
    go_wp2_with fail
    refine (HF.out _).mono ?_
    rintro e v2 ⟨rfl, hb2⟩
    have HB := Lib.hid (HB.out.trans (hb2.mono HB.out.size))
    clear hb2
    go_wp2_with fail
    go_ret
    exact ⟨rfl, HB.out⟩
  · rw [decide_eq_false hlong] at hl
    by_cases h20 : 20 < s.size
    · have HL := Lib.hid (fun (_ : Unit) => hl)
      clear hlong hl
      go_enter Try.func4, Try.ntmps4
      have HB := Lib.hid (Below.refl w.heap.size w)
      go_wp2_with fail
      refine (HL.out ()).mono ?_
      rintro e v1 ⟨rfl, rfl⟩
      go_wp2_with fail
      refine (HF.out _).mono ?_
      rintro e v2 ⟨rfl, hb2⟩
      have HB := Lib.hid (HB.out.trans (hb2.mono HB.out.size))
      clear hb2
      go_wp2_with fail
      go_ret
      exact ⟨rfl, HB.out⟩
    · have hs2 : s.size ≤ 1000000 := by omega
      have hvc := fun W => refValid c W hc
      have hvd := fun W => refValid d W hd
      have hvs := fun W => refValidSet s W hs2
      cases hx : circ c.data.toList with
      | none =>
        simp only [hx, Option.isSome_none] at hvc
        have HVC := Lib.hid hvc
        have HL := Lib.hid (fun (_ : Unit) => hl)
        clear hlong hl hvc hvd hvs hx
        go_enter Try.func4, Try.ntmps4
        have HB := Lib.hid (Below.refl w.heap.size w)
        go_wp2_with fail
        refine (HL.out ()).mono ?_
        rintro e v1 ⟨rfl, rfl⟩
        go_wp2_with fail
        refine (HVC.out _).mono ?_
        rintro e v2 ⟨rfl, hb2⟩
        have HB := Lib.hid (HB.out.trans (hb2.mono HB.out.size))
        clear hb2
        go_wp2_with fail
        refine (HF.out _).mono ?_
        rintro e v3 ⟨rfl, hb3⟩
        have HB := Lib.hid (HB.out.trans (hb3.mono HB.out.size))
        clear hb3
        go_wp2_with fail
        go_ret
        exact ⟨rfl, HB.out⟩
      | some x =>
        cases hy : circ d.data.toList with
        | none =>
          simp only [hx, Option.isSome_some] at hvc
          simp only [hy, Option.isSome_none] at hvd
          have HVC := Lib.hid hvc
          have HVD := Lib.hid hvd
          have HL := Lib.hid (fun (_ : Unit) => hl)
          clear hlong hl hvc hvd hvs hx hy
          go_enter Try.func4, Try.ntmps4
          have HB := Lib.hid (Below.refl w.heap.size w)
          go_wp2_with fail
          refine (HL.out ()).mono ?_
          rintro e v1 ⟨rfl, rfl⟩
          go_wp2_with fail
          refine (HVC.out _).mono ?_
          rintro e v2 ⟨rfl, hb2⟩
          have HB := Lib.hid (HB.out.trans (hb2.mono HB.out.size))
          clear hb2
          go_wp2_with fail
          refine (HVD.out _).mono ?_
          rintro e v3 ⟨rfl, hb3⟩
          have HB := Lib.hid (HB.out.trans (hb3.mono HB.out.size))
          clear hb3
          go_wp2_with fail
          refine (HF.out _).mono ?_
          rintro e v4 ⟨rfl, hb4⟩
          have HB := Lib.hid (HB.out.trans (hb4.mono HB.out.size))
          clear hb4
          go_wp2_with fail
          go_ret
          exact ⟨rfl, HB.out⟩
        | some y =>
          cases hq : setOf s.data.toList with
          | none =>
            simp only [hx, Option.isSome_some] at hvc
            simp only [hy, Option.isSome_some] at hvd
            simp only [hq, Option.isSome_none] at hvs
            have HVC := Lib.hid hvc
            have HVD := Lib.hid hvd
            have HVS := Lib.hid hvs
            have HL := Lib.hid (fun (_ : Unit) => hl)
            clear hlong hl hvc hvd hvs hx hy hq
            go_enter Try.func4, Try.ntmps4
            have HB := Lib.hid (Below.refl w.heap.size w)
            go_wp2_with fail
            refine (HL.out ()).mono ?_
            rintro e v1 ⟨rfl, rfl⟩
            go_wp2_with fail
            refine (HVC.out _).mono ?_
            rintro e v2 ⟨rfl, hb2⟩
            have HB := Lib.hid (HB.out.trans (hb2.mono HB.out.size))
            clear hb2
            go_wp2_with fail
            refine (HVD.out _).mono ?_
            rintro e v3 ⟨rfl, hb3⟩
            have HB := Lib.hid (HB.out.trans (hb3.mono HB.out.size))
            clear hb3
            go_wp2_with fail
            refine (HVS.out _).mono ?_
            rintro e v4 ⟨rfl, nq4, rfl⟩
            have kt := HB.out.trans (drewN_below _ _ nq4)
            have HB := Lib.hid kt
            clear kt
            go_wp2_with fail
            refine (HF.out _).mono ?_
            rintro e v5 ⟨rfl, hb5⟩
            have HB := Lib.hid (HB.out.trans (hb5.mono HB.out.size))
            clear hb5
            go_wp2_with fail
            go_ret
            exact ⟨rfl, HB.out⟩
          | some m =>
            by_cases hdl : 40 < (dtC x).length
            · exact topLoopsL c d s w hc hd (by omega) x y m hx hy hq hdl hl
            · by_cases hbl : 40 < (dtC (duC x)).length
              · exact topLoopsM c d s w hc hd (by omega) x y m hx hy hq hdl hbl hl
              · exact topLoopsB c d s w hc hd (by omega) x y m hx hy hq hdl hbl hl
end Go.Proofs.Ytfoeamgjjhfkdaa
