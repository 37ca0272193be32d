/- The reference's part at a bracket. -/
import Derived.Test.YtfoeamgjjhfkdaaRb
namespace Go.Proofs.Ytfoeamgjjhfkdaa
open Go Go.Shelf Go.RowKit Go.Proofs L9

theorem zeros_size : Try.zeroCells50.size = 256 := by rw [zeros50]; exact tabArr_size _

set_option maxHeartbeats 4000000 in
set_option maxRecDepth 100000 in
theorem refPartParen (n b : Nat) (s : ByteArray) (p : Nat) (w : World) (r : List UInt8) (hR : RR b s p false w) (hd : dropS s p = 40 :: r) (hs : s.size ≤ 1000)
    (ihC : ∀ (w : World), RR b s (p + 1) false w → Calls Try.prog 88 #[.pointer (some ⟨b, 0, none⟩)] w (PostRC n b s (p + 1) w)) :
    Calls Try.prog 123 #[.pointer (some ⟨b, 0, none⟩)] w (PostRP (n + 1) b s p w) := by
  obtain ⟨hp, hd1⟩ := dropS_cons hd
  have hB2 : Below w.heap.size w (w.alloc (.cells Try.zeroCells50 50)) := (Below.refl _ _).alloc (Nat.le_refl _) _
  have hbl := hR.lt
  have HN := Lib.hid (refNext b s p false _ (hR.keep hB2))
  have hv : hdv (s.data.toList.drop p) = 40 := by
    have : hdv (dropS s p) = 40 := by rw [hd]; rfl
    exact this
  rw [hv] at HN
  have HD1 := Lib.hid hd1
  have HD := Lib.hid hd
  have HR := Lib.hid hR
  have HIC := Lib.hid ihC
  have c1 := hR.c1
  have f1 := hR.f 1
  clear hd1 hd hv hB2 hR ihC
  go_enter Try.func123, Try.ntmps123
  go_wp2_with fail
  refine HN.out.mono ?_
  rintro e w' ⟨rfl, nq, rfl⟩
  go_wp2_with fail
  have hW : RR b s (p + 1) false (((w.alloc (.cells Try.zeroCells50 50)).drewN nq).setCell ⟨b, 1, none⟩ (.int .i64 ((p : Int) + 1))) := by
    have h1 := ((HR.out.keep ((Below.refl _ _).alloc (Nat.le_refl _) (.cells Try.zeroCells50 50))).drewN nq).set1 (p + 1)
    simpa using h1
  have hRw : Rw b w (((w.alloc (.cells Try.zeroCells50 50)).drewN nq).setCell ⟨b, 1, none⟩ (.int .i64 ((p : Int) + 1))) :=
    (((Rw.of_below ((Below.refl _ _).alloc (Nat.le_refl _) _)).drewN nq).trans (Rw.setCell b 1 _ _))
  have hsz : ((((w.alloc (.cells Try.zeroCells50 50)).drewN nq).setCell ⟨b, 1, none⟩ (.int .i64 ((p : Int) + 1)))).heap.size = w.heap.size + 1 := by rw [set_size]; simp
  have hres : (((w.alloc (.cells Try.zeroCells50 50)).drewN nq).setCell ⟨b, 1, none⟩ (.int .i64 ((p : Int) + 1))).heap[w.heap.size]? = some (.cells (tabArr fun _ => false) 50 (0, 0)) := by
    rw [setCell_ne _ _ _ _ _ (by omega), ← zeros50]
    exact alloc_last _ _
  generalize ((w.alloc (.cells Try.zeroCells50 50)).drewN nq).setCell ⟨b, 1, none⟩ (.int .i64 ((p : Int) + 1)) = W1 at *
  have HW := Lib.hid hW
  have HC := Lib.hid (HIC.out _ hW)
  have HRw := Lib.hid hRw
  have HS := Lib.hid hres
  clear hW hRw hres c1 f1
  refine HC.out.mono ?_
  rintro e w2 ⟨t, p1, bad1, rfl, hRw2, hRR2, hle1, hle2, hpost⟩
  have hsz2 := hRw2.size
  have HRw2 := Lib.hid (HRw.out.trans hRw2)
  have HRR2 := Lib.hid hRR2
  have HS2 : Hid (w2.heap[w.heap.size]? = some (.cells (tabArr fun _ => false) 50 (0, 0))) := by
    show _ = _
    rw [hRw2.block _ (by omega) (by simp; omega)]; exact HS.out
  have HP := Lib.hid hpost
  clear hRw2 hRR2 hpost HC HW
  go_wp2_with (refine wpList_store_row rfl 50 _ _ rfl w2.heap.size (tabArr t) rfl rfl 50 _ (alloc_last _ _) (by rw [tabArr_size]; exact info50) (by rw [zeros_size, tabArr_size]) (tabArr_one _) ?_)
  have hal : Below w2.heap.size w2 (w2.alloc (.cells Try.zeroCells50 50)) := (Below.refl _ _).alloc (Nat.le_refl _) _
  have hRR3 : RR b s p1 bad1 ((w2.alloc (.cells Try.zeroCells50 50)).setRow w2.heap.size (tabArr t)) := (HRR2.out.keep hal).same (setRow_ne _ _ _ _ (by have := HRR2.out.lt; omega))
  have hRw3 : Rw b w ((w2.alloc (.cells Try.zeroCells50 50)).setRow w2.heap.size (tabArr t)) := (HRw2.out.trans (Rw.of_below hal)).setRow _ _ HRw2.out.size
  have hS3 : ((w2.alloc (.cells Try.zeroCells50 50)).setRow w2.heap.size (tabArr t)).heap[w.heap.size]? = some (.cells (tabArr fun _ => false) 50 (0, 0)) := by
    rw [setRow_ne _ _ _ _ (by omega), hal.block _ (by omega)]; exact HS2.out
  have hO3 : ((w2.alloc (.cells Try.zeroCells50 50)).setRow w2.heap.size (tabArr t)).heap[w2.heap.size]? = some (.cells (tabArr t) 50 (0, 0)) := setRow_at _ _ _ _ _ (alloc_last _ _)
  generalize ((w2.alloc (.cells Try.zeroCells50 50)).setRow w2.heap.size (tabArr t)) = W3 at *
  have hGw : w.heap.size + 1 ≤ w2.heap.size := by omega
  clear hal HS2 HRR2 HRw2 hsz hsz2
  generalize w2.heap.size = G at *
  have HN3 := Lib.hid (refNext b s p1 bad1 _ hRR3)
  have HRR3 := Lib.hid hRR3
  have HRw3 := Lib.hid hRw3
  have HS3 := Lib.hid hS3
  have HO3 := Lib.hid hO3
  have c1 := hRR3.c1
  have f1 := hRR3.f 1
  have c2 := hRR3.c2
  have f2 := hRR3.f 2
  clear hRR3 hRw3 hS3 hO3
  have hpp := pP_paren n r
  by_cases h41 : hdv (s.data.toList.drop p1) = 41
  · rw [h41] at HN3
    obtain ⟨r'', hr''⟩ : ∃ r'', dropS s p1 = 41 :: r'' := by
      cases h : dropS s p1 with
      | nil => unfold dropS at h; rw [h] at h41; cases h41
      | cons y r'' =>
        unfold dropS at h
        rw [h] at h41
        exact ⟨r'', by rw [(u8_nat y 41 (by omega)).2 h41]; rfl⟩
    obtain ⟨hp1, hr1⟩ := dropS_cons hr''
    have hfin : ∀ (W : World), Rw b w W → RR b s (p1 + 1) bad1 W → PostRP (n + 1) b s p w (.returned (.agg (tabArr t))) W := by
      intro W h1 h2
      refine ⟨t, p1 + 1, bad1, rfl, h1, h2, by omega, by omega, ?_⟩
      rw [HD.out, hpp]
      have hP := HP.out
      rw [HD1.out] at hP
      cases hc : pC n r with
      | none => rw [hc] at hP; exact hP
      | some y =>
        obtain ⟨c, r'⟩ := y
        rw [hc] at hP
        obtain ⟨h3, h4, h5, h6, h7⟩ := hP
        rw [hr''] at h4
        subst h4
        simp only [if_pos]
        exact ⟨h3, hr1, by omega, by omega, h7⟩
    have HFIN := Lib.hid hfin
    clear hfin hpp HP h41
    go_wp2_with fail
    refine HN3.out.mono ?_
    rintro e w' ⟨rfl, nq3, rfl⟩
    go_wp2_with (first | (refine wpList_load_row rfl 50 _ rfl G rfl 50 (tabArr t) (0, 0) _ (by rw [setCell_ne _ b _ G _ (by omega)]; exact HO3.out) Try.underlying50 rfl (by rw [tabArr_size]; exact info50) ?_) | (refine wpList_store_row rfl 50 _ _ rfl w.heap.size (tabArr t) rfl rfl 50 _ (by rw [setCell_ne _ b _ w.heap.size _ (by omega)]; exact HS3.out) (by rw [tabArr_size]; exact info50) (by rw [tabArr_size, tabArr_size]) (tabArr_one _) ?_))
    refine tabRet rfl rfl (setRow_at _ _ _ _ _ ((setCell_ne _ b _ w.heap.size _ (by omega)).trans HS3.out)) ?_
    refine HFIN.out _ (((HRw3.out.drewN _).trans (Rw.setCell b 1 _ _)).setRow _ _ (Nat.le_refl _)) ?_
    exact (((HRR3.out.drewN _).set1 (p1 + 1)).same (setRow_ne _ _ _ _ (by omega)))
  · have hfin : ∀ (W : World), Rw b w W → RR b s (p1 + 1) true W → PostRP (n + 1) b s p w (.returned (.agg (tabArr t))) W := by
      intro W h1 h2
      refine ⟨t, p1 + 1, true, rfl, h1, h2, by omega, by omega, ?_⟩
      rw [HD.out, hpp]
      have hP := HP.out
      rw [HD1.out] at hP
      cases hc : pC n r with
      | none => rfl
      | some y =>
        obtain ⟨c, r'⟩ := y
        rw [hc] at hP
        obtain ⟨h3, h4, h5, h6, h7⟩ := hP
        have h41' : ¬ ∃ r'', r' = 41 :: r'' := by
          rintro ⟨r'', rfl⟩
          apply h41
          have : hdv (dropS s p1) = 41 := by rw [h4]; rfl
          exact this
        cases r' with
        | nil => rfl
        | cons y r'' =>
          have hy : y ≠ 41 := fun h => h41' ⟨r'', by rw [h]⟩
          simp only [if_neg hy]
    have HFIN := Lib.hid hfin
    have hne : ¬ (hdv (s.data.toList.drop p1) : Int) = 41 := by omega
    clear hfin hpp HP h41
    go_wp2_with fail
    refine HN3.out.mono ?_
    rintro e w' ⟨rfl, nq3, rfl⟩
    go_wp2_with (first | (refine wpList_load_row rfl 50 _ rfl G rfl 50 (tabArr t) (0, 0) _ (by rw [setCell_ne _ b _ G _ (by omega), setCell_ne _ b _ G _ (by omega)]; exact HO3.out) Try.underlying50 rfl (by rw [tabArr_size]; exact info50) ?_) | (refine wpList_store_row rfl 50 _ _ rfl w.heap.size (tabArr t) rfl rfl 50 _ (by rw [setCell_ne _ b _ w.heap.size _ (by omega), setCell_ne _ b _ w.heap.size _ (by omega)]; exact HS3.out) (by rw [tabArr_size]; exact info50) (by rw [tabArr_size, tabArr_size]) (tabArr_one _) ?_))
    refine tabRet rfl rfl (setRow_at _ _ _ _ _ ((setCell_ne _ b _ w.heap.size _ (by omega)).trans ((setCell_ne _ b _ w.heap.size _ (by omega)).trans HS3.out))) ?_
    refine HFIN.out _ ((((HRw3.out.drewN _).trans (Rw.setCell b 2 _ _)).trans (Rw.setCell b 1 _ _)).setRow _ _ (Nat.le_refl _)) ?_
    exact ((((HRR3.out.drewN _).set2 true).set1 (p1 + 1)).same (setRow_ne _ _ b _ (by omega)))
end Go.Proofs.Ytfoeamgjjhfkdaa
