/- The reference's circuit, walked. -/
import Derived.Test.YtfoeamgjjhfkdaaRe
namespace Go.Proofs.Ytfoeamgjjhfkdaa
open Go Go.Shelf Go.RowKit Go.Proofs L9

def contC (m : Nat) (cs : List (List Part)) (r : List UInt8) : Option (List (List Part) × List UInt8) := match r with
  | [] => some (cs, [])
  | x :: r' => if x = 43 then (pC m r').map (fun y => (cs ++ y.1, y.2)) else some (cs, x :: r')
theorem pC_cont (n : Nat) (s : List UInt8) : pC (n + 1) s = match pB n s with
    | none => none
    | some (b, r) => contC n [b] r := by
  rw [pC_succ]
  cases pB n s with
  | none => rfl
  | some y =>
    obtain ⟨b, r⟩ := y
    cases r with
    | nil => rfl
    | cons x r' => rfl
theorem contC_step (m : Nat) (cs : List (List Part)) (r' : List UInt8) : contC (m + 1) cs (43 :: r') = match pB m r' with
    | none => none
    | some (b, r) => contC m (cs ++ [b]) r := by
  unfold contC
  simp only [if_pos]
  rw [pC_cont]
  cases pB m r' with
  | none => rfl
  | some y =>
    obtain ⟨b, r⟩ := y
    cases r with
    | nil => simp [contC]
    | cons x r' =>
      simp only [contC]
      split
      · cases pC m r' <;> simp
      · simp
theorem contC_stop {m : Nat} {cs : List (List Part)} {r : List UInt8} (h : hdv r ≠ 43) : contC m cs r = some (cs, r) := by
  cases r with
  | nil => rfl
  | cons x r' =>
    have : x ≠ 43 := fun e => h (by rw [e]; rfl)
    simp only [contC, if_neg this]
theorem evC_snoc (cs : List (List Part)) (b : List Part) (i : Nat) : evC (cs ++ [b]) i = (evC cs i || evB b i) := by
  induction cs with
  | nil => simp [evC]
  | cons q cs ih => simp only [List.cons_append, evC, ih, Bool.or_assoc]

def rrA (sz b : Nat) (w : World) : Nat := match w.cell? ⟨b, 1, none⟩ with
  | some (.int _ a) => 2 * sz + 1 - a.toNat
  | _ => 0
theorem rrA_of {b : Nat} {s : ByteArray} {p : Nat} {bad : Bool} {w : World} (sz : Nat) (h : RR b s p bad w) : rrA sz b w = 2 * sz + 1 - p := by
  unfold rrA
  rw [h.c1]
  simp

/-- where the reference's circuit stands before each plus -/
def CRel (n b : Nat) (s : ByteArray) (p : Nat) (w : World) (G : Nat) (wr : World) : Prop :=
  ∃ (p' : Nat) (bad' : Bool) (t : Nat → Bool), RR b s p' bad' wr ∧ Rw b w wr ∧ wr.heap[w.heap.size]? = some (.cells (tabArr fun _ => false) 50 (0, 0)) ∧
    wr.heap[G]? = some (.cells (tabArr t) 50 (0, 0)) ∧ p ≤ p' ∧ p' + p ≤ 2 * s.size ∧
    ((bad' = true ∧ pC n (dropS s p) = none) ∨
      (bad' = false ∧ p < p' ∧ p' ≤ s.size ∧ ∃ m cs, pC n (dropS s p) = contC m cs (dropS s p') ∧ 3 * (s.size - p') + 2 ≤ m ∧ m ≤ n ∧ ∀ i, i < 256 → t i = evC cs i))

set_option maxHeartbeats 4000000 in
set_option maxRecDepth 100000 in
theorem refCircuit (n b : Nat) (s : ByteArray) (p : Nat) (w : World) (hR : RR b s p false w) (hps : p ≤ s.size) (hs : s.size ≤ 900) (hn : 3 * (s.size - p) + 3 ≤ n)
    (ihB : ∀ m, m < n → ∀ (p : Nat) (bad : Bool) (w : World), RR b s p bad w → p ≤ s.size → 3 * (s.size - p) + 2 ≤ m → Calls Try.prog 109 #[.pointer (some ⟨b, 0, none⟩)] w (PostRB m b s p bad w)) :
    Calls Try.prog 88 #[.pointer (some ⟨b, 0, none⟩)] w (PostRC n b s p w) := by
  obtain ⟨n', rfl⟩ : ∃ n', n = n' + 1 := ⟨n - 1, by omega⟩
  have hbl := hR.lt
  have HB := Lib.hid (ihB n' (by omega) p false _ (hR.keep ((Below.refl _ _).alloc (Nat.le_refl _) (.cells Try.zeroCells50 50))) hps (by omega))
  have IHB := Lib.hid ihB
  clear ihB hR
  go_enter Try.func88, Try.ntmps88
  go_wp2_with fail
  refine HB.out.mono ?_
  rintro e w2 ⟨u, p1, bad1, rfl, hRw2, hRR2, hle3, hle4, hpost⟩
  have hal : Below w.heap.size w (w.alloc (.cells Try.zeroCells50 50)) := (Below.refl _ _).alloc (Nat.le_refl _) _
  have hRw2' : Rw b w w2 := (Rw.of_below hal).trans hRw2
  have hsz2 := hRw2.size
  have hsz1 : (w.alloc (.cells Try.zeroCells50 50)).heap.size = w.heap.size + 1 := by simp
  have hS2 : w2.heap[w.heap.size]? = some (.cells (tabArr fun _ => false) 50 (0, 0)) := by
    rw [← zeros50]; exact hRw2.keepAt (alloc_last _ _) (by omega)
  have hstart : CRel (n' + 1) b s p w w2.heap.size ((w2.alloc (.cells Try.zeroCells50 50)).setRow w2.heap.size (tabArr u)) := by
    refine ⟨p1, bad1, u, (hRR2.keep ((Below.refl _ _).alloc (Nat.le_refl _) _)).same (setRow_ne _ _ _ _ (by have := hRR2.lt; omega)), (hRw2'.trans (Rw.of_below ((Below.refl _ _).alloc (Nat.le_refl _) _))).setRow _ _ (by omega), ?_, setRow_at _ _ _ _ _ (alloc_last _ _), hle3, hle4, ?_⟩
    · rw [setRow_ne _ _ _ _ (by omega), Below.heap_alloc _ _ _ (by omega)]; exact hS2
    · rw [pC_cont]
      rcases hpost with ⟨h, _⟩ | ⟨_, hpost⟩
      · cases h
      · cases hb : pB n' (dropS s p) with
        | none => rw [hb] at hpost; exact Or.inl ⟨hpost, rfl⟩
        | some y =>
          obtain ⟨x, r⟩ := y
          rw [hb] at hpost
          obtain ⟨h1, h2, h3, h4, h5⟩ := hpost
          exact Or.inr ⟨h1, h3, h4, n', [x], by rw [h2], by omega, by omega, fun i hi => by rw [h5 i hi]; simp [evC]⟩
  have HST := Lib.hid hstart
  clear hRw2 hRw2' hRR2 hpost hS2 hstart hal HB
  go_wp2_with (refine wpList_store_row rfl 50 _ _ rfl w2.heap.size (tabArr u) rfl rfl 50 _ (alloc_last _ _) (by rw [tabArr_size]; exact info50) (by rw [zeros_size, tabArr_size]) (tabArr_one _) ?_)
  generalize ((w2.alloc (.cells Try.zeroCells50 50)).setRow w2.heap.size (tabArr u)) = W3 at *
  have hG : w.heap.size + 1 ≤ w2.heap.size := by omega
  generalize w2.heap.size = G at *
  clear hsz1 hsz2 hle3 hle4
  go_simp
  go_loopw [5] (fun _ wr => CRel (n' + 1) b s p w G wr) (fun _ wr => rrA s.size b wr)
  case atStart => exact HST.out
  case round =>
    clear HST
    obtain ⟨p', bad', t, hRR, hRw, hS, hO, hle, hle2, hcase⟩ := hrel
    obtain ⟨v, hv⟩ : ∃ v, hdv (dropS s p') = v := ⟨_, rfl⟩
    have HN1 := Lib.hid (show Calls Try.prog 110 #[.pointer (some ⟨b, 0, none⟩)] wr fun e w' => e = .returned (.int .u8 (v : Nat)) ∧ ∃ n, w' = wr.drewN n from refNextAt b s p' v bad' wr hRR hv 0)
    have hlt1 := heap_lt hO
    have c1 := hRR.c1
    have f1 := hRR.f 1
    have HM := Lib.hid (rrA_of s.size hRR)
    have HRR := Lib.hid hRR
    have HRw := Lib.hid hRw
    have HS := Lib.hid hS
    have HO := Lib.hid hO
    have HCASE := Lib.hid hcase
    clear hRR hRw hS hO hcase
    by_cases h43 : v = 43
    · subst h43
      obtain ⟨r', hr'⟩ : ∃ r', dropS s p' = 43 :: r' := by
        cases h : dropS s p' with
        | nil => rw [h] at hv; cases hv
        | cons y r'' => rw [h] at hv; exact ⟨r'', by rw [(u8_nat y 43 (by omega)).2 hv]; rfl⟩
      obtain ⟨hp1, hr1⟩ := dropS_cons hr'
      have hq : ∃ q, q < n' + 1 ∧ 3 * (s.size - (p' + 1)) + 2 ≤ q ∧ ∀ (p2 : Nat) (bad2 : Bool) (u : Nat → Bool), p' + 1 ≤ p2 → ((bad' = true ∧ bad2 = true ∧ p2 = p' + 1) ∨ (bad' = false ∧ (match pB q (dropS s (p' + 1)) with
          | some (x, r) => bad2 = false ∧ dropS s p2 = r ∧ p' + 1 < p2 ∧ p2 ≤ s.size ∧ ∀ i, i < 256 → u i = evB x i
          | none => bad2 = true))) →
          ((bad2 = true ∧ pC (n' + 1) (dropS s p) = none) ∨ (bad2 = false ∧ p < p2 ∧ p2 ≤ s.size ∧ ∃ m cs, pC (n' + 1) (dropS s p) = contC m cs (dropS s p2) ∧ 3 * (s.size - p2) + 2 ≤ m ∧ m ≤ n' + 1 ∧ ∀ i, i < 256 → (t i || u i) = evC cs i)) := by
        rcases HCASE.out with ⟨h1, h2⟩ | ⟨h1, h2, h3, m, cs, h4, h5, h6, h7⟩
        · refine ⟨n', by omega, by omega, ?_⟩
          rintro p2 bad2 u hp2 (⟨_, h, _⟩ | ⟨h, _⟩)
          · exact Or.inl ⟨h, h2⟩
          · rw [h1] at h; cases h
        · obtain ⟨m', rfl⟩ : ∃ m', m = m' + 1 := ⟨m - 1, by omega⟩
          refine ⟨m', by omega, by omega, ?_⟩
          rintro p2 bad2 u hp2 (⟨h, _⟩ | ⟨_, h⟩)
          · rw [h1] at h; cases h
          · rw [hr', contC_step, ← hr1] at h4
            cases hb : pB m' (dropS s (p' + 1)) with
            | none => rw [hb] at h h4; exact Or.inl ⟨h, h4⟩
            | some y =>
              obtain ⟨x, r⟩ := y
              rw [hb] at h h4
              obtain ⟨g1, g2, g3, g4, g5⟩ := h
              refine Or.inr ⟨g1, by omega, g4, m', cs ++ [x], by rw [g2]; exact h4, by omega, by omega, fun i hi => ?_⟩
              rw [evC_snoc, h7 i hi, g5 i hi]
      obtain ⟨q, hq1, hq2, hq3⟩ := hq
      have HQ := Lib.hid hq3
      clear hq3 HCASE hr' hr1 hv
      go_wp2_with (go_at_call 110; refine HN1.out.mono ?_; rintro e w' ⟨rfl, m, rfl⟩)
      have hRRa : RR b s (p' + 1) bad' ((wr.drewN m).setCell ⟨b, 1, none⟩ (.int .i64 ((p' : Int) + 1))) := by
        have := (HRR.out.drewN m).set1 (p' + 1); simpa using this
      have hRwa : Rw b wr ((wr.drewN m).setCell ⟨b, 1, none⟩ (.int .i64 ((p' : Int) + 1))) := ((Rw.refl b wr).drewN m).trans (Rw.setCell b 1 _ _)
      generalize ((wr.drewN m).setCell ⟨b, 1, none⟩ (.int .i64 ((p' : Int) + 1))) = Wa at *
      refine (IHB.out q hq1 _ _ _ hRRa (by omega) hq2).mono ?_
      rintro e w4 ⟨u, p2, bad2, rfl, hRw4, hRR4, hle3, hle4, hpost⟩
      have hRw4' := hRwa.trans hRw4
      have hsz4 := hRw4'.size
      have hRR3 : RR b s p2 bad2 ((w4.alloc (.cells Try.zeroCells50 50)).setRow w4.heap.size (tabArr u)) := (hRR4.keep ((Below.refl _ _).alloc (Nat.le_refl _) _)).same (setRow_ne _ _ _ _ (by have := hRR4.lt; omega))
      have hRw3 : Rw b w ((w4.alloc (.cells Try.zeroCells50 50)).setRow w4.heap.size (tabArr u)) := ((HRw.out.trans hRw4').trans (Rw.of_below ((Below.refl _ _).alloc (Nat.le_refl _) _))).setRow _ _ (by have := HRw.out.size; omega)
      have hS3 : ((w4.alloc (.cells Try.zeroCells50 50)).setRow w4.heap.size (tabArr u)).heap[w.heap.size]? = some (.cells (tabArr fun _ => false) 50 (0, 0)) := by
        rw [setRow_ne _ _ _ _ (by omega), Below.heap_alloc _ _ _ (by omega)]; exact hRw4'.keepAt HS.out (by omega)
      have hO3 : TabTo G (fun i => t i || u i) t 0 ((w4.alloc (.cells Try.zeroCells50 50)).setRow w4.heap.size (tabArr u)) := by
        apply TabTo.of_full
        rw [setRow_ne _ _ _ _ (by omega), Below.heap_alloc _ _ _ (by omega)]; exact hRw4'.keepAt HO.out (by omega)
      have hU3 : ((w4.alloc (.cells Try.zeroCells50 50)).setRow w4.heap.size (tabArr u)).heap[w4.heap.size]? = some (.cells (tabArr u) 50 (0, 0)) := setRow_at _ _ _ _ _ (alloc_last _ _)
      have H3 := Lib.hid (And.intro hRR3 (And.intro hRw3 (And.intro hS3 (And.intro hO3 hU3))))
      have HPOST := Lib.hid (HQ.out p2 bad2 u hle3 hpost)
      clear hRw4 hRw4' hRR4 hRR3 hRw3 hS3 hO3 hU3 hpost HRR HRw HO HS HN1 hRRa hRwa c1 f1 HQ
      go_wp2_with (refine wpList_store_row rfl 50 _ _ rfl w4.heap.size (tabArr u) rfl rfl 50 _ (alloc_last _ _) (by rw [tabArr_size]; exact info50) (by rw [zeros_size, tabArr_size]) (tabArr_one _) ?_)
      generalize ((w4.alloc (.cells Try.zeroCells50 50)).setRow w4.heap.size (tabArr u)) = W3 at *
      have hG2 : G + 1 ≤ w4.heap.size := by omega
      generalize w4.heap.size = G2 at *
      clear hsz4
      go_loopw [5] (fun i wx => ∃ q : Nat, q ≤ 256 ∧ i = .int .i64 q ∧ RR b s p2 bad2 wx ∧ Rw b w wx ∧ wx.heap[w.heap.size]? = some (.cells (tabArr fun _ => false) 50 (0, 0)) ∧ TabTo G (fun i => t i || u i) t q wx ∧ wx.heap[G2]? = some (.cells (tabArr u) 50 (0, 0))) (fun i _ => 256 - (intOf i).toNat)
      case atStart => exact ⟨0, by omega, rfl, H3.out.1, H3.out.2.1, H3.out.2.2.1, H3.out.2.2.2.1, H3.out.2.2.2.2⟩
      case round =>
        obtain ⟨q, hq, rfl, hRRx, hRwx, hSx, hOx, hUx⟩ := hrel
        clear H3
        by_cases hlt : q < 256
        · have hcell := hOx.cell q hlt
          have hfz := hOx.frozen q
          rw [if_neg (Nat.lt_irrefl q)] at hcell
          have hcu : wr.cell? ⟨G2, q, none⟩ = some (.bool (u q)) := by rw [Lib.cell_of_heap hUx]; exact tab_get u q hlt
          have hstep := hOx.step hlt
          have hrel2 : ∀ y, (t q || u q) = y → (∃ q' : Nat, q' ≤ 256 ∧ (Value.int .i64 ((q : Int) + 1)) = .int .i64 q' ∧ RR b s p2 bad2 (wr.setCell ⟨G, q, none⟩ (.bool y)) ∧ Rw b w (wr.setCell ⟨G, q, none⟩ (.bool y)) ∧ (wr.setCell ⟨G, q, none⟩ (.bool y)).heap[w.heap.size]? = some (.cells (tabArr fun _ => false) 50 (0, 0)) ∧ TabTo G (fun i => t i || u i) t q' (wr.setCell ⟨G, q, none⟩ (.bool y)) ∧ (wr.setCell ⟨G, q, none⟩ (.bool y)).heap[G2]? = some (.cells (tabArr u) 50 (0, 0))) := by
            rintro y rfl
            refine ⟨q + 1, by omega, by go_num, hRRx.same (setCell_ne _ _ _ _ _ (by omega)), hRwx.setOwn _ _ _ (by omega), ?_, hstep, ?_⟩
            · rw [setCell_ne _ _ _ _ _ (by omega)]; exact hSx
            · rw [setCell_ne _ _ _ _ _ (by omega)]; exact hUx
          have HREL := Lib.hid hrel2
          clear hRRx hRwx hSx hOx hUx hstep hrel2
          cases htq : t q with
          | true =>
            rw [htq] at hcell HREL
            clear hcu
            go_wp2_with fail
            go_roundw
            case rel => exact HREL.out _ (by simp)
            case measure => simp [intOf]; omega
          | false =>
            rw [htq] at hcell HREL
            generalize hy : u q = y at hcu HREL
            clear hy
            go_wp2_with fail
            go_roundw
            case rel => exact HREL.out _ (by simp)
            case measure => simp [intOf]; omega
        · obtain rfl : q = 256 := by omega
          have hres : CRel (n' + 1) b s p w G wr := ⟨p2, bad2, _, hRRx, hRwx, hSx, hOx.full, by omega, by omega, HPOST.out⟩
          have HRES := Lib.hid hres
          have hmeas : rrA s.size b wr < 2 * s.size + 1 - p' := by rw [rrA_of s.size hRRx]; omega
          have HMEAS := Lib.hid hmeas
          clear hRRx hRwx hSx hOx hUx hres hmeas HPOST
          go_wp2_with fail
          go_roundw
          case rel => exact HRES.out
          case measure => rw [HM.out]; exact HMEAS.out
    · have hfin : ∀ W, Rw b w W → RR b s p' bad' W → PostRC (n' + 1) b s p w (.returned (.agg (tabArr t))) W := by
        intro W h1 h2
        refine ⟨t, p', bad', rfl, h1, h2, hle, hle2, ?_⟩
        rcases HCASE.out with ⟨h3, h4⟩ | ⟨h3, h4, h5, m, cs, h6, h7, h8, h9⟩
        · rw [h4]; exact h3
        · rw [h6, contC_stop (by rw [hv]; exact h43)]
          exact ⟨h3, rfl, h4, h5, h9⟩
      have HFIN := Lib.hid hfin
      clear hfin HCASE hv
      go_wp2_with (first | (go_at_call 110; refine HN1.out.mono ?_; rintro e w' ⟨rfl, m, rfl⟩) | (refine wpList_load_row rfl 50 _ rfl G rfl 50 (tabArr t) (0, 0) _ HO.out Try.underlying50 rfl (by rw [tabArr_size]; exact info50) ?_) | (refine wpList_store_row rfl 50 _ _ rfl w.heap.size (tabArr t) rfl rfl 50 _ HS.out (by rw [tabArr_size]; exact info50) (by rw [tabArr_size, tabArr_size]) (tabArr_one _) ?_))
      refine tabRet rfl rfl (setRow_at _ _ _ _ _ HS.out) ?_
      exact HFIN.out _ ((HRw.out.drewN _).setRow _ _ (Nat.le_refl _)) ((HRR.out.drewN _).same (setRow_ne _ w.heap.size b _ (by omega)))
end Go.Proofs.Ytfoeamgjjhfkdaa
