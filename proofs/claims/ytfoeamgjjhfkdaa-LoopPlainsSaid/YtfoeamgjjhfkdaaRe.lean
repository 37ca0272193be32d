/- The reference's branch: what it needs. The reference's branch, walked. -/
import Derived.Test.YtfoeamgjjhfkdaaRc
namespace Go.Proofs.Ytfoeamgjjhfkdaa
open Go Go.Shelf Go.RowKit Go.Proofs L9

def contR (j : Nat) (ps : List Part) (r : List UInt8) : Option (List Part × List UInt8) :=
  if starts r then (pB j r).map (fun y => (ps ++ y.1, y.2)) else if ps.isEmpty then none else some (ps, r)
theorem contR_nil (n : Nat) (r : List UInt8) : pB n r = contR n [] r := by
  unfold contR
  split
  · cases pB n r <;> simp
  · rename_i h
    simp only [List.isEmpty_nil, if_true]
    cases n with
    | zero => rw [pB]
    | succ n =>
      rw [pB_succ]
      have : pP n r = none := by
        cases n with
        | zero => rw [pP]
        | succ n =>
          cases r with
          | nil => rw [pP_nil]
          | cons b r =>
            rw [pP_cons]
            simp only [starts, Bool.or_eq_true, beq_iff_eq, not_or] at h
            rw [if_neg h.2, if_neg h.1]
      rw [this]
theorem contR_cont {j : Nat} {ps : List Part} {r : List UInt8} (h : ps ≠ []) : contR j ps r = contB j ps r := by
  unfold contR contB
  split
  · rfl
  · rw [if_neg (by cases ps with | nil => exact absurd rfl h | cons _ _ => simp)]
theorem contR_step (j : Nat) (ps : List Part) (r : List UInt8) (h : starts r = true) : contR (j + 1) ps r = match pP j r with
    | none => none
    | some (p, r') => contR j (ps ++ [p]) r' := by
  have : contR (j + 1) ps r = contB (j + 1) ps r := by unfold contR contB; rw [if_pos h, if_pos h]
  rw [this, contB_step _ _ _ h]
  cases pP j r with
  | none => rfl
  | some y =>
    obtain ⟨p, r'⟩ := y
    simp only
    rw [contR_cont (by simp)]
theorem contR_stop {j : Nat} {ps : List Part} {r : List UInt8} (h : starts r = false) : contR j ps r = if ps.isEmpty then none else some (ps, r) := by
  unfold contR; rw [if_neg (by rw [h]; simp)]
theorem evB_snoc (ps : List Part) (p : Part) (i : Nat) : evB (ps ++ [p]) i = (evB ps i && p.ev i) := by
  induction ps with
  | nil => simp [evB]
  | cons q ps ih => simp only [List.cons_append, evB, ih, Bool.and_assoc]
theorem evB_nil (i : Nat) : evB [] i = true := by simp [evB]
theorem starts_iff (r : List UInt8) : starts r = true ↔ hdv r = 40 ∨ (97 ≤ hdv r ∧ hdv r ≤ 104) := by
  cases r with
  | nil => simp [starts, hdv]
  | cons x r =>
    simp only [starts, hdv, Bool.or_eq_true, beq_iff_eq, isLet_iff]
    constructor
    · rintro (h | h)
      · exact Or.inl (by rw [h]; rfl)
      · exact Or.inr h
    · rintro (h | h)
      · exact Or.inl ((u8_nat x 40 (by omega)).2 h)
      · exact Or.inr h

/-- the reader's measure -/
def rrM (sz b : Nat) (w : World) : Nat := match w.cell? ⟨b, 2, none⟩ with
  | some (.bool true) => 0
  | _ => match w.cell? ⟨b, 1, none⟩ with
    | some (.int _ a) => 1 + (sz - a.toNat)
    | _ => 0
theorem rrM_of {b : Nat} {s : ByteArray} {p : Nat} {bad : Bool} {w : World} (sz : Nat) (h : RR b s p bad w) : rrM sz b w = if bad then 0 else 1 + (sz - p) := by
  unfold rrM
  rw [h.c2, h.c1]
  cases bad <;> simp

/-- where the reference's branch stands before each part -/
def BRel (n b : Nat) (s : ByteArray) (p : Nat) (bad0 : Bool) (w : World) (i : Value) (wr : World) : Prop :=
  ∃ (k p' : Nat) (bad' : Bool) (t : Nat → Bool), i = .int .i64 k ∧ k ≤ 1000 ∧ RR b s p' bad' wr ∧ Rw b w wr ∧ wr.heap[w.heap.size]? = some (.cells (tabArr fun _ => false) 50 (0, 0)) ∧
    wr.heap[w.heap.size + 1]? = some (.cells (tabArr t) 50 (0, 0)) ∧ p ≤ p' ∧ p' + p ≤ 2 * s.size ∧
    ((bad0 = true ∧ bad' = true ∧ p' = p) ∨ (bad0 = false ∧ bad' = true ∧ pB n (dropS s p) = none) ∨
      (bad0 = false ∧ bad' = false ∧ p' ≤ s.size ∧ ∃ j ps, pB n (dropS s p) = contR j ps (dropS s p') ∧ k = ps.length ∧ ps.length + p ≤ p' ∧ 3 * (s.size - p') + 2 ≤ j ∧ j ≤ n ∧ ∀ i, i < 256 → t i = evB ps i))

/-- what a branch ends with -/
theorem BRel.done_bad {n b : Nat} {s : ByteArray} {p : Nat} {bad0 : Bool} {w : World} {t : Nat → Bool} {p' : Nat} {W : World} (hR : RR b s p' true W) (hw : Rw b w W) (h1 : p ≤ p') (h2 : p' + p ≤ 2 * s.size)
    (h : (bad0 = true ∧ p' = p) ∨ (bad0 = false ∧ pB n (dropS s p) = none)) : PostRB n b s p bad0 w (.returned (.agg (tabArr t))) W := by
  refine ⟨t, p', true, rfl, hw, hR, h1, h2, ?_⟩
  rcases h with ⟨h3, h4⟩ | ⟨h3, h4⟩
  · exact Or.inl ⟨h3, rfl, h4⟩
  · exact Or.inr ⟨h3, by rw [h4]⟩
theorem BRel.done_ok {n b : Nat} {s : ByteArray} {p : Nat} {w : World} {t : Nat → Bool} {p' j : Nat} {ps : List Part} {W : World} (hR : RR b s p' false W) (hw : Rw b w W) (h1 : ps.length + p ≤ p') (h2 : p' ≤ s.size)
    (hne : ps ≠ []) (hst : starts (dropS s p') = false) (heq : pB n (dropS s p) = contR j ps (dropS s p')) (ht : ∀ i, i < 256 → t i = evB ps i) : PostRB n b s p false w (.returned (.agg (tabArr t))) W := by
  have hl : 0 < ps.length := by cases ps with | nil => exact absurd rfl hne | cons _ _ => simp
  refine ⟨t, p', false, rfl, hw, hR, by omega, by omega, Or.inr ⟨rfl, ?_⟩⟩
  rw [heq, contR_stop hst, if_neg (by cases ps with | nil => exact absurd rfl hne | cons _ _ => simp)]
  exact ⟨rfl, rfl, by omega, h2, ht⟩
end Go.Proofs.Ytfoeamgjjhfkdaa

namespace Go.Proofs.Ytfoeamgjjhfkdaa
open Go Go.Shelf Go.RowKit Go.Proofs L9

theorem refNextAt (b : Nat) (s : ByteArray) (p v : Nat) (bad : Bool) (w : World) (h : RR b s p bad w) (hv : hdv (dropS s p) = v) :
    ∀ m, Calls Try.prog 110 #[.pointer (some ⟨b, 0, none⟩)] (w.drewN m) fun e w' => e = .returned (.int .u8 (v : Nat)) ∧ ∃ n, w' = w.drewN n := by
  intro m
  refine (refNext b s p bad (w.drewN m) (h.drewN m)).mono ?_
  rintro e w' ⟨rfl, n, rfl⟩
  exact ⟨by rw [← hv]; rfl, _, by rw [World.drewN_drewN]⟩

theorem heap_lt {w : World} {g : Nat} {o : Obj} (h : w.heap[g]? = some o) : g < w.heap.size := by
  rcases Nat.lt_or_ge g w.heap.size with h' | h'
  · exact h'
  · simp [Array.getElem?_eq_none h'] at h
theorem Rw.keepAt {b g : Nat} {w w' : World} {o : Obj} (h : Rw b w w') (hg : w.heap[g]? = some o) (hne : g ≠ b) : w'.heap[g]? = some o := by
  rw [h.block g (heap_lt hg) (by simp; omega)]; exact hg

set_option maxHeartbeats 4000000 in
set_option maxRecDepth 100000 in
theorem refBranch (n b : Nat) (s : ByteArray) (p : Nat) (bad : Bool) (w : World) (hR : RR b s p bad w) (hps : p ≤ s.size) (hs : s.size ≤ 900) (hn : 3 * (s.size - p) + 2 ≤ n)
    (ihP : ∀ m, m < n → ∀ (p : Nat) (w : World), RR b s p false w → starts (dropS s p) = true → 3 * (s.size - p) + 1 ≤ m → Calls Try.prog 123 #[.pointer (some ⟨b, 0, none⟩)] w (PostRP m b s p w)) :
    Calls Try.prog 109 #[.pointer (some ⟨b, 0, none⟩)] w (PostRB n b s p bad w) := by
  have hbl := hR.lt
  have IHP := Lib.hid ihP
  have HR := Lib.hid hR
  clear ihP hR
  go_enter Try.func109, Try.ntmps109
  go_wp2_with fail
  have hz := zeros50
  have hRR : RR b s p bad ((w.alloc (.cells Try.zeroCells50 50)).alloc (.cells Try.zeroCells50 50)) :=
    (HR.out.keep ((Below.refl _ _).alloc (Nat.le_refl _) _)).keep ((Below.refl _ _).alloc (Nat.le_refl _) _)
  have hRw : Rw b w ((w.alloc (.cells Try.zeroCells50 50)).alloc (.cells Try.zeroCells50 50)) :=
    (Rw.of_below ((Below.refl _ _).alloc (Nat.le_refl _) _)).trans (Rw.of_below ((Below.refl _ _).alloc (Nat.le_refl _) _))
  have hres : ((w.alloc (.cells Try.zeroCells50 50)).alloc (.cells Try.zeroCells50 50)).heap[w.heap.size]? = some (.cells (tabArr fun _ => false) 50 (0, 0)) := by
    rw [Below.heap_alloc _ _ _ (by simp), ← zeros50]
    exact alloc_last _ _
  have htab : TabTo (w.heap.size + 1) (fun _ => true) (fun _ => false) 0 ((w.alloc (.cells Try.zeroCells50 50)).alloc (.cells Try.zeroCells50 50)) := by
    apply TabTo.of_full
    rw [← zeros50]
    have := alloc_last (w.alloc (.cells Try.zeroCells50 50)) (.cells Try.zeroCells50 50)
    simpa using this
  clear hz
  generalize ((w.alloc (.cells Try.zeroCells50 50)).alloc (.cells Try.zeroCells50 50)) = W1 at *
  have H0 := Lib.hid (And.intro hRR (And.intro hRw (And.intro hres htab)))
  clear hRR hRw hres htab
  go_loopw [4] (fun i wr => ∃ k : Nat, k ≤ 256 ∧ i = .int .i64 k ∧ RR b s p bad wr ∧ Rw b w wr ∧ wr.heap[w.heap.size]? = some (.cells (tabArr fun _ => false) 50 (0, 0)) ∧ TabTo (w.heap.size + 1) (fun _ => true) (fun _ => false) k wr) (fun i _ => 256 - (intOf i).toNat)
  case atStart => exact ⟨0, by omega, rfl, H0.out.1, H0.out.2.1, H0.out.2.2.1, H0.out.2.2.2⟩
  case round =>
    obtain ⟨k, hk, rfl, hRR, hRw, hres, htab⟩ := hrel
    clear H0
    have HRR := Lib.hid hRR
    have HRw := Lib.hid hRw
    have HT := Lib.hid htab
    have HS := Lib.hid hres
    by_cases hlt : k < 256
    · have hcell := htab.cell k hlt
      have hfz := htab.frozen k
      generalize (if k < k then (fun _ => true) k else (fun _ => false) k : Bool) = old at hcell
      clear hRR hRw hres htab
      go_wp2_with fail
      go_roundw
      case rel =>
        refine ⟨k + 1, by omega, by go_num, HRR.out.same (setCell_ne _ _ _ _ _ (by omega)), HRw.out.setOwn _ _ _ (by omega), ?_, ?_⟩
        · rw [setCell_ne _ _ _ _ _ (by omega)]; exact HS.out
        · exact HT.out.step hlt
      case measure => simp [intOf]; omega
    · obtain rfl : k = 256 := by omega
      have hfull := htab.full
      have hstart : BRel n b s p bad w (.int .i64 ((0 : Nat) : Int)) wr := by
        refine ⟨0, p, bad, _, rfl, by omega, hRR, hRw, hres, hfull, Nat.le_refl _, by omega, ?_⟩
        cases bad with
        | true => exact Or.inl ⟨rfl, rfl, rfl⟩
        | false => exact Or.inr (Or.inr ⟨rfl, rfl, hps, n, [], contR_nil _ _, rfl, by simp, hn, Nat.le_refl _, fun i _ => by rw [evB_nil]⟩)
      have HST := Lib.hid hstart
      clear hRR hRw hres htab hfull hstart HRR HRw HT HS HR
      go_wp2_with fail
      go_loopw [5] (fun i wr => BRel n b s p bad w i wr) (fun _ wr => rrM s.size b wr)
      case atStart => exact HST.out
      case round =>
        obtain ⟨k, p', bad', t, rfl, hk, hRR, hRw, hres, hout, hle, hle2, hcase⟩ := hrel
        clear HST
        have c2 := hRR.c2
        have f2 := hRR.f 2
        have HM := Lib.hid (rrM_of s.size hRR)
        have HRR := Lib.hid hRR
        have HRw := Lib.hid hRw
        have HS := Lib.hid hres
        have HO := Lib.hid hout
        have HCASE := Lib.hid hcase
        have hwsz := hRw.size
        clear hRR hRw hres hout hcase
        cases bad' with
        | true =>
          have hd : (bad = true ∧ p' = p) ∨ (bad = false ∧ pB n (dropS s p) = none) := by
            rcases HCASE.out with ⟨h1, h2, h3⟩ | ⟨h1, h2, h3⟩ | ⟨h1, h2, _⟩
            · exact Or.inl ⟨h1, h3⟩
            · exact Or.inr ⟨h1, h3⟩
            · cases h2
          have HD := Lib.hid hd
          clear hd HCASE
          go_wp2_with (first | (refine wpList_load_row rfl 50 _ rfl (w.heap.size + 1) rfl 50 (tabArr t) (0, 0) _ (by rw [setCell_ne _ b _ (w.heap.size + 1) _ (by omega)]; exact HO.out) Try.underlying50 rfl (by rw [tabArr_size]; exact info50) ?_) | (refine wpList_store_row rfl 50 _ _ rfl w.heap.size (tabArr t) rfl rfl 50 _ (by rw [setCell_ne _ b _ w.heap.size _ (by omega)]; exact HS.out) (by rw [tabArr_size]; exact info50) (by rw [tabArr_size, tabArr_size]) (tabArr_one _) ?_))
          refine tabRet rfl rfl (setRow_at _ _ _ _ _ ((setCell_ne _ b _ w.heap.size _ (by omega)).trans HS.out)) ?_
          exact BRel.done_bad ((HRR.out.set2 true).same (setRow_ne _ _ b _ (by omega))) ((HRw.out.trans (Rw.setCell b 2 _ _)).setRow _ _ (Nat.le_refl _)) hle hle2 HD.out
        | false =>
          obtain ⟨hbad, hps', j, ps, heq, hkp, hpl, hj, hjn, ht⟩ : bad = false ∧ p' ≤ s.size ∧ ∃ j ps, pB n (dropS s p) = contR j ps (dropS s p') ∧ k = ps.length ∧ ps.length + p ≤ p' ∧ 3 * (s.size - p') + 2 ≤ j ∧ j ≤ n ∧ ∀ i, i < 256 → t i = evB ps i := by
            rcases HCASE.out with ⟨h1, h2, h3⟩ | ⟨h1, h2, h3⟩ | ⟨h1, h2, h3⟩
            · cases h2
            · cases h2
            · exact ⟨h1, h3⟩
          subst hbad
          clear HCASE
          obtain ⟨v, hv⟩ : ∃ v, hdv (dropS s p') = v := ⟨_, rfl⟩
          have HNX := Lib.hid (refNextAt b s p' v false wr HRR.out hv)
          have HN1 := Lib.hid (show Calls Try.prog 110 #[.pointer (some ⟨b, 0, none⟩)] wr fun e w' => e = .returned (.int .u8 (v : Nat)) ∧ ∃ n, w' = wr.drewN n from refNextAt b s p' v false wr HRR.out hv 0)
          have hst := starts_iff (dropS s p')
          rw [hv] at hst
          have HEQ := Lib.hid heq
          have HT := Lib.hid ht
          have HKP := Lib.hid hkp
          clear heq ht hv hkp
          by_cases hvs : v = 40 ∨ (97 ≤ v ∧ v ≤ 104)
          · have hs1 := hst.2 hvs
            have hlt : p' < s.size := by
              rcases Nat.lt_or_ge p' s.size with h | h
              · exact h
              · have h0 : dropS s p' = [] := by unfold dropS; rw [List.drop_of_length_le (by rw [size_list]; omega)]
                rw [h0] at hs1; cases hs1
            obtain ⟨j', rfl⟩ : ∃ j', j = j' + 1 := ⟨j - 1, by omega⟩
            have HPART := Lib.hid (fun (W : World) (hW : RR b s p' false W) => IHP.out j' (by omega) p' W hW hs1 (by omega))
            have heq1 := HEQ.out
            rw [contR_step _ _ _ hs1] at heq1
            have HEQ1 := Lib.hid heq1
            clear hs1 hst heq1 HEQ IHP
            rcases hvs with hvs | hvs
            · go_wp2_with (go_at_call 110; first | (refine HN1.out.mono ?_; rintro e w' ⟨rfl, m, rfl⟩) | (refine (HNX.out _).mono ?_; rintro e w' ⟨rfl, m, rfl⟩))
              refine (HPART.out _ (HRR.out.drewN _)).mono ?_
              rintro e w2 ⟨u, p1, bad1, rfl, hRw2, hRR2, hle3, hle4, hpost⟩
              have hRw2' : Rw b wr w2 := ((Rw.refl b wr).drewN _).trans hRw2
              have hsz2 := hRw2'.size
              have hRw3 : Rw b w ((w2.alloc (.cells Try.zeroCells50 50)).setRow w2.heap.size (tabArr u)) := ((HRw.out.trans hRw2').trans (Rw.of_below ((Below.refl _ _).alloc (Nat.le_refl _) _))).setRow _ _ (by omega)
              have hlt1 := heap_lt HO.out
              have hRR3 : RR b s p1 bad1 ((w2.alloc (.cells Try.zeroCells50 50)).setRow w2.heap.size (tabArr u)) := (hRR2.keep ((Below.refl _ _).alloc (Nat.le_refl _) _)).same (setRow_ne _ _ _ _ (by have := hRR2.lt; omega))
              have hS3 : ((w2.alloc (.cells Try.zeroCells50 50)).setRow w2.heap.size (tabArr u)).heap[w.heap.size]? = some (.cells (tabArr fun _ => false) 50 (0, 0)) := by
                rw [setRow_ne _ _ _ _ (by omega), Below.heap_alloc _ _ _ (by omega)]; exact hRw2'.keepAt HS.out (by omega)
              have hO3 : TabTo (w.heap.size + 1) (fun i => t i && u i) t 0 ((w2.alloc (.cells Try.zeroCells50 50)).setRow w2.heap.size (tabArr u)) := by
                apply TabTo.of_full
                rw [setRow_ne _ _ _ _ (by omega), Below.heap_alloc _ _ _ (by omega)]; exact hRw2'.keepAt HO.out (by omega)
              have hU3 : ((w2.alloc (.cells Try.zeroCells50 50)).setRow w2.heap.size (tabArr u)).heap[w2.heap.size]? = some (.cells (tabArr u) 50 (0, 0)) := setRow_at _ _ _ _ _ (alloc_last _ _)
              have H3 := Lib.hid (And.intro hRR3 (And.intro hRw3 (And.intro hS3 (And.intro hO3 hU3))))
              have HPOST := Lib.hid hpost
              clear hRw2 hRw2' hRR2 hRR3 hRw3 hS3 hO3 hU3 hpost HRR HRw HO HS HNX HN1 HPART hvs
              go_wp2_with (refine wpList_store_row rfl 50 _ _ rfl w2.heap.size (tabArr u) rfl rfl 50 _ (alloc_last _ _) (by rw [tabArr_size]; exact info50) (by rw [zeros_size, tabArr_size]) (tabArr_one _) ?_)
              generalize ((w2.alloc (.cells Try.zeroCells50 50)).setRow w2.heap.size (tabArr u)) = W3 at *
              have hG : w.heap.size + 2 ≤ w2.heap.size := by omega
              generalize w2.heap.size = G at *
              go_loopw [7] (fun i wx => ∃ q : Nat, q ≤ 256 ∧ i = .int .i64 q ∧ RR b s p1 bad1 wx ∧ Rw b w wx ∧ wx.heap[w.heap.size]? = some (.cells (tabArr fun _ => false) 50 (0, 0)) ∧ TabTo (w.heap.size + 1) (fun i => t i && u i) t q wx ∧ wx.heap[G]? = some (.cells (tabArr u) 50 (0, 0))) (fun i _ => 256 - (intOf i).toNat)
              case atStart => exact ⟨0, by omega, rfl, H3.out.1, H3.out.2.1, H3.out.2.2.1, H3.out.2.2.2.1, H3.out.2.2.2.2⟩
              case round =>
                obtain ⟨q, hq, rfl, hRRx, hRwx, hSx, hOx, hUx⟩ := hrel
                clear H3
                have HRRx := Lib.hid hRRx
                have HRwx := Lib.hid hRwx
                have HSx := Lib.hid hSx
                have HOx := Lib.hid hOx
                have HUx := Lib.hid hUx
                by_cases hlt : q < 256
                · have hcell := hOx.cell q hlt
                  have hfz := hOx.frozen q
                  rw [if_neg (Nat.lt_irrefl q)] at hcell
                  have hcu : wr.cell? ⟨G, q, none⟩ = some (.bool (u q)) := by rw [Lib.cell_of_heap hUx]; exact tab_get u q hlt
                  have hstep := hOx.step hlt
                  have hrel2 : ∀ y, (t q && u q) = y → (∃ q' : Nat, q' ≤ 256 ∧ (Value.int .i64 ((q : Int) + 1)) = .int .i64 q' ∧ RR b s p1 bad1 (wr.setCell ⟨w.heap.size + 1, q, none⟩ (.bool y)) ∧ Rw b w (wr.setCell ⟨w.heap.size + 1, q, none⟩ (.bool y)) ∧ (wr.setCell ⟨w.heap.size + 1, q, none⟩ (.bool y)).heap[w.heap.size]? = some (.cells (tabArr fun _ => false) 50 (0, 0)) ∧ TabTo (w.heap.size + 1) (fun i => t i && u i) t q' (wr.setCell ⟨w.heap.size + 1, q, none⟩ (.bool y)) ∧ (wr.setCell ⟨w.heap.size + 1, q, none⟩ (.bool y)).heap[G]? = some (.cells (tabArr u) 50 (0, 0))) := by
                    rintro y rfl
                    refine ⟨q + 1, by omega, by go_num, hRRx.same (setCell_ne _ _ _ _ _ (by omega)), hRwx.setOwn _ _ _ (by omega), ?_, hstep, ?_⟩
                    · rw [setCell_ne _ _ _ _ _ (by omega)]; exact hSx
                    · rw [setCell_ne _ _ _ _ _ (by omega)]; exact hUx
                  have HREL := Lib.hid hrel2
                  clear hRRx hRwx hSx hOx hUx hstep hrel2 HRRx HRwx HSx HOx HUx
                  cases htq : t q with
                  | false =>
                    rw [htq] at hcell HREL
                    clear hcu
                    go_wp2_with fail
                    go_roundw
                    case rel => exact HREL.out _ (by simp)
                    case measure => simp [intOf]; omega
                  | true =>
                    rw [htq] at hcell HREL
                    generalize hy : u q = y at hcu HREL
                    clear hy
                    go_wp2_with fail
                    go_roundw
                    case rel => exact HREL.out _ (by simp)
                    case measure => simp [intOf]; omega
                · obtain rfl : q = 256 := by omega
                  have hfull := hOx.full
                  have hM2 := rrM_of s.size hRRx
                  have hres : BRel n b s p false w (.int .i64 ((k : Int) + 1)) wr := by
                    refine ⟨k + 1, p1, bad1, _, by go_num, by have := HKP.out; omega, hRRx, hRwx, hSx, hfull, by omega, by omega, ?_⟩
                    have h1 := HPOST.out
                    have h2 := HEQ1.out
                    have hkp := HKP.out
                    cases hpp : pP j' (dropS s p') with
                    | none =>
                      rw [hpp] at h1 h2
                      exact Or.inr (Or.inl ⟨rfl, h1, h2⟩)
                    | some y =>
                      obtain ⟨x, r⟩ := y
                      rw [hpp] at h1 h2
                      obtain ⟨h3, h4, h5, h6, h7⟩ := h1
                      subst h3
                      refine Or.inr (Or.inr ⟨rfl, rfl, h6, j', ps ++ [x], by rw [h4]; exact h2, by simp; omega, by simp; omega, by omega, by omega, fun i hi => ?_⟩)
                      rw [evB_snoc, HT.out i hi, h7 i hi]
                  have hmeas : rrM s.size b wr < 1 + (s.size - p') := by
                    rw [hM2]
                    have h1 := HPOST.out
                    cases hpp : pP j' (dropS s p') with
                    | none => rw [hpp] at h1; subst h1; simp; omega
                    | some y =>
                      obtain ⟨x, r⟩ := y
                      rw [hpp] at h1
                      obtain ⟨h3, h4, h5, h6, h7⟩ := h1
                      subst h3
                      simp
                      omega
                  have HRES := Lib.hid hres
                  have HMEAS := Lib.hid hmeas
                  clear hRRx hRwx hSx hOx hUx HRRx HRwx HSx HOx HUx hfull hM2 hres hmeas HPOST HEQ1
                  go_wp2_with fail
                  go_roundw
                  case rel => (repeat apply Exists.intro); exact ⟨HRES.out, rfl⟩
                  case measure => rw [HM.out]; simpa using HMEAS.out
            · go_wp2_with (go_at_call 110; first | (refine HN1.out.mono ?_; rintro e w' ⟨rfl, m, rfl⟩) | (refine (HNX.out _).mono ?_; rintro e w' ⟨rfl, m, rfl⟩))
              refine (HPART.out _ (HRR.out.drewN _)).mono ?_
              rintro e w2 ⟨u, p1, bad1, rfl, hRw2, hRR2, hle3, hle4, hpost⟩
              have hRw2' : Rw b wr w2 := ((Rw.refl b wr).drewN _).trans hRw2
              have hsz2 := hRw2'.size
              have hRw3 : Rw b w ((w2.alloc (.cells Try.zeroCells50 50)).setRow w2.heap.size (tabArr u)) := ((HRw.out.trans hRw2').trans (Rw.of_below ((Below.refl _ _).alloc (Nat.le_refl _) _))).setRow _ _ (by omega)
              have hlt1 := heap_lt HO.out
              have hRR3 : RR b s p1 bad1 ((w2.alloc (.cells Try.zeroCells50 50)).setRow w2.heap.size (tabArr u)) := (hRR2.keep ((Below.refl _ _).alloc (Nat.le_refl _) _)).same (setRow_ne _ _ _ _ (by have := hRR2.lt; omega))
              have hS3 : ((w2.alloc (.cells Try.zeroCells50 50)).setRow w2.heap.size (tabArr u)).heap[w.heap.size]? = some (.cells (tabArr fun _ => false) 50 (0, 0)) := by
                rw [setRow_ne _ _ _ _ (by omega), Below.heap_alloc _ _ _ (by omega)]; exact hRw2'.keepAt HS.out (by omega)
              have hO3 : TabTo (w.heap.size + 1) (fun i => t i && u i) t 0 ((w2.alloc (.cells Try.zeroCells50 50)).setRow w2.heap.size (tabArr u)) := by
                apply TabTo.of_full
                rw [setRow_ne _ _ _ _ (by omega), Below.heap_alloc _ _ _ (by omega)]; exact hRw2'.keepAt HO.out (by omega)
              have hU3 : ((w2.alloc (.cells Try.zeroCells50 50)).setRow w2.heap.size (tabArr u)).heap[w2.heap.size]? = some (.cells (tabArr u) 50 (0, 0)) := setRow_at _ _ _ _ _ (alloc_last _ _)
              have H3 := Lib.hid (And.intro hRR3 (And.intro hRw3 (And.intro hS3 (And.intro hO3 hU3))))
              have HPOST := Lib.hid hpost
              clear hRw2 hRw2' hRR2 hRR3 hRw3 hS3 hO3 hU3 hpost HRR HRw HO HS HNX HN1 HPART hvs
              go_wp2_with (refine wpList_store_row rfl 50 _ _ rfl w2.heap.size (tabArr u) rfl rfl 50 _ (alloc_last _ _) (by rw [tabArr_size]; exact info50) (by rw [zeros_size, tabArr_size]) (tabArr_one _) ?_)
              generalize ((w2.alloc (.cells Try.zeroCells50 50)).setRow w2.heap.size (tabArr u)) = W3 at *
              have hG : w.heap.size + 2 ≤ w2.heap.size := by omega
              generalize w2.heap.size = G at *
              go_loopw [7] (fun i wx => ∃ q : Nat, q ≤ 256 ∧ i = .int .i64 q ∧ RR b s p1 bad1 wx ∧ Rw b w wx ∧ wx.heap[w.heap.size]? = some (.cells (tabArr fun _ => false) 50 (0, 0)) ∧ TabTo (w.heap.size + 1) (fun i => t i && u i) t q wx ∧ wx.heap[G]? = some (.cells (tabArr u) 50 (0, 0))) (fun i _ => 256 - (intOf i).toNat)
              case atStart => exact ⟨0, by omega, rfl, H3.out.1, H3.out.2.1, H3.out.2.2.1, H3.out.2.2.2.1, H3.out.2.2.2.2⟩
              case round =>
                obtain ⟨q, hq, rfl, hRRx, hRwx, hSx, hOx, hUx⟩ := hrel
                clear H3
                have HRRx := Lib.hid hRRx
                have HRwx := Lib.hid hRwx
                have HSx := Lib.hid hSx
                have HOx := Lib.hid hOx
                have HUx := Lib.hid hUx
                by_cases hlt : q < 256
                · have hcell := hOx.cell q hlt
                  have hfz := hOx.frozen q
                  rw [if_neg (Nat.lt_irrefl q)] at hcell
                  have hcu : wr.cell? ⟨G, q, none⟩ = some (.bool (u q)) := by rw [Lib.cell_of_heap hUx]; exact tab_get u q hlt
                  have hstep := hOx.step hlt
                  have hrel2 : ∀ y, (t q && u q) = y → (∃ q' : Nat, q' ≤ 256 ∧ (Value.int .i64 ((q : Int) + 1)) = .int .i64 q' ∧ RR b s p1 bad1 (wr.setCell ⟨w.heap.size + 1, q, none⟩ (.bool y)) ∧ Rw b w (wr.setCell ⟨w.heap.size + 1, q, none⟩ (.bool y)) ∧ (wr.setCell ⟨w.heap.size + 1, q, none⟩ (.bool y)).heap[w.heap.size]? = some (.cells (tabArr fun _ => false) 50 (0, 0)) ∧ TabTo (w.heap.size + 1) (fun i => t i && u i) t q' (wr.setCell ⟨w.heap.size + 1, q, none⟩ (.bool y)) ∧ (wr.setCell ⟨w.heap.size + 1, q, none⟩ (.bool y)).heap[G]? = some (.cells (tabArr u) 50 (0, 0))) := by
                    rintro y rfl
                    refine ⟨q + 1, by omega, by go_num, hRRx.same (setCell_ne _ _ _ _ _ (by omega)), hRwx.setOwn _ _ _ (by omega), ?_, hstep, ?_⟩
                    · rw [setCell_ne _ _ _ _ _ (by omega)]; exact hSx
                    · rw [setCell_ne _ _ _ _ _ (by omega)]; exact hUx
                  have HREL := Lib.hid hrel2
                  clear hRRx hRwx hSx hOx hUx hstep hrel2 HRRx HRwx HSx HOx HUx
                  cases htq : t q with
                  | false =>
                    rw [htq] at hcell HREL
                    clear hcu
                    go_wp2_with fail
                    go_roundw
                    case rel => exact HREL.out _ (by simp)
                    case measure => simp [intOf]; omega
                  | true =>
                    rw [htq] at hcell HREL
                    generalize hy : u q = y at hcu HREL
                    clear hy
                    go_wp2_with fail
                    go_roundw
                    case rel => exact HREL.out _ (by simp)
                    case measure => simp [intOf]; omega
                · obtain rfl : q = 256 := by omega
                  have hfull := hOx.full
                  have hM2 := rrM_of s.size hRRx
                  have hres : BRel n b s p false w (.int .i64 ((k : Int) + 1)) wr := by
                    refine ⟨k + 1, p1, bad1, _, by go_num, by have := HKP.out; omega, hRRx, hRwx, hSx, hfull, by omega, by omega, ?_⟩
                    have h1 := HPOST.out
                    have h2 := HEQ1.out
                    have hkp := HKP.out
                    cases hpp : pP j' (dropS s p') with
                    | none =>
                      rw [hpp] at h1 h2
                      exact Or.inr (Or.inl ⟨rfl, h1, h2⟩)
                    | some y =>
                      obtain ⟨x, r⟩ := y
                      rw [hpp] at h1 h2
                      obtain ⟨h3, h4, h5, h6, h7⟩ := h1
                      subst h3
                      refine Or.inr (Or.inr ⟨rfl, rfl, h6, j', ps ++ [x], by rw [h4]; exact h2, by simp; omega, by simp; omega, by omega, by omega, fun i hi => ?_⟩)
                      rw [evB_snoc, HT.out i hi, h7 i hi]
                  have hmeas : rrM s.size b wr < 1 + (s.size - p') := by
                    rw [hM2]
                    have h1 := HPOST.out
                    cases hpp : pP j' (dropS s p') with
                    | none => rw [hpp] at h1; subst h1; simp; omega
                    | some y =>
                      obtain ⟨x, r⟩ := y
                      rw [hpp] at h1
                      obtain ⟨h3, h4, h5, h6, h7⟩ := h1
                      subst h3
                      simp
                      omega
                  have HRES := Lib.hid hres
                  have HMEAS := Lib.hid hmeas
                  clear hRRx hRwx hSx hOx hUx HRRx HRwx HSx HOx HUx hfull hM2 hres hmeas HPOST HEQ1
                  go_wp2_with fail
                  go_roundw
                  case rel => (repeat apply Exists.intro); exact ⟨HRES.out, rfl⟩
                  case measure => rw [HM.out]; simpa using HMEAS.out
          · have hs1 : starts (dropS s p') = false := by
              cases h : starts (dropS s p') with
              | false => rfl
              | true => exact absurd (hst.1 h) hvs
            have HKP2 := Lib.hid (show k = ps.length from HKP.out)
            have hfin : ∀ W, Rw b w W → RR b s p' (decide (k = 0)) W → PostRB n b s p false w (.returned (.agg (tabArr t))) W := by
              intro W h1 h2
              by_cases hk0 : k = 0
              · rw [decide_eq_true hk0] at h2
                refine BRel.done_bad h2 h1 hle hle2 (Or.inr ⟨rfl, ?_⟩)
                rw [HEQ.out, contR_stop hs1, if_pos (by cases hps2 : ps with | nil => rfl | cons _ _ => have := HKP.out; rw [hps2] at this; simp at this; omega)]
              · rw [decide_eq_false hk0] at h2
                exact BRel.done_ok h2 h1 hpl hps' (by rintro rfl; exact hk0 HKP.out) hs1 HEQ.out HT.out
            have HFIN := Lib.hid hfin
            clear hst hs1 hfin HEQ HT HKP HKP2 IHP HM
            have hv2 : (v < 97 ∧ v ≠ 40) ∨ (¬ v ≤ 104 ∧ v ≠ 40) := by omega
            clear hvs
            by_cases hk0 : k = 0
            all_goals rcases hv2 with ⟨hv1, hv2⟩ | ⟨hv1, hv2⟩
            all_goals
              go_wp2_with (first | (go_at_call 110; first | (refine HN1.out.mono ?_; rintro e w' ⟨rfl, m, rfl⟩) | (refine (HNX.out _).mono ?_; rintro e w' ⟨rfl, m, rfl⟩)) | (go_at_call 123; exfalso; first | omega | (simp only [beq_iff_eq] at *; omega)) | (refine wpList_load_row rfl 50 _ rfl (w.heap.size + 1) rfl 50 (tabArr t) (0, 0) _ ((setCell_ne _ b _ (w.heap.size + 1) _ (by omega)).trans HO.out) Try.underlying50 rfl (by rw [tabArr_size]; exact info50) ?_) | (refine wpList_store_row rfl 50 _ _ rfl w.heap.size (tabArr t) rfl rfl 50 _ ((setCell_ne _ b _ w.heap.size _ (by omega)).trans HS.out) (by rw [tabArr_size]; exact info50) (by rw [tabArr_size, tabArr_size]) (tabArr_one _) ?_))
              first | refine tabRet rfl rfl (setRow_at _ _ _ _ _ ((setCell_ne _ b _ w.heap.size _ (by omega)).trans HS.out)) ?_ | (trace_state; fail)
              refine HFIN.out _ (((HRw.out.drewN _).trans (Rw.setCell b 2 _ _)).setRow _ _ (Nat.le_refl _)) ?_
              first
                | (rw [decide_eq_true hk0]; exact (((HRR.out.drewN _).set2 true).same (setRow_ne _ w.heap.size b _ (by omega))))
                | (rw [show decide (k = 0) = ((k : Int) == 0) from by (rw [decide_eq_false hk0]; symm; simp; omega)]; exact (((HRR.out.drewN _).set2 _).same (setRow_ne _ w.heap.size b _ (by omega))))
end Go.Proofs.Ytfoeamgjjhfkdaa
