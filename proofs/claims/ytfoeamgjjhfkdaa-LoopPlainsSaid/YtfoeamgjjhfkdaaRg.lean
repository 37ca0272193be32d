/- The reference's circuit, walked. A region that draws its order and holds one store, of which its other operations do not hang: one walk of the text's order serves. The reference reads: all fuels. -/
import Derived.Test.YtfoeamgjjhfkdaaRe
namespace Go.Proofs.Ytfoeamgjjhfkdaa
open Go Go.Shelf Go.RowKit Go.Proofs L9

def contC (m : Nat) (cs : List (List Part)) (r : List UInt8) : Option (List (List Part) × List UInt8) := match r with
  | [] => some (cs, [])
  | x :: r' => if x = 43 then (pC m r').map (fun y => (cs ++ y.1, y.2)) else some (cs, x :: r')
theorem pC_cont (n : Nat) (s : List UInt8) : pC (n + 1) s = match pB n s with
    | none => none
    | some (b, r) => contC n [b] r := by
  rw [pC_succ]
  cases pB n s with
  | none => rfl
  | some y =>
    obtain ⟨b, r⟩ := y
    cases r with
    | nil => rfl
    | cons x r' => rfl
theorem contC_step (m : Nat) (cs : List (List Part)) (r' : List UInt8) : contC (m + 1) cs (43 :: r') = match pB m r' with
    | none => none
    | some (b, r) => contC m (cs ++ [b]) r := by
  unfold contC
  simp only [if_pos]
  rw [pC_cont]
  cases pB m r' with
  | none => rfl
  | some y =>
    obtain ⟨b, r⟩ := y
    cases r with
    | nil => simp [contC]
    | cons x r' =>
      simp only [contC]
      split
      · cases pC m r' <;> simp
      · simp
theorem contC_stop {m : Nat} {cs : List (List Part)} {r : List UInt8} (h : hdv r ≠ 43) : contC m cs r = some (cs, r) := by
  cases r with
  | nil => rfl
  | cons x r' =>
    have : x ≠ 43 := fun e => h (by rw [e]; rfl)
    simp only [contC, if_neg this]
theorem evC_snoc (cs : List (List Part)) (b : List Part) (i : Nat) : evC (cs ++ [b]) i = (evC cs i || evB b i) := by
  induction cs with
  | nil => simp [evC]
  | cons q cs ih => simp only [List.cons_append, evC, ih, Bool.or_assoc]

def rrA (sz b : Nat) (w : World) : Nat := match w.cell? ⟨b, 1, none⟩ with
  | some (.int _ a) => 2 * sz + 1 - a.toNat
  | _ => 0
theorem rrA_of {b : Nat} {s : ByteArray} {p : Nat} {bad : Bool} {w : World} (sz : Nat) (h : RR b s p bad w) : rrA sz b w = 2 * sz + 1 - p := by
  unfold rrA
  rw [h.c1]
  simp

/-- where the reference's circuit stands before each plus -/
def CRel (n b : Nat) (s : ByteArray) (p : Nat) (w : World) (G : Nat) (wr : World) : Prop :=
  ∃ (p' : Nat) (bad' : Bool) (t : Nat → Bool), RR b s p' bad' wr ∧ Rw b w wr ∧ wr.heap[w.heap.size]? = some (.cells (tabArr fun _ => false) 50 (0, 0)) ∧
    wr.heap[G]? = some (.cells (tabArr t) 50 (0, 0)) ∧ p ≤ p' ∧ p' + p ≤ 2 * s.size ∧
    ((bad' = true ∧ pC n (dropS s p) = none) ∨
      (bad' = false ∧ p < p' ∧ p' ≤ s.size ∧ ∃ m cs, pC n (dropS s p) = contC m cs (dropS s p') ∧ 3 * (s.size - p') + 2 ≤ m ∧ m ≤ n ∧ ∀ i, i < 256 → t i = evC cs i))

set_option maxHeartbeats 4000000 in
set_option maxRecDepth 100000 in
theorem refCircuit (n b : Nat) (s : ByteArray) (p : Nat) (w : World) (hR : RR b s p false w) (hps : p ≤ s.size) (hs : s.size ≤ 900) (hn : 3 * (s.size - p) + 3 ≤ n)
    (ihB : ∀ m, m < n → ∀ (p : Nat) (bad : Bool) (w : World), RR b s p bad w → p ≤ s.size → 3 * (s.size - p) + 2 ≤ m → Calls Try.prog 109 #[.pointer (some ⟨b, 0, none⟩)] w (PostRB m b s p bad w)) :
    Calls Try.prog 88 #[.pointer (some ⟨b, 0, none⟩)] w (PostRC n b s p w) := by
  obtain ⟨n', rfl⟩ : ∃ n', n = n' + 1 := ⟨n - 1, by omega⟩
  have hbl := hR.lt
  have HB := Lib.hid (ihB n' (by omega) p false _ (hR.keep ((Below.refl _ _).alloc (Nat.le_refl _) (.cells Try.zeroCells50 50))) hps (by omega))
  have IHB := Lib.hid ihB
  clear ihB hR
  go_enter Try.func88, Try.ntmps88
  go_wp2_with fail
  refine HB.out.mono ?_
  rintro e w2 ⟨u, p1, bad1, rfl, hRw2, hRR2, hle3, hle4, hpost⟩
  have hal : Below w.heap.size w (w.alloc (.cells Try.zeroCells50 50)) := (Below.refl _ _).alloc (Nat.le_refl _) _
  have hRw2' : Rw b w w2 := (Rw.of_below hal).trans hRw2
  have hsz2 := hRw2.size
  have hsz1 : (w.alloc (.cells Try.zeroCells50 50)).heap.size = w.heap.size + 1 := by simp
  have hS2 : w2.heap[w.heap.size]? = some (.cells (tabArr fun _ => false) 50 (0, 0)) := by
    rw [← zeros50]; exact hRw2.keepAt (alloc_last _ _) (by omega)
  have hstart : CRel (n' + 1) b s p w w2.heap.size ((w2.alloc (.cells Try.zeroCells50 50)).setRow w2.heap.size (tabArr u)) := by
    refine ⟨p1, bad1, u, (hRR2.keep ((Below.refl _ _).alloc (Nat.le_refl _) _)).same (setRow_ne _ _ _ _ (by have := hRR2.lt; omega)), (hRw2'.trans (Rw.of_below ((Below.refl _ _).alloc (Nat.le_refl _) _))).setRow _ _ (by omega), ?_, setRow_at _ _ _ _ _ (alloc_last _ _), hle3, hle4, ?_⟩
    · rw [setRow_ne _ _ _ _ (by omega), Below.heap_alloc _ _ _ (by omega)]; exact hS2
    · rw [pC_cont]
      rcases hpost with ⟨h, _⟩ | ⟨_, hpost⟩
      · cases h
      · cases hb : pB n' (dropS s p) with
        | none => rw [hb] at hpost; exact Or.inl ⟨hpost, rfl⟩
        | some y =>
          obtain ⟨x, r⟩ := y
          rw [hb] at hpost
          obtain ⟨h1, h2, h3, h4, h5⟩ := hpost
          exact Or.inr ⟨h1, h3, h4, n', [x], by rw [h2], by omega, by omega, fun i hi => by rw [h5 i hi]; simp [evC]⟩
  have HST := Lib.hid hstart
  clear hRw2 hRw2' hRR2 hpost hS2 hstart hal HB
  go_wp2_with (refine wpList_store_row rfl 50 _ _ rfl w2.heap.size (tabArr u) rfl rfl 50 _ (alloc_last _ _) (by rw [tabArr_size]; exact info50) (by rw [zeros_size, tabArr_size]) (tabArr_one _) ?_)
  generalize ((w2.alloc (.cells Try.zeroCells50 50)).setRow w2.heap.size (tabArr u)) = W3 at *
  have hG : w.heap.size + 1 ≤ w2.heap.size := by omega
  generalize w2.heap.size = G at *
  clear hsz1 hsz2 hle3 hle4
  go_simp
  go_loopw [5] (fun _ wr => CRel (n' + 1) b s p w G wr) (fun _ wr => rrA s.size b wr)
  case atStart => exact HST.out
  case round =>
    clear HST
    obtain ⟨p', bad', t, hRR, hRw, hS, hO, hle, hle2, hcase⟩ := hrel
    obtain ⟨v, hv⟩ : ∃ v, hdv (dropS s p') = v := ⟨_, rfl⟩
    have HN1 := Lib.hid (show Calls Try.prog 110 #[.pointer (some ⟨b, 0, none⟩)] wr fun e w' => e = .returned (.int .u8 (v : Nat)) ∧ ∃ n, w' = wr.drewN n from refNextAt b s p' v bad' wr hRR hv 0)
    have hlt1 := heap_lt hO
    have c1 := hRR.c1
    have f1 := hRR.f 1
    have HM := Lib.hid (rrA_of s.size hRR)
    have HRR := Lib.hid hRR
    have HRw := Lib.hid hRw
    have HS := Lib.hid hS
    have HO := Lib.hid hO
    have HCASE := Lib.hid hcase
    clear hRR hRw hS hO hcase
    by_cases h43 : v = 43
    · subst h43
      obtain ⟨r', hr'⟩ : ∃ r', dropS s p' = 43 :: r' := by
        cases h : dropS s p' with
        | nil => rw [h] at hv; cases hv
        | cons y r'' => rw [h] at hv; exact ⟨r'', by rw [(u8_nat y 43 (by omega)).2 hv]; rfl⟩
      obtain ⟨hp1, hr1⟩ := dropS_cons hr'
      have hq : ∃ q, q < n' + 1 ∧ 3 * (s.size - (p' + 1)) + 2 ≤ q ∧ ∀ (p2 : Nat) (bad2 : Bool) (u : Nat → Bool), p' + 1 ≤ p2 → ((bad' = true ∧ bad2 = true ∧ p2 = p' + 1) ∨ (bad' = false ∧ (match pB q (dropS s (p' + 1)) with
          | some (x, r) => bad2 = false ∧ dropS s p2 = r ∧ p' + 1 < p2 ∧ p2 ≤ s.size ∧ ∀ i, i < 256 → u i = evB x i
          | none => bad2 = true))) →
          ((bad2 = true ∧ pC (n' + 1) (dropS s p) = none) ∨ (bad2 = false ∧ p < p2 ∧ p2 ≤ s.size ∧ ∃ m cs, pC (n' + 1) (dropS s p) = contC m cs (dropS s p2) ∧ 3 * (s.size - p2) + 2 ≤ m ∧ m ≤ n' + 1 ∧ ∀ i, i < 256 → (t i || u i) = evC cs i)) := by
        rcases HCASE.out with ⟨h1, h2⟩ | ⟨h1, h2, h3, m, cs, h4, h5, h6, h7⟩
        · refine ⟨n', by omega, by omega, ?_⟩
          rintro p2 bad2 u hp2 (⟨_, h, _⟩ | ⟨h, _⟩)
          · exact Or.inl ⟨h, h2⟩
          · rw [h1] at h; cases h
        · obtain ⟨m', rfl⟩ : ∃ m', m = m' + 1 := ⟨m - 1, by omega⟩
          refine ⟨m', by omega, by omega, ?_⟩
          rintro p2 bad2 u hp2 (⟨h, _⟩ | ⟨_, h⟩)
          · rw [h1] at h; cases h
          · rw [hr', contC_step, ← hr1] at h4
            cases hb : pB m' (dropS s (p' + 1)) with
            | none => rw [hb] at h h4; exact Or.inl ⟨h, h4⟩
            | some y =>
              obtain ⟨x, r⟩ := y
              rw [hb] at h h4
              obtain ⟨g1, g2, g3, g4, g5⟩ := h
              refine Or.inr ⟨g1, by omega, g4, m', cs ++ [x], by rw [g2]; exact h4, by omega, by omega, fun i hi => ?_⟩
              rw [evC_snoc, h7 i hi, g5 i hi]
      obtain ⟨q, hq1, hq2, hq3⟩ := hq
      have HQ := Lib.hid hq3
      clear hq3 HCASE hr' hr1 hv
      go_wp2_with (go_at_call 110; refine HN1.out.mono ?_; rintro e w' ⟨rfl, m, rfl⟩)
      have hRRa : RR b s (p' + 1) bad' ((wr.drewN m).setCell ⟨b, 1, none⟩ (.int .i64 ((p' : Int) + 1))) := by
        have := (HRR.out.drewN m).set1 (p' + 1); simpa using this
      have hRwa : Rw b wr ((wr.drewN m).setCell ⟨b, 1, none⟩ (.int .i64 ((p' : Int) + 1))) := ((Rw.refl b wr).drewN m).trans (Rw.setCell b 1 _ _)
      generalize ((wr.drewN m).setCell ⟨b, 1, none⟩ (.int .i64 ((p' : Int) + 1))) = Wa at *
      refine (IHB.out q hq1 _ _ _ hRRa (by omega) hq2).mono ?_
      rintro e w4 ⟨u, p2, bad2, rfl, hRw4, hRR4, hle3, hle4, hpost⟩
      have hRw4' := hRwa.trans hRw4
      have hsz4 := hRw4'.size
      have hRR3 : RR b s p2 bad2 ((w4.alloc (.cells Try.zeroCells50 50)).setRow w4.heap.size (tabArr u)) := (hRR4.keep ((Below.refl _ _).alloc (Nat.le_refl _) _)).same (setRow_ne _ _ _ _ (by have := hRR4.lt; omega))
      have hRw3 : Rw b w ((w4.alloc (.cells Try.zeroCells50 50)).setRow w4.heap.size (tabArr u)) := ((HRw.out.trans hRw4').trans (Rw.of_below ((Below.refl _ _).alloc (Nat.le_refl _) _))).setRow _ _ (by have := HRw.out.size; omega)
      have hS3 : ((w4.alloc (.cells Try.zeroCells50 50)).setRow w4.heap.size (tabArr u)).heap[w.heap.size]? = some (.cells (tabArr fun _ => false) 50 (0, 0)) := by
        rw [setRow_ne _ _ _ _ (by omega), Below.heap_alloc _ _ _ (by omega)]; exact hRw4'.keepAt HS.out (by omega)
      have hO3 : TabTo G (fun i => t i || u i) t 0 ((w4.alloc (.cells Try.zeroCells50 50)).setRow w4.heap.size (tabArr u)) := by
        apply TabTo.of_full
        rw [setRow_ne _ _ _ _ (by omega), Below.heap_alloc _ _ _ (by omega)]; exact hRw4'.keepAt HO.out (by omega)
      have hU3 : ((w4.alloc (.cells Try.zeroCells50 50)).setRow w4.heap.size (tabArr u)).heap[w4.heap.size]? = some (.cells (tabArr u) 50 (0, 0)) := setRow_at _ _ _ _ _ (alloc_last _ _)
      have H3 := Lib.hid (And.intro hRR3 (And.intro hRw3 (And.intro hS3 (And.intro hO3 hU3))))
      have HPOST := Lib.hid (HQ.out p2 bad2 u hle3 hpost)
      clear hRw4 hRw4' hRR4 hRR3 hRw3 hS3 hO3 hU3 hpost HRR HRw HO HS HN1 hRRa hRwa c1 f1 HQ
      go_wp2_with (refine wpList_store_row rfl 50 _ _ rfl w4.heap.size (tabArr u) rfl rfl 50 _ (alloc_last _ _) (by rw [tabArr_size]; exact info50) (by rw [zeros_size, tabArr_size]) (tabArr_one _) ?_)
      generalize ((w4.alloc (.cells Try.zeroCells50 50)).setRow w4.heap.size (tabArr u)) = W3 at *
      have hG2 : G + 1 ≤ w4.heap.size := by omega
      generalize w4.heap.size = G2 at *
      clear hsz4
      go_loopw [5] (fun i wx => ∃ q : Nat, q ≤ 256 ∧ i = .int .i64 q ∧ RR b s p2 bad2 wx ∧ Rw b w wx ∧ wx.heap[w.heap.size]? = some (.cells (tabArr fun _ => false) 50 (0, 0)) ∧ TabTo G (fun i => t i || u i) t q wx ∧ wx.heap[G2]? = some (.cells (tabArr u) 50 (0, 0))) (fun i _ => 256 - (intOf i).toNat)
      case atStart => exact ⟨0, by omega, rfl, H3.out.1, H3.out.2.1, H3.out.2.2.1, H3.out.2.2.2.1, H3.out.2.2.2.2⟩
      case round =>
        obtain ⟨q, hq, rfl, hRRx, hRwx, hSx, hOx, hUx⟩ := hrel
        clear H3
        by_cases hlt : q < 256
        · have hcell := hOx.cell q hlt
          have hfz := hOx.frozen q
          rw [if_neg (Nat.lt_irrefl q)] at hcell
          have hcu : wr.cell? ⟨G2, q, none⟩ = some (.bool (u q)) := by rw [Lib.cell_of_heap hUx]; exact tab_get u q hlt
          have hstep := hOx.step hlt
          have hrel2 : ∀ y, (t q || u q) = y → (∃ q' : Nat, q' ≤ 256 ∧ (Value.int .i64 ((q : Int) + 1)) = .int .i64 q' ∧ RR b s p2 bad2 (wr.setCell ⟨G, q, none⟩ (.bool y)) ∧ Rw b w (wr.setCell ⟨G, q, none⟩ (.bool y)) ∧ (wr.setCell ⟨G, q, none⟩ (.bool y)).heap[w.heap.size]? = some (.cells (tabArr fun _ => false) 50 (0, 0)) ∧ TabTo G (fun i => t i || u i) t q' (wr.setCell ⟨G, q, none⟩ (.bool y)) ∧ (wr.setCell ⟨G, q, none⟩ (.bool y)).heap[G2]? = some (.cells (tabArr u) 50 (0, 0))) := by
            rintro y rfl
            refine ⟨q + 1, by omega, by go_num, hRRx.same (setCell_ne _ _ _ _ _ (by omega)), hRwx.setOwn _ _ _ (by omega), ?_, hstep, ?_⟩
            · rw [setCell_ne _ _ _ _ _ (by omega)]; exact hSx
            · rw [setCell_ne _ _ _ _ _ (by omega)]; exact hUx
          have HREL := Lib.hid hrel2
          clear hRRx hRwx hSx hOx hUx hstep hrel2
          cases htq : t q with
          | true =>
            rw [htq] at hcell HREL
            clear hcu
            go_wp2_with fail
            go_roundw
            case rel => exact HREL.out _ (by simp)
            case measure => simp [intOf]; omega
          | false =>
            rw [htq] at hcell HREL
            generalize hy : u q = y at hcu HREL
            clear hy
            go_wp2_with fail
            go_roundw
            case rel => exact HREL.out _ (by simp)
            case measure => simp [intOf]; omega
        · obtain rfl : q = 256 := by omega
          have hres : CRel (n' + 1) b s p w G wr := ⟨p2, bad2, _, hRRx, hRwx, hSx, hOx.full, by omega, by omega, HPOST.out⟩
          have HRES := Lib.hid hres
          have hmeas : rrA s.size b wr < 2 * s.size + 1 - p' := by rw [rrA_of s.size hRRx]; omega
          have HMEAS := Lib.hid hmeas
          clear hRRx hRwx hSx hOx hUx hres hmeas HPOST
          go_wp2_with fail
          go_roundw
          case rel => exact HRES.out
          case measure => rw [HM.out]; exact HMEAS.out
    · have hfin : ∀ W, Rw b w W → RR b s p' bad' W → PostRC (n' + 1) b s p w (.returned (.agg (tabArr t))) W := by
        intro W h1 h2
        refine ⟨t, p', bad', rfl, h1, h2, hle, hle2, ?_⟩
        rcases HCASE.out with ⟨h3, h4⟩ | ⟨h3, h4, h5, m, cs, h6, h7, h8, h9⟩
        · rw [h4]; exact h3
        · rw [h6, contC_stop (by rw [hv]; exact h43)]
          exact ⟨h3, rfl, h4, h5, h9⟩
      have HFIN := Lib.hid hfin
      clear hfin HCASE hv
      go_wp2_with (first | (go_at_call 110; refine HN1.out.mono ?_; rintro e w' ⟨rfl, m, rfl⟩) | (refine wpList_load_row rfl 50 _ rfl G rfl 50 (tabArr t) (0, 0) _ HO.out Try.underlying50 rfl (by rw [tabArr_size]; exact info50) ?_) | (refine wpList_store_row rfl 50 _ _ rfl w.heap.size (tabArr t) rfl rfl 50 _ HS.out (by rw [tabArr_size]; exact info50) (by rw [tabArr_size, tabArr_size]) (tabArr_one _) ?_))
      refine tabRet rfl rfl (setRow_at _ _ _ _ _ HS.out) ?_
      exact HFIN.out _ ((HRw.out.drewN _).setRow _ _ (Nat.le_refl _)) ((HRR.out.drewN _).same (setRow_ne _ w.heap.size b _ (by omega)))
end Go.Proofs.Ytfoeamgjjhfkdaa

namespace Go.Proofs.Ytfoeamgjjhfkdaa
open Go Go.Shelf Go.RowKit Go.Proofs L9

section
variable {P : Program} {ops : Array Oper} {md : Region.Mode} {A B : World} {K : Nat}

/-- what an operation gives: the store takes A to B, any other one yields the same in both -/
def LateAt (P : Program) (A B : World) (st : Bool) (o : Oper) (a : Act) (v : Value) : Prop :=
  match st with
  | true => (execOp a.eval o).run P A = .ok .skip B ∧ v = undef
  | false => (execOp a.eval o).run P A = .ok (.value v) A ∧ (execOp a.eval o).run P B = .ok (.value v) B

def YieldsL (P : Program) (ops : Array Oper) (A B : World) (st : Bool) (o : Oper) (v : Value) (a : Act) : Prop :=
  (Region.wanted o (yielded ops a.tmps) = true ∧ LateAt P A B st o a v) ∨ (Region.wanted o (yielded ops a.tmps) = false ∧ st = false ∧ v = undef)

/-- the walk in the text's order; the operation's number goes along -/
def wpLate (P : Program) (ops : Array Oper) (A B : World) (K : Nat) (Q : Act → Prop) : Nat → List Oper → Act → Prop
  | _, [], a => Q a
  | k, o :: rest, a => ∃ v, YieldsL P ops A B (k == K) o v a ∧ wpLate P ops A B K Q (k + 1) rest (a.put o.dst v)

def lOp (P : Program) (ops : Array Oper) (A B : World) (K : Nat) (i : Nat) (N : Act → Prop) (a : Act) : Prop :=
  match ops[i]? with
  | none => N a
  | some o => ∃ v, YieldsL P ops A B (i == K) o v a ∧ N (a.put o.dst v)

theorem lOp_mono {i : Nat} {a : Act} {N N' : Act → Prop} (h : ∀ a, N a → N' a) (hh : lOp P ops A B K i N a) : lOp P ops A B K i N' a := by
  unfold lOp at *
  split
  · exact h _ (by simpa [*] using hh)
  · rename_i o ho
    simp only [ho] at hh
    obtain ⟨v, h1, h2⟩ := hh
    exact ⟨v, h1, h _ h2⟩

def wpAnyL2 (P : Program) (md : Region.Mode) (ops : Array Oper) (A B : World) (K : Nat) (Q : Array Bool → Act → Prop) : Nat → Array Bool → Act → Prop
  | 0, listed, a => Region.ready md ops listed = [] ∧ Q listed a
  | fuel + 1, listed, a =>
    (Region.ready md ops listed = [] → Q listed a) ∧
    ∀ i ∈ Region.ready md ops listed, lOp P ops A B K i (wpAnyL2 P md ops A B K Q fuel (listed.setIfInBounds i true)) a

def side (A B : World) (K : Nat) (listed : Array Bool) : World := if listed.getD K false then B else A

theorem side_set_ne {i : Nat} {listed : Array Bool} (h : i ≠ K) : side A B K (listed.setIfInBounds i true) = side A B K listed := by
  unfold side; rw [getD_set_ne false h]
theorem side_set {listed : Array Bool} (h : K < listed.size) : side A B K (listed.setIfInBounds K true) = B := by
  unfold side
  rw [if_pos]
  simp [Array.getD_eq_getD_getElem?, h]

theorem wpOp_of_lOp {i : Nat} {listed : Array Bool} {a : Act} {N : Act → Prop} {N' : Act → World → Prop} {Q' : Exit → Act → World → Prop} (hun : listed.getD i true = false)
    (h : ∀ a, N a → N' a (side A B K (listed.setIfInBounds i true))) (hh : lOp P ops A B K i N a) (hsome : ops[i]? ≠ none) : wpOp P ops Q' i N' a (side A B K listed) := by
  have hlt : i < listed.size := by
    rcases Nat.lt_or_ge i listed.size with h' | h'
    · exact h'
    · simp [Array.getElem?_eq_none h'] at hun
  unfold lOp at hh
  unfold wpOp
  split
  · rename_i ho; exact absurd ho hsome
  · rename_i o ho
    simp only [ho] at hh
    obtain ⟨v, hy, hN⟩ := hh
    by_cases hik : i = K
    · subst hik
      have hs : side A B i listed = A := by
        unfold side
        rw [if_neg]
        simp [Array.getD_eq_getD_getElem?, hlt] at hun ⊢
        exact hun
      rw [side_set hlt] at h
      rw [hs]
      simp only [beq_self_eq_true] at hy
      rcases hy with ⟨hw, h1, rfl⟩ | ⟨_, h0, _⟩
      · rw [if_pos hw]
        refine .inl ?_
        unfold Oper.wp
        rw [h1]
        exact h _ hN
      · cases h0
    · rw [side_set_ne hik] at h
      have hb : (i == K) = false := by simpa using hik
      rw [hb] at hy
      rcases hy with ⟨hw, h1, h2⟩ | ⟨hw, _, rfl⟩
      · rw [if_pos hw]
        refine .inl ?_
        unfold Oper.wp
        have : (execOp a.eval o).run P (side A B K listed) = .ok (.value v) (side A B K listed) := by unfold side; split <;> assumption
        rw [this]
        exact h _ hN
      · rw [if_neg (by rw [hw]; simp)]
        exact h _ hN

theorem wpAny_of_late {Q : Array Bool → Act → Prop} {Q' : Exit → Act → World → Prop} (hQ : ∀ listed a, Q listed a → Q' .normal a (side A B K listed)) : ∀ (fuel : Nat) (listed : Array Bool) (a : Act),
    wpAnyL2 P md ops A B K Q fuel listed a → wpAny P md ops Q' fuel listed a (side A B K listed)
  | 0, _, _, h => ⟨h.1, hQ _ _ h.2⟩
  | fuel + 1, listed, a, h => ⟨fun h0 => hQ _ _ (h.1 h0), fun i hi => by
      obtain ⟨hun, o, ho, _⟩ := mem_ready.1 hi
      exact wpOp_of_lOp hun (fun a' hN => wpAny_of_late hQ fuel _ a' hN) (h.2 i hi) (by rw [ho]; simp)⟩

theorem YieldsL.of_same {st : Bool} {o : Oper} {v : Value} {a a' : Act} (hy : YieldsL P ops A B st o v a) (he : execOp a'.eval o = execOp a.eval o)
    (hw : Region.wanted o (yielded ops a'.tmps) = Region.wanted o (yielded ops a.tmps)) : YieldsL P ops A B st o v a' := by
  unfold YieldsL LateAt at *
  rw [he, hw]
  exact hy

theorem lOp_put {i j : Nat} {oi oj : Oper} {v : Value} (hj : ops[j]? = some oj) (hap : oi.apart ops oj = true)
    (hsi : ∀ cs b, oi.op ≠ .select cs b) (hsj : ∀ cs b, oj.op ≠ .select cs b) {N : Act → Prop} {a : Act}
    (hy : YieldsL P ops A B (i == K) oi v a) (h : lOp P ops A B K j N (a.put oi.dst v)) :
    lOp P ops A B K j (fun a' => YieldsL P ops A B (i == K) oi v a' ∧ N (a'.put oi.dst v)) a := by
  obtain ⟨h1, h2, h3⟩ := Oper.apart_spec hap
  unfold lOp at *
  simp only [hj] at *
  obtain ⟨u, hu, hn⟩ := h
  refine ⟨u, hu.of_same (execOp_put oj hsj a oi.dst v h1).symm (wanted_put oj a oi.dst v h1).symm, hy.of_same (execOp_put oi hsi a oj.dst u h3) (wanted_put oi a oj.dst u h3), ?_⟩
  rw [← Act.put_comm a v u h2]; exact hn

theorem wpAnyL2_first {Q : Array Bool → Act → Prop} {i : Nat} {oi : Oper} {v : Value} (hi : ops[i]? = some oi) (hsel : ∀ (j : Nat) (o : Oper) cs b, ops[j]? = some o → o.op ≠ .select cs b) :
    ∀ (fuel : Nat) (listed : Array Bool) (a : Act),
      (∀ j oj, ops[j]? = some oj → j ≠ i → listed.getD j true = false → (∀ e ∈ oj.after, Region.binds md e = true → e.on ≠ i) → oi.apart ops oj = true) →
      i ∈ Region.ready md ops listed → YieldsL P ops A B (i == K) oi v a →
      wpAnyL2 P md ops A B K Q fuel (listed.setIfInBounds i true) (a.put oi.dst v) → wpAnyL2 P md ops A B K Q (fuel + 1) listed a := by
  intro fuel
  induction fuel with
  | zero =>
    intro listed a _ hr hy H
    refine ⟨fun h => (by rw [h] at hr; cases hr), fun j hj => ?_⟩
    by_cases hji : j = i
    · subst hji; unfold lOp; simp only [hi]; exact ⟨v, hy, H⟩
    · have := ready_mono hj hji
      rw [H.1] at this
      cases this
  | succ fuel ih =>
    intro listed a hfree hr hy H
    refine ⟨fun h => (by rw [h] at hr; cases hr), fun j hj => ?_⟩
    by_cases hji : j = i
    · subst hji; unfold lOp; simp only [hi]; exact ⟨v, hy, H⟩
    · have h1 := H.2 j (ready_mono hj hji)
      obtain ⟨hjun, oj, hoj, hall⟩ := mem_ready.1 hj
      have hnot : ∀ e ∈ oj.after, Region.binds md e = true → e.on ≠ i := fun e he hb heq => by
        have h1 := hall e he hb
        have h0 := (mem_ready.1 hr).1
        rw [heq] at h1
        rcases Nat.lt_or_ge i listed.size with h' | h'
        · simp [h'] at h0 h1; rw [h0] at h1; cases h1
        · simp [Array.getElem?_eq_none h'] at h1
      have h2 := lOp_put (i := i) hoj (hfree j oj hoj hji hjun hnot) (fun cs b => hsel i oi cs b hi) (fun cs b => hsel j oj cs b hoj) hy h1
      have hfree' : ∀ k ok, ops[k]? = some ok → k ≠ i → (listed.setIfInBounds j true).getD k true = false →
          (∀ e ∈ ok.after, Region.binds md e = true → e.on ≠ i) → oi.apart ops ok = true := fun k ok hk hki hun hno => by
        refine hfree k ok hk hki ?_ hno
        by_cases hjk : j = k
        · subst hjk; exact hjun
        · rw [getD_set_ne true hjk] at hun; exact hun
      refine lOp_mono (fun a' h3 => ih (listed.setIfInBounds j true) a' hfree' (ready_mono hr (Ne.symm hji)) h3.1 ?_) h2
      rw [Array.setIfInBounds_comm _ _ hji]
      exact h3.2

theorem wpAnyL2_lex {Q : Act → Prop} (hs : Region.noSelect ops = true) (hK : K < ops.size) : ∀ (l : List Oper) (k : Nat) (listed : Array Bool) (a : Act), (∀ j, l[j]? = ops[k + j]?) → listed.size = ops.size → (K < k → listed.getD K false = true) →
    Region.lexFrom md ops l.length k listed = true → wpLate P ops A B K Q k l a → wpAnyL2 P md ops A B K (fun li a => li.getD K false = true ∧ Q a) l.length listed a
  | [], k, listed, _, hl, _, hk, hB, h => ⟨by simpa [Region.lexFrom] using hB, hk (by
      rcases Nat.lt_or_ge K k with h' | h'
      · exact h'
      · have := hl (K - k)
        rw [show k + (K - k) = K by omega] at this
        simp [hK] at this), h⟩
  | o :: l, k, listed, a, hl, hsz, hk, hB, h => by
    have h0 : ops[k]? = some o := by simpa using (hl 0).symm
    have hklt : k < ops.size := (Array.getElem?_eq_some_iff.1 h0).1
    simp only [List.length_cons, Region.lexFrom, Bool.and_eq_true] at hB
    obtain ⟨⟨hr, hf⟩, hB'⟩ := hB
    obtain ⟨v, hy, hN⟩ := h
    refine wpAnyL2_first h0 (Region.noSelect_spec hs) l.length listed a (Region.free_spec h0 hf) (by simpa using hr) hy
      (wpAnyL2_lex hs hK l (k + 1) _ _ (fun j => by have := hl (j + 1); simpa [Nat.add_assoc, Nat.add_comm 1 j] using this) (by simpa using hsz) (fun hlt => ?_) hB' hN)
    by_cases hkK : k = K
    · subst hkK
      simp [Array.getD_eq_getD_getElem?, hsz, hklt]
    · rw [getD_set_ne false hkK]; exact hk (by omega)

/-- the law -/
theorem wp_region_late {id : Nat} {Q : Exit → Act → World → Prop} {a : Act} {w B : World} {l : List Oper} (K : Nat) (hm : P.follows .mixedOrders = true) (hB : Region.lexB .any l.toArray = true) (hK : (decide (K < l.length)) = true)
    (h : wpLate P l.toArray w.drew B K (fun a' => Q .normal a' B) 0 l a) : (Code.region id l.toArray true).wp P Q a w := by
  simp only [Region.lexB, Bool.and_eq_true] at hB
  have hK' : K < l.toArray.size := by simpa using hK
  refine wp_region_any hm ?_
  have hs0 : side w.drew B K (Array.replicate l.toArray.size false) = w.drew := by
    unfold side
    rw [if_neg]
    rw [getD_replicate_false]
    simp
  have := wpAny_of_late (md := .any) (Q' := Q) (fun li a' h' => by unfold side; rw [if_pos h'.1]; exact h'.2) _ _ _
    (wpAnyL2_lex (md := .any) hB.1 hK' l 0 (Array.replicate l.toArray.size false) a (by simp) (by simp) (fun h => absurd h (by omega)) (by simpa using hB.2) h)
  rw [hs0] at this
  simpa using this

/-- one step that only reads -/
theorem late_step {Q : Act → Prop} {k : Nat} {o : Oper} {rest : List Oper} {a : Act} (v : Value) (hk : (k == K) = false) (hw : Region.wanted o (yielded ops a.tmps) = true) (hA : (execOp a.eval o).run P A = .ok (.value v) A) (hB : (execOp a.eval o).run P B = .ok (.value v) B)
    (h : wpLate P ops A B K Q (k + 1) rest (a.put o.dst v)) : wpLate P ops A B K Q k (o :: rest) a := ⟨v, by rw [hk]; exact .inl ⟨hw, hA, hB⟩, h⟩
theorem late_skip {Q : Act → Prop} {k : Nat} {o : Oper} {rest : List Oper} {a : Act} (hk : (k == K) = false) (hw : Region.wanted o (yielded ops a.tmps) = false)
    (h : wpLate P ops A B K Q (k + 1) rest (a.put o.dst undef)) : wpLate P ops A B K Q k (o :: rest) a := ⟨undef, by rw [hk]; exact .inr ⟨hw, rfl, rfl⟩, h⟩
theorem late_store {Q : Act → Prop} {k : Nat} {o : Oper} {rest : List Oper} {a : Act} (hk : (k == K) = true) (hw : Region.wanted o (yielded ops a.tmps) = true) (hA : (execOp a.eval o).run P A = .ok .skip B)
    (h : wpLate P ops A B K Q (k + 1) rest (a.put o.dst undef)) : wpLate P ops A B K Q k (o :: rest) a := ⟨undef, by rw [hk]; exact .inl ⟨hw, hA, rfl⟩, h⟩
theorem late_nil {Q : Act → Prop} {k : Nat} {a : Act} (h : Q a) : wpLate P ops A B K Q k [] a := h

theorem late_load_row {Q : Act → Prop} {k : Nat} {o : Oper} {rest : List Oper} {a : Act} {ty : TypeId} {x : Operand} {b : Nat} {v : Value} (hgd : o.guard = none) (ho : o.op = .load ty x) (hx : a.eval x = .pointer (some ⟨b, 0, none⟩)) (hk : (k == K) = false)
    (hA : (loadVar ty ⟨b, 0, none⟩).run P A = .ok v A) (hB : (loadVar ty ⟨b, 0, none⟩).run P B = .ok v B)
    (h : wpLate P ops A B K Q (k + 1) rest (a.put o.dst v)) : wpLate P ops A B K Q k (o :: rest) a := by
  refine late_step v hk (by simp [Region.wanted, hgd]) ?_ ?_ h
  · unfold execOp
    simp only [ho, hx, Instr.loadAt, Instr.sureAddr, Sem.run_bind, Sem.run_pure, Result.andThen_ok, hA]
  · unfold execOp
    simp only [ho, hx, Instr.loadAt, Instr.sureAddr, Sem.run_bind, Sem.run_pure, Result.andThen_ok, hB]
end
end Go.Proofs.Ytfoeamgjjhfkdaa

namespace Go.Proofs.Ytfoeamgjjhfkdaa
open Go Go.Shelf Go.RowKit Go.Proofs L9

theorem starts_lt {s : ByteArray} {p : Nat} (h : starts (dropS s p) = true) : p < s.size := by
  rcases Nat.lt_or_ge p s.size with h' | h'
  · exact h'
  · have h0 : dropS s p = [] := by unfold dropS; rw [List.drop_of_length_le (by rw [size_list]; omega)]
    rw [h0] at h; cases h

theorem refAll (b : Nat) (s : ByteArray) (hs : s.size ≤ 900) (n : Nat) :
    (∀ (p : Nat) (w : World), RR b s p false w → starts (dropS s p) = true → 3 * (s.size - p) + 1 ≤ n → Calls Try.prog 123 #[.pointer (some ⟨b, 0, none⟩)] w (PostRP n b s p w)) ∧
    (∀ (p : Nat) (bad : Bool) (w : World), RR b s p bad w → p ≤ s.size → 3 * (s.size - p) + 2 ≤ n → Calls Try.prog 109 #[.pointer (some ⟨b, 0, none⟩)] w (PostRB n b s p bad w)) ∧
    (∀ (p : Nat) (w : World), RR b s p false w → p ≤ s.size → 3 * (s.size - p) + 3 ≤ n → Calls Try.prog 88 #[.pointer (some ⟨b, 0, none⟩)] w (PostRC n b s p w)) := by
  induction n using Nat.strongRecOn with
  | _ n ih =>
    refine ⟨fun p w hR hst hn => ?_, fun p bad w hR hp hn => ?_, fun p w hR hp hn => ?_⟩
    · have hlt := starts_lt hst
      obtain ⟨k, rfl⟩ : ∃ k, n = k + 1 := ⟨n - 1, by omega⟩
      cases hd : dropS s p with
      | nil => rw [hd] at hst; cases hst
      | cons x r =>
        rw [hd] at hst
        simp only [starts, Bool.or_eq_true, beq_iff_eq] at hst
        rcases hst with rfl | hl
        · exact refPartParen k b s p w r hR hd (by omega) (fun W hW => (ih k (by omega)).2.2 (p + 1) W hW (by omega) (by omega))
        · exact refPartLetter k b s p w x r hR hd hl (by omega)
    · exact refBranch n b s p bad w hR hp hs hn (fun m hm p w h1 h2 h3 => (ih m hm).1 p w h1 h2 h3)
    · exact refCircuit n b s p w hR hp hs hn (fun m hm p bad w h1 h2 h3 => (ih m hm).2.1 p bad w h1 h2 h3)

/-- what read leaves -/
def PostRead (s : ByteArray) (w : World) (e : Ending) (w' : World) : Prop :=
  ∃ t, e = .returned (.tuple #[.agg (tabArr t), .bool (circ s.data.toList).isSome]) ∧ Below w.heap.size w w' ∧ ∀ c, circ s.data.toList = some c → ∀ i, i < 256 → t i = evC c i

/-- a whole row read inside a region that ends in a store -/
theorem still_load_row {P : Program} {ops : Array Oper} {w : World} {Q : Act → Prop} {o : Oper} {rest : List Oper} {a : Act} {ty : TypeId} {x : Operand} {b : Nat} {v : Value} (hgd : o.guard = none) (ho : o.op = .load ty x) (hx : a.eval x = .pointer (some ⟨b, 0, none⟩))
    (hrun : (loadVar ty ⟨b, 0, none⟩).run P w = .ok v w) (h : wpStill P ops w Q rest (a.put o.dst v)) : wpStill P ops w Q (o :: rest) a := by
  refine wpStill_step fun K hK => ?_
  have hw : Region.wanted o (yielded ops a.tmps) = true := by simp [Region.wanted, hgd]
  rw [if_pos hw]
  unfold Oper.still execOp
  simp only [ho, hx, Instr.loadAt, Instr.sureAddr, Sem.run_bind, Sem.run_pure, Result.andThen_ok, hrun, Oper.stillUpon]
  exact ⟨trivial, hK _ h⟩

/-- the end of a function with a table and a second result -/
theorem tabRet2 {fn : Func} {Q : Ending → World → Prop} {tmps : Array Value} {W : World} {g : Nat} {f : Nat → Bool} {u : Tmp} {y : Value} (h : fn.results = #[.cell 2 50, .tmp u]) (hp : tmps.getD 2 undef = .pointer (some ⟨g, 0, none⟩))
    (hu : tmps.getD u undef = y) (hg : W.heap[g]? = some (.cells (tabArr f) 50 (0, 0))) (hQ : Q (.returned (.tuple #[.agg (tabArr f), y])) W) : bodyPost Try.prog fn Q .ret { tmps := tmps, defers := [] } W := by
  have hrow := run_loadVar_row (P := Try.prog) W g 50 50 (tabArr f) (0, 0) _ hg Try.underlying50 rfl (by rw [tabArr_size]; exact info50)
  refine bodyPost_ret (v := .tuple #[.agg (tabArr f), y]) ?_ rfl hQ
  rw [results_cell_tmp h, hp]
  simp only [asAddr, Sem.run_pure, Result.andThen_ok, hrow, hu]

set_option maxHeartbeats 4000000 in
set_option maxRecDepth 100000 in
theorem refRead (s : ByteArray) (w : World) (hm : s.size ≤ maxLen) : Calls Try.prog 65 #[.string s] w (PostRead s w) := by
  have hl := size_list s
  by_cases h40 : s.size ≤ 40
  · have hRR : RR (w.heap.size + 1) s 0 false ((w.alloc (.cells Try.zeroCells50 50)).alloc (.cells #[.string s, .int .i64 0, .bool false] 84 )) := by
      unfold RR
      have := alloc_last (w.alloc (.cells Try.zeroCells50 50)) (.cells #[.string s, .int .i64 0, .bool false] 84)
      simpa using this
    have HC := Lib.hid ((refAll (w.heap.size + 1) s (by omega) (3 * s.data.toList.length + 3)).2.2 0 _ hRR (by omega) (by omega))
    have hal : Below w.heap.size w ((w.alloc (.cells Try.zeroCells50 50)).alloc (.cells #[.string s, .int .i64 0, .bool false] 84 )) := ((Below.refl _ _).alloc (Nat.le_refl _) _).alloc (by simp) _
    have hS : ((w.alloc (.cells Try.zeroCells50 50)).alloc (.cells #[.string s, .int .i64 0, .bool false] 84 )).heap[w.heap.size]? = some (.cells (tabArr fun _ => false) 50 (0, 0)) := by
      rw [Below.heap_alloc _ _ _ (by simp), ← zeros50]
      exact alloc_last _ _
    have HAL := Lib.hid hal
    have HS := Lib.hid hS
    clear hRR hal hS
    go_enter Try.func65, Try.ntmps65
    go_wp2_with fail
    refine HC.out.mono ?_
    rintro e w1 ⟨t, p1, bad1, rfl, hRw, hRR, hle, hle2, hpost⟩
    have hres : (circ s.data.toList).isSome = (!bad1 && decide (p1 = s.size)) ∧ ∀ c, circ s.data.toList = some c → ∀ i, i < 256 → t i = evC c i := by
      have h0 : dropS s 0 = s.data.toList := by unfold dropS; simp
      rw [h0] at hpost
      unfold circ
      rw [if_pos (by omega)]
      unfold parse
      cases hp : pC (3 * s.data.toList.length + 3) s.data.toList with
      | none =>
        rw [hp] at hpost
        subst hpost
        simp
      | some y =>
        obtain ⟨x, r⟩ := y
        rw [hp] at hpost
        obtain ⟨rfl, h1, h2, h3, h4⟩ := hpost
        have hln := dropS_len s p1
        rw [h1] at hln
        cases r with
        | nil =>
          simp at hln
          have : p1 = s.size := by omega
          simp only [List.isEmpty_nil, if_true]
          refine ⟨by simp [this], fun c hc i hi => ?_⟩
          cases hc
          exact h4 i hi
        | cons a r' =>
          simp at hln
          have : ¬ p1 = s.size := by omega
          simp [this]
    have hG : w.heap.size + 2 ≤ w1.heap.size := by have := hRw.size; simpa using this
    have hB1 : Below w.heap.size w w1 := HAL.out.trans ⟨hRw.os, hRw.tape, hRw.output, by have := hRw.size; have := HAL.out.size; omega, fun k hk => hRw.block k (by have := HAL.out.size; omega) (by simp; omega)⟩
    have hS1 : w1.heap[w.heap.size]? = some (.cells (tabArr fun _ => false) 50 (0, 0)) := hRw.keepAt HS.out (by omega)
    have hRR3 : RR (w.heap.size + 1) s p1 bad1 ((w1.alloc (.cells Try.zeroCells50 50)).setRow w1.heap.size (tabArr t)) := (hRR.keep ((Below.refl _ _).alloc (Nat.le_refl _) _)).same (setRow_ne _ _ _ _ (by omega))
    have hS3 : ((w1.alloc (.cells Try.zeroCells50 50)).setRow w1.heap.size (tabArr t)).heap[w.heap.size]? = some (.cells (tabArr fun _ => false) 50 (0, 0)) := by
      rw [setRow_ne _ _ _ _ (by omega), Below.heap_alloc _ _ _ (by omega)]; exact hS1
    have hB3 : Below w.heap.size w ((w1.alloc (.cells Try.zeroCells50 50)).setRow w1.heap.size (tabArr t)) :=
      (hB1.alloc (by omega) _).trans ⟨rfl, rfl, rfl, by simp, fun k hk => setRow_ne _ _ _ _ (by omega)⟩
    have hU3 : ((w1.alloc (.cells Try.zeroCells50 50)).setRow w1.heap.size (tabArr t)).heap[w1.heap.size]? = some (.cells (tabArr t) 50 (0, 0)) := setRow_at _ _ _ _ _ (alloc_last _ _)
    have H3 := Lib.hid (And.intro hRR3 (And.intro hB3 (And.intro hS3 hU3)))
    have HRES := Lib.hid hres
    clear hRw hRR hpost hres hB1 hS1 hRR3 hS3 hB3 hU3 HC HAL HS
    go_wp2_with (refine wpList_store_row rfl 50 _ _ rfl w1.heap.size (tabArr t) rfl rfl 50 _ (alloc_last _ _) (by rw [tabArr_size]; exact info50) (by rw [zeros_size, tabArr_size]) (tabArr_one _) ?_)
    generalize ((w1.alloc (.cells Try.zeroCells50 50)).setRow w1.heap.size (tabArr t)) = W3 at *
    generalize w1.heap.size = G at *
    have d1 : W3.drew.cell? ⟨w.heap.size + 1, 1, none⟩ = some (.int .i64 (p1 : Nat)) := H3.out.1.c1
    have d2 : W3.drew.cell? ⟨w.heap.size + 1, 2, none⟩ = some (.bool bad1) := H3.out.1.c2
    have e1 : (W3.drew.setRow w.heap.size (tabArr t)).cell? ⟨w.heap.size + 1, 1, none⟩ = some (.int .i64 (p1 : Nat)) := RR.c1 (RR.same (w := W3) H3.out.1 (setRow_ne W3.drew w.heap.size _ _ (by omega)))
    have e2 : (W3.drew.setRow w.heap.size (tabArr t)).cell? ⟨w.heap.size + 1, 2, none⟩ = some (.bool bad1) := RR.c2 (RR.same (w := W3) H3.out.1 (setRow_ne W3.drew w.heap.size _ _ (by omega)))
    have hlA : (loadVar 50 ⟨G, 0, none⟩).run Try.prog W3.drew = .ok (.agg (tabArr t)) W3.drew :=
      run_loadVar_row (P := Try.prog) W3.drew G 50 50 (tabArr t) (0, 0) _ H3.out.2.2.2 Try.underlying50 rfl (by rw [tabArr_size]; exact info50)
    have hlB : (loadVar 50 ⟨G, 0, none⟩).run Try.prog (W3.drew.setRow w.heap.size (tabArr t)) = .ok (.agg (tabArr t)) (W3.drew.setRow w.heap.size (tabArr t)) :=
      run_loadVar_row (P := Try.prog) _ G 50 50 (tabArr t) (0, 0) _ ((setRow_ne _ _ _ _ (by omega)).trans H3.out.2.2.2) Try.underlying50 rfl (by rw [tabArr_size]; exact info50)
    have hst : ∀ (o : Oper) (a : Act), o.op = .store 50 (.tmp 2) (.tmp 15) → a.eval (.tmp 2) = .pointer (some ⟨w.heap.size, 0, none⟩) → a.eval (.tmp 15) = .agg (tabArr t) → (execOp a.eval o).run Try.prog W3.drew = .ok .skip (W3.drew.setRow w.heap.size (tabArr t)) := by
      intro o a h1 h2 h3
      unfold execOp
      simp only [h1, h2, h3, Instr.storeAt, Instr.sureAddr, Sem.run_bind, Sem.run_pure, Result.andThen_ok, run_storeVar_row (P := Try.prog) W3.drew w.heap.size 50 50 (tabArr fun _ => false) (tabArr t) H3.out.2.2.1 (by rw [tabArr_size]; exact info50) (by rw [tabArr_size, tabArr_size]) (tabArr_one _)]
    have hfin : ∀ z, z = (!bad1 && decide (p1 = s.size)) → PostRead s w (.returned (.tuple #[.agg (tabArr t), .bool z])) (W3.drew.setRow w.heap.size (tabArr t)) := by
      rintro z rfl
      refine ⟨t, by rw [HRES.out.1], ?_, HRES.out.2⟩
      have hB3 := H3.out.2.1
      exact hB3.drew.trans ⟨rfl, rfl, rfl, by simp, fun k hk => setRow_ne _ _ _ _ (by omega)⟩
    have HFIN := Lib.hid hfin
    have HSET := Lib.hid (setRow_at W3.drew w.heap.size (tabArr t) _ _ H3.out.2.2.1)
    have HLA := Lib.hid hlA
    have HLB := Lib.hid hlB
    have HST := Lib.hid hst
    clear hfin HRES H3 hlA hlB hst
    go_simp
    cases bad1 with
    | true =>
      refine wp_region_late (B := W3.drew.setRow w.heap.size (tabArr t)) 15 (by kernel_rfl) (by kernel_rfl) (by kernel_rfl) ?_
      refine late_load_row rfl rfl rfl rfl HLA.out HLB.out ?_
      iterate 14
        first
          | (refine late_skip rfl rfl ?_; go_simp)
          | (refine late_step ?_ rfl rfl ?_ ?_ ?_; rotate_left; (· (go_simp; rfl)); (· first | (go_simp; done) | (go_simp; rfl)); go_simp)
      refine late_store rfl rfl (HST.out _ _ rfl rfl rfl) ?_
      refine late_step ?_ rfl rfl ?_ ?_ ?_
      rotate_left
      · (go_simp; rfl)
      · first | (go_simp; done) | (go_simp; rfl)
      refine late_nil ?_
      go_simp
      go_wp2_with fail
      refine tabRet2 rfl rfl rfl HSET.out ?_
      exact HFIN.out _ rfl
    | false =>
      by_cases hpe : p1 = s.size
      all_goals
        refine wp_region_late (B := W3.drew.setRow w.heap.size (tabArr t)) 15 (by kernel_rfl) (by kernel_rfl) (by kernel_rfl) ?_
        refine late_load_row rfl rfl rfl rfl HLA.out HLB.out ?_
        iterate 14
          first
            | (refine late_skip rfl rfl ?_; go_simp)
            | (refine late_step ?_ rfl rfl ?_ ?_ ?_; rotate_left; (· (go_simp; rfl)); (· first | (go_simp; done) | (go_simp; rfl)); go_simp)
        refine late_store rfl rfl (HST.out _ _ rfl rfl rfl) ?_
        refine late_step ?_ rfl rfl ?_ ?_ ?_
        rotate_left
        · (go_simp; rfl)
        · first | (go_simp; done) | (go_simp; rfl)
        refine late_nil ?_
        go_simp
        go_wp2_with fail
        refine tabRet2 rfl rfl rfl HSET.out ?_
        exact HFIN.out _ (by first | (simp [hpe]; done) | (simp [hpe]; omega))
  · have hc : circ s.data.toList = none := by unfold circ; rw [if_neg (by omega)]
    have hfin : ∀ W, Below w.heap.size w W → PostRead s w (.returned (.tuple #[.agg (tabArr fun _ => false), .bool false])) W := by
      intro W h
      refine ⟨_, by rw [hc]; rfl, h, fun c h => ?_⟩
      rw [hc] at h; cases h
    have HFIN := Lib.hid hfin
    have hS : (w.alloc (.cells Try.zeroCells50 50)).heap[w.heap.size]? = some (.cells (tabArr fun _ => false) 50 (0, 0)) := by
      rw [← zeros50]; exact alloc_last _ _
    have hal : Below w.heap.size w (w.alloc (.cells Try.zeroCells50 50)) := ((Below.refl _ _).alloc (Nat.le_refl _) _)
    have HS := Lib.hid hS
    have HAL := Lib.hid hal
    clear hfin hc hl hS hal
    unfold maxLen at hm
    go_enter Try.func65, Try.ntmps65
    go_wp2_with (refine wpList_store_row rfl 50 _ _ rfl w.heap.size Try.zeroCells50 rfl rfl 50 _ HS.out (by rw [zeros_size]; exact info50) (by rw [zeros_size, tabArr_size]) (by rw [zeros50]; exact tabArr_one _) ?_)
    refine tabRet2 rfl rfl rfl (by rw [zeros50]; exact setRow_at _ _ _ _ _ HS.out) ?_
    exact HFIN.out _ (HAL.out.trans ⟨rfl, rfl, rfl, by simp, fun k hk => setRow_ne _ _ _ _ (by omega)⟩)
end Go.Proofs.Ytfoeamgjjhfkdaa
