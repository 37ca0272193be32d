/- The reference reads: all fuels. -/
import Derived.Test.YtfoeamgjjhfkdaaLa
namespace Go.Proofs.Ytfoeamgjjhfkdaa
open Go Go.Shelf Go.RowKit Go.Proofs L9

theorem starts_lt {s : ByteArray} {p : Nat} (h : starts (dropS s p) = true) : p < s.size := by
  rcases Nat.lt_or_ge p s.size with h' | h'
  · exact h'
  · have h0 : dropS s p = [] := by unfold dropS; rw [List.drop_of_length_le (by rw [size_list]; omega)]
    rw [h0] at h; cases h

theorem refAll (b : Nat) (s : ByteArray) (hs : s.size ≤ 900) (n : Nat) :
    (∀ (p : Nat) (w : World), RR b s p false w → starts (dropS s p) = true → 3 * (s.size - p) + 1 ≤ n → Calls Try.prog 123 #[.pointer (some ⟨b, 0, none⟩)] w (PostRP n b s p w)) ∧
    (∀ (p : Nat) (bad : Bool) (w : World), RR b s p bad w → p ≤ s.size → 3 * (s.size - p) + 2 ≤ n → Calls Try.prog 109 #[.pointer (some ⟨b, 0, none⟩)] w (PostRB n b s p bad w)) ∧
    (∀ (p : Nat) (w : World), RR b s p false w → p ≤ s.size → 3 * (s.size - p) + 3 ≤ n → Calls Try.prog 88 #[.pointer (some ⟨b, 0, none⟩)] w (PostRC n b s p w)) := by
  induction n using Nat.strongRecOn with
  | _ n ih =>
    refine ⟨fun p w hR hst hn => ?_, fun p bad w hR hp hn => ?_, fun p w hR hp hn => ?_⟩
    · have hlt := starts_lt hst
      obtain ⟨k, rfl⟩ : ∃ k, n = k + 1 := ⟨n - 1, by omega⟩
      cases hd : dropS s p with
      | nil => rw [hd] at hst; cases hst
      | cons x r =>
        rw [hd] at hst
        simp only [starts, Bool.or_eq_true, beq_iff_eq] at hst
        rcases hst with rfl | hl
        · exact refPartParen k b s p w r hR hd (by omega) (fun W hW => (ih k (by omega)).2.2 (p + 1) W hW (by omega) (by omega))
        · exact refPartLetter k b s p w x r hR hd hl (by omega)
    · exact refBranch n b s p bad w hR hp hs hn (fun m hm p w h1 h2 h3 => (ih m hm).1 p w h1 h2 h3)
    · exact refCircuit n b s p w hR hp hs hn (fun m hm p bad w h1 h2 h3 => (ih m hm).2.1 p bad w h1 h2 h3)

/-- what read leaves -/
def PostRead (s : ByteArray) (w : World) (e : Ending) (w' : World) : Prop :=
  ∃ t, e = .returned (.tuple #[.agg (tabArr t), .bool (circ s.data.toList).isSome]) ∧ Below w.heap.size w w' ∧ ∀ c, circ s.data.toList = some c → ∀ i, i < 256 → t i = evC c i

/-- a whole row read inside a region that ends in a store -/
theorem still_load_row {P : Program} {ops : Array Oper} {w : World} {Q : Act → Prop} {o : Oper} {rest : List Oper} {a : Act} {ty : TypeId} {x : Operand} {b : Nat} {v : Value} (hgd : o.guard = none) (ho : o.op = .load ty x) (hx : a.eval x = .pointer (some ⟨b, 0, none⟩))
    (hrun : (loadVar ty ⟨b, 0, none⟩).run P w = .ok v w) (h : wpStill P ops w Q rest (a.put o.dst v)) : wpStill P ops w Q (o :: rest) a := by
  refine wpStill_step fun K hK => ?_
  have hw : Region.wanted o (yielded ops a.tmps) = true := by simp [Region.wanted, hgd]
  rw [if_pos hw]
  unfold Oper.still execOp
  simp only [ho, hx, Instr.loadAt, Instr.sureAddr, Sem.run_bind, Sem.run_pure, Result.andThen_ok, hrun, Oper.stillUpon]
  exact ⟨trivial, hK _ h⟩

/-- the end of a function with a table and a second result -/
theorem tabRet2 {fn : Func} {Q : Ending → World → Prop} {tmps : Array Value} {W : World} {g : Nat} {f : Nat → Bool} {u : Tmp} {y : Value} (h : fn.results = #[.cell 2 50, .tmp u]) (hp : tmps.getD 2 undef = .pointer (some ⟨g, 0, none⟩))
    (hu : tmps.getD u undef = y) (hg : W.heap[g]? = some (.cells (tabArr f) 50 (0, 0))) (hQ : Q (.returned (.tuple #[.agg (tabArr f), y])) W) : bodyPost Try.prog fn Q .ret { tmps := tmps, defers := [] } W := by
  have hrow := run_loadVar_row (P := Try.prog) W g 50 50 (tabArr f) (0, 0) _ hg Try.underlying50 rfl (by rw [tabArr_size]; exact info50)
  refine bodyPost_ret (v := .tuple #[.agg (tabArr f), y]) ?_ rfl hQ
  rw [results_cell_tmp h, hp]
  simp only [asAddr, Sem.run_pure, Result.andThen_ok, hrow, hu]

set_option maxHeartbeats 4000000 in
set_option maxRecDepth 100000 in
theorem refRead (s : ByteArray) (w : World) (hm : s.size ≤ maxLen) : Calls Try.prog 65 #[.string s] w (PostRead s w) := by
  have hl := size_list s
  by_cases h40 : s.size ≤ 40
  · have hRR : RR (w.heap.size + 1) s 0 false ((w.alloc (.cells Try.zeroCells50 50)).alloc (.cells #[.string s, .int .i64 0, .bool false] 84 )) := by
      unfold RR
      have := alloc_last (w.alloc (.cells Try.zeroCells50 50)) (.cells #[.string s, .int .i64 0, .bool false] 84)
      simpa using this
    have HC := Lib.hid ((refAll (w.heap.size + 1) s (by omega) (3 * s.data.toList.length + 3)).2.2 0 _ hRR (by omega) (by omega))
    have hal : Below w.heap.size w ((w.alloc (.cells Try.zeroCells50 50)).alloc (.cells #[.string s, .int .i64 0, .bool false] 84 )) := ((Below.refl _ _).alloc (Nat.le_refl _) _).alloc (by simp) _
    have hS : ((w.alloc (.cells Try.zeroCells50 50)).alloc (.cells #[.string s, .int .i64 0, .bool false] 84 )).heap[w.heap.size]? = some (.cells (tabArr fun _ => false) 50 (0, 0)) := by
      rw [Below.heap_alloc _ _ _ (by simp), ← zeros50]
      exact alloc_last _ _
    have HAL := Lib.hid hal
    have HS := Lib.hid hS
    clear hRR hal hS
    go_enter Try.func65, Try.ntmps65
    go_wp2_with fail
    refine HC.out.mono ?_
    rintro e w1 ⟨t, p1, bad1, rfl, hRw, hRR, hle, hle2, hpost⟩
    have hres : (circ s.data.toList).isSome = (!bad1 && decide (p1 = s.size)) ∧ ∀ c, circ s.data.toList = some c → ∀ i, i < 256 → t i = evC c i := by
      have h0 : dropS s 0 = s.data.toList := by unfold dropS; simp
      rw [h0] at hpost
      unfold circ
      rw [if_pos (by omega)]
      unfold parse
      cases hp : pC (3 * s.data.toList.length + 3) s.data.toList with
      | none =>
        rw [hp] at hpost
        subst hpost
        simp
      | some y =>
        obtain ⟨x, r⟩ := y
        rw [hp] at hpost
        obtain ⟨rfl, h1, h2, h3, h4⟩ := hpost
        have hln := dropS_len s p1
        rw [h1] at hln
        cases r with
        | nil =>
          simp at hln
          have : p1 = s.size := by omega
          simp only [List.isEmpty_nil, if_true]
          refine ⟨by simp [this], fun c hc i hi => ?_⟩
          cases hc
          exact h4 i hi
        | cons a r' =>
          simp at hln
          have : ¬ p1 = s.size := by omega
          simp [this]
    have hG : w.heap.size + 2 ≤ w1.heap.size := by have := hRw.size; simpa using this
    have hB1 : Below w.heap.size w w1 := HAL.out.trans ⟨hRw.os, hRw.tape, hRw.output, by have := hRw.size; have := HAL.out.size; omega, fun k hk => hRw.block k (by have := HAL.out.size; omega) (by simp; omega)⟩
    have hS1 : w1.heap[w.heap.size]? = some (.cells (tabArr fun _ => false) 50 (0, 0)) := hRw.keepAt HS.out (by omega)
    have hRR3 : RR (w.heap.size + 1) s p1 bad1 ((w1.alloc (.cells Try.zeroCells50 50)).setRow w1.heap.size (tabArr t)) := (hRR.keep ((Below.refl _ _).alloc (Nat.le_refl _) _)).same (setRow_ne _ _ _ _ (by omega))
    have hS3 : ((w1.alloc (.cells Try.zeroCells50 50)).setRow w1.heap.size (tabArr t)).heap[w.heap.size]? = some (.cells (tabArr fun _ => false) 50 (0, 0)) := by
      rw [setRow_ne _ _ _ _ (by omega), Below.heap_alloc _ _ _ (by omega)]; exact hS1
    have hB3 : Below w.heap.size w ((w1.alloc (.cells Try.zeroCells50 50)).setRow w1.heap.size (tabArr t)) :=
      (hB1.alloc (by omega) _).trans ⟨rfl, rfl, rfl, by simp, fun k hk => setRow_ne _ _ _ _ (by omega)⟩
    have hU3 : ((w1.alloc (.cells Try.zeroCells50 50)).setRow w1.heap.size (tabArr t)).heap[w1.heap.size]? = some (.cells (tabArr t) 50 (0, 0)) := setRow_at _ _ _ _ _ (alloc_last _ _)
    have H3 := Lib.hid (And.intro hRR3 (And.intro hB3 (And.intro hS3 hU3)))
    have HRES := Lib.hid hres
    clear hRw hRR hpost hres hB1 hS1 hRR3 hS3 hB3 hU3 HC HAL HS
    go_wp2_with (refine wpList_store_row rfl 50 _ _ rfl w1.heap.size (tabArr t) rfl rfl 50 _ (alloc_last _ _) (by rw [tabArr_size]; exact info50) (by rw [zeros_size, tabArr_size]) (tabArr_one _) ?_)
    generalize ((w1.alloc (.cells Try.zeroCells50 50)).setRow w1.heap.size (tabArr t)) = W3 at *
    generalize w1.heap.size = G at *
    have d1 : W3.drew.cell? ⟨w.heap.size + 1, 1, none⟩ = some (.int .i64 (p1 : Nat)) := H3.out.1.c1
    have d2 : W3.drew.cell? ⟨w.heap.size + 1, 2, none⟩ = some (.bool bad1) := H3.out.1.c2
    have e1 : (W3.drew.setRow w.heap.size (tabArr t)).cell? ⟨w.heap.size + 1, 1, none⟩ = some (.int .i64 (p1 : Nat)) := RR.c1 (RR.same (w := W3) H3.out.1 (setRow_ne W3.drew w.heap.size _ _ (by omega)))
    have e2 : (W3.drew.setRow w.heap.size (tabArr t)).cell? ⟨w.heap.size + 1, 2, none⟩ = some (.bool bad1) := RR.c2 (RR.same (w := W3) H3.out.1 (setRow_ne W3.drew w.heap.size _ _ (by omega)))
    have hlA : (loadVar 50 ⟨G, 0, none⟩).run Try.prog W3.drew = .ok (.agg (tabArr t)) W3.drew :=
      run_loadVar_row (P := Try.prog) W3.drew G 50 50 (tabArr t) (0, 0) _ H3.out.2.2.2 Try.underlying50 rfl (by rw [tabArr_size]; exact info50)
    have hlB : (loadVar 50 ⟨G, 0, none⟩).run Try.prog (W3.drew.setRow w.heap.size (tabArr t)) = .ok (.agg (tabArr t)) (W3.drew.setRow w.heap.size (tabArr t)) :=
      run_loadVar_row (P := Try.prog) _ G 50 50 (tabArr t) (0, 0) _ ((setRow_ne _ _ _ _ (by omega)).trans H3.out.2.2.2) Try.underlying50 rfl (by rw [tabArr_size]; exact info50)
    have hst : ∀ (o : Oper) (a : Act), o.op = .store 50 (.tmp 2) (.tmp 15) → a.eval (.tmp 2) = .pointer (some ⟨w.heap.size, 0, none⟩) → a.eval (.tmp 15) = .agg (tabArr t) → (execOp a.eval o).run Try.prog W3.drew = .ok .skip (W3.drew.setRow w.heap.size (tabArr t)) := by
      intro o a h1 h2 h3
      unfold execOp
      simp only [h1, h2, h3, Instr.storeAt, Instr.sureAddr, Sem.run_bind, Sem.run_pure, Result.andThen_ok, run_storeVar_row (P := Try.prog) W3.drew w.heap.size 50 50 (tabArr fun _ => false) (tabArr t) H3.out.2.2.1 (by rw [tabArr_size]; exact info50) (by rw [tabArr_size, tabArr_size]) (tabArr_one _)]
    have hfin : ∀ z, z = (!bad1 && decide (p1 = s.size)) → PostRead s w (.returned (.tuple #[.agg (tabArr t), .bool z])) (W3.drew.setRow w.heap.size (tabArr t)) := by
      rintro z rfl
      refine ⟨t, by rw [HRES.out.1], ?_, HRES.out.2⟩
      have hB3 := H3.out.2.1
      exact hB3.drew.trans ⟨rfl, rfl, rfl, by simp, fun k hk => setRow_ne _ _ _ _ (by omega)⟩
    have HFIN := Lib.hid hfin
    have HSET := Lib.hid (setRow_at W3.drew w.heap.size (tabArr t) _ _ H3.out.2.2.1)
    have HLA := Lib.hid hlA
    have HLB := Lib.hid hlB
    have HST := Lib.hid hst
    clear hfin HRES H3 hlA hlB hst
    go_simp
    cases bad1 with
    | true =>
      refine wp_region_late (B := W3.drew.setRow w.heap.size (tabArr t)) 15 (by kernel_rfl) (by kernel_rfl) (by kernel_rfl) ?_
      refine late_load_row rfl rfl rfl rfl HLA.out HLB.out ?_
      iterate 14
        first
          | (refine late_skip rfl rfl ?_; go_simp)
          | (refine late_step ?_ rfl rfl ?_ ?_ ?_; rotate_left; (· (go_simp; rfl)); (· first | (go_simp; done) | (go_simp; rfl)); go_simp)
      refine late_store rfl rfl (HST.out _ _ rfl rfl rfl) ?_
      refine late_step ?_ rfl rfl ?_ ?_ ?_
      rotate_left
      · (go_simp; rfl)
      · first | (go_simp; done) | (go_simp; rfl)
      refine late_nil ?_
      go_simp
      go_wp2_with fail
      refine tabRet2 rfl rfl rfl HSET.out ?_
      exact HFIN.out _ rfl
    | false =>
      by_cases hpe : p1 = s.size
      all_goals
        refine wp_region_late (B := W3.drew.setRow w.heap.size (tabArr t)) 15 (by kernel_rfl) (by kernel_rfl) (by kernel_rfl) ?_
        refine late_load_row rfl rfl rfl rfl HLA.out HLB.out ?_
        iterate 14
          first
            | (refine late_skip rfl rfl ?_; go_simp)
            | (refine late_step ?_ rfl rfl ?_ ?_ ?_; rotate_left; (· (go_simp; rfl)); (· first | (go_simp; done) | (go_simp; rfl)); go_simp)
        refine late_store rfl rfl (HST.out _ _ rfl rfl rfl) ?_
        refine late_step ?_ rfl rfl ?_ ?_ ?_
        rotate_left
        · (go_simp; rfl)
        · first | (go_simp; done) | (go_simp; rfl)
        refine late_nil ?_
        go_simp
        go_wp2_with fail
        refine tabRet2 rfl rfl rfl HSET.out ?_
        exact HFIN.out _ (by first | (simp [hpe]; done) | (simp [hpe]; omega))
  · have hc : circ s.data.toList = none := by unfold circ; rw [if_neg (by omega)]
    have hfin : ∀ W, Below w.heap.size w W → PostRead s w (.returned (.tuple #[.agg (tabArr fun _ => false), .bool false])) W := by
      intro W h
      refine ⟨_, by rw [hc]; rfl, h, fun c h => ?_⟩
      rw [hc] at h; cases h
    have HFIN := Lib.hid hfin
    have hS : (w.alloc (.cells Try.zeroCells50 50)).heap[w.heap.size]? = some (.cells (tabArr fun _ => false) 50 (0, 0)) := by
      rw [← zeros50]; exact alloc_last _ _
    have hal : Below w.heap.size w (w.alloc (.cells Try.zeroCells50 50)) := ((Below.refl _ _).alloc (Nat.le_refl _) _)
    have HS := Lib.hid hS
    have HAL := Lib.hid hal
    clear hfin hc hl hS hal
    unfold maxLen at hm
    go_enter Try.func65, Try.ntmps65
    go_wp2_with (refine wpList_store_row rfl 50 _ _ rfl w.heap.size Try.zeroCells50 rfl rfl 50 _ HS.out (by rw [zeros_size]; exact info50) (by rw [zeros_size, tabArr_size]) (by rw [zeros50]; exact tabArr_one _) ?_)
    refine tabRet2 rfl rfl rfl (by rw [zeros50]; exact setRow_at _ _ _ _ _ HS.out) ?_
    exact HFIN.out _ (HAL.out.trans ⟨rfl, rfl, rfl, by simp, fun k hk => setRow_ne _ _ _ _ (by omega)⟩)
end Go.Proofs.Ytfoeamgjjhfkdaa
