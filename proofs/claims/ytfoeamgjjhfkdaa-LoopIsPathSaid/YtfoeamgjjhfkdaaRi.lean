/- The reference: Valid, asked, Conducts, IsPath, IsCut. -/
import Derived.Test.YtfoeamgjjhfkdaaRh
namespace Go.Proofs.Ytfoeamgjjhfkdaa
open Go Go.Shelf Go.RowKit Go.Proofs L9

theorem drewN_below (B : Nat) (w : World) (n : Nat) : Below B w (w.drewN n) := ⟨rfl, rfl, rfl, Nat.le_refl _, fun _ _ => rfl⟩
theorem setRow_below {B : Nat} {w w' : World} (h : Below B w w') (g : Nat) (cs : Array Value) (hg : B ≤ g) : Below B w (w'.setRow g cs) :=
  h.trans ⟨rfl, rfl, rfl, by simp, fun k hk => setRow_ne _ _ _ _ (by omega)⟩

/-- the end of a function with a table at slot p and a second result -/
theorem tabRetT {fn : Func} {Q : Ending → World → Prop} {tmps : Array Value} {W : World} {g : Nat} {f : Nat → Bool} {p u : Tmp} {y : Value} (h : fn.results = #[.cell p 50, .tmp u]) (hp : tmps.getD p undef = .pointer (some ⟨g, 0, none⟩))
    (hu : tmps.getD u undef = y) (hg : W.heap[g]? = some (.cells (tabArr f) 50 (0, 0))) (hQ : Q (.returned (.tuple #[.agg (tabArr f), y])) W) : bodyPost Try.prog fn Q .ret { tmps := tmps, defers := [] } W := by
  have hrow := run_loadVar_row (P := Try.prog) W g 50 50 (tabArr f) (0, 0) _ hg Try.underlying50 rfl (by rw [tabArr_size]; exact info50)
  refine bodyPost_ret (v := .tuple #[.agg (tabArr f), y]) ?_ rfl hQ
  rw [results_cell_tmp h, hp]
  simp only [asAddr, Sem.run_pure, Result.andThen_ok, hrow, hu]

theorem alloc_zeros (w : World) : (w.alloc (.cells Try.zeroCells50 50)).heap[w.heap.size]? = some (.cells (tabArr fun _ => false) 50 (0, 0)) := by
  rw [← zeros50]; exact alloc_last _ _

set_option maxRecDepth 100000 in
theorem refValid (s : ByteArray) (w : World) (hm : s.size ≤ maxLen) : Calls Try.prog 21 #[.string s] w fun e w' => e = .returned (.bool (circ s.data.toList).isSome) ∧ Below w.heap.size w w' := by
  have HR := Lib.hid (refRead s w hm)
  generalize hz : (circ s.data.toList).isSome = z
  have HZ := Lib.hid hz
  clear hz
  go_enter Try.func21, Try.ntmps21
  go_wp2_with fail
  refine HR.out.mono ?_
  rintro e w1 ⟨t, rfl, hb, _⟩
  rw [HZ.out]
  have hS := alloc_zeros w1
  have HS := Lib.hid hS
  have HB := Lib.hid (setRow_below (hb.alloc hb.size (.cells Try.zeroCells50 50)) w1.heap.size (tabArr t) hb.size)
  clear hS hb
  go_wp2_with (refine wpList_store_row rfl 50 _ _ rfl w1.heap.size (tabArr t) rfl rfl 50 _ HS.out (by rw [tabArr_size]; exact info50) (by rw [tabArr_size, tabArr_size]) (tabArr_one _) ?_)
  go_ret
  exact ⟨rfl, HB.out⟩

def askCode (o : Option (List (List Part))) (q : Option Nat) : Int := match o with
  | none => 90
  | some _ => if q.isSome then 0 else 91
/-- what the reference's asked leaves -/
def PostAsk (c s : ByteArray) (w : World) (e : Ending) (w' : World) : Prop :=
  ∃ t, e = .returned (.tuple #[.agg (tabArr t), .int .i64 (askCode (circ c.data.toList) (setOf s.data.toList))]) ∧ Below w.heap.size w w' ∧ ∀ x, circ c.data.toList = some x → ∀ i, i < 256 → t i = evC x i

set_option maxHeartbeats 2000000 in
set_option maxRecDepth 100000 in
theorem refAsked (c s : ByteArray) (w : World) (hm : c.size ≤ maxLen) (hs : s.size ≤ 1000000) : Calls Try.prog 61 #[.string c, .string s] w (PostAsk c s w) := by
  have hal : Below w.heap.size w (w.alloc (.cells Try.zeroCells50 50)) := (Below.refl _ _).alloc (Nat.le_refl _) _
  have HAL := Lib.hid hal
  have HR := Lib.hid (refRead c (w.alloc (.cells Try.zeroCells50 50)) hm)
  have HV := Lib.hid (fun W => refValidSet s W hs)
  have HS0 := Lib.hid (alloc_zeros w)
  clear hal
  have hfin : ∀ (W : World) (t : Nat → Bool) (z : Int), z = askCode (circ c.data.toList) (setOf s.data.toList) → Below w.heap.size w W → (∀ x, circ c.data.toList = some x → ∀ i, i < 256 → t i = evC x i) → PostAsk c s w (.returned (.tuple #[.agg (tabArr t), .int .i64 z])) W := by
    rintro W t z rfl h1 h2
    exact ⟨t, rfl, h1, h2⟩
  have HFIN := Lib.hid hfin
  clear hfin
  unfold PostRead at HR
  generalize circ c.data.toList = o at *
  generalize setOf s.data.toList = q at *
  go_enter Try.func61, Try.ntmps61
  go_wp2_with fail
  refine HR.out.mono ?_
  rintro e w1 ⟨t, rfl, hb, ht⟩
  have hsz := hb.size
  have hsz0 : (w.alloc (.cells Try.zeroCells50 50)).heap.size = w.heap.size + 1 := by simp
  have hb1 := HAL.out.trans (hb.mono (by omega))
  have hR1 : w1.heap[w.heap.size]? = some (.cells (tabArr fun _ => false) 50 (0, 0)) := by rw [hb.block _ (by omega)]; exact HS0.out
  have hS := alloc_zeros w1
  have hb2 := setRow_below (hb1.alloc hb1.size (.cells Try.zeroCells50 50)) w1.heap.size (tabArr t) hb1.size
  have hT2 : ((w1.alloc (.cells Try.zeroCells50 50)).setRow w1.heap.size (tabArr t)).heap[w1.heap.size]? = some (.cells (tabArr t) 50 (0, 0)) := setRow_at _ _ _ _ _ hS
  have hR2 : ((w1.alloc (.cells Try.zeroCells50 50)).setRow w1.heap.size (tabArr t)).heap[w.heap.size]? = some (.cells (tabArr fun _ => false) 50 (0, 0)) := by
    rw [setRow_ne _ _ _ _ (by omega), Below.heap_alloc _ _ _ (by omega)]; exact hR1
  have HS := Lib.hid hS
  have H2 := Lib.hid (And.intro hb2 (And.intro hT2 hR2))
  have HT := Lib.hid ht
  clear hb ht hb1 hR1 hS hb2 hT2 hR2 HAL HS0
  cases o with
  | none =>
    go_wp2_with (first | (refine wpList_store_row rfl 50 _ _ rfl w1.heap.size (tabArr t) rfl rfl 50 _ HS.out (by rw [tabArr_size]; exact info50) (by rw [tabArr_size, tabArr_size]) (tabArr_one _) ?_) | (refine wpList_load_row rfl 50 _ rfl w1.heap.size rfl 50 (tabArr t) (0, 0) _ H2.out.2.1 Try.underlying50 rfl (by rw [tabArr_size]; exact info50) ?_) | (refine wpList_store_row rfl 50 _ _ rfl w.heap.size (tabArr t) rfl rfl 50 _ H2.out.2.2 (by rw [tabArr_size]; exact info50) (by rw [tabArr_size, tabArr_size]) (tabArr_one _) ?_))
    refine tabRetT rfl rfl rfl (setRow_at _ _ _ _ _ H2.out.2.2) ?_
    exact HFIN.out _ _ _ rfl (setRow_below H2.out.1 _ _ (Nat.le_refl _)) HT.out
  | some x =>
    go_wp2_with (first | (go_at_call 22; fail) | (refine wpList_store_row rfl 50 _ _ rfl w1.heap.size (tabArr t) rfl rfl 50 _ HS.out (by rw [tabArr_size]; exact info50) (by rw [tabArr_size, tabArr_size]) (tabArr_one _) ?_))
    refine (HV.out _).mono ?_
    rintro e w' ⟨rfl, nq, rfl⟩
    have H3 : Hid (Below w.heap.size w (((w1.alloc (.cells Try.zeroCells50 50)).setRow w1.heap.size (tabArr t)).drewN nq) ∧ (((w1.alloc (.cells Try.zeroCells50 50)).setRow w1.heap.size (tabArr t)).drewN nq).heap[w1.heap.size]? = some (.cells (tabArr t) 50 (0, 0)) ∧ (((w1.alloc (.cells Try.zeroCells50 50)).setRow w1.heap.size (tabArr t)).drewN nq).heap[w.heap.size]? = some (.cells (tabArr fun _ => false) 50 (0, 0))) :=
      Lib.hid ⟨H2.out.1.trans (drewN_below _ _ _), H2.out.2⟩
    clear H2
    generalize (((w1.alloc (.cells Try.zeroCells50 50)).setRow w1.heap.size (tabArr t)).drewN nq) = W3 at *
    cases q with
    | none =>
      go_wp2_with (first | (refine wpList_load_row rfl 50 _ rfl w1.heap.size rfl 50 (tabArr t) (0, 0) _ H3.out.2.1 Try.underlying50 rfl (by rw [tabArr_size]; exact info50) ?_) | (refine wpList_store_row rfl 50 _ _ rfl w.heap.size (tabArr t) rfl rfl 50 _ H3.out.2.2 (by rw [tabArr_size]; exact info50) (by rw [tabArr_size, tabArr_size]) (tabArr_one _) ?_))
      refine tabRetT rfl rfl rfl (setRow_at _ _ _ _ _ H3.out.2.2) ?_
      exact HFIN.out _ _ _ rfl (setRow_below H3.out.1 _ _ (Nat.le_refl _)) HT.out
    | some n =>
      go_wp2_with (first | (refine wpList_load_row rfl 50 _ rfl w1.heap.size rfl 50 (tabArr t) (0, 0) _ H3.out.2.1 Try.underlying50 rfl (by rw [tabArr_size]; exact info50) ?_) | (refine wpList_store_row rfl 50 _ _ rfl w.heap.size (tabArr t) rfl rfl 50 _ H3.out.2.2 (by rw [tabArr_size]; exact info50) (by rw [tabArr_size, tabArr_size]) (tabArr_one _) ?_))
      refine tabRetT rfl rfl rfl (setRow_at _ _ _ _ _ H3.out.2.2) ?_
      exact HFIN.out _ _ _ rfl (setRow_below H3.out.1 _ _ (Nat.le_refl _)) HT.out
end Go.Proofs.Ytfoeamgjjhfkdaa
