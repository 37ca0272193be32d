/- LoopPaths, walked. -/
import Derived.Test.YtfoeamgjjhfkdaaRq
namespace Go.Proofs.Ytfoeamgjjhfkdaa
open Go Go.Shelf Go.RowKit Go.Proofs L9

def codeL {α : Type} (o : Option α) : Int := match o with
  | none => 90
  | some _ => 0
theorem ListPost.both {w w' : World} {o : Option (List (List UInt8))} {e : Ending} (h : ListPost w o e w') : Below w.heap.size w w' ∧ ∃ u, e = .returned (.tuple #[u, .int .i64 (codeL o)]) ∧ StrsR w' u (o.getD []) := by
  refine ⟨h.1, ?_⟩
  have h2 := h.2
  cases o with
  | none => exact ⟨_, h2, Or.inl ⟨rfl, rfl⟩⟩
  | some l => exact h2
theorem mins_len (q : Nat → Bool) : ((leastL q).map txt).length ≤ 1000000 := by
  rw [List.length_map]; have := leastL_len q; omega
theorem paths_len (s : List UInt8) : ((pathsOf s).getD []).length ≤ 1000000 := by
  unfold pathsOf
  cases circ s with
  | none => simp
  | some c => exact mins_len _
theorem cuts_len (s : List UInt8) : ((cutsOf s).getD []).length ≤ 1000000 := by
  unfold cutsOf
  cases circ s with
  | none => simp
  | some c => exact mins_len _

set_option maxHeartbeats 4000000 in
set_option maxRecDepth 100000 in
theorem loopPaths_any (c : ByteArray) (w : World) (hc : c.size ≤ maxLen) :
    Calls Try.prog 3 #[.string c] w fun e w' => e = .returned (.bool true) ∧ Below w.heap.size w w' := by
  have HL := Lib.hid (long_any c ⟨#[]⟩ w hc (by decide))
  have HF := Lib.hid first_any
  by_cases hlong : 200 < c.size ∨ 200 < (⟨#[]⟩ : ByteArray).size
  · rw [decide_eq_true hlong] at HL
    clear hlong
    go_enter Try.func3, Try.ntmps3
    go_wp2_with fail
    refine HL.out.mono ?_
    rintro e w1 ⟨rfl, rfl⟩
    go_wp2_with fail
    refine (HF.out _).mono ?_
    rintro e w2 ⟨rfl, hb⟩
    go_wp2_with fail
    go_ret
    exact ⟨rfl, hb⟩
  · rw [decide_eq_false hlong] at HL
    clear hlong
    have H1 := Lib.hid (fun W => (paths_any c W hc).mono fun _ _ h => h.both)
    have H2 := Lib.hid (fun W => (refPaths c W hc).mono fun _ _ h => h.both)
    have H3 := Lib.hid (fun W => (cuts_any c W hc).mono fun _ _ h => h.both)
    have H4 := Lib.hid (fun W => (refCuts c W hc).mono fun _ _ h => h.both)
    have h1 := paths_len c.data.toList
    have h2 := cuts_len c.data.toList
    generalize codeL (pathsOf c.data.toList) = x1 at *
    generalize codeL (cutsOf c.data.toList) = x2 at *
    generalize (pathsOf c.data.toList).getD [] = l1 at *
    generalize (cutsOf c.data.toList).getD [] = l2 at *
    go_enter Try.func3, Try.ntmps3
    go_wp2_with fail
    refine HL.out.mono ?_
    rintro e w1 ⟨rfl, rfl⟩
    go_wp2_with fail
    refine (H1.out _).mono ?_
    rintro e w2 ⟨hb2, u1, rfl, hu1⟩
    have HB2 := Lib.hid hb2
    clear hb2 H1 HL
    go_wp2_with fail
    refine (H2.out _).mono ?_
    rintro e w3 ⟨hb3, v1, rfl, hv1⟩
    have hu1 := hu1.keep hb3
    have HB3 := Lib.hid (HB2.out.trans (hb3.mono HB2.out.size))
    clear hb3 HB2 H2
    go_wp2_with fail
    refine (H3.out _).mono ?_
    rintro e w4 ⟨hb4, u2, rfl, hu2⟩
    have hu1 := hu1.keep hb4
    have hv1 := hv1.keep hb4
    have HB4 := Lib.hid (HB3.out.trans (hb4.mono HB3.out.size))
    clear hb4 HB3 H3
    go_wp2_with fail
    refine (H4.out _).mono ?_
    rintro e w5 ⟨hb5, v2, rfl, hv2⟩
    have hu1 := hu1.keep hb5
    have hv1 := hv1.keep hb5
    have hu2 := hu2.keep hb5
    have HB5 := Lib.hid (HB4.out.trans (hb5.mono HB4.out.size))
    have HS1 := Lib.hid (sameTexts_any u1 v1 l1 l1 w5 hu1 hv1 h1 h1)
    have HS2 := Lib.hid (fun n => sameTexts_any u2 v2 l2 l2 (w5.drewN n) (hu2.keep (drewN_below _ _ n)) (hv2.keep (drewN_below _ _ n)) h2 h2)
    simp only [decide_true] at HS1 HS2
    clear hb5 HB4 H4 hu1 hv1 hu2 hv2
    go_wp2_with fail
    refine HS1.out.mono ?_
    rintro e w6 ⟨rfl, n1, rfl⟩
    go_wp2_with fail
    refine (HS2.out _).mono ?_
    rintro e w7 ⟨rfl, n2, rfl⟩
    have HB7 := Lib.hid (HB5.out.trans (drewN_below _ _ (n1 + n2)))
    clear HB5 HS1 HS2
    go_wp2_with fail
    refine (HF.out _).mono ?_
    rintro e w8 ⟨rfl, hb8⟩
    have HB8 := Lib.hid (HB7.out.trans (hb8.mono HB7.out.size))
    clear hb8 HB7
    go_wp2_with fail
    go_ret
    exact ⟨rfl, HB8.out⟩
end Go.Proofs.Ytfoeamgjjhfkdaa
