/- The reference's reader: its block, next, part. The reference's part. The reference's part at a bracket. -/
import Derived.Test.YtfoeamgjjhfkdaaTx
import Derived.Laws.Tables
namespace Go.Proofs.Ytfoeamgjjhfkdaa
open Go Go.Shelf Go.RowKit Go.Proofs L9

def RR (b : Nat) (s : ByteArray) (at_ : Nat) (bad : Bool) (w : World) : Prop := w.heap[b]? = some (.cells #[.string s, .int .i64 (at_ : Nat), .bool bad] 84 (0, 0))
section
variable {b : Nat} {s : ByteArray} {p : Nat} {bad : Bool} {w : World}
theorem RR.lt (h : RR b s p bad w) : b < w.heap.size := by
  unfold RR at h
  rcases Nat.lt_or_ge b w.heap.size with h' | h'
  · exact h'
  · simp [Array.getElem?_eq_none h'] at h
theorem RR.c0 (h : RR b s p bad w) : w.cell? ⟨b, 0, none⟩ = some (.string s) := by rw [Lib.cell_of_heap h]; rfl
theorem RR.c1 (h : RR b s p bad w) : w.cell? ⟨b, 1, none⟩ = some (.int .i64 (p : Nat)) := by rw [Lib.cell_of_heap h]; rfl
theorem RR.c2 (h : RR b s p bad w) : w.cell? ⟨b, 2, none⟩ = some (.bool bad) := by rw [Lib.cell_of_heap h]; rfl
theorem RR.f (h : RR b s p bad w) (j : Nat) : w.frozen? ⟨b, j, none⟩ = false := Lib.frozen_of_heap h j
theorem RR.set1 (h : RR b s p bad w) (q : Nat) : RR b s q bad (w.setCell ⟨b, 1, none⟩ (.int .i64 (q : Nat))) := by
  unfold RR at *
  simp [World.setCell, Array.getElem?_modify, h]
theorem RR.set2 (h : RR b s p bad w) (x : Bool) : RR b s p x (w.setCell ⟨b, 2, none⟩ (.bool x)) := by
  unfold RR at *
  simp [World.setCell, Array.getElem?_modify, h]
theorem RR.keep {w' : World} (h : RR b s p bad w) (hb : Below w.heap.size w w') : RR b s p bad w' := by
  unfold RR at *
  rw [hb.block b (RR.lt h)]; exact h
theorem RR.same {w' : World} (h : RR b s p bad w) (hb : w'.heap[b]? = w.heap[b]?) : RR b s p bad w' := by
  unfold RR at *
  rw [hb]; exact h
end

theorem refNext (b : Nat) (s : ByteArray) (p : Nat) (bad : Bool) (w : World) (h : RR b s p bad w) :
    Calls Try.prog 110 #[.pointer (some ⟨b, 0, none⟩)] w fun e w' => e = .returned (.int .u8 (hdv (s.data.toList.drop p) : Nat)) ∧ ∃ n, w' = w.drewN n := by
  have h0 := h.c0
  have h1 := h.c1
  by_cases hlt : p < s.size
  · have hd : s.data.toList.drop p = s[p]'hlt :: s.data.toList.drop (p + 1) := by
      rw [List.drop_eq_getElem_cons (by have := size_list s; omega)]; rfl
    have hv : hdv (s.data.toList.drop p) = (s[p]'hlt).toNat := by rw [hd]; rfl
    have HV := Lib.hid hv
    clear hv hd h
    go_enter Try.func110, Try.ntmps110
    go_wp2_with fail
    go_quiet (fail)
    go_wp2_with fail
    go_quiet (fail)
    go_wp2_with fail
    go_ret
    exact ⟨by rw [HV.out]; rfl, _, by rw [World.drewN_drewN]⟩
  · have hv : hdv (s.data.toList.drop p) = 0 := by rw [List.drop_of_length_le (by have := size_list s; omega)]; rfl
    have HV := Lib.hid hv
    clear hv h
    go_enter Try.func110, Try.ntmps110
    go_wp2_with fail
    go_quiet (fail)
    go_wp2_with fail
    go_ret
    exact ⟨by rw [HV.out]; rfl, _, rfl⟩

/-- a table being filled: up to k by f, from k on by g -/
def TabTo (B : Nat) (f g : Nat → Bool) (k : Nat) (w : World) : Prop :=
  ∃ A : Array Value, w.heap[B]? = some (.cells A 50 (0, 0)) ∧ A.size = 256 ∧ ∀ i, i < 256 → A[i]? = some (.bool (if i < k then f i else g i))
theorem TabTo.cell {B : Nat} {f g : Nat → Bool} {k : Nat} {w : World} (h : TabTo B f g k w) (i : Nat) (hi : i < 256) : w.cell? ⟨B, i, none⟩ = some (.bool (if i < k then f i else g i)) := by
  obtain ⟨A, h1, _, h3⟩ := h
  rw [Lib.cell_of_heap h1]; exact h3 i hi
theorem TabTo.frozen {B : Nat} {f g : Nat → Bool} {k : Nat} {w : World} (h : TabTo B f g k w) (i : Nat) : w.frozen? ⟨B, i, none⟩ = false := by
  obtain ⟨A, h1, _, _⟩ := h
  exact Lib.frozen_of_heap h1 i
theorem TabTo.step {B : Nat} {f g : Nat → Bool} {k : Nat} {w : World} (h : TabTo B f g k w) (hk : k < 256) : TabTo B f g (k + 1) (w.setCell ⟨B, k, none⟩ (.bool (f k))) := by
  obtain ⟨A, h1, h2, h3⟩ := h
  refine ⟨A.setIfInBounds k (.bool (f k)), ?_, by simpa using h2, fun i hi => ?_⟩
  · simp [World.setCell, Array.getElem?_modify, h1]
  · rw [Array.getElem?_setIfInBounds]
    by_cases hik : k = i
    · subst hik; rw [if_pos rfl, if_pos (by omega), if_pos (by omega)]
    · rw [if_neg hik, h3 i hi]
      by_cases h : i < k
      · rw [if_pos h, if_pos (by omega)]
      · rw [if_neg h, if_neg (by omega)]
theorem TabTo.same {B : Nat} {f g : Nat → Bool} {k : Nat} {w w' : World} (h : TabTo B f g k w) (hb : w'.heap[B]? = w.heap[B]?) : TabTo B f g k w' := by
  obtain ⟨A, h1, h2⟩ := h
  exact ⟨A, by rw [hb]; exact h1, h2⟩
theorem TabTo.keep {B : Nat} {f g : Nat → Bool} {k : Nat} {w w' : World} (h : TabTo B f g k w) (hb : Below w.heap.size w w') : TabTo B f g k w' := by
  refine h.same (hb.block B ?_)
  obtain ⟨A, h1, _⟩ := h
  rcases Nat.lt_or_ge B w.heap.size with h' | h'
  · exact h'
  · simp [Array.getElem?_eq_none h'] at h1
theorem TabTo.lt {B : Nat} {f g : Nat → Bool} {k : Nat} {w : World} (h : TabTo B f g k w) : B < w.heap.size := by
  obtain ⟨A, h1, _⟩ := h
  rcases Nat.lt_or_ge B w.heap.size with h' | h'
  · exact h'
  · simp [Array.getElem?_eq_none h'] at h1
theorem TabTo.next {B : Nat} {f g f' : Nat → Bool} {w : World} (h : TabTo B f g 256 w) : TabTo B f' f 0 w := by
  obtain ⟨A, h1, h2, h3⟩ := h
  exact ⟨A, h1, h2, fun i hi => by rw [h3 i hi, if_pos hi, if_neg (by omega)]⟩
theorem tabArr_size (t : Nat → Bool) : (tabArr t).size = 256 := by simp [tabArr]
theorem TabTo.full {B : Nat} {f g : Nat → Bool} {w : World} (h : TabTo B f g 256 w) : w.heap[B]? = some (.cells (tabArr f) 50 (0, 0)) := by
  obtain ⟨A, h1, h2, h3⟩ := h
  have : A = tabArr f := by
    apply Array.ext_getElem?
    intro i
    by_cases hi : i < 256
    · rw [h3 i hi, if_pos hi, tab_get f i hi]
    · rw [Array.getElem?_eq_none (by omega), Array.getElem?_eq_none (by rw [tabArr_size]; omega)]
  rw [← this]; exact h1
theorem TabTo.of_full {B : Nat} {f g : Nat → Bool} {w : World} (h : w.heap[B]? = some (.cells (tabArr f) 50 (0, 0))) : TabTo B g f 0 w :=
  ⟨_, h, tabArr_size f, fun i hi => by rw [tab_get f i hi, if_neg (by omega)]⟩
theorem tabArr_congr {f g : Nat → Bool} (h : ∀ i, i < 256 → f i = g i) : tabArr f = tabArr g := by
  unfold tabArr
  congr 1
  apply List.map_congr_left
  intro i hi
  rw [h i (List.mem_range.1 hi)]
theorem tabArr_one (f : Nat → Bool) : (tabArr f).all (·.oneCell') = true := by
  rw [Array.all_eq_true_iff_forall_mem]
  intro v hv
  unfold tabArr at hv
  simp at hv
  obtain ⟨i, _, rfl⟩ := hv
  rfl
theorem zeros50 : Try.zeroCells50 = tabArr fun _ => false := by kernel_rfl
theorem info50 : (Try.prog.info? 50).map (·.size) = some 256 := by kernel_rfl
end Go.Proofs.Ytfoeamgjjhfkdaa

namespace Go.Proofs.Ytfoeamgjjhfkdaa
open Go Go.Shelf Go.RowKit Go.Proofs L9

def dropS (s : ByteArray) (p : Nat) : List UInt8 := s.data.toList.drop p
/-- what the reference's part leaves -/
def PostRP (n b : Nat) (s : ByteArray) (p : Nat) (w : World) (e : Ending) (w' : World) : Prop :=
  ∃ t p' bad', e = .returned (.agg (tabArr t)) ∧ Rw b w w' ∧ RR b s p' bad' w' ∧ p ≤ p' ∧ p' + p ≤ 2 * s.size ∧
    (match pP n (dropS s p) with
      | some (x, r) => bad' = false ∧ dropS s p' = r ∧ p < p' ∧ p' ≤ s.size ∧ ∀ i, i < 256 → t i = x.ev i
      | none => bad' = true)
def PostRC (n b : Nat) (s : ByteArray) (p : Nat) (w : World) (e : Ending) (w' : World) : Prop :=
  ∃ t p' bad', e = .returned (.agg (tabArr t)) ∧ Rw b w w' ∧ RR b s p' bad' w' ∧ p ≤ p' ∧ p' + p ≤ 2 * s.size ∧
    (match pC n (dropS s p) with
      | some (x, r) => bad' = false ∧ dropS s p' = r ∧ p < p' ∧ p' ≤ s.size ∧ ∀ i, i < 256 → t i = evC x i
      | none => bad' = true)
def PostRB (n b : Nat) (s : ByteArray) (p : Nat) (bad : Bool) (w : World) (e : Ending) (w' : World) : Prop :=
  ∃ t p' bad', e = .returned (.agg (tabArr t)) ∧ Rw b w w' ∧ RR b s p' bad' w' ∧ p ≤ p' ∧ p' + p ≤ 2 * s.size ∧
    ((bad = true ∧ bad' = true ∧ p' = p) ∨ (bad = false ∧ (match pB n (dropS s p) with
      | some (x, r) => bad' = false ∧ dropS s p' = r ∧ p < p' ∧ p' ≤ s.size ∧ ∀ i, i < 256 → t i = evB x i
      | none => bad' = true)))

theorem dropS_cons {s : ByteArray} {p : Nat} {x : UInt8} {r : List UInt8} (h : dropS s p = x :: r) : p < s.size ∧ dropS s (p + 1) = r := by
  unfold dropS at *
  have hl := size_list s
  have : p < s.size := by
    rcases Nat.lt_or_ge p s.size with h' | h'
    · exact h'
    · rw [List.drop_of_length_le (by omega)] at h; cases h
  refine ⟨this, ?_⟩
  rw [List.drop_eq_getElem_cons (by omega)] at h
  injection h
theorem dropS_len (s : ByteArray) (p : Nat) : (dropS s p).length = s.size - p := by
  unfold dropS; rw [List.length_drop, size_list]

theorem below_drewN {B : Nat} {w w' : World} (h : Below B w w') (n : Nat) : Below B w (w'.drewN n) := h.trans ⟨rfl, rfl, rfl, Nat.le_refl _, fun _ _ => rfl⟩
theorem shiftBit (i l : Nat) (hi : i < 256) (hl : l < 8) : (bits BinOp.and IntKind.i64 ((i : Int) / 2 ^ l) 1 == 1) = (Part.letter l).ev i := bit_test i l hi hl

theorem RR.drewN {b : Nat} {s : ByteArray} {p : Nat} {bad : Bool} {w : World} (h : RR b s p bad w) (n : Nat) : RR b s p bad (w.drewN n) := h
theorem Rw.drewN {b : Nat} {w w' : World} (h : Rw b w w') (n : Nat) : Rw b w (w'.drewN n) := ⟨h.os, h.tape, h.output, h.size, h.block⟩

theorem setRow_at (w : World) (g : Nat) (cs old : Array Value) (t : TypeId) (h : w.heap[g]? = some (.cells old t (0, 0))) : (w.setRow g cs).heap[g]? = some (.cells cs t (0, 0)) := by
  simp [World.setRow, Array.getElem?_modify, h]
theorem setRow_ne (w : World) (g k : Nat) (cs : Array Value) (h : k ≠ g) : (w.setRow g cs).heap[k]? = w.heap[k]? := by
  simp only [World.setRow, Array.getElem?_modify]
  rw [if_neg (by omega)]
theorem Rw.setRow {b : Nat} {w0 w : World} (h : Rw b w0 w) (g : Nat) (cs : Array Value) (hg : w0.heap.size ≤ g) : Rw b w0 (w.setRow g cs) :=
  ⟨h.os, h.tape, h.output, by simpa using h.size, fun k hk hn => (setRow_ne w g k cs (by omega)).trans (h.block k hk hn)⟩
theorem setCell_ne (w : World) (b o k : Nat) (u : Value) (h : k ≠ b) : (w.setCell ⟨b, o, none⟩ u).heap[k]? = w.heap[k]? := Below.heap_setCell _ _ _ _ h
theorem Rw.setOwn {b : Nat} {w0 w : World} (h : Rw b w0 w) (g o : Nat) (u : Value) (hg : w0.heap.size ≤ g) : Rw b w0 (w.setCell ⟨g, o, none⟩ u) :=
  ⟨h.os, h.tape, h.output, by rw [set_size]; exact h.size, fun k hk hn => (setCell_ne w g o k u (by omega)).trans (h.block k hk hn)⟩
theorem alloc_last (w : World) (o : Obj) : (w.alloc o).heap[w.heap.size]? = some o := by
  show (w.heap.push o)[w.heap.size]? = _
  simp
theorem heap_drewN (w : World) (n : Nat) : (w.drewN n).heap = w.heap := rfl

/-- the end of each of the reader's methods: the table goes out -/
theorem tabRet {fn : Func} {Q : Ending → World → Prop} {tmps : Array Value} {W : World} {g : Nat} {f : Nat → Bool} (h : fn.results = #[.cell 2 50]) (hp : tmps.getD 2 undef = .pointer (some ⟨g, 0, none⟩))
    (hg : W.heap[g]? = some (.cells (tabArr f) 50 (0, 0))) (hQ : Q (.returned (.agg (tabArr f))) W) : bodyPost Try.prog fn Q .ret { tmps := tmps, defers := [] } W :=
  bodyPost_ret (results_cell_row h tmps W g _ _ _ _ hp hg Try.underlying50 rfl (by rw [tabArr_size]; exact info50)) rfl hQ

set_option maxHeartbeats 4000000 in
set_option maxRecDepth 100000 in
theorem refPartLetter (n b : Nat) (s : ByteArray) (p : Nat) (w : World) (x : UInt8) (r : List UInt8) (hR : RR b s p false w) (hd : dropS s p = x :: r) (hl : isLet x = true) (hs : s.size ≤ 1000) :
    Calls Try.prog 123 #[.pointer (some ⟨b, 0, none⟩)] w (PostRP (n + 1) b s p w) := by
  obtain ⟨hp, hd1⟩ := dropS_cons hd
  have hpp : pP (n + 1) (dropS s p) = some (.letter (x.toNat - 97), r) := by rw [hd, pP_cons, if_pos hl]
  rw [isLet_iff] at hl
  obtain ⟨l, hxl⟩ : ∃ l : Nat, x.toNat = 97 + l := ⟨x.toNat - 97, by omega⟩
  have hl8 : l < 8 := by omega
  have hB2 : Below w.heap.size w (w.alloc (.cells Try.zeroCells50 50)) := (Below.refl _ _).alloc (Nat.le_refl _) _
  have hbl := hR.lt
  have HN := Lib.hid (refNext b s p false _ (hR.keep hB2))
  have hv : hdv (s.data.toList.drop p) = 97 + l := by
    have : hdv (dropS s p) = x.toNat := by rw [hd]; rfl
    rw [← hxl]; exact this
  rw [hv] at HN
  have HPP := Lib.hid hpp
  have HD1 := Lib.hid hd1
  have HR := Lib.hid hR
  have c1 := hR.c1
  have f1 := hR.f 1
  clear hpp hd1 hd hv hB2 hR
  go_enter Try.func123, Try.ntmps123
  go_wp2_with fail
  refine HN.out.mono ?_
  rintro e w' ⟨rfl, nq, rfl⟩
  go_wp2_with fail
  have hz := zeros50
  have hW : RR b s (p + 1) false ((((w.alloc (.cells Try.zeroCells50 50)).drewN nq).setCell ⟨b, 1, none⟩ (.int .i64 ((p : Int) + 1))).alloc (.cells Try.zeroCells50 50)) := by
    have h1 := ((HR.out.keep ((Below.refl _ _).alloc (Nat.le_refl _) (.cells Try.zeroCells50 50))).drewN nq).set1 (p + 1)
    have h2 := h1.keep ((Below.refl _ _).alloc (Nat.le_refl _) (.cells Try.zeroCells50 50))
    simpa using h2
  have hRw : Rw b w ((((w.alloc (.cells Try.zeroCells50 50)).drewN nq).setCell ⟨b, 1, none⟩ (.int .i64 ((p : Int) + 1))).alloc (.cells Try.zeroCells50 50)) :=
    (((Rw.of_below ((Below.refl _ _).alloc (Nat.le_refl _) _)).drewN nq).trans (Rw.setCell b 1 _ _)).trans (Rw.of_below ((Below.refl _ _).alloc (Nat.le_refl _) _))
  have hsz : ((((w.alloc (.cells Try.zeroCells50 50)).drewN nq).setCell ⟨b, 1, none⟩ (.int .i64 ((p : Int) + 1)))).heap.size = w.heap.size + 1 := by rw [set_size]; simp
  have hres : ((((w.alloc (.cells Try.zeroCells50 50)).drewN nq).setCell ⟨b, 1, none⟩ (.int .i64 ((p : Int) + 1))).alloc (.cells Try.zeroCells50 50)).heap[w.heap.size]? = some (.cells (tabArr fun _ => false) 50 (0, 0)) := by
    rw [Below.heap_alloc _ _ _ (by rw [hsz]; omega), setCell_ne _ _ _ _ _ (by omega), ← zeros50]
    exact alloc_last _ _
  have htab : TabTo (w.heap.size + 1) (Part.letter l).ev (fun _ => false) 0 ((((w.alloc (.cells Try.zeroCells50 50)).drewN nq).setCell ⟨b, 1, none⟩ (.int .i64 ((p : Int) + 1))).alloc (.cells Try.zeroCells50 50)) := by
    apply TabTo.of_full
    rw [← zeros50, ← hsz]
    exact alloc_last _ _
  clear hz
  generalize ((((w.alloc (.cells Try.zeroCells50 50)).drewN nq).setCell ⟨b, 1, none⟩ (.int .i64 ((p : Int) + 1))).alloc (.cells Try.zeroCells50 50)) = W1 at *
  have H0 := Lib.hid (And.intro hW (And.intro hRw (And.intro hres htab)))
  clear hW hRw hres htab hsz
  go_loopw [5] (fun i wr => ∃ k : Nat, k ≤ 256 ∧ i = .int .i64 k ∧ RR b s (p + 1) false wr ∧ Rw b w wr ∧ wr.heap[w.heap.size]? = some (.cells (tabArr fun _ => false) 50 (0, 0)) ∧ TabTo (w.heap.size + 1) (Part.letter l).ev (fun _ => false) k wr) (fun i _ => 256 - (intOf i).toNat)
  case atStart => exact ⟨0, by omega, rfl, H0.out.1, H0.out.2.1, H0.out.2.2.1, H0.out.2.2.2⟩
  case round =>
    obtain ⟨k, hk, rfl, hRR, hRw, hres, htab⟩ := hrel
    clear H0
    have HRR := Lib.hid hRR
    have HRw := Lib.hid hRw
    have HT := Lib.hid htab
    have HS := Lib.hid hres
    by_cases hlt : k < 256
    · have hcell := htab.cell k hlt
      have hfz := htab.frozen k
      have hbit := shiftBit k l hlt hl8
      generalize (if k < k then (Part.letter l).ev k else false) = old at hcell
      generalize hy : (Part.letter l).ev k = y at hbit
      have HY := Lib.hid hy
      clear hRR hRw hres htab hy
      go_wp2_with fail
      go_roundw
      case rel =>
        refine ⟨k + 1, by omega, by go_num, HRR.out.same (setCell_ne _ _ _ _ _ (by omega)), HRw.out.setOwn _ _ _ (by omega), ?_, ?_⟩
        · rw [setCell_ne _ _ _ _ _ (by omega)]; exact HS.out
        · rw [← HY.out]; exact HT.out.step hlt
      case measure => simp [intOf]; omega
    · obtain rfl : k = 256 := by omega
      have hfull := htab.full
      have HF := Lib.hid hfull
      clear hRR hRw hres htab hfull
      go_wp2_with (first | (refine wpList_load_row rfl 50 _ rfl (w.heap.size + 1) rfl 50 (tabArr (Part.letter l).ev) (0, 0) _ HF.out Try.underlying50 rfl (by rw [tabArr_size]; exact info50) ?_) | (refine wpList_store_row rfl 50 _ _ rfl w.heap.size (tabArr (Part.letter l).ev) rfl rfl 50 _ HS.out (by rw [tabArr_size]; exact info50) (by rw [tabArr_size, tabArr_size]) (tabArr_one _) ?_))
      refine tabRet rfl rfl (setRow_at _ _ _ _ _ HS.out) ?_
      refine ⟨_, p + 1, false, rfl, HRw.out.setRow _ _ (Nat.le_refl _), HRR.out.same (setRow_ne _ _ _ _ (by omega)), by omega, by omega, ?_⟩
      rw [HPP.out]
      exact ⟨rfl, HD1.out, by omega, by omega, fun i hi => by rw [show x.toNat - 97 = l by omega]⟩
end Go.Proofs.Ytfoeamgjjhfkdaa

namespace Go.Proofs.Ytfoeamgjjhfkdaa
open Go Go.Shelf Go.RowKit Go.Proofs L9

theorem zeros_size : Try.zeroCells50.size = 256 := by rw [zeros50]; exact tabArr_size _

set_option maxHeartbeats 4000000 in
set_option maxRecDepth 100000 in
theorem refPartParen (n b : Nat) (s : ByteArray) (p : Nat) (w : World) (r : List UInt8) (hR : RR b s p false w) (hd : dropS s p = 40 :: r) (hs : s.size ≤ 1000)
    (ihC : ∀ (w : World), RR b s (p + 1) false w → Calls Try.prog 88 #[.pointer (some ⟨b, 0, none⟩)] w (PostRC n b s (p + 1) w)) :
    Calls Try.prog 123 #[.pointer (some ⟨b, 0, none⟩)] w (PostRP (n + 1) b s p w) := by
  obtain ⟨hp, hd1⟩ := dropS_cons hd
  have hB2 : Below w.heap.size w (w.alloc (.cells Try.zeroCells50 50)) := (Below.refl _ _).alloc (Nat.le_refl _) _
  have hbl := hR.lt
  have HN := Lib.hid (refNext b s p false _ (hR.keep hB2))
  have hv : hdv (s.data.toList.drop p) = 40 := by
    have : hdv (dropS s p) = 40 := by rw [hd]; rfl
    exact this
  rw [hv] at HN
  have HD1 := Lib.hid hd1
  have HD := Lib.hid hd
  have HR := Lib.hid hR
  have HIC := Lib.hid ihC
  have c1 := hR.c1
  have f1 := hR.f 1
  clear hd1 hd hv hB2 hR ihC
  go_enter Try.func123, Try.ntmps123
  go_wp2_with fail
  refine HN.out.mono ?_
  rintro e w' ⟨rfl, nq, rfl⟩
  go_wp2_with fail
  have hW : RR b s (p + 1) false (((w.alloc (.cells Try.zeroCells50 50)).drewN nq).setCell ⟨b, 1, none⟩ (.int .i64 ((p : Int) + 1))) := by
    have h1 := ((HR.out.keep ((Below.refl _ _).alloc (Nat.le_refl _) (.cells Try.zeroCells50 50))).drewN nq).set1 (p + 1)
    simpa using h1
  have hRw : Rw b w (((w.alloc (.cells Try.zeroCells50 50)).drewN nq).setCell ⟨b, 1, none⟩ (.int .i64 ((p : Int) + 1))) :=
    (((Rw.of_below ((Below.refl _ _).alloc (Nat.le_refl _) _)).drewN nq).trans (Rw.setCell b 1 _ _))
  have hsz : ((((w.alloc (.cells Try.zeroCells50 50)).drewN nq).setCell ⟨b, 1, none⟩ (.int .i64 ((p : Int) + 1)))).heap.size = w.heap.size + 1 := by rw [set_size]; simp
  have hres : (((w.alloc (.cells Try.zeroCells50 50)).drewN nq).setCell ⟨b, 1, none⟩ (.int .i64 ((p : Int) + 1))).heap[w.heap.size]? = some (.cells (tabArr fun _ => false) 50 (0, 0)) := by
    rw [setCell_ne _ _ _ _ _ (by omega), ← zeros50]
    exact alloc_last _ _
  generalize ((w.alloc (.cells Try.zeroCells50 50)).drewN nq).setCell ⟨b, 1, none⟩ (.int .i64 ((p : Int) + 1)) = W1 at *
  have HW := Lib.hid hW
  have HC := Lib.hid (HIC.out _ hW)
  have HRw := Lib.hid hRw
  have HS := Lib.hid hres
  clear hW hRw hres c1 f1
  refine HC.out.mono ?_
  rintro e w2 ⟨t, p1, bad1, rfl, hRw2, hRR2, hle1, hle2, hpost⟩
  have hsz2 := hRw2.size
  have HRw2 := Lib.hid (HRw.out.trans hRw2)
  have HRR2 := Lib.hid hRR2
  have HS2 : Hid (w2.heap[w.heap.size]? = some (.cells (tabArr fun _ => false) 50 (0, 0))) := by
    show _ = _
    rw [hRw2.block _ (by omega) (by simp; omega)]; exact HS.out
  have HP := Lib.hid hpost
  clear hRw2 hRR2 hpost HC HW
  go_wp2_with (refine wpList_store_row rfl 50 _ _ rfl w2.heap.size (tabArr t) rfl rfl 50 _ (alloc_last _ _) (by rw [tabArr_size]; exact info50) (by rw [zeros_size, tabArr_size]) (tabArr_one _) ?_)
  have hal : Below w2.heap.size w2 (w2.alloc (.cells Try.zeroCells50 50)) := (Below.refl _ _).alloc (Nat.le_refl _) _
  have hRR3 : RR b s p1 bad1 ((w2.alloc (.cells Try.zeroCells50 50)).setRow w2.heap.size (tabArr t)) := (HRR2.out.keep hal).same (setRow_ne _ _ _ _ (by have := HRR2.out.lt; omega))
  have hRw3 : Rw b w ((w2.alloc (.cells Try.zeroCells50 50)).setRow w2.heap.size (tabArr t)) := (HRw2.out.trans (Rw.of_below hal)).setRow _ _ HRw2.out.size
  have hS3 : ((w2.alloc (.cells Try.zeroCells50 50)).setRow w2.heap.size (tabArr t)).heap[w.heap.size]? = some (.cells (tabArr fun _ => false) 50 (0, 0)) := by
    rw [setRow_ne _ _ _ _ (by omega), hal.block _ (by omega)]; exact HS2.out
  have hO3 : ((w2.alloc (.cells Try.zeroCells50 50)).setRow w2.heap.size (tabArr t)).heap[w2.heap.size]? = some (.cells (tabArr t) 50 (0, 0)) := setRow_at _ _ _ _ _ (alloc_last _ _)
  generalize ((w2.alloc (.cells Try.zeroCells50 50)).setRow w2.heap.size (tabArr t)) = W3 at *
  have hGw : w.heap.size + 1 ≤ w2.heap.size := by omega
  clear hal HS2 HRR2 HRw2 hsz hsz2
  generalize w2.heap.size = G at *
  have HN3 := Lib.hid (refNext b s p1 bad1 _ hRR3)
  have HRR3 := Lib.hid hRR3
  have HRw3 := Lib.hid hRw3
  have HS3 := Lib.hid hS3
  have HO3 := Lib.hid hO3
  have c1 := hRR3.c1
  have f1 := hRR3.f 1
  have c2 := hRR3.c2
  have f2 := hRR3.f 2
  clear hRR3 hRw3 hS3 hO3
  have hpp := pP_paren n r
  by_cases h41 : hdv (s.data.toList.drop p1) = 41
  · rw [h41] at HN3
    obtain ⟨r'', hr''⟩ : ∃ r'', dropS s p1 = 41 :: r'' := by
      cases h : dropS s p1 with
      | nil => unfold dropS at h; rw [h] at h41; cases h41
      | cons y r'' =>
        unfold dropS at h
        rw [h] at h41
        exact ⟨r'', by rw [(u8_nat y 41 (by omega)).2 h41]; rfl⟩
    obtain ⟨hp1, hr1⟩ := dropS_cons hr''
    have hfin : ∀ (W : World), Rw b w W → RR b s (p1 + 1) bad1 W → PostRP (n + 1) b s p w (.returned (.agg (tabArr t))) W := by
      intro W h1 h2
      refine ⟨t, p1 + 1, bad1, rfl, h1, h2, by omega, by omega, ?_⟩
      rw [HD.out, hpp]
      have hP := HP.out
      rw [HD1.out] at hP
      cases hc : pC n r with
      | none => rw [hc] at hP; exact hP
      | some y =>
        obtain ⟨c, r'⟩ := y
        rw [hc] at hP
        obtain ⟨h3, h4, h5, h6, h7⟩ := hP
        rw [hr''] at h4
        subst h4
        simp only [if_pos]
        exact ⟨h3, hr1, by omega, by omega, h7⟩
    have HFIN := Lib.hid hfin
    clear hfin hpp HP h41
    go_wp2_with fail
    refine HN3.out.mono ?_
    rintro e w' ⟨rfl, nq3, rfl⟩
    go_wp2_with (first | (refine wpList_load_row rfl 50 _ rfl G rfl 50 (tabArr t) (0, 0) _ (by rw [setCell_ne _ b _ G _ (by omega)]; exact HO3.out) Try.underlying50 rfl (by rw [tabArr_size]; exact info50) ?_) | (refine wpList_store_row rfl 50 _ _ rfl w.heap.size (tabArr t) rfl rfl 50 _ (by rw [setCell_ne _ b _ w.heap.size _ (by omega)]; exact HS3.out) (by rw [tabArr_size]; exact info50) (by rw [tabArr_size, tabArr_size]) (tabArr_one _) ?_))
    refine tabRet rfl rfl (setRow_at _ _ _ _ _ ((setCell_ne _ b _ w.heap.size _ (by omega)).trans HS3.out)) ?_
    refine HFIN.out _ (((HRw3.out.drewN _).trans (Rw.setCell b 1 _ _)).setRow _ _ (Nat.le_refl _)) ?_
    exact (((HRR3.out.drewN _).set1 (p1 + 1)).same (setRow_ne _ _ _ _ (by omega)))
  · have hfin : ∀ (W : World), Rw b w W → RR b s (p1 + 1) true W → PostRP (n + 1) b s p w (.returned (.agg (tabArr t))) W := by
      intro W h1 h2
      refine ⟨t, p1 + 1, true, rfl, h1, h2, by omega, by omega, ?_⟩
      rw [HD.out, hpp]
      have hP := HP.out
      rw [HD1.out] at hP
      cases hc : pC n r with
      | none => rfl
      | some y =>
        obtain ⟨c, r'⟩ := y
        rw [hc] at hP
        obtain ⟨h3, h4, h5, h6, h7⟩ := hP
        have h41' : ¬ ∃ r'', r' = 41 :: r'' := by
          rintro ⟨r'', rfl⟩
          apply h41
          have : hdv (dropS s p1) = 41 := by rw [h4]; rfl
          exact this
        cases r' with
        | nil => rfl
        | cons y r'' =>
          have hy : y ≠ 41 := fun h => h41' ⟨r'', by rw [h]⟩
          simp only [if_neg hy]
    have HFIN := Lib.hid hfin
    have hne : ¬ (hdv (s.data.toList.drop p1) : Int) = 41 := by omega
    clear hfin hpp HP h41
    go_wp2_with fail
    refine HN3.out.mono ?_
    rintro e w' ⟨rfl, nq3, rfl⟩
    go_wp2_with (first | (refine wpList_load_row rfl 50 _ rfl G rfl 50 (tabArr t) (0, 0) _ (by rw [setCell_ne _ b _ G _ (by omega), setCell_ne _ b _ G _ (by omega)]; exact HO3.out) Try.underlying50 rfl (by rw [tabArr_size]; exact info50) ?_) | (refine wpList_store_row rfl 50 _ _ rfl w.heap.size (tabArr t) rfl rfl 50 _ (by rw [setCell_ne _ b _ w.heap.size _ (by omega), setCell_ne _ b _ w.heap.size _ (by omega)]; exact HS3.out) (by rw [tabArr_size]; exact info50) (by rw [tabArr_size, tabArr_size]) (tabArr_one _) ?_))
    refine tabRet rfl rfl (setRow_at _ _ _ _ _ ((setCell_ne _ b _ w.heap.size _ (by omega)).trans ((setCell_ne _ b _ w.heap.size _ (by omega)).trans HS3.out))) ?_
    refine HFIN.out _ ((((HRw3.out.drewN _).trans (Rw.setCell b 2 _ _)).trans (Rw.setCell b 1 _ _)).setRow _ _ (Nat.le_refl _)) ?_
    exact ((((HRR3.out.drewN _).set2 true).set1 (p1 + 1)).same (setRow_ne _ _ b _ (by omega)))
end Go.Proofs.Ytfoeamgjjhfkdaa
