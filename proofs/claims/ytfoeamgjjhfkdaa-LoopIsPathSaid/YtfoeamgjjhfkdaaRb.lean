/- The reference's part. -/
import Derived.Test.YtfoeamgjjhfkdaaRa
namespace Go.Proofs.Ytfoeamgjjhfkdaa
open Go Go.Shelf Go.RowKit Go.Proofs L9

def dropS (s : ByteArray) (p : Nat) : List UInt8 := s.data.toList.drop p
/-- what the reference's part leaves -/
def PostRP (n b : Nat) (s : ByteArray) (p : Nat) (w : World) (e : Ending) (w' : World) : Prop :=
  ∃ t p' bad', e = .returned (.agg (tabArr t)) ∧ Rw b w w' ∧ RR b s p' bad' w' ∧ p ≤ p' ∧ p' + p ≤ 2 * s.size ∧
    (match pP n (dropS s p) with
      | some (x, r) => bad' = false ∧ dropS s p' = r ∧ p < p' ∧ p' ≤ s.size ∧ ∀ i, i < 256 → t i = x.ev i
      | none => bad' = true)
def PostRC (n b : Nat) (s : ByteArray) (p : Nat) (w : World) (e : Ending) (w' : World) : Prop :=
  ∃ t p' bad', e = .returned (.agg (tabArr t)) ∧ Rw b w w' ∧ RR b s p' bad' w' ∧ p ≤ p' ∧ p' + p ≤ 2 * s.size ∧
    (match pC n (dropS s p) with
      | some (x, r) => bad' = false ∧ dropS s p' = r ∧ p < p' ∧ p' ≤ s.size ∧ ∀ i, i < 256 → t i = evC x i
      | none => bad' = true)
def PostRB (n b : Nat) (s : ByteArray) (p : Nat) (bad : Bool) (w : World) (e : Ending) (w' : World) : Prop :=
  ∃ t p' bad', e = .returned (.agg (tabArr t)) ∧ Rw b w w' ∧ RR b s p' bad' w' ∧ p ≤ p' ∧ p' + p ≤ 2 * s.size ∧
    ((bad = true ∧ bad' = true ∧ p' = p) ∨ (bad = false ∧ (match pB n (dropS s p) with
      | some (x, r) => bad' = false ∧ dropS s p' = r ∧ p < p' ∧ p' ≤ s.size ∧ ∀ i, i < 256 → t i = evB x i
      | none => bad' = true)))

theorem dropS_cons {s : ByteArray} {p : Nat} {x : UInt8} {r : List UInt8} (h : dropS s p = x :: r) : p < s.size ∧ dropS s (p + 1) = r := by
  unfold dropS at *
  have hl := size_list s
  have : p < s.size := by
    rcases Nat.lt_or_ge p s.size with h' | h'
    · exact h'
    · rw [List.drop_of_length_le (by omega)] at h; cases h
  refine ⟨this, ?_⟩
  rw [List.drop_eq_getElem_cons (by omega)] at h
  injection h
theorem dropS_len (s : ByteArray) (p : Nat) : (dropS s p).length = s.size - p := by
  unfold dropS; rw [List.length_drop, size_list]

theorem below_drewN {B : Nat} {w w' : World} (h : Below B w w') (n : Nat) : Below B w (w'.drewN n) := h.trans ⟨rfl, rfl, rfl, Nat.le_refl _, fun _ _ => rfl⟩
theorem shiftBit (i l : Nat) (hi : i < 256) (hl : l < 8) : (bits BinOp.and IntKind.i64 ((i : Int) / 2 ^ l) 1 == 1) = (Part.letter l).ev i := bit_test i l hi hl

theorem RR.drewN {b : Nat} {s : ByteArray} {p : Nat} {bad : Bool} {w : World} (h : RR b s p bad w) (n : Nat) : RR b s p bad (w.drewN n) := h
theorem Rw.drewN {b : Nat} {w w' : World} (h : Rw b w w') (n : Nat) : Rw b w (w'.drewN n) := ⟨h.os, h.tape, h.output, h.size, h.block⟩

theorem setRow_at (w : World) (g : Nat) (cs old : Array Value) (t : TypeId) (h : w.heap[g]? = some (.cells old t (0, 0))) : (w.setRow g cs).heap[g]? = some (.cells cs t (0, 0)) := by
  simp [World.setRow, Array.getElem?_modify, h]
theorem setRow_ne (w : World) (g k : Nat) (cs : Array Value) (h : k ≠ g) : (w.setRow g cs).heap[k]? = w.heap[k]? := by
  simp only [World.setRow, Array.getElem?_modify]
  rw [if_neg (by omega)]
theorem Rw.setRow {b : Nat} {w0 w : World} (h : Rw b w0 w) (g : Nat) (cs : Array Value) (hg : w0.heap.size ≤ g) : Rw b w0 (w.setRow g cs) :=
  ⟨h.os, h.tape, h.output, by simpa using h.size, fun k hk hn => (setRow_ne w g k cs (by omega)).trans (h.block k hk hn)⟩
theorem setCell_ne (w : World) (b o k : Nat) (u : Value) (h : k ≠ b) : (w.setCell ⟨b, o, none⟩ u).heap[k]? = w.heap[k]? := Below.heap_setCell _ _ _ _ h
theorem Rw.setOwn {b : Nat} {w0 w : World} (h : Rw b w0 w) (g o : Nat) (u : Value) (hg : w0.heap.size ≤ g) : Rw b w0 (w.setCell ⟨g, o, none⟩ u) :=
  ⟨h.os, h.tape, h.output, by rw [set_size]; exact h.size, fun k hk hn => (setCell_ne w g o k u (by omega)).trans (h.block k hk hn)⟩
theorem alloc_last (w : World) (o : Obj) : (w.alloc o).heap[w.heap.size]? = some o := by
  show (w.heap.push o)[w.heap.size]? = _
  simp
theorem heap_drewN (w : World) (n : Nat) : (w.drewN n).heap = w.heap := rfl

/-- the end of each of the reader's methods: the table goes out -/
theorem tabRet {fn : Func} {Q : Ending → World → Prop} {tmps : Array Value} {W : World} {g : Nat} {f : Nat → Bool} (h : fn.results = #[.cell 2 50]) (hp : tmps.getD 2 undef = .pointer (some ⟨g, 0, none⟩))
    (hg : W.heap[g]? = some (.cells (tabArr f) 50 (0, 0))) (hQ : Q (.returned (.agg (tabArr f))) W) : bodyPost Try.prog fn Q .ret { tmps := tmps, defers := [] } W :=
  bodyPost_ret (results_cell_row h tmps W g _ _ _ _ hp hg Try.underlying50 rfl (by rw [tabArr_size]; exact info50)) rfl hQ

set_option maxHeartbeats 4000000 in
set_option maxRecDepth 100000 in
theorem refPartLetter (n b : Nat) (s : ByteArray) (p : Nat) (w : World) (x : UInt8) (r : List UInt8) (hR : RR b s p false w) (hd : dropS s p = x :: r) (hl : isLet x = true) (hs : s.size ≤ 1000) :
    Calls Try.prog 123 #[.pointer (some ⟨b, 0, none⟩)] w (PostRP (n + 1) b s p w) := by
  obtain ⟨hp, hd1⟩ := dropS_cons hd
  have hpp : pP (n + 1) (dropS s p) = some (.letter (x.toNat - 97), r) := by rw [hd, pP_cons, if_pos hl]
  rw [isLet_iff] at hl
  obtain ⟨l, hxl⟩ : ∃ l : Nat, x.toNat = 97 + l := ⟨x.toNat - 97, by omega⟩
  have hl8 : l < 8 := by omega
  have hB2 : Below w.heap.size w (w.alloc (.cells Try.zeroCells50 50)) := (Below.refl _ _).alloc (Nat.le_refl _) _
  have hbl := hR.lt
  have HN := Lib.hid (refNext b s p false _ (hR.keep hB2))
  have hv : hdv (s.data.toList.drop p) = 97 + l := by
    have : hdv (dropS s p) = x.toNat := by rw [hd]; rfl
    rw [← hxl]; exact this
  rw [hv] at HN
  have HPP := Lib.hid hpp
  have HD1 := Lib.hid hd1
  have HR := Lib.hid hR
  have c1 := hR.c1
  have f1 := hR.f 1
  clear hpp hd1 hd hv hB2 hR
  go_enter Try.func123, Try.ntmps123
  go_wp2_with fail
  refine HN.out.mono ?_
  rintro e w' ⟨rfl, nq, rfl⟩
  go_wp2_with fail
  have hz := zeros50
  have hW : RR b s (p + 1) false ((((w.alloc (.cells Try.zeroCells50 50)).drewN nq).setCell ⟨b, 1, none⟩ (.int .i64 ((p : Int) + 1))).alloc (.cells Try.zeroCells50 50)) := by
    have h1 := ((HR.out.keep ((Below.refl _ _).alloc (Nat.le_refl _) (.cells Try.zeroCells50 50))).drewN nq).set1 (p + 1)
    have h2 := h1.keep ((Below.refl _ _).alloc (Nat.le_refl _) (.cells Try.zeroCells50 50))
    simpa using h2
  have hRw : Rw b w ((((w.alloc (.cells Try.zeroCells50 50)).drewN nq).setCell ⟨b, 1, none⟩ (.int .i64 ((p : Int) + 1))).alloc (.cells Try.zeroCells50 50)) :=
    (((Rw.of_below ((Below.refl _ _).alloc (Nat.le_refl _) _)).drewN nq).trans (Rw.setCell b 1 _ _)).trans (Rw.of_below ((Below.refl _ _).alloc (Nat.le_refl _) _))
  have hsz : ((((w.alloc (.cells Try.zeroCells50 50)).drewN nq).setCell ⟨b, 1, none⟩ (.int .i64 ((p : Int) + 1)))).heap.size = w.heap.size + 1 := by rw [set_size]; simp
  have hres : ((((w.alloc (.cells Try.zeroCells50 50)).drewN nq).setCell ⟨b, 1, none⟩ (.int .i64 ((p : Int) + 1))).alloc (.cells Try.zeroCells50 50)).heap[w.heap.size]? = some (.cells (tabArr fun _ => false) 50 (0, 0)) := by
    rw [Below.heap_alloc _ _ _ (by rw [hsz]; omega), setCell_ne _ _ _ _ _ (by omega), ← zeros50]
    exact alloc_last _ _
  have htab : TabTo (w.heap.size + 1) (Part.letter l).ev (fun _ => false) 0 ((((w.alloc (.cells Try.zeroCells50 50)).drewN nq).setCell ⟨b, 1, none⟩ (.int .i64 ((p : Int) + 1))).alloc (.cells Try.zeroCells50 50)) := by
    apply TabTo.of_full
    rw [← zeros50, ← hsz]
    exact alloc_last _ _
  clear hz
  generalize ((((w.alloc (.cells Try.zeroCells50 50)).drewN nq).setCell ⟨b, 1, none⟩ (.int .i64 ((p : Int) + 1))).alloc (.cells Try.zeroCells50 50)) = W1 at *
  have H0 := Lib.hid (And.intro hW (And.intro hRw (And.intro hres htab)))
  clear hW hRw hres htab hsz
  go_loopw [5] (fun i wr => ∃ k : Nat, k ≤ 256 ∧ i = .int .i64 k ∧ RR b s (p + 1) false wr ∧ Rw b w wr ∧ wr.heap[w.heap.size]? = some (.cells (tabArr fun _ => false) 50 (0, 0)) ∧ TabTo (w.heap.size + 1) (Part.letter l).ev (fun _ => false) k wr) (fun i _ => 256 - (intOf i).toNat)
  case atStart => exact ⟨0, by omega, rfl, H0.out.1, H0.out.2.1, H0.out.2.2.1, H0.out.2.2.2⟩
  case round =>
    obtain ⟨k, hk, rfl, hRR, hRw, hres, htab⟩ := hrel
    clear H0
    have HRR := Lib.hid hRR
    have HRw := Lib.hid hRw
    have HT := Lib.hid htab
    have HS := Lib.hid hres
    by_cases hlt : k < 256
    · have hcell := htab.cell k hlt
      have hfz := htab.frozen k
      have hbit := shiftBit k l hlt hl8
      generalize (if k < k then (Part.letter l).ev k else false) = old at hcell
      generalize hy : (Part.letter l).ev k = y at hbit
      have HY := Lib.hid hy
      clear hRR hRw hres htab hy
      go_wp2_with fail
      go_roundw
      case rel =>
        refine ⟨k + 1, by omega, by go_num, HRR.out.same (setCell_ne _ _ _ _ _ (by omega)), HRw.out.setOwn _ _ _ (by omega), ?_, ?_⟩
        · rw [setCell_ne _ _ _ _ _ (by omega)]; exact HS.out
        · rw [← HY.out]; exact HT.out.step hlt
      case measure => simp [intOf]; omega
    · obtain rfl : k = 256 := by omega
      have hfull := htab.full
      have HF := Lib.hid hfull
      clear hRR hRw hres htab hfull
      go_wp2_with (first | (refine wpList_load_row rfl 50 _ rfl (w.heap.size + 1) rfl 50 (tabArr (Part.letter l).ev) (0, 0) _ HF.out Try.underlying50 rfl (by rw [tabArr_size]; exact info50) ?_) | (refine wpList_store_row rfl 50 _ _ rfl w.heap.size (tabArr (Part.letter l).ev) rfl rfl 50 _ HS.out (by rw [tabArr_size]; exact info50) (by rw [tabArr_size, tabArr_size]) (tabArr_one _) ?_))
      refine tabRet rfl rfl (setRow_at _ _ _ _ _ HS.out) ?_
      refine ⟨_, p + 1, false, rfl, HRw.out.setRow _ _ (Nat.le_refl _), HRR.out.same (setRow_ne _ _ _ _ (by omega)), by omega, by omega, ?_⟩
      rw [HPP.out]
      exact ⟨rfl, HD1.out, by omega, by omega, fun i hi => by rw [show x.toNat - 97 = l by omega]⟩
end Go.Proofs.Ytfoeamgjjhfkdaa
