/- The reader of a circuit: its block, next. -/
import Derived.Test.YtfoeamgjjhfkdaaTi
import Derived.Test.YtfoeamgjjhfkdaaMc
import Derived.Test.YtfoeamgjjhfkdaaAp
namespace Go.Proofs.Ytfoeamgjjhfkdaa
open Go.Shelf Go.RowKit Go.Proofs L9

/-- the reader's block: what is left, and bad -/
def RB (b : Nat) (s : List UInt8) (bad : Bool) (w : World) : Prop := w.heap[b]? = some (.cells #[.string ⟨s.toArray⟩, .bool bad] 88 (0, 0))
/-- nothing that was there has turned but the reader's block -/
def Rw (b : Nat) (w w' : World) : Prop := w.grownBy w' (some b)
theorem Rw.refl (b : Nat) (w : World) : Rw b w w := ⟨rfl, rfl, rfl, Nat.le_refl _, fun _ _ _ => rfl⟩
theorem Rw.trans {b : Nat} {w w' w'' : World} (h : Rw b w w') (k : Rw b w' w'') : Rw b w w'' :=
  ⟨k.os.trans h.os, k.tape.trans h.tape, k.output.trans h.output, Nat.le_trans h.size k.size, fun i hi hn => (k.block i (Nat.lt_of_lt_of_le hi h.size) hn).trans (h.block i hi hn)⟩
theorem Rw.of_below {b : Nat} {w w' : World} (h : Below w.heap.size w w') : Rw b w w' := ⟨h.os, h.tape, h.output, h.size, fun k hk _ => h.block k hk⟩
theorem Rw.setCell (b o : Nat) (w : World) (u : Value) : Rw b w (w.setCell ⟨b, o, none⟩ u) :=
  ⟨rfl, rfl, rfl, by simp [World.setCell], fun k _ hn => Below.heap_setCell _ _ _ _ (fun e => hn (by rw [e]))⟩
theorem Rw.keptIn {b lo hi : Nat} {w w' : World} (h : Rw b w w') (hb : b < lo) (hh : hi ≤ w.heap.size) : KeptIn lo hi w w' :=
  ⟨h.size, fun k h1 h2 => h.block k (by omega) (by simp; omega)⟩
theorem RB.lt {b : Nat} {s : List UInt8} {bad : Bool} {w : World} (h : RB b s bad w) : b < w.heap.size := by
  unfold RB at h
  rcases Nat.lt_or_ge b w.heap.size with h' | h'
  · exact h'
  · simp [Array.getElem?_eq_none h'] at h
theorem RB.c0 {b : Nat} {s : List UInt8} {bad : Bool} {w : World} (h : RB b s bad w) : w.cell? ⟨b, 0, none⟩ = some (.string ⟨s.toArray⟩) := by rw [Lib.cell_of_heap h]; rfl
theorem RB.c1 {b : Nat} {s : List UInt8} {bad : Bool} {w : World} (h : RB b s bad w) : w.cell? ⟨b, 1, none⟩ = some (.bool bad) := by rw [Lib.cell_of_heap h]; rfl
theorem RB.f {b : Nat} {s : List UInt8} {bad : Bool} {w : World} (h : RB b s bad w) (j : Nat) : w.frozen? ⟨b, j, none⟩ = false := Lib.frozen_of_heap h j
theorem RB.set0 {b : Nat} {s : List UInt8} {bad : Bool} {w : World} (h : RB b s bad w) (s' : List UInt8) : RB b s' bad (w.setCell ⟨b, 0, none⟩ (.string ⟨s'.toArray⟩)) := by
  unfold RB at *
  simp [World.setCell, Array.getElem?_modify, h]
theorem RB.set1 {b : Nat} {s : List UInt8} {bad : Bool} {w : World} (h : RB b s bad w) (x : Bool) : RB b s x (w.setCell ⟨b, 1, none⟩ (.bool x)) := by
  unfold RB at *
  simp [World.setCell, Array.getElem?_modify, h]
theorem RB.keep {b : Nat} {s : List UInt8} {bad : Bool} {w w' : World} (h : RB b s bad w) (hb : Below w.heap.size w w') : RB b s bad w' := by
  unfold RB at *
  rw [hb.block b (RB.lt h)]; exact h

def hdv : List UInt8 → Nat
  | [] => 0
  | x :: _ => x.toNat

theorem next_any (b : Nat) (s : List UInt8) (bad : Bool) (w : World) (h : RB b s bad w) :
    Calls Try.prog 112 #[.pointer (some ⟨b, 0, none⟩)] w fun e w' => e = .returned (.int .u8 (hdv s)) ∧ w' = w := by
  have hc := h.c0
  cases s with
  | nil =>
    go_enter Try.func112, Try.ntmps112
    go_wp2
    go_ret
    exact ⟨rfl, rfl⟩
  | cons x s =>
    have h1 : (ByteArray.mk (x :: s).toArray).toList.isEmpty = false := by simp [ByteArray.toList_eq]
    have h2 : 0 < (ByteArray.mk (x :: s).toArray).size := by rw [bsize]; simp
    go_enter Try.func112, Try.ntmps112
    go_wp2
    go_ret
    exact ⟨rfl, rfl⟩

theorem idxLet (x : UInt8) : Lib.indexByte [97, 98, 99, 100, 101, 102, 103, 104] x = if isLet x then (x.toNat : Int) - 97 else -1 := by
  have h : ∀ n, n < 256 → Lib.indexByte [97, 98, 99, 100, 101, 102, 103, 104] (UInt8.ofNat n) = if isLet (UInt8.ofNat n) then ((UInt8.ofNat n).toNat : Int) - 97 else -1 := by decide +kernel
  have := h x.toNat x.toNat_lt
  simpa using this

theorem tail_slice (x : UInt8) (s : List UInt8) : (ByteArray.mk (x :: s).toArray).extract 1 (s.length + 1) = ⟨s.toArray⟩ := by
  apply ByteArray.ext
  rw [ByteArray.data_extract]
  simp

/-- what part leaves -/
def PostP (n b : Nat) (s : List UInt8) (w : World) (e : Ending) (w' : World) : Prop :=
  ∃ v s' bad', e = .returned v ∧ (∃ T x, v = .iface T x) ∧ Rw b w w' ∧ RB b s' bad' w' ∧ s'.length ≤ s.length ∧
    (match pP n s with
      | some (p, r) => bad' = false ∧ s' = r ∧ r.length < s.length ∧ IsP w.heap.size w'.heap.size w' v p
      | none => bad' = true)
def stopC : List UInt8 → Bool
  | [] => true
  | x :: _ => x == 0 || x == 41
def goodC (n : Nat) (s : List UInt8) : Prop := ∃ c r, pC n s = some (c, r) ∧ stopC r = true
/-- what circuit leaves -/
def PostC (n b : Nat) (s : List UInt8) (w : World) (e : Ending) (w' : World) : Prop :=
  ∃ v s' bad', e = .returned v ∧ (∃ a n c, v = .slice a n c) ∧ Rw b w w' ∧ RB b s' bad' w' ∧ s'.length ≤ s.length ∧
    ((bad' = false ∧ ∃ c r, pC n s = some (c, r) ∧ stopC r = true ∧ s' = r ∧ IsC w.heap.size w'.heap.size w' v c) ∨ (bad' = true ∧ ¬ goodC n s))

theorem post_of_let {n b : Nat} {x : UInt8} {r : List UInt8} {w : World} (hb : RB b (x :: r) false w) (hl : isLet x = true) :
    PostP (n + 1) b (x :: r) w (.returned (.iface 122 (.int .i64 ((x.toNat : Int) - 97)))) (w.setCell ⟨b, 0, none⟩ (.string ⟨r.toArray⟩)) := by
  refine ⟨_, r, false, rfl, ⟨_, _, rfl⟩, Rw.setCell _ _ _ _, hb.set0 r, by simp, ?_⟩
  rw [pP_cons, if_pos hl]
  rw [isLet_iff] at hl
  refine ⟨rfl, rfl, by simp, by simp [World.setCell], Or.inl ⟨x.toNat - 97, by omega, ?_, rfl⟩⟩
  rw [show ((x.toNat : Int) - 97) = ((x.toNat - 97 : Nat) : Int) by omega]

theorem pP_bad (n : Nat) (s : List UInt8) (h : starts s = false) : pP n s = none := by
  cases n with
  | zero => simp [pP]
  | succ n =>
    cases s with
    | nil => exact pP_nil n
    | cons x r =>
      simp only [starts, Bool.or_eq_false_iff, beq_eq_false_iff_ne] at h
      rw [pP_cons, if_neg (by rw [h.2]; simp), if_neg h.1]

set_option maxHeartbeats 2000000 in
set_option maxRecDepth 100000 in
/-- part, at what is no part's beginning -/
theorem part_bad (n b : Nat) (s : List UInt8) (w : World) (hb : RB b s false w) (hs : starts s = false) :
    Calls Try.prog 111 #[.pointer (some ⟨b, 0, none⟩)] w (PostP n b s w) := by
  have hfin : PostP n b s w (.returned (.iface 122 (.int .i64 0))) (w.setCell ⟨b, 1, none⟩ (.bool true)) := by
    refine ⟨_, s, true, rfl, ⟨_, _, rfl⟩, Rw.setCell _ _ _ _, hb.set1 true, by simp, ?_⟩
    rw [pP_bad n s hs]
  have hidx : Lib.indexByte [97, 98, 99, 100, 101, 102, 103, 104] (hdv s).toUInt8 = -1 := by
    rw [idxLet]
    cases s with
    | nil => rfl
    | cons x r =>
      simp only [starts, Bool.or_eq_false_iff] at hs
      rw [show (hdv (x :: r)).toUInt8 = x by simp [hdv], hs.2]
      rfl
  have h40 : (((hdv s : Nat) : Int) != 40) = true := by
    cases s with
    | nil => rfl
    | cons x r =>
      simp only [starts, Bool.or_eq_false_iff, beq_eq_false_iff_ne] at hs
      have : x.toNat ≠ 40 := fun e => hs.1 ((u8_nat x 40 (by omega)).2 e)
      simp [hdv]; omega
  have hc0 := hb.c0
  have hc1 := hb.c1
  have hf0 := hb.f 0
  have hf1 := hb.f 1
  have HN := Lib.hid (next_any b s false w hb)
  have HFIN := Lib.hid hfin
  have HIDX := Lib.hid hidx
  clear hfin hidx hs hb
  generalize hdv s = h at *
  go_enter Try.func111, Try.ntmps111
  go_wp2_with fail
  refine HN.out.mono ?_
  rintro e w' ⟨rfl, rfl⟩
  go_wp2_with fail
  refine (Try.strings_IndexByte _ _ _).mono ?_
  rintro e w' ⟨rfl, rfl⟩
  rw [show (ByteArray.mk #[97, 98, 99, 100, 101, 102, 103, 104]).data.toList = [97, 98, 99, 100, 101, 102, 103, 104] from rfl, Int.toNat_natCast, HIDX.out]
  go_wp2_with fail
  go_ret
  exact HFIN.out
end Go.Proofs.Ytfoeamgjjhfkdaa
