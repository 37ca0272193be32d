/- The reader of a circuit: its block, next. part, over a circuit's contract. circuit: the reader's two loops. -/
import Derived.Test.YtfoeamgjjhfkdaaTi
import Derived.Test.YtfoeamgjjhfkdaaMc
import Derived.Test.YtfoeamgjjhfkdaaAp
namespace Go.Proofs.Ytfoeamgjjhfkdaa
open Go.Shelf Go.RowKit Go.Proofs L9

/-- the reader's block: what is left, and bad -/
def RB (b : Nat) (s : List UInt8) (bad : Bool) (w : World) : Prop := w.heap[b]? = some (.cells #[.string ⟨s.toArray⟩, .bool bad] 88 (0, 0))
/-- nothing that was there has turned but the reader's block -/
def Rw (b : Nat) (w w' : World) : Prop := w.grownBy w' (some b)
theorem Rw.refl (b : Nat) (w : World) : Rw b w w := ⟨rfl, rfl, rfl, Nat.le_refl _, fun _ _ _ => rfl⟩
theorem Rw.trans {b : Nat} {w w' w'' : World} (h : Rw b w w') (k : Rw b w' w'') : Rw b w w'' :=
  ⟨k.os.trans h.os, k.tape.trans h.tape, k.output.trans h.output, Nat.le_trans h.size k.size, fun i hi hn => (k.block i (Nat.lt_of_lt_of_le hi h.size) hn).trans (h.block i hi hn)⟩
theorem Rw.of_below {b : Nat} {w w' : World} (h : Below w.heap.size w w') : Rw b w w' := ⟨h.os, h.tape, h.output, h.size, fun k hk _ => h.block k hk⟩
theorem Rw.setCell (b o : Nat) (w : World) (u : Value) : Rw b w (w.setCell ⟨b, o, none⟩ u) :=
  ⟨rfl, rfl, rfl, by simp [World.setCell], fun k _ hn => Below.heap_setCell _ _ _ _ (fun e => hn (by rw [e]))⟩
theorem Rw.keptIn {b lo hi : Nat} {w w' : World} (h : Rw b w w') (hb : b < lo) (hh : hi ≤ w.heap.size) : KeptIn lo hi w w' :=
  ⟨h.size, fun k h1 h2 => h.block k (by omega) (by simp; omega)⟩
theorem RB.lt {b : Nat} {s : List UInt8} {bad : Bool} {w : World} (h : RB b s bad w) : b < w.heap.size := by
  unfold RB at h
  rcases Nat.lt_or_ge b w.heap.size with h' | h'
  · exact h'
  · simp [Array.getElem?_eq_none h'] at h
theorem RB.c0 {b : Nat} {s : List UInt8} {bad : Bool} {w : World} (h : RB b s bad w) : w.cell? ⟨b, 0, none⟩ = some (.string ⟨s.toArray⟩) := by rw [Lib.cell_of_heap h]; rfl
theorem RB.c1 {b : Nat} {s : List UInt8} {bad : Bool} {w : World} (h : RB b s bad w) : w.cell? ⟨b, 1, none⟩ = some (.bool bad) := by rw [Lib.cell_of_heap h]; rfl
theorem RB.f {b : Nat} {s : List UInt8} {bad : Bool} {w : World} (h : RB b s bad w) (j : Nat) : w.frozen? ⟨b, j, none⟩ = false := Lib.frozen_of_heap h j
theorem RB.set0 {b : Nat} {s : List UInt8} {bad : Bool} {w : World} (h : RB b s bad w) (s' : List UInt8) : RB b s' bad (w.setCell ⟨b, 0, none⟩ (.string ⟨s'.toArray⟩)) := by
  unfold RB at *
  simp [World.setCell, Array.getElem?_modify, h]
theorem RB.set1 {b : Nat} {s : List UInt8} {bad : Bool} {w : World} (h : RB b s bad w) (x : Bool) : RB b s x (w.setCell ⟨b, 1, none⟩ (.bool x)) := by
  unfold RB at *
  simp [World.setCell, Array.getElem?_modify, h]
theorem RB.keep {b : Nat} {s : List UInt8} {bad : Bool} {w w' : World} (h : RB b s bad w) (hb : Below w.heap.size w w') : RB b s bad w' := by
  unfold RB at *
  rw [hb.block b (RB.lt h)]; exact h

def hdv : List UInt8 → Nat
  | [] => 0
  | x :: _ => x.toNat

theorem next_any (b : Nat) (s : List UInt8) (bad : Bool) (w : World) (h : RB b s bad w) :
    Calls Try.prog 112 #[.pointer (some ⟨b, 0, none⟩)] w fun e w' => e = .returned (.int .u8 (hdv s)) ∧ w' = w := by
  have hc := h.c0
  cases s with
  | nil =>
    go_enter Try.func112, Try.ntmps112
    go_wp2
    go_ret
    exact ⟨rfl, rfl⟩
  | cons x s =>
    have h1 : (ByteArray.mk (x :: s).toArray).toList.isEmpty = false := by simp [ByteArray.toList_eq]
    have h2 : 0 < (ByteArray.mk (x :: s).toArray).size := by rw [bsize]; simp
    go_enter Try.func112, Try.ntmps112
    go_wp2
    go_ret
    exact ⟨rfl, rfl⟩

theorem idxLet (x : UInt8) : Lib.indexByte [97, 98, 99, 100, 101, 102, 103, 104] x = if isLet x then (x.toNat : Int) - 97 else -1 := by
  have h : ∀ n, n < 256 → Lib.indexByte [97, 98, 99, 100, 101, 102, 103, 104] (UInt8.ofNat n) = if isLet (UInt8.ofNat n) then ((UInt8.ofNat n).toNat : Int) - 97 else -1 := by decide +kernel
  have := h x.toNat x.toNat_lt
  simpa using this

theorem tail_slice (x : UInt8) (s : List UInt8) : (ByteArray.mk (x :: s).toArray).extract 1 (s.length + 1) = ⟨s.toArray⟩ := by
  apply ByteArray.ext
  rw [ByteArray.data_extract]
  simp

/-- what part leaves -/
def PostP (n b : Nat) (s : List UInt8) (w : World) (e : Ending) (w' : World) : Prop :=
  ∃ v s' bad', e = .returned v ∧ (∃ T x, v = .iface T x) ∧ Rw b w w' ∧ RB b s' bad' w' ∧ s'.length ≤ s.length ∧
    (match pP n s with
      | some (p, r) => bad' = false ∧ s' = r ∧ r.length < s.length ∧ IsP w.heap.size w'.heap.size w' v p
      | none => bad' = true)
def stopC : List UInt8 → Bool
  | [] => true
  | x :: _ => x == 0 || x == 41
def goodC (n : Nat) (s : List UInt8) : Prop := ∃ c r, pC n s = some (c, r) ∧ stopC r = true
/-- what circuit leaves -/
def PostC (n b : Nat) (s : List UInt8) (w : World) (e : Ending) (w' : World) : Prop :=
  ∃ v s' bad', e = .returned v ∧ (∃ a n c, v = .slice a n c) ∧ Rw b w w' ∧ RB b s' bad' w' ∧ s'.length ≤ s.length ∧
    ((bad' = false ∧ ∃ c r, pC n s = some (c, r) ∧ stopC r = true ∧ s' = r ∧ IsC w.heap.size w'.heap.size w' v c) ∨ (bad' = true ∧ ¬ goodC n s))

theorem post_of_let {n b : Nat} {x : UInt8} {r : List UInt8} {w : World} (hb : RB b (x :: r) false w) (hl : isLet x = true) :
    PostP (n + 1) b (x :: r) w (.returned (.iface 122 (.int .i64 ((x.toNat : Int) - 97)))) (w.setCell ⟨b, 0, none⟩ (.string ⟨r.toArray⟩)) := by
  refine ⟨_, r, false, rfl, ⟨_, _, rfl⟩, Rw.setCell _ _ _ _, hb.set0 r, by simp, ?_⟩
  rw [pP_cons, if_pos hl]
  rw [isLet_iff] at hl
  refine ⟨rfl, rfl, by simp, by simp [World.setCell], Or.inl ⟨x.toNat - 97, by omega, ?_, rfl⟩⟩
  rw [show ((x.toNat : Int) - 97) = ((x.toNat - 97 : Nat) : Int) by omega]

theorem pP_bad (n : Nat) (s : List UInt8) (h : starts s = false) : pP n s = none := by
  cases n with
  | zero => simp [pP]
  | succ n =>
    cases s with
    | nil => exact pP_nil n
    | cons x r =>
      simp only [starts, Bool.or_eq_false_iff, beq_eq_false_iff_ne] at h
      rw [pP_cons, if_neg (by rw [h.2]; simp), if_neg h.1]

set_option maxHeartbeats 2000000 in
set_option maxRecDepth 100000 in
/-- part, at what is no part's beginning -/
theorem part_bad (n b : Nat) (s : List UInt8) (w : World) (hb : RB b s false w) (hs : starts s = false) :
    Calls Try.prog 111 #[.pointer (some ⟨b, 0, none⟩)] w (PostP n b s w) := by
  have hfin : PostP n b s w (.returned (.iface 122 (.int .i64 0))) (w.setCell ⟨b, 1, none⟩ (.bool true)) := by
    refine ⟨_, s, true, rfl, ⟨_, _, rfl⟩, Rw.setCell _ _ _ _, hb.set1 true, by simp, ?_⟩
    rw [pP_bad n s hs]
  have hidx : Lib.indexByte [97, 98, 99, 100, 101, 102, 103, 104] (hdv s).toUInt8 = -1 := by
    rw [idxLet]
    cases s with
    | nil => rfl
    | cons x r =>
      simp only [starts, Bool.or_eq_false_iff] at hs
      rw [show (hdv (x :: r)).toUInt8 = x by simp [hdv], hs.2]
      rfl
  have h40 : (((hdv s : Nat) : Int) != 40) = true := by
    cases s with
    | nil => rfl
    | cons x r =>
      simp only [starts, Bool.or_eq_false_iff, beq_eq_false_iff_ne] at hs
      have : x.toNat ≠ 40 := fun e => hs.1 ((u8_nat x 40 (by omega)).2 e)
      simp [hdv]; omega
  have hc0 := hb.c0
  have hc1 := hb.c1
  have hf0 := hb.f 0
  have hf1 := hb.f 1
  have HN := Lib.hid (next_any b s false w hb)
  have HFIN := Lib.hid hfin
  have HIDX := Lib.hid hidx
  clear hfin hidx hs hb
  generalize hdv s = h at *
  go_enter Try.func111, Try.ntmps111
  go_wp2_with fail
  refine HN.out.mono ?_
  rintro e w' ⟨rfl, rfl⟩
  go_wp2_with fail
  refine (Try.strings_IndexByte _ _ _).mono ?_
  rintro e w' ⟨rfl, rfl⟩
  rw [show (ByteArray.mk #[97, 98, 99, 100, 101, 102, 103, 104]).data.toList = [97, 98, 99, 100, 101, 102, 103, 104] from rfl, Int.toNat_natCast, HIDX.out]
  go_wp2_with fail
  go_ret
  exact HFIN.out
end Go.Proofs.Ytfoeamgjjhfkdaa

namespace Go.Proofs.Ytfoeamgjjhfkdaa
open Go.Shelf Go.RowKit Go.Proofs L9

theorem set_size (w : World) (a : Addr) (u : Value) : (w.setCell a u).heap.size = w.heap.size := by simp [World.setCell]

/-- part's end behind a circuit in brackets that is none, or that no bracket ends -/
theorem post_bad {n b : Nat} {r s' : List UInt8} {w w' : World} {x : Value} (hn : pP (n + 1) (40 :: r) = none) (hRw : Rw b w w') (hs : s'.length ≤ r.length) (hB : RB b s' true w') :
    PostP (n + 1) b (40 :: r) w (.returned (.iface 61 x)) w' := by
  refine ⟨_, s', true, rfl, ⟨_, _, rfl⟩, hRw, hB, by simp; omega, ?_⟩
  rw [hn]

theorem pP_paren (n : Nat) (r : List UInt8) : pP (n + 1) (40 :: r) = (match pC n r with
      | none => none
      | some (c, r') => match r' with
        | [] => none
        | x :: r'' => if x = 41 then some (.circ c, r'') else none) := by
  rw [pP_cons, if_neg (by decide), if_pos rfl]; rfl
theorem pP_not_good {n : Nat} {r : List UInt8} (h : ¬ goodC n r) : pP (n + 1) (40 :: r) = none := by
  rw [pP_paren]
  cases hc : pC n r with
  | none => rfl
  | some y =>
    obtain ⟨c, r'⟩ := y
    cases r' with
    | nil => rfl
    | cons x r'' =>
      simp only
      by_cases h41 : x = 41
      · exact absurd ⟨c, _, hc, by simp [stopC, h41]⟩ h
      · rw [if_neg h41]

set_option maxHeartbeats 4000000 in
set_option maxRecDepth 100000 in
theorem part_any (n : Nat) (ihC : ∀ (s : List UInt8) (b : Nat) (w : World), RB b s false w → 3 * s.length + 3 ≤ n → s.length ≤ 200 → Calls Try.prog 89 #[.pointer (some ⟨b, 0, none⟩)] w (PostC n b s w))
    (s : List UInt8) (b : Nat) (w : World) (hb : RB b s false w) (hn : 3 * s.length + 1 ≤ n + 1) (hs : s.length ≤ 200) :
    Calls Try.prog 111 #[.pointer (some ⟨b, 0, none⟩)] w (PostP (n + 1) b s w) := by
  cases hst : starts s with
  | false => exact part_bad (n + 1) b s w hb hst
  | true =>
    cases s with
    | nil => cases hst
    | cons x r =>
      have hc0 := hb.c0
      have hf0 := hb.f 0
      have hsz : 1 ≤ (ByteArray.mk (x :: r).toArray).size := by rw [bsize]; simp
      have hts := Lib.hid (tail_slice x r)
      have HN := Lib.hid (next_any b (x :: r) false w hb)
      by_cases hl : isLet x = true
      · have HFIN := Lib.hid (post_of_let (n := n) hb hl)
        have hidx : Lib.indexByte [97, 98, 99, 100, 101, 102, 103, 104] (hdv (x :: r)).toUInt8 = (x.toNat : Int) - 97 := by
          rw [idxLet, show (hdv (x :: r)).toUInt8 = x by simp [hdv], if_pos hl]
        have hge : (0 : Int) ≤ (x.toNat : Int) - 97 := by rw [isLet_iff] at hl; omega
        have HIDX := Lib.hid hidx
        clear hidx hst hb hl
        generalize hdv (x :: r) = h at *
        generalize (x.toNat : Int) - 97 = i at *
        go_enter Try.func111, Try.ntmps111
        go_wp2_with fail
        refine HN.out.mono ?_
        rintro e w' ⟨rfl, rfl⟩
        go_wp2_with fail
        refine (Try.strings_IndexByte _ _ _).mono ?_
        rintro e w' ⟨rfl, rfl⟩
        rw [show (ByteArray.mk #[97, 98, 99, 100, 101, 102, 103, 104]).data.toList = [97, 98, 99, 100, 101, 102, 103, 104] from rfl, Int.toNat_natCast, HIDX.out]
        go_wp2_with fail
        rw [hts.out]
        go_wp2_with fail
        go_ret
        exact HFIN.out
      · have hx : x = 40 := by simp only [starts, Bool.or_eq_true, beq_iff_eq] at hst; exact hst.resolve_right hl
        subst hx
        have hlen : (40 :: r : List UInt8).length = r.length + 1 := rfl
        have hb1 := hb.set0 r
        have HC := Lib.hid (ihC r b _ hb1 (by omega) (by omega))
        have hidx : Lib.indexByte [97, 98, 99, 100, 101, 102, 103, 104] (hdv (40 :: r)).toUInt8 = -1 := rfl
        have HIDX := Lib.hid hidx
        have h40 : (((hdv (40 :: r) : Nat) : Int) != 40) = false := rfl
        have hlt := hb.lt
        clear hidx hst hb hl hb1
        generalize hdv (40 :: r) = h at *
        go_enter Try.func111, Try.ntmps111
        go_wp2_with fail
        refine HN.out.mono ?_
        rintro e w' ⟨rfl, rfl⟩
        go_wp2_with fail
        refine (Try.strings_IndexByte _ _ _).mono ?_
        rintro e w' ⟨rfl, rfl⟩
        rw [show (ByteArray.mk #[97, 98, 99, 100, 101, 102, 103, 104]).data.toList = [97, 98, 99, 100, 101, 102, 103, 104] from rfl, Int.toNat_natCast, HIDX.out]
        go_wp2_with fail
        rw [hts.out]
        go_wp2_with fail
        refine HC.out.mono ?_
        rintro e w2 ⟨v, s', bad', rfl, ⟨va, vn, vc, rfl⟩, hRw, hRB, hsl, hpost⟩
        have hRw' := (Rw.setCell b 0 w' (.string ⟨r.toArray⟩)).trans hRw
        have hc0' := hRB.c0
        have hf0' := hRB.f 0
        have hf1' := hRB.f 1
        have HN2 := Lib.hid (next_any b s' bad' w2 hRB)
        by_cases h41 : hdv s' = 41
        · obtain ⟨r'', rfl⟩ : ∃ r'', s' = 41 :: r'' := by
            cases s' with
            | nil => cases h41
            | cons y r'' => exact ⟨r'', by rw [(u8_nat y 41 (by omega)).2 h41]; rfl⟩
          have hts2 := Lib.hid (tail_slice 41 r'')
          have hsz2 : 1 ≤ (ByteArray.mk (41 :: r'').toArray).size := by rw [bsize]; simp
          have hfin : PostP (n + 1) b (40 :: r) w' (.returned (.iface 61 (.slice va vn vc))) (w2.setCell ⟨b, 0, none⟩ (.string ⟨r''.toArray⟩)) := by
            have hl2 : (41 :: r'' : List UInt8).length = r''.length + 1 := rfl
            rcases hpost with ⟨rfl, c, r1, hpc, hstop, rfl, hC⟩ | ⟨rfl, hng⟩
            · refine ⟨_, r'', false, rfl, ⟨_, _, rfl⟩, hRw'.trans (Rw.setCell _ _ _ _), hRB.set0 _, by omega, ?_⟩
              rw [pP_paren, hpc]
              simp only [if_pos]
              refine ⟨trivial, trivial, by omega, ?_, Or.inr ⟨_, c, rfl, rfl, ?_⟩⟩
              · exact Nat.le_refl _
              · rw [set_size] at hC ⊢
                exact hC.keep ((Rw.setCell _ _ _ _).keptIn hlt (Nat.le_refl _))
            · exact post_bad (pP_not_good hng) (hRw'.trans (Rw.setCell _ _ _ _)) (by omega) (hRB.set0 _)
          have HFIN := Lib.hid hfin
          clear hfin hpost hRB hc0
          generalize hdv (41 :: r'') = h2 at *
          subst h41
          go_wp2_with fail
          refine HN2.out.mono ?_
          rintro e w3 ⟨rfl, rfl⟩
          go_wp2_with fail
          rw [hts2.out]
          go_wp2_with fail
          go_ret
          exact HFIN.out
        · have hfin : PostP (n + 1) b (40 :: r) w' (.returned (.iface 61 (.slice va vn vc))) (w2.setCell ⟨b, 1, none⟩ (.bool true)) := by
            refine post_bad (s' := s') ?_ (hRw'.trans (Rw.setCell _ _ _ _)) hsl (hRB.set1 true)
            rcases hpost with ⟨rfl, c, r1, hpc, hstop, rfl, hC⟩ | ⟨rfl, hng⟩
            · rw [pP_paren, hpc]
              cases r1' : s' with
              | nil => rfl
              | cons y r'' =>
                simp only
                rw [if_neg]
                intro e
                apply h41
                rw [r1', e]
                rfl
            · exact pP_not_good hng
          have HFIN := Lib.hid hfin
          have hne : (((hdv s' : Nat) : Int) != 41) = true := by simp; omega
          have hc1' := hRB.c1
          clear hfin hpost hRB hc0
          generalize hdv s' = h2 at *
          go_wp2_with fail
          refine HN2.out.mono ?_
          rintro e w3 ⟨rfl, rfl⟩
          go_wp2_with fail
          go_ret
          exact HFIN.out
end Go.Proofs.Ytfoeamgjjhfkdaa

namespace Go.Proofs.Ytfoeamgjjhfkdaa
open Go.Shelf Go.RowKit Go.Proofs L9

/-- a row of the call's own, its values told by what they are, each with its blocks -/
def RowAt {α : Type} (T base top : Nat) (I : Nat → Nat → World → Value → α → Prop) (w : World) (v : Value) (xs : List α) : Prop :=
  base ≤ top ∧ top ≤ w.heap.size ∧ ∃ vals : List Value, w.ownsRow base T 1 v xs.length vals ∧ (∀ g, v.ownBlock = some g → g < top) ∧
    ∀ (j : Nat) (x : α), xs[j]? = some x → ∃ u lo hi, vals[j]? = some u ∧ base ≤ lo ∧ hi ≤ top ∧ I lo hi w u x ∧ ∀ g, v.ownBlock = some g → g < lo ∨ hi ≤ g

theorem owns_keptIn {w w' : World} {base T top : Nat} {v : Value} {n : Nat} {vals : List Value} (h : w.ownsRow base T 1 v n vals) (hlt : ∀ g, v.ownBlock = some g → g < top) (hk : KeptIn base top w w') : w'.ownsRow base T 1 v n vals := by
  refine ⟨h.1, ?_⟩
  rcases h.2 with h2 | ⟨g, cap, cur, e, h3, h4, h5⟩
  · exact Or.inl h2
  · exact Or.inr ⟨g, cap, cur, e, h3, by rw [hk.2 g h3 (hlt g (by rw [e]; rfl))]; exact h4, h5⟩

theorem RowAt.keep {α : Type} {T base top : Nat} {I : Nat → Nat → World → Value → α → Prop} (hI : ∀ (lo hi : Nat) (w w' : World) (v : Value) (x : α), I lo hi w v x → KeptIn lo hi w w' → I lo hi w' v x)
    {w w' : World} {v : Value} {xs : List α} (h : RowAt T base top I w v xs) (hk : KeptIn base top w w') : RowAt T base top I w' v xs := by
  obtain ⟨hbt, h0, vals, h1, h2, h3⟩ := h
  refine ⟨hbt, Nat.le_trans h0 hk.1, vals, owns_keptIn h1 h2 hk, h2, fun j x hj => ?_⟩
  obtain ⟨u, lo, hi, a, b, c, d, e⟩ := h3 j x hj
  exact ⟨u, lo, hi, a, b, c, hI _ _ _ _ _ _ d (hk.sub b c), e⟩
theorem RowAt.up {α : Type} {T base top top' : Nat} {I : Nat → Nat → World → Value → α → Prop} {w : World} {v : Value} {xs : List α} (h : RowAt T base top I w v xs) (h1 : top ≤ top') (h2 : top' ≤ w.heap.size) : RowAt T base top' I w v xs := by
  obtain ⟨hbt, h0, vals, a, b, c⟩ := h
  refine ⟨by omega, h2, vals, a, fun g hg => Nat.lt_of_lt_of_le (b g hg) h1, fun j x hj => ?_⟩
  obtain ⟨u, lo, hi, p, q, r, s, t⟩ := c j x hj
  exact ⟨u, lo, hi, p, q, by omega, s, t⟩
theorem RowAt.empty {α : Type} (T : Nat) (I : Nat → Nat → World → Value → α → Prop) (w : World) : RowAt T w.heap.size w.heap.size I w (.slice none 0 0) ([] : List α) :=
  ⟨Nat.le_refl _, Nat.le_refl _, [], World.ownsRow_nil _ _ _ _, by simp [Value.ownBlock], fun j x hj => by simp at hj⟩

/-- behind an append of one value -/
theorem RowAt.snoc {α : Type} {T base top : Nat} {I : Nat → Nat → World → Value → α → Prop} (hI : ∀ (lo hi : Nat) (w w' : World) (v : Value) (x : α), I lo hi w v x → KeptIn lo hi w w' → I lo hi w' v x)
    {w wa w' : World} {v v' u : Value} {xs : List α} {x : α} {lo hi : Nat} (h : RowAt T base top I w v xs) (hx : I lo hi w u x) (hlo : top ≤ lo) (hhi : hi ≤ w.heap.size)
    (ha : Below w.heap.size w wa) {vals : List Value} (hvals : w.ownsRow base T 1 v xs.length vals) (hown : w'.ownsRow base T 1 v' (xs.length + 1) (vals ++ [u])) (hg : wa.grownBy w' v.ownBlock) (hb : ∀ g, v'.ownBlock = some g → v.ownBlock = some g ∨ wa.heap.size ≤ g) :
    RowAt T base w'.heap.size I w' v' (xs ++ [x]) := by
  obtain ⟨hbt, h0, vals', h1, h2, h3⟩ := h
  have hvv : vals' = vals := by
    rcases h1.2 with ⟨e1, e2⟩ | ⟨g, cap, cur, e, _, hg1, _, _, _, ht⟩
    · have a1 := h1.1
      have a2 := hvals.1
      rw [e2] at a1 a2
      simp at a1 a2
      rw [a1, a2]
    · rcases hvals.2 with ⟨e1, _⟩ | ⟨g', cap', cur', e', _, hg1', _, _, _, ht'⟩
      · rw [e] at e1; cases e1
      · rw [e] at e'
        injection e' with e1 _ _
        injection e1 with e1
        injection e1 with e1 _ _
        subst e1
        rw [hg1] at hg1'
        injection hg1' with e2
        injection e2 with e2 _ _
        subst e2
        rw [← ht, ← ht']
  subst hvv
  have hasz := ha.size
  have hgsz := hg.size
  refine ⟨by omega, Nat.le_refl _, vals' ++ [u], by simpa using hown, ?_, ?_⟩
  · intro g hg'
    exact (hown.lt g hg').2
  · have hkeep : ∀ lo hi, hi ≤ w.heap.size → (∀ g, v.ownBlock = some g → g < lo ∨ hi ≤ g) → KeptIn lo hi w w' := by
      intro lo hi hh hne
      refine ⟨Nat.le_trans hasz hgsz, fun k k1 k2 => ?_⟩
      rw [hg.block k (by omega) (fun e => by have := hne k e.symm; omega), ha.block k (by omega)]
    intro j y hj
    have hlen : vals'.length = xs.length := by have := h1.1; omega
    by_cases hjl : j < xs.length
    · rw [List.getElem?_append_left hjl] at hj
      obtain ⟨u', lo', hi', p, q, r, s, t⟩ := h3 j y hj
      refine ⟨u', lo', hi', by rw [List.getElem?_append_left (by omega)]; exact p, q, by omega, hI _ _ _ _ _ _ s (hkeep _ _ (by omega) t), ?_⟩
      intro g hg'
      rcases hb g hg' with e | e
      · exact t g e
      · right; omega
    · rw [List.getElem?_append_right (by omega)] at hj
      have hj0 : j - xs.length = 0 := by
        rcases Nat.eq_zero_or_pos (j - xs.length) with e | e
        · exact e
        · rw [List.getElem?_eq_none (by simp; omega)] at hj; cases hj
      rw [hj0] at hj
      simp at hj
      subst hj
      have hne : ∀ g, v.ownBlock = some g → g < lo ∨ hi ≤ g := fun g e => Or.inl (Nat.lt_of_lt_of_le (h2 g e) hlo)
      refine ⟨u, lo, hi, ?_, ?_, by omega, hI _ _ _ _ _ _ hx (hkeep _ _ hhi hne), ?_⟩
      · rw [List.getElem?_append_right (by omega), hlen, hj0]; rfl
      · omega
      · intro g hg'
        rcases hb g hg' with e | e
        · exact hne g e
        · right; omega

/-- a slice just made of one value -/
theorem RowAt.single {α : Type} {T base : Nat} {I : Nat → Nat → World → Value → α → Prop} (hI : ∀ (lo hi : Nat) (w w' : World) (v : Value) (x : α), I lo hi w v x → KeptIn lo hi w w' → I lo hi w' v x)
    {w : World} {u : Value} {x : α} {lo hi : Nat} (hx : I lo hi w u x) (hlo : base ≤ lo) (hhi : hi ≤ w.heap.size) (hb : base ≤ w.heap.size) :
    RowAt T base (w.heap.size + 1) I (w.alloc (.cells #[u] T)) (.slice (some ⟨w.heap.size, 0, none⟩) 1 1) [x] := by
  have hsz : (w.alloc (.cells #[u] T)).heap.size = w.heap.size + 1 := by simp
  refine ⟨by omega, by omega, [u], ?_, ?_, ?_⟩
  · exact World.ownsRow_lit w #[u] 1 hb (by unfold maxLen; omega) rfl
  · intro g hg
    simp [Value.ownBlock] at hg
    omega
  · intro j y hj
    match j, hj with
    | 0, hj =>
      simp at hj; subst hj
      refine ⟨u, lo, hi, rfl, hlo, by omega, hI _ _ _ _ _ _ hx (KeptIn.of_below ((Below.refl _ _).alloc (Nat.le_refl _) _) hhi), ?_⟩
      intro g hg
      simp [Value.ownBlock] at hg
      omega

theorem RowAt.cells {α : Type} {T base top : Nat} {I : Nat → Nat → World → Value → α → Prop} {w : World} {v : Value} {xs : List α} (h : RowAt T base top I w v xs) (hne : xs ≠ []) :
    top ≤ w.heap.size ∧ ∃ g cap, v = .slice (some ⟨g, 0, none⟩) xs.length cap ∧ base ≤ g ∧ g < top ∧ ∀ (j : Nat) (x : α), xs[j]? = some x → ∃ u lo hi, base ≤ lo ∧ hi ≤ top ∧ w.cell? ⟨g, j, none⟩ = some u ∧ I lo hi w u x := by
  obtain ⟨_, h0, vals, h1, h2, h3⟩ := h
  refine ⟨h0, ?_⟩
  have hpos := List.length_pos_iff.2 hne
  rcases h1.2 with ⟨_, e⟩ | ⟨g, cap, cur, rfl, hb, hg, _⟩
  · omega
  · refine ⟨g, cap, rfl, hb, h2 g rfl, fun j x hj => ?_⟩
    obtain ⟨u, lo, hi, a, b, c, d, _⟩ := h3 j x hj
    have hlt : j < xs.length := (List.getElem?_eq_some_iff.1 hj).1
    exact ⟨u, lo, hi, b, c, by rw [h1.cellAt j (by omega)]; exact a, d⟩
theorem kB : ∀ (lo hi : Nat) (w w' : World) (v : Value) (x : List Part), IsB lo hi w v x → KeptIn lo hi w w' → IsB lo hi w' v x := fun _ _ _ _ _ _ => IsB.keep
theorem kP : ∀ (lo hi : Nat) (w w' : World) (v : Value) (x : Part), IsP lo hi w v x → KeptIn lo hi w w' → IsP lo hi w' v x := fun _ _ _ _ _ _ => IsP.keep
theorem RowAt.isB {base top : Nat} {w : World} {v : Value} {ps : List Part} (h : RowAt 116 base top IsP w v ps) (hne : ps ≠ []) : IsB base top w v ps := h.cells hne
theorem RowAt.isCs {base top : Nat} {w : World} {v : Value} {cs : List (List Part)} (h : RowAt 91 base top IsB w v cs) (hne : cs ≠ []) : IsCs base top w v cs := h.cells hne
end Go.Proofs.Ytfoeamgjjhfkdaa
