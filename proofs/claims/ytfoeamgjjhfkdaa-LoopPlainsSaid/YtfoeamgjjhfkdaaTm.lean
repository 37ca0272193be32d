/- circuit: the reader's two loops, walked. -/
import Derived.Test.YtfoeamgjjhfkdaaTl
namespace Go.Proofs.Ytfoeamgjjhfkdaa
open Go.Shelf Go.RowKit Go.Proofs L9

def contB (j : Nat) (ps : List Part) (r : List UInt8) : Option (List Part × List UInt8) := if starts r then (pB j r).map (fun y => (ps ++ y.1, y.2)) else some (ps, r)
def afterB (m1 : Nat) (bo : Option (List Part × List UInt8)) : Option (List (List Part) × List UInt8) := match bo with
  | none => none
  | some (b, r) => match r with
    | [] => some ([b], r)
    | x :: r' => if x = 43 then (pC m1 r').map fun y => (b :: y.1, y.2) else some ([b], r)
def prep (cs : List (List Part)) (o : Option (List (List Part) × List UInt8)) : Option (List (List Part) × List UInt8) := o.map fun y => (cs ++ y.1, y.2)

theorem pC_after (m1 : Nat) (s : List UInt8) : pC (m1 + 1) s = afterB m1 (pB m1 s) := by rw [pC_succ]; rfl
theorem pB_cont (k : Nat) (s : List UInt8) : pB (k + 1) s = match pP k s with
    | none => none
    | some (p, r) => contB k [p] r := by rw [pB_succ]; rfl
theorem contB_step (j : Nat) (ps : List Part) (r : List UInt8) (h : starts r = true) : contB (j + 1) ps r = match pP j r with
    | none => none
    | some (p, r') => contB j (ps ++ [p]) r' := by
  unfold contB
  rw [if_pos h, pB_cont]
  cases pP j r with
  | none => rfl
  | some y =>
    obtain ⟨p, r'⟩ := y
    simp only
    unfold contB
    split
    · cases pB j r' <;> simp
    · rfl

theorem RB.grown {b : Nat} {s : List UInt8} {bad : Bool} {w w' : World} {row : Option Nat} (h : RB b s bad w) (hg : w.grownBy w' row) (hne : row ≠ some b) : RB b s bad w' := by
  have hlt := RB.lt h
  unfold RB at *
  rw [hg.block b hlt (fun e => hne e.symm)]; exact h
theorem Rw.grown {b : Nat} {w0 w w' : World} {row : Option Nat} (h : Rw b w0 w) (hg : w.grownBy w' row) (hne : ∀ g, row = some g → w0.heap.size ≤ g) : Rw b w0 w' :=
  ⟨hg.os.trans h.os, hg.tape.trans h.tape, hg.output.trans h.output, Nat.le_trans h.size hg.size, fun i hi hn => (hg.block i (Nat.lt_of_lt_of_le hi h.size) (fun e => by have := hne i e.symm; omega)).trans (h.block i hi hn)⟩

variable {N m1 j : Nat} {s0 s2 : List UInt8} {cs : List (List Part)} {ps : List Part}
theorem not_good_none (h : pC N s0 = prep cs (afterB m1 none)) : ¬ goodC N s0 := by
  rintro ⟨c, r, hc, _⟩
  rw [h] at hc
  cases hc
theorem end_stop (h : pC N s0 = prep cs (afterB m1 (contB j ps s2))) (hst : starts s2 = false) (h43 : hdv s2 ≠ 43) : pC N s0 = some (cs ++ [ps], s2) := by
  rw [h]
  unfold contB
  rw [if_neg (by rw [hst]; simp)]
  cases s2 with
  | nil => rfl
  | cons x r' =>
    have : x ≠ 43 := fun e => h43 (by rw [e]; rfl)
    simp only [afterB, if_neg this]
    rfl
theorem not_good_junk (h : pC N s0 = prep cs (afterB m1 (contB j ps s2))) (hst : starts s2 = false) (h43 : hdv s2 ≠ 43) (h0 : hdv s2 ≠ 0) (h41 : hdv s2 ≠ 41) : ¬ goodC N s0 := by
  rintro ⟨c, r, hc, hs⟩
  rw [end_stop h hst h43] at hc
  simp only [Option.some.injEq, Prod.mk.injEq] at hc
  obtain ⟨_, rfl⟩ := hc
  cases s2 with
  | nil => exact h0 rfl
  | cons x r' =>
    simp only [stopC, Bool.or_eq_true, beq_iff_eq] at hs
    rcases hs with e | e
    · exact h0 (by rw [e]; rfl)
    · exact h41 (by rw [e]; rfl)
theorem end_plus {r' : List UInt8} (h : pC N s0 = prep cs (afterB m1 (contB j ps (43 :: r')))) : pC N s0 = prep (cs ++ [ps]) (pC m1 r') := by
  rw [h]
  have : contB j ps (43 :: r') = some (ps, 43 :: r') := rfl
  rw [this]
  simp only [afterB, if_pos]
  unfold prep
  cases pC m1 r' <;> simp
theorem starts_hd (s : List UInt8) (h : hdv s = 0 ∨ hdv s = 43 ∨ hdv s = 41) : starts s = false := by
  cases s with
  | nil => rfl
  | cons x r =>
    simp only [hdv] at h
    simp only [starts, Bool.or_eq_false_iff, beq_eq_false_iff_ne]
    refine ⟨fun e => ?_, ?_⟩
    · rw [e] at h; revert h; decide
    · cases hl : isLet x with
      | false => rfl
      | true => rw [isLet_iff] at hl; omega
theorem stop_hd (s : List UInt8) (h : hdv s = 0 ∨ hdv s = 41) : stopC s = true := by
  cases s with
  | nil => rfl
  | cons x r =>
    simp only [hdv] at h
    simp only [stopC, Bool.or_eq_true, beq_iff_eq]
    rcases h with h | h
    · exact Or.inl ((u8_nat x 0 (by omega)).2 h)
    · exact Or.inr ((u8_nat x 41 (by omega)).2 h)

def restLen (b : Nat) (w : World) : Nat := match w.cell? ⟨b, 0, none⟩ with | some (.string s) => s.size | _ => 0
def badN (b : Nat) (w : World) : Nat := match w.cell? ⟨b, 1, none⟩ with | some (.bool true) => 0 | _ => 1
theorem restLen_of {b : Nat} {s : List UInt8} {bad : Bool} {w : World} (h : RB b s bad w) : restLen b w = s.length := by
  unfold restLen; rw [h.c0]; exact bsize s
theorem badN_of {b : Nat} {s : List UInt8} {bad : Bool} {w : World} (h : RB b s bad w) : badN b w = if bad then 0 else 1 := by
  unfold badN; rw [h.c1]; cases bad <;> rfl

def OuterRel (N b : Nat) (s0 : List UInt8) (w : World) (v : Value) (wr : World) : Prop :=
  ∃ cs m s', RB b s' false wr ∧ Rw b w wr ∧ cs.length + s'.length ≤ s0.length ∧ 3 * s'.length + 3 ≤ m ∧ m ≤ N ∧ pC N s0 = prep cs (pC m s') ∧ RowAt 91 w.heap.size wr.heap.size IsB wr v cs
def InnerRel (N b m1 h0 L : Nat) (s0 : List UInt8) (cs : List (List Part)) (w : World) (v vb : Value) (wr : World) : Prop :=
  ∃ s2 bad, RB b s2 bad wr ∧ Rw b w wr ∧ RowAt 91 w.heap.size h0 IsB wr v cs ∧ s2.length ≤ L ∧
    ((bad = false ∧ s2.length < L ∧ ∃ j ps, 3 * s2.length + 2 ≤ j ∧ j ≤ N ∧ ps ≠ [] ∧ ps.length + s2.length ≤ L ∧ pC N s0 = prep cs (afterB m1 (contB j ps s2)) ∧ RowAt 116 h0 wr.heap.size IsP wr vb ps) ∨ (bad = true ∧ ¬ goodC N s0 ∧ ∃ a n c, vb = .slice a n c))

theorem row_slice {α : Type} {T base top : Nat} {I : Nat → Nat → World → Value → α → Prop} {w : World} {v : Value} {xs : List α} (h : RowAt T base top I w v xs) : ∃ a n c, v = .slice a n c := by
  obtain ⟨_, _, vals, h1, _⟩ := h
  rcases h1.2 with ⟨rfl, _⟩ | ⟨g, cap, cur, rfl, _⟩ <;> exact ⟨_, _, _, rfl⟩
theorem RowAt.owns {α : Type} {T base top : Nat} {I : Nat → Nat → World → Value → α → Prop} {w : World} {v : Value} {xs : List α} (h : RowAt T base top I w v xs) : ∃ vals, w.ownsRow base T 1 v xs.length vals ∧ ∀ g, v.ownBlock = some g → g < top := by
  obtain ⟨_, _, vals, h1, h2, _⟩ := h
  exact ⟨vals, h1, h2⟩

theorem isC_parse {N lo hi : Nat} {s0 r : List UInt8} {w : World} {v : Value} {c : List (List Part)} (h : pC N s0 = some (c, r)) (hs : s0.length ≤ 200) (hv : IsCs lo hi w v c) : IsC lo hi w v c := by
  obtain ⟨e, hne, hok⟩ := (reads N).2.2 _ _ _ h
  have hlen : s0.length = (txtC c).length + r.length := by rw [e, List.length_append]
  refine isC_of lo hi w v c hv hne (by have := txtC_len c; omega) ?_ (by have := dtM_le c hne hok; omega)
  intro b hb
  obtain ⟨h1, h2⟩ := okC_mem c b hok hb
  exact ⟨h1, by have := txtB_le_C c b hb; have := txtB_len b; omega, dtB_asc b h2⟩

/-- what part leaves inside a branch -/
def NextOK (N b m1 j : Nat) (s0 s2 : List UInt8) (cs : List (List Part)) (ps : List Part) (wr : World) (e : Ending) (w' : World) : Prop :=
  ∃ uT ux s3 bad3, e = .returned (.iface uT ux) ∧ Rw b wr w' ∧ RB b s3 bad3 w' ∧ s3.length ≤ s2.length ∧
    ((bad3 = false ∧ s3.length < s2.length ∧ ∃ p, pC N s0 = prep cs (afterB m1 (contB j (ps ++ [p]) s3)) ∧ IsP wr.heap.size w'.heap.size w' (.iface uT ux) p) ∨ (bad3 = true ∧ ¬ goodC N s0))

theorem part_next (N b m1 j : Nat) (s0 s2 : List UInt8) (cs : List (List Part)) (ps : List Part) (wr : World) (ih : ∀ n, n < N → ∀ (s : List UInt8) (b : Nat) (w : World), RB b s false w → 3 * s.length + 3 ≤ n → s.length ≤ 200 → Calls Try.prog 89 #[.pointer (some ⟨b, 0, none⟩)] w (PostC n b s w))
    (hRB : RB b s2 false wr) (hj : 3 * s2.length + 2 ≤ j + 1 + 1) (hjN : j + 1 + 1 ≤ N) (hs : s2.length ≤ 200) (heq : pC N s0 = prep cs (afterB m1 (contB (j + 1 + 1) ps s2))) (h0 : hdv s2 ≠ 0) (h43 : hdv s2 ≠ 43) (h41 : hdv s2 ≠ 41) :
    Calls Try.prog 111 #[.pointer (some ⟨b, 0, none⟩)] wr (NextOK N b m1 (j + 1) s0 s2 cs ps wr) := by
  cases hst : starts s2 with
  | true =>
    refine (part_any j (fun s b w h1 h2 h3 => ih j (by omega) s b w h1 h2 h3) s2 b wr hRB (by omega) hs).mono ?_
    rintro e w' ⟨_, s3, bad3, rfl, ⟨uT, ux, rfl⟩, h1, h2, h3, h4⟩
    rw [contB_step _ _ _ hst] at heq
    refine ⟨uT, ux, s3, bad3, rfl, h1, h2, h3, ?_⟩
    cases hpp : pP (j + 1) s2 with
    | none =>
      rw [hpp] at h4 heq
      exact Or.inr ⟨h4, not_good_none heq⟩
    | some y =>
      obtain ⟨p, r⟩ := y
      rw [hpp] at h4 heq
      obtain ⟨rfl, rfl, hlt, hip⟩ := h4
      exact Or.inl ⟨rfl, hlt, p, heq, hip⟩
  | false =>
    refine (part_bad 0 b s2 wr hRB hst).mono ?_
    rintro e w' ⟨_, s3, bad3, rfl, ⟨uT, ux, rfl⟩, h1, h2, h3, h4⟩
    exact ⟨uT, ux, s3, bad3, rfl, h1, h2, h3, Or.inr ⟨h4, not_good_junk heq hst h43 h0 h41⟩⟩

set_option maxHeartbeats 4000000 in
set_option maxRecDepth 100000 in
theorem circuit_any (N : Nat) (ih : ∀ n, n < N → ∀ (s : List UInt8) (b : Nat) (w : World), RB b s false w → 3 * s.length + 3 ≤ n → s.length ≤ 200 → Calls Try.prog 89 #[.pointer (some ⟨b, 0, none⟩)] w (PostC n b s w))
    (s0 : List UInt8) (b : Nat) (w : World) (hb : RB b s0 false w) (hN : 3 * s0.length + 3 ≤ N) (hs : s0.length ≤ 200) :
    Calls Try.prog 89 #[.pointer (some ⟨b, 0, none⟩)] w (PostC N b s0 w) := by
  have hi' : (Try.prog.info? 116).map (fun i => (i.zero, i.size, i.bytes)) = some (some .nilIface, 1, 16) := by kernel_rfl
  obtain ⟨i0, hi, hz0, hz1, hz2⟩ := info_parts hi'
  have hk' : (Try.prog.info? 91).map (fun i => (i.zero, i.size, i.bytes)) = some (some (.slice none 0 0), 1, 24) := by kernel_rfl
  obtain ⟨k0, hk, hy0, hy1, hy2⟩ := info_parts hk'
  clear hi' hk'
  have hblt := hb.lt
  have IH := Lib.hid ih
  clear ih
  have HB0 := Lib.hid hb
  clear hb
  go_enter Try.func89, Try.ntmps89
  go_wp2_with fail
  go_loopw [3, 4] (fun v _ wr => OuterRel N b s0 w v wr) (fun _ _ wr => restLen b wr)
  case atStart => exact ⟨[], N, s0, HB0.out, Rw.refl _ _, by simp, hN, Nat.le_refl _, by unfold prep; cases pC N s0 <;> simp, RowAt.empty _ _ _⟩
  case round =>
    obtain ⟨cs, m, s', hRB, hRw, hsl, hm, hmN, heq, hrow⟩ := hrel
    obtain ⟨m1, rfl⟩ : ∃ m1, m = m1 + 1 := ⟨m - 1, by omega⟩
    obtain ⟨k, rfl⟩ : ∃ k, m1 = k + 1 := ⟨m1 - 1, by omega⟩
    obtain ⟨k', rfl⟩ : ∃ k', k = k' + 1 := ⟨k - 1, by omega⟩
    have hrl := restLen_of hRB
    have HP := Lib.hid (part_any k' (fun s b w h1 h2 h3 => IH.out k' (by omega) s b w h1 h2 h3) s' b _ hRB (by omega) (by omega))
    have HE := Lib.hid heq
    have HR := Lib.hid hrow
    have HRw := Lib.hid hRw
    have HRL := Lib.hid hrl
    have hsz := hRw.size
    clear heq hrow hRw hRB hrl
    go_wp2_with fail
    refine HP.out.mono ?_
    rintro e w1 ⟨_, s1, bad1, rfl, ⟨uT, ux, rfl⟩, hRw1, hRB1, hsl1, hpost⟩
    have hsz1 := hRw1.size
    have HRw1 := Lib.hid (HRw.out.trans hRw1)
    obtain ⟨wo, rfl⟩ : ∃ wo : World, wo = wr := ⟨_, rfl⟩
    have hrow1 : RowAt 91 w.heap.size wo.heap.size IsB w1 u3 cs := HR.out.keep kB (hRw1.keptIn hblt (Nat.le_refl _))
    have hin : InnerRel N b (k' + 1 + 1) wo.heap.size s'.length s0 cs w u3 (.slice (some ⟨w1.heap.size, 0, none⟩) 1 1) (w1.alloc (.cells #[.iface uT ux] 116)) := by
      have hbl : Below w1.heap.size w1 (w1.alloc (.cells #[.iface uT ux] 116)) := (Below.refl _ _).alloc (Nat.le_refl _) _
      refine ⟨s1, bad1, hRB1.keep hbl, HRw1.out.trans (Rw.of_below hbl), hrow1.keep kB (KeptIn.of_below hbl hsz1), hsl1, ?_⟩
      have h1 := HE.out
      rw [pC_after, pB_cont] at h1
      cases hpp : pP (k' + 1) s' with
      | none =>
        rw [hpp] at hpost h1
        exact Or.inr ⟨hpost, not_good_none h1, _, _, _, rfl⟩
      | some y =>
        obtain ⟨p, r⟩ := y
        rw [hpp] at hpost h1
        obtain ⟨rfl, rfl, hlt, hip⟩ := hpost
        refine Or.inl ⟨rfl, hlt, k' + 1, [p], by omega, by omega, by simp, by simp; omega, h1, ?_⟩
        have := RowAt.single (T := 116) (base := wo.heap.size) kP hip (Nat.le_refl _) (Nat.le_refl _) hsz1
        simpa using this
    have HIN := Lib.hid hin
    clear hin hrow1 hpost hRB1 hRw1 HP
    go_wp2_with fail
    go_loopw [4] (fun vb wr => InnerRel N b (k' + 1 + 1) wo.heap.size s'.length s0 cs w u3 vb wr) (fun _ wr => 2 * restLen b wr + badN b wr)
    case atStart => exact HIN.out
    case round =>
      obtain ⟨s2, bad, hRB2, hRw2, hrow2, hsl2, hcase⟩ := hrel
      clear HIN
      have hc1 := hRB2.c1
      have HN2 := Lib.hid (next_any b s2 bad _ hRB2)
      have HRB2 := Lib.hid hRB2
      have HRw2 := Lib.hid hRw2
      have HR2 := Lib.hid hrow2
      rcases hcase with ⟨rfl, hlt2, j, ps, hj, hjN, hpsne, hpl, heq2, hprow⟩ | ⟨rfl, hng, va, vn, vc, rfl⟩
      · obtain ⟨va, vn, vc, rfl⟩ := row_slice hprow
        obtain ⟨vals, hown, htop⟩ := hrow2.owns
        have HOWN := Lib.hid hown
        have HPR := Lib.hid hprow
        have hwo : wo.heap.size ≤ wr.heap.size := hprow.1
        have heq2 := Lib.hid heq2
        clear hrow2 hRw2 hRB2 hown hprow HN2
        by_cases hh : hdv s2 = 0
        ·
          have HN2 : Hid (Calls Try.prog 112 #[.pointer (some ⟨b, 0, none⟩)] wr fun e w' => e = .returned (.int .u8 (((0 : Nat)) : Int)) ∧ wr = w') := by
            have := (next_any b s2 false _ HRB2.out).mono (R' := fun e w' => e = .returned (.int .u8 (hdv s2 : Nat)) ∧ wr = w') fun _ _ ⟨h1, h2⟩ => ⟨h1, h2.symm⟩
            rw [hh] at this
            exact this
          have hh := Lib.hid hh
          go_wp2_with (first | (go_at_call 112; refine HN2.out.mono ?_; rintro e w' ⟨rfl, rfl⟩) | (at_builtin; refine wpList_append_own2 rfl _ _ 61 rfl w.heap.size 91 k0 (.slice none 0 0) 1 24 Try.underlying61 hk hy0 hy1 hy2 rfl (by decide) _ _ _ rfl (HOWN.out.alloc _) ⟨wr.heap.size, 0, none⟩ 1 1 [.slice va vn vc] rfl rfl ?c1 ?c2 ?c3 ?c4 ?c5 ?_))
          case c1 => intro j u hj; match j, hj with | 0, hj => simp at hj; subst hj; exact new_cell _ _ _ 0 _ rfl
          case c2 => intro u hu; simp at hu; subst hu; rfl
          case c3 => unfold maxLen; omega
          case c4 => omega
          case c5 => have := HRw2.out.size; simp; omega
          intro v' w2 hown' hgrow hblk
          have hal : Below wr.heap.size wr (wr.alloc (.cells #[.slice va vn vc] 91)) := (Below.refl _ _).alloc (Nat.le_refl _) _
          have hbase : ∀ g, u3.ownBlock = some g → w.heap.size ≤ g := fun g e => (HOWN.out.lt g e).1
          have hRB3 : RB b s2 false w2 := (HRB2.out.keep hal).grown hgrow (fun e => by have := hbase b e; omega)
          have hRw3 : Rw b w w2 := (HRw2.out.trans (Rw.of_below hal)).grown hgrow hbase
          have hc3 := hRB3.c1
          have hv' : ∃ a n c, v' = .slice a n c := by rcases hown'.2 with ⟨rfl, _⟩ | ⟨g, cap, cur, rfl, _⟩ <;> exact ⟨_, _, _, rfl⟩
          have hrow3 : RowAt 91 w.heap.size w2.heap.size IsB w2 v' (cs ++ [ps]) := HR2.out.snoc kB (HPR.out.isB hpsne) (Nat.le_refl _) (Nat.le_refl _) hal HOWN.out hown' hgrow (by simpa using hblk)
          have HN3 : Hid (Calls Try.prog 112 #[.pointer (some ⟨b, 0, none⟩)] w2 fun e w' => e = .returned (.int .u8 (((0 : Nat)) : Int)) ∧ w2 = w') := by
            have := (next_any b s2 false _ hRB3).mono (R' := fun e w' => e = .returned (.int .u8 (hdv s2 : Nat)) ∧ w2 = w') fun _ _ ⟨h1, h2⟩ => ⟨h1, h2.symm⟩
            rw [hh.out] at this
            exact this
          have hfin : PostC N b s0 w (.returned v') w2 := by
            have hend := end_stop heq2.out (starts_hd s2 (by rw [hh.out]; omega)) (by rw [hh.out]; omega)
            refine ⟨v', s2, false, rfl, hv', hRw3, hRB3, by omega, Or.inl ⟨rfl, _, s2, hend, stop_hd s2 (by rw [hh.out]; omega), rfl, ?_⟩⟩
            exact isC_parse hend hs (hrow3.isCs (by simp))
          have HFIN := Lib.hid hfin
          clear hfin hRB3 hRw3 hown' hgrow hblk hal hbase hc1 hrow3 HN2
          obtain ⟨xa, xn, xc, rfl⟩ := hv'
          go_wp2_with (go_at_call 112; refine HN3.out.mono ?_; rintro e w' ⟨rfl, rfl⟩)
          go_ret
          exact HFIN.out
        have hh0 := Lib.hid hh
        clear hh
        by_cases hh : hdv s2 = 41
        ·
          have HN2 : Hid (Calls Try.prog 112 #[.pointer (some ⟨b, 0, none⟩)] wr fun e w' => e = .returned (.int .u8 (((41 : Nat)) : Int)) ∧ wr = w') := by
            have := (next_any b s2 false _ HRB2.out).mono (R' := fun e w' => e = .returned (.int .u8 (hdv s2 : Nat)) ∧ wr = w') fun _ _ ⟨h1, h2⟩ => ⟨h1, h2.symm⟩
            rw [hh] at this
            exact this
          have hh := Lib.hid hh
          go_wp2_with (first | (go_at_call 112; refine HN2.out.mono ?_; rintro e w' ⟨rfl, rfl⟩) | (at_builtin; refine wpList_append_own2 rfl _ _ 61 rfl w.heap.size 91 k0 (.slice none 0 0) 1 24 Try.underlying61 hk hy0 hy1 hy2 rfl (by decide) _ _ _ rfl (HOWN.out.alloc _) ⟨wr.heap.size, 0, none⟩ 1 1 [.slice va vn vc] rfl rfl ?c1 ?c2 ?c3 ?c4 ?c5 ?_))
          case c1 => intro j u hj; match j, hj with | 0, hj => simp at hj; subst hj; exact new_cell _ _ _ 0 _ rfl
          case c2 => intro u hu; simp at hu; subst hu; rfl
          case c3 => unfold maxLen; omega
          case c4 => omega
          case c5 => have := HRw2.out.size; simp; omega
          intro v' w2 hown' hgrow hblk
          have hal : Below wr.heap.size wr (wr.alloc (.cells #[.slice va vn vc] 91)) := (Below.refl _ _).alloc (Nat.le_refl _) _
          have hbase : ∀ g, u3.ownBlock = some g → w.heap.size ≤ g := fun g e => (HOWN.out.lt g e).1
          have hRB3 : RB b s2 false w2 := (HRB2.out.keep hal).grown hgrow (fun e => by have := hbase b e; omega)
          have hRw3 : Rw b w w2 := (HRw2.out.trans (Rw.of_below hal)).grown hgrow hbase
          have hc3 := hRB3.c1
          have hv' : ∃ a n c, v' = .slice a n c := by rcases hown'.2 with ⟨rfl, _⟩ | ⟨g, cap, cur, rfl, _⟩ <;> exact ⟨_, _, _, rfl⟩
          have hrow3 : RowAt 91 w.heap.size w2.heap.size IsB w2 v' (cs ++ [ps]) := HR2.out.snoc kB (HPR.out.isB hpsne) (Nat.le_refl _) (Nat.le_refl _) hal HOWN.out hown' hgrow (by simpa using hblk)
          have HN3 : Hid (Calls Try.prog 112 #[.pointer (some ⟨b, 0, none⟩)] w2 fun e w' => e = .returned (.int .u8 (((41 : Nat)) : Int)) ∧ w2 = w') := by
            have := (next_any b s2 false _ hRB3).mono (R' := fun e w' => e = .returned (.int .u8 (hdv s2 : Nat)) ∧ w2 = w') fun _ _ ⟨h1, h2⟩ => ⟨h1, h2.symm⟩
            rw [hh.out] at this
            exact this
          have hfin : PostC N b s0 w (.returned v') w2 := by
            have hend := end_stop heq2.out (starts_hd s2 (by rw [hh.out]; omega)) (by rw [hh.out]; omega)
            refine ⟨v', s2, false, rfl, hv', hRw3, hRB3, by omega, Or.inl ⟨rfl, _, s2, hend, stop_hd s2 (by rw [hh.out]; omega), rfl, ?_⟩⟩
            exact isC_parse hend hs (hrow3.isCs (by simp))
          have HFIN := Lib.hid hfin
          clear hfin hRB3 hRw3 hown' hgrow hblk hal hbase hc1 hrow3 HN2
          obtain ⟨xa, xn, xc, rfl⟩ := hv'
          go_wp2_with (go_at_call 112; refine HN3.out.mono ?_; rintro e w' ⟨rfl, rfl⟩)
          go_ret
          exact HFIN.out
        have hh41 := Lib.hid hh
        clear hh
        by_cases hh : hdv s2 = 43
        ·
          have HN2 : Hid (Calls Try.prog 112 #[.pointer (some ⟨b, 0, none⟩)] wr fun e w' => e = .returned (.int .u8 (((43 : Nat)) : Int)) ∧ wr = w') := by
            have := (next_any b s2 false _ HRB2.out).mono (R' := fun e w' => e = .returned (.int .u8 (hdv s2 : Nat)) ∧ wr = w') fun _ _ ⟨h1, h2⟩ => ⟨h1, h2.symm⟩
            rw [hh] at this
            exact this
          have hh := Lib.hid hh
          go_wp2_with (first | (go_at_call 112; refine HN2.out.mono ?_; rintro e w' ⟨rfl, rfl⟩) | (at_builtin; refine wpList_append_own2 rfl _ _ 61 rfl w.heap.size 91 k0 (.slice none 0 0) 1 24 Try.underlying61 hk hy0 hy1 hy2 rfl (by decide) _ _ _ rfl (HOWN.out.alloc _) ⟨wr.heap.size, 0, none⟩ 1 1 [.slice va vn vc] rfl rfl ?c1 ?c2 ?c3 ?c4 ?c5 ?_))
          case c1 => intro j u hj; match j, hj with | 0, hj => simp at hj; subst hj; exact new_cell _ _ _ 0 _ rfl
          case c2 => intro u hu; simp at hu; subst hu; rfl
          case c3 => unfold maxLen; omega
          case c4 => omega
          case c5 => have := HRw2.out.size; simp; omega
          intro v' w2 hown' hgrow hblk
          have hal : Below wr.heap.size wr (wr.alloc (.cells #[.slice va vn vc] 91)) := (Below.refl _ _).alloc (Nat.le_refl _) _
          have hbase : ∀ g, u3.ownBlock = some g → w.heap.size ≤ g := fun g e => (HOWN.out.lt g e).1
          have hRB3 : RB b s2 false w2 := (HRB2.out.keep hal).grown hgrow (fun e => by have := hbase b e; omega)
          have hRw3 : Rw b w w2 := (HRw2.out.trans (Rw.of_below hal)).grown hgrow hbase
          have hc3 := hRB3.c1
          have hv' : ∃ a n c, v' = .slice a n c := by rcases hown'.2 with ⟨rfl, _⟩ | ⟨g, cap, cur, rfl, _⟩ <;> exact ⟨_, _, _, rfl⟩
          have hrow3 : RowAt 91 w.heap.size w2.heap.size IsB w2 v' (cs ++ [ps]) := HR2.out.snoc kB (HPR.out.isB hpsne) (Nat.le_refl _) (Nat.le_refl _) hal HOWN.out hown' hgrow (by simpa using hblk)
          have HN3 : Hid (Calls Try.prog 112 #[.pointer (some ⟨b, 0, none⟩)] w2 fun e w' => e = .returned (.int .u8 (((43 : Nat)) : Int)) ∧ w2 = w') := by
            have := (next_any b s2 false _ hRB3).mono (R' := fun e w' => e = .returned (.int .u8 (hdv s2 : Nat)) ∧ w2 = w') fun _ _ ⟨h1, h2⟩ => ⟨h1, h2.symm⟩
            rw [hh.out] at this
            exact this
          obtain ⟨r', rfl⟩ : ∃ r', s2 = 43 :: r' := by
            cases s2 with
            | nil => have := hh.out; cases this
            | cons y r' => exact ⟨r', by rw [(u8_nat y 43 (by omega)).2 hh.out]; rfl⟩
          have hcl : (43 :: r' : List UInt8).length = r'.length + 1 := rfl
          have hc0 := hRB3.c0
          have hf0 := hRB3.f 0
          have hszr : 1 ≤ (ByteArray.mk (43 :: r').toArray).size := by rw [bsize]; simp
          have hts := Lib.hid (tail_slice 43 r')
          have hfin : OuterRel N b s0 w v' (w2.setCell ⟨b, 0, none⟩ (.string ⟨r'.toArray⟩)) := by
            refine ⟨cs ++ [ps], k' + 1 + 1, r', hRB3.set0 r', hRw3.trans (Rw.setCell _ _ _ _), by simp; omega, by omega, by omega, end_plus heq2.out, ?_⟩
            rw [set_size]
            exact hrow3.keep kB ((Rw.setCell _ _ _ _).keptIn hblt (Nat.le_refl _))
          have hrl3 := restLen_of (hRB3.set0 r')
          have HRL3 := Lib.hid hrl3
          have HFIN := Lib.hid hfin
          clear hfin hRB3 hRw3 hown' hgrow hblk hal hbase hc1 hrow3 HN2 hrl3
          obtain ⟨xa, xn, xc, rfl⟩ := hv'
          go_wp2_with (go_at_call 112; refine HN3.out.mono ?_; rintro e w' ⟨rfl, rfl⟩)
          rw [hts.out]
          go_wp2_with fail
          go_roundw
          case rel => exact HFIN.out
          case measure => rw [HRL3.out, HRL.out]; omega
        have hh43 := Lib.hid hh
        clear hh
        obtain ⟨j, rfl⟩ : ∃ j', j = j' + 1 + 1 := ⟨j - 2, by omega⟩
        have HP2 := Lib.hid (part_next N b (k' + 1 + 1) j s0 s2 cs ps wr IH.out HRB2.out hj hjN (by omega) heq2.out hh0.out hh43.out hh41.out)
        have e0 : (((hdv s2 : Nat) : Int) != 0) = true := by have := hh0.out; simp; omega
        have e1 : (((hdv s2 : Nat) : Int) != 41) = true := by have := hh41.out; simp; omega
        have e2 : (((hdv s2 : Nat) : Int) != 43) = true := by have := hh43.out; simp; omega
        have HN2 := Lib.hid ((next_any b s2 false _ HRB2.out).mono (R' := fun e w' => e = .returned (.int .u8 (hdv s2 : Nat)) ∧ wr = w') fun _ _ ⟨h1, h2⟩ => ⟨h1, h2.symm⟩)
        have hrl2 := Lib.hid (restLen_of HRB2.out)
        have hbn2 := Lib.hid (badN_of HRB2.out)
        generalize hdv s2 = hd at e0 e1 e2 HN2
        go_wp2_with (go_at_call 112; refine HN2.out.mono ?_; rintro e w' ⟨rfl, rfl⟩)
        refine HP2.out.mono ?_
        rintro e w3 ⟨uT3, ux3, s3, bad3, rfl, hRw3, hRB3, hsl3, hpost⟩
        have hsz3 := hRw3.size
        have hprow3 : RowAt 116 wo.heap.size wr.heap.size IsP w3 (.slice va vn vc) ps := HPR.out.keep kP (hRw3.keptIn (by omega) (Nat.le_refl _))
        obtain ⟨pvals, hpown, _⟩ := hprow3.owns
        have HPO := Lib.hid hpown
        have HPR3 := Lib.hid hprow3
        have HRW3 := Lib.hid hRw3
        have HRB3 := Lib.hid hRB3
        have HR3 : Hid (RowAt 91 w.heap.size wo.heap.size IsB w3 u3 cs) := HR2.out.keep kB (hRw3.keptIn hblt (by have := HRw2.out.size; omega))
        clear hprow3 hpown hRw3 hRB3 HP2 HN2
        go_wp2_with (at_builtin; refine wpList_append_own2 rfl _ _ 91 rfl wo.heap.size 116 i0 .nilIface 1 16 Try.underlying91 hi hz0 hz1 hz2 rfl (by decide) _ _ _ rfl (HPO.out.alloc _) ⟨w3.heap.size, 0, none⟩ 1 1 [.iface uT3 ux3] rfl rfl ?c1 ?c2 ?c3 ?c4 ?c5 ?_)
        case c1 => intro j u hj; match j, hj with | 0, hj => simp at hj; subst hj; exact new_cell _ _ _ 0 _ rfl
        case c2 => intro u hu; simp at hu; subst hu; rfl
        case c3 => unfold maxLen; omega
        case c4 => omega
        case c5 => simp; omega
        intro v' w4 hown' hgrow hblk
        have hal : Below w3.heap.size w3 (w3.alloc (.cells #[.iface uT3 ux3] 116)) := (Below.refl _ _).alloc (Nat.le_refl _) _
        have hbase : ∀ g, (Value.slice va vn vc).ownBlock = some g → wo.heap.size ≤ g := fun g e => (HPO.out.lt g e).1
        have hRB4 : RB b s3 bad3 w4 := (HRB3.out.keep hal).grown hgrow (fun e => by have := hbase b e; omega)
        have hRw4 : Rw b w w4 := ((HRw2.out.trans HRW3.out).trans (Rw.of_below hal)).grown hgrow (fun g e => by have := hbase g e; omega)
        have hrow4 : RowAt 91 w.heap.size wo.heap.size IsB w4 u3 cs := by
          refine HR3.out.keep kB ⟨Nat.le_trans hal.size hgrow.size, fun k k1 k2 => ?_⟩
          rw [hgrow.block k (by have := hal.size; omega) (fun e => by have := hbase k e.symm; omega), hal.block k (by omega)]
        have hfin : InnerRel N b (k' + 1 + 1) wo.heap.size s'.length s0 cs w u3 v' w4 := by
          refine ⟨s3, bad3, hRB4, hRw4, hrow4, by omega, ?_⟩
          rcases hpost with ⟨rfl, hlt3, p, heq3, hip⟩ | ⟨rfl, hng⟩
          · refine Or.inl ⟨rfl, by omega, j + 1, ps ++ [p], by omega, by omega, by simp, by simp; omega, heq3, ?_⟩
            exact HPR3.out.snoc kP hip (Nat.le_refl _) (Nat.le_refl _) hal HPO.out hown' hgrow (by simpa using hblk)
          · refine Or.inr ⟨rfl, hng, ?_⟩
            rcases hown'.2 with ⟨rfl, _⟩ | ⟨g, cap, cur, rfl, _⟩ <;> exact ⟨_, _, _, rfl⟩
        have hme : 2 * restLen b w4 + badN b w4 < 2 * restLen b wr + badN b wr := by
          rw [restLen_of hRB4, badN_of hRB4, hrl2.out, hbn2.out]
          rcases hpost with ⟨rfl, hlt3, _⟩ | ⟨rfl, _⟩ <;> simp <;> omega
        have HFIN := Lib.hid hfin
        have HME := Lib.hid hme
        clear hfin hme hRB4 hRw4 hrow4 hown' hgrow hblk hal hbase hpost
        go_wp2_with fail
        go_roundw
        case rel => exact HFIN.out
        case measure => exact HME.out
      · obtain ⟨vals, hown, htop⟩ := hrow2.owns
        have HNG := Lib.hid hng
        clear hrow2 hRw2 hRB2 hng
        have HOWN := Lib.hid hown
        clear hown
        go_wp2_with (at_builtin; refine wpList_append_own2 rfl _ _ 61 rfl w.heap.size 91 k0 (.slice none 0 0) 1 24 Try.underlying61 hk hy0 hy1 hy2 rfl (by decide) _ _ _ rfl (HOWN.out.alloc _) ⟨wr.heap.size, 0, none⟩ 1 1 [.slice va vn vc] rfl rfl ?c1 ?c2 ?c3 ?c4 ?c5 ?_)
        case c1 => intro j u hj; match j, hj with | 0, hj => simp at hj; subst hj; exact new_cell _ _ _ 0 _ rfl
        case c2 => intro u hu; simp at hu; subst hu; rfl
        case c3 => unfold maxLen; omega
        case c4 => omega
        case c5 => have := HRw2.out.size; simp; omega
        intro v' w2 hown' hgrow hblk
        have hal : Below wr.heap.size wr (wr.alloc (.cells #[.slice va vn vc] 91)) := (Below.refl _ _).alloc (Nat.le_refl _) _
        have hbase : ∀ g, u3.ownBlock = some g → w.heap.size ≤ g := fun g e => (HOWN.out.lt g e).1
        have hRB3 : RB b s2 true w2 := (HRB2.out.keep hal).grown hgrow (fun e => by have := hbase b e; omega)
        have hRw3 : Rw b w w2 := (HRw2.out.trans (Rw.of_below hal)).grown hgrow hbase
        have hc3 := hRB3.c1
        have hv' : ∃ a n c, v' = .slice a n c := by rcases hown'.2 with ⟨rfl, _⟩ | ⟨g, cap, cur, rfl, _⟩ <;> exact ⟨_, _, _, rfl⟩
        have hfin : PostC N b s0 w (.returned v') w2 := ⟨v', s2, true, rfl, hv', hRw3, hRB3, by omega, Or.inr ⟨rfl, HNG.out⟩⟩
        have HFIN := Lib.hid hfin
        clear hfin hRB3 hRw3 hown' hgrow hblk hal hbase hc1
        obtain ⟨xa, xn, xc, rfl⟩ := hv'
        go_wp2_with fail
        go_ret
        exact HFIN.out

/-- circuit, at every fuel -/
theorem circuit_all (N : Nat) : ∀ (s : List UInt8) (b : Nat) (w : World), RB b s false w → 3 * s.length + 3 ≤ N → s.length ≤ 200 → Calls Try.prog 89 #[.pointer (some ⟨b, 0, none⟩)] w (PostC N b s w) := by
  induction N using Nat.strongRecOn with
  | ind N ih => exact fun s b w h1 h2 h3 => circuit_any N ih s b w h1 h2 h3
end Go.Proofs.Ytfoeamgjjhfkdaa
