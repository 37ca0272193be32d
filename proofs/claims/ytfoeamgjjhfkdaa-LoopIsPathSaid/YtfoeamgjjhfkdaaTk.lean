/- part, over a circuit's contract. -/
import Derived.Test.YtfoeamgjjhfkdaaTj
namespace Go.Proofs.Ytfoeamgjjhfkdaa
open Go.Shelf Go.RowKit Go.Proofs L9

theorem set_size (w : World) (a : Addr) (u : Value) : (w.setCell a u).heap.size = w.heap.size := by simp [World.setCell]

/-- part's end behind a circuit in brackets that is none, or that no bracket ends -/
theorem post_bad {n b : Nat} {r s' : List UInt8} {w w' : World} {x : Value} (hn : pP (n + 1) (40 :: r) = none) (hRw : Rw b w w') (hs : s'.length ≤ r.length) (hB : RB b s' true w') :
    PostP (n + 1) b (40 :: r) w (.returned (.iface 61 x)) w' := by
  refine ⟨_, s', true, rfl, ⟨_, _, rfl⟩, hRw, hB, by simp; omega, ?_⟩
  rw [hn]

theorem pP_paren (n : Nat) (r : List UInt8) : pP (n + 1) (40 :: r) = (match pC n r with
      | none => none
      | some (c, r') => match r' with
        | [] => none
        | x :: r'' => if x = 41 then some (.circ c, r'') else none) := by
  rw [pP_cons, if_neg (by decide), if_pos rfl]; rfl
theorem pP_not_good {n : Nat} {r : List UInt8} (h : ¬ goodC n r) : pP (n + 1) (40 :: r) = none := by
  rw [pP_paren]
  cases hc : pC n r with
  | none => rfl
  | some y =>
    obtain ⟨c, r'⟩ := y
    cases r' with
    | nil => rfl
    | cons x r'' =>
      simp only
      by_cases h41 : x = 41
      · exact absurd ⟨c, _, hc, by simp [stopC, h41]⟩ h
      · rw [if_neg h41]

set_option maxHeartbeats 4000000 in
set_option maxRecDepth 100000 in
theorem part_any (n : Nat) (ihC : ∀ (s : List UInt8) (b : Nat) (w : World), RB b s false w → 3 * s.length + 3 ≤ n → s.length ≤ 200 → Calls Try.prog 89 #[.pointer (some ⟨b, 0, none⟩)] w (PostC n b s w))
    (s : List UInt8) (b : Nat) (w : World) (hb : RB b s false w) (hn : 3 * s.length + 1 ≤ n + 1) (hs : s.length ≤ 200) :
    Calls Try.prog 111 #[.pointer (some ⟨b, 0, none⟩)] w (PostP (n + 1) b s w) := by
  cases hst : starts s with
  | false => exact part_bad (n + 1) b s w hb hst
  | true =>
    cases s with
    | nil => cases hst
    | cons x r =>
      have hc0 := hb.c0
      have hf0 := hb.f 0
      have hsz : 1 ≤ (ByteArray.mk (x :: r).toArray).size := by rw [bsize]; simp
      have hts := Lib.hid (tail_slice x r)
      have HN := Lib.hid (next_any b (x :: r) false w hb)
      by_cases hl : isLet x = true
      · have HFIN := Lib.hid (post_of_let (n := n) hb hl)
        have hidx : Lib.indexByte [97, 98, 99, 100, 101, 102, 103, 104] (hdv (x :: r)).toUInt8 = (x.toNat : Int) - 97 := by
          rw [idxLet, show (hdv (x :: r)).toUInt8 = x by simp [hdv], if_pos hl]
        have hge : (0 : Int) ≤ (x.toNat : Int) - 97 := by rw [isLet_iff] at hl; omega
        have HIDX := Lib.hid hidx
        clear hidx hst hb hl
        generalize hdv (x :: r) = h at *
        generalize (x.toNat : Int) - 97 = i at *
        go_enter Try.func111, Try.ntmps111
        go_wp2_with fail
        refine HN.out.mono ?_
        rintro e w' ⟨rfl, rfl⟩
        go_wp2_with fail
        refine (Try.strings_IndexByte _ _ _).mono ?_
        rintro e w' ⟨rfl, rfl⟩
        rw [show (ByteArray.mk #[97, 98, 99, 100, 101, 102, 103, 104]).data.toList = [97, 98, 99, 100, 101, 102, 103, 104] from rfl, Int.toNat_natCast, HIDX.out]
        go_wp2_with fail
        rw [hts.out]
        go_wp2_with fail
        go_ret
        exact HFIN.out
      · have hx : x = 40 := by simp only [starts, Bool.or_eq_true, beq_iff_eq] at hst; exact hst.resolve_right hl
        subst hx
        have hlen : (40 :: r : List UInt8).length = r.length + 1 := rfl
        have hb1 := hb.set0 r
        have HC := Lib.hid (ihC r b _ hb1 (by omega) (by omega))
        have hidx : Lib.indexByte [97, 98, 99, 100, 101, 102, 103, 104] (hdv (40 :: r)).toUInt8 = -1 := rfl
        have HIDX := Lib.hid hidx
        have h40 : (((hdv (40 :: r) : Nat) : Int) != 40) = false := rfl
        have hlt := hb.lt
        clear hidx hst hb hl hb1
        generalize hdv (40 :: r) = h at *
        go_enter Try.func111, Try.ntmps111
        go_wp2_with fail
        refine HN.out.mono ?_
        rintro e w' ⟨rfl, rfl⟩
        go_wp2_with fail
        refine (Try.strings_IndexByte _ _ _).mono ?_
        rintro e w' ⟨rfl, rfl⟩
        rw [show (ByteArray.mk #[97, 98, 99, 100, 101, 102, 103, 104]).data.toList = [97, 98, 99, 100, 101, 102, 103, 104] from rfl, Int.toNat_natCast, HIDX.out]
        go_wp2_with fail
        rw [hts.out]
        go_wp2_with fail
        refine HC.out.mono ?_
        rintro e w2 ⟨v, s', bad', rfl, ⟨va, vn, vc, rfl⟩, hRw, hRB, hsl, hpost⟩
        have hRw' := (Rw.setCell b 0 w' (.string ⟨r.toArray⟩)).trans hRw
        have hc0' := hRB.c0
        have hf0' := hRB.f 0
        have hf1' := hRB.f 1
        have HN2 := Lib.hid (next_any b s' bad' w2 hRB)
        by_cases h41 : hdv s' = 41
        · obtain ⟨r'', rfl⟩ : ∃ r'', s' = 41 :: r'' := by
            cases s' with
            | nil => cases h41
            | cons y r'' => exact ⟨r'', by rw [(u8_nat y 41 (by omega)).2 h41]; rfl⟩
          have hts2 := Lib.hid (tail_slice 41 r'')
          have hsz2 : 1 ≤ (ByteArray.mk (41 :: r'').toArray).size := by rw [bsize]; simp
          have hfin : PostP (n + 1) b (40 :: r) w' (.returned (.iface 61 (.slice va vn vc))) (w2.setCell ⟨b, 0, none⟩ (.string ⟨r''.toArray⟩)) := by
            have hl2 : (41 :: r'' : List UInt8).length = r''.length + 1 := rfl
            rcases hpost with ⟨rfl, c, r1, hpc, hstop, rfl, hC⟩ | ⟨rfl, hng⟩
            · refine ⟨_, r'', false, rfl, ⟨_, _, rfl⟩, hRw'.trans (Rw.setCell _ _ _ _), hRB.set0 _, by omega, ?_⟩
              rw [pP_paren, hpc]
              simp only [if_pos]
              refine ⟨trivial, trivial, by omega, ?_, Or.inr ⟨_, c, rfl, rfl, ?_⟩⟩
              · exact Nat.le_refl _
              · rw [set_size] at hC ⊢
                exact hC.keep ((Rw.setCell _ _ _ _).keptIn hlt (Nat.le_refl _))
            · exact post_bad (pP_not_good hng) (hRw'.trans (Rw.setCell _ _ _ _)) (by omega) (hRB.set0 _)
          have HFIN := Lib.hid hfin
          clear hfin hpost hRB hc0
          generalize hdv (41 :: r'') = h2 at *
          subst h41
          go_wp2_with fail
          refine HN2.out.mono ?_
          rintro e w3 ⟨rfl, rfl⟩
          go_wp2_with fail
          rw [hts2.out]
          go_wp2_with fail
          go_ret
          exact HFIN.out
        · have hfin : PostP (n + 1) b (40 :: r) w' (.returned (.iface 61 (.slice va vn vc))) (w2.setCell ⟨b, 1, none⟩ (.bool true)) := by
            refine post_bad (s' := s') ?_ (hRw'.trans (Rw.setCell _ _ _ _)) hsl (hRB.set1 true)
            rcases hpost with ⟨rfl, c, r1, hpc, hstop, rfl, hC⟩ | ⟨rfl, hng⟩
            · rw [pP_paren, hpc]
              cases r1' : s' with
              | nil => rfl
              | cons y r'' =>
                simp only
                rw [if_neg]
                intro e
                apply h41
                rw [r1', e]
                rfl
            · exact pP_not_good hng
          have HFIN := Lib.hid hfin
          have hne : (((hdv s' : Nat) : Int) != 41) = true := by simp; omega
          have hc1' := hRB.c1
          clear hfin hpost hRB hc0
          generalize hdv s' = h2 at *
          go_wp2_with fail
          refine HN2.out.mono ?_
          rintro e w3 ⟨rfl, rfl⟩
          go_wp2_with fail
          go_ret
          exact HFIN.out
end Go.Proofs.Ytfoeamgjjhfkdaa
