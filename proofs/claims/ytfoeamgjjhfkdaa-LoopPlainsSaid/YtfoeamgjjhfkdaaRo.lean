/- The reference's list of all sets: the plain side. The reference's list of all sets, walked. The reference's list of all sets, walked: the loops. -/
import Derived.Test.YtfoeamgjjhfkdaaRl
import Derived.ArgAppend
import Derived.Deep.RegionHeld3
namespace Go.Proofs.Ytfoeamgjjhfkdaa
open Go Go.Shelf Go.RowKit Go.Proofs L9

/-- is the text of a set behind that of another, byte by byte -/
def gtT (a b : Nat) : Bool := !(Op.bytesLess (txt a) (txt b) || txt a == txt b)

/-- where n goes, looked for from place i down -/
def posOf (L : List Nat) (n : Nat) : Nat → Nat
  | 0 => 0
  | i + 1 => if gtT (L.getD i 0) n then posOf L n i else i + 1
def insL (L : List Nat) (n : Nat) : List Nat := L.take (posOf L n L.length) ++ n :: L.drop (posOf L n L.length)
def rowStep (k : Nat) (L : List Nat) (n : Nat) : List Nat := if (txt n).length = k then insL L n else L
def rowTo (k m : Nat) : List Nat := (List.range m).foldl (rowStep k) []
def allTo : Nat → List Nat
  | 0 => []
  | k + 1 => allTo k ++ rowTo k 256
theorem rowTo_succ (k m : Nat) : rowTo k (m + 1) = rowStep k (rowTo k m) m := by
  unfold rowTo
  rw [List.range_succ, List.foldl_append]
  rfl
theorem posOf_le (L : List Nat) (n : Nat) : ∀ i, posOf L n i ≤ i
  | 0 => Nat.le_refl _
  | i + 1 => by
    unfold posOf
    split
    · have := posOf_le L n i; omega
    · exact Nat.le_refl _
theorem insL_len (L : List Nat) (n : Nat) : (insL L n).length = L.length + 1 := by
  have := posOf_le L n L.length
  unfold insL
  simp
  omega
theorem rowTo_len (k : Nat) : ∀ m, (rowTo k m).length ≤ m
  | 0 => by simp [rowTo]
  | m + 1 => by
    rw [rowTo_succ]
    have := rowTo_len k m
    unfold rowStep
    split
    · rw [insL_len]; omega
    · omega
theorem insL_mem (L : List Nat) (n x : Nat) (h : x ∈ insL L n) : x = n ∨ x ∈ L := by
  unfold insL at h
  rcases List.mem_append.1 h with h | h
  · exact Or.inr (List.mem_of_mem_take h)
  · rcases List.mem_cons.1 h with h | h
    · exact Or.inl h
    · exact Or.inr (List.mem_of_mem_drop h)
theorem rowTo_lt (k : Nat) : ∀ m, ∀ x ∈ rowTo k m, x < m
  | 0 => by simp [rowTo]
  | m + 1 => by
    rw [rowTo_succ]
    intro x hx
    unfold rowStep at hx
    split at hx
    · rcases insL_mem _ _ _ hx with h | h
      · omega
      · have := rowTo_lt k m x h; omega
    · have := rowTo_lt k m x hx; omega
theorem all_is_order : allTo 9 = order := by decide +kernel
theorem allTo_len : ∀ k, (allTo k).length ≤ 256 * k
  | 0 => by simp [allTo]
  | k + 1 => by
    have := allTo_len k
    have := rowTo_len k 256
    unfold allTo
    rw [List.length_append]
    omega
end Go.Proofs.Ytfoeamgjjhfkdaa

namespace Go.Proofs.Ytfoeamgjjhfkdaa
open Go Go.Shelf Go.RowKit Go.Proofs L9

def intV (j : Nat) : Value := .int .i64 (j : Nat)
theorem intV_one (l : List Nat) : ∀ u ∈ l.map intV, u.oneCell' = true := by
  intro u hu
  obtain ⟨j, _, rfl⟩ := List.mem_map.1 hu
  rfl
theorem cells_news {w : World} {g o : Nat} {l : List Nat} (h : ∀ j, j < l.length → w.cell? ⟨g, o + j, none⟩ = some (intV (l.getD j 0))) : ∀ j u, (l.map intV)[j]? = some u → w.cell? ((⟨g, o, none⟩ : Addr).add j) = some u := by
  intro j u hu
  rw [Addr.add_lit]
  have hj : j < l.length := by have := (List.getElem?_eq_some_iff.1 hu).1; simpa using this
  rw [h j hj]
  rw [List.getElem?_map, List.getElem?_eq_getElem hj] at hu
  rw [List.getD_eq_getElem?_getD, List.getElem?_eq_getElem hj]
  simpa using hu
theorem infoInt : (Try.prog.info? 3).map (fun i => (i.zero, i.size, i.bytes)) = some (some (.int .i64 0), 1, 8) := by kernel_rfl

/-- the cells of a row of one's own -/
theorem row_cells {w : World} {base : Nat} {v : Value} {l : List Nat} (h : w.ownsRow base 3 1 v l.length (l.map intV)) (hl : 0 < l.length) :
    ∃ g cap, v = .slice (some ⟨g, 0, none⟩) l.length cap ∧ base ≤ g ∧ g < w.heap.size ∧ l.length ≤ cap ∧ cap ≤ maxLen ∧ ∀ j, j < l.length → w.cell? ⟨g, j, none⟩ = some (intV (l.getD j 0)) := by
  rcases h.2 with ⟨_, h0⟩ | ⟨g, cap, cur, rfl, hb, hg, hnc, hcm, _⟩
  · omega
  · refine ⟨g, cap, rfl, hb, heap_lt hg, hnc, hcm, fun j hj => ?_⟩
    rw [h.cellAt j (by omega), List.getElem?_map, List.getElem?_eq_getElem hj, List.getD_eq_getElem?_getD, List.getElem?_eq_getElem hj]
    rfl

theorem ins1 (w : World) (b1 n : Nat) (hown : w.ownsRow b1 3 1 (.slice (some ⟨b1, 0, none⟩) 1 1) 1 [intV n]) (hb : b1 ≤ w.heap.size) (x : Value) (news : List Nat)
    (hx : (x = .slice none 0 0 ∧ news = []) ∨ ∃ g o c, x = .slice (some ⟨g, o, none⟩) news.length c ∧ ∀ j, j < news.length → w.cell? ⟨g, o + j, none⟩ = some (intV (news.getD j 0))) (hl : news.length ≤ 1000) (ty : TypeId) :
    ∃ v' w', (Builtin.append_ #[46, 46] ty #[.slice (some ⟨b1, 0, none⟩) 1 1, x]).run Try.prog w = .ok v' w' ∧ w'.ownsRow b1 3 1 v' (n :: news).length ((n :: news).map intV) ∧ Below b1 w w' := by
  obtain ⟨i0, hi, hz0, hz1, hz2⟩ := info_parts infoInt
  rcases hx with ⟨rfl, rfl⟩ | ⟨g, o, c, rfl, hc⟩
  · exact ⟨_, _, run_append_owned_none (P := Try.prog) w b1 46 ty 3 i0 1 Try.underlying46 hi _ 1 _ hown, hown, Below.refl _ _⟩
  · obtain ⟨v', w', hr, h1, h2, _⟩ := run_append_own2 (P := Try.prog) w b1 46 ty 3 i0 _ 1 8 Try.underlying46 hi hz0 hz1 hz2 rfl (by decide) _ 1 _ hown ⟨g, o, none⟩ news.length c (news.map intV) (by simp) (cells_news hc) (intV_one news) (by unfold maxLen; omega) (by omega) hb
    refine ⟨v', w', hr, by simpa [Nat.add_comm] using h1, ⟨h2.os, h2.tape, h2.output, h2.size, fun k hk => h2.block k (by omega) (by simp [Value.ownBlock]; omega)⟩⟩

theorem ins2 (w : World) (B0 : Nat) (x v : Value) (olds news : List Nat)
    (hx : (x = .slice none 0 0 ∧ olds = []) ∨ ∃ g, x = .slice (some ⟨g, 0, none⟩) olds.length olds.length ∧ ∀ j, j < olds.length → w.cell? ⟨g, j, none⟩ = some (intV (olds.getD j 0)))
    (hv : w.ownsRow B0 3 1 v news.length (news.map intV)) (hn : 0 < news.length) (hl : olds.length + news.length ≤ 1000) (ty : TypeId) :
    ∃ v' w', (Builtin.append_ #[46, 46] ty #[x, v]).run Try.prog w = .ok v' w' ∧ w'.ownsRow w.heap.size 3 1 v' (olds ++ news).length ((olds ++ news).map intV) ∧ Below w.heap.size w w' := by
  obtain ⟨i0, hi, hz0, hz1, hz2⟩ := info_parts infoInt
  obtain ⟨g', cap', rfl, _, _, _, _, hc'⟩ := row_cells hv hn
  have hnews := cells_news (o := 0) (l := news) (fun j hj => by rw [Nat.zero_add]; exact hc' j hj)
  rcases hx with ⟨rfl, rfl⟩ | ⟨g, rfl, hc⟩
  · obtain ⟨v', w', hr, h1, h2, _⟩ := run_append_own2 (P := Try.prog) w w.heap.size 46 ty 3 i0 _ 1 8 Try.underlying46 hi hz0 hz1 hz2 rfl (by decide) _ 0 [] (World.ownsRow_nil _ _ _ _) ⟨g', 0, none⟩ news.length cap' (news.map intV) (by simp) hnews (intV_one news) (by simp at hl; unfold maxLen; omega) (by simp at hl; omega) (Nat.le_refl _)
    exact ⟨v', w', hr, by simpa using h1, ⟨h2.os, h2.tape, h2.output, h2.size, fun k hk => h2.block k hk (by simp [Value.ownBlock])⟩⟩
  · have holds := cells_news (o := 0) (l := olds) (fun j hj => by rw [Nat.zero_add]; exact hc j hj)
    obtain ⟨v', w', hr, h1, h2⟩ := run_append_arg_grows (P := Try.prog) w 46 ty 3 i0 _ 1 8 Try.underlying46 hi hz0 hz1 hz2 rfl (by decide) ⟨g, 0, none⟩ olds.length olds.length (olds.map intV) (by simp) holds ⟨g', 0, none⟩ news.length cap' (news.map intV) (by simp) hnews (by omega) (by unfold maxLen; omega) (by omega)
    exact ⟨v', w', hr, by simpa using h1, ⟨h2.os, h2.tape, h2.output, h2.size, fun k hk => h2.block k hk (by simp)⟩⟩

theorem ins1r (w : World) (b1 n : Nat) (hown : w.ownsRow b1 3 1 (.slice (some ⟨b1, 0, none⟩) 1 1) 1 [intV n]) (hb : b1 ≤ w.heap.size) (g o c k : Nat) (news : List Nat) (hk : news.length = k)
    (hc : ∀ j, j < news.length → w.cell? ⟨g, o + j, none⟩ = some (intV (news.getD j 0))) (hl : news.length ≤ 1000) (ty : TypeId) :
    ∃ v' w', (Builtin.append_ #[46, 46] ty #[.slice (some ⟨b1, 0, none⟩) 1 1, .slice (some ⟨g, o, none⟩) k c]).run Try.prog w = .ok v' w' ∧ w'.ownsRow b1 3 1 v' (n :: news).length ((n :: news).map intV) ∧ Below b1 w w' := by
  subst hk
  exact ins1 w b1 n hown hb _ news (Or.inr ⟨g, o, c, rfl, hc⟩) hl ty
theorem ins2r (w : World) (B0 : Nat) (v : Value) (g k k2 : Nat) (olds news : List Nat) (hk : olds.length = k) (hk2 : olds.length = k2) (hc : ∀ j, j < olds.length → w.cell? ⟨g, j, none⟩ = some (intV (olds.getD j 0)))
    (hv : w.ownsRow B0 3 1 v news.length (news.map intV)) (hn : 0 < news.length) (hl : olds.length + news.length ≤ 1000) (ty : TypeId) :
    ∃ v' w', (Builtin.append_ #[46, 46] ty #[.slice (some ⟨g, 0, none⟩) k k2, v]).run Try.prog w = .ok v' w' ∧ w'.ownsRow w.heap.size 3 1 v' (olds ++ news).length ((olds ++ news).map intV) ∧ Below w.heap.size w w' := by
  subst hk; subst hk2
  exact ins2 w B0 _ v olds news (Or.inr ⟨g, rfl, hc⟩) hv hn hl ty

/-- an append at a step of a region that draws its order, by its run -/
theorem step_append_run {P : Program} {ops : Array Oper} {o : Oper} {a : Act} {w : World} {K : Act → World → Prop} {Q : Exit → Act → World → Prop} {E : Prop} (hgd : o.guard = none) (s x : Operand) (t : TypeId)
    (ho : o.op = .call { callee := .builtin .append, args := #[s, x], argTypes := #[t, t] }) (v u : Value) (hs : a.eval s = v) (hx : a.eval x = u) {R : Value → World → Prop}
    (hrun : ∃ v' w', (Builtin.append_ #[t, t] o.type #[v, u]).run P w = .ok v' w' ∧ R v' w') (h : ∀ v' w', R v' w' → K (a.put o.dst v') w') :
    if Region.wanted o (yielded ops a.tmps) = true then Oper.wp P o a w K Q else E := by
  have hw : Region.wanted o (yielded ops a.tmps) = true := by simp [Region.wanted, hgd]
  rw [if_pos hw]
  obtain ⟨v', w', hr, hR⟩ := hrun
  unfold Oper.wp execOp
  simp only [ho, resolve, invoke, builtin, Sem.run_bind, Sem.run_pure, Result.andThen_ok, List.map_toArray, List.map_cons, List.map_nil, hs, hx, hr]
  exact h v' w' hR
end Go.Proofs.Ytfoeamgjjhfkdaa

namespace Go.Proofs.Ytfoeamgjjhfkdaa
open Go Go.Shelf Go.RowKit Go.Proofs L9

theorem rowTo_pos : ∀ k, k < 9 → 0 < (rowTo k 256).length := by
  have : (List.range 9).all (fun k => decide (0 < (rowTo k 256).length)) = true := by decide +kernel
  intro k hk
  rw [List.all_eq_true] at this
  simpa using this k (List.mem_range.2 hk)

theorem cmp_text (a b : Nat) : (Op.bytesLess (⟨(txt a).toArray⟩ : ByteArray).toList (⟨(txt b).toArray⟩ : ByteArray).toList || (⟨(txt a).toArray⟩ : ByteArray).toList == (⟨(txt b).toArray⟩ : ByteArray).toList) = !gtT a b := by
  unfold gtT
  rw [ByteArray.toList_eq, ByteArray.toList_eq]
  simp

theorem posOf_succ (L : List Nat) (n i : Nat) : posOf L n (i + 1) = if gtT (L.getD i 0) n then posOf L n i else i + 1 := rfl

theorem own_one {w : World} {b n : Nat} (h : w.heap[b]? = some (.cells #[intV n] 3 (0, 0))) : w.ownsRow b 3 1 (.slice (some ⟨b, 0, none⟩) 1 1) 1 [intV n] :=
  ⟨rfl, Or.inr ⟨b, 1, _, rfl, Nat.le_refl _, h, Nat.le_refl _, by decide, rfl, rfl⟩⟩

theorem own_mono {w : World} {B B' : Nat} {v : Value} {n : Nat} {xs : List Value} (h : w.ownsRow B 3 1 v n xs) (hb : B' ≤ B) : w.ownsRow B' 3 1 v n xs :=
  ⟨h.1, h.2.imp id fun ⟨g, cap, cur, h1, h2, h3⟩ => ⟨g, cap, cur, h1, Nat.le_trans hb h2, h3⟩⟩
theorem own_keep {w w' : World} {B : Nat} {v : Value} {n : Nat} {xs : List Value} (h : w.ownsRow B 3 1 v n xs) (hb : Below w.heap.size w w') : w'.ownsRow B 3 1 v n xs :=
  ⟨h.1, h.2.imp id fun ⟨g, cap, cur, h1, h2, h3, h4⟩ => ⟨g, cap, cur, h1, h2, by rw [hb.block g (heap_lt h3)]; exact h3, h4⟩⟩
/-- where the walk of all stands inside the second loop -/
def SetRel (w : World) (kk : Nat) (out l : Value) (m : Nat) (wr : World) : Prop :=
  wr.ownsRow w.heap.size 3 1 l (rowTo kk m).length ((rowTo kk m).map intV) ∧ wr.ownsRow w.heap.size 3 1 out (allTo kk).length ((allTo kk).map intV) ∧ Below w.heap.size w wr

/-- the second loop's relation behind an insertion -/
theorem SetRel.next {w w' w1 w2 W : World} {kk m : Nat} {out v2 : Value} {l' : List Nat} (hS : rowTo kk (m + 1) = l') (hown : w'.ownsRow w.heap.size 3 1 out (allTo kk).length ((allTo kk).map intV)) (hb : Below w.heap.size w w')
    (hW : Below w'.heap.size w' W) (h1 : Below w'.heap.size W w1) (h2 : Below w1.heap.size w1 w2) (hv : w2.ownsRow w1.heap.size 3 1 v2 l'.length (l'.map intV)) : SetRel w kk out v2 (m + 1) w2 := by
  have hb1 : Below w'.heap.size w' w1 := hW.trans h1
  have hb2 : Below w'.heap.size w' w2 := hb1.trans (h2.mono hb1.size)
  refine ⟨?_, own_keep hown hb2, hb.trans (hb2.mono hb.size)⟩
  rw [hS]
  exact own_mono hv (Nat.le_trans hb.size hb1.size)

set_option maxHeartbeats 4000000 in
set_option maxRecDepth 100000 in
theorem refSets (w : World) : Calls Try.prog 77 #[] w fun e w' => ∃ v, e = .returned v ∧ IntsR w' v order ∧ Below w.heap.size w w' := by
  obtain ⟨i0, hi, hz0, hz1, hz2⟩ := info_parts infoInt
  go_enter Try.func77, Try.ntmps77
  go_wp2
  go_loopw [1, 2, 3, 4, 5] (fun out k _ _ _ wr => ∃ kk : Nat, kk ≤ 9 ∧ k = .int .i64 kk ∧ wr.ownsRow w.heap.size 3 1 out (allTo kk).length ((allTo kk).map intV) ∧ Below w.heap.size w wr) (fun _ k _ _ _ _ => 9 - (intOf k).toNat)
  case atStart => exact ⟨0, by omega, rfl, World.ownsRow_nil _ _ _ _, Below.refl _ _⟩
  case round =>
    obtain ⟨kk, hkk, rfl, hown, hb⟩ := hrel
    by_cases hlt : kk < 9
    · have hstart : SetRel w kk u1 (.slice none 0 0) 0 wr := ⟨World.ownsRow_nil _ _ _ _, hown, hb⟩
      have HST := Lib.hid hstart
      clear hown hb hstart
      go_wp2_with fail
      rw [show decide ((kk : Int) ≤ 8) = true from by simp; omega]
      go_loopw [3, 4, 5] (fun l n _ wx => ∃ m : Nat, m ≤ 256 ∧ n = .int .i64 m ∧ SetRel w kk u1 l m wx) (fun _ n _ _ => 256 - (intOf n).toNat)
      case atStart => exact ⟨0, by omega, rfl, HST.out⟩
      case round =>
        obtain ⟨m, hm, rfl, hl, hown, hb⟩ := hrel
        clear HST
        have HL := Lib.hid hl
        have HOWN := Lib.hid hown
        have HB := Lib.hid hb
        clear hl hown hb
        by_cases hm2 : m < 256
        · have HSZ := Lib.hid (fun W => refSize m hm2 W)
          have HSUCC := Lib.hid (rowTo_succ kk m)
          have hLlen := rowTo_len kk m
          have hLlt := rowTo_lt kk m
          have htl : (txt m).length ≤ 8 := by have := txtTo_len m 8; exact this
          generalize hx : (txt m).length = x at *
          have HX := Lib.hid hx
          clear hx
          by_cases hxk : x = kk
          · subst hxk
            have hsucc : rowTo x (m + 1) = insL (rowTo x m) m := by rw [HSUCC.out]; unfold rowStep; rw [if_pos HX.out]
            have HS2 := Lib.hid hsucc
            clear hsucc HSUCC
            generalize hL : rowTo x m = L at *
            have HLL := Lib.hid hL
            clear hL
            have hLt : ∀ y ∈ L, y < 256 := fun y hy => Nat.lt_of_lt_of_le (hLlt y hy) (by omega)
            have HLT := Lib.hid hLt
            clear hLlt hLt
            have hlen0 : L.length ≤ 255 := by omega
            have HTm := Lib.hid (fun W => refText m hm2 W)
            rcases HL.out.2 with ⟨rfl, h0⟩ | ⟨g, cap, cur, rfl, hgb, hg, hnc, hcm, _⟩
            · have hL0 : L = [] := List.length_eq_zero_iff.1 h0
              subst hL0
              clear h0
              go_wp2_with (go_at_call 84; refine (HSZ.out _).mono ?_; rintro e w' ⟨rfl, rfl⟩)
              go_loop [5] (fun i => i = .int .i64 0) (fun _ => 0)
              case atStart => rfl
              case round =>
                obtain rfl := hrel
                go_wp2_with fail
                go_region_held3 (fun _ => True) (trivial) (first | (refine step_append_run (by rfl) (.tmp 40) (.tmp 43) 46 (by rfl) _ _ (by rfl) (by rfl) (ins1 _ w'.heap.size m (own_one (by exact alloc_last w' _)) (by simp) _ [] (Or.inl ⟨rfl, rfl⟩) (by simp) _) ?_; intro v1 w1 hR1) | (refine step_append_run (by rfl) (.tmp 38) (.tmp 44) 46 (by rfl) _ _ (by rfl) (by rfl) (ins2 w1 _ _ v1 [] [m] (Or.inl ⟨rfl, rfl⟩) hR1.1 (by simp) (by simp) _) ?_; intro v2 w2 hR2))
                have hrelN : SetRel w x u1 v2 (m + 1) w2 := SetRel.next (by rw [HS2.out]; rfl) HOWN.out HB.out (((Below.refl _ _).alloc (Nat.le_refl _) _).drew) hR1.2 hR2.2 hR2.1
                have HREL := Lib.hid hrelN
                clear hrelN hR1 hR2
                go_wp2_with fail
                go_roundw
                case rel => exact ⟨m + 1, by omega, by go_num, HREL.out⟩
                case measure => simp [intOf]; omega
            · have hcells : ∀ j, j < L.length → wr.cell? ⟨g, j, none⟩ = some (intV (L.getD j 0)) := by
                intro j hj
                rw [HL.out.cellAt j (by omega), List.getElem?_map, List.getElem?_eq_getElem hj, List.getD_eq_getElem?_getD, List.getElem?_eq_getElem hj]
                rfl
              have HC := Lib.hid hcells
              have hg2 := heap_lt hg
              clear hcells hg
              generalize hN : L.length = N at *
              have HN := Lib.hid hN
              clear hN
              unfold maxLen at hcm
              go_wp2_with (go_at_call 84; refine (HSZ.out _).mono ?_; rintro e w' ⟨rfl, rfl⟩)
              go_loop [5] (fun i => ∃ j : Nat, j ≤ N ∧ i = .int .i64 j ∧ posOf L m N = posOf L m j) (fun i => (intOf i).toNat)
              case atStart => exact ⟨N, Nat.le_refl _, rfl, rfl⟩
              case round =>
                obtain ⟨j, hj, rfl, hpos⟩ := hrel
                have HPOS := Lib.hid hpos
                clear hpos
                by_cases hj0 : 0 < j
                · obtain ⟨a, ha⟩ : ∃ a, L.getD (j - 1) 0 = a := ⟨_, rfl⟩
                  have hc := HC.out (j - 1) (by omega)
                  rw [ha] at hc
                  have hc : w'.cell? ⟨g, j - 1, none⟩ = some (.int .i64 (a : Nat)) := hc
                  have ha2 : a < 256 := by
                    rw [← ha, List.getD_eq_getElem?_getD, List.getElem?_eq_getElem (by rw [HN.out]; omega)]
                    exact HLT.out _ (List.getElem_mem _)
                  have hpos2 := HPOS.out
                  rw [show j = (j - 1) + 1 by omega, posOf_succ, ha] at hpos2
                  have HP2 := Lib.hid hpos2
                  have HTa := Lib.hid (fun W => refText a ha2 W)
                  have hcmp := cmp_text a m
                  have hw : IntKind.i64.wrap ((j : Int) - 1) = ((j - 1 : Nat) : Int) := by rw [IntKind.wrap_i64]; omega
                  clear hpos2 ha
                  generalize (⟨(txt a).toArray⟩ : ByteArray) = Sa at *
                  generalize (⟨(txt m).toArray⟩ : ByteArray) = Sm at *
                  cases hz : gtT a m with
                  | true =>
                    rw [hz] at hcmp
                    have hpp : posOf L m N = posOf L m (j - 1) := by rw [HP2.out, if_pos hz]
                    have HPP := Lib.hid hpp
                    clear hpp hz HP2 HPOS
                    go_wp2_with fail
                    refine (HTa.out _).mono ?_
                    rintro e w'' ⟨rfl, rfl⟩
                    go_wp2_with fail
                    refine (HTm.out _).mono ?_
                    rintro e w'' ⟨rfl, rfl⟩
                    clear hw
                    go_wp2_with fail
                    go_round
                    case rel => exact ⟨j - 1, by omega, by go_num, HPP.out⟩
                    case measure => simp [intOf]; omega
                  | false =>
                    rw [hz] at hcmp
                    have hpp : posOf L m N = j := by rw [HP2.out, if_neg (by rw [hz]; simp)]; omega
                    have HPP := Lib.hid hpp
                    clear hpp hz HP2 HPOS
                    go_wp2_with fail
                    refine (HTa.out _).mono ?_
                    rintro e w'' ⟨rfl, rfl⟩
                    go_wp2_with fail
                    refine (HTm.out _).mono ?_
                    rintro e w'' ⟨rfl, rfl⟩
                    clear hw
                    go_wp2_with fail
                    have z0 : (0 : Int) ≤ (j : Int) := Int.natCast_nonneg _
                    have z1 : (j : Int) ≤ (N : Int) := by omega
                    have z2 : (j : Int) ≤ (cap : Int) := by omega
                    have z3 : (N : Int) ≤ (cap : Int) := by omega
                    have hd : ∀ W, Below w''.heap.size w'' W → ∀ i, i < (L.drop j).length → W.cell? ⟨g, j + i, none⟩ = some (intV ((L.drop j).getD i 0)) := by
                      intro W hW i hi
                      rw [List.length_drop, HN.out] at hi
                      rw [hW.cell (p := ⟨g, j + i, none⟩) hg2, HC.out (j + i) (by omega)]
                      simp [List.getD_eq_getElem?_getD]
                    have ht : ∀ W, Below w''.heap.size w'' W → ∀ i, i < (L.take j).length → W.cell? ⟨g, i, none⟩ = some (intV ((L.take j).getD i 0)) := by
                      intro W hW i hi
                      rw [List.length_take, HN.out] at hi
                      rw [hW.cell (p := ⟨g, i, none⟩) hg2, HC.out i (by omega)]
                      simp [List.getD_eq_getElem?_getD, show i < j by omega]
                    have HD := Lib.hid hd
                    have HTK := Lib.hid ht
                    have hA : Below w''.heap.size w'' ((w''.alloc (.cells #[intV m] 3)).drew) := ((Below.refl _ _).alloc (Nat.le_refl _) _).drew
                    have HA := Lib.hid hA
                    have hdl : (L.drop j).length = N - j := by rw [List.length_drop, HN.out]
                    have HDL := Lib.hid hdl
                    have htl2 : (L.take j).length = j := by rw [List.length_take, HN.out]; omega
                    have HTL := Lib.hid htl2
                    have hfin : rowTo x (m + 1) = L.take j ++ m :: L.drop j := by rw [HS2.out]; unfold insL; rw [HN.out, HPP.out]
                    have HFIN := Lib.hid hfin
                    clear hd ht hA hdl htl2 hfin
                    by_cases hcap : cap = j
                    · go_region_held3 (fun _ => True) (trivial) (first | (refine step_append_run (by rfl) (.tmp 40) (.tmp 43) 46 (by rfl) _ _ (by rfl) (by rfl) (ins1r _ w''.heap.size m (own_one (by exact alloc_last w'' _)) (by simp) g 0 _ _ (L.drop j) HDL.out (by intro i hi; rw [HDL.out] at hi; omega) (by rw [HDL.out]; omega) _) ?_; intro v1 w1 hR1) | (refine step_append_run (by rfl) (.tmp 38) (.tmp 44) 46 (by rfl) _ _ (by rfl) (by rfl) (ins2r w1 _ v1 g _ _ (L.take j) (m :: L.drop j) HTL.out HTL.out (HTK.out _ (HA.out.trans hR1.2)) hR1.1 (by simp) (by rw [HTL.out, List.length_cons, HDL.out]; omega) _) ?_; intro v2 w2 hR2))
                      have hrelN : SetRel w x u1 v2 (m + 1) w2 := SetRel.next HFIN.out HOWN.out HB.out HA.out hR1.2 hR2.2 hR2.1
                      have HREL := Lib.hid hrelN
                      clear hrelN hR1 hR2
                      go_wp2_with fail
                      go_roundw
                      case rel => exact ⟨m + 1, by omega, by go_num, HREL.out⟩
                      case measure => simp [intOf]; omega
                    · go_region_held3 (fun _ => True) (trivial) (first | (refine step_append_run (by rfl) (.tmp 40) (.tmp 43) 46 (by rfl) _ _ (by rfl) (by rfl) (ins1r _ w''.heap.size m (own_one (by exact alloc_last w'' _)) (by simp) g j _ _ (L.drop j) HDL.out (HD.out _ HA.out) (by rw [HDL.out]; omega) _) ?_; intro v1 w1 hR1) | (refine step_append_run (by rfl) (.tmp 38) (.tmp 44) 46 (by rfl) _ _ (by rfl) (by rfl) (ins2r w1 _ v1 g _ _ (L.take j) (m :: L.drop j) HTL.out HTL.out (HTK.out _ (HA.out.trans hR1.2)) hR1.1 (by simp) (by rw [HTL.out, List.length_cons, HDL.out]; omega) _) ?_; intro v2 w2 hR2))
                      have hrelN : SetRel w x u1 v2 (m + 1) w2 := SetRel.next HFIN.out HOWN.out HB.out HA.out hR1.2 hR2.2 hR2.1
                      have HREL := Lib.hid hrelN
                      clear hrelN hR1 hR2
                      go_wp2_with fail
                      go_roundw
                      case rel => exact ⟨m + 1, by omega, by go_num, HREL.out⟩
                      case measure => simp [intOf]; omega
                · obtain rfl : j = 0 := by omega
                  have hpp : posOf L m N = 0 := by rw [HPOS.out]; rfl
                  have HPP := Lib.hid hpp
                  clear hpp HPOS
                  go_wp2_with fail
                  have z3 : (0 : Int) ≤ (cap : Int) := Int.natCast_nonneg _
                  have z4 : (0 : Int) ≤ (N : Int) := Int.natCast_nonneg _
                  have z5 : (N : Int) ≤ (cap : Int) := by omega
                  have hd : ∀ W, Below w'.heap.size w' W → ∀ i, i < L.length → W.cell? ⟨g, 0 + i, none⟩ = some (intV (L.getD i 0)) := by
                    intro W hW i hi
                    rw [HN.out] at hi
                    rw [hW.cell (p := ⟨g, 0 + i, none⟩) hg2, Nat.zero_add, HC.out i (by omega)]
                  have HD := Lib.hid hd
                  have hA : Below w'.heap.size w' ((w'.alloc (.cells #[intV m] 3)).drew) := ((Below.refl _ _).alloc (Nat.le_refl _) _).drew
                  have HA := Lib.hid hA
                  have hfin : rowTo x (m + 1) = m :: L := by rw [HS2.out]; unfold insL; rw [HN.out, HPP.out]; rfl
                  have HFIN := Lib.hid hfin
                  clear hd hA hfin
                  go_region_held3 (fun _ => True) (trivial) (first | (refine step_append_run (by rfl) (.tmp 40) (.tmp 43) 46 (by rfl) _ _ (by rfl) (by rfl) (ins1r _ w'.heap.size m (own_one (by exact alloc_last w' _)) (by simp) g 0 _ _ L HN.out (HD.out _ HA.out) (by rw [HN.out]; omega) _) ?_; intro v1 w1 hR1) | (refine step_append_run (by rfl) (.tmp 38) (.tmp 44) 46 (by rfl) _ _ (by rfl) (by rfl) (ins2r w1 _ v1 g _ _ [] (m :: L) rfl rfl (by intro j hj; simp at hj) hR1.1 (by simp) (by rw [List.length_nil, List.length_cons, HN.out]; omega) _) ?_; intro v2 w2 hR2))
                  have hrelN : SetRel w x u1 v2 (m + 1) w2 := SetRel.next HFIN.out HOWN.out HB.out HA.out hR1.2 hR2.2 hR2.1
                  have HREL := Lib.hid hrelN
                  clear hrelN hR1 hR2
                  go_wp2_with fail
                  go_roundw
                  case rel => exact ⟨m + 1, by omega, by go_num, HREL.out⟩
                  case measure => simp [intOf]; omega
          · have hsucc : rowTo kk (m + 1) = rowTo kk m := by rw [HSUCC.out]; unfold rowStep; rw [if_neg (by rw [HX.out]; exact hxk)]
            have HS2 := Lib.hid hsucc
            clear hsucc HSUCC hLlen hLlt
            go_wp2_with fail
            refine (HSZ.out _).mono ?_
            rintro e w' ⟨rfl, rfl⟩
            go_wp2_with fail
            go_roundw
            case rel =>
              refine ⟨m + 1, by omega, by go_num, ?_⟩
              unfold SetRel
              rw [HS2.out]
              exact ⟨HL.out, HOWN.out, HB.out⟩
            case measure => simp [intOf]; omega
        · obtain rfl : m = 256 := by omega
          have hpos := rowTo_pos kk hlt
          have hrl := rowTo_len kk 256
          have hal := allTo_len kk
          obtain ⟨g, cap, cur, rfl, hgb, hg, hnc, hcm, _⟩ : ∃ g cap cur, u3 = .slice (some ⟨g, 0, none⟩) (rowTo kk 256).length cap ∧ w.heap.size ≤ g ∧ wr.heap[g]? = some (.cells cur 3 (0, 0)) ∧ (rowTo kk 256).length ≤ cap ∧ cap ≤ maxLen ∧ True := by
            rcases HL.out.2 with ⟨_, h0⟩ | ⟨g, cap, cur, h1, h2, h3, h4, h5, _⟩
            · omega
            · exact ⟨g, cap, cur, h1, h2, h3, h4, h5, trivial⟩
          have hcells : ∀ j, j < (rowTo kk 256).length → wr.cell? ⟨g, 0 + j, none⟩ = some (intV ((rowTo kk 256).getD j 0)) := by
            intro j hj
            rw [Nat.zero_add, HL.out.cellAt j (by omega), List.getElem?_map, List.getElem?_eq_getElem hj, List.getD_eq_getElem?_getD, List.getElem?_eq_getElem hj]
            rfl
          have HCN := Lib.hid (cells_news hcells)
          have hnext : ∀ (w2 : World) (v' : Value), w2.ownsRow w.heap.size 3 1 v' ((allTo kk).length + (rowTo kk 256).length) ((allTo kk).map intV ++ (rowTo kk 256).map intV) → w2.ownsRow w.heap.size 3 1 v' (allTo (kk + 1)).length ((allTo (kk + 1)).map intV) := by
            intro w2 v' h
            rw [show allTo (kk + 1) = allTo kk ++ rowTo kk 256 from rfl, List.length_append, List.map_append]
            exact h
          have HNX := Lib.hid hnext
          have hone := intV_one (rowTo kk 256)
          have hlen : ((rowTo kk 256).map intV).length = (rowTo kk 256).length * 1 := by simp
          have HON := Lib.hid hone
          have HLEN := Lib.hid hlen
          clear hnext hcells hg hone hlen
          generalize (rowTo kk 256).map intV = RV at *
          generalize hR : (rowTo kk 256).length = R at *
          generalize (allTo kk).map intV = AV at *
          generalize hAl : (allTo kk).length = AL at *
          have hsz := HB.out.size
          clear hR hAl
          go_wp2_with (at_builtin; refine wpList_append_own2 rfl _ _ 46 rfl w.heap.size 3 i0 (.int .i64 0) 1 8 Try.underlying46 hi hz0 hz1 hz2 rfl (by decide) _ _ _ rfl HOWN.out ⟨g, 0, none⟩ _ _ RV rfl HLEN.out HCN.out HON.out ?c3 ?c4 ?c5 ?_)
          case c3 => unfold maxLen; omega
          case c4 => omega
          case c5 => omega
          intro v' w2 hown' hgrow _
          have HO := Lib.hid (HNX.out _ _ hown')
          have HL2 := Lib.hid (fun k hk => (HOWN.out.lt k hk).1)
          have HGR := Lib.hid (HB.out.grown hgrow hsz HL2.out)
          clear hown' hgrow
          go_wp2_with fail
          go_roundw
          case rel => exact ⟨kk + 1, by omega, by go_num, HO.out, HGR.out⟩
          case measure => simp [intOf]; omega
    · obtain rfl : kk = 9 := by omega
      rw [all_is_order] at hown
      obtain ⟨hI, _⟩ := owns_IntsR (l := order) hown
      have HI := Lib.hid hI
      clear hown hI
      go_wp2_with fail
      go_ret
      exact ⟨_, rfl, HI.out, hb⟩
end Go.Proofs.Ytfoeamgjjhfkdaa
