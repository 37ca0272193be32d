/- Parts, branches and circuits in memory: what they conduct. -/
import Derived.Test.YtfoeamgjjhfkdaaTf
namespace Go.Proofs.Ytfoeamgjjhfkdaa
open Go.Shelf Go.RowKit Go.Proofs L9

/-- the blocks from lo to hi are as they were -/
def KeptIn (lo hi : Nat) (w w' : World) : Prop := w.heap.size ≤ w'.heap.size ∧ ∀ k, lo ≤ k → k < hi → w'.heap[k]? = w.heap[k]?
theorem KeptIn.refl (lo hi : Nat) (w : World) : KeptIn lo hi w w := ⟨Nat.le_refl _, fun _ _ _ => rfl⟩
theorem KeptIn.trans {lo hi : Nat} {a b c : World} (h : KeptIn lo hi a b) (k : KeptIn lo hi b c) : KeptIn lo hi a c := ⟨Nat.le_trans h.1 k.1, fun i h1 h2 => (k.2 i h1 h2).trans (h.2 i h1 h2)⟩
theorem KeptIn.sub {lo hi lo' hi' : Nat} {a b : World} (h : KeptIn lo hi a b) (h1 : lo ≤ lo') (h2 : hi' ≤ hi) : KeptIn lo' hi' a b := ⟨h.1, fun i a b => h.2 i (by omega) (by omega)⟩
theorem KeptIn.of_below {lo hi : Nat} {w w' : World} (h : Below w.heap.size w w') (hh : hi ≤ w.heap.size) : KeptIn lo hi w w' := ⟨h.size, fun k _ h2 => h.block k (by omega)⟩

/-- what a circuit in memory does when it is called -/
def CC (w : World) (x : Value) (c : List (List Part)) : Prop :=
  (∀ n, n < 256 → Calls Try.prog 107 #[x, .int .i64 (n : Nat)] w fun e w' => e = .returned (.bool (evC c n)) ∧ w' = w) ∧
  Calls Try.prog 69 #[x] w fun e w' => e = .returned (.string ⟨(dtC c).toArray⟩) ∧ Below w.heap.size w w'
def IsC (lo hi : Nat) (w : World) (x : Value) (c : List (List Part)) : Prop := hi ≤ w.heap.size ∧ ∀ w', KeptIn lo hi w w' → CC w' x c
def IsP (lo hi : Nat) (w : World) (v : Value) (p : Part) : Prop :=
  hi ≤ w.heap.size ∧ ((∃ i : Nat, i < 8 ∧ v = .iface 122 (.int .i64 i) ∧ p = .letter i) ∨ (∃ x c, v = .iface 61 x ∧ p = .circ c ∧ IsC lo hi w x c))
def IsB (lo hi : Nat) (w : World) (v : Value) (b : List Part) : Prop :=
  hi ≤ w.heap.size ∧ ∃ g cap, v = .slice (some ⟨g, 0, none⟩) b.length cap ∧ lo ≤ g ∧ g < hi ∧ ∀ (j : Nat) (p : Part), b[j]? = some p → ∃ u lo' hi', lo ≤ lo' ∧ hi' ≤ hi ∧ w.cell? ⟨g, j, none⟩ = some u ∧ IsP lo' hi' w u p

theorem IsC.keep {lo hi : Nat} {w w' : World} {x : Value} {c : List (List Part)} (h : IsC lo hi w x c) (hk : KeptIn lo hi w w') : IsC lo hi w' x c :=
  ⟨Nat.le_trans h.1 hk.1, fun w'' hk' => h.2 w'' (hk.trans hk')⟩
theorem IsP.keep {lo hi : Nat} {w w' : World} {v : Value} {p : Part} (h : IsP lo hi w v p) (hk : KeptIn lo hi w w') : IsP lo hi w' v p := by
  refine ⟨Nat.le_trans h.1 hk.1, ?_⟩
  rcases h.2 with h | ⟨x, c, e1, e2, hc⟩
  · exact Or.inl h
  · exact Or.inr ⟨x, c, e1, e2, hc.keep hk⟩
theorem IsB.keep {lo hi : Nat} {w w' : World} {v : Value} {b : List Part} (h : IsB lo hi w v b) (hk : KeptIn lo hi w w') : IsB lo hi w' v b := by
  obtain ⟨h0, g, cap, e, h1, h2, hc⟩ := h
  refine ⟨Nat.le_trans h0 hk.1, g, cap, e, h1, h2, fun j p hj => ?_⟩
  obtain ⟨u, lo', hi', hl, hh, hcell, hp⟩ := hc j p hj
  exact ⟨u, lo', hi', hl, hh, by rw [World.cell?_of_block (w := w) (hk.2 g h1 h2)]; exact hcell, hp.keep (hk.sub hl hh)⟩

theorem letterConducts (i n : Nat) (hi : i < 8) (hn : n < 256) (w : World) :
    Calls Try.prog 160 #[.int .i64 i, .int .i64 n] w fun e w' => e = .returned (.bool (n.testBit i)) ∧ w' = w := by
  have hbit := Lib.hid (bit_test n i hn hi)
  go_enter Try.func160, Try.ntmps160
  go_wp2
  go_ret
  exact ⟨by rw [← hbit.out]; rfl, rfl⟩

theorem methLC (x : Value) (w : World) : (method 255 122 x "dropper/loop.conducts").run Try.prog w = .ok (160, x) w := by kernel_rfl
theorem methCC (x : Value) (w : World) : (method 255 61 x "dropper/loop.conducts").run Try.prog w = .ok (107, x) w := by kernel_rfl
theorem methLD (x : Value) (w : World) : (method 255 122 x "dropper/loop.dual").run Try.prog w = .ok (161, x) w := by kernel_rfl
theorem methCD (x : Value) (w : World) : (method 255 61 x "dropper/loop.dual").run Try.prog w = .ok (69, x) w := by kernel_rfl

theorem evB_drop (b : List Part) (n k : Nat) (hk : k < b.length) : evB (b.drop k) n = (b[k].ev n && evB (b.drop (k + 1)) n) := by
  rw [List.drop_eq_getElem_cons hk]; rfl
theorem evC_drop (c : List (List Part)) (n k : Nat) (hk : k < c.length) : evC (c.drop k) n = (evB c[k] n || evC (c.drop (k + 1)) n) := by
  rw [List.drop_eq_getElem_cons hk]; rfl

set_option maxHeartbeats 1000000 in
set_option maxRecDepth 100000 in
theorem branchConducts (lo hi : Nat) (w : World) (v : Value) (b : List Part) (hv : IsB lo hi w v b) (hbl : b.length ≤ 1000) (n : Nat) (hn : n < 256) :
    Calls Try.prog 122 #[v, .int .i64 n] w fun e w' => e = .returned (.bool (evB b n)) ∧ w' = w := by
  obtain ⟨hhi, g, cap, rfl, _, _, hc⟩ := hv
  have HC := Lib.hid hc
  clear hc
  have hm1 := methLC
  have hm2 := methCC
  go_enter Try.func122, Try.ntmps122
  go_wp2_with fail
  go_loop [6, 9] (fun _ i => ∃ k : Nat, k ≤ b.length ∧ i = .int .i64 k ∧ evB b n = evB (b.drop k) n) (fun _ i => b.length - (intOf i).toNat)
  case atStart => exact ⟨0, by omega, rfl, by rw [List.drop_zero]⟩
  case round =>
    obtain ⟨k, hk, rfl, he⟩ := hrel
    have HE := Lib.hid he
    clear he
    by_cases hlt : k < b.length
    · obtain ⟨u, lo', hi', hl, hh, hcell, hip, hu⟩ := HC.out k b[k] (List.getElem?_eq_getElem hlt)
      have HD := Lib.hid (evB_drop b n k hlt)
      have key : ∃ T x f, u = .iface T x ∧ (∀ w, (method 255 T x "dropper/loop.conducts").run Try.prog w = .ok (f, x) w) ∧ (∀ args w, (callFunc f args).run Try.prog w = .ok (.enter f args) w) ∧ Calls Try.prog f #[x, .int .i64 n] w fun e w' => e = .returned (.bool (b[k].ev n)) ∧ w' = w := by
        rcases hu with ⟨i, hi8, rfl, hpe⟩ | ⟨x, c, rfl, hpe, hic⟩
        · exact ⟨_, _, _, rfl, methLC _, enters_of Try.func160 (by kernel_rfl) rfl, by rw [hpe]; exact letterConducts i n hi8 hn w⟩
        · exact ⟨_, _, _, rfl, methCC _, enters_of Try.func107 (by kernel_rfl) rfl, by rw [hpe]; exact (hic.2 w (KeptIn.refl _ _ _)).1 n hn⟩
      clear hu
      obtain ⟨T, x, f, rfl, hm, he, hcall⟩ := key
      have HCALL := Lib.hid hcall
      clear hcall hm1 hm2
      cases hev : b[k].ev n with
      | false =>
        rw [hev] at HCALL HD
        have HEV := Lib.hid hev
        clear hev
        go_wp2_with (go_at_fn f; refine HCALL.out.mono ?_; rintro e w' ⟨rfl, rfl⟩)
        go_ret
        exact ⟨by rw [HE.out, HD.out]; rfl, rfl⟩
      | true =>
        rw [hev] at HCALL HD
        have HEV := Lib.hid hev
        clear hev
        go_wp2_with (go_at_fn f; refine HCALL.out.mono ?_; rintro e w' ⟨rfl, rfl⟩)
        go_round
        case rel => exact ⟨k + 1, by omega, by go_num, by rw [HE.out, HD.out]; rfl⟩
        case measure => simp [intOf]; omega
    · obtain rfl : k = b.length := by omega
      go_wp2
      go_ret
      exact ⟨by rw [HE.out, List.drop_length]; rfl, rfl⟩

/-- a circuit's cells: branches -/
def IsCs (lo hi : Nat) (w : World) (v : Value) (c : List (List Part)) : Prop :=
  hi ≤ w.heap.size ∧ ∃ g cap, v = .slice (some ⟨g, 0, none⟩) c.length cap ∧ lo ≤ g ∧ g < hi ∧ ∀ (j : Nat) (b : List Part), c[j]? = some b → ∃ u lo' hi', lo ≤ lo' ∧ hi' ≤ hi ∧ w.cell? ⟨g, j, none⟩ = some u ∧ IsB lo' hi' w u b
theorem IsCs.keep {lo hi : Nat} {w w' : World} {v : Value} {c : List (List Part)} (h : IsCs lo hi w v c) (hk : KeptIn lo hi w w') : IsCs lo hi w' v c := by
  obtain ⟨h0, g, cap, e, h1, h2, hc⟩ := h
  refine ⟨Nat.le_trans h0 hk.1, g, cap, e, h1, h2, fun j p hj => ?_⟩
  obtain ⟨u, lo', hi', hl, hh, hcell, hp⟩ := hc j p hj
  exact ⟨u, lo', hi', hl, hh, by rw [World.cell?_of_block (w := w) (hk.2 g h1 h2)]; exact hcell, hp.keep (hk.sub hl hh)⟩

set_option maxHeartbeats 1000000 in
set_option maxRecDepth 100000 in
theorem circuitConducts (lo hi : Nat) (w : World) (v : Value) (c : List (List Part)) (hv : IsCs lo hi w v c) (hcl : c.length ≤ 1000) (hbl : ∀ b ∈ c, b.length ≤ 1000) (n : Nat) (hn : n < 256) :
    Calls Try.prog 107 #[v, .int .i64 n] w fun e w' => e = .returned (.bool (evC c n)) ∧ w' = w := by
  obtain ⟨hhi, g, cap, rfl, _, _, hc⟩ := hv
  have HC := Lib.hid hc
  have HBL := Lib.hid hbl
  clear hc hbl
  go_enter Try.func107, Try.ntmps107
  go_wp2_with fail
  go_loop [6, 9] (fun _ i => ∃ k : Nat, k ≤ c.length ∧ i = .int .i64 k ∧ evC c n = evC (c.drop k) n) (fun _ i => c.length - (intOf i).toNat)
  case atStart => exact ⟨0, by omega, rfl, by rw [List.drop_zero]⟩
  case round =>
    obtain ⟨k, hk, rfl, he⟩ := hrel
    have HE := Lib.hid he
    clear he
    by_cases hlt : k < c.length
    · obtain ⟨u, lo', hi', hl, hh, hcell, hib⟩ := HC.out k c[k] (List.getElem?_eq_getElem hlt)
      have HD := Lib.hid (evC_drop c n k hlt)
      have hcall := branchConducts lo' hi' w u c[k] hib (HBL.out _ (List.getElem_mem _)) n hn
      have HCALL := Lib.hid hcall
      clear hcall hib
      cases hev : evB c[k] n with
      | true =>
        rw [hev] at HCALL HD
        have HEV := Lib.hid hev
        clear hev
        go_wp2_with (go_at_call 122; refine HCALL.out.mono ?_; rintro e w' ⟨rfl, rfl⟩)
        go_ret
        exact ⟨by rw [HE.out, HD.out]; rfl, rfl⟩
      | false =>
        rw [hev] at HCALL HD
        have HEV := Lib.hid hev
        clear hev
        go_wp2_with (go_at_call 122; refine HCALL.out.mono ?_; rintro e w' ⟨rfl, rfl⟩)
        go_round
        case rel => exact ⟨k + 1, by omega, by go_num, by rw [HE.out, HD.out]; rfl⟩
        case measure => simp [intOf]; omega
    · obtain rfl : k = c.length := by omega
      go_wp2
      go_ret
      exact ⟨by rw [HE.out, List.drop_length]; rfl, rfl⟩
end Go.Proofs.Ytfoeamgjjhfkdaa
