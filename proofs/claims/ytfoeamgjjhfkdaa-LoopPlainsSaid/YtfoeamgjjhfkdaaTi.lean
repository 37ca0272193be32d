/- Parts, branches and circuits in memory: what they conduct. The duals' texts. The dual of a circuit; circuits in memory. -/
import Derived.Test.YtfoeamgjjhfkdaaTf
import Derived.WalkSpells
namespace Go.Proofs.Ytfoeamgjjhfkdaa
open Go.Shelf Go.RowKit Go.Proofs L9

/-- the blocks from lo to hi are as they were -/
def KeptIn (lo hi : Nat) (w w' : World) : Prop := w.heap.size ≤ w'.heap.size ∧ ∀ k, lo ≤ k → k < hi → w'.heap[k]? = w.heap[k]?
theorem KeptIn.refl (lo hi : Nat) (w : World) : KeptIn lo hi w w := ⟨Nat.le_refl _, fun _ _ _ => rfl⟩
theorem KeptIn.trans {lo hi : Nat} {a b c : World} (h : KeptIn lo hi a b) (k : KeptIn lo hi b c) : KeptIn lo hi a c := ⟨Nat.le_trans h.1 k.1, fun i h1 h2 => (k.2 i h1 h2).trans (h.2 i h1 h2)⟩
theorem KeptIn.sub {lo hi lo' hi' : Nat} {a b : World} (h : KeptIn lo hi a b) (h1 : lo ≤ lo') (h2 : hi' ≤ hi) : KeptIn lo' hi' a b := ⟨h.1, fun i a b => h.2 i (by omega) (by omega)⟩
theorem KeptIn.of_below {lo hi : Nat} {w w' : World} (h : Below w.heap.size w w') (hh : hi ≤ w.heap.size) : KeptIn lo hi w w' := ⟨h.size, fun k _ h2 => h.block k (by omega)⟩

/-- what a circuit in memory does when it is called -/
def CC (w : World) (x : Value) (c : List (List Part)) : Prop :=
  (∀ n, n < 256 → Calls Try.prog 107 #[x, .int .i64 (n : Nat)] w fun e w' => e = .returned (.bool (evC c n)) ∧ w' = w) ∧
  Calls Try.prog 69 #[x] w fun e w' => e = .returned (.string ⟨(dtC c).toArray⟩) ∧ Below w.heap.size w w'
def IsC (lo hi : Nat) (w : World) (x : Value) (c : List (List Part)) : Prop := hi ≤ w.heap.size ∧ ∀ w', KeptIn lo hi w w' → CC w' x c
def IsP (lo hi : Nat) (w : World) (v : Value) (p : Part) : Prop :=
  hi ≤ w.heap.size ∧ ((∃ i : Nat, i < 8 ∧ v = .iface 122 (.int .i64 i) ∧ p = .letter i) ∨ (∃ x c, v = .iface 61 x ∧ p = .circ c ∧ IsC lo hi w x c))
def IsB (lo hi : Nat) (w : World) (v : Value) (b : List Part) : Prop :=
  hi ≤ w.heap.size ∧ ∃ g cap, v = .slice (some ⟨g, 0, none⟩) b.length cap ∧ lo ≤ g ∧ g < hi ∧ ∀ (j : Nat) (p : Part), b[j]? = some p → ∃ u lo' hi', lo ≤ lo' ∧ hi' ≤ hi ∧ w.cell? ⟨g, j, none⟩ = some u ∧ IsP lo' hi' w u p

theorem IsC.keep {lo hi : Nat} {w w' : World} {x : Value} {c : List (List Part)} (h : IsC lo hi w x c) (hk : KeptIn lo hi w w') : IsC lo hi w' x c :=
  ⟨Nat.le_trans h.1 hk.1, fun w'' hk' => h.2 w'' (hk.trans hk')⟩
theorem IsP.keep {lo hi : Nat} {w w' : World} {v : Value} {p : Part} (h : IsP lo hi w v p) (hk : KeptIn lo hi w w') : IsP lo hi w' v p := by
  refine ⟨Nat.le_trans h.1 hk.1, ?_⟩
  rcases h.2 with h | ⟨x, c, e1, e2, hc⟩
  · exact Or.inl h
  · exact Or.inr ⟨x, c, e1, e2, hc.keep hk⟩
theorem IsB.keep {lo hi : Nat} {w w' : World} {v : Value} {b : List Part} (h : IsB lo hi w v b) (hk : KeptIn lo hi w w') : IsB lo hi w' v b := by
  obtain ⟨h0, g, cap, e, h1, h2, hc⟩ := h
  refine ⟨Nat.le_trans h0 hk.1, g, cap, e, h1, h2, fun j p hj => ?_⟩
  obtain ⟨u, lo', hi', hl, hh, hcell, hp⟩ := hc j p hj
  exact ⟨u, lo', hi', hl, hh, by rw [World.cell?_of_block (w := w) (hk.2 g h1 h2)]; exact hcell, hp.keep (hk.sub hl hh)⟩

theorem letterConducts (i n : Nat) (hi : i < 8) (hn : n < 256) (w : World) :
    Calls Try.prog 160 #[.int .i64 i, .int .i64 n] w fun e w' => e = .returned (.bool (n.testBit i)) ∧ w' = w := by
  have hbit := Lib.hid (bit_test n i hn hi)
  go_enter Try.func160, Try.ntmps160
  go_wp2
  go_ret
  exact ⟨by rw [← hbit.out]; rfl, rfl⟩

theorem methLC (x : Value) (w : World) : (method 255 122 x "dropper/loop.conducts").run Try.prog w = .ok (160, x) w := by kernel_rfl
theorem methCC (x : Value) (w : World) : (method 255 61 x "dropper/loop.conducts").run Try.prog w = .ok (107, x) w := by kernel_rfl
theorem methLD (x : Value) (w : World) : (method 255 122 x "dropper/loop.dual").run Try.prog w = .ok (161, x) w := by kernel_rfl
theorem methCD (x : Value) (w : World) : (method 255 61 x "dropper/loop.dual").run Try.prog w = .ok (69, x) w := by kernel_rfl

theorem evB_drop (b : List Part) (n k : Nat) (hk : k < b.length) : evB (b.drop k) n = (b[k].ev n && evB (b.drop (k + 1)) n) := by
  rw [List.drop_eq_getElem_cons hk]; rfl
theorem evC_drop (c : List (List Part)) (n k : Nat) (hk : k < c.length) : evC (c.drop k) n = (evB c[k] n || evC (c.drop (k + 1)) n) := by
  rw [List.drop_eq_getElem_cons hk]; rfl

set_option maxHeartbeats 1000000 in
set_option maxRecDepth 100000 in
theorem branchConducts (lo hi : Nat) (w : World) (v : Value) (b : List Part) (hv : IsB lo hi w v b) (hbl : b.length ≤ 1000) (n : Nat) (hn : n < 256) :
    Calls Try.prog 122 #[v, .int .i64 n] w fun e w' => e = .returned (.bool (evB b n)) ∧ w' = w := by
  obtain ⟨hhi, g, cap, rfl, _, _, hc⟩ := hv
  have HC := Lib.hid hc
  clear hc
  have hm1 := methLC
  have hm2 := methCC
  go_enter Try.func122, Try.ntmps122
  go_wp2_with fail
  go_loop [6, 9] (fun _ i => ∃ k : Nat, k ≤ b.length ∧ i = .int .i64 k ∧ evB b n = evB (b.drop k) n) (fun _ i => b.length - (intOf i).toNat)
  case atStart => exact ⟨0, by omega, rfl, by rw [List.drop_zero]⟩
  case round =>
    obtain ⟨k, hk, rfl, he⟩ := hrel
    have HE := Lib.hid he
    clear he
    by_cases hlt : k < b.length
    · obtain ⟨u, lo', hi', hl, hh, hcell, hip, hu⟩ := HC.out k b[k] (List.getElem?_eq_getElem hlt)
      have HD := Lib.hid (evB_drop b n k hlt)
      have key : ∃ T x f, u = .iface T x ∧ (∀ w, (method 255 T x "dropper/loop.conducts").run Try.prog w = .ok (f, x) w) ∧ (∀ args w, (callFunc f args).run Try.prog w = .ok (.enter f args) w) ∧ Calls Try.prog f #[x, .int .i64 n] w fun e w' => e = .returned (.bool (b[k].ev n)) ∧ w' = w := by
        rcases hu with ⟨i, hi8, rfl, hpe⟩ | ⟨x, c, rfl, hpe, hic⟩
        · exact ⟨_, _, _, rfl, methLC _, enters_of Try.func160 (by kernel_rfl) rfl, by rw [hpe]; exact letterConducts i n hi8 hn w⟩
        · exact ⟨_, _, _, rfl, methCC _, enters_of Try.func107 (by kernel_rfl) rfl, by rw [hpe]; exact (hic.2 w (KeptIn.refl _ _ _)).1 n hn⟩
      clear hu
      obtain ⟨T, x, f, rfl, hm, he, hcall⟩ := key
      have HCALL := Lib.hid hcall
      clear hcall hm1 hm2
      cases hev : b[k].ev n with
      | false =>
        rw [hev] at HCALL HD
        have HEV := Lib.hid hev
        clear hev
        go_wp2_with (go_at_fn f; refine HCALL.out.mono ?_; rintro e w' ⟨rfl, rfl⟩)
        go_ret
        exact ⟨by rw [HE.out, HD.out]; rfl, rfl⟩
      | true =>
        rw [hev] at HCALL HD
        have HEV := Lib.hid hev
        clear hev
        go_wp2_with (go_at_fn f; refine HCALL.out.mono ?_; rintro e w' ⟨rfl, rfl⟩)
        go_round
        case rel => exact ⟨k + 1, by omega, by go_num, by rw [HE.out, HD.out]; rfl⟩
        case measure => simp [intOf]; omega
    · obtain rfl : k = b.length := by omega
      go_wp2
      go_ret
      exact ⟨by rw [HE.out, List.drop_length]; rfl, rfl⟩

/-- a circuit's cells: branches -/
def IsCs (lo hi : Nat) (w : World) (v : Value) (c : List (List Part)) : Prop :=
  hi ≤ w.heap.size ∧ ∃ g cap, v = .slice (some ⟨g, 0, none⟩) c.length cap ∧ lo ≤ g ∧ g < hi ∧ ∀ (j : Nat) (b : List Part), c[j]? = some b → ∃ u lo' hi', lo ≤ lo' ∧ hi' ≤ hi ∧ w.cell? ⟨g, j, none⟩ = some u ∧ IsB lo' hi' w u b
theorem IsCs.keep {lo hi : Nat} {w w' : World} {v : Value} {c : List (List Part)} (h : IsCs lo hi w v c) (hk : KeptIn lo hi w w') : IsCs lo hi w' v c := by
  obtain ⟨h0, g, cap, e, h1, h2, hc⟩ := h
  refine ⟨Nat.le_trans h0 hk.1, g, cap, e, h1, h2, fun j p hj => ?_⟩
  obtain ⟨u, lo', hi', hl, hh, hcell, hp⟩ := hc j p hj
  exact ⟨u, lo', hi', hl, hh, by rw [World.cell?_of_block (w := w) (hk.2 g h1 h2)]; exact hcell, hp.keep (hk.sub hl hh)⟩

set_option maxHeartbeats 1000000 in
set_option maxRecDepth 100000 in
theorem circuitConducts (lo hi : Nat) (w : World) (v : Value) (c : List (List Part)) (hv : IsCs lo hi w v c) (hcl : c.length ≤ 1000) (hbl : ∀ b ∈ c, b.length ≤ 1000) (n : Nat) (hn : n < 256) :
    Calls Try.prog 107 #[v, .int .i64 n] w fun e w' => e = .returned (.bool (evC c n)) ∧ w' = w := by
  obtain ⟨hhi, g, cap, rfl, _, _, hc⟩ := hv
  have HC := Lib.hid hc
  have HBL := Lib.hid hbl
  clear hc hbl
  go_enter Try.func107, Try.ntmps107
  go_wp2_with fail
  go_loop [6, 9] (fun _ i => ∃ k : Nat, k ≤ c.length ∧ i = .int .i64 k ∧ evC c n = evC (c.drop k) n) (fun _ i => c.length - (intOf i).toNat)
  case atStart => exact ⟨0, by omega, rfl, by rw [List.drop_zero]⟩
  case round =>
    obtain ⟨k, hk, rfl, he⟩ := hrel
    have HE := Lib.hid he
    clear he
    by_cases hlt : k < c.length
    · obtain ⟨u, lo', hi', hl, hh, hcell, hib⟩ := HC.out k c[k] (List.getElem?_eq_getElem hlt)
      have HD := Lib.hid (evC_drop c n k hlt)
      have hcall := branchConducts lo' hi' w u c[k] hib (HBL.out _ (List.getElem_mem _)) n hn
      have HCALL := Lib.hid hcall
      clear hcall hib
      cases hev : evB c[k] n with
      | true =>
        rw [hev] at HCALL HD
        have HEV := Lib.hid hev
        clear hev
        go_wp2_with (go_at_call 122; refine HCALL.out.mono ?_; rintro e w' ⟨rfl, rfl⟩)
        go_ret
        exact ⟨by rw [HE.out, HD.out]; rfl, rfl⟩
      | false =>
        rw [hev] at HCALL HD
        have HEV := Lib.hid hev
        clear hev
        go_wp2_with (go_at_call 122; refine HCALL.out.mono ?_; rintro e w' ⟨rfl, rfl⟩)
        go_round
        case rel => exact ⟨k + 1, by omega, by go_num, by rw [HE.out, HD.out]; rfl⟩
        case measure => simp [intOf]; omega
    · obtain rfl : k = c.length := by omega
      go_wp2
      go_ret
      exact ⟨by rw [HE.out, List.drop_length]; rfl, rfl⟩
end Go.Proofs.Ytfoeamgjjhfkdaa

namespace Go.Proofs.Ytfoeamgjjhfkdaa
open Go.Shelf Go.RowKit Go.Proofs L9

theorem let_slice (i : Nat) (hi : i < 8) : (ByteArray.mk #[97, 98, 99, 100, 101, 102, 103, 104]).extract i (i + 1) = ⟨#[UInt8.ofNat (97 + i)]⟩ := by
  apply ByteArray.ext
  rw [ByteArray.data_extract]
  match i, hi with
  | 0, _ => decide +kernel
  | 1, _ => decide +kernel
  | 2, _ => decide +kernel
  | 3, _ => decide +kernel
  | 4, _ => decide +kernel
  | 5, _ => decide +kernel
  | 6, _ => decide +kernel
  | 7, _ => decide +kernel

set_option maxRecDepth 100000 in
theorem letterDual (i : Nat) (hi : i < 8) (w : World) :
    Calls Try.prog 161 #[.int .i64 i] w fun e w' => e = .returned (.string ⟨#[UInt8.ofNat (97 + i)]⟩) ∧ w' = w := by
  have hs := Lib.hid (let_slice i hi)
  go_enter Try.func161, Try.ntmps161
  go_wp2

  go_ret
  exact ⟨by rw [← hs.out]; rfl, rfl⟩

theorem tail_dt : ∀ b : List Part, Lib.joinTail [43] (b.map Part.dt) = dtP b
  | [] => rfl
  | p :: b => by
    have h := tail_dt b
    unfold Lib.joinTail at h ⊢
    simp only [List.map_cons, List.flatten_cons, dtP]
    rw [h]
    rfl
theorem join_dt (b : List Part) : Lib.join (b.map Part.dt) [43] = dtB b := by
  cases b with
  | nil => rfl
  | cons p b => rw [List.map_cons, Lib.join_cons, tail_dt]; rfl

theorem grown_none {w w' : World} (h : Below w.heap.size w w') : w.grownBy w' none := ⟨h.os, h.tape, h.output, h.size, fun k hk _ => h.block k hk⟩

def dstr (p : Part) : ByteArray := ⟨p.dt.toArray⟩

set_option maxHeartbeats 2000000 in
set_option maxRecDepth 100000 in
theorem branchDual (lo hi : Nat) (w : World) (v : Value) (b : List Part) (hv : IsB lo hi w v b) (hne : b ≠ []) (hbl : b.length ≤ 1000) (hdl : (dtB b).length ≤ 100000) :
    Calls Try.prog 90 #[v] w fun e w' => e = .returned (.string ⟨(dtB b).toArray⟩) ∧ Below w.heap.size w w' := by
  have hi' : (Try.prog.info? 9).map (fun i => (i.zero, i.size, i.bytes)) = some (some (.string ⟨#[]⟩), 1, 16) := by kernel_rfl
  obtain ⟨i0, hi, hz0, hz1, hz2⟩ := info_parts hi'
  clear hi'
  have hv0 := hv
  obtain ⟨hhi, g, cap, rfl, hlo, hghi, hc⟩ := hv
  have HC := Lib.hid hc
  have HV := Lib.hid hv0
  clear hc hv0
  go_enter Try.func90, Try.ntmps90
  go_wp2_with fail
  go_loopw [3, 5, 8] (fun v _ i wr => ∃ k : Nat, k ≤ b.length ∧ i = .int .i64 k ∧ wr.ownsRow w.heap.size 9 1 v k ((b.take k).map fun p => Value.string (dstr p)) ∧ Below w.heap.size w wr) (fun _ _ i _ => b.length - (intOf i).toNat)
  case atStart => exact ⟨0, by omega, rfl, World.ownsRow_nil _ _ _ _, Below.refl _ _⟩
  case round =>
    obtain ⟨k, hk, rfl, hown, hb⟩ := hrel
    have hsz := hb.size
    by_cases hlt : k < b.length
    · obtain ⟨u, lo', hi', hl, hh, hcell0, hip0⟩ := HC.out k b[k] (List.getElem?_eq_getElem hlt)
      have hcell : wr.cell? ⟨g, k, none⟩ = some u := by rw [hb.cell (p := ⟨g, k, none⟩) (by show g < w.heap.size; omega)]; exact hcell0
      have hip := hip0.keep (KeptIn.of_below hb (by omega))
      clear hcell0 hip0
      have htake : b.take (k + 1) = b.take k ++ [b[k]] := List.take_succ_eq_append_getElem hlt
      have HT := Lib.hid htake
      clear htake
      have key : ∃ T x f, u = .iface T x ∧ (∀ w, (method 255 T x "dropper/loop.dual").run Try.prog w = .ok (f, x) w) ∧ (∀ args w, (callFunc f args).run Try.prog w = .ok (.enter f args) w) ∧ Calls Try.prog f #[x] wr fun e w' => e = .returned (.string (dstr b[k])) ∧ Below wr.heap.size wr w' := by
        rcases hip.2 with ⟨i, hi8, rfl, hpe⟩ | ⟨x, c, rfl, hpe, hic⟩
        · exact ⟨_, _, _, rfl, methLD _, enters_of Try.func161 (by kernel_rfl) rfl, by rw [hpe]; exact (letterDual i hi8 wr).mono fun e w' ⟨h1, h2⟩ => ⟨h1, h2 ▸ Below.refl _ _⟩⟩
        · exact ⟨_, _, _, rfl, methCD _, enters_of Try.func69 (by kernel_rfl) rfl, by rw [hpe]; exact (hic.2 wr (KeptIn.refl _ _ _)).2⟩
      clear hip
      obtain ⟨T, x, f, rfl, hm, he, hcall⟩ := key
      have HCALL := Lib.hid hcall
      clear hcall
      generalize hd : dstr b[k] = d at HCALL
      have HD := Lib.hid hd
      clear hd
      have HOW := Lib.hid hown
      clear hown
      go_wp2_with fail
      refine HCALL.out.mono ?_
      rintro e w1 ⟨rfl, hb1⟩
      have hsz1 := hb1.size
      have HO1 := Lib.hid (HOW.out.kept (grown_none hb1) (Classical.em _))
      have HL := Lib.hid (fun k hk => (HOW.out.lt k hk).1)
      clear HOW
      go_wp2_with (at_builtin; refine wpList_append_own _ rfl _ _ 24 rfl w.heap.size 9 i0 (.string ⟨#[]⟩) 1 16 Try.underlying24 hi hz0 hz1 hz2 rfl (by decide) _ _ _ rfl (HO1.out.alloc _) ⟨w1.heap.size, 0, none⟩ 1 1 [.string d] rfl rfl ?c1 ?c2 ?c3 ?c4 ?c5 ?_)
      case c1 => intro j u hj; match j, hj with | 0, hj => simp at hj; subst hj; exact new_cell _ _ _ 0 _ rfl
      case c2 => intro u hu; simp at hu; subst hu; rfl
      case c3 => unfold maxLen; omega
      case c4 => omega
      case c5 => simp; omega
      intro v' w2 hown' hgrow _
      have HO := Lib.hid hown'
      have HG := Lib.hid hgrow
      clear hown' hgrow HO1
      go_wp2
      go_roundw
      case rel =>
        refine ⟨k + 1, by omega, by go_num, ?_, ?_⟩
        · rw [HT.out, List.map_append, List.map_cons, List.map_nil, HD.out, List.map_take]; exact HO.out
        · exact ((hb.trans (hb1.mono hsz)).alloc (by omega) _).grown HG.out (by simp; omega) HL.out
      case measure => simp [intOf]; omega
    · obtain rfl : k = b.length := by omega
      rw [List.take_length] at hown
      have hpos : b.length ≠ 0 := by have := List.length_pos_iff.2 hne; omega
      obtain ⟨g', cap', cur, rfl, hg', hbg, _⟩ : ∃ g' cap' cur, u3 = .slice (some ⟨g', 0, none⟩) b.length cap' ∧ w.heap.size ≤ g' ∧ wr.heap[g']? = some (.cells cur 9 (0, 0)) ∧ True := by
        rcases hown.2 with ⟨_, h0⟩ | ⟨g, cap, cur, e, h1, h2, _⟩
        · omega
        · exact ⟨g, cap, cur, e, h1, h2, trivial⟩
      have hlt' : g' < wr.heap.size := by
        rcases Nat.lt_or_ge g' wr.heap.size with h' | h'
        · exact h'
        · simp [Array.getElem?_eq_none h'] at hbg
      have ej : Lib.join ((b.map dstr).map (·.data.toList)) [43] = dtB b := by
        rw [List.map_map]; exact join_dt b
      have hcon := Try.strings_Join g' 0 cap' (b.map dstr) ⟨#[43]⟩ wr (by
        intro j x hj
        rw [Nat.zero_add, hown.cellAt j (by have := (List.getElem?_eq_some_iff.1 hj).1; simpa using this)]
        rw [List.getElem?_map] at hj ⊢
        cases hbj : b[j]? with
        | none => rw [hbj] at hj; cases hj
        | some p => rw [hbj] at hj; simp at hj; subst hj; rfl) hlt' (by simp; omega) (by
        rcases hown.2 with ⟨_, h0⟩ | ⟨g, cap, cur, e, h1, h2, h3, _⟩
        · omega
        · injection e with _ _ e; subst e; simpa using h3) (by rw [show (ByteArray.mk #[43]).data.toList = [43] from rfl, ej]; omega)
      rw [show (ByteArray.mk #[43]).data.toList = [43] from rfl, ej, List.length_map] at hcon
      have HCON := Lib.hid hcon
      clear hcon ej hown hbg
      go_wp2_with (go_at_call 101; refine HCON.out.mono ?_; rintro e w1 ⟨rfl, hb1⟩)
      go_ret
      exact ⟨rfl, hb.trans (hb1.mono hsz)⟩

/-! ### wide -/
def Ascii (l : List UInt8) : Prop := ∀ x ∈ l, x.toNat < 128
theorem wideAt_cons (d : Int) (b : UInt8) (r : List UInt8) : wideAt d (b :: r) = if b = 40 then wideAt (d + 1) r else if b = 41 then wideAt (d - 1) r else if b = 43 then (if d = 0 then true else wideAt d r) else wideAt d r := rfl
theorem u8_nat (b : UInt8) (k : Nat) (hk : k < 256) : b = UInt8.ofNat k ↔ b.toNat = k := by
  constructor
  · intro h; subst h; simp [UInt8.toNat_ofNat', Nat.mod_eq_of_lt hk]
  · intro h; subst h; simp

theorem below_iter (w : World) (s : ByteArray) (pos : Nat) : Below w.heap.size w (w.iter s pos) := by
  unfold World.iter
  exact (Below.refl _ _).alloc (Nat.le_refl _) _

set_option maxHeartbeats 2000000 in
set_option maxRecDepth 100000 in
theorem wide_any (s : ByteArray) (hs : s.size ≤ 1000000) (ha : Ascii s.data.toList) (w : World) :
    Calls Try.prog 91 #[.string s] w fun e w' => e = .returned (.bool (wideAt 0 s.data.toList)) ∧ Below w.heap.size w w' := by
  go_enter Try.func91, Try.ntmps91
  go_wp2
  go_loopw [3, 5] (fun d _ wr => ∃ (pos : Nat) (d' : Int), pos ≤ s.size ∧ wr = w.iter s pos ∧ d = .int .i64 d' ∧ -(pos : Int) ≤ d' ∧ d' ≤ pos ∧ wideAt 0 s.data.toList = wideAt d' (s.data.toList.drop pos)) (fun _ _ wr => s.size - wr.iterPos w.heap.size)
  case atStart => exact ⟨0, 0, by omega, rfl, rfl, by omega, by omega, by rw [List.drop_zero]⟩
  case round =>
    obtain ⟨pos, d, hpos, rfl, rfl, hd1, hd2, he⟩ := hrel
    have HE := Lib.hid he
    clear he
    by_cases hp : pos < s.size
    · have hsz : s.data.toList.length = s.size := by simp
      have hdrop : s.data.toList.drop pos = s[pos]'hp :: s.data.toList.drop (pos + 1) := by
        rw [List.drop_eq_getElem_cons (by omega)]; rfl
      have hasc : (s[pos]'hp).toNat < 128 := ha _ (by show s.data.toList[pos]'(by omega) ∈ _; exact List.getElem_mem _)
      have hnx : ∀ ty, (Instr.next (.pointer (some ⟨w.heap.size, 0, none⟩)) true ty).run Try.prog (w.iter s pos) = _ := fun ty => run_next_ascii w s pos ty hp hasc
      have h40 := u8_nat (s[pos]'hp) 40 (by omega)
      have h41 := u8_nat (s[pos]'hp) 41 (by omega)
      have h43 := u8_nat (s[pos]'hp) 43 (by omega)
      rw [hdrop, wideAt_cons] at HE
      generalize s[pos]'hp = x at *
      have HD := Lib.hid hdrop
      have H40 := Lib.hid h40
      have H41 := Lib.hid h41
      have H43 := Lib.hid h43
      clear hdrop h40 h41 h43 ha hsz
      go_wp2
      · have e : x = 40 := H40.out.2 (by have h : ((x.toNat : Int) == 40) = true := (by assumption); simp at h; omega)
        go_roundw
        case rel => exact ⟨pos + 1, d + 1, by omega, rfl, rfl, by omega, by omega, by rw [HE.out, if_pos e]⟩
        case measure => simp; omega
      · have e0 : x ≠ 40 := fun e => by have h : ((x.toNat : Int) == 40) = false := (by assumption); have := H40.out.1 e; simp at h; omega
        have e : x = 41 := H41.out.2 (by have h : ((x.toNat : Int) == 41) = true := (by assumption); simp at h; omega)
        go_roundw
        case rel => exact ⟨pos + 1, d - 1, by omega, rfl, rfl, by omega, by omega, by rw [HE.out, if_neg e0, if_pos e]⟩
        case measure => simp; omega
      · have e0 : x ≠ 40 := fun e => by have h : ((x.toNat : Int) == 40) = false := (by assumption); have := H40.out.1 e; simp at h; omega
        have e1 : x ≠ 41 := fun e => by have h : ((x.toNat : Int) == 41) = false := (by assumption); have := H41.out.1 e; simp at h; omega
        have e : x = 43 := H43.out.2 (by have h : ((x.toNat : Int) == 43) = true := (by assumption); simp at h; omega)
        have ed : d = 0 := by have h : (d == 0) = true := (by assumption); simpa using h
        go_ret
        exact ⟨by rw [HE.out, if_neg e0, if_neg e1, if_pos e, if_pos ed]; rfl, below_iter _ _ _⟩
      · have e0 : x ≠ 40 := fun e => by have h : ((x.toNat : Int) == 40) = false := (by assumption); have := H40.out.1 e; simp at h; omega
        have e1 : x ≠ 41 := fun e => by have h : ((x.toNat : Int) == 41) = false := (by assumption); have := H41.out.1 e; simp at h; omega
        have e : x = 43 := H43.out.2 (by have h : ((x.toNat : Int) == 43) = true := (by assumption); simp at h; omega)
        have ed : ¬ d = 0 := by have h : (d == 0) = false := (by assumption); simpa using h
        go_roundw
        case rel => exact ⟨pos + 1, d, by omega, rfl, rfl, by omega, by omega, by rw [HE.out, if_neg e0, if_neg e1, if_pos e, if_neg ed]⟩
        case measure => simp; omega
      · have e0 : x ≠ 40 := fun e => by have h : ((x.toNat : Int) == 40) = false := (by assumption); have := H40.out.1 e; simp at h; omega
        have e1 : x ≠ 41 := fun e => by have h : ((x.toNat : Int) == 41) = false := (by assumption); have := H41.out.1 e; simp at h; omega
        have e2 : x ≠ 43 := fun e => by have h : ((x.toNat : Int) == 43) = false := (by assumption); have := H43.out.1 e; simp at h; omega
        go_roundw
        case rel => exact ⟨pos + 1, d, by omega, rfl, rfl, by omega, by omega, by rw [HE.out, if_neg e0, if_neg e1, if_neg e2]⟩
        case measure => simp; omega
    · have hnx : ∀ ty, (Instr.next (.pointer (some ⟨w.heap.size, 0, none⟩)) true ty).run Try.prog (w.iter s pos) = _ := fun ty => run_next_end w s pos ty hp
      have hfin : Hid (wideAt 0 s.data.toList = false) := by
        show wideAt 0 s.data.toList = false
        rw [HE.out, List.drop_of_length_le (by have hsz : s.data.toList.length = s.size := by simp
                                               omega)]
        rfl
      clear ha
      go_wp2
      go_ret
      exact ⟨by rw [hfin.out]; rfl, below_iter _ _ _⟩

end Go.Proofs.Ytfoeamgjjhfkdaa

namespace Go.Proofs.Ytfoeamgjjhfkdaa
open Go.Shelf Go.RowKit Go.Proofs L9

theorem dtM_append (a b : List (List Part)) : dtM (a ++ b) = dtM a ++ dtM b := by
  induction a with
  | nil => rfl
  | cons x a ih => simp only [List.cons_append, dtM, ih, List.append_assoc]
theorem dtM_take (c : List (List Part)) (k : Nat) (hk : k < c.length) : dtM (c.take (k + 1)) = dtM (c.take k) ++ wrapT (dtB c[k]) := by
  rw [List.take_succ_eq_append_getElem hk, dtM_append]
  simp [dtM]
theorem dtM_take_le (c : List (List Part)) (k : Nat) : (dtM (c.take k)).length ≤ (dtM c).length := by
  have h : dtM c = dtM (c.take k) ++ dtM (c.drop k) := by rw [← dtM_append, List.take_append_drop]
  rw [h, List.length_append]; omega
theorem dtB_le_M (c : List (List Part)) (b : List Part) (hb : b ∈ c) : (dtB b).length ≤ (dtM c).length := by
  induction c with
  | nil => cases hb
  | cons x c ih =>
    simp only [dtM, List.length_append]
    rcases List.mem_cons.1 hb with rfl | h
    · have : (dtB b).length ≤ (wrapT (dtB b)).length := by unfold wrapT; split <;> simp; omega
      omega
    · have := ih h; omega
theorem dtC_many (b b' : List Part) (c : List (List Part)) : dtC (b :: b' :: c) = dtM (b :: b' :: c) := rfl
theorem dtC_one (b : List Part) : dtC [b] = dtB b := by simp [dtC, dtM]
theorem strCells_bytes (l : List UInt8) : Lib.strCells ⟨l.toArray⟩ = Lib.byteCells l := by
  simp [Lib.strCells, Lib.byteCells]

theorem bsize (l : List UInt8) : (ByteArray.mk l.toArray).size = l.length := by show l.toArray.size = _; simp
theorem cat_brackets (d : List UInt8) : (ByteArray.mk #[40] ++ ByteArray.mk d.toArray ++ ByteArray.mk #[41]) = ⟨(40 :: (d ++ [41])).toArray⟩ := by
  apply ByteArray.ext
  simp
theorem builder_keep {T e : TypeId} {B b : Nat} {bs : List Value} {w w' : World} (h : Lib.IsBuilder T e B b bs w) (hb : Below w.heap.size w w') : Lib.IsBuilder T e B b bs w' := by
  have key : ∀ p, Lib.BuilderAt T e B b p bs w → Lib.BuilderAt T e B b p bs w' := by
    intro p hp
    have hlt := hp.lt
    obtain ⟨h1, v, h2, h3, h4⟩ := hp
    exact ⟨h1, v, by rw [hb.block b hlt]; exact h2, h3.kept (grown_none hb) (Classical.em _), h4⟩
  exact h.imp (key _) (key _)

set_option maxHeartbeats 2000000 in
set_option maxRecDepth 100000 in
theorem circuitDual (lo hi : Nat) (w : World) (v : Value) (c : List (List Part)) (hv : IsCs lo hi w v c) (hne : c ≠ []) (hcl : c.length ≤ 1000) (hbl : ∀ b ∈ c, b ≠ [] ∧ b.length ≤ 1000 ∧ Ascii (dtB b)) (hdl : (dtM c).length ≤ 100000) :
    Calls Try.prog 69 #[v] w fun e w' => e = .returned (.string ⟨(dtC c).toArray⟩) ∧ Below w.heap.size w w' := by
  obtain ⟨hhi, g, cap, rfl, hlo, hghi, hc⟩ := hv
  have hpos := List.length_pos_iff.2 hne
  by_cases h1 : c.length = 1
  · obtain ⟨b, rfl⟩ := List.length_eq_one_iff.1 h1
    obtain ⟨u, lo', hi', hl, hh, hcell, hib⟩ := hc 0 b rfl
    have hb := hbl b (by simp)
    have hcall := branchDual lo' hi' w u b hib hb.1 hb.2.1 (by have := dtB_le_M [b] b (by simp); omega)
    have HCALL := Lib.hid hcall
    rw [dtC_one]
    clear hcall hc hib hb hbl hdl hne hcl
    go_enter Try.func69, Try.ntmps69
    go_wp2_with (go_at_call 90; refine HCALL.out.mono ?_; rintro e w' ⟨rfl, hb1⟩)
    go_ret
    exact ⟨rfl, hb1⟩
  · have hC : dtC c = dtM c := by
      match c, hpos, h1 with
      | [_], _, h1 => simp at h1
      | b :: b' :: c, _, _ => exact dtC_many b b' c
    rw [hC]
    have HC := Lib.hid hc
    have HBL := Lib.hid hbl
    have h1' : ((c.length : Int) == 1) = false := by simp; omega
    clear hc hbl hC hne
    go_enter Try.func69, Try.ntmps69
    go_wp2_with fail
    go_loopw [5, 6, 16] (fun _ _ i wr => ∃ k : Nat, k ≤ c.length ∧ i = .int .i64 k ∧ Lib.IsBuilder 95 5 w.heap.size w.heap.size (Lib.byteCells (dtM (c.take k))) wr ∧ Below w.heap.size w wr) (fun _ _ i _ => c.length - (intOf i).toNat)
    case atStart =>
      refine ⟨0, by omega, rfl, ?_, (Below.refl _ _).alloc (Nat.le_refl _) _⟩
      exact fresh_builder w
    case round =>
      obtain ⟨k, hk, rfl, hB, hb⟩ := hrel
      have hsz := hb.size
      by_cases hlt : k < c.length
      · obtain ⟨u, lo', hi', hl, hh, hcell0, hib0⟩ := HC.out k c[k] (List.getElem?_eq_getElem hlt)
        have hcell : wr.cell? ⟨g, k, none⟩ = some u := by rw [hb.cell (p := ⟨g, k, none⟩) (by show g < w.heap.size; omega)]; exact hcell0
        have hbb := HBL.out _ (List.getElem_mem hlt)
        have hcall := branchDual lo' hi' wr u c[k] (hib0.keep (KeptIn.of_below hb (by omega))) hbb.1 hbb.2.1 (by have := dtB_le_M c c[k] (List.getElem_mem hlt); omega)
        have htake := dtM_take c k hlt
        have hle1 := dtM_take_le c (k + 1)
        have hle0 := dtM_take_le c k
        have hle : (dtB c[k]).length ≤ (dtM c).length := dtB_le_M c c[k] (List.getElem_mem hlt)
        rw [htake, List.length_append] at hle1
        unfold wrapT at htake hle1
        have hasc := hbb.2.2
        clear hcell0 hib0 hbb
        generalize dtB c[k] = d at *
        have HCALL := Lib.hid hcall
        have HT := Lib.hid htake
        have HB := Lib.hid hB
        clear hcall htake hB
        cases hw : wideAt 0 d with
        | true =>
          rw [if_pos hw] at hle1
          have HW := Lib.hid hw
          clear hw
          go_wp2_with fail
          refine HCALL.out.mono ?_
          rintro e w1 ⟨rfl, hb1⟩
          have hB1 := builder_keep HB.out hb1
          have HB1 := Lib.hid hB1
          clear hB1
          have hsz1 := hb1.size
          go_wp2_with fail
          refine (wide_any ⟨d.toArray⟩ (by show d.toArray.size ≤ _; simp; omega) (by simpa using hasc) _).mono ?_
          rintro e w2 ⟨rfl, hb2⟩
          have hB2 := builder_keep HB1.out hb2
          have HB2 := Lib.hid hB2
          clear hB2 HB1
          have hsz2 := hb2.size
          have hw2 : wideAt 0 (ByteArray.mk d.toArray).data.toList = true := by simpa using HW.out
          go_wp2_with fail
          rw [cat_brackets]
          refine (WriteString w.heap.size w.heap.size _ _ _ HB2.out (by rw [bsize]; simp [Lib.byteCells]; omega) (by omega)).mono ?_
          rintro e w3 ⟨rfl, hB3, hb3⟩
          rw [strCells_bytes] at hB3
          have HB3 := Lib.hid hB3
          clear hB3 HB2
          go_wp2_with fail
          go_roundw
          case rel =>
            refine ⟨k + 1, by omega, by go_num, ?_, (hb.trans ((hb1.mono hsz).trans (hb2.mono (by omega)))).trans hb3⟩
            rw [HT.out, if_pos HW.out]
            have := HB3.out
            refine Or.inr ?_
            simpa [Lib.byteCells] using this
          case measure => simp [intOf]; omega
        | false =>
          rw [if_neg (by rw [hw]; simp)] at hle1
          have HW := Lib.hid hw
          clear hw
          go_wp2_with fail
          refine HCALL.out.mono ?_
          rintro e w1 ⟨rfl, hb1⟩
          have hB1 := builder_keep HB.out hb1
          have HB1 := Lib.hid hB1
          clear hB1
          have hsz1 := hb1.size
          go_wp2_with fail
          refine (wide_any ⟨d.toArray⟩ (by show d.toArray.size ≤ _; simp; omega) (by simpa using hasc) _).mono ?_
          rintro e w2 ⟨rfl, hb2⟩
          have hB2 := builder_keep HB1.out hb2
          have HB2 := Lib.hid hB2
          clear hB2 HB1
          have hsz2 := hb2.size
          have hw2 : wideAt 0 (ByteArray.mk d.toArray).data.toList = false := by simpa using HW.out
          go_wp2_with fail
          refine (WriteString w.heap.size w.heap.size _ _ _ HB2.out (by rw [bsize]; simp [Lib.byteCells]; omega) (by omega)).mono ?_
          rintro e w3 ⟨rfl, hB3, hb3⟩
          rw [strCells_bytes] at hB3
          have HB3 := Lib.hid hB3
          clear hB3 HB2
          go_wp2_with fail
          go_roundw
          case rel =>
            refine ⟨k + 1, by omega, by go_num, ?_, (hb.trans ((hb1.mono hsz).trans (hb2.mono (by omega)))).trans hb3⟩
            rw [HT.out, if_neg (by rw [HW.out]; simp)]
            have := HB3.out
            refine Or.inr ?_
            simpa [Lib.byteCells] using this
          case measure => simp [intOf]; omega
      · obtain rfl : k = c.length := by omega
        rw [List.take_length] at hB
        have HB := Lib.hid hB
        clear hB
        go_wp2_with (go_at_call 93; refine (BString w.heap.size w.heap.size _ _ HB.out (by omega)).mono ?_; rintro e w1 ⟨rfl, hb1⟩)
        go_ret
        exact ⟨rfl, hb.trans hb1⟩

/-- a circuit in memory does what it must -/
theorem isC_of (lo hi : Nat) (w : World) (v : Value) (c : List (List Part)) (hv : IsCs lo hi w v c) (hne : c ≠ []) (hcl : c.length ≤ 1000) (hbl : ∀ b ∈ c, b ≠ [] ∧ b.length ≤ 1000 ∧ Ascii (dtB b)) (hdl : (dtM c).length ≤ 100000) : IsC lo hi w v c :=
  ⟨hv.1, fun w' hk => ⟨fun n hn => circuitConducts lo hi w' v c (hv.keep hk) hcl (fun b hb => (hbl b hb).2.1) n hn, circuitDual lo hi w' v c (hv.keep hk) hne hcl hbl hdl⟩⟩
end Go.Proofs.Ytfoeamgjjhfkdaa
