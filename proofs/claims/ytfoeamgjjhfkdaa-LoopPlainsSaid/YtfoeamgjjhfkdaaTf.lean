/- ContainsFunc over the closure of least; path and cut of a table. least: the sets of which something holds, and of no part of them. -/
import Derived.Test.YtfoeamgjjhfkdaaTd
namespace Go.Proofs.Ytfoeamgjjhfkdaa
open Go.Shelf Go.RowKit Go.Proofs L9

/-- is a set a part of another one? -/
def sub (a b : Nat) : Bool := bits .andNot .i64 (a : Int) (b : Int) == 0

theorem leastIs (a n : Nat) (p : Addr) (w : World) (hp : w.cell? p = some (.int .i64 n)) :
    Calls Try.prog 87 #[.int .i64 a, .pointer (some p)] w fun e w' => e = .returned (.bool (sub a n)) ∧ w' = w := by
  have e : sub a n = (bits .andNot .i64 (a : Int) (n : Int) == 0) := rfl
  have E := Lib.hid e
  clear e
  go_enter Try.func87, Try.ntmps87
  go_wp2
  go_ret
  exact ⟨by rw [E.out]; rfl, rfl⟩

/-- a slice of numbers, perhaps nil -/
def IntsR (w : World) (v : Value) (l : List Nat) : Prop := (v = .slice none 0 0 ∧ l = []) ∨ IntsAt w v l
theorem IntsR.keep {w w' : World} {v : Value} {l : List Nat} (h : IntsR w v l) (hb : Below w.heap.size w w') : IntsR w' v l :=
  h.imp id fun h => h.keep hb
/-- the same, said at one go -/
theorem IntsR.form {w : World} {v : Value} {l : List Nat} (h : IntsR w v l) : ∃ p cap, v = .slice p l.length cap ∧ ∀ j, j < l.length → ∃ g, p = some ⟨g, 0, none⟩ ∧ w.cell? ⟨g, j, none⟩ = some (.int .i64 (l.getD j 0 : Nat)) := by
  rcases h with ⟨rfl, rfl⟩ | ⟨g, cap, rfl, _, hc⟩
  · exact ⟨none, 0, rfl, fun j hj => by simp at hj⟩
  · exact ⟨_, cap, rfl, fun j hj => ⟨g, rfl, hc j hj⟩⟩

set_option maxHeartbeats 1000000 in
theorem indexFunc (l : List Nat) (hl : l.length ≤ 256) (v : Value) (n : Nat) (p : Addr) (w : World) (hv : IntsR w v l) (hp : w.cell? p = some (.int .i64 n)) :
    Calls Try.prog 108 #[v, .func (.func 87) #[] #[.pointer (some p)]] w fun e w' => (∃ i : Int, e = .returned (.int .i64 i) ∧ decide (i ≥ 0) = l.any (sub · n)) ∧ w' = w := by
  obtain ⟨a, cap, rfl, hc⟩ := hv.form
  go_enter Try.func108, Try.ntmps108
  go_wp2_with fail
  go_loop [5, 8] (fun _ i => ∃ k : Nat, k ≤ l.length ∧ i = .int .i64 k ∧ ∀ j, j < k → sub (l.getD j 0) n = false) (fun _ i => l.length - (intOf i).toNat)
  case atStart => exact ⟨0, by omega, rfl, fun j hj => by omega⟩
  case round =>
    obtain ⟨k, hk, rfl, hno⟩ := hrel
    have HNO := Lib.hid hno
    clear hno
    by_cases hlt : k < l.length
    · obtain ⟨g, rfl, hcell⟩ := hc k hlt
      have HC := Lib.hid hc
      clear hc
      have hget : l.getD k 0 = l[k] := by rw [List.getD_eq_getElem?_getD, List.getElem?_eq_getElem hlt]; rfl
      have hmem : l.getD k 0 ∈ l := by rw [hget]; exact List.getElem_mem hlt
      cases hs : sub (l.getD k 0) n with
      | true =>
        have hcon := leastIs (l.getD k 0) n p w hp
        rw [hs] at hcon
        have hany : Hid (l.any (sub · n) = true) := List.any_eq_true.2 ⟨_, hmem, hs⟩
        clear hget hmem hs
        generalize l.getD k 0 = x at hcell hcon
        have hcon' := Lib.hid hcon
        clear hcon
        go_wp2_with (go_at_call 87; refine hcon'.out.mono ?_; rintro e w' ⟨rfl, rfl⟩)
        go_ret
        exact ⟨⟨k, rfl, by rw [hany.out]; simp⟩, rfl⟩
      | false =>
        have hcon := leastIs (l.getD k 0) n p w hp
        rw [hs] at hcon
        have HS := Lib.hid hs
        clear hget hmem hs
        have hcell' := hcell
        generalize l.getD k 0 = x at hcell' hcon
        have hcon' := Lib.hid hcon
        have hce := Lib.hid hcell
        clear hcon hcell
        go_wp2_with (go_at_call 87; refine hcon'.out.mono ?_; rintro e w' ⟨rfl, rfl⟩)
        go_round
        case rel =>
          refine ⟨k + 1, by omega, by go_num, fun j hj => ?_⟩
          by_cases hjk : j = k
          · rw [hjk]; exact HS.out
          · exact HNO.out j (by omega)
        case measure => simp [intOf]; omega
    · obtain rfl : k = l.length := by omega
      have hany : Hid (l.any (sub · n) = false) := by
        show l.any (sub · n) = false
        rw [List.any_eq_false]
        intro x hx
        obtain ⟨i, hi, rfl⟩ := List.mem_iff_getElem.1 hx
        have := HNO.out i hi
        rw [List.getD_eq_getElem?_getD, List.getElem?_eq_getElem hi] at this
        simpa using this
      clear hc
      go_wp2
      go_ret
      exact ⟨⟨-1, rfl, by rw [hany.out]; simp⟩, rfl⟩

set_option maxHeartbeats 1000000 in
theorem containsFunc (l : List Nat) (hl : l.length ≤ 256) (v : Value) (n : Nat) (p : Addr) (w : World) (hv : IntsR w v l) (hp : w.cell? p = some (.int .i64 n)) :
    Calls Try.prog 86 #[v, .func (.func 87) #[] #[.pointer (some p)]] w fun e w' => e = .returned (.bool (l.any (sub · n))) ∧ w' = w := by
  have hcon := Lib.hid (indexFunc l hl v n p w hv hp)
  generalize l.any (sub · n) = b at *
  go_enter Try.func86, Try.ntmps86
  go_wp2_with fail
  refine hcon.out.mono ?_
  rintro e w' ⟨⟨i, rfl, hi⟩, rfl⟩
  have HI := Lib.hid hi
  clear hi
  go_wp2
  go_ret
  exact ⟨by rw [← HI.out]; rfl, rfl⟩

/-- a table: 256 bools at the head of a block -/
def TableAt (w : World) (v : Value) (t : Nat → Bool) : Prop :=
  ∃ b, v = .pointer (some ⟨b, 0, none⟩) ∧ b < w.heap.size ∧ ∀ i, i < 256 → w.cell? ⟨b, i, none⟩ = some (.bool (t i))
theorem TableAt.keep {w w' : World} {v : Value} {t : Nat → Bool} (h : TableAt w v t) (hb : Below w.heap.size w w') : TableAt w' v t := by
  obtain ⟨b, e, hl, hc⟩ := h
  exact ⟨b, e, Nat.lt_of_lt_of_le hl hb.size, fun j hj => by rw [hb.cell (p := ⟨b, j, none⟩) hl]; exact hc j hj⟩

theorem path_any (v : Value) (t : Nat → Bool) (n : Nat) (hn : n < 256) (w : World) (hv : TableAt w v t) :
    Calls Try.prog 60 #[v, .int .i64 n] w fun e w' => e = .returned (.bool (t n)) ∧ w' = w := by
  obtain ⟨b, rfl, _, hc⟩ := hv
  have hcell := hc n hn
  clear hc
  generalize t n = x at *
  go_enter Try.func60, Try.ntmps60
  go_wp2
  go_ret
  exact ⟨rfl, rfl⟩

theorem andNot255 (n : Nat) (hn : n < 256) : bits .andNot .i64 255 (n : Int) = ((255 - n : Nat) : Int) := by
  revert hn
  revert n
  decide +kernel

theorem cut_any (v : Value) (t : Nat → Bool) (n : Nat) (hn : n < 256) (w : World) (hv : TableAt w v t) :
    Calls Try.prog 63 #[v, .int .i64 n] w fun e w' => e = .returned (.bool (!t (255 - n))) ∧ w' = w := by
  obtain ⟨b, rfl, _, hc⟩ := hv
  have hcell := hc (255 - n) (by omega)
  clear hc
  generalize t (255 - n) = x at *
  have h2 := Lib.hid (andNot255 n hn)
  generalize hm : 255 - n = m at *
  have hm2 : m < 256 := by omega
  clear hm hn
  have h3 : (bits .andNot .i64 255 (n : Int)) = (m : Int) := h2.out
  clear h2
  go_enter Try.func63, Try.ntmps63
  go_wp2
  go_ret
  exact ⟨rfl, rfl⟩
end Go.Proofs.Ytfoeamgjjhfkdaa

namespace Go.Proofs.Ytfoeamgjjhfkdaa
open Go.Shelf Go.RowKit Go.Proofs L9

def leastStep (q : Nat → Bool) (acc : List Nat) (n : Nat) : List Nat := if q n && !acc.any (sub · n) then acc ++ [n] else acc
def leastTo (q : Nat → Bool) (k : Nat) : List Nat := (order.take k).foldl (leastStep q) []
def leastL (q : Nat → Bool) : List Nat := order.foldl (leastStep q) []
theorem leastTo_succ (q : Nat → Bool) (k : Nat) (hk : k < 256) : leastTo q (k + 1) = leastStep q (leastTo q k) (order.getD k 0) := by
  unfold leastTo
  rw [List.take_succ_eq_append_getElem (by rw [order_len]; exact hk), List.foldl_append, List.getD_eq_getElem?_getD, List.getElem?_eq_getElem (by rw [order_len]; exact hk)]
  rfl
theorem leastTo_len (q : Nat → Bool) (k : Nat) : (leastTo q k).length ≤ k := by
  suffices h : ∀ (l : List Nat) (acc : List Nat), (l.foldl (leastStep q) acc).length ≤ acc.length + l.length by
    have := h (order.take k) []
    have h2 := List.length_take_le k order
    unfold leastTo
    simp only [List.length_nil] at this
    omega
  intro l
  induction l with
  | nil => intro acc; simp
  | cons a l ih =>
    intro acc
    rw [List.foldl_cons]
    have := ih (leastStep q acc a)
    have h2 : (leastStep q acc a).length ≤ acc.length + 1 := by unfold leastStep; split <;> simp
    simp only [List.length_cons]
    omega
theorem leastTo_256 (q : Nat → Bool) : leastTo q 256 = leastL q := by
  unfold leastTo leastL
  rw [List.take_of_length_le (by rw [order_len]; exact Nat.le_refl _)]

theorem owns_IntsR {w : World} {B : Nat} {v : Value} {n : Nat} {l : List Nat} (h : w.ownsRow B 3 1 v n (l.map fun j => Value.int .i64 (j : Nat))) : IntsR w v l ∧ n = l.length := by
  have hn : n = l.length := by have := h.1; simp at this; omega
  subst hn
  rcases h.2 with ⟨rfl, h0⟩ | ⟨g, cap, cur, rfl, hB, hg, _⟩
  · exact ⟨Or.inl ⟨rfl, List.length_eq_zero_iff.1 h0⟩, rfl⟩
  · refine ⟨Or.inr ⟨g, cap, rfl, ?_, ?_⟩, rfl⟩
    · rcases Nat.lt_or_ge g w.heap.size with h' | h'
      · exact h'
      · simp [Array.getElem?_eq_none h'] at hg
    · intro j hj
      rw [h.cellAt j (by omega)]
      rw [List.getElem?_map, List.getElem?_eq_getElem hj, List.getD_eq_getElem?_getD, List.getElem?_eq_getElem hj]
      rfl

set_option maxHeartbeats 2000000 in
set_option maxRecDepth 100000 in
theorem least_any (F : FuncId) (p : Value) (q : Nat → Bool) (w : World) (eg : ∀ args w, (callFunc F args).run Try.prog w = .ok (.enter F args) w)
    (hf : ∀ (w' : World) (n : Nat), Below w.heap.size w w' → n < 256 → Calls Try.prog F #[p, .int .i64 n] w' fun e w'' => e = .returned (.bool (q n)) ∧ w'' = w') :
    Calls Try.prog 59 #[.func (.func F) #[p] #[]] w fun e w' => ∃ v, e = .returned v ∧ IntsR w' v (leastL q) ∧ Below w.heap.size w w' := by
  have hi' : (Try.prog.info? 3).map (fun i => (i.zero, i.size, i.bytes)) = some (some (.int .i64 0), 1, 8) := by kernel_rfl
  obtain ⟨i0, hi, hz0, hz1, hz2⟩ := info_parts hi'
  clear hi'
  have HF := Lib.hid hf
  clear hf
  go_enter Try.func59, Try.ntmps59
  go_wp2_with fail
  refine (sorted_any _).mono ?_
  rintro e w1 ⟨v, rfl, hs, hb0⟩
  have hsz0 := hb0.size
  obtain ⟨g, cap, rfl, hg, hc⟩ := hs
  rw [order_len] at *
  have HC := Lib.hid hc
  clear hc
  go_wp2_with fail
  go_loopw [3, 5, 8] (fun v _ i wr => ∃ k : Nat, k ≤ 256 ∧ i = .int .i64 k ∧ wr.ownsRow w1.heap.size 3 1 v (leastTo q k).length ((leastTo q k).map fun j => Value.int .i64 (j : Nat)) ∧ Below w1.heap.size w1 wr) (fun _ _ i _ => 256 - (intOf i).toNat)
  case atStart => exact ⟨0, by omega, rfl, World.ownsRow_nil _ _ _ _, Below.refl _ _⟩
  case round =>
    obtain ⟨k, hk, rfl, hown, hb⟩ := hrel
    have hsz := hb.size
    by_cases hlt : k < 256
    · have hn : order.getD k 0 < 256 := by
        rw [List.getD_eq_getElem?_getD, List.getElem?_eq_getElem (by rw [order_len]; exact hlt)]
        exact order_lt _ (List.getElem_mem _)
      have hcell : wr.cell? ⟨g, k, none⟩ = some (.int .i64 (order.getD k 0 : Nat)) := by
        rw [hb.cell (p := ⟨g, k, none⟩) hg]; exact HC.out k hlt
      have hsucc := Lib.hid (leastTo_succ q k hlt)
      have hlen := leastTo_len q k
      obtain ⟨hR, _⟩ := owns_IntsR hown
      generalize order.getD k 0 = n at *
      have hfn := fun w' (h : Below w.heap.size w w') => HF.out w' n h hn
      have hB1 : Below w.heap.size w (wr.alloc (.cells #[.int .i64 n] 3)) := (hb0.trans (hb.mono hsz0)).alloc (by omega) _
      have hcall := Lib.hid (hfn _ hB1)
      clear hfn
      cases hq : q n with
      | false =>
        have hst : leastTo q (k + 1) = leastTo q k := by rw [hsucc.out]; unfold leastStep; rw [hq]; simp
        rw [hq] at hcall
        have HQ := Lib.hid hq
        have HS := Lib.hid hst
        have HO := Lib.hid hown
        clear hq hst hown hR hsucc
        go_wp2_with (go_at_fn F; refine hcall.out.mono ?_; rintro e w' ⟨rfl, rfl⟩)
        go_roundw
        case rel =>
          refine ⟨k + 1, by omega, by go_num, ?_, hb.alloc hsz _⟩
          rw [HS.out]
          exact HO.out.alloc _
        case measure => simp [intOf]; omega
      | true =>
        have hcont := Lib.hid (containsFunc (leastTo q k) (by omega) _ n ⟨wr.heap.size, 0, none⟩ (wr.alloc (.cells #[.int .i64 n] 3)) (hR.keep ((Below.refl _ _).alloc (Nat.le_refl _) _)) (new_cell _ _ _ 0 _ rfl))
        rw [hq] at hcall
        cases hany : (leastTo q k).any (sub · n) with
        | true =>
          have hst : leastTo q (k + 1) = leastTo q k := by rw [hsucc.out]; unfold leastStep; rw [hq, hany]; simp
          rw [hany] at hcont
          have HS := Lib.hid hst
          have HO := Lib.hid hown
          clear hq hst hown hR hsucc hany
          go_wp2_with (first | (go_at_fn F; refine hcall.out.mono ?_; rintro e w' ⟨rfl, rfl⟩) | (go_at_call 86; refine hcont.out.mono ?_; rintro e w' ⟨rfl, rfl⟩))
          go_roundw
          case rel =>
            refine ⟨k + 1, by omega, by go_num, ?_, hb.alloc hsz _⟩
            rw [HS.out]
            exact HO.out.alloc _
          case measure => simp [intOf]; omega
        | false =>
          have hst : leastTo q (k + 1) = leastTo q k ++ [n] := by rw [hsucc.out]; unfold leastStep; rw [hq, hany]; simp
          rw [hany] at hcont
          have HS := Lib.hid hst
          have HOW := Lib.hid hown
          clear hq hst hR hsucc hany hown
          go_wp2_with (first | (go_at_fn F; refine hcall.out.mono ?_; rintro e w' ⟨rfl, rfl⟩) | (go_at_call 86; refine hcont.out.mono ?_; rintro e w' ⟨rfl, rfl⟩) | (at_builtin; refine wpList_append_own _ rfl _ _ 46 rfl w1.heap.size 3 i0 (.int .i64 0) 1 8 Try.underlying46 hi hz0 hz1 hz2 rfl (by decide) _ _ _ rfl ((HOW.out.alloc _).alloc _) ⟨wr.heap.size + 1, 0, none⟩ 1 1 [.int .i64 n] rfl rfl ?c1 ?c2 ?c3 ?c4 ?c5 ?_))
          case c1 =>
            intro j u hj
            match j, hj with
            | 0, hj =>
              simp at hj; subst hj
              have := new_cell (wr.alloc (.cells #[.int .i64 n] 3)) #[.int .i64 n] 3 0 _ rfl
              simp [Addr.add]
          case c2 => intro u hu; simp at hu; subst hu; rfl
          case c3 => unfold maxLen; omega
          case c4 => omega
          case c5 => simp; omega
          intro v' w2 hown' hgrow _
          have HO := Lib.hid hown'
          have HG := Lib.hid hgrow
          have HL := Lib.hid (fun k hk => (HOW.out.lt k hk).1)
          clear hown' hgrow
          go_wp2
          go_roundw
          case rel =>
            refine ⟨k + 1, by omega, by go_num, ?_, ?_⟩
            · rw [HS.out, List.length_append, List.map_append]; exact HO.out
            · exact ((hb.alloc hsz _).alloc (by simp; omega) _).grown HG.out (by simp; omega) HL.out
          case measure => simp [intOf]; omega
    · obtain rfl : k = 256 := by omega
      obtain ⟨hR, _⟩ := owns_IntsR hown
      rw [leastTo_256] at hR
      have HR := Lib.hid hR
      clear hR hown
      go_wp2
      go_ret
      exact ⟨_, rfl, HR.out, hb0.trans (hb.mono hsz0)⟩
end Go.Proofs.Ytfoeamgjjhfkdaa
