/- ContainsFunc over the closure of least; path and cut of a table. -/
import Derived.Test.YtfoeamgjjhfkdaaTd
namespace Go.Proofs.Ytfoeamgjjhfkdaa
open Go.Shelf Go.RowKit Go.Proofs L9

/-- is a set a part of another one? -/
def sub (a b : Nat) : Bool := bits .andNot .i64 (a : Int) (b : Int) == 0

theorem leastIs (a n : Nat) (p : Addr) (w : World) (hp : w.cell? p = some (.int .i64 n)) :
    Calls Try.prog 87 #[.int .i64 a, .pointer (some p)] w fun e w' => e = .returned (.bool (sub a n)) ∧ w' = w := by
  have e : sub a n = (bits .andNot .i64 (a : Int) (n : Int) == 0) := rfl
  have E := Lib.hid e
  clear e
  go_enter Try.func87, Try.ntmps87
  go_wp2
  go_ret
  exact ⟨by rw [E.out]; rfl, rfl⟩

/-- a slice of numbers, perhaps nil -/
def IntsR (w : World) (v : Value) (l : List Nat) : Prop := (v = .slice none 0 0 ∧ l = []) ∨ IntsAt w v l
theorem IntsR.keep {w w' : World} {v : Value} {l : List Nat} (h : IntsR w v l) (hb : Below w.heap.size w w') : IntsR w' v l :=
  h.imp id fun h => h.keep hb
/-- the same, said at one go -/
theorem IntsR.form {w : World} {v : Value} {l : List Nat} (h : IntsR w v l) : ∃ p cap, v = .slice p l.length cap ∧ ∀ j, j < l.length → ∃ g, p = some ⟨g, 0, none⟩ ∧ w.cell? ⟨g, j, none⟩ = some (.int .i64 (l.getD j 0 : Nat)) := by
  rcases h with ⟨rfl, rfl⟩ | ⟨g, cap, rfl, _, hc⟩
  · exact ⟨none, 0, rfl, fun j hj => by simp at hj⟩
  · exact ⟨_, cap, rfl, fun j hj => ⟨g, rfl, hc j hj⟩⟩

set_option maxHeartbeats 1000000 in
theorem indexFunc (l : List Nat) (hl : l.length ≤ 256) (v : Value) (n : Nat) (p : Addr) (w : World) (hv : IntsR w v l) (hp : w.cell? p = some (.int .i64 n)) :
    Calls Try.prog 108 #[v, .func (.func 87) #[] #[.pointer (some p)]] w fun e w' => (∃ i : Int, e = .returned (.int .i64 i) ∧ decide (i ≥ 0) = l.any (sub · n)) ∧ w' = w := by
  obtain ⟨a, cap, rfl, hc⟩ := hv.form
  go_enter Try.func108, Try.ntmps108
  go_wp2_with fail
  go_loop [5, 8] (fun _ i => ∃ k : Nat, k ≤ l.length ∧ i = .int .i64 k ∧ ∀ j, j < k → sub (l.getD j 0) n = false) (fun _ i => l.length - (intOf i).toNat)
  case atStart => exact ⟨0, by omega, rfl, fun j hj => by omega⟩
  case round =>
    obtain ⟨k, hk, rfl, hno⟩ := hrel
    have HNO := Lib.hid hno
    clear hno
    by_cases hlt : k < l.length
    · obtain ⟨g, rfl, hcell⟩ := hc k hlt
      have HC := Lib.hid hc
      clear hc
      have hget : l.getD k 0 = l[k] := by rw [List.getD_eq_getElem?_getD, List.getElem?_eq_getElem hlt]; rfl
      have hmem : l.getD k 0 ∈ l := by rw [hget]; exact List.getElem_mem hlt
      cases hs : sub (l.getD k 0) n with
      | true =>
        have hcon := leastIs (l.getD k 0) n p w hp
        rw [hs] at hcon
        have hany : Hid (l.any (sub · n) = true) := List.any_eq_true.2 ⟨_, hmem, hs⟩
        clear hget hmem hs
        generalize l.getD k 0 = x at hcell hcon
        have hcon' := Lib.hid hcon
        clear hcon
        go_wp2_with (go_at_call 87; refine hcon'.out.mono ?_; rintro e w' ⟨rfl, rfl⟩)
        go_ret
        exact ⟨⟨k, rfl, by rw [hany.out]; simp⟩, rfl⟩
      | false =>
        have hcon := leastIs (l.getD k 0) n p w hp
        rw [hs] at hcon
        have HS := Lib.hid hs
        clear hget hmem hs
        have hcell' := hcell
        generalize l.getD k 0 = x at hcell' hcon
        have hcon' := Lib.hid hcon
        have hce := Lib.hid hcell
        clear hcon hcell
        go_wp2_with (go_at_call 87; refine hcon'.out.mono ?_; rintro e w' ⟨rfl, rfl⟩)
        go_round
        case rel =>
          refine ⟨k + 1, by omega, by go_num, fun j hj => ?_⟩
          by_cases hjk : j = k
          · rw [hjk]; exact HS.out
          · exact HNO.out j (by omega)
        case measure => simp [intOf]; omega
    · obtain rfl : k = l.length := by omega
      have hany : Hid (l.any (sub · n) = false) := by
        show l.any (sub · n) = false
        rw [List.any_eq_false]
        intro x hx
        obtain ⟨i, hi, rfl⟩ := List.mem_iff_getElem.1 hx
        have := HNO.out i hi
        rw [List.getD_eq_getElem?_getD, List.getElem?_eq_getElem hi] at this
        simpa using this
      clear hc
      go_wp2
      go_ret
      exact ⟨⟨-1, rfl, by rw [hany.out]; simp⟩, rfl⟩

set_option maxHeartbeats 1000000 in
theorem containsFunc (l : List Nat) (hl : l.length ≤ 256) (v : Value) (n : Nat) (p : Addr) (w : World) (hv : IntsR w v l) (hp : w.cell? p = some (.int .i64 n)) :
    Calls Try.prog 86 #[v, .func (.func 87) #[] #[.pointer (some p)]] w fun e w' => e = .returned (.bool (l.any (sub · n))) ∧ w' = w := by
  have hcon := Lib.hid (indexFunc l hl v n p w hv hp)
  generalize l.any (sub · n) = b at *
  go_enter Try.func86, Try.ntmps86
  go_wp2_with fail
  refine hcon.out.mono ?_
  rintro e w' ⟨⟨i, rfl, hi⟩, rfl⟩
  have HI := Lib.hid hi
  clear hi
  go_wp2
  go_ret
  exact ⟨by rw [← HI.out]; rfl, rfl⟩

/-- a table: 256 bools at the head of a block -/
def TableAt (w : World) (v : Value) (t : Nat → Bool) : Prop :=
  ∃ b, v = .pointer (some ⟨b, 0, none⟩) ∧ b < w.heap.size ∧ ∀ i, i < 256 → w.cell? ⟨b, i, none⟩ = some (.bool (t i))
theorem TableAt.keep {w w' : World} {v : Value} {t : Nat → Bool} (h : TableAt w v t) (hb : Below w.heap.size w w') : TableAt w' v t := by
  obtain ⟨b, e, hl, hc⟩ := h
  exact ⟨b, e, Nat.lt_of_lt_of_le hl hb.size, fun j hj => by rw [hb.cell (p := ⟨b, j, none⟩) hl]; exact hc j hj⟩

theorem path_any (v : Value) (t : Nat → Bool) (n : Nat) (hn : n < 256) (w : World) (hv : TableAt w v t) :
    Calls Try.prog 60 #[v, .int .i64 n] w fun e w' => e = .returned (.bool (t n)) ∧ w' = w := by
  obtain ⟨b, rfl, _, hc⟩ := hv
  have hcell := hc n hn
  clear hc
  generalize t n = x at *
  go_enter Try.func60, Try.ntmps60
  go_wp2
  go_ret
  exact ⟨rfl, rfl⟩

theorem andNot255 (n : Nat) (hn : n < 256) : bits .andNot .i64 255 (n : Int) = ((255 - n : Nat) : Int) := by
  revert hn
  revert n
  decide +kernel

theorem cut_any (v : Value) (t : Nat → Bool) (n : Nat) (hn : n < 256) (w : World) (hv : TableAt w v t) :
    Calls Try.prog 63 #[v, .int .i64 n] w fun e w' => e = .returned (.bool (!t (255 - n))) ∧ w' = w := by
  obtain ⟨b, rfl, _, hc⟩ := hv
  have hcell := hc (255 - n) (by omega)
  clear hc
  generalize t (255 - n) = x at *
  have h2 := Lib.hid (andNot255 n hn)
  generalize hm : 255 - n = m at *
  have hm2 : m < 256 := by omega
  clear hm hn
  have h3 : (bits .andNot .i64 255 (n : Int)) = (m : Int) := h2.out
  clear h2
  go_enter Try.func63, Try.ntmps63
  go_wp2
  go_ret
  exact ⟨rfl, rfl⟩
end Go.Proofs.Ytfoeamgjjhfkdaa
