/- sorted. The order of all sets: by their sizes, then letter by letter. sorted: all sets, in order. -/
import Derived.Test.YtfoeamgjjhfkdaaTb
import Derived.Test.YtfoeamgjjhfkdaaShelf
import Derived.Lib.QuietBelow
import Derived.Shelf.SlSortCmp.NoneTotal
namespace Go.Proofs.Ytfoeamgjjhfkdaa
open Go.Shelf Go.RowKit Go.Proofs L9

def setCmp (a b : Nat) : Int := orI ((pop a : Int) - pop b) (Lib.compareBytes (txt a) (txt b))
theorem pop_le (n : Nat) : pop n ≤ 8 := txtTo_len n 8

theorem cell_keep {w w' : World} (h : Below w.heap.size w w') (b o : Nat) (hb : b < w.heap.size) : w'.cell? ⟨b, o, none⟩ = w.cell? ⟨b, o, none⟩ := h.cell (p := ⟨b, o, none⟩) hb

theorem new_cell (w : World) (cs : Array Value) (t : TypeId) (j : Nat) (v : Value) (h : cs[j]? = some v) : (w.alloc (.cells cs t)).cell? ⟨w.heap.size, j, none⟩ = some v := by
  rw [Lib.cell_of_heap (cs := cs) (T := t) (fr := (0, 0)) (by show (w.heap.push _)[w.heap.size]? = _; simp)]
  exact h
set_option maxHeartbeats 1000000 in
theorem sortedCmp (a b : Nat) (ha : a < 256) (hb : b < 256) (w : World) :
    Calls Try.prog 95 #[.int .i64 a, .int .i64 b] w fun e w' => e = .returned (.int .i64 (setCmp a b)) ∧ Below w.heap.size w w' ∧ w.drawn ≤ w'.drawn := by
  have p1 := pop_le a
  have p2 := pop_le b
  go_enter Try.func95, Try.ntmps95
  go_wp2_with fail
  refine (onesCount a ha _).mono ?_
  rintro e w1 ⟨rfl, rfl⟩
  go_wp2_with fail
  refine (onesCount b hb _).mono ?_
  rintro e w1 ⟨rfl, rfl⟩
  go_wp2_with fail
  refine (textOf_d a ha _).mono ?_
  rintro e w1 ⟨rfl, hb1, hd1⟩
  go_wp2_with fail
  refine (textOf_d b hb _).mono ?_
  rintro e w2 ⟨rfl, hb2, hd2⟩
  go_wp2_with fail
  refine (Try.strings_Compare _ _ _).mono ?_
  rintro e w3 ⟨rfl, rfl⟩
  go_wp2_with fail
  refine (cmpOr2 ⟨_, 0, none⟩ _ _ _ _ (new_cell _ _ _ 0 _ rfl) (new_cell _ _ _ 1 _ rfl)).mono ?_
  rintro e w4 ⟨rfl, rfl⟩
  go_wp2_with fail
  go_ret
  refine ⟨rfl, ?_, ?_⟩
  · exact (hb1.trans (hb2.mono hb1.size)).alloc (by have := hb1.size; have := hb2.size; omega) _
  · simp; omega
end Go.Proofs.Ytfoeamgjjhfkdaa

namespace Go.Proofs.Ytfoeamgjjhfkdaa
open L9 Go.Sort
theorem cb_lt : ∀ a b : List UInt8, Lib.compareBytes a b < 0 ↔ a < b := by
  intro a
  induction a with
  | nil => intro b; cases b <;> simp [Lib.compareBytes]
  | cons x a ih =>
    intro b
    cases b with
    | nil => simp [Lib.compareBytes]
    | cons y b =>
      simp only [Lib.compareBytes, List.cons_lt_cons_iff]
      by_cases h1 : x < y
      · simp [h1]
      · rw [if_neg h1]
        by_cases h2 : y < x
        · rw [if_pos h2]
          simp only [h1, false_or]
          constructor
          · intro h; omega
          · rintro ⟨rfl, _⟩; exact absurd h2 (UInt8.lt_irrefl _)
        · rw [if_neg h2]
          have : x = y := by
            rcases UInt8.lt_or_lt_of_ne (a := x) (b := y) |> fun f => Classical.em (x = y) with h | h
            · exact h
            · rcases UInt8.lt_or_lt_of_ne h with h' | h'
              · exact absurd h' h1
              · exact absurd h' h2
          subst this
          rw [ih b]
          simp [h1]

theorem cb_gt (a b : List UInt8) : ¬ Lib.compareBytes a b < 0 ↔ b ≤ a := by rw [cb_lt]; exact List.not_lt

/-- is a set in front of another one? -/
def sLt (a b : Nat) : Bool := decide (pop a < pop b) || (decide (pop a = pop b) && decide (txt a < txt b))
theorem setCmp_lt (a b : Nat) : decide (setCmp a b < 0) = sLt a b := by
  unfold setCmp orI sLt
  by_cases h : (pop a : Int) - pop b = 0
  · have h' : pop a = pop b := by omega
    rw [if_pos h]
    simp [h', cb_lt]
  · have h' : pop a ≠ pop b := by omega
    rw [if_neg h]
    simp only [h', decide_false, Bool.false_and, Bool.or_false]
    rw [decide_eq_decide]
    omega
theorem sLt_irrefl (a : Nat) : sLt a a = false := by
  unfold sLt
  simp [List.lt_irrefl]
theorem sLt_iff (a b : Nat) : sLt a b = true ↔ pop a < pop b ∨ (pop a = pop b ∧ txt a < txt b) := by unfold sLt; simp
theorem sLt_iff' (a b : Nat) : sLt a b = false ↔ pop b < pop a ∨ (pop a = pop b ∧ txt b ≤ txt a) := by
  rw [← Bool.not_eq_true, sLt_iff, ← List.not_lt]
  by_cases h : txt a < txt b <;> simp [h] <;> omega
theorem sLt_trans {a b c : Nat} (h1 : sLt a b = true) (h2 : sLt b c = true) : sLt a c = true := by
  rw [sLt_iff] at *
  rcases h1 with h1 | ⟨e1, h1⟩ <;> rcases h2 with h2 | ⟨e2, h2⟩
  · left; omega
  · left; omega
  · left; omega
  · right; exact ⟨by omega, List.lt_trans h1 h2⟩
theorem sLt_ntrans {a b c : Nat} (h1 : sLt a b = false) (h2 : sLt b c = false) : sLt a c = false := by
  rw [sLt_iff'] at *
  rcases h1 with h1 | ⟨e1, h1⟩ <;> rcases h2 with h2 | ⟨e2, h2⟩
  · left; omega
  · left; omega
  · left; omega
  · right; exact ⟨by omega, List.le_trans h2 h1⟩

def order : List Nat := [0, 1, 2, 4, 8, 16, 32, 64, 128, 3, 5, 9, 17, 33, 65, 129, 6, 10, 18, 34, 66, 130, 12, 20, 36, 68, 132, 24, 40, 72, 136, 48, 80, 144, 96, 160, 192, 7, 11, 19, 35, 67, 131, 13, 21, 37, 69, 133, 25, 41, 73, 137, 49, 81, 145, 97, 161, 193, 14, 22, 38, 70, 134, 26, 42, 74, 138, 50, 82, 146, 98, 162, 194, 28, 44, 76, 140, 52, 84, 148, 100, 164, 196, 56, 88, 152, 104, 168, 200, 112, 176, 208, 224, 15, 23, 39, 71, 135, 27, 43, 75, 139, 51, 83, 147, 99, 163, 195, 29, 45, 77, 141, 53, 85, 149, 101, 165, 197, 57, 89, 153, 105, 169, 201, 113, 177, 209, 225, 30, 46, 78, 142, 54, 86, 150, 102, 166, 198, 58, 90, 154, 106, 170, 202, 114, 178, 210, 226, 60, 92, 156, 108, 172, 204, 116, 180, 212, 228, 120, 184, 216, 232, 240, 31, 47, 79, 143, 55, 87, 151, 103, 167, 199, 59, 91, 155, 107, 171, 203, 115, 179, 211, 227, 61, 93, 157, 109, 173, 205, 117, 181, 213, 229, 121, 185, 217, 233, 241, 62, 94, 158, 110, 174, 206, 118, 182, 214, 230, 122, 186, 218, 234, 242, 124, 188, 220, 236, 244, 248, 63, 95, 159, 111, 175, 207, 119, 183, 215, 231, 123, 187, 219, 235, 243, 125, 189, 221, 237, 245, 249, 126, 190, 222, 238, 246, 250, 252, 127, 191, 223, 239, 247, 251, 253, 254, 255]
theorem order_len : order.length = 256 := by decide +kernel
theorem order_lt : ∀ n ∈ order, n < 256 := by decide +kernel
theorem order_all : ∀ n, n < 256 → n ∈ order := by decide +kernel
def adj (r : Nat → Nat → Bool) : List Nat → Bool
  | [] => true
  | a :: l => (match l with | [] => true | b :: _ => r a b) && adj r l
theorem adj_pairwise {r : Nat → Nat → Bool} (tr : ∀ a b c, r a b = true → r b c = true → r a c = true) : ∀ l, adj r l = true → l.Pairwise (fun a b => r a b = true) := by
  intro l
  induction l with
  | nil => intro _; exact .nil
  | cons a l ih =>
    intro h
    simp only [adj, Bool.and_eq_true] at h
    have hp := ih h.2
    refine List.pairwise_cons.2 ⟨?_, hp⟩
    cases l with
    | nil => intro x hx; cases hx
    | cons b l =>
      intro x hx
      rcases List.mem_cons.1 hx with rfl | hx
      · exact h.1
      · exact tr _ _ _ h.1 ((List.pairwise_cons.1 hp).1 x hx)
set_option maxRecDepth 100000 in
theorem order_adj : adj sLt order = true := by decide +kernel
theorem order_sorted : order.Pairwise (fun a b => sLt a b = true) := adj_pairwise (r := sLt) (fun _ _ _ => sLt_trans) order order_adj
theorem order_nodup : order.Nodup := order_sorted.imp (by intro a b h e; subst e; rw [sLt_irrefl] at h; cases h)

/-- A list of all sets in which none is in front of an earlier one is the order. -/
theorem sorted_is_order (l : List Nat) (hp : l.Perm (List.range 256)) (hs : l.Pairwise (fun a b => sLt b a = false)) : l = order := by
  have hperm : l.Perm order := by
    refine hp.trans ?_
    refine (List.perm_ext_iff_of_nodup List.nodup_range order_nodup).2 ?_
    intro a
    rw [List.mem_range]
    exact ⟨order_all a, order_lt a⟩
  refine hperm.eq_of_pairwise (le := fun a b => sLt b a = false) ?_ hs ?_
  · intro a b ha hb h1 h2
    rw [sLt_iff'] at h1 h2
    have e : txt a = txt b := by
      rcases h1 with h1 | ⟨e1, h1⟩ <;> rcases h2 with h2 | ⟨e2, h2⟩
      · omega
      · omega
      · omega
      · exact List.le_antisymm h1 h2
    have ha' : a < 256 := order_lt a (hperm.mem_iff.1 ha)
    have hb' : b < 256 := order_lt b hb
    exact txt_inj a b ha' hb' e
  · exact order_sorted.imp (by
      intro a b h
      rw [sLt_iff] at h
      rw [sLt_iff']
      rcases h with h | ⟨e, h⟩
      · exact Or.inl h
      · exact Or.inr ⟨e.symm, List.le_of_lt h⟩)
end Go.Proofs.Ytfoeamgjjhfkdaa

namespace Go.Proofs.Ytfoeamgjjhfkdaa
open Go.Shelf Go.RowKit Go.Proofs L9 Go.Sort

/-- a slice of numbers: the cells of a block from its head on -/
def IntsAt (w : World) (v : Value) (l : List Nat) : Prop :=
  ∃ g cap, v = .slice (some ⟨g, 0, none⟩) l.length cap ∧ g < w.heap.size ∧ ∀ j, j < l.length → w.cell? ⟨g, j, none⟩ = some (.int .i64 (l.getD j 0 : Nat))
theorem IntsAt.keep {w w' : World} {v : Value} {l : List Nat} (h : IntsAt w v l) (hb : Below w.heap.size w w') : IntsAt w' v l := by
  obtain ⟨g, cap, e, hg, hc⟩ := h
  exact ⟨g, cap, e, Nat.lt_of_lt_of_le hg hb.size, fun j hj => by rw [hb.cell (p := ⟨g, j, none⟩) hg]; exact hc j hj⟩

theorem swo : SWO (ltOf fun (a b : Fin 256) => setCmp a b) where
  irrefl x := by unfold ltOf; rw [setCmp_lt]; exact sLt_irrefl _
  trans x y z h1 h2 := by unfold ltOf at *; rw [setCmp_lt] at *; exact sLt_trans h1 h2
  ntrans x y z h1 h2 := by unfold ltOf at *; rw [setCmp_lt] at *; exact sLt_ntrans h1 h2

theorem grown_of (w w' : World) (h : Below w.heap.size w w') (hd : w.drawn ≤ w'.drawn) : ∃ q os, w' = grow (w.drewN q) os := by
  obtain ⟨p, hp⟩ := regrown_of_below h
  refine ⟨p.d - w.drawn, p.os, ?_⟩
  have : p.d = w'.drawn := by rw [hp]; rfl
  rw [hp]
  congr 1
  unfold redrawn World.drewN
  congr 1
  omega

theorem sort_below (enc : Fin 256 → Value) (w : World) (blk off n : Nat) (d : Array (Fin 256)) (os : Array Obj) (B : Nat) (hB : B ≤ blk) (hblk : blk < w.heap.size) : Go.RowKit.Below B w (sortWorld enc w blk off n d os) := by
  refine ⟨rfl, rfl, rfl, ?_, ?_⟩
  · unfold sortWorld grow putRow mapBlock Sort.ahead; simp
  · intro k hk
    unfold sortWorld grow putRow mapBlock Sort.ahead
    simp only [Array.getElem?_append, Array.size_modify, Array.getElem?_modify]
    rw [if_pos (by omega), if_neg (by omega)]

def d0 : Array (Fin 256) := Array.ofFn fun i => i
theorem d0_size : d0.size = 256 := by simp [d0]
theorem d0_get (j : Nat) (hj : j < 256) : d0[j]! = ⟨j, hj⟩ := by
  rw [getElem!_pos d0 j (by rw [d0_size]; exact hj)]; simp [d0]

theorem ofFn_range (n : Nat) : (Array.ofFn fun i : Fin n => i).toList.map (fun x : Fin n => (x : Nat)) = List.range n := by
  apply List.ext_getElem
  · simp
  · intro i h1 h2; simp

/-- what the sort leaves is the order -/
theorem sort_order (d : Array (Fin 256)) (hp : PermIn 0 256 d0 d) (hs : SortedIn (ltOf fun (a b : Fin 256) => setCmp a b) 0 256 d) (j : Nat) (hj : j < 256) : ((d[j]! : Fin 256) : Nat) = order.getD j 0 := by
  have hsz : d.size = 256 := hp.1.trans d0_size
  have h1 : d.toList.map (fun x : Fin 256 => (x : Nat)) = order := by
    apply sorted_is_order
    · have h2 := hp.2.2
      rw [Array.extract_eq_self_of_le (by omega), Array.extract_eq_self_of_le (by rw [d0_size]; omega)] at h2
      refine (h2.map (fun x : Fin 256 => (x : Nat))).trans (List.Perm.of_eq (ofFn_range 256))
    · rw [List.pairwise_map, List.pairwise_iff_getElem]
      intro i j hi hj hij
      have := hs i j (Nat.zero_le _) hij (by simpa [hsz] using hj)
      unfold ltOf at this
      rw [setCmp_lt, getElem!_pos d j (by simpa using hj), getElem!_pos d i (by simpa using hi)] at this
      simpa using this
  rw [getElem!_pos d j (by omega), ← h1, List.getD_eq_getElem?_getD, List.getElem?_map, Array.getElem?_toList, Array.getElem?_eq_getElem (by omega)]
  rfl

set_option maxHeartbeats 1000000 in
set_option maxRecDepth 100000 in
theorem sorted_any (w : World) :
    Calls Try.prog 71 #[] w fun e w' => ∃ v, e = .returned v ∧ IntsAt w' v order ∧ Below w.heap.size w w' := by
  have hi' : (Try.prog.info? 3).map (fun i => (i.zero, i.size, i.bytes)) = some (some (.int .i64 0), 1, 8) := by kernel_rfl
  obtain ⟨i0, hi, hz0, hz1, hz2⟩ := info_parts hi'
  clear hi'
  go_enter Try.func71, Try.ntmps71
  go_wp2
  go_loopw [1, 2, 3] (fun v _ i wr => ∃ k : Nat, k ≤ 256 ∧ i = .int .i64 k ∧ wr.ownsRow w.heap.size 3 1 v k ((List.range k).map fun j => Value.int .i64 (j : Nat)) ∧ Below w.heap.size w wr) (fun _ _ i _ => 256 - (intOf i).toNat)
  case atStart => exact ⟨0, by omega, rfl, World.ownsRow_nil _ _ _ _, Below.refl _ _⟩
  case round =>
    obtain ⟨k, hk, rfl, hown, hb⟩ := hrel
    have hsz := hb.size
    by_cases hlt : k < 256
    · go_wp2_with (at_builtin; refine wpList_append_own _ rfl _ _ 46 rfl w.heap.size 3 i0 (.int .i64 0) 1 8 Try.underlying46 hi hz0 hz1 hz2 rfl (by decide) _ _ _ rfl (hown.alloc _) ⟨wr.heap.size, 0, none⟩ 1 1 [.int .i64 k] rfl rfl ?c1 ?c2 ?c3 ?c4 ?c5 ?_)
      case c1 => intro j u hj; match j, hj with | 0, hj => simp at hj; subst hj; exact new_cell _ _ _ 0 _ rfl
      case c2 => intro u hu; simp at hu; subst hu; rfl
      case c3 => unfold maxLen; omega
      case c4 => omega
      case c5 => simp; omega
      intro v' w2 hown' hgrow _
      have HO := Lib.hid hown'
      have HG := Lib.hid hgrow
      have HL := Lib.hid (fun k hk => (hown.lt k hk).1)
      clear hown' hgrow hown
      go_wp2
      go_roundw
      case rel =>
        refine ⟨k + 1, by omega, by go_num, ?_, ?_⟩
        · rw [List.range_succ, List.map_append]; exact HO.out
        · exact (hb.alloc hsz _).grown HG.out (by simp; omega) HL.out
      case measure => simp [intOf]; omega
    · obtain rfl : k = 256 := by omega
      obtain ⟨g, cap, cur, rfl, hg, hbg, _⟩ : ∃ g cap cur, u1 = .slice (some ⟨g, 0, none⟩) 256 cap ∧ w.heap.size ≤ g ∧ wr.heap[g]? = some (.cells cur 3 (0, 0)) ∧ True := by
        rcases hown.2 with ⟨_, h0⟩ | ⟨g, cap, cur, e, h1, h2, _⟩
        · omega
        · exact ⟨g, cap, cur, e, h1, h2, trivial⟩
      have hlt : g < wr.heap.size := by
        rcases Nat.lt_or_ge g wr.heap.size with h' | h'
        · exact h'
        · simp [Array.getElem?_eq_none h'] at hbg
      have hH : Holds (fun i : Fin 256 => Value.int .i64 ((i : Nat) : Int)) wr g 0 d0 := by
        intro j hj
        rw [d0_size] at hj
        refine ⟨?_, hown.frozenAt _⟩
        rw [Nat.zero_add, hown.cellAt j (by omega), d0_get j hj]
        simp [hj]
      have eg : ∀ args w, (callFunc 95 args).run Try.prog w = .ok (.enter 95 args) w := enters_of Try.func95 (by kernel_rfl) rfl
      have hcmp : CmpLays1 Try.prog 95 #[] (fun i : Fin 256 => Value.int .i64 ((i : Nat) : Int)) (fun a b => setCmp a b) g 0 d0.size wr := by
        intro m os dk hdk x y
        refine (sortedCmp x y x.2 y.2 _).mono ?_
        rintro e w' ⟨he, hb, hd⟩
        exact ⟨he, grown_of _ _ hb hd⟩
      have hcon := Try.slices_SortFunc (fun i : Fin 256 => Value.int .i64 ((i : Nat) : Int)) (fun _ => rfl) (fun a b => setCmp a b) swo 95 #[] g 0 cap d0 wr eg hcmp hH hlt (by rw [d0_size]; omega)
      have HC : Calls Try.prog 94 #[.slice (some ⟨g, 0, none⟩) 256 cap, .func (.func 95) #[] #[]] wr fun e w' => e = .returned (.tuple #[]) ∧ IntsAt w' (.slice (some ⟨g, 0, none⟩) 256 cap) order ∧ Go.RowKit.Below w.heap.size wr w' := by
        rw [d0_size] at hcon
        refine hcon.mono ?_
        rintro e w' ⟨he, d, n, os, hp, hs, rfl⟩
        have hsz : d.size = d0.size := hp.1
        have hh := holds_sortWorld _ wr g 0 n d0 d os hlt hH hsz
        refine ⟨he, ⟨g, cap, by rw [order_len], lt_sortWorld _ _ _ _ _ _ _ hlt, ?_⟩, sort_below _ _ _ _ _ _ _ _ hg hlt⟩
        intro j hj
        rw [order_len] at hj
        have := (hh j (by rw [hsz, d0_size]; exact hj)).1
        rw [Nat.zero_add] at this
        rw [this]
        show some (Value.int .i64 (((d[j]! : Fin 256) : Nat) : Int)) = _
        rw [sort_order d hp hs j hj]
      have HC' := Lib.hid HC
      clear HC hcon hcmp hH hbg hown
      go_wp2_with (go_at_call 94; refine HC'.out.mono ?_; rintro e w1 ⟨rfl, hi1, hb1⟩)
      go_ret
      exact ⟨_, rfl, hi1, hb.trans hb1⟩
end Go.Proofs.Ytfoeamgjjhfkdaa
