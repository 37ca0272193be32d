/- sorted: all sets, in order. -/
import Derived.Test.YtfoeamgjjhfkdaaMb
namespace Go.Proofs.Ytfoeamgjjhfkdaa
open Go.Shelf Go.RowKit Go.Proofs L9 Go.Sort

/-- a slice of numbers: the cells of a block from its head on -/
def IntsAt (w : World) (v : Value) (l : List Nat) : Prop :=
  ∃ g cap, v = .slice (some ⟨g, 0, none⟩) l.length cap ∧ g < w.heap.size ∧ ∀ j, j < l.length → w.cell? ⟨g, j, none⟩ = some (.int .i64 (l.getD j 0 : Nat))
theorem IntsAt.keep {w w' : World} {v : Value} {l : List Nat} (h : IntsAt w v l) (hb : Below w.heap.size w w') : IntsAt w' v l := by
  obtain ⟨g, cap, e, hg, hc⟩ := h
  exact ⟨g, cap, e, Nat.lt_of_lt_of_le hg hb.size, fun j hj => by rw [hb.cell (p := ⟨g, j, none⟩) hg]; exact hc j hj⟩

theorem swo : SWO (ltOf fun (a b : Fin 256) => setCmp a b) where
  irrefl x := by unfold ltOf; rw [setCmp_lt]; exact sLt_irrefl _
  trans x y z h1 h2 := by unfold ltOf at *; rw [setCmp_lt] at *; exact sLt_trans h1 h2
  ntrans x y z h1 h2 := by unfold ltOf at *; rw [setCmp_lt] at *; exact sLt_ntrans h1 h2

theorem grown_of (w w' : World) (h : Below w.heap.size w w') (hd : w.drawn ≤ w'.drawn) : ∃ q os, w' = grow (w.drewN q) os := by
  obtain ⟨p, hp⟩ := regrown_of_below h
  refine ⟨p.d - w.drawn, p.os, ?_⟩
  have : p.d = w'.drawn := by rw [hp]; rfl
  rw [hp]
  congr 1
  unfold redrawn World.drewN
  congr 1
  omega

theorem sort_below (enc : Fin 256 → Value) (w : World) (blk off n : Nat) (d : Array (Fin 256)) (os : Array Obj) (B : Nat) (hB : B ≤ blk) (hblk : blk < w.heap.size) : Go.RowKit.Below B w (sortWorld enc w blk off n d os) := by
  refine ⟨rfl, rfl, rfl, ?_, ?_⟩
  · unfold sortWorld grow putRow mapBlock Sort.ahead; simp
  · intro k hk
    unfold sortWorld grow putRow mapBlock Sort.ahead
    simp only [Array.getElem?_append, Array.size_modify, Array.getElem?_modify]
    rw [if_pos (by omega), if_neg (by omega)]

def d0 : Array (Fin 256) := Array.ofFn fun i => i
theorem d0_size : d0.size = 256 := by simp [d0]
theorem d0_get (j : Nat) (hj : j < 256) : d0[j]! = ⟨j, hj⟩ := by
  rw [getElem!_pos d0 j (by rw [d0_size]; exact hj)]; simp [d0]

theorem ofFn_range (n : Nat) : (Array.ofFn fun i : Fin n => i).toList.map (fun x : Fin n => (x : Nat)) = List.range n := by
  apply List.ext_getElem
  · simp
  · intro i h1 h2; simp

/-- what the sort leaves is the order -/
theorem sort_order (d : Array (Fin 256)) (hp : PermIn 0 256 d0 d) (hs : SortedIn (ltOf fun (a b : Fin 256) => setCmp a b) 0 256 d) (j : Nat) (hj : j < 256) : ((d[j]! : Fin 256) : Nat) = order.getD j 0 := by
  have hsz : d.size = 256 := hp.1.trans d0_size
  have h1 : d.toList.map (fun x : Fin 256 => (x : Nat)) = order := by
    apply sorted_is_order
    · have h2 := hp.2.2
      rw [Array.extract_eq_self_of_le (by omega), Array.extract_eq_self_of_le (by rw [d0_size]; omega)] at h2
      refine (h2.map (fun x : Fin 256 => (x : Nat))).trans (List.Perm.of_eq (ofFn_range 256))
    · rw [List.pairwise_map, List.pairwise_iff_getElem]
      intro i j hi hj hij
      have := hs i j (Nat.zero_le _) hij (by simpa [hsz] using hj)
      unfold ltOf at this
      rw [setCmp_lt, getElem!_pos d j (by simpa using hj), getElem!_pos d i (by simpa using hi)] at this
      simpa using this
  rw [getElem!_pos d j (by omega), ← h1, List.getD_eq_getElem?_getD, List.getElem?_map, Array.getElem?_toList, Array.getElem?_eq_getElem (by omega)]
  rfl

set_option maxHeartbeats 1000000 in
set_option maxRecDepth 100000 in
theorem sorted_any (w : World) :
    Calls Try.prog 71 #[] w fun e w' => ∃ v, e = .returned v ∧ IntsAt w' v order ∧ Below w.heap.size w w' := by
  have hi' : (Try.prog.info? 3).map (fun i => (i.zero, i.size, i.bytes)) = some (some (.int .i64 0), 1, 8) := by kernel_rfl
  obtain ⟨i0, hi, hz0, hz1, hz2⟩ := info_parts hi'
  clear hi'
  go_enter Try.func71, Try.ntmps71
  go_wp2
  go_loopw [1, 2, 3] (fun v _ i wr => ∃ k : Nat, k ≤ 256 ∧ i = .int .i64 k ∧ wr.ownsRow w.heap.size 3 1 v k ((List.range k).map fun j => Value.int .i64 (j : Nat)) ∧ Below w.heap.size w wr) (fun _ _ i _ => 256 - (intOf i).toNat)
  case atStart => exact ⟨0, by omega, rfl, World.ownsRow_nil _ _ _ _, Below.refl _ _⟩
  case round =>
    obtain ⟨k, hk, rfl, hown, hb⟩ := hrel
    have hsz := hb.size
    by_cases hlt : k < 256
    · go_wp2_with (at_builtin; refine wpList_append_own _ rfl _ _ 46 rfl w.heap.size 3 i0 (.int .i64 0) 1 8 Try.underlying46 hi hz0 hz1 hz2 rfl (by decide) _ _ _ rfl (hown.alloc _) ⟨wr.heap.size, 0, none⟩ 1 1 [.int .i64 k] rfl rfl ?c1 ?c2 ?c3 ?c4 ?c5 ?_)
      case c1 => intro j u hj; match j, hj with | 0, hj => simp at hj; subst hj; exact new_cell _ _ _ 0 _ rfl
      case c2 => intro u hu; simp at hu; subst hu; rfl
      case c3 => unfold maxLen; omega
      case c4 => omega
      case c5 => simp; omega
      intro v' w2 hown' hgrow _
      have HO := Lib.hid hown'
      have HG := Lib.hid hgrow
      have HL := Lib.hid (fun k hk => (hown.lt k hk).1)
      clear hown' hgrow hown
      go_wp2
      go_roundw
      case rel =>
        refine ⟨k + 1, by omega, by go_num, ?_, ?_⟩
        · rw [List.range_succ, List.map_append]; exact HO.out
        · exact (hb.alloc hsz _).grown HG.out (by simp; omega) HL.out
      case measure => simp [intOf]; omega
    · obtain rfl : k = 256 := by omega
      obtain ⟨g, cap, cur, rfl, hg, hbg, _⟩ : ∃ g cap cur, u1 = .slice (some ⟨g, 0, none⟩) 256 cap ∧ w.heap.size ≤ g ∧ wr.heap[g]? = some (.cells cur 3 (0, 0)) ∧ True := by
        rcases hown.2 with ⟨_, h0⟩ | ⟨g, cap, cur, e, h1, h2, _⟩
        · omega
        · exact ⟨g, cap, cur, e, h1, h2, trivial⟩
      have hlt : g < wr.heap.size := by
        rcases Nat.lt_or_ge g wr.heap.size with h' | h'
        · exact h'
        · simp [Array.getElem?_eq_none h'] at hbg
      have hH : Holds (fun i : Fin 256 => Value.int .i64 ((i : Nat) : Int)) wr g 0 d0 := by
        intro j hj
        rw [d0_size] at hj
        refine ⟨?_, hown.frozenAt _⟩
        rw [Nat.zero_add, hown.cellAt j (by omega), d0_get j hj]
        simp [hj]
      have eg : ∀ args w, (callFunc 95 args).run Try.prog w = .ok (.enter 95 args) w := enters_of Try.func95 (by kernel_rfl) rfl
      have hcmp : CmpLays1 Try.prog 95 #[] (fun i : Fin 256 => Value.int .i64 ((i : Nat) : Int)) (fun a b => setCmp a b) g 0 d0.size wr := by
        intro m os dk hdk x y
        refine (sortedCmp x y x.2 y.2 _).mono ?_
        rintro e w' ⟨he, hb, hd⟩
        exact ⟨he, grown_of _ _ hb hd⟩
      have hcon := Try.slices_SortFunc (fun i : Fin 256 => Value.int .i64 ((i : Nat) : Int)) (fun _ => rfl) (fun a b => setCmp a b) swo 95 #[] g 0 cap d0 wr eg hcmp hH hlt (by rw [d0_size]; omega)
      have HC : Calls Try.prog 94 #[.slice (some ⟨g, 0, none⟩) 256 cap, .func (.func 95) #[] #[]] wr fun e w' => e = .returned (.tuple #[]) ∧ IntsAt w' (.slice (some ⟨g, 0, none⟩) 256 cap) order ∧ Go.RowKit.Below w.heap.size wr w' := by
        rw [d0_size] at hcon
        refine hcon.mono ?_
        rintro e w' ⟨he, d, n, os, hp, hs, rfl⟩
        have hsz : d.size = d0.size := hp.1
        have hh := holds_sortWorld _ wr g 0 n d0 d os hlt hH hsz
        refine ⟨he, ⟨g, cap, by rw [order_len], lt_sortWorld _ _ _ _ _ _ _ hlt, ?_⟩, sort_below _ _ _ _ _ _ _ _ hg hlt⟩
        intro j hj
        rw [order_len] at hj
        have := (hh j (by rw [hsz, d0_size]; exact hj)).1
        rw [Nat.zero_add] at this
        rw [this]
        show some (Value.int .i64 (((d[j]! : Fin 256) : Nat) : Int)) = _
        rw [sort_order d hp hs j hj]
      have HC' := Lib.hid HC
      clear HC hcon hcmp hH hbg hown
      go_wp2_with (go_at_call 94; refine HC'.out.mono ?_; rintro e w1 ⟨rfl, hi1, hb1⟩)
      go_ret
      exact ⟨_, rfl, hi1, hb.trans hb1⟩
end Go.Proofs.Ytfoeamgjjhfkdaa
