/- texts, Paths, Cuts, asked, Conducts, IsPath, IsCut. asked, Conducts, IsPath, IsCut, Letters, ValidSet. -/
import Derived.Test.YtfoeamgjjhfkdaaTq
namespace Go.Proofs.Ytfoeamgjjhfkdaa
open Go.Shelf Go.RowKit Go.Proofs L9

/-- a slice of texts -/
def StrsAt (w : World) (v : Value) (l : List (List UInt8)) : Prop :=
  ∃ g cap, v = .slice (some ⟨g, 0, none⟩) l.length cap ∧ g < w.heap.size ∧ l.length ≤ cap ∧ ∀ j, j < l.length → w.cell? ⟨g, j, none⟩ = some (.string ⟨(l.getD j []).toArray⟩)
def StrsR (w : World) (v : Value) (l : List (List UInt8)) : Prop := (v = .slice none 0 0 ∧ l = []) ∨ StrsAt w v l
theorem StrsAt.keep {w w' : World} {v : Value} {l : List (List UInt8)} (h : StrsAt w v l) (hb : Below w.heap.size w w') : StrsAt w' v l := by
  obtain ⟨g, cap, e, hg, hl, hc⟩ := h
  exact ⟨g, cap, e, Nat.lt_of_lt_of_le hg hb.size, hl, fun j hj => by rw [hb.cell (p := ⟨g, j, none⟩) hg]; exact hc j hj⟩
theorem StrsR.keep {w w' : World} {v : Value} {l : List (List UInt8)} (h : StrsR w v l) (hb : Below w.heap.size w w') : StrsR w' v l := h.imp id fun h => h.keep hb

theorem owns_StrsR {w : World} {B : Nat} {v : Value} {n : Nat} {l : List (List UInt8)} (h : w.ownsRow B 9 1 v n (l.map fun t => Value.string ⟨t.toArray⟩)) : StrsR w v l ∧ n = l.length := by
  have hn : n = l.length := by have := h.1; simp at this; omega
  subst hn
  rcases h.2 with ⟨rfl, h0⟩ | ⟨g, cap, cur, rfl, hB, hg, hnc, _⟩
  · exact ⟨Or.inl ⟨rfl, List.length_eq_zero_iff.1 h0⟩, rfl⟩
  · refine ⟨Or.inr ⟨g, cap, rfl, ?_, hnc, ?_⟩, rfl⟩
    · rcases Nat.lt_or_ge g w.heap.size with h' | h'
      · exact h'
      · simp [Array.getElem?_eq_none h'] at hg
    · intro j hj
      rw [h.cellAt j (by omega)]
      rw [List.getElem?_map, List.getElem?_eq_getElem hj, List.getD_eq_getElem?_getD, List.getElem?_eq_getElem hj]
      rfl

set_option maxHeartbeats 1000000 in
set_option maxRecDepth 100000 in
theorem texts_any (v : Value) (l : List Nat) (hl : l.length ≤ 256) (hlt : ∀ n ∈ l, n < 256) (w : World) (hv : IntsR w v l) :
    Calls Try.prog 58 #[v] w fun e w' => ∃ u, e = .returned u ∧ StrsR w' u (l.map txt) ∧ Below w.heap.size w w' := by
  have hi' : (Try.prog.info? 9).map (fun i => (i.zero, i.size, i.bytes)) = some (some (.string ⟨#[]⟩), 1, 16) := by kernel_rfl
  obtain ⟨i0, hi, hz0, hz1, hz2⟩ := info_parts hi'
  clear hi'
  have hlen0 : l = [] → l.length = 0 := fun e => by rw [e]; rfl
  obtain ⟨a, cap, rfl, hc⟩ := hv.form
  have hag : ∀ j, j < l.length → ∃ g, a = some ⟨g, 0, none⟩ ∧ g < w.heap.size := by
    intro j hj
    rcases hv with ⟨e, e2⟩ | ⟨g, cap', e, hg, _⟩
    · rw [e2] at hj; simp at hj
    · injection e with e1 _ _; exact ⟨g, e1, hg⟩
  have HC := Lib.hid hc
  have HAG := Lib.hid hag
  have HLT := Lib.hid hlt
  clear hc hv hag hlt hlen0
  go_enter Try.func58, Try.ntmps58
  go_wp2_with fail
  go_loopw [3, 5, 8] (fun v _ i wr => ∃ k : Nat, k ≤ l.length ∧ i = .int .i64 k ∧ wr.ownsRow w.heap.size 9 1 v k (((l.take k).map txt).map fun t => Value.string ⟨t.toArray⟩) ∧ Below w.heap.size w wr) (fun _ _ i _ => l.length - (intOf i).toNat)
  case atStart => exact ⟨0, by omega, rfl, World.ownsRow_nil _ _ _ _, Below.refl _ _⟩
  case round =>
    obtain ⟨k, hk, rfl, hown, hb⟩ := hrel
    have hsz := hb.size
    by_cases hlt : k < l.length
    · obtain ⟨g, rfl, hcell0⟩ := HC.out k hlt
      obtain ⟨g', he, hg⟩ := HAG.out k hlt
      injection he with he
      injection he with he _ _
      subst he
      have hcell : wr.cell? ⟨g, k, none⟩ = some (.int .i64 (l.getD k 0 : Nat)) := by rw [hb.cell (p := ⟨g, k, none⟩) hg]; exact hcell0
      have hget : l.getD k 0 = l[k] := by rw [List.getD_eq_getElem?_getD, List.getElem?_eq_getElem hlt]; rfl
      have hn : l.getD k 0 < 256 := HLT.out _ (by rw [hget]; exact List.getElem_mem hlt)
      have htake : l.take (k + 1) = l.take k ++ [l.getD k 0] := by rw [hget]; exact List.take_succ_eq_append_getElem hlt
      have HT := Lib.hid htake
      clear htake hget hcell0
      generalize l.getD k 0 = n at *
      have HOW := Lib.hid hown
      clear hown
      go_wp2_with fail
      refine (textOf_d n hn _).mono ?_
      rintro e w1 ⟨rfl, hb1, _⟩
      have hsz1 := hb1.size
      have HO1 := Lib.hid (HOW.out.kept (grown_none hb1) (Classical.em _))
      have HL := Lib.hid (fun k hk => (HOW.out.lt k hk).1)
      clear HOW
      go_wp2_with (at_builtin; refine wpList_append_own _ rfl _ _ 24 rfl w.heap.size 9 i0 (.string ⟨#[]⟩) 1 16 Try.underlying24 hi hz0 hz1 hz2 rfl (by decide) _ _ _ rfl (HO1.out.alloc _) ⟨w1.heap.size, 0, none⟩ 1 1 [.string ⟨(txt n).toArray⟩] rfl rfl ?c1 ?c2 ?c3 ?c4 ?c5 ?_)
      case c1 => intro j u hj; match j, hj with | 0, hj => simp at hj; subst hj; exact new_cell _ _ _ 0 _ rfl
      case c2 => intro u hu; simp at hu; subst hu; rfl
      case c3 => unfold maxLen; omega
      case c4 => omega
      case c5 => simp; omega
      intro v' w2 hown' hgrow _
      have HO := Lib.hid hown'
      have HG := Lib.hid hgrow
      clear hown' hgrow HO1
      go_wp2
      go_roundw
      case rel =>
        refine ⟨k + 1, by omega, by go_num, ?_, ?_⟩
        · rw [HT.out, List.map_append, List.map_append]
          have := HO.out
          simpa using this
        · exact ((hb.trans (hb1.mono hsz)).alloc (by omega) _).grown HG.out (by simp; omega) HL.out
      case measure => simp [intOf]; omega
    · obtain rfl : k = l.length := by omega
      rw [List.take_length] at hown
      have HR := Lib.hid (owns_StrsR hown).1
      clear hown
      go_wp2
      go_ret
      exact ⟨_, rfl, HR.out, hb⟩

theorem leastL_len (q : Nat → Bool) : (leastL q).length ≤ 256 := by rw [← leastTo_256]; exact leastTo_len q 256
theorem leastL_mem (q : Nat → Bool) : ∀ n ∈ leastL q, n < 256 ∧ q n = true := by
  suffices h : ∀ (l acc : List Nat), (∀ n ∈ l, n < 256) → (∀ n ∈ acc, n < 256 ∧ q n = true) → ∀ n ∈ l.foldl (leastStep q) acc, n < 256 ∧ q n = true from h order [] order_lt (fun n hn => by cases hn)
  intro l
  induction l with
  | nil => intro acc _ h; exact h
  | cons a l ih =>
    intro acc hl hacc
    rw [List.foldl_cons]
    refine ih _ (fun n hn => hl n (List.mem_cons_of_mem _ hn)) ?_
    unfold leastStep
    split
    · rename_i hc
      simp only [Bool.and_eq_true] at hc
      intro n hn
      rcases List.mem_append.1 hn with hn | hn
      · exact hacc n hn
      · rw [List.mem_singleton] at hn; subst hn; exact ⟨hl n List.mem_cons_self, hc.1⟩
    · exact hacc

/-- the tables of a circuit's paths and of its cuts -/
def tblC (c : List (List Part)) (n : Nat) : Bool := evC c n
def tblX (c : List (List Part)) (n : Nat) : Bool := !evC c (255 - n)

theorem least_paths (p : Value) (c : List (List Part)) (w : World) (hp : TableAt w p (evC c)) :
    Calls Try.prog 59 #[.func (.func 60) #[p] #[]] w fun e w' => ∃ v, e = .returned v ∧ IntsR w' v (leastL (tblC c)) ∧ Below w.heap.size w w' :=
  least_any 60 p (tblC c) w (enters_of Try.func60 (by kernel_rfl) rfl) fun w' n hb hn => path_any p (evC c) n hn w' (hp.keep hb)
theorem least_cuts (p : Value) (c : List (List Part)) (w : World) (hp : TableAt w p (evC c)) :
    Calls Try.prog 59 #[.func (.func 63) #[p] #[]] w fun e w' => ∃ v, e = .returned v ∧ IntsR w' v (leastL (tblX c)) ∧ Below w.heap.size w w' :=
  least_any 63 p (tblX c) w (enters_of Try.func63 (by kernel_rfl) rfl) fun w' n hb hn => cut_any p (evC c) n hn w' (hp.keep hb)

/-- what Paths and Cuts leave -/
def ListPost (w : World) (o : Option (List (List UInt8))) (e : Ending) (w' : World) : Prop :=
  Below w.heap.size w w' ∧ match o with
    | some l => ∃ u, e = .returned (.tuple #[u, .int .i64 0]) ∧ StrsR w' u l
    | none => e = .returned (.tuple #[.slice none 0 0, .int .i64 90])
def pathsOf (s : List UInt8) : Option (List (List UInt8)) := (circ s).map fun c => (leastL (tblC c)).map txt
def cutsOf (s : List UInt8) : Option (List (List UInt8)) := (circ s).map fun c => (leastL (tblX c)).map txt

theorem paths_any (s : ByteArray) (w : World) (hm : s.size ≤ maxLen) : Calls Try.prog 16 #[.string s] w (ListPost w (pathsOf s.data.toList)) := by
  have HP := Lib.hid (open_any s w hm)
  unfold pathsOf
  have hmf : ∀ (fn : Fn) (first cap : Array Value) (w : World), (Instr.makeFunc fn first cap).run Try.prog w = .ok (.func fn first cap) w := fun _ _ _ _ => rfl
  generalize circ s.data.toList = o at *
  go_enter Try.func16, Try.ntmps16
  go_wp2_with fail
  refine HP.out.mono ?_
  rintro e w1 ⟨hb, ⟨c, p, ho, rfl, hT⟩ | ⟨ho, rfl⟩⟩
  · have HL := Lib.hid (least_paths p c w1 hT)
    have HO := Lib.hid ho
    clear ho hT
    go_wp2_with fail
    refine HL.out.mono ?_
    rintro e w2 ⟨v, rfl, hv, hb2⟩
    have HT := Lib.hid (texts_any v _ (leastL_len _) (fun n hn => (leastL_mem _ n hn).1) w2 hv)
    have hsz := hb.size
    have hsz2 := hb2.size
    clear hv
    go_wp2_with fail
    refine HT.out.mono ?_
    rintro e w3 ⟨u, rfl, hu, hb3⟩
    go_wp2_with fail
    go_ret2
    rw [HO.out]
    exact ⟨hb.trans ((hb2.mono hsz).trans (hb3.mono (by omega))), u, rfl, hu⟩
  · have HO := Lib.hid ho
    clear ho
    go_wp2_with fail
    go_ret2
    rw [HO.out]
    exact ⟨hb, rfl⟩
theorem cuts_any (s : ByteArray) (w : World) (hm : s.size ≤ maxLen) : Calls Try.prog 18 #[.string s] w (ListPost w (cutsOf s.data.toList)) := by
  have HP := Lib.hid (open_any s w hm)
  unfold cutsOf
  have hmf : ∀ (fn : Fn) (first cap : Array Value) (w : World), (Instr.makeFunc fn first cap).run Try.prog w = .ok (.func fn first cap) w := fun _ _ _ _ => rfl
  generalize circ s.data.toList = o at *
  go_enter Try.func18, Try.ntmps18
  go_wp2_with fail
  refine HP.out.mono ?_
  rintro e w1 ⟨hb, ⟨c, p, ho, rfl, hT⟩ | ⟨ho, rfl⟩⟩
  · have HL := Lib.hid (least_cuts p c w1 hT)
    have HO := Lib.hid ho
    clear ho hT
    go_wp2_with fail
    refine HL.out.mono ?_
    rintro e w2 ⟨v, rfl, hv, hb2⟩
    have HT := Lib.hid (texts_any v _ (leastL_len _) (fun n hn => (leastL_mem _ n hn).1) w2 hv)
    have hsz := hb.size
    have hsz2 := hb2.size
    clear hv
    go_wp2_with fail
    refine HT.out.mono ?_
    rintro e w3 ⟨u, rfl, hu, hb3⟩
    go_wp2_with fail
    go_ret2
    rw [HO.out]
    exact ⟨hb.trans ((hb2.mono hsz).trans (hb3.mono (by omega))), u, rfl, hu⟩
  · have HO := Lib.hid ho
    clear ho
    go_wp2_with fail
    go_ret2
    rw [HO.out]
    exact ⟨hb, rfl⟩
end Go.Proofs.Ytfoeamgjjhfkdaa

namespace Go.Proofs.Ytfoeamgjjhfkdaa
open Go.Shelf Go.RowKit Go.Proofs L9

/-- what asked leaves -/
def AskedPost (w : World) (o : Option (List (List Part))) (q : Option Nat) (e : Ending) (w' : World) : Prop :=
  Below w.heap.size w w' ∧ ∃ p : Value, (match o with
    | none => e = .returned (.tuple #[.pointer none, .int .i64 (q.getD 0 : Nat), .int .i64 90])
    | some x => TableAt w' p (evC x) ∧ e = .returned (.tuple #[p, .int .i64 (q.getD 0 : Nat), .int .i64 (if q.isSome then 0 else 91)]))

theorem asked_any (c s : ByteArray) (w : World) (hm : c.size ≤ maxLen) (hs : s.size ≤ 1000000) :
    Calls Try.prog 66 #[.string c, .string s] w (AskedPost w (circ c.data.toList) (setOf s.data.toList)) := by
  have HP := Lib.hid (open_any c w hm)
  have HN := Lib.hid (fun W => number_any s W hs)
  generalize circ c.data.toList = o at *
  generalize setOf s.data.toList = q at *
  go_enter Try.func66, Try.ntmps66
  go_wp2_with fail
  refine HP.out.mono ?_
  rintro e w1 ⟨hb, ⟨x, p, ho, rfl, hT⟩ | ⟨ho, rfl⟩⟩
  · have HO := Lib.hid ho
    have HT := Lib.hid hT
    have hsz := hb.size
    clear ho hT
    go_wp2_with fail
    refine (HN.out _).mono ?_
    rintro e w2 ⟨rfl, hb2⟩
    cases q with
    | none =>
      go_wp2_with fail
      go_ret3
      rw [HO.out]
      exact ⟨hb.trans (hb2.mono hsz), p, HT.out.keep hb2, rfl⟩
    | some n =>
      go_wp2_with fail
      go_ret3
      rw [HO.out]
      exact ⟨hb.trans (hb2.mono hsz), p, HT.out.keep hb2, rfl⟩
  · have HO := Lib.hid ho
    have hsz := hb.size
    clear ho
    go_wp2_with fail
    refine (HN.out _).mono ?_
    rintro e w2 ⟨rfl, hb2⟩
    cases q with
    | none =>
      go_wp2_with fail
      go_ret3
      rw [HO.out]
      exact ⟨hb.trans (hb2.mono hsz), .pointer none, rfl⟩
    | some n =>
      go_wp2_with fail
      go_ret3
      rw [HO.out]
      exact ⟨hb.trans (hb2.mono hsz), .pointer none, rfl⟩

/-- Conducts' answers -/
def conductsOf (c s : List UInt8) : Bool × Int := match circ c with
  | none => (false, 90)
  | some x => match setOf s with
    | none => (false, 91)
    | some n => (evC x n, 0)
def isCutOf (c s : List UInt8) : Bool × Int := match circ c with
  | none => (false, 90)
  | some x => match setOf s with
    | none => (false, 91)
    | some n => (!evC x (255 - n), 0)

set_option maxRecDepth 100000 in
theorem conducts_any (c s : ByteArray) (w : World) (hm : c.size ≤ maxLen) (hs : s.size ≤ 1000000) :
    Calls Try.prog 25 #[.string c, .string s] w fun e w' => e = .returned (.tuple #[.bool (conductsOf c.data.toList s.data.toList).1, .int .i64 (conductsOf c.data.toList s.data.toList).2]) ∧ Below w.heap.size w w' := by
  have HP := asked_any c s w hm hs
  unfold conductsOf
  have hq := setOf_lt s.data.toList
  generalize circ c.data.toList = o at *
  generalize setOf s.data.toList = q at *
  cases o with
  | none =>
    have HP := Lib.hid HP
    go_enter Try.func25, Try.ntmps25
    go_wp2_with fail
    refine HP.out.mono ?_
    rintro e w1 ⟨hb, p, rfl⟩
    go_wp2_with fail
    go_ret2
    exact ⟨rfl, hb⟩
  | some x =>
    cases q with
    | none =>
      have HP1 := Lib.hid HP
      clear HP
      go_enter Try.func25, Try.ntmps25
      go_wp2_with fail
      refine HP1.out.mono ?_
      rintro e w1 ⟨hb, p, hT, rfl⟩
      have HT := Lib.hid hT
      clear hT
      go_wp2_with fail
      go_ret2
      exact ⟨rfl, hb⟩
    | some n =>
      have hn := hq n rfl
      have HP1 := Lib.hid HP
      clear HP hq
      go_enter Try.func25, Try.ntmps25
      go_wp2_with fail
      refine HP1.out.mono ?_
      rintro e w1 ⟨hb, p, hT, rfl⟩
      obtain ⟨b, rfl, hbl, hc⟩ := hT
      have hcell := hc n hn
      clear hc
      generalize hy : evC x n = y at hcell
      have HY := Lib.hid hy
      clear hy
      go_wp2_with fail
      go_ret2
      exact ⟨by rw [← HY.out]; rfl, hb⟩

set_option maxRecDepth 100000 in
theorem isCut_any (c s : ByteArray) (w : World) (hm : c.size ≤ maxLen) (hs : s.size ≤ 1000000) :
    Calls Try.prog 24 #[.string c, .string s] w fun e w' => e = .returned (.tuple #[.bool (isCutOf c.data.toList s.data.toList).1, .int .i64 (isCutOf c.data.toList s.data.toList).2]) ∧ Below w.heap.size w w' := by
  have HP := asked_any c s w hm hs
  unfold isCutOf
  have hq := setOf_lt s.data.toList
  generalize circ c.data.toList = o at *
  generalize setOf s.data.toList = q at *
  cases o with
  | none =>
    have HP := Lib.hid HP
    go_enter Try.func24, Try.ntmps24
    go_wp2_with fail
    refine HP.out.mono ?_
    rintro e w1 ⟨hb, p, rfl⟩
    go_wp2_with fail
    go_ret2
    exact ⟨rfl, hb⟩
  | some x =>
    cases q with
    | none =>
      have HP1 := Lib.hid HP
      clear HP
      go_enter Try.func24, Try.ntmps24
      go_wp2_with fail
      refine HP1.out.mono ?_
      rintro e w1 ⟨hb, p, hT, rfl⟩
      have HT := Lib.hid hT
      clear hT
      go_wp2_with fail
      go_ret2
      exact ⟨rfl, hb⟩
    | some n =>
      have hn := hq n rfl
      have HP1 := Lib.hid HP
      clear HP hq
      go_enter Try.func24, Try.ntmps24
      go_wp2_with fail
      refine HP1.out.mono ?_
      rintro e w1 ⟨hb, p, hT, rfl⟩
      obtain ⟨b, rfl, hbl, hc⟩ := hT
      have hcell := hc (255 - n) (by omega)
      clear hc
      have h2 := andNot255 n hn
      have hm2 : 255 - n < 256 := by omega
      have hm3 : bits .andNot .i64 255 (n : Int) = ((255 - n : Nat) : Int) := h2
      generalize hy : evC x (255 - n) = y at hcell
      have HY := Lib.hid hy
      clear hy h2
      generalize 255 - n = m at hcell hm2 hm3
      go_wp2_with fail
      go_ret2
      exact ⟨by rw [← HY.out]; rfl, hb⟩

theorem isPath_any (c s : ByteArray) (w : World) (hm : c.size ≤ maxLen) (hs : s.size ≤ 1000000) :
    Calls Try.prog 23 #[.string c, .string s] w fun e w' => e = .returned (.tuple #[.bool (conductsOf c.data.toList s.data.toList).1, .int .i64 (conductsOf c.data.toList s.data.toList).2]) ∧ Below w.heap.size w w' := by
  have HP := Lib.hid (conducts_any c s w hm hs)
  generalize conductsOf c.data.toList s.data.toList = y at *
  go_enter Try.func23, Try.ntmps23
  go_wp2_with fail
  refine HP.out.mono ?_
  rintro e w1 ⟨rfl, hb⟩
  go_wp2_with fail
  go_ret2
  exact ⟨rfl, hb⟩

theorem validSet_any (s : ByteArray) (w : World) (hs : s.size ≤ 1000000) :
    Calls Try.prog 50 #[.string s] w fun e w' => e = .returned (.bool (setOf s.data.toList).isSome) ∧ Below w.heap.size w w' := by
  have HP := Lib.hid (number_any s w hs)
  generalize setOf s.data.toList = q at *
  go_enter Try.func50, Try.ntmps50
  go_wp2_with fail
  refine HP.out.mono ?_
  rintro e w1 ⟨rfl, hb⟩
  go_wp2_with fail
  go_ret
  exact ⟨rfl, hb⟩
end Go.Proofs.Ytfoeamgjjhfkdaa
