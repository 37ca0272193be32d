/- asked, Conducts, IsPath, IsCut, Letters, ValidSet. -/
import Derived.Test.YtfoeamgjjhfkdaaTr
namespace Go.Proofs.Ytfoeamgjjhfkdaa
open Go.Shelf Go.RowKit Go.Proofs L9

/-- what asked leaves -/
def AskedPost (w : World) (o : Option (List (List Part))) (q : Option Nat) (e : Ending) (w' : World) : Prop :=
  Below w.heap.size w w' ∧ ∃ p : Value, (match o with
    | none => e = .returned (.tuple #[.pointer none, .int .i64 (q.getD 0 : Nat), .int .i64 90])
    | some x => TableAt w' p (evC x) ∧ e = .returned (.tuple #[p, .int .i64 (q.getD 0 : Nat), .int .i64 (if q.isSome then 0 else 91)]))

theorem asked_any (c s : ByteArray) (w : World) (hm : c.size ≤ maxLen) (hs : s.size ≤ 1000000) :
    Calls Try.prog 66 #[.string c, .string s] w (AskedPost w (circ c.data.toList) (setOf s.data.toList)) := by
  have HP := Lib.hid (open_any c w hm)
  have HN := Lib.hid (fun W => number_any s W hs)
  generalize circ c.data.toList = o at *
  generalize setOf s.data.toList = q at *
  go_enter Try.func66, Try.ntmps66
  go_wp2_with fail
  refine HP.out.mono ?_
  rintro e w1 ⟨hb, ⟨x, p, ho, rfl, hT⟩ | ⟨ho, rfl⟩⟩
  · have HO := Lib.hid ho
    have HT := Lib.hid hT
    have hsz := hb.size
    clear ho hT
    go_wp2_with fail
    refine (HN.out _).mono ?_
    rintro e w2 ⟨rfl, hb2⟩
    cases q with
    | none =>
      go_wp2_with fail
      go_ret3
      rw [HO.out]
      exact ⟨hb.trans (hb2.mono hsz), p, HT.out.keep hb2, rfl⟩
    | some n =>
      go_wp2_with fail
      go_ret3
      rw [HO.out]
      exact ⟨hb.trans (hb2.mono hsz), p, HT.out.keep hb2, rfl⟩
  · have HO := Lib.hid ho
    have hsz := hb.size
    clear ho
    go_wp2_with fail
    refine (HN.out _).mono ?_
    rintro e w2 ⟨rfl, hb2⟩
    cases q with
    | none =>
      go_wp2_with fail
      go_ret3
      rw [HO.out]
      exact ⟨hb.trans (hb2.mono hsz), .pointer none, rfl⟩
    | some n =>
      go_wp2_with fail
      go_ret3
      rw [HO.out]
      exact ⟨hb.trans (hb2.mono hsz), .pointer none, rfl⟩

/-- Conducts' answers -/
def conductsOf (c s : List UInt8) : Bool × Int := match circ c with
  | none => (false, 90)
  | some x => match setOf s with
    | none => (false, 91)
    | some n => (evC x n, 0)
def isCutOf (c s : List UInt8) : Bool × Int := match circ c with
  | none => (false, 90)
  | some x => match setOf s with
    | none => (false, 91)
    | some n => (!evC x (255 - n), 0)

set_option maxRecDepth 100000 in
theorem conducts_any (c s : ByteArray) (w : World) (hm : c.size ≤ maxLen) (hs : s.size ≤ 1000000) :
    Calls Try.prog 25 #[.string c, .string s] w fun e w' => e = .returned (.tuple #[.bool (conductsOf c.data.toList s.data.toList).1, .int .i64 (conductsOf c.data.toList s.data.toList).2]) ∧ Below w.heap.size w w' := by
  have HP := asked_any c s w hm hs
  unfold conductsOf
  have hq := setOf_lt s.data.toList
  generalize circ c.data.toList = o at *
  generalize setOf s.data.toList = q at *
  cases o with
  | none =>
    have HP := Lib.hid HP
    go_enter Try.func25, Try.ntmps25
    go_wp2_with fail
    refine HP.out.mono ?_
    rintro e w1 ⟨hb, p, rfl⟩
    go_wp2_with fail
    go_ret2
    exact ⟨rfl, hb⟩
  | some x =>
    cases q with
    | none =>
      have HP1 := Lib.hid HP
      clear HP
      go_enter Try.func25, Try.ntmps25
      go_wp2_with fail
      refine HP1.out.mono ?_
      rintro e w1 ⟨hb, p, hT, rfl⟩
      have HT := Lib.hid hT
      clear hT
      go_wp2_with fail
      go_ret2
      exact ⟨rfl, hb⟩
    | some n =>
      have hn := hq n rfl
      have HP1 := Lib.hid HP
      clear HP hq
      go_enter Try.func25, Try.ntmps25
      go_wp2_with fail
      refine HP1.out.mono ?_
      rintro e w1 ⟨hb, p, hT, rfl⟩
      obtain ⟨b, rfl, hbl, hc⟩ := hT
      have hcell := hc n hn
      clear hc
      generalize hy : evC x n = y at hcell
      have HY := Lib.hid hy
      clear hy
      go_wp2_with fail
      go_ret2
      exact ⟨by rw [← HY.out]; rfl, hb⟩

set_option maxRecDepth 100000 in
theorem isCut_any (c s : ByteArray) (w : World) (hm : c.size ≤ maxLen) (hs : s.size ≤ 1000000) :
    Calls Try.prog 24 #[.string c, .string s] w fun e w' => e = .returned (.tuple #[.bool (isCutOf c.data.toList s.data.toList).1, .int .i64 (isCutOf c.data.toList s.data.toList).2]) ∧ Below w.heap.size w w' := by
  have HP := asked_any c s w hm hs
  unfold isCutOf
  have hq := setOf_lt s.data.toList
  generalize circ c.data.toList = o at *
  generalize setOf s.data.toList = q at *
  cases o with
  | none =>
    have HP := Lib.hid HP
    go_enter Try.func24, Try.ntmps24
    go_wp2_with fail
    refine HP.out.mono ?_
    rintro e w1 ⟨hb, p, rfl⟩
    go_wp2_with fail
    go_ret2
    exact ⟨rfl, hb⟩
  | some x =>
    cases q with
    | none =>
      have HP1 := Lib.hid HP
      clear HP
      go_enter Try.func24, Try.ntmps24
      go_wp2_with fail
      refine HP1.out.mono ?_
      rintro e w1 ⟨hb, p, hT, rfl⟩
      have HT := Lib.hid hT
      clear hT
      go_wp2_with fail
      go_ret2
      exact ⟨rfl, hb⟩
    | some n =>
      have hn := hq n rfl
      have HP1 := Lib.hid HP
      clear HP hq
      go_enter Try.func24, Try.ntmps24
      go_wp2_with fail
      refine HP1.out.mono ?_
      rintro e w1 ⟨hb, p, hT, rfl⟩
      obtain ⟨b, rfl, hbl, hc⟩ := hT
      have hcell := hc (255 - n) (by omega)
      clear hc
      have h2 := andNot255 n hn
      have hm2 : 255 - n < 256 := by omega
      have hm3 : bits .andNot .i64 255 (n : Int) = ((255 - n : Nat) : Int) := h2
      generalize hy : evC x (255 - n) = y at hcell
      have HY := Lib.hid hy
      clear hy h2
      generalize 255 - n = m at hcell hm2 hm3
      go_wp2_with fail
      go_ret2
      exact ⟨by rw [← HY.out]; rfl, hb⟩

theorem isPath_any (c s : ByteArray) (w : World) (hm : c.size ≤ maxLen) (hs : s.size ≤ 1000000) :
    Calls Try.prog 23 #[.string c, .string s] w fun e w' => e = .returned (.tuple #[.bool (conductsOf c.data.toList s.data.toList).1, .int .i64 (conductsOf c.data.toList s.data.toList).2]) ∧ Below w.heap.size w w' := by
  have HP := Lib.hid (conducts_any c s w hm hs)
  generalize conductsOf c.data.toList s.data.toList = y at *
  go_enter Try.func23, Try.ntmps23
  go_wp2_with fail
  refine HP.out.mono ?_
  rintro e w1 ⟨rfl, hb⟩
  go_wp2_with fail
  go_ret2
  exact ⟨rfl, hb⟩

theorem validSet_any (s : ByteArray) (w : World) (hs : s.size ≤ 1000000) :
    Calls Try.prog 50 #[.string s] w fun e w' => e = .returned (.bool (setOf s.data.toList).isSome) ∧ Below w.heap.size w w' := by
  have HP := Lib.hid (number_any s w hs)
  generalize setOf s.data.toList = q at *
  go_enter Try.func50, Try.ntmps50
  go_wp2_with fail
  refine HP.out.mono ?_
  rintro e w1 ⟨rfl, hb⟩
  go_wp2_with fail
  go_ret
  exact ⟨rfl, hb⟩
end Go.Proofs.Ytfoeamgjjhfkdaa
