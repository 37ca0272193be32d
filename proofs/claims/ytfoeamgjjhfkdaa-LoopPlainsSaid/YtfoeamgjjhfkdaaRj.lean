/- The reference's sets: text, size. The reference: Valid, asked, Conducts, IsPath, IsCut. The reference: Conducts, IsPath, IsCut. -/
import Derived.Test.YtfoeamgjjhfkdaaRg
namespace Go.Proofs.Ytfoeamgjjhfkdaa
open Go Go.Shelf Go.RowKit Go.Proofs L9

theorem ba_ext {a b : ByteArray} (h : a.data.toList = b.data.toList) : a = b := by
  cases a; cases b; simp at h; rw [h]
theorem ba_append (a b : ByteArray) : (a ++ b).data.toList = a.data.toList ++ b.data.toList := by simp
theorem letter_slice (k : Nat) (hk : k < 8) : ((ByteArray.mk #[97, 98, 99, 100, 101, 102, 103, 104]).extract k (k + 1)).data.toList = [UInt8.ofNat (97 + k)] := by
  match k, hk with
  | 0, _ => rfl
  | 1, _ => rfl
  | 2, _ => rfl
  | 3, _ => rfl
  | 4, _ => rfl
  | 5, _ => rfl
  | 6, _ => rfl
  | 7, _ => rfl

set_option maxHeartbeats 1000000 in
theorem refText (n : Nat) (hn : n < 256) (w : World) :
    Calls Try.prog 78 #[.int .i64 n] w fun e w' => e = .returned (.string ⟨(txt n).toArray⟩) ∧ w' = w := by
  go_enter Try.func78, Try.ntmps78
  go_wp2
  go_loop [3, 4] (fun v i => ∃ (k : Nat) (S : ByteArray), k ≤ 8 ∧ i = .int .i64 k ∧ v = .string S ∧ S.data.toList = txtTo n k) (fun _ i => 8 - (intOf i).toNat)
  case atStart => exact ⟨0, _, by omega, rfl, rfl, rfl⟩
  case round =>
    obtain ⟨k, S, hk, rfl, rfl, hS⟩ := hrel
    have HS := Lib.hid hS
    clear hS
    by_cases hlt : k < 8
    · have hbit := bit_test n k hn hlt
      have hsu := Lib.hid (txtTo_succ n k)
      cases ht : n.testBit k with
      | true =>
        rw [ht] at hbit
        have HT := Lib.hid ht
        clear ht
        have hlen := txtTo_len n k
        have hSz : S.size ≤ 8 := by rw [← size_list, HS.out]; omega
        go_wp2_with fail
        go_round
        case rel => exact ⟨k + 1, _, by omega, by go_num, rfl, by rw [ba_append, HS.out, letter_slice k hlt, hsu.out, if_pos HT.out]⟩
        case measure => simp [intOf]; omega
      | false =>
        rw [ht] at hbit
        have HT := Lib.hid ht
        clear ht
        go_wp2_with fail
        go_round
        case rel => exact ⟨k + 1, S, by omega, by go_num, rfl, by rw [hsu.out, if_neg (by rw [HT.out]; simp)]; exact HS.out⟩
        case measure => simp [intOf]; omega
    · obtain rfl : k = 8 := by omega
      go_wp2
      go_ret
      obtain rfl : S = ⟨(txt n).toArray⟩ := ba_ext (by rw [HS.out]; rfl)
      exact ⟨rfl, rfl⟩

theorem refSize (n : Nat) (hn : n < 256) (w : World) :
    Calls Try.prog 84 #[.int .i64 n] w fun e w' => e = .returned (.int .i64 ((txt n).length : Nat)) ∧ w' = w := by
  have HT := Lib.hid (refText n hn w)
  have hsz : (⟨(txt n).toArray⟩ : ByteArray).size = (txt n).length := by rw [← size_list]
  generalize (⟨(txt n).toArray⟩ : ByteArray) = S at *
  go_enter Try.func84, Try.ntmps84
  go_wp2_with fail
  refine HT.out.mono ?_
  rintro e w1 ⟨rfl, rfl⟩
  go_wp2
  go_ret
  exact ⟨rfl, rfl⟩

theorem setN_cons (la : Int) (acc : Nat) (b : UInt8) (r : List UInt8) : setN la acc (b :: r) = if isLet b && decide ((b.toNat : Int) - 97 > la) then setN ((b.toNat : Int) - 97) (acc ||| 2 ^ (b.toNat - 97)) r else none := rfl

/-- the last letter before a place -/
def laOf (s : ByteArray) (k : Nat) : Int := if h : 0 < k ∧ k - 1 < s.size then ((s[k - 1]'h.2).toNat : Int) - 97 else -1

set_option maxHeartbeats 4000000 in
theorem refValidSet (s : ByteArray) (w : World) (hm : s.size ≤ 1000000) :
    Calls Try.prog 22 #[.string s] w fun e w' => e = .returned (.bool (setOf s.data.toList).isSome) ∧ ∃ n, w' = w.drewN n := by
  go_enter Try.func22, Try.ntmps22
  go_wp2
  go_loopw [3] (fun i wr => ∃ (k acc n : Nat), k ≤ s.size ∧ i = .int .i64 k ∧ wr = w.drewN n ∧ setOf s.data.toList = setN (laOf s k) acc (s.data.toList.drop k)) (fun i _ => s.size - (intOf i).toNat)
  case atStart => exact ⟨0, 0, 0, by omega, rfl, rfl, by rw [List.drop_zero]; rfl⟩
  case round =>
    obtain ⟨k, acc, n, hk, rfl, rfl, he⟩ := hrel
    have HE := Lib.hid he
    clear he
    by_cases hlt : k < s.size
    · have hsl := size_list s
      have hdrop : s.data.toList.drop k = s[k]'hlt :: s.data.toList.drop (k + 1) := by
        rw [List.drop_eq_getElem_cons (by omega)]; rfl
      have he := HE.out
      rw [hdrop, setN_cons] at he
      have hla1 : laOf s (k + 1) = ((s[k]'hlt).toNat : Int) - 97 := by
        unfold laOf
        rw [dif_pos ⟨by omega, by simpa using hlt⟩]
        rfl
      have HE := Lib.hid he
      have HLA := Lib.hid hla1
      clear he hdrop hla1 hsl
      by_cases hl : 97 ≤ (s[k]'hlt).toNat ∧ (s[k]'hlt).toNat ≤ 104
      · have hlt' := (isLet_iff _).2 hl
        obtain ⟨hl1, hl2⟩ := hl
        by_cases hk0 : k = 0
        · subst hk0
          have h0 : laOf s 0 = -1 := by unfold laOf; rw [dif_neg (by omega)]
          have he := HE.out
          rw [h0, if_pos (by simp [hlt']; omega), ← HLA.out] at he
          have HE2 := Lib.hid he
          clear he h0 HE HLA hlt'
          have d1 : decide (((s[0]'hlt).toNat : Int) < 97) = false := by simp; omega
          have d2 : decide (((s[0]'hlt).toNat : Int) > 104) = false := by simp; omega
          go_wp2_with fail
          go_quiet (fail)
          go_wp2_with fail
          go_roundw
          case rel => exact ⟨1, acc ||| 2 ^ ((s[0]'hlt).toNat - 97), n + nq, by omega, rfl, rfl, HE2.out⟩
          case measure => simp [intOf]; omega
        · have hk1 : 0 < k := by omega
          have hj : k - 1 < s.size := by omega
          have h0 : laOf s k = ((s[k - 1]'hj).toNat : Int) - 97 := by
            unfold laOf
            rw [dif_pos ⟨by omega, hj⟩]
          have d1 : decide (((s[k]'hlt).toNat : Int) < 97) = false := by simp; omega
          have d2 : decide (((s[k]'hlt).toNat : Int) > 104) = false := by simp; omega
          have d4 : decide ((k : Int) > 0) = true := by simp; omega
          have hw : IntKind.i64.wrap ((k : Int) - 1) = ((k - 1 : Nat) : Int) := by
            rw [IntKind.wrap_i64]; omega
          by_cases hgt : (s[k - 1]'hj).toNat < (s[k]'hlt).toNat
          · have he := HE.out
            rw [h0, if_pos (by simp [hlt']; omega), ← HLA.out] at he
            have HE2 := Lib.hid he
            clear he h0 HE HLA hlt' hl1 hl2
            go_wp2_with fail
            go_quiet (fail)
            go_wp2_with fail
            clear hw d1 d2 d4
            go_roundw
            case rel => exact ⟨k + 1, acc ||| 2 ^ ((s[k]'hlt).toNat - 97), n + nq, by omega, by go_num, rfl, HE2.out⟩
            case measure => simp [intOf]; omega
          · have he := HE.out
            rw [h0, if_neg (by simp; omega)] at he
            have HE2 := Lib.hid he
            clear he h0 HE HLA hlt' hl1 hl2
            go_wp2_with fail
            go_quiet (fail)
            go_wp2_with fail
            go_ret
            exact ⟨by rw [HE2.out]; rfl, _, by first | rfl | (rw [World.drewN_drewN])⟩
      · have hnl : isLet (s[k]'hlt) = false := by
          cases h : isLet (s[k]'hlt) with
          | false => rfl
          | true => exact absurd ((isLet_iff _).1 h) hl
        have he := HE.out
        rw [if_neg (by rw [hnl]; simp)] at he
        have HE2 := Lib.hid he
        clear he HE HLA hnl
        by_cases hl1 : (s[k]'hlt).toNat < 97
        · have d1 : decide (((s[k]'hlt).toNat : Int) < 97) = true := by simp; omega
          clear hl
          go_wp2_with fail
          go_quiet (fail)
          go_wp2_with fail
          go_ret
          exact ⟨by rw [HE2.out]; rfl, _, by first | rfl | (rw [World.drewN_drewN])⟩
        · have d1 : decide (((s[k]'hlt).toNat : Int) < 97) = false := by simp; omega
          have d2 : decide (((s[k]'hlt).toNat : Int) > 104) = true := by simp; omega
          clear hl hl1
          go_wp2_with fail
          go_quiet (fail)
          go_wp2_with fail
          go_ret
          exact ⟨by rw [HE2.out]; rfl, _, by first | rfl | (rw [World.drewN_drewN])⟩
    · obtain rfl : k = s.size := by omega
      have he := HE.out
      rw [List.drop_of_length_le (by rw [size_list]; omega)] at he
      have HE2 := Lib.hid he
      clear he HE
      go_wp2_with fail
      go_ret
      exact ⟨by rw [HE2.out]; rfl, _, by first | rfl | (rw [World.drewN_drewN])⟩

theorem orShl8 (n i : Nat) (hn : n < 256) (hi : i < 8) : bits .or .i64 (n : Int) (wrap64 (2 ^ i)) = ((n ||| 2 ^ i : Nat) : Int) := orShl n i hn hi

set_option maxHeartbeats 2000000 in
theorem refBits (s : ByteArray) (m : Nat) (w : World) (hm : s.size ≤ 1000000) (hset : setOf s.data.toList = some m) :
    Calls Try.prog 79 #[.string s] w fun e w' => e = .returned (.int .i64 (m : Nat)) ∧ w' = w := by
  have HSET := Lib.hid hset
  clear hset
  go_enter Try.func79, Try.ntmps79
  go_wp2
  go_loop [3, 4] (fun v i => ∃ (k acc : Nat) (la : Int), k ≤ s.size ∧ i = .int .i64 k ∧ v = .int .i64 acc ∧ acc < 256 ∧ setN la acc (s.data.toList.drop k) = some m) (fun _ i => s.size - (intOf i).toNat)
  case atStart => exact ⟨0, 0, -1, by omega, rfl, rfl, by omega, by rw [List.drop_zero]; exact HSET.out⟩
  case round =>
    obtain ⟨k, acc, la, hk, rfl, rfl, hacc, he⟩ := hrel
    by_cases hlt : k < s.size
    · have hsl := size_list s
      have hdrop : s.data.toList.drop k = s[k]'hlt :: s.data.toList.drop (k + 1) := by
        rw [List.drop_eq_getElem_cons (by omega)]; rfl
      rw [hdrop, setN_cons] at he
      split at he
      · rename_i hc
        simp only [Bool.and_eq_true] at hc
        have hl := (isLet_iff _).1 hc.1
        have hlt2 : acc ||| 2 ^ ((s[k]'hlt).toNat - 97) < 256 := Nat.or_lt_two_pow (n := 8) hacc (Nat.pow_lt_pow_right (by omega) (by omega))
        have hor := orShl acc ((s[k]'hlt).toNat - 97) hacc (by omega)
        have HOR := Lib.hid hor
        have HE := Lib.hid he
        obtain ⟨hl1, hl2⟩ := hl
        clear he hdrop hc hor hsl
        go_wp2_with fail
        go_round
        case rel => exact ⟨k + 1, _, _, by omega, by go_num, by rw [HOR.out], hlt2, HE.out⟩
        case measure => simp [intOf]; omega
      · cases he
    · obtain rfl : k = s.size := by omega
      rw [List.drop_of_length_le (by rw [size_list]; omega)] at he
      have : acc = m := by simpa [setN] using he
      subst this
      clear he
      go_wp2
      go_ret
      exact ⟨rfl, rfl⟩
end Go.Proofs.Ytfoeamgjjhfkdaa

namespace Go.Proofs.Ytfoeamgjjhfkdaa
open Go Go.Shelf Go.RowKit Go.Proofs L9

theorem drewN_below (B : Nat) (w : World) (n : Nat) : Below B w (w.drewN n) := ⟨rfl, rfl, rfl, Nat.le_refl _, fun _ _ => rfl⟩
theorem setRow_below {B : Nat} {w w' : World} (h : Below B w w') (g : Nat) (cs : Array Value) (hg : B ≤ g) : Below B w (w'.setRow g cs) :=
  h.trans ⟨rfl, rfl, rfl, by simp, fun k hk => setRow_ne _ _ _ _ (by omega)⟩

/-- the end of a function with a table at slot p and a second result -/
theorem tabRetT {fn : Func} {Q : Ending → World → Prop} {tmps : Array Value} {W : World} {g : Nat} {f : Nat → Bool} {p u : Tmp} {y : Value} (h : fn.results = #[.cell p 50, .tmp u]) (hp : tmps.getD p undef = .pointer (some ⟨g, 0, none⟩))
    (hu : tmps.getD u undef = y) (hg : W.heap[g]? = some (.cells (tabArr f) 50 (0, 0))) (hQ : Q (.returned (.tuple #[.agg (tabArr f), y])) W) : bodyPost Try.prog fn Q .ret { tmps := tmps, defers := [] } W := by
  have hrow := run_loadVar_row (P := Try.prog) W g 50 50 (tabArr f) (0, 0) _ hg Try.underlying50 rfl (by rw [tabArr_size]; exact info50)
  refine bodyPost_ret (v := .tuple #[.agg (tabArr f), y]) ?_ rfl hQ
  rw [results_cell_tmp h, hp]
  simp only [asAddr, Sem.run_pure, Result.andThen_ok, hrow, hu]

theorem alloc_zeros (w : World) : (w.alloc (.cells Try.zeroCells50 50)).heap[w.heap.size]? = some (.cells (tabArr fun _ => false) 50 (0, 0)) := by
  rw [← zeros50]; exact alloc_last _ _

set_option maxRecDepth 100000 in
theorem refValid (s : ByteArray) (w : World) (hm : s.size ≤ maxLen) : Calls Try.prog 21 #[.string s] w fun e w' => e = .returned (.bool (circ s.data.toList).isSome) ∧ Below w.heap.size w w' := by
  have HR := Lib.hid (refRead s w hm)
  generalize hz : (circ s.data.toList).isSome = z
  have HZ := Lib.hid hz
  clear hz
  go_enter Try.func21, Try.ntmps21
  go_wp2_with fail
  refine HR.out.mono ?_
  rintro e w1 ⟨t, rfl, hb, _⟩
  rw [HZ.out]
  have hS := alloc_zeros w1
  have HS := Lib.hid hS
  have HB := Lib.hid (setRow_below (hb.alloc hb.size (.cells Try.zeroCells50 50)) w1.heap.size (tabArr t) hb.size)
  clear hS hb
  go_wp2_with (refine wpList_store_row rfl 50 _ _ rfl w1.heap.size (tabArr t) rfl rfl 50 _ HS.out (by rw [tabArr_size]; exact info50) (by rw [tabArr_size, tabArr_size]) (tabArr_one _) ?_)
  go_ret
  exact ⟨rfl, HB.out⟩

def askCode (o : Option (List (List Part))) (q : Option Nat) : Int := match o with
  | none => 90
  | some _ => if q.isSome then 0 else 91
/-- what the reference's asked leaves -/
def PostAsk (c s : ByteArray) (w : World) (e : Ending) (w' : World) : Prop :=
  ∃ t, e = .returned (.tuple #[.agg (tabArr t), .int .i64 (askCode (circ c.data.toList) (setOf s.data.toList))]) ∧ Below w.heap.size w w' ∧ ∀ x, circ c.data.toList = some x → ∀ i, i < 256 → t i = evC x i

set_option maxHeartbeats 2000000 in
set_option maxRecDepth 100000 in
theorem refAsked (c s : ByteArray) (w : World) (hm : c.size ≤ maxLen) (hs : s.size ≤ 1000000) : Calls Try.prog 61 #[.string c, .string s] w (PostAsk c s w) := by
  have hal : Below w.heap.size w (w.alloc (.cells Try.zeroCells50 50)) := (Below.refl _ _).alloc (Nat.le_refl _) _
  have HAL := Lib.hid hal
  have HR := Lib.hid (refRead c (w.alloc (.cells Try.zeroCells50 50)) hm)
  have HV := Lib.hid (fun W => refValidSet s W hs)
  have HS0 := Lib.hid (alloc_zeros w)
  clear hal
  have hfin : ∀ (W : World) (t : Nat → Bool) (z : Int), z = askCode (circ c.data.toList) (setOf s.data.toList) → Below w.heap.size w W → (∀ x, circ c.data.toList = some x → ∀ i, i < 256 → t i = evC x i) → PostAsk c s w (.returned (.tuple #[.agg (tabArr t), .int .i64 z])) W := by
    rintro W t z rfl h1 h2
    exact ⟨t, rfl, h1, h2⟩
  have HFIN := Lib.hid hfin
  clear hfin
  unfold PostRead at HR
  generalize circ c.data.toList = o at *
  generalize setOf s.data.toList = q at *
  go_enter Try.func61, Try.ntmps61
  go_wp2_with fail
  refine HR.out.mono ?_
  rintro e w1 ⟨t, rfl, hb, ht⟩
  have hsz := hb.size
  have hsz0 : (w.alloc (.cells Try.zeroCells50 50)).heap.size = w.heap.size + 1 := by simp
  have hb1 := HAL.out.trans (hb.mono (by omega))
  have hR1 : w1.heap[w.heap.size]? = some (.cells (tabArr fun _ => false) 50 (0, 0)) := by rw [hb.block _ (by omega)]; exact HS0.out
  have hS := alloc_zeros w1
  have hb2 := setRow_below (hb1.alloc hb1.size (.cells Try.zeroCells50 50)) w1.heap.size (tabArr t) hb1.size
  have hT2 : ((w1.alloc (.cells Try.zeroCells50 50)).setRow w1.heap.size (tabArr t)).heap[w1.heap.size]? = some (.cells (tabArr t) 50 (0, 0)) := setRow_at _ _ _ _ _ hS
  have hR2 : ((w1.alloc (.cells Try.zeroCells50 50)).setRow w1.heap.size (tabArr t)).heap[w.heap.size]? = some (.cells (tabArr fun _ => false) 50 (0, 0)) := by
    rw [setRow_ne _ _ _ _ (by omega), Below.heap_alloc _ _ _ (by omega)]; exact hR1
  have HS := Lib.hid hS
  have H2 := Lib.hid (And.intro hb2 (And.intro hT2 hR2))
  have HT := Lib.hid ht
  clear hb ht hb1 hR1 hS hb2 hT2 hR2 HAL HS0
  cases o with
  | none =>
    go_wp2_with (first | (refine wpList_store_row rfl 50 _ _ rfl w1.heap.size (tabArr t) rfl rfl 50 _ HS.out (by rw [tabArr_size]; exact info50) (by rw [tabArr_size, tabArr_size]) (tabArr_one _) ?_) | (refine wpList_load_row rfl 50 _ rfl w1.heap.size rfl 50 (tabArr t) (0, 0) _ H2.out.2.1 Try.underlying50 rfl (by rw [tabArr_size]; exact info50) ?_) | (refine wpList_store_row rfl 50 _ _ rfl w.heap.size (tabArr t) rfl rfl 50 _ H2.out.2.2 (by rw [tabArr_size]; exact info50) (by rw [tabArr_size, tabArr_size]) (tabArr_one _) ?_))
    refine tabRetT rfl rfl rfl (setRow_at _ _ _ _ _ H2.out.2.2) ?_
    exact HFIN.out _ _ _ rfl (setRow_below H2.out.1 _ _ (Nat.le_refl _)) HT.out
  | some x =>
    go_wp2_with (first | (go_at_call 22; fail) | (refine wpList_store_row rfl 50 _ _ rfl w1.heap.size (tabArr t) rfl rfl 50 _ HS.out (by rw [tabArr_size]; exact info50) (by rw [tabArr_size, tabArr_size]) (tabArr_one _) ?_))
    refine (HV.out _).mono ?_
    rintro e w' ⟨rfl, nq, rfl⟩
    have H3 : Hid (Below w.heap.size w (((w1.alloc (.cells Try.zeroCells50 50)).setRow w1.heap.size (tabArr t)).drewN nq) ∧ (((w1.alloc (.cells Try.zeroCells50 50)).setRow w1.heap.size (tabArr t)).drewN nq).heap[w1.heap.size]? = some (.cells (tabArr t) 50 (0, 0)) ∧ (((w1.alloc (.cells Try.zeroCells50 50)).setRow w1.heap.size (tabArr t)).drewN nq).heap[w.heap.size]? = some (.cells (tabArr fun _ => false) 50 (0, 0))) :=
      Lib.hid ⟨H2.out.1.trans (drewN_below _ _ _), H2.out.2⟩
    clear H2
    generalize (((w1.alloc (.cells Try.zeroCells50 50)).setRow w1.heap.size (tabArr t)).drewN nq) = W3 at *
    cases q with
    | none =>
      go_wp2_with (first | (refine wpList_load_row rfl 50 _ rfl w1.heap.size rfl 50 (tabArr t) (0, 0) _ H3.out.2.1 Try.underlying50 rfl (by rw [tabArr_size]; exact info50) ?_) | (refine wpList_store_row rfl 50 _ _ rfl w.heap.size (tabArr t) rfl rfl 50 _ H3.out.2.2 (by rw [tabArr_size]; exact info50) (by rw [tabArr_size, tabArr_size]) (tabArr_one _) ?_))
      refine tabRetT rfl rfl rfl (setRow_at _ _ _ _ _ H3.out.2.2) ?_
      exact HFIN.out _ _ _ rfl (setRow_below H3.out.1 _ _ (Nat.le_refl _)) HT.out
    | some n =>
      go_wp2_with (first | (refine wpList_load_row rfl 50 _ rfl w1.heap.size rfl 50 (tabArr t) (0, 0) _ H3.out.2.1 Try.underlying50 rfl (by rw [tabArr_size]; exact info50) ?_) | (refine wpList_store_row rfl 50 _ _ rfl w.heap.size (tabArr t) rfl rfl 50 _ H3.out.2.2 (by rw [tabArr_size]; exact info50) (by rw [tabArr_size, tabArr_size]) (tabArr_one _) ?_))
      refine tabRetT rfl rfl rfl (setRow_at _ _ _ _ _ H3.out.2.2) ?_
      exact HFIN.out _ _ _ rfl (setRow_below H3.out.1 _ _ (Nat.le_refl _)) HT.out
end Go.Proofs.Ytfoeamgjjhfkdaa

namespace Go.Proofs.Ytfoeamgjjhfkdaa
open Go Go.Shelf Go.RowKit Go.Proofs L9

/-- the table that asked's caller keeps: its block, and where it lies -/
theorem keepTab {w w1 : World} {t : Nat → Bool} (hb : Below w.heap.size w w1) :
    Below w.heap.size w ((w1.alloc (.cells Try.zeroCells50 50)).setRow w1.heap.size (tabArr t)) ∧
    ((w1.alloc (.cells Try.zeroCells50 50)).setRow w1.heap.size (tabArr t)).heap[w1.heap.size]? = some (.cells (tabArr t) 50 (0, 0)) :=
  ⟨setRow_below (hb.alloc hb.size _) _ _ hb.size, setRow_at _ _ _ _ _ (alloc_zeros w1)⟩

theorem tabCell {w : World} {g : Nat} {t : Nat → Bool} (h : w.heap[g]? = some (.cells (tabArr t) 50 (0, 0))) (i : Nat) (hi : i < 256) : w.cell? ⟨g, i, none⟩ = some (.bool (t i)) := by
  rw [Lib.cell_of_heap h]; exact tab_get t i hi

def refAns (o : Option (List (List Part))) (q : Option Nat) (f : List (List Part) → Nat → Bool) : Bool × Int := match o with
  | none => (false, 90)
  | some x => match q with
    | none => (false, 91)
    | some n => (f x n, 0)

set_option maxHeartbeats 2000000 in
set_option maxRecDepth 100000 in
theorem refConducts (c s : ByteArray) (w : World) (hm : c.size ≤ maxLen) (hs : s.size ≤ 1000000) :
    Calls Try.prog 46 #[.string c, .string s] w fun e w' => e = .returned (.tuple #[.bool (conductsOf c.data.toList s.data.toList).1, .int .i64 (conductsOf c.data.toList s.data.toList).2]) ∧ Below w.heap.size w w' := by
  have HA := Lib.hid (refAsked c s w hm hs)
  have HB := Lib.hid (fun m (h : setOf s.data.toList = some m) W => refBits s m W hs h)
  have hq := setOf_lt s.data.toList
  unfold PostAsk at HA
  unfold conductsOf
  generalize circ c.data.toList = o at *
  generalize setOf s.data.toList = q at *
  go_enter Try.func46, Try.ntmps46
  go_wp2_with fail
  refine HA.out.mono ?_
  rintro e w1 ⟨t, rfl, hb, ht⟩
  obtain ⟨hb2, hT2⟩ := keepTab (t := t) hb
  have HS := Lib.hid (alloc_zeros w1)
  have HB2 := Lib.hid hb2
  have HT2 := Lib.hid hT2
  have HT := Lib.hid ht
  clear hb hb2 hT2 ht HA
  cases o with
  | none =>
    unfold askCode
    go_wp2_with (refine wpList_store_row rfl 50 _ _ rfl w1.heap.size (tabArr t) rfl rfl 50 _ HS.out (by rw [tabArr_size]; exact info50) (by rw [tabArr_size, tabArr_size]) (tabArr_one _) ?_)
    go_ret2
    exact ⟨rfl, HB2.out⟩
  | some x =>
    cases q with
    | none =>
      unfold askCode
      go_wp2_with (refine wpList_store_row rfl 50 _ _ rfl w1.heap.size (tabArr t) rfl rfl 50 _ HS.out (by rw [tabArr_size]; exact info50) (by rw [tabArr_size, tabArr_size]) (tabArr_one _) ?_)
      go_ret2
      exact ⟨rfl, HB2.out⟩
    | some n =>
      unfold askCode
      have hn := hq n rfl
      have hv := HT.out x rfl n hn
      have hcell := tabCell HT2.out n hn
      rw [hv] at hcell
      generalize hy : evC x n = y at hcell
      have HY := Lib.hid hy
      have HBN := Lib.hid (HB.out n rfl)
      clear hy hv hq HT HB
      go_wp2_with (first | (refine wpList_store_row rfl 50 _ _ rfl w1.heap.size (tabArr t) rfl rfl 50 _ HS.out (by rw [tabArr_size]; exact info50) (by rw [tabArr_size, tabArr_size]) (tabArr_one _) ?_) | (go_at_call 79; refine (HBN.out _).mono ?_; rintro e w' ⟨rfl, rfl⟩))
      go_ret2
      exact ⟨by rw [← HY.out]; rfl, HB2.out⟩

theorem refIsPath (c s : ByteArray) (w : World) (hm : c.size ≤ maxLen) (hs : s.size ≤ 1000000) :
    Calls Try.prog 40 #[.string c, .string s] w fun e w' => e = .returned (.tuple #[.bool (conductsOf c.data.toList s.data.toList).1, .int .i64 (conductsOf c.data.toList s.data.toList).2]) ∧ Below w.heap.size w w' := by
  have HC := Lib.hid (refConducts c s w hm hs)
  generalize conductsOf c.data.toList s.data.toList = y at *
  obtain ⟨y1, y2⟩ := y
  go_enter Try.func40, Try.ntmps40
  go_wp2_with fail
  refine HC.out.mono ?_
  rintro e w1 ⟨rfl, hb⟩
  go_wp2_with fail
  go_ret2
  exact ⟨rfl, hb⟩

set_option maxHeartbeats 2000000 in
set_option maxRecDepth 100000 in
theorem refIsCut (c s : ByteArray) (w : World) (hm : c.size ≤ maxLen) (hs : s.size ≤ 1000000) :
    Calls Try.prog 41 #[.string c, .string s] w fun e w' => e = .returned (.tuple #[.bool (isCutOf c.data.toList s.data.toList).1, .int .i64 (isCutOf c.data.toList s.data.toList).2]) ∧ Below w.heap.size w w' := by
  have HA := Lib.hid (refAsked c s w hm hs)
  have HB := Lib.hid (fun m (h : setOf s.data.toList = some m) W => refBits s m W hs h)
  have hq := setOf_lt s.data.toList
  unfold PostAsk at HA
  unfold isCutOf
  generalize circ c.data.toList = o at *
  generalize setOf s.data.toList = q at *
  go_enter Try.func41, Try.ntmps41
  go_wp2_with fail
  refine HA.out.mono ?_
  rintro e w1 ⟨t, rfl, hb, ht⟩
  obtain ⟨hb2, hT2⟩ := keepTab (t := t) hb
  have HS := Lib.hid (alloc_zeros w1)
  have HB2 := Lib.hid hb2
  have HT2 := Lib.hid hT2
  have HT := Lib.hid ht
  clear hb hb2 hT2 ht HA
  cases o with
  | none =>
    unfold askCode
    go_wp2_with (refine wpList_store_row rfl 50 _ _ rfl w1.heap.size (tabArr t) rfl rfl 50 _ HS.out (by rw [tabArr_size]; exact info50) (by rw [tabArr_size, tabArr_size]) (tabArr_one _) ?_)
    go_ret2
    exact ⟨rfl, HB2.out⟩
  | some x =>
    cases q with
    | none =>
      unfold askCode
      go_wp2_with (refine wpList_store_row rfl 50 _ _ rfl w1.heap.size (tabArr t) rfl rfl 50 _ HS.out (by rw [tabArr_size]; exact info50) (by rw [tabArr_size, tabArr_size]) (tabArr_one _) ?_)
      go_ret2
      exact ⟨rfl, HB2.out⟩
    | some n =>
      unfold askCode
      have hn := hq n rfl
      have hv := HT.out x rfl (255 - n) (by omega)
      have hcell := tabCell HT2.out (255 - n) (by omega)
      rw [hv] at hcell
      have hsub : (255 - (n : Int)) = ((255 - n : Nat) : Int) := by omega
      generalize hy : evC x (255 - n) = y at hcell
      have HY := Lib.hid hy
      have HBN := Lib.hid (HB.out n rfl)
      clear hy hv hq HT HB
      go_wp2_with (first | (refine wpList_store_row rfl 50 _ _ rfl w1.heap.size (tabArr t) rfl rfl 50 _ HS.out (by rw [tabArr_size]; exact info50) (by rw [tabArr_size, tabArr_size]) (tabArr_one _) ?_) | (go_at_call 79; refine (HBN.out _).mono ?_; rintro e w' ⟨rfl, rfl⟩))
      go_ret2
      exact ⟨by rw [← HY.out]; rfl, HB2.out⟩
end Go.Proofs.Ytfoeamgjjhfkdaa
