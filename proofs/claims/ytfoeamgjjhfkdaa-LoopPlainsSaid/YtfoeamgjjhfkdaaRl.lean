/- The letters of a circuit, by the program and by the reference. The laws' own helpers: Long, SameTexts, First. -/
import Derived.Test.YtfoeamgjjhfkdaaRj
namespace Go.Proofs.Ytfoeamgjjhfkdaa
open Go Go.Shelf Go.RowKit Go.Proofs L9

def Low (l : List UInt8) : Prop := ∀ x ∈ l, x.toNat ≤ 104
theorem Low.append {a b : List UInt8} (ha : Low a) (hb : Low b) : Low (a ++ b) := fun x hx => (List.mem_append.1 hx).elim (ha x) (hb x)
theorem Low.cons {x : UInt8} {a : List UInt8} (hx : x.toNat ≤ 104) (ha : Low a) : Low (x :: a) := fun y hy => (List.mem_cons.1 hy).elim (fun e => e ▸ hx) (ha y)
theorem Low.nil : Low [] := fun x hx => by cases hx
mutual
theorem txt_low : ∀ p : Part, p.ok → Low p.txt
  | .letter i, h => by
    have h : i < 8 := h
    refine Low.cons ?_ Low.nil
    simp [UInt8.toNat_ofNat']
    omega
  | .circ c, h => Low.cons (by decide) ((txtC_low c h.2).append (Low.cons (by decide) Low.nil))
theorem txtB_low : ∀ b : List Part, okB b → Low (txtB b)
  | [], _ => Low.nil
  | p :: b, h => (txt_low p h.1).append (txtB_low b h.2)
theorem txtC_low : ∀ c : List (List Part), okC c → Low (txtC c)
  | [], _ => Low.nil
  | b :: c, h => (txtB_low b h.1.2).append (txtM_low c h.2)
theorem txtM_low : ∀ c : List (List Part), okC c → Low (txtM c)
  | [], _ => Low.nil
  | b :: c, h => Low.cons (by decide) ((txtB_low b h.1.2).append (txtM_low c h.2))
end
theorem circ_text {s : List UInt8} {x : List (List Part)} (h : circ s = some x) : s = txtC x ∧ x ≠ [] ∧ okC x ∧ s.length ≤ 40 := by
  unfold circ at h
  split at h
  · rename_i hl
    unfold parse at h
    cases hp : pC (3 * s.length + 3) s with
    | none => rw [hp] at h; cases h
    | some y =>
      obtain ⟨c, r⟩ := y
      rw [hp] at h
      cases r with
      | cons a r => simp at h
      | nil =>
        simp at h
        subst h
        obtain ⟨h1, h2, h3⟩ := (reads _).2.2 _ _ _ hp
        exact ⟨by simpa using h1, h2, h3, hl⟩
  · cases h
theorem circ_low {s : List UInt8} {x : List (List Part)} (h : circ s = some x) : Low s := by
  obtain ⟨h1, _, h3, _⟩ := circ_text h
  rw [h1]; exact txtC_low x h3

/-- the set of the letters of a text, letter by letter -/
def letK (l : List UInt8) : Nat → Nat
  | 0 => 0
  | k + 1 => if UInt8.ofNat (97 + k) ∈ l then letK l k ||| 2 ^ k else letK l k
/-- the set of the letters of a text, byte by byte -/
def letL : Nat → List UInt8 → Nat
  | acc, [] => acc
  | acc, b :: r => letL (if 97 ≤ b.toNat then acc ||| 2 ^ (b.toNat - 97) else acc) r
theorem letK_bit (l : List UInt8) (i : Nat) : ∀ k, (letK l k).testBit i = (decide (i < k) && decide (UInt8.ofNat (97 + i) ∈ l))
  | 0 => by simp [letK]
  | k + 1 => by
    unfold letK
    by_cases h : UInt8.ofNat (97 + k) ∈ l
    · rw [if_pos h, Nat.testBit_or, letK_bit l i k, Nat.testBit_two_pow]
      by_cases hik : k = i
      · subst hik; rw [decide_eq_true h]; simp
      · have h1 : decide (i < k + 1) = decide (i < k) := by
          rcases Nat.lt_or_ge i k with h' | h'
          · simp [h', Nat.lt_succ_of_lt h']
          · simp [show ¬ i < k by omega, show ¬ i < k + 1 by omega]
        simp [hik, h1]
    · rw [if_neg h, letK_bit l i k]
      by_cases hik : k = i
      · subst hik; rw [decide_eq_false h]; simp
      · have h1 : decide (i < k + 1) = decide (i < k) := by
          rcases Nat.lt_or_ge i k with h' | h'
          · simp [h', Nat.lt_succ_of_lt h']
          · simp [show ¬ i < k by omega, show ¬ i < k + 1 by omega]
        rw [h1]
theorem letL_bit (i : Nat) (hi : i < 8) : ∀ (l : List UInt8) (acc : Nat), (letL acc l).testBit i = (acc.testBit i || decide (UInt8.ofNat (97 + i) ∈ l))
  | [], acc => by simp [letL]
  | b :: r, acc => by
    unfold letL
    rw [letL_bit i hi r]
    have hb : (UInt8.ofNat (97 + i) = b) ↔ 97 + i = b.toNat := by
      constructor
      · intro h; rw [← h]; simp [UInt8.toNat_ofNat']; omega
      · intro h; rw [h]; simp
    by_cases h97 : 97 ≤ b.toNat
    · rw [if_pos h97, Nat.testBit_or, Nat.testBit_two_pow]
      have : decide (b.toNat - 97 = i) = decide (UInt8.ofNat (97 + i) = b) := by
        rw [decide_eq_decide, hb]; omega
      rw [this]
      simp [List.mem_cons, Bool.or_assoc]
    · rw [if_neg h97]
      have : ¬ UInt8.ofNat (97 + i) = b := by rw [hb]; omega
      rw [show decide (UInt8.ofNat (97 + i) ∈ b :: r) = decide (UInt8.ofNat (97 + i) ∈ r) from decide_eq_decide.2 (by rw [List.mem_cons]; exact ⟨fun h => h.resolve_left this, Or.inr⟩)]
theorem letK_lt (l : List UInt8) : ∀ k, letK l k < 2 ^ k
  | 0 => by simp [letK]
  | k + 1 => by
    have := letK_lt l k
    have hp : 2 ^ k < 2 ^ (k + 1) := Nat.pow_lt_pow_right (by omega) (by omega)
    unfold letK
    split
    · exact Nat.or_lt_two_pow (by omega) hp
    · omega
theorem letL_lt : ∀ (l : List UInt8) (acc : Nat), acc < 256 → Low l → letL acc l < 256
  | [], acc, h, _ => h
  | b :: r, acc, h, hl => by
    unfold letL
    refine letL_lt r _ ?_ (fun x hx => hl x (List.mem_cons_of_mem _ hx))
    split
    · have := hl b (List.mem_cons_self ..)
      exact Nat.or_lt_two_pow (n := 8) h (Nat.pow_lt_pow_right (by omega) (by omega))
    · exact h
theorem let_same (l : List UInt8) (hl : Low l) : letL 0 l = letK l 8 := by
  apply Nat.eq_of_testBit_eq
  intro i
  by_cases hi : i < 8
  · rw [letK_bit, letL_bit i hi]; simp [hi]
  · rw [Nat.testBit_lt_two_pow, Nat.testBit_lt_two_pow]
    · exact Nat.lt_of_lt_of_le (letK_lt l 8) (Nat.pow_le_pow_right (by omega) (by omega))
    · exact Nat.lt_of_lt_of_le (letL_lt l 0 (by omega) hl) (show 2 ^ 8 ≤ 2 ^ i from Nat.pow_le_pow_right (by omega) (by omega))
theorem indexByte_mem (c : UInt8) : ∀ l : List UInt8, 0 ≤ Lib.indexByte l c ↔ c ∈ l
  | [] => by simp [Lib.indexByte]
  | b :: l => by
    have ih := indexByte_mem c l
    unfold Lib.indexByte
    by_cases hb : b = c
    · simp [hb]
    · have hb' : ¬ c = b := fun h => hb h.symm
      rw [if_neg (by simpa using hb)]
      rw [List.mem_cons]
      by_cases hm : Lib.indexByte l c = -1
      · rw [if_pos (by simpa using hm)]
        rw [hm] at ih
        simp [hb'] at ih ⊢
        exact ih
      · rw [if_neg (by simpa using hm)]
        have : ∀ m : List UInt8, -1 ≤ Lib.indexByte m c := by
          intro m
          induction m with
          | nil => simp [Lib.indexByte]
          | cons y m ihm =>
            unfold Lib.indexByte
            split
            · omega
            · split <;> omega
        have h1 := this l
        constructor
        · intro _; exact Or.inr (ih.1 (by omega))
        · rintro (h | h)
          · exact absurd h hb'
          · have := ih.2 h; omega

/-- the answer of Letters -/
def lettersOf (c : List UInt8) : List UInt8 × Int := match circ c with
  | none => ([], 90)
  | some _ => (txt (letK c 8), 0)

set_option maxHeartbeats 2000000 in
set_option maxRecDepth 100000 in
theorem letters_any (c : ByteArray) (w : World) (hm : c.size ≤ maxLen) :
    Calls Try.prog 47 #[.string c] w fun e w' => e = .returned (.tuple #[.string ⟨(lettersOf c.data.toList).1.toArray⟩, .int .i64 (lettersOf c.data.toList).2]) ∧ Below w.heap.size w w' := by
  have HV := Lib.hid (valid_any c w hm)
  unfold lettersOf
  have hmem := fun k => indexByte_mem (UInt8.ofNat (97 + k)) c.data.toList
  have HMEM := Lib.hid hmem
  have HKL := Lib.hid (fun k => letK_lt c.data.toList k)
  have hKS : ∀ k, letK c.data.toList (k + 1) = if UInt8.ofNat (97 + k) ∈ c.data.toList then letK c.data.toList k ||| 2 ^ k else letK c.data.toList k := fun k => rfl
  have HKS := Lib.hid hKS
  have hK0 : letK c.data.toList 0 = 0 := rfl
  have HK0 := Lib.hid hK0
  clear hmem hKS hK0
  have HIX := Lib.hid (fun x W => Try.strings_IndexByte c x W)
  generalize circ c.data.toList = o at *
  generalize letK c.data.toList = L at *
  generalize Lib.indexByte c.data.toList = I at *
  cases o with
  | none =>
    go_enter Try.func47, Try.ntmps47
    go_wp2_with fail
    refine HV.out.mono ?_
    rintro e w1 ⟨rfl, hb⟩
    go_wp2_with fail
    go_ret2
    exact ⟨rfl, hb⟩
  | some x =>
    go_enter Try.func47, Try.ntmps47
    go_wp2_with fail
    refine HV.out.mono ?_
    rintro e w1 ⟨rfl, hb⟩
    have HB := Lib.hid hb
    clear hb
    go_wp2_with fail
    go_loop [4, 5, 9] (fun v _ i => ∃ k : Nat, k ≤ 8 ∧ i = .int .i64 k ∧ v = .int .i64 (L k : Nat)) (fun _ _ i => 8 - (intOf i).toNat)
    case atStart => exact ⟨0, by omega, rfl, by rw [HK0.out]; rfl⟩
    case round =>
      obtain ⟨k, hk, rfl, rfl⟩ := hrel
      have hL := HKL.out k
      by_cases hlt : k < 8
      · have hby := byte_of k hlt (by show k < 8; exact hlt)
        have hor := orShl (L k) k (by have := Nat.pow_le_pow_right (n := 2) (by omega) (show k ≤ 8 by omega); omega) hlt
        have HOR := Lib.hid hor
        have HBY := Lib.hid hby
        clear hor hby
        go_wp2_with fail
        refine (HIX.out _ _).mono ?_
        rintro e w' ⟨rfl, rfl⟩
        rw [Int.toNat_natCast, HBY.out, show ∀ x : UInt8, x.toNat.toUInt8 = x from fun x => by simp]
        have hm1 := HMEM.out k
        have hks := HKS.out k
        generalize hz : I (UInt8.ofNat (97 + k)) = z at *
        have HM1 := Lib.hid hm1
        have HKSk := Lib.hid hks
        clear hm1 hks hz
        by_cases h0 : 0 ≤ z
        · go_wp2_with fail
          go_round
          case rel => exact ⟨k + 1, by omega, by go_num, by rw [HOR.out, HKSk.out, if_pos (HM1.out.1 h0)]⟩
          case measure => simp [intOf]; omega
        · go_wp2_with fail
          go_round
          case rel => exact ⟨k + 1, by omega, by go_num, by rw [HKSk.out, if_neg (fun h => absurd (HM1.out.2 h) (by omega))]⟩
          case measure => simp [intOf]; omega
      · obtain rfl : k = 8 := by omega
        have HT := Lib.hid (textOf_d (L 8) hL w1)
        go_wp2_with fail
        refine HT.out.mono ?_
        rintro e w2 ⟨rfl, hb2, _⟩
        have hb3 := HB.out.trans (hb2.mono HB.out.size)
        clear hb2
        go_wp2_with fail
        go_ret2
        exact ⟨rfl, hb3⟩

set_option maxHeartbeats 2000000 in
set_option maxRecDepth 100000 in
theorem refLetters (c : ByteArray) (w : World) (hm : c.size ≤ maxLen) :
    Calls Try.prog 48 #[.string c] w fun e w' => e = .returned (.tuple #[.string ⟨(lettersOf c.data.toList).1.toArray⟩, .int .i64 (lettersOf c.data.toList).2]) ∧ Below w.heap.size w w' := by
  have HV := Lib.hid (refValid c w hm)
  unfold lettersOf
  cases ho : circ c.data.toList with
  | none =>
    rw [ho] at HV
    clear ho
    go_enter Try.func48, Try.ntmps48
    go_wp2_with fail
    refine HV.out.mono ?_
    rintro e w1 ⟨rfl, hb⟩
    go_wp2_with fail
    go_ret2
    exact ⟨rfl, hb⟩
  | some x =>
    rw [ho] at HV
    have hlow := circ_low ho
    have hlen := (circ_text ho).2.2.2
    have hsl := size_list c
    have HSAME := Lib.hid (let_same _ hlow)
    have hl256 := letL_lt c.data.toList 0 (by omega) hlow
    rw [HSAME.out] at hl256
    have HLOW := Lib.hid hlow
    clear ho hlow
    go_enter Try.func48, Try.ntmps48
    go_wp2_with fail
    refine HV.out.mono ?_
    rintro e w1 ⟨rfl, hb⟩
    have HB := Lib.hid hb
    clear hb
    go_wp2_with fail
    go_loop [4, 5] (fun v i => ∃ k acc : Nat, k ≤ c.size ∧ i = .int .i64 k ∧ v = .int .i64 acc ∧ acc < 256 ∧ letL acc (c.data.toList.drop k) = letK c.data.toList 8) (fun _ i => c.size - (intOf i).toNat)
    case atStart => exact ⟨0, 0, by omega, rfl, rfl, by omega, by rw [List.drop_zero]; exact HSAME.out⟩
    case round =>
      obtain ⟨k, acc, hk, rfl, rfl, hacc, he⟩ := hrel
      by_cases hlt : k < c.size
      · have hdrop : c.data.toList.drop k = c[k]'hlt :: c.data.toList.drop (k + 1) := by
          rw [List.drop_eq_getElem_cons (by omega)]; rfl
        have hle : (c[k]'hlt).toNat ≤ 104 := HLOW.out _ (by
          have : c[k]'hlt ∈ c.data.toList.drop k := by rw [hdrop]; exact List.mem_cons_self ..
          exact List.mem_of_mem_drop this)
        rw [hdrop] at he
        unfold letL at he
        by_cases h97 : 97 ≤ (c[k]'hlt).toNat
        · rw [if_pos h97] at he
          have hlt2 : acc ||| 2 ^ ((c[k]'hlt).toNat - 97) < 256 := Nat.or_lt_two_pow (n := 8) hacc (Nat.pow_lt_pow_right (by omega) (by omega))
          have HOR := Lib.hid (orShl acc ((c[k]'hlt).toNat - 97) hacc (by omega))
          have HE := Lib.hid he
          clear he hdrop
          go_wp2_with fail
          go_round
          case rel => exact ⟨k + 1, _, by omega, by go_num, by rw [HOR.out], hlt2, HE.out⟩
          case measure => simp [intOf]; omega
        · rw [if_neg h97] at he
          have HE := Lib.hid he
          clear he hdrop
          go_wp2_with fail
          go_round
          case rel => exact ⟨k + 1, _, by omega, by go_num, rfl, hacc, HE.out⟩
          case measure => simp [intOf]; omega
      · obtain rfl : k = c.size := by omega
        rw [List.drop_of_length_le (by omega)] at he
        have he2 : acc = letK c.data.toList 8 := he
        subst he2
        clear he
        have HT := Lib.hid (refText (letK c.data.toList 8) hl256 w1)
        go_wp2_with fail
        refine HT.out.mono ?_
        rintro e w2 ⟨rfl, rfl⟩
        go_wp2_with fail
        go_ret2
        exact ⟨rfl, HB.out⟩
end Go.Proofs.Ytfoeamgjjhfkdaa

namespace Go.Proofs.Ytfoeamgjjhfkdaa
open Go Go.Shelf Go.RowKit Go.Proofs L9

theorem long_any (a b : ByteArray) (w : World) (ha : a.size ≤ maxLen) (hb : b.size ≤ maxLen) :
    Calls Try.prog 14 #[.string a, .string b] w fun e w' => e = .returned (.bool (decide (200 < a.size ∨ 200 < b.size))) ∧ w' = w := by
  unfold maxLen at ha hb
  by_cases h1 : 200 < a.size
  · go_enter Try.func14, Try.ntmps14
    go_wp2
    go_ret
    exact ⟨by simp, rfl⟩
  · by_cases h2 : 200 < b.size
    · go_enter Try.func14, Try.ntmps14
      go_wp2
      go_ret
      exact ⟨by rw [decide_eq_true (show 200 < a.size ∨ 200 < b.size from Or.inr h2)]; simp; exact Or.inr (by omega), rfl⟩
    · go_enter Try.func14, Try.ntmps14
      go_wp2
      go_ret
      exact ⟨by simp [h1, h2]; try omega, rfl⟩

/-- what a slice of texts gives a reader -/
theorem StrsR.form {w : World} {v : Value} {l : List (List UInt8)} (h : StrsR w v l) : ∃ a cap, v = .slice a l.length cap ∧ ∀ j, j < l.length → ∃ g, a = some ⟨g, 0, none⟩ ∧ w.cell? ⟨g, j, none⟩ = some (.string ⟨(l.getD j []).toArray⟩) := by
  rcases h with ⟨rfl, rfl⟩ | ⟨g, cap, rfl, _, _, hc⟩
  · exact ⟨none, 0, rfl, fun j hj => by simp at hj⟩
  · exact ⟨_, cap, rfl, fun j hj => ⟨g, rfl, hc j hj⟩⟩

set_option maxHeartbeats 2000000 in
theorem sameTexts_any (u v : Value) (la lb : List (List UInt8)) (w : World) (hu : StrsR w u la) (hv : StrsR w v lb) (_hla : la.length ≤ 1000000) (hlb : lb.length ≤ 1000000) :
    Calls Try.prog 20 #[u, v] w fun e w' => e = .returned (.bool (decide (la = lb))) ∧ ∃ n, w' = w.drewN n := by
  obtain ⟨a, ca, rfl, ha⟩ := hu.form
  obtain ⟨b, cb, rfl, hb⟩ := hv.form
  have HA := Lib.hid ha
  have HB := Lib.hid hb
  clear ha hb hu hv
  by_cases hlen : la.length = lb.length
  · have HEX : Hid (∀ k, k < lb.length → la.getD k [] ≠ lb.getD k [] → decide (la = lb) = false) := by
      intro k hk hne
      apply decide_eq_false
      rintro rfl
      exact hne rfl
    have HALL : Hid ((∀ k, k < lb.length → la.getD k [] = lb.getD k []) → decide (la = lb) = true) := by
      intro h
      apply decide_eq_true
      apply List.ext_getElem hlen
      intro i h1 h2
      have := h i (by omega)
      simp [List.getD_eq_getElem?_getD, List.getElem?_eq_getElem h1, List.getElem?_eq_getElem h2] at this
      exact this
    rw [hlen] at HA ⊢
    clear hlen _hla
    generalize hz : decide (la = lb) = z at *
    clear hz
    generalize lb.length = L at *
    go_enter Try.func20, Try.ntmps20
    go_wp2
    go_loopw [5] (fun i wr => ∃ k n : Nat, k ≤ L ∧ i = .int .i64 k ∧ wr = w.drewN n ∧ ∀ j, j < k → la.getD j [] = lb.getD j []) (fun i _ => L - (intOf i).toNat)
    case atStart => exact ⟨0, 0, by omega, rfl, rfl, fun j hj => by omega⟩
    case round =>
      obtain ⟨k, n, hk, rfl, rfl, hsame⟩ := hrel
      by_cases hlt : k < L
      · obtain ⟨g, rfl, hc⟩ := HA.out k hlt
        obtain ⟨g', rfl, hc'⟩ := HB.out k (by omega)
        have hiff : (⟨(la.getD k []).toArray⟩ : ByteArray) = ⟨(lb.getD k []).toArray⟩ ↔ la.getD k [] = lb.getD k [] := by simp
        generalize hx : (⟨(la.getD k []).toArray⟩ : ByteArray) = x at *
        generalize hy : (⟨(lb.getD k []).toArray⟩ : ByteArray) = y at *
        have HSAME := Lib.hid hsame
        have HIFF := Lib.hid hiff
        clear hx hy hsame hiff
        by_cases hxy : x = y
        · subst hxy
          have he := HIFF.out.1 rfl
          have HE := Lib.hid he
          clear he
          go_wp2_with fail
          go_quiet (fail)
          go_wp2_with fail
          go_roundw
          case rel => exact ⟨k + 1, n + nq, by omega, by go_num, rfl, fun j hj => by
            rcases Nat.lt_or_ge j k with h | h
            · exact HSAME.out j h
            · obtain rfl : j = k := by omega
              exact HE.out⟩
          case measure => simp [intOf]; omega
        · have hz := HEX.out k hlt (fun h => hxy (HIFF.out.2 h))
          subst hz
          have hne : (x.toList == y.toList) = false := by
            rw [ByteArray.toList_eq, ByteArray.toList_eq, beq_eq_false_iff_ne]
            exact fun h => hxy (ba_ext h)
          clear HIFF
          go_wp2_with fail
          go_quiet (fail)
          go_wp2_with fail
          go_ret
          exact ⟨rfl, _, by first | rfl | rw [World.drewN_drewN]⟩
      · obtain rfl : k = L := by omega
        have hz := HALL.out hsame
        subst hz
        clear HALL HEX hsame
        go_wp2
        go_ret
        exact ⟨rfl, _, rfl⟩
  · have hz : decide (la = lb) = false := decide_eq_false (fun h => hlen (by rw [h]))
    rw [hz]
    clear hz
    go_enter Try.func20, Try.ntmps20
    go_wp2
    go_ret
    exact ⟨rfl, 0, rfl⟩

theorem first_paths : pathsOf [97, 40, 98, 43, 99, 41] = some [[97, 98], [97, 99]] := by decide +kernel
theorem first_cuts : cutsOf [97, 40, 98, 43, 99, 41] = some [[97], [98, 99]] := by decide +kernel
theorem first_dual : dualOf [97, 40, 98, 43, 99, 41] = ([97, 43, 98, 99], 0) := by decide +kernel

theorem strsAt_new (w : World) (a b : List UInt8) : StrsR (w.alloc (.cells #[.string ⟨a.toArray⟩, .string ⟨b.toArray⟩] 9)) (.slice (some ⟨w.heap.size, 0, none⟩) 2 2) [a, b] := by
  refine Or.inr ⟨w.heap.size, 2, rfl, by simp, by simp, fun j hj => ?_⟩
  rw [Lib.cell_of_heap (alloc_last w (.cells #[.string ⟨a.toArray⟩, .string ⟨b.toArray⟩] 9))]
  match j, hj with
  | 0, _ => rfl
  | 1, _ => rfl

set_option maxHeartbeats 2000000 in
theorem first_any (w : World) : Calls Try.prog 15 #[] w fun e w' => e = .returned (.bool true) ∧ Below w.heap.size w w' := by
  have HP := Lib.hid (fun W => paths_any ⟨#[97, 40, 98, 43, 99, 41]⟩ W (by decide))
  have HC := Lib.hid (fun W => cuts_any ⟨#[97, 40, 98, 43, 99, 41]⟩ W (by decide))
  have HD := Lib.hid (fun W => dual_any ⟨#[97, 40, 98, 43, 99, 41]⟩ W (by decide))
  rw [show (⟨#[97, 40, 98, 43, 99, 41]⟩ : ByteArray).data.toList = [97, 40, 98, 43, 99, 41] from rfl] at HP HC HD
  rw [first_paths] at HP
  rw [first_cuts] at HC
  rw [first_dual] at HD
  go_enter Try.func15, Try.ntmps15
  go_wp2_with fail
  refine (HP.out _).mono ?_
  rintro e w1 ⟨hb1, u, rfl, hu⟩
  have HU1 := Lib.hid hu
  clear hu
  go_wp2_with fail
  refine (HC.out _).mono ?_
  rintro e w2 ⟨hb2, v, rfl, hv⟩
  have HU2 := Lib.hid (HU1.out.keep hb2)
  have HV2 := Lib.hid hv
  have hb2' := hb1.trans (hb2.mono hb1.size)
  clear hv hb1 hb2 HU1
  go_wp2_with fail
  refine (HD.out _).mono ?_
  rintro e w3 ⟨rfl, hb3⟩
  have HU3 := Lib.hid (HU2.out.keep hb3)
  have HV3 := Lib.hid (HV2.out.keep hb3)
  have hb3' := hb2'.trans (hb3.mono hb2'.size)
  clear hb2' hb3 HU2 HV2
  have hal4 : Below w3.heap.size w3 (w3.alloc (.cells #[.string ⟨#[97, 98]⟩, .string ⟨#[97, 99]⟩] 9)) := (Below.refl _ _).alloc (Nat.le_refl _) _
  have HS1 := Lib.hid (sameTexts_any u _ _ _ _ (HU3.out.keep hal4) (strsAt_new w3 [97, 98] [97, 99]) (by simp) (by simp))
  have HV4 := Lib.hid (HV3.out.keep hal4)
  have hb4 := hb3'.trans (hal4.mono hb3'.size)
  have HB4 := Lib.hid hb4
  clear hb3' hal4 hb4 HU3 HV3
  go_wp2_with fail
  refine HS1.out.mono ?_
  rintro e w5 ⟨rfl, n5, rfl⟩
  have hb5 : Below w.heap.size w ((w3.alloc (.cells #[.string ⟨#[97, 98]⟩, .string ⟨#[97, 99]⟩] 9)).drewN n5) := HB4.out.trans (drewN_below _ _ _)
  have hv5 : StrsR ((w3.alloc (.cells #[.string ⟨#[97, 98]⟩, .string ⟨#[97, 99]⟩] 9)).drewN n5) v [[97], [98, 99]] := HV4.out.keep (drewN_below _ _ _)
  generalize ((w3.alloc (.cells #[.string ⟨#[97, 98]⟩, .string ⟨#[97, 99]⟩] 9)).drewN n5) = w5 at *
  have hal6 : Below w5.heap.size w5 (w5.alloc (.cells #[.string ⟨#[97]⟩, .string ⟨#[98, 99]⟩] 9)) := (Below.refl _ _).alloc (Nat.le_refl _) _
  have HS2 := Lib.hid (sameTexts_any v _ _ _ _ (hv5.keep hal6) (strsAt_new w5 [97] [98, 99]) (by simp) (by simp))
  have HB6 := Lib.hid (hb5.trans (hal6.mono hb5.size))
  clear hb5 hv5 hal6 HS1 HB4 HV4
  go_wp2_with fail
  refine HS2.out.mono ?_
  rintro e w6 ⟨rfl, n6, rfl⟩
  go_wp2_with fail
  go_ret
  exact ⟨rfl, HB6.out.trans (drewN_below _ _ _)⟩
end Go.Proofs.Ytfoeamgjjhfkdaa
