/- plain, Plain, two, Same, Within, Differ. Tables compared; two, Same, Within, Differ. Dual. -/
import Derived.Test.YtfoeamgjjhfkdaaTu
import Derived.Laws.StructEq
namespace Go.Proofs.Ytfoeamgjjhfkdaa
open Go.Shelf Go.RowKit Go.Proofs L9

theorem join_any (v : Value) (l : List (List UInt8)) (sep : ByteArray) (w : World) (hv : StrsR w v l) (hl : l.length ≤ 1000000) (hlen : (Lib.join l sep.data.toList).length ≤ 1000000) :
    Calls Try.prog 101 #[v, .string sep] w fun e w' => e = .returned (.string ⟨(Lib.join l sep.data.toList).toArray⟩) ∧ Below w.heap.size w w' := by
  rcases hv with ⟨rfl, rfl⟩ | ⟨g, cap, rfl, hg, hcap, hc⟩
  · refine (Try.strings_Join_none none 0 sep w).mono ?_
    rintro e w' ⟨he, rfl⟩
    exact ⟨he, Below.refl _ _⟩
  · have e1 : (l.map fun t => (ByteArray.mk t.toArray)).map (·.data.toList) = l := by
      rw [List.map_map]
      conv => rhs; rw [← List.map_id l]
      apply List.map_congr_left
      intro t _
      simp
    have h := Try.strings_Join g 0 cap (l.map fun t => (ByteArray.mk t.toArray)) sep w (by
      intro j x hj
      have hlt : j < l.length := by have := (List.getElem?_eq_some_iff.1 hj).1; simpa using this
      rw [Nat.zero_add, hc j hlt]
      rw [List.getElem?_map, List.getElem?_eq_getElem hlt] at hj
      rw [List.getD_eq_getElem?_getD, List.getElem?_eq_getElem hlt]
      simpa using hj) hg (by simp; omega) (by simpa using hcap) (by rw [e1]; omega)
    rw [e1, List.length_map] at h
    exact h

theorem join_le (sep : List UInt8) (k : Nat) : ∀ l : List (List UInt8), (∀ t ∈ l, t.length ≤ k) → (Lib.join l sep).length ≤ l.length * (k + sep.length) := by
  intro l
  cases l with
  | nil => intro _; simp [Lib.join_nil]
  | cons x r =>
    intro h
    rw [Lib.join_cons, List.length_append]
    have hx := h x (by simp)
    suffices h2 : (Lib.joinTail sep r).length ≤ r.length * (k + sep.length) by
      rw [List.length_cons, Nat.add_mul]; omega
    have hr : ∀ t ∈ r, t.length ≤ k := fun t ht => h t (List.mem_cons_of_mem _ ht)
    clear h hx
    induction r with
    | nil => simp [Lib.joinTail]
    | cons y r ih =>
      have := ih (fun t ht => hr t (List.mem_cons_of_mem _ ht))
      have hy := hr y (by simp)
      simp only [Lib.joinTail, List.map_cons, List.flatten_cons, List.length_append, List.length_cons, Nat.add_mul] at this ⊢
      omega

/-- the plain circuit of a table -/
def plainT (t : Nat → Bool) : List UInt8 := Lib.join ((leastL t).map txt) [43]
theorem plainT_len (t : Nat → Bool) : (plainT t).length ≤ 2304 := by
  unfold plainT
  have h := join_le [43] 8 ((leastL t).map txt) (by
    intro x hx
    obtain ⟨n, _, rfl⟩ := List.mem_map.1 hx
    exact txtTo_len n 8)
  have := leastL_len t
  rw [List.length_map] at h
  simp only [List.length_cons, List.length_nil] at h
  omega
def plainOf (t : Nat → Bool) : List UInt8 × Int :=
  if t 0 || !t 255 then ([], 5) else if 40 < (plainT t).length then ([], 4) else (plainT t, 0)

theorem least_table (p : Value) (t : Nat → Bool) (w : World) (hp : TableAt w p t) :
    Calls Try.prog 59 #[.func (.func 60) #[p] #[]] w fun e w' => ∃ v, e = .returned v ∧ IntsR w' v (leastL t) ∧ Below w.heap.size w w' :=
  least_any 60 p t w (enters_of Try.func60 (by kernel_rfl) rfl) fun w' n hb hn => path_any p t n hn w' (hp.keep hb)

set_option maxRecDepth 100000 in
theorem plainM_any (p : Value) (t : Nat → Bool) (w : World) (hp : TableAt w p t) :
    Calls Try.prog 74 #[p] w fun e w' => e = .returned (.tuple #[.string ⟨(plainOf t).1.toArray⟩, .int .i64 (plainOf t).2]) ∧ Below w.heap.size w w' := by
  have hL := Lib.hid (least_table p t w hp)
  have hp0 := hp
  obtain ⟨b, rfl, hbl, hc⟩ := hp
  have h0 := hc 0 (by omega)
  have h255 := hc 255 (by omega)
  have hmf : ∀ (fn : Fn) (first cap : Array Value) (w : World), (Instr.makeFunc fn first cap).run Try.prog w = .ok (.func fn first cap) w := fun _ _ _ _ => rfl
  clear hc hp0
  cases ht0 : t 0 with
  | true =>
    have hf : plainOf t = ([], 5) := by unfold plainOf; rw [ht0]; rfl
    have HF := Lib.hid hf
    rw [ht0] at h0
    clear hf ht0
    go_enter Try.func74, Try.ntmps74
    go_wp2_with fail
    go_ret2
    rw [HF.out]
    exact ⟨rfl, Below.refl _ _⟩
  | false =>
    cases ht1 : t 255 with
    | false =>
      have hf : plainOf t = ([], 5) := by unfold plainOf; rw [ht0, ht1]; rfl
      have HF := Lib.hid hf
      rw [ht0] at h0
      rw [ht1] at h255
      clear hf ht0 ht1
      go_enter Try.func74, Try.ntmps74
      go_wp2_with fail
      go_ret2
      rw [HF.out]
      exact ⟨rfl, Below.refl _ _⟩
    | true =>
      have hf : plainOf t = if 40 < (plainT t).length then ([], 4) else (plainT t, 0) := by unfold plainOf; rw [ht0, ht1]; rfl
      have HF := Lib.hid hf
      have hpl := plainT_len t
      rw [ht0] at h0
      rw [ht1] at h255
      clear hf ht0 ht1
      go_enter Try.func74, Try.ntmps74
      go_wp2_with fail
      refine hL.out.mono ?_
      rintro e w2 ⟨v, rfl, hv, hb2⟩
      have HT := Lib.hid (texts_any v _ (leastL_len _) (fun n hn => (leastL_mem _ n hn).1) w2 hv)
      have hsz2 := hb2.size
      clear hv
      go_wp2_with fail
      refine HT.out.mono ?_
      rintro e w3 ⟨u, rfl, hu, hb3⟩
      have hsz3 := hb3.size
      have HJ := Lib.hid (join_any u _ ⟨#[43]⟩ w3 hu (by have := leastL_len t; simp; omega) (by show (plainT t).length ≤ _; omega))
      change Hid (Calls Try.prog 101 #[u, .string ⟨#[43]⟩] w3 fun e w' => e = .returned (.string ⟨(plainT t).toArray⟩) ∧ Below w3.heap.size w3 w') at HJ
      clear hu
      generalize plainT t = z at *
      go_wp2_with fail
      refine HJ.out.mono ?_
      rintro e w4 ⟨rfl, hb4⟩
      have hz := bsize z
      by_cases h40 : 40 < z.length
      · rw [if_pos h40] at HF
        go_wp2_with fail
        go_ret2
        rw [HF.out]
        exact ⟨rfl, hb2.trans ((hb3.mono hsz2).trans (hb4.mono (by omega)))⟩
      · rw [if_neg h40] at HF
        go_wp2_with fail
        go_ret2
        rw [HF.out]
        exact ⟨rfl, hb2.trans ((hb3.mono hsz2).trans (hb4.mono (by omega)))⟩

/-- Plain's answers -/
def plainC (s : List UInt8) : List UInt8 × Int := match circ s with
  | none => ([], 90)
  | some c => plainOf (evC c)
theorem plain_any (s : ByteArray) (w : World) (hm : s.size ≤ maxLen) :
    Calls Try.prog 34 #[.string s] w fun e w' => e = .returned (.tuple #[.string ⟨(plainC s.data.toList).1.toArray⟩, .int .i64 (plainC s.data.toList).2]) ∧ Below w.heap.size w w' := by
  have HP := Lib.hid (open_any s w hm)
  have hf : ∀ o, circ s.data.toList = o → plainC s.data.toList = match (motive := Option (List (List Part)) → List UInt8 × Int) o with | none => ([], 90) | some c => plainOf (evC c) := fun o h => by unfold plainC; rw [h]
  have HF := Lib.hid hf
  clear hf
  generalize plainC s.data.toList = z at *
  go_enter Try.func34, Try.ntmps34
  go_wp2_with fail
  refine HP.out.mono ?_
  rintro e w1 ⟨hb, ⟨c, p, ho, rfl, hT⟩ | ⟨ho, rfl⟩⟩
  · have HL := Lib.hid (plainM_any p _ w1 hT)
    have hf := HF.out _ ho
    dsimp only at hf
    rw [← hf] at HL
    have hsz := hb.size
    clear ho hT hf
    go_wp2_with fail
    refine HL.out.mono ?_
    rintro e w2 ⟨rfl, hb2⟩
    go_wp2_with fail
    go_ret2
    exact ⟨rfl, hb.trans (hb2.mono hsz)⟩
  · have hf := Lib.hid (HF.out _ ho)
    clear ho
    go_wp2_with fail
    go_ret2
    rw [hf.out]
    exact ⟨rfl, hb⟩
end Go.Proofs.Ytfoeamgjjhfkdaa

namespace Go.Proofs.Ytfoeamgjjhfkdaa
open Go Go.Shelf Go.RowKit Go.Proofs L9

def tabArr (t : Nat → Bool) : Array Value := ((List.range 256).map fun i => Value.bool (t i)).toArray
theorem tab_get (t : Nat → Bool) (i : Nat) (hi : i < 256) : (tabArr t)[i]? = some (.bool (t i)) := by
  unfold tabArr; simp [hi]
theorem tab_part (w : World) (t : Nat → Bool) (i : Nat) (hi : i < 256) : (part 4 (tabArr t) (i * 1)).run Try.prog w = .ok (.bool (t i)) w := by
  have ha : (isAgg 4).run Try.prog w = .ok false w := Try.isAgg4 w
  unfold part
  simp [Sem.run_bind, ha, tab_get t i hi]
theorem run_equalIn_tab (w : World) (D : Nat) (t u : Nat → Bool) (hD : ∀ a b, (Op.equalIn D 4 (.bool a) (.bool b)).run Try.prog w = .ok (a == b) w) :
    (Op.equalIn (D + 1) 67 (.agg (tabArr t)) (.agg (tabArr u))).run Try.prog w = .ok ((List.range 256).all fun i => t i == u i) w := by
  have h0 : Try.prog.underlying 67 = some (.array 256 4) := Try.underlying67
  have hz : (Go.sizeOf 4).run Try.prog w = .ok 1 w := Try.sizeOf4 w
  simp only [Op.equalIn, Sem.run_bind, run_underlying h0, Result.andThen_ok, hz]
  rw [Std.Legacy.Range.forIn_eq_forIn_range']
  have hr : List.range' [:256].start [:256].size [:256].step = List.range 256 := by decide +kernel
  rw [hr]
  have hall : ∀ i ∈ List.range 256, i < 256 := fun i hi => List.mem_range.1 hi
  generalize List.range 256 = l at *
  clear hr
  induction l with
  | nil => simp [Sem.run_pure]
  | cons i l ih =>
    simp only [List.forIn_cons, Sem.run_bind, tab_part w t i (hall i (by simp)), tab_part w u i (hall i (by simp)), Result.andThen_ok, hD, List.all_cons]
    cases h : (t i == u i)
    · simp only [Bool.not_false, if_true, Sem.run_pure, Result.andThen_ok, Bool.false_and]
    · simp only [Bool.not_true, Bool.false_eq_true, if_false, Sem.run_pure, Result.andThen_ok, Bool.true_and]
      exact ih (fun i hi => hall i (by simp [hi]))
/-- do two tables agree? -/
def sameT (t u : Nat → Bool) : Bool := (List.range 256).all fun i => t i == u i
theorem run_eql_tab (w : World) (t u : Nat → Bool) : (binOp .eql 67 (.agg (tabArr t)) (.agg (tabArr u))).run Try.prog w = .ok (.bool (sameT t u)) w := by
  rw [run_eql_struct, show (10000 : Nat) = 9999 + 1 from rfl, run_equalIn_tab w 9999 t u (fun a b => run_equalIn_bool w 9998 4 a b Try.underlying4)]
  rfl
theorem run_load_tab (w : World) (b : Nat) (t : Nat → Bool) (hc : ∀ i, i < 256 → w.cell? ⟨b, i, none⟩ = some (.bool (t i))) : (loadVar 67 ⟨b, 0, none⟩).run Try.prog w = .ok (.agg (tabArr t)) w := by
  have hl : (loadCells ⟨b, 0, none⟩ ((List.range 256).map fun i => Value.bool (t i)).length).run Try.prog w = .ok (tabArr t) w :=
    run_loadCells_list (P := Try.prog) w ⟨b, 0, none⟩ _ (fun j v hv => by
      have hadd : (⟨b, 0, none⟩ : Addr).add j = ⟨b, j, none⟩ := by unfold Addr.add; split <;> simp_all
      have hj : j < 256 := by have := (List.getElem?_eq_some_iff.1 hv).1; simpa using this
      rw [hadd, hc j hj]
      simp [hj] at hv
      rw [hv])
  have ha : (isAgg 67).run Try.prog w = .ok true w := Try.isAgg67 w
  rw [List.length_map, List.length_range] at hl
  simp [loadVar, Sem.run_bind, ha, hl]

/-- a whole row read inside a region that only reads -/
theorem quiet_row {P : Program} {o : Oper} {a : Act} {C : World → Prop} {K : Act → Prop} {ty : TypeId} {x : Operand} {b : Nat} {v : Value} (ho : o.op = .load ty x) (hx : a.eval x = .pointer (some ⟨b, 0, none⟩))
    (hrun : ∀ w, C w → (loadVar ty ⟨b, 0, none⟩).run P w = .ok v w) (h : K (a.put o.dst v)) : o.quiet P a C K := by
  refine ⟨v, fun w hw => ?_, h⟩
  unfold Oper.quietAt execOp
  simp only [ho, hx, Instr.loadAt, Instr.sureAddr, Sem.run_bind, Sem.run_pure, Result.andThen_ok, hrun w hw]
  exact ⟨rfl, rfl⟩

/-- what two leaves -/
def TwoPost (w : World) (o q : Option (List (List Part))) (e : Ending) (w' : World) : Prop :=
  Below w.heap.size w w' ∧ match o, q with
    | some x, some y => ∃ p r, e = .returned (.tuple #[p, r, .int .i64 0]) ∧ TableAt w' p (evC x) ∧ TableAt w' r (evC y)
    | _, _ => e = .returned (.tuple #[.pointer none, .pointer none, .int .i64 90])
theorem two_any (c d : ByteArray) (w : World) (hc : c.size ≤ maxLen) (hd : d.size ≤ maxLen) :
    Calls Try.prog 70 #[.string c, .string d] w (TwoPost w (circ c.data.toList) (circ d.data.toList)) := by
  have HP := Lib.hid (open_any c w hc)
  have HQ := Lib.hid (fun W => open_any d W hd)
  generalize circ c.data.toList = o at *
  generalize circ d.data.toList = q at *
  go_enter Try.func70, Try.ntmps70
  go_wp2_with fail
  refine HP.out.mono ?_
  rintro e w1 ⟨hb, ⟨x, p, ho, rfl, hT⟩ | ⟨ho, rfl⟩⟩
  · have HO := Lib.hid ho
    have HT := Lib.hid hT
    have hsz := hb.size
    clear ho hT
    go_wp2_with fail
    refine (HQ.out _).mono ?_
    rintro e w2 ⟨hb2, ⟨y, r, hq, rfl, hU⟩ | ⟨hq, rfl⟩⟩
    · have HO2 := Lib.hid hq
      have HU := Lib.hid hU
      clear hq hU
      go_wp2_with fail
      go_ret3
      rw [HO.out, HO2.out]
      exact ⟨hb.trans (hb2.mono hsz), p, r, rfl, HT.out.keep hb2, HU.out⟩
    · have HO2 := Lib.hid hq
      clear hq
      go_wp2_with fail
      go_ret3
      rw [HO.out, HO2.out]
      exact ⟨hb.trans (hb2.mono hsz), rfl⟩
  · have HO := Lib.hid ho
    have hsz := hb.size
    clear ho
    go_wp2_with fail
    refine (HQ.out _).mono ?_
    rintro e w2 ⟨hb2, ⟨y, r, hq, rfl, hU⟩ | ⟨hq, rfl⟩⟩
    · clear hq hU
      go_wp2_with fail
      go_ret3
      rw [HO.out]
      exact ⟨hb.trans (hb2.mono hsz), rfl⟩
    · clear hq
      go_wp2_with fail
      go_ret3
      rw [HO.out]
      exact ⟨hb.trans (hb2.mono hsz), rfl⟩

def sameF (o q : Option (List (List Part))) : Bool × Int := match o, q with
  | some x, some y => (sameT (evC x) (evC y), 0)
  | _, _ => (false, 90)
set_option maxRecDepth 100000 in
theorem same_any (c d : ByteArray) (w : World) (hc : c.size ≤ maxLen) (hd : d.size ≤ maxLen) :
    Calls Try.prog 29 #[.string c, .string d] w fun e w' => e = .returned (.tuple #[.bool (sameF (circ c.data.toList) (circ d.data.toList)).1, .int .i64 (sameF (circ c.data.toList) (circ d.data.toList)).2]) ∧ Below w.heap.size w w' := by
  have HP := two_any c d w hc hd
  generalize circ c.data.toList = o at *
  generalize circ d.data.toList = q at *
  have hno : ∀ f : Bool × Int, f = (false, 90) → (Calls Try.prog 70 #[.string c, .string d] w fun e w' => Below w.heap.size w w' ∧ e = .returned (.tuple #[.pointer none, .pointer none, .int .i64 90])) → Calls Try.prog 29 #[.string c, .string d] w fun e w' => e = .returned (.tuple #[.bool f.1, .int .i64 f.2]) ∧ Below w.heap.size w w' := by
    rintro f rfl h
    have H := Lib.hid h
    clear h HP
    go_enter Try.func29, Try.ntmps29
    go_wp2_with fail
    refine H.out.mono ?_
    rintro e w1 ⟨hb, rfl⟩
    go_wp2_with fail
    go_quiet (fail)
    go_wp2_with fail
    go_ret2
    exact ⟨rfl, hb.trans ⟨rfl, rfl, rfl, Nat.le_refl _, fun _ _ => rfl⟩⟩
  cases o with
  | none => exact hno _ rfl (HP.mono fun _ _ h => ⟨h.1, h.2⟩)
  | some x =>
    cases q with
    | none => exact hno _ rfl (HP.mono fun _ _ h => ⟨h.1, h.2⟩)
    | some y =>
      have H := Lib.hid HP
      have hs : sameF (some x) (some y) = (sameT (evC x) (evC y), 0) := rfl
      rw [hs]
      clear HP hno hs
      go_enter Try.func29, Try.ntmps29
      go_wp2_with fail
      refine H.out.mono ?_
      rintro e w1 ⟨hb, p, r, rfl, hT, hU⟩
      obtain ⟨b, rfl, _, hcb⟩ := hT
      obtain ⟨b', rfl, _, hcb'⟩ := hU
      have l1 := fun q => run_load_tab (w1.drewN q) b (evC x) hcb
      have l2 := fun q => run_load_tab (w1.drewN q) b' (evC y) hcb'
      have l3 := fun q => run_equalIn_tab (w1.drewN q) 9999 (evC x) (evC y) (fun a b => run_equalIn_bool (w1.drewN q) 9998 4 a b Try.underlying4)
      change ∀ q, (Op.equalIn 10000 67 (.agg (tabArr (evC x))) (.agg (tabArr (evC y)))).run Try.prog (w1.drewN q) = .ok (sameT (evC x) (evC y)) (w1.drewN q) at l3
      have hm : Try.prog.eqGuardType Try.prog.depth 67 = false := by kernel_rfl
      clear hcb hcb'
      generalize tabArr (evC x) = A at *
      generalize tabArr (evC y) = B at *
      generalize hz : sameT (evC x) (evC y) = z at l3
      have HZ := Lib.hid hz
      clear hz
      go_wp2_with fail
      refine wp_region_quiet_lit (by kernel_rfl) (by kernel_rfl) ?_
      iterate 5 go_big_quiet_step (fail)
      go_big_quiet_want
      refine quiet_row (v := .agg A) rfl rfl (by rintro _ ⟨n, rfl⟩; exact l1 n) ?_
      go_simp
      go_big_quiet_on
      iterate 2 go_big_quiet_step (fail)
      go_big_quiet_want
      refine quiet_row (v := .agg B) rfl rfl (by rintro _ ⟨n, rfl⟩; exact l2 n) ?_
      go_simp
      go_big_quiet_on
      repeat (go_big_quiet_step (fail))
      refine wpQuiet_nil ?_
      intro _ hw'
      obtain ⟨nq, hw''⟩ := hw'
      subst hw''
      go_wp2_with fail
      go_ret2
      exact ⟨by rw [← HZ.out]; rfl, hb.trans ⟨rfl, rfl, rfl, Nat.le_refl _, fun _ _ => rfl⟩⟩
end Go.Proofs.Ytfoeamgjjhfkdaa

namespace Go.Proofs.Ytfoeamgjjhfkdaa
open Go Go.Shelf Go.RowKit Go.Proofs L9

/-- Dual's answers -/
def dualOf (s : List UInt8) : List UInt8 × Int := match circ s with
  | none => ([], 90)
  | some c => if 40 < (dtC c).length then ([], 4) else (dtC c, 0)
theorem circ_ok {s : List UInt8} {c : List (List Part)} (h : circ s = some c) : s = txtC c ∧ c ≠ [] ∧ okC c ∧ s.length ≤ 40 := by
  unfold circ at h
  split at h
  · rename_i hl
    unfold parse at h
    cases hp : pC (3 * s.length + 3) s with
    | none => rw [hp] at h; cases h
    | some y =>
      obtain ⟨c', r⟩ := y
      rw [hp] at h
      cases r with
      | nil =>
        simp at h
        subst h
        obtain ⟨e, h1, h2⟩ := (reads _).2.2 _ _ _ hp
        exact ⟨by simpa using e, h1, h2, hl⟩
      | cons x r => simp at h
  · cases h
theorem dual_len {s : List UInt8} {c : List (List Part)} (h : circ s = some c) : (dtC c).length ≤ 161 := by
  obtain ⟨e, h1, h2, h3⟩ := circ_ok h
  have := dtC_len c h1 h2
  rw [e] at h3
  omega

theorem dual_any (s : ByteArray) (w : World) (hm : s.size ≤ maxLen) :
    Calls Try.prog 28 #[.string s] w fun e w' => e = .returned (.tuple #[.string ⟨(dualOf s.data.toList).1.toArray⟩, .int .i64 (dualOf s.data.toList).2]) ∧ Below w.heap.size w w' := by
  have HP := Lib.hid (parse_any s w hm)
  have hf : ∀ o, circ s.data.toList = o → dualOf s.data.toList = match (motive := Option (List (List Part)) → List UInt8 × Int) o with | none => ([], 90) | some c => if 40 < (dtC c).length then ([], 4) else (dtC c, 0) := fun o h => by unfold dualOf; rw [h]
  have hdl := fun c => @dual_len s.data.toList c
  have HF := Lib.hid hf
  have HD := Lib.hid hdl
  clear hf hdl
  generalize dualOf s.data.toList = z at *
  go_enter Try.func28, Try.ntmps28
  go_wp2_with fail
  refine HP.out.mono ?_
  rintro e w1 ⟨hb, ⟨c, v, ho, rfl, hC⟩ | ⟨ho, rfl⟩⟩
  · have HL := Lib.hid (hC.2 w1 (KeptIn.refl _ _ _)).2
    have hf := HF.out _ ho
    have hd := HD.out _ ho
    dsimp only at hf
    have hsz := hb.size
    clear ho hC HF HD
    generalize dtC c = t at *
    have ht := bsize t
    by_cases h40 : 40 < t.length
    · rw [if_pos h40] at hf
      have HF := Lib.hid hf
      clear hf
      go_wp2_with fail
      refine HL.out.mono ?_
      rintro e w2 ⟨rfl, hb2⟩
      go_wp2_with fail
      go_ret2
      rw [HF.out]
      exact ⟨rfl, hb.trans (hb2.mono hsz)⟩
    · rw [if_neg h40] at hf
      have HF := Lib.hid hf
      clear hf
      go_wp2_with fail
      refine HL.out.mono ?_
      rintro e w2 ⟨rfl, hb2⟩
      go_wp2_with fail
      go_ret2
      rw [HF.out]
      exact ⟨rfl, hb.trans (hb2.mono hsz)⟩
  · have hf := Lib.hid (HF.out _ ho)
    clear ho
    go_wp2_with fail
    go_ret2
    rw [hf.out]
    exact ⟨rfl, hb⟩
end Go.Proofs.Ytfoeamgjjhfkdaa
