/- Tables compared; two, Same, Within, Differ. -/
import Derived.Test.YtfoeamgjjhfkdaaTv
import Derived.Laws.StructEq
namespace Go.Proofs.Ytfoeamgjjhfkdaa
open Go Go.Shelf Go.RowKit Go.Proofs L9

def tabArr (t : Nat → Bool) : Array Value := ((List.range 256).map fun i => Value.bool (t i)).toArray
theorem tab_get (t : Nat → Bool) (i : Nat) (hi : i < 256) : (tabArr t)[i]? = some (.bool (t i)) := by
  unfold tabArr; simp [hi]
theorem tab_part (w : World) (t : Nat → Bool) (i : Nat) (hi : i < 256) : (part 4 (tabArr t) (i * 1)).run Try.prog w = .ok (.bool (t i)) w := by
  have ha : (isAgg 4).run Try.prog w = .ok false w := Try.isAgg4 w
  unfold part
  simp [Sem.run_bind, ha, tab_get t i hi]
theorem run_equalIn_tab (w : World) (D : Nat) (t u : Nat → Bool) (hD : ∀ a b, (Op.equalIn D 4 (.bool a) (.bool b)).run Try.prog w = .ok (a == b) w) :
    (Op.equalIn (D + 1) 67 (.agg (tabArr t)) (.agg (tabArr u))).run Try.prog w = .ok ((List.range 256).all fun i => t i == u i) w := by
  have h0 : Try.prog.underlying 67 = some (.array 256 4) := Try.underlying67
  have hz : (Go.sizeOf 4).run Try.prog w = .ok 1 w := Try.sizeOf4 w
  simp only [Op.equalIn, Sem.run_bind, run_underlying h0, Result.andThen_ok, hz]
  rw [Std.Legacy.Range.forIn_eq_forIn_range']
  have hr : List.range' [:256].start [:256].size [:256].step = List.range 256 := by decide +kernel
  rw [hr]
  have hall : ∀ i ∈ List.range 256, i < 256 := fun i hi => List.mem_range.1 hi
  generalize List.range 256 = l at *
  clear hr
  induction l with
  | nil => simp [Sem.run_pure]
  | cons i l ih =>
    simp only [List.forIn_cons, Sem.run_bind, tab_part w t i (hall i (by simp)), tab_part w u i (hall i (by simp)), Result.andThen_ok, hD, List.all_cons]
    cases h : (t i == u i)
    · simp only [Bool.not_false, if_true, Sem.run_pure, Result.andThen_ok, Bool.false_and]
    · simp only [Bool.not_true, Bool.false_eq_true, if_false, Sem.run_pure, Result.andThen_ok, Bool.true_and]
      exact ih (fun i hi => hall i (by simp [hi]))
/-- do two tables agree? -/
def sameT (t u : Nat → Bool) : Bool := (List.range 256).all fun i => t i == u i
theorem run_eql_tab (w : World) (t u : Nat → Bool) : (binOp .eql 67 (.agg (tabArr t)) (.agg (tabArr u))).run Try.prog w = .ok (.bool (sameT t u)) w := by
  rw [run_eql_struct, show (10000 : Nat) = 9999 + 1 from rfl, run_equalIn_tab w 9999 t u (fun a b => run_equalIn_bool w 9998 4 a b Try.underlying4)]
  rfl
theorem run_load_tab (w : World) (b : Nat) (t : Nat → Bool) (hc : ∀ i, i < 256 → w.cell? ⟨b, i, none⟩ = some (.bool (t i))) : (loadVar 67 ⟨b, 0, none⟩).run Try.prog w = .ok (.agg (tabArr t)) w := by
  have hl : (loadCells ⟨b, 0, none⟩ ((List.range 256).map fun i => Value.bool (t i)).length).run Try.prog w = .ok (tabArr t) w :=
    run_loadCells_list (P := Try.prog) w ⟨b, 0, none⟩ _ (fun j v hv => by
      have hadd : (⟨b, 0, none⟩ : Addr).add j = ⟨b, j, none⟩ := by unfold Addr.add; split <;> simp_all
      have hj : j < 256 := by have := (List.getElem?_eq_some_iff.1 hv).1; simpa using this
      rw [hadd, hc j hj]
      simp [hj] at hv
      rw [hv])
  have ha : (isAgg 67).run Try.prog w = .ok true w := Try.isAgg67 w
  rw [List.length_map, List.length_range] at hl
  simp [loadVar, Sem.run_bind, ha, hl]

/-- a whole row read inside a region that only reads -/
theorem quiet_row {P : Program} {o : Oper} {a : Act} {C : World → Prop} {K : Act → Prop} {ty : TypeId} {x : Operand} {b : Nat} {v : Value} (ho : o.op = .load ty x) (hx : a.eval x = .pointer (some ⟨b, 0, none⟩))
    (hrun : ∀ w, C w → (loadVar ty ⟨b, 0, none⟩).run P w = .ok v w) (h : K (a.put o.dst v)) : o.quiet P a C K := by
  refine ⟨v, fun w hw => ?_, h⟩
  unfold Oper.quietAt execOp
  simp only [ho, hx, Instr.loadAt, Instr.sureAddr, Sem.run_bind, Sem.run_pure, Result.andThen_ok, hrun w hw]
  exact ⟨rfl, rfl⟩

/-- what two leaves -/
def TwoPost (w : World) (o q : Option (List (List Part))) (e : Ending) (w' : World) : Prop :=
  Below w.heap.size w w' ∧ match o, q with
    | some x, some y => ∃ p r, e = .returned (.tuple #[p, r, .int .i64 0]) ∧ TableAt w' p (evC x) ∧ TableAt w' r (evC y)
    | _, _ => e = .returned (.tuple #[.pointer none, .pointer none, .int .i64 90])
theorem two_any (c d : ByteArray) (w : World) (hc : c.size ≤ maxLen) (hd : d.size ≤ maxLen) :
    Calls Try.prog 70 #[.string c, .string d] w (TwoPost w (circ c.data.toList) (circ d.data.toList)) := by
  have HP := Lib.hid (open_any c w hc)
  have HQ := Lib.hid (fun W => open_any d W hd)
  generalize circ c.data.toList = o at *
  generalize circ d.data.toList = q at *
  go_enter Try.func70, Try.ntmps70
  go_wp2_with fail
  refine HP.out.mono ?_
  rintro e w1 ⟨hb, ⟨x, p, ho, rfl, hT⟩ | ⟨ho, rfl⟩⟩
  · have HO := Lib.hid ho
    have HT := Lib.hid hT
    have hsz := hb.size
    clear ho hT
    go_wp2_with fail
    refine (HQ.out _).mono ?_
    rintro e w2 ⟨hb2, ⟨y, r, hq, rfl, hU⟩ | ⟨hq, rfl⟩⟩
    · have HO2 := Lib.hid hq
      have HU := Lib.hid hU
      clear hq hU
      go_wp2_with fail
      go_ret3
      rw [HO.out, HO2.out]
      exact ⟨hb.trans (hb2.mono hsz), p, r, rfl, HT.out.keep hb2, HU.out⟩
    · have HO2 := Lib.hid hq
      clear hq
      go_wp2_with fail
      go_ret3
      rw [HO.out, HO2.out]
      exact ⟨hb.trans (hb2.mono hsz), rfl⟩
  · have HO := Lib.hid ho
    have hsz := hb.size
    clear ho
    go_wp2_with fail
    refine (HQ.out _).mono ?_
    rintro e w2 ⟨hb2, ⟨y, r, hq, rfl, hU⟩ | ⟨hq, rfl⟩⟩
    · clear hq hU
      go_wp2_with fail
      go_ret3
      rw [HO.out]
      exact ⟨hb.trans (hb2.mono hsz), rfl⟩
    · clear hq
      go_wp2_with fail
      go_ret3
      rw [HO.out]
      exact ⟨hb.trans (hb2.mono hsz), rfl⟩

def sameF (o q : Option (List (List Part))) : Bool × Int := match o, q with
  | some x, some y => (sameT (evC x) (evC y), 0)
  | _, _ => (false, 90)
set_option maxRecDepth 100000 in
theorem same_any (c d : ByteArray) (w : World) (hc : c.size ≤ maxLen) (hd : d.size ≤ maxLen) :
    Calls Try.prog 29 #[.string c, .string d] w fun e w' => e = .returned (.tuple #[.bool (sameF (circ c.data.toList) (circ d.data.toList)).1, .int .i64 (sameF (circ c.data.toList) (circ d.data.toList)).2]) ∧ Below w.heap.size w w' := by
  have HP := two_any c d w hc hd
  generalize circ c.data.toList = o at *
  generalize circ d.data.toList = q at *
  have hno : ∀ f : Bool × Int, f = (false, 90) → (Calls Try.prog 70 #[.string c, .string d] w fun e w' => Below w.heap.size w w' ∧ e = .returned (.tuple #[.pointer none, .pointer none, .int .i64 90])) → Calls Try.prog 29 #[.string c, .string d] w fun e w' => e = .returned (.tuple #[.bool f.1, .int .i64 f.2]) ∧ Below w.heap.size w w' := by
    rintro f rfl h
    have H := Lib.hid h
    clear h HP
    go_enter Try.func29, Try.ntmps29
    go_wp2_with fail
    refine H.out.mono ?_
    rintro e w1 ⟨hb, rfl⟩
    go_wp2_with fail
    go_quiet (fail)
    go_wp2_with fail
    go_ret2
    exact ⟨rfl, hb.trans ⟨rfl, rfl, rfl, Nat.le_refl _, fun _ _ => rfl⟩⟩
  cases o with
  | none => exact hno _ rfl (HP.mono fun _ _ h => ⟨h.1, h.2⟩)
  | some x =>
    cases q with
    | none => exact hno _ rfl (HP.mono fun _ _ h => ⟨h.1, h.2⟩)
    | some y =>
      have H := Lib.hid HP
      have hs : sameF (some x) (some y) = (sameT (evC x) (evC y), 0) := rfl
      rw [hs]
      clear HP hno hs
      go_enter Try.func29, Try.ntmps29
      go_wp2_with fail
      refine H.out.mono ?_
      rintro e w1 ⟨hb, p, r, rfl, hT, hU⟩
      obtain ⟨b, rfl, _, hcb⟩ := hT
      obtain ⟨b', rfl, _, hcb'⟩ := hU
      have l1 := fun q => run_load_tab (w1.drewN q) b (evC x) hcb
      have l2 := fun q => run_load_tab (w1.drewN q) b' (evC y) hcb'
      have l3 := fun q => run_equalIn_tab (w1.drewN q) 9999 (evC x) (evC y) (fun a b => run_equalIn_bool (w1.drewN q) 9998 4 a b Try.underlying4)
      change ∀ q, (Op.equalIn 10000 67 (.agg (tabArr (evC x))) (.agg (tabArr (evC y)))).run Try.prog (w1.drewN q) = .ok (sameT (evC x) (evC y)) (w1.drewN q) at l3
      have hm : Try.prog.eqGuardType Try.prog.depth 67 = false := by kernel_rfl
      clear hcb hcb'
      generalize tabArr (evC x) = A at *
      generalize tabArr (evC y) = B at *
      generalize hz : sameT (evC x) (evC y) = z at l3
      have HZ := Lib.hid hz
      clear hz
      go_wp2_with fail
      refine wp_region_quiet_lit (by kernel_rfl) (by kernel_rfl) ?_
      iterate 5 go_big_quiet_step (fail)
      go_big_quiet_want
      refine quiet_row (v := .agg A) rfl rfl (by rintro _ ⟨n, rfl⟩; exact l1 n) ?_
      go_simp
      go_big_quiet_on
      iterate 2 go_big_quiet_step (fail)
      go_big_quiet_want
      refine quiet_row (v := .agg B) rfl rfl (by rintro _ ⟨n, rfl⟩; exact l2 n) ?_
      go_simp
      go_big_quiet_on
      repeat (go_big_quiet_step (fail))
      refine wpQuiet_nil ?_
      intro _ hw'
      obtain ⟨nq, hw''⟩ := hw'
      subst hw''
      go_wp2_with fail
      go_ret2
      exact ⟨by rw [← HZ.out]; rfl, hb.trans ⟨rfl, rfl, rfl, Nat.le_refl _, fun _ _ => rfl⟩⟩
end Go.Proofs.Ytfoeamgjjhfkdaa
