/- The reference's turned, Dual. -/
import Derived.Test.YtfoeamgjjhfkdaaRu
import Derived.Test.YtfoeamgjjhfkdaaRo
import Derived.StillTailTactics
namespace Go.Proofs.Ytfoeamgjjhfkdaa
open Go Go.Shelf Go.RowKit Go.Proofs L9

theorem dtP_append : ∀ (x y : List Part), dtP (x ++ y) = dtP x ++ dtP y
  | [], _ => by simp [dtP]
  | p :: x, y => by simp [dtP, dtP_append x y]
theorem dt_ne (p : Part) (h : p.ok) : p.dt ≠ [] := by
  rw [du_txt p h]
  obtain ⟨h1, h2⟩ := du_ok p h
  cases hd : p.du with
  | nil => exact absurd hd h1
  | cons b c =>
    rw [hd] at h2
    rw [txtC_cons]
    cases b with
    | nil => exact absurd rfl h2.1.1
    | cons q b =>
      rw [txtB_cons]
      have := txtP_ne q
      simp [this]
theorem dtB_snoc (ps : List Part) (p : Part) (h : okB ps) : dtB (ps ++ [p]) = addT (dtB ps) p.dt := by
  unfold addT
  cases ps with
  | nil => simp [dtB, dtP]
  | cons q ps =>
    have hne : dtB (q :: ps) ≠ [] := by
      simp only [dtB]
      have := dt_ne q h.1
      simp [this]
    rw [if_neg hne]
    simp [dtB, dtP_append, dtP]
/-- all branches' duals -/
def dtL (c : List (List Part)) : List (List UInt8) := c.map dtB
/-- a circuit's text, taken up in the middle -/
theorem okB_snoc {ps : List Part} {p : Part} (h : okB ps) (hp : p.ok) : okB (ps ++ [p]) := okB_append _ _ h ⟨hp, trivial⟩
theorem map_snoc_set (ds : List Value) (a b : Value) : (ds ++ [a]).set ds.length b = ds ++ [b] := by
  rw [List.set_append_right _ _ (Nat.le_refl _)]
  simp

theorem addedAt (A B : ByteArray) (a b : List UInt8) (hA : A.data.toList = a) (hB : B.data.toList = b) (w : World) (ha : a.length ≤ 100000) (hb : b.length ≤ 100000) :
    Calls Try.prog 103 #[.string A, .string B] w fun e w' => e = .returned (.string ⟨(addT a b).toArray⟩) ∧ w' = w := by
  have h1 : A = ⟨a.toArray⟩ := ba_ext (by rw [hA])
  have h2 : B = ⟨b.toArray⟩ := ba_ext (by rw [hB])
  rw [h1, h2]
  exact refAdded a b w ha hb
def strW (t : List UInt8) : Value := .string ⟨t.toArray⟩
theorem dtB_le (b : List Part) (h : okB b) : (dtB b).length ≤ 4 * (txtB b).length := by
  cases b with
  | nil => simp [dtB]
  | cons p b => have := dtB_len (p :: b) (by simp) h; omega
theorem extract_list (s : ByteArray) (i j : Nat) : (s.extract i j).data.toList = (s.data.toList.drop i).take (j - i) := by
  rw [Lib.extract_data]

theorem own_succ {W : World} {B n : Nat} {v : Value} {xs : List Value} (h : W.ownsRow B 9 1 v (n + 1) xs) : ∃ g cap, v = .slice (some ⟨g, 0, none⟩) (n + 1) cap := by
  rcases h.2 with ⟨_, h0⟩ | ⟨g, cap, _, hv, _⟩
  · omega
  · exact ⟨g, cap, hv⟩

theorem okC_mem : ∀ (c : List (List Part)), okC c → ∀ b ∈ c, b ≠ [] ∧ okB b
  | [], _, _, h => by cases h
  | a :: c, h, b, hb => by
    rcases List.mem_cons.1 hb with rfl | hb
    · exact h.1
    · exact okC_mem c h.2 b hb
theorem sums_wide (b : List Part) (h0 : b ≠ []) (h : okB b) : decide (2 ≤ (duB b).length) = wideAt 0 (dtB b) := by
  rw [duB_txt b h0 h]
  have hd := duB_ok b h
  have hn := hd.1 h0
  match hc : duB b with
  | [] => exact absurd hc hn
  | [x] => rw [wide_one x (by have := hd.2; rw [hc] at this; exact this.1.2)]; simp
  | x :: y :: c => rw [wide_two x y c (by have := hd.2; rw [hc] at this; exact this.1.2)]; simp

/-- where the walk of turned stands -/
def TRel (s : ByteArray) (c : List (List Part)) (w : World) (u3 u4 : Value) (wr : World) : Prop :=
  ∃ (ds c' : List (List Part)) (ps b : List Part) (k : Nat), c = ds ++ (ps ++ b) :: c' ∧ k ≤ s.size ∧ u4 = .int .i64 k ∧ s.data.toList.drop k = txtB b ++ txtM c' ∧
    wr.ownsRow w.heap.size 9 1 u3 (ds.length + 1) ((ds.map dtB).map strW ++ [strW (dtB ps)]) ∧ Below w.heap.size w wr

set_option maxHeartbeats 8000000 in
set_option maxRecDepth 100000 in
theorem refTurned : ∀ (N : Nat) (c : List (List Part)) (_ : c ≠ []) (_ : okC c) (_ : (txtC c).length ≤ N) (_ : N ≤ 1000) (s : ByteArray) (_ : s.data.toList = txtC c) (w : World),
    Calls Try.prog 76 #[.string s] w fun e w' => e = .returned (.string ⟨(dtC c).toArray⟩) ∧ Below w.heap.size w w' := by
  intro N
  induction N with
  | zero =>
    intro c h0 h hl _ s hs w
    exfalso
    cases c with
    | nil => exact h0 rfl
    | cons b c =>
      have h1 := txtB_len b
      have h2 : b.length ≠ 0 := fun e => h.1.1 (List.length_eq_zero_iff.1 e)
      rw [txtC_cons, List.length_append] at hl
      omega
  | succ N ih =>
    intro c h0 h hl hN s hs w
    have hsz : s.size ≤ 1000 := by rw [← size_list, hs]; omega
    have hcl := txtC_len c
    have hi' : (Try.prog.info? 9).map (fun i => (i.zero, i.size, i.bytes)) = some (some (.string ⟨#[]⟩), 1, 16) := by kernel_rfl
    obtain ⟨i0, hi, hz0, hz1, hz2⟩ := info_parts hi'
    have hlenS : s.size = (txtC c).length := by rw [← size_list, hs]
    have HIH := Lib.hid ih
    have HSS := Lib.hid hs
    have HOK := Lib.hid h
    have HLS := Lib.hid hlenS
    have hstart : TRel s c w (.slice (some ⟨w.heap.size, 0, none⟩) 1 1) (.int .i64 0) (w.alloc (.cells #[.string ⟨#[]⟩] 9)) := by
      cases c with
      | nil => exact absurd rfl h0
      | cons b c' =>
        refine ⟨[], c', [], b, 0, rfl, by omega, rfl, by rw [List.drop_zero, hs, txtC_cons], ?_, (Below.refl _ _).alloc (Nat.le_refl _) _⟩
        exact World.ownsRow_lit w #[.string ⟨#[]⟩] 1 (Nat.le_refl _) (by unfold maxLen; omega) rfl
    have HST := Lib.hid hstart
    have H0 := Lib.hid h0
    clear ih hs h h0 hi' hstart hlenS
    go_enter Try.func76, Try.ntmps76
    go_wp2_with fail
    go_loopw [3, 4, 5, 6] (fun u3 u4 _ _ wr => TRel s c w u3 u4 wr) (fun _ i _ _ _ => s.size - (intOf i).toNat)
    case atStart => exact HST.out
    case round =>
      obtain ⟨ds, c', ps, b, k, hc, hk, rfl, hd, hown, hb⟩ := hrel
      clear HST
      have hokp : okB (ps ++ b) ∧ okB ps ∧ okB b ∧ okC c' := by
        have h1 := HOK.out
        rw [hc] at h1
        have h2 : ∀ (x y : List (List Part)), okC (x ++ y) → okC y := by
          intro x
          induction x with
          | nil => intro y h; exact h
          | cons a x ih => intro y h; exact ih y h.2
        have h3 := h2 _ _ h1
        have h4 : ∀ (x y : List Part), okB (x ++ y) → okB x ∧ okB y := by
          intro x
          induction x with
          | nil => intro y h; exact ⟨trivial, h⟩
          | cons a x ih => intro y h; exact ⟨⟨h.1, (ih y h.2).1⟩, (ih y h.2).2⟩
        exact ⟨h3.1.2, (h4 _ _ h3.1.2).1, (h4 _ _ h3.1.2).2, h3.2⟩
      have hdl : ds.length + 1 ≤ c.length := by rw [hc]; simp
      obtain ⟨g, cap, rfl⟩ := own_succ hown
      have hAl : ((ds.map dtB).map strW).length = ds.length := by rw [List.length_map, List.length_map]
      have hcell : wr.cell? ⟨g, ds.length, none⟩ = some (strW (dtB ps)) := by
        rw [hown.cellAt ds.length (by omega), List.getElem?_append_right (by rw [hAl]; exact Nat.le_refl _), hAl, Nat.sub_self]
        rfl
      have hfz := hown.frozenAt ds.length
      have hg := (hown.lt g rfl).2
      have hgb := (hown.lt g rfl).1
      have hset : ∀ u, ((ds.map dtB).map strW ++ [strW (dtB ps)]).set ds.length u = (ds.map dtB).map strW ++ [u] := by
        intro u
        rw [← hAl]; exact map_snoc_set _ _ _
      have hacc : (dtB ps).length ≤ 4000 := by
        have h1 := dtB_le ps hokp.2.1
        have h2 : (txtB ps).length ≤ (txtC c).length := by
          have h3 : (txtB (ps ++ b)).length ≤ (txtC c).length := txtB_le_C c (ps ++ b) (by rw [hc]; simp)
          rw [txtB_append, List.length_append] at h3
          omega
        omega
      have HOWN := Lib.hid hown
      have HSET := Lib.hid hset
      have HB := Lib.hid hb
      have HC := Lib.hid hc
      have HOKP := Lib.hid hokp
      have hnc : ds.length + 1 ≤ 1001 := by omega
      clear hown hset hb hc hokp hAl hdl
      generalize hn : ds.length = n at *
      have HN := Lib.hid hn
      clear hn
      cases b with
      | nil =>
        cases c' with
        | nil =>
          have hkk := drop_nil hk (by rw [hd]; rfl)
          have hcc : c = ds ++ [ps] := by rw [HC.out]; simp
          have hlen : c.length = n + 1 := by rw [hcc, List.length_append, HN.out]; rfl
          have hmap : (ds.map dtB).map strW ++ [strW (dtB ps)] = (c.map dtB).map strW := by rw [hcc]; simp
          have hown := HOWN.out
          rw [hmap] at hown
          have hcells : ∀ j (hj : j < c.length), wr.cell? ⟨g, j, none⟩ = some (.string ⟨(dtB c[j]).toArray⟩) := by
            intro j hj
            rw [hown.cellAt j (by omega)]
            simp [hj, strW]
          have HCL := Lib.hid hcells
          have HLEN := Lib.hid hlen
          have hk3 : ¬ k < s.size := by omega
          clear hd hkk hown hmap hcells hcell hfz hacc
          rcases Nat.eq_zero_or_pos n with hn0 | hn0
          · subst hn0
            obtain ⟨b0, hb0⟩ : ∃ b0, c = [b0] := by
              match c, hlen with
              | [b0], _ => exact ⟨b0, rfl⟩
            have hdt : dtC c = dtB b0 := by rw [hb0]; exact dtC_one b0
            have hc0 := HCL.out 0 (by omega)
            have he0 : c[0]'(by omega) = b0 := by subst hb0; rfl
            rw [he0, ← hdt] at hc0
            have HDT := Lib.hid hdt
            clear hcc hlen hb0 hdt he0
            generalize hDC : (⟨(dtC c).toArray⟩ : ByteArray) = DC at *
            have HDC := Lib.hid hDC
            clear hDC
            go_wp2_with fail
            go_ret
            exact ⟨by rw [HDC.out]; rfl, HB.out⟩
          · have hdt : dtC c = dtM c := by
              match c, hlen with
              | b0 :: b1 :: c2, _ => exact dtC_many b0 b1 c2
              | [b0], h => simp at h; omega
            have HDT := Lib.hid hdt
            have hne1 : ((n : Int) + 1 == 1) = false := by rw [beq_eq_false_iff_ne]; omega
            have hML := dtM_le c H0.out HOK.out
            have hdm : (dtM c).length ≤ 4004 := by omega
            clear hdt hcc hML
            go_wp2_with fail
            go_loop [7, 8] (fun o i => ∃ (j : Nat) (A : ByteArray), j ≤ n + 1 ∧ i = .int .i64 j ∧ o = .string A ∧ A.data.toList = dtM (c.take j)) (fun _ i => n + 1 - (intOf i).toNat)
            case atStart => exact ⟨0, _, by omega, rfl, rfl, by simp [dtM]⟩
            case round =>
              obtain ⟨j, A, hj, rfl, rfl, hA⟩ := hrel
              have hAs : A.size ≤ 4004 := by
                rw [← size_list, hA]
                have := dtM_take_le c j
                omega
              have HA := Lib.hid hA
              clear hA
              by_cases hlt : j < n + 1
              · have hjc : j < c.length := by omega
                have hcell := HCL.out j hjc
                obtain ⟨hbn, hbo⟩ := okC_mem c HOK.out c[j] (List.getElem_mem hjc)
                have HTK := Lib.hid (dtM_take c j hjc)
                have hdl := dtB_le_M c c[j] (List.getElem_mem hjc)
                have hdu := duB_ok c[j] hbo
                have hsm := fun W => refSums ⟨(dtB c[j]).toArray⟩ (duB c[j]) (hdu.1 hbn) hdu.2 (duB_txt c[j] hbn hbo) W (by rw [bsize]; omega)
                rw [sums_wide c[j] hbn hbo] at hsm
                have HSM := Lib.hid hsm
                have hTs : (⟨(dtB c[j]).toArray⟩ : ByteArray).size ≤ 4004 := by rw [bsize]; omega
                have HTD : Hid ((⟨(dtB c[j]).toArray⟩ : ByteArray).data.toList = dtB c[j]) := Lib.hid rfl
                have hwr : wrapT (dtB c[j]) = if wideAt 0 (dtB c[j]) then 40 :: (dtB c[j] ++ [41]) else dtB c[j] := rfl
                have HWR := Lib.hid hwr
                clear hdl hdu hsm hwr hbn hbo
                generalize dtB c[j] = d at *
                generalize (⟨d.toArray⟩ : ByteArray) = D at *
                generalize wideAt 0 d = wd at *
                cases wd with
                | true =>
                  go_wp2_with fail
                  refine (HSM.out _).mono ?_
                  rintro e w1 ⟨rfl, rfl⟩
                  go_wp2_with fail
                  go_round
                  case rel => exact ⟨j + 1, _, by omega, by go_num, rfl, by rw [ba_append, ba_append, ba_append, HA.out, HTD.out, HTK.out, HWR.out]; simp⟩
                  case measure => simp [intOf]; omega
                | false =>
                  go_wp2_with fail
                  refine (HSM.out _).mono ?_
                  rintro e w1 ⟨rfl, rfl⟩
                  go_wp2_with fail
                  go_round
                  case rel => exact ⟨j + 1, _, by omega, by go_num, rfl, by rw [ba_append, HA.out, HTD.out, HTK.out, HWR.out]; simp⟩
                  case measure => simp [intOf]; omega
              · obtain rfl : j = n + 1 := by omega
                have hA2 : A.data.toList = dtC c := by
                  rw [HA.out, HDT.out, List.take_of_length_le (by omega)]
                obtain rfl : A = ⟨(dtC c).toArray⟩ := ba_ext (by rw [hA2])
                clear hA2
                go_wp2_with fail
                go_ret
                exact ⟨rfl, HB.out⟩
        | cons b' c' =>
          have hd2 : s.data.toList.drop k = 43 :: (txtB b' ++ txtM c') := by rw [hd]; simp [txtB, txtM]
          obtain ⟨hlt, hx, hd3⟩ := drop_cons hd2
          have hx2 : ((s[k]'hlt).toNat : Int) = 43 := by rw [hx]; rfl
          have HD := Lib.hid hd3
          have hbz := HB.out.size
          have HL := Lib.hid (fun k hk => (HOWN.out.lt k hk).1)
          clear hd hd2 hd3 hx hcell hfz hacc
          go_wp2_with (at_builtin; refine wpList_append_own _ rfl _ _ 24 rfl w.heap.size 9 i0 (.string ⟨#[]⟩) 1 16 Try.underlying24 hi hz0 hz1 hz2 rfl (by decide) _ _ _ rfl (HOWN.out.alloc _) ⟨wr.heap.size, 0, none⟩ 1 1 [.string ⟨#[]⟩] rfl rfl ?c1 ?c2 ?c3 ?c4 ?c5 ?_)
          case c1 => intro j u hj; match j, hj with | 0, hj => simp at hj; subst hj; exact new_cell _ _ _ 0 _ rfl
          case c2 => intro u hu; simp at hu; subst hu; rfl
          case c3 => unfold maxLen; omega
          case c4 => omega
          case c5 => simp; omega
          intro v' w2 hown' hgrow _
          have HO := Lib.hid hown'
          have HG := Lib.hid ((HB.out.alloc hbz _).grown hgrow (by simp; omega) HL.out)
          clear hown' hgrow
          go_wp2_with fail
          go_roundw
          case rel =>
            refine ⟨ds ++ [ps ++ []], c', [], b', k + 1, by rw [HC.out]; simp, by omega, by go_num, HD.out, ?_, HG.out⟩
            have h1 := HO.out
            rw [List.length_append, HN.out, List.map_append, List.map_append]
            simpa [strW, dtB] using h1
          case measure => simp [intOf]; omega
      | cons p b =>
        cases p with
        | letter i =>
          have hi8 : i < 8 := HOKP.out.2.2.1.1
          have hd2 : s.data.toList.drop k = UInt8.ofNat (97 + i) :: (txtB b ++ txtM c') := by rw [hd]; simp [txtB, Part.txt]
          obtain ⟨hlt, hx, hd3⟩ := drop_cons hd2
          have hx2 : ((s[k]'hlt).toNat : Int) = 97 + i := by rw [hx]; exact let_test i hi8
          have hex : (s.extract k (k + 1)).data.toList = (Part.letter i).dt := by
            rw [extract_list, hd2, show k + 1 - k = 1 by omega]
            rfl
          have HAD := Lib.hid (fun A (hA : A.data.toList = dtB ps) => addedAt A (s.extract k (k + 1)) (dtB ps) (Part.letter i).dt hA hex wr.drew (by omega) (by simp [Part.dt]))
          have HAD2 := Lib.hid (HAD.out ⟨(dtB ps).toArray⟩ rfl)
          have hsn : addT (dtB ps) (Part.letter i).dt = dtB (ps ++ [Part.letter i]) := (dtB_snoc ps _ HOKP.out.2.1).symm
          rw [hsn] at HAD2
          have HD := Lib.hid hd3
          have hcell2 : wr.cell? ⟨g, n, none⟩ = some (.string ⟨(dtB ps).toArray⟩) := hcell
          have hw1 : IntKind.i64.wrap ((k : Int) + 1) = ((k + 1 : Nat) : Int) := by rw [IntKind.wrap_i64]; omega
          clear hd hd2 hd3 hx hcell hex HAD hsn hacc
          generalize hac : (⟨(dtB ps).toArray⟩ : ByteArray) = ac at *
          clear hac
          have zi1 : (n : Int) < (n : Int) + 1 := by omega
          have zi2 : (0 : Int) ≤ (n : Int) := by omega
          have zi3 : (k : Int) + 1 ≤ (s.size : Int) := by omega
          have zi4 : (0 : Int) ≤ (k : Int) + 1 := by omega
          have zi5 : (k : Int) ≤ (k : Int) + 1 := by omega
          go_wp2_with fail
          go_still_tail 13, (by kernel_rfl)
          still_call (HAD2.out)
          repeat still_step
          refine wpStill_nil ?_
          change wpList _ _ _ _ _ wr.drew
          go_wp2_with fail
          go_roundw
          case rel =>
            refine ⟨ds, c', ps ++ [Part.letter i], b, k + 1, by rw [HC.out]; simp, by omega, by go_num, HD.out, ?_, (HB.out.setCell (p := ⟨g, n, none⟩) hgb _).drew⟩
            have h1 := (HOWN.out.stored n (.string ⟨(dtB (ps ++ [Part.letter i])).toArray⟩)).1
            rw [HSET.out] at h1
            rw [HN.out]
            exact h1.drew
          case measure => simp [intOf]; omega
        | circ c1 =>
          have hok1 : c1 ≠ [] ∧ okC c1 := HOKP.out.2.2.1.1
          have hd2 : s.data.toList.drop k = 40 :: (txtC c1 ++ (41 :: (txtB b ++ txtM c'))) := by rw [hd]; simp [txtB, Part.txt]
          obtain ⟨hlt, hx, hd3⟩ := drop_cons hd2
          have hx2 : ((s[k]'hlt).toNat : Int) = 40 := by rw [hx]; rfl
          have hcl2 := fun W => refClosing s k W hk (by omega)
          simp only [hd2, close_circ c1 hok1.2] at hcl2
          have hd4 := drop_app hd3
          obtain ⟨hlt5, hu5, hd5⟩ := drop_cons hd4
          have hle : k + ((txtC c1).length + 1) < s.size := by omega
          have hd6 : s.data.toList.drop (k + ((txtC c1).length + 1) + 1) = txtB b ++ txtM c' := by rw [← hd5]; congr 1; omega
          have hex : (s.extract (k + 1) (k + ((txtC c1).length + 1))).data.toList = txtC c1 := by
            rw [extract_list, hd3, show k + ((txtC c1).length + 1) - (k + 1) = (txtC c1).length by omega, List.take_left]
          have hl1 : (txtC c1).length ≤ N := by have := HLS.out; omega
          have hdl1 := dtC_len c1 hok1.1 hok1.2
          have HT := Lib.hid (fun W => HIH.out c1 hok1.1 hok1.2 hl1 (by omega) (s.extract (k + 1) (k + ((txtC c1).length + 1))) hex W)
          have HAD := Lib.hid (fun W => addedAt ⟨(dtB ps).toArray⟩ ⟨(dtC c1).toArray⟩ (dtB ps) (dtC c1) rfl rfl W (by omega) (by omega))
          have hsn : addT (dtB ps) (dtC c1) = dtB (ps ++ [Part.circ c1]) := (dtB_snoc ps (Part.circ c1) HOKP.out.2.1).symm
          rw [hsn] at HAD
          have hkK : k < k + ((txtC c1).length + 1) := by omega
          generalize k + ((txtC c1).length + 1) = K at *
          have HD := Lib.hid hd6
          have HCL := Lib.hid hcl2
          have hcell2 : wr.cell? ⟨g, n, none⟩ = some (.string ⟨(dtB ps).toArray⟩) := hcell
          clear hd hd2 hd3 hd4 hu5 hd5 hd6 hx hcell hex hsn hacc hcl2 hl1 hdl1 hlt5
          generalize (⟨(dtB ps).toArray⟩ : ByteArray) = ac at *
          generalize (⟨(dtC c1).toArray⟩ : ByteArray) = dc at *
          have zi1 : (n : Int) < (n : Int) + 1 := by omega
          have zi2 : (0 : Int) ≤ (n : Int) := by omega
          have zi3 : (K : Int) ≤ (s.size : Int) := by omega
          have zi4 : (0 : Int) ≤ (k : Int) + 1 := by omega
          have zi5 : (k : Int) + 1 ≤ (K : Int) := by omega
          have zi6 : (0 : Int) ≤ (K : Int) := by omega
          go_wp2_with fail
          refine (HCL.out _).mono ?_
          rintro e w' ⟨rfl, rfl⟩
          go_wp2_with fail
          have zi7 : IntKind.i64.wrap ((k : Int) + 1) = (k : Int) + 1 := by rw [IntKind.wrap_i64]; omega
          have zi8 : ((k : Int) + 1).toNat = k + 1 := by omega
          have hb0 : Below w'.heap.size w' w'.drew := (Below.refl _ _).drew
          go_region_with (first | (go_at_call 76; refine (HT.out _).mono ?_; rintro e w2 ⟨rfl, hb2⟩; have hcw2 : w2.cell? ⟨g, n, none⟩ = some (.string ac) := (by rw [hb2.cell (p := ⟨g, n, none⟩) hg]; exact hcell2); have hfw2 : w2.frozen? ⟨g, n, none⟩ = false := (by rw [hb2.frozen (p := ⟨g, n, none⟩) hg]; exact hfz)) | (go_at_call 103; refine (HAD.out _).mono ?_; rintro e w3 ⟨rfl, rfl⟩))
          all_goals
            have h1 := ((HOWN.out.drew.kept (grown_none hb2) (Classical.em _)).stored n (.string ⟨(dtB (ps ++ [Part.circ c1])).toArray⟩)).1
            rw [HSET.out] at h1
            have hb3 := (HB.out.drew.trans (hb2.mono (by have := HB.out.size; simpa using this))).setCell (p := ⟨g, n, none⟩) hgb (.string ⟨(dtB (ps ++ [Part.circ c1])).toArray⟩)
            have H1 := Lib.hid h1
            have H3 := Lib.hid hb3
            clear h1 hb3 hb2 hcw2 hfw2 hcell2 hfz hb0
            go_wp2_with fail
            go_roundw
            case rel =>
              refine ⟨ds, c', ps ++ [Part.circ c1], b, K + 1, by rw [HC.out]; simp, by omega, by go_num, HD.out, ?_, H3.out⟩
              rw [HN.out]
              exact H1.out
            case measure => simp [intOf]; omega
end Go.Proofs.Ytfoeamgjjhfkdaa
