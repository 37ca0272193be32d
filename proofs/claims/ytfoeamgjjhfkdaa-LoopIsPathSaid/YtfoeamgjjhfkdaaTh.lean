/- The duals' texts. -/
import Derived.Test.YtfoeamgjjhfkdaaTg
import Derived.WalkSpells
namespace Go.Proofs.Ytfoeamgjjhfkdaa
open Go.Shelf Go.RowKit Go.Proofs L9

theorem let_slice (i : Nat) (hi : i < 8) : (ByteArray.mk #[97, 98, 99, 100, 101, 102, 103, 104]).extract i (i + 1) = ⟨#[UInt8.ofNat (97 + i)]⟩ := by
  apply ByteArray.ext
  rw [ByteArray.data_extract]
  match i, hi with
  | 0, _ => decide +kernel
  | 1, _ => decide +kernel
  | 2, _ => decide +kernel
  | 3, _ => decide +kernel
  | 4, _ => decide +kernel
  | 5, _ => decide +kernel
  | 6, _ => decide +kernel
  | 7, _ => decide +kernel

set_option maxRecDepth 100000 in
theorem letterDual (i : Nat) (hi : i < 8) (w : World) :
    Calls Try.prog 161 #[.int .i64 i] w fun e w' => e = .returned (.string ⟨#[UInt8.ofNat (97 + i)]⟩) ∧ w' = w := by
  have hs := Lib.hid (let_slice i hi)
  go_enter Try.func161, Try.ntmps161
  go_wp2

  go_ret
  exact ⟨by rw [← hs.out]; rfl, rfl⟩

theorem tail_dt : ∀ b : List Part, Lib.joinTail [43] (b.map Part.dt) = dtP b
  | [] => rfl
  | p :: b => by
    have h := tail_dt b
    unfold Lib.joinTail at h ⊢
    simp only [List.map_cons, List.flatten_cons, dtP]
    rw [h]
    rfl
theorem join_dt (b : List Part) : Lib.join (b.map Part.dt) [43] = dtB b := by
  cases b with
  | nil => rfl
  | cons p b => rw [List.map_cons, Lib.join_cons, tail_dt]; rfl

theorem grown_none {w w' : World} (h : Below w.heap.size w w') : w.grownBy w' none := ⟨h.os, h.tape, h.output, h.size, fun k hk _ => h.block k hk⟩

def dstr (p : Part) : ByteArray := ⟨p.dt.toArray⟩

set_option maxHeartbeats 2000000 in
set_option maxRecDepth 100000 in
theorem branchDual (lo hi : Nat) (w : World) (v : Value) (b : List Part) (hv : IsB lo hi w v b) (hne : b ≠ []) (hbl : b.length ≤ 1000) (hdl : (dtB b).length ≤ 100000) :
    Calls Try.prog 90 #[v] w fun e w' => e = .returned (.string ⟨(dtB b).toArray⟩) ∧ Below w.heap.size w w' := by
  have hi' : (Try.prog.info? 9).map (fun i => (i.zero, i.size, i.bytes)) = some (some (.string ⟨#[]⟩), 1, 16) := by kernel_rfl
  obtain ⟨i0, hi, hz0, hz1, hz2⟩ := info_parts hi'
  clear hi'
  have hv0 := hv
  obtain ⟨hhi, g, cap, rfl, hlo, hghi, hc⟩ := hv
  have HC := Lib.hid hc
  have HV := Lib.hid hv0
  clear hc hv0
  go_enter Try.func90, Try.ntmps90
  go_wp2_with fail
  go_loopw [3, 5, 8] (fun v _ i wr => ∃ k : Nat, k ≤ b.length ∧ i = .int .i64 k ∧ wr.ownsRow w.heap.size 9 1 v k ((b.take k).map fun p => Value.string (dstr p)) ∧ Below w.heap.size w wr) (fun _ _ i _ => b.length - (intOf i).toNat)
  case atStart => exact ⟨0, by omega, rfl, World.ownsRow_nil _ _ _ _, Below.refl _ _⟩
  case round =>
    obtain ⟨k, hk, rfl, hown, hb⟩ := hrel
    have hsz := hb.size
    by_cases hlt : k < b.length
    · obtain ⟨u, lo', hi', hl, hh, hcell0, hip0⟩ := HC.out k b[k] (List.getElem?_eq_getElem hlt)
      have hcell : wr.cell? ⟨g, k, none⟩ = some u := by rw [hb.cell (p := ⟨g, k, none⟩) (by show g < w.heap.size; omega)]; exact hcell0
      have hip := hip0.keep (KeptIn.of_below hb (by omega))
      clear hcell0 hip0
      have htake : b.take (k + 1) = b.take k ++ [b[k]] := List.take_succ_eq_append_getElem hlt
      have HT := Lib.hid htake
      clear htake
      have key : ∃ T x f, u = .iface T x ∧ (∀ w, (method 255 T x "dropper/loop.dual").run Try.prog w = .ok (f, x) w) ∧ (∀ args w, (callFunc f args).run Try.prog w = .ok (.enter f args) w) ∧ Calls Try.prog f #[x] wr fun e w' => e = .returned (.string (dstr b[k])) ∧ Below wr.heap.size wr w' := by
        rcases hip.2 with ⟨i, hi8, rfl, hpe⟩ | ⟨x, c, rfl, hpe, hic⟩
        · exact ⟨_, _, _, rfl, methLD _, enters_of Try.func161 (by kernel_rfl) rfl, by rw [hpe]; exact (letterDual i hi8 wr).mono fun e w' ⟨h1, h2⟩ => ⟨h1, h2 ▸ Below.refl _ _⟩⟩
        · exact ⟨_, _, _, rfl, methCD _, enters_of Try.func69 (by kernel_rfl) rfl, by rw [hpe]; exact (hic.2 wr (KeptIn.refl _ _ _)).2⟩
      clear hip
      obtain ⟨T, x, f, rfl, hm, he, hcall⟩ := key
      have HCALL := Lib.hid hcall
      clear hcall
      generalize hd : dstr b[k] = d at HCALL
      have HD := Lib.hid hd
      clear hd
      have HOW := Lib.hid hown
      clear hown
      go_wp2_with fail
      refine HCALL.out.mono ?_
      rintro e w1 ⟨rfl, hb1⟩
      have hsz1 := hb1.size
      have HO1 := Lib.hid (HOW.out.kept (grown_none hb1) (Classical.em _))
      have HL := Lib.hid (fun k hk => (HOW.out.lt k hk).1)
      clear HOW
      go_wp2_with (at_builtin; refine wpList_append_own _ rfl _ _ 24 rfl w.heap.size 9 i0 (.string ⟨#[]⟩) 1 16 Try.underlying24 hi hz0 hz1 hz2 rfl (by decide) _ _ _ rfl (HO1.out.alloc _) ⟨w1.heap.size, 0, none⟩ 1 1 [.string d] rfl rfl ?c1 ?c2 ?c3 ?c4 ?c5 ?_)
      case c1 => intro j u hj; match j, hj with | 0, hj => simp at hj; subst hj; exact new_cell _ _ _ 0 _ rfl
      case c2 => intro u hu; simp at hu; subst hu; rfl
      case c3 => unfold maxLen; omega
      case c4 => omega
      case c5 => simp; omega
      intro v' w2 hown' hgrow _
      have HO := Lib.hid hown'
      have HG := Lib.hid hgrow
      clear hown' hgrow HO1
      go_wp2
      go_roundw
      case rel =>
        refine ⟨k + 1, by omega, by go_num, ?_, ?_⟩
        · rw [HT.out, List.map_append, List.map_cons, List.map_nil, HD.out, List.map_take]; exact HO.out
        · exact ((hb.trans (hb1.mono hsz)).alloc (by omega) _).grown HG.out (by simp; omega) HL.out
      case measure => simp [intOf]; omega
    · obtain rfl : k = b.length := by omega
      rw [List.take_length] at hown
      have hpos : b.length ≠ 0 := by have := List.length_pos_iff.2 hne; omega
      obtain ⟨g', cap', cur, rfl, hg', hbg, _⟩ : ∃ g' cap' cur, u3 = .slice (some ⟨g', 0, none⟩) b.length cap' ∧ w.heap.size ≤ g' ∧ wr.heap[g']? = some (.cells cur 9 (0, 0)) ∧ True := by
        rcases hown.2 with ⟨_, h0⟩ | ⟨g, cap, cur, e, h1, h2, _⟩
        · omega
        · exact ⟨g, cap, cur, e, h1, h2, trivial⟩
      have hlt' : g' < wr.heap.size := by
        rcases Nat.lt_or_ge g' wr.heap.size with h' | h'
        · exact h'
        · simp [Array.getElem?_eq_none h'] at hbg
      have ej : Lib.join ((b.map dstr).map (·.data.toList)) [43] = dtB b := by
        rw [List.map_map]; exact join_dt b
      have hcon := Try.strings_Join g' 0 cap' (b.map dstr) ⟨#[43]⟩ wr (by
        intro j x hj
        rw [Nat.zero_add, hown.cellAt j (by have := (List.getElem?_eq_some_iff.1 hj).1; simpa using this)]
        rw [List.getElem?_map] at hj ⊢
        cases hbj : b[j]? with
        | none => rw [hbj] at hj; cases hj
        | some p => rw [hbj] at hj; simp at hj; subst hj; rfl) hlt' (by simp; omega) (by
        rcases hown.2 with ⟨_, h0⟩ | ⟨g, cap, cur, e, h1, h2, h3, _⟩
        · omega
        · injection e with _ _ e; subst e; simpa using h3) (by rw [show (ByteArray.mk #[43]).data.toList = [43] from rfl, ej]; omega)
      rw [show (ByteArray.mk #[43]).data.toList = [43] from rfl, ej, List.length_map] at hcon
      have HCON := Lib.hid hcon
      clear hcon ej hown hbg
      go_wp2_with (go_at_call 101; refine HCON.out.mono ?_; rintro e w1 ⟨rfl, hb1⟩)
      go_ret
      exact ⟨rfl, hb.trans (hb1.mono hsz)⟩

/-! ### wide -/
def Ascii (l : List UInt8) : Prop := ∀ x ∈ l, x.toNat < 128
theorem wideAt_cons (d : Int) (b : UInt8) (r : List UInt8) : wideAt d (b :: r) = if b = 40 then wideAt (d + 1) r else if b = 41 then wideAt (d - 1) r else if b = 43 then (if d = 0 then true else wideAt d r) else wideAt d r := rfl
theorem u8_nat (b : UInt8) (k : Nat) (hk : k < 256) : b = UInt8.ofNat k ↔ b.toNat = k := by
  constructor
  · intro h; subst h; simp [UInt8.toNat_ofNat', Nat.mod_eq_of_lt hk]
  · intro h; subst h; simp

theorem below_iter (w : World) (s : ByteArray) (pos : Nat) : Below w.heap.size w (w.iter s pos) := by
  unfold World.iter
  exact (Below.refl _ _).alloc (Nat.le_refl _) _

set_option maxHeartbeats 2000000 in
set_option maxRecDepth 100000 in
theorem wide_any (s : ByteArray) (hs : s.size ≤ 1000000) (ha : Ascii s.data.toList) (w : World) :
    Calls Try.prog 91 #[.string s] w fun e w' => e = .returned (.bool (wideAt 0 s.data.toList)) ∧ Below w.heap.size w w' := by
  go_enter Try.func91, Try.ntmps91
  go_wp2
  go_loopw [3, 5] (fun d _ wr => ∃ (pos : Nat) (d' : Int), pos ≤ s.size ∧ wr = w.iter s pos ∧ d = .int .i64 d' ∧ -(pos : Int) ≤ d' ∧ d' ≤ pos ∧ wideAt 0 s.data.toList = wideAt d' (s.data.toList.drop pos)) (fun _ _ wr => s.size - wr.iterPos w.heap.size)
  case atStart => exact ⟨0, 0, by omega, rfl, rfl, by omega, by omega, by rw [List.drop_zero]⟩
  case round =>
    obtain ⟨pos, d, hpos, rfl, rfl, hd1, hd2, he⟩ := hrel
    have HE := Lib.hid he
    clear he
    by_cases hp : pos < s.size
    · have hsz : s.data.toList.length = s.size := by simp
      have hdrop : s.data.toList.drop pos = s[pos]'hp :: s.data.toList.drop (pos + 1) := by
        rw [List.drop_eq_getElem_cons (by omega)]; rfl
      have hasc : (s[pos]'hp).toNat < 128 := ha _ (by show s.data.toList[pos]'(by omega) ∈ _; exact List.getElem_mem _)
      have hnx : ∀ ty, (Instr.next (.pointer (some ⟨w.heap.size, 0, none⟩)) true ty).run Try.prog (w.iter s pos) = _ := fun ty => run_next_ascii w s pos ty hp hasc
      have h40 := u8_nat (s[pos]'hp) 40 (by omega)
      have h41 := u8_nat (s[pos]'hp) 41 (by omega)
      have h43 := u8_nat (s[pos]'hp) 43 (by omega)
      rw [hdrop, wideAt_cons] at HE
      generalize s[pos]'hp = x at *
      have HD := Lib.hid hdrop
      have H40 := Lib.hid h40
      have H41 := Lib.hid h41
      have H43 := Lib.hid h43
      clear hdrop h40 h41 h43 ha hsz
      go_wp2
      · have e : x = 40 := H40.out.2 (by have h : ((x.toNat : Int) == 40) = true := (by assumption); simp at h; omega)
        go_roundw
        case rel => exact ⟨pos + 1, d + 1, by omega, rfl, rfl, by omega, by omega, by rw [HE.out, if_pos e]⟩
        case measure => simp; omega
      · have e0 : x ≠ 40 := fun e => by have h : ((x.toNat : Int) == 40) = false := (by assumption); have := H40.out.1 e; simp at h; omega
        have e : x = 41 := H41.out.2 (by have h : ((x.toNat : Int) == 41) = true := (by assumption); simp at h; omega)
        go_roundw
        case rel => exact ⟨pos + 1, d - 1, by omega, rfl, rfl, by omega, by omega, by rw [HE.out, if_neg e0, if_pos e]⟩
        case measure => simp; omega
      · have e0 : x ≠ 40 := fun e => by have h : ((x.toNat : Int) == 40) = false := (by assumption); have := H40.out.1 e; simp at h; omega
        have e1 : x ≠ 41 := fun e => by have h : ((x.toNat : Int) == 41) = false := (by assumption); have := H41.out.1 e; simp at h; omega
        have e : x = 43 := H43.out.2 (by have h : ((x.toNat : Int) == 43) = true := (by assumption); simp at h; omega)
        have ed : d = 0 := by have h : (d == 0) = true := (by assumption); simpa using h
        go_ret
        exact ⟨by rw [HE.out, if_neg e0, if_neg e1, if_pos e, if_pos ed]; rfl, below_iter _ _ _⟩
      · have e0 : x ≠ 40 := fun e => by have h : ((x.toNat : Int) == 40) = false := (by assumption); have := H40.out.1 e; simp at h; omega
        have e1 : x ≠ 41 := fun e => by have h : ((x.toNat : Int) == 41) = false := (by assumption); have := H41.out.1 e; simp at h; omega
        have e : x = 43 := H43.out.2 (by have h : ((x.toNat : Int) == 43) = true := (by assumption); simp at h; omega)
        have ed : ¬ d = 0 := by have h : (d == 0) = false := (by assumption); simpa using h
        go_roundw
        case rel => exact ⟨pos + 1, d, by omega, rfl, rfl, by omega, by omega, by rw [HE.out, if_neg e0, if_neg e1, if_pos e, if_neg ed]⟩
        case measure => simp; omega
      · have e0 : x ≠ 40 := fun e => by have h : ((x.toNat : Int) == 40) = false := (by assumption); have := H40.out.1 e; simp at h; omega
        have e1 : x ≠ 41 := fun e => by have h : ((x.toNat : Int) == 41) = false := (by assumption); have := H41.out.1 e; simp at h; omega
        have e2 : x ≠ 43 := fun e => by have h : ((x.toNat : Int) == 43) = false := (by assumption); have := H43.out.1 e; simp at h; omega
        go_roundw
        case rel => exact ⟨pos + 1, d, by omega, rfl, rfl, by omega, by omega, by rw [HE.out, if_neg e0, if_neg e1, if_neg e2]⟩
        case measure => simp; omega
    · have hnx : ∀ ty, (Instr.next (.pointer (some ⟨w.heap.size, 0, none⟩)) true ty).run Try.prog (w.iter s pos) = _ := fun ty => run_next_end w s pos ty hp
      have hfin : Hid (wideAt 0 s.data.toList = false) := by
        show wideAt 0 s.data.toList = false
        rw [HE.out, List.drop_of_length_le (by have hsz : s.data.toList.length = s.size := by simp
                                               omega)]
        rfl
      clear ha
      go_wp2
      go_ret
      exact ⟨by rw [hfin.out]; rfl, below_iter _ _ _⟩

end Go.Proofs.Ytfoeamgjjhfkdaa
