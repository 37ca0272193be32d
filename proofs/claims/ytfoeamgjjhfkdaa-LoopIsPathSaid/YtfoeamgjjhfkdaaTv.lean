/- plain, Plain, two, Same, Within, Differ. -/
import Derived.Test.YtfoeamgjjhfkdaaTu
namespace Go.Proofs.Ytfoeamgjjhfkdaa
open Go.Shelf Go.RowKit Go.Proofs L9

theorem join_any (v : Value) (l : List (List UInt8)) (sep : ByteArray) (w : World) (hv : StrsR w v l) (hl : l.length ≤ 1000000) (hlen : (Lib.join l sep.data.toList).length ≤ 1000000) :
    Calls Try.prog 101 #[v, .string sep] w fun e w' => e = .returned (.string ⟨(Lib.join l sep.data.toList).toArray⟩) ∧ Below w.heap.size w w' := by
  rcases hv with ⟨rfl, rfl⟩ | ⟨g, cap, rfl, hg, hcap, hc⟩
  · refine (Try.strings_Join_none none 0 sep w).mono ?_
    rintro e w' ⟨he, rfl⟩
    exact ⟨he, Below.refl _ _⟩
  · have e1 : (l.map fun t => (ByteArray.mk t.toArray)).map (·.data.toList) = l := by
      rw [List.map_map]
      conv => rhs; rw [← List.map_id l]
      apply List.map_congr_left
      intro t _
      simp
    have h := Try.strings_Join g 0 cap (l.map fun t => (ByteArray.mk t.toArray)) sep w (by
      intro j x hj
      have hlt : j < l.length := by have := (List.getElem?_eq_some_iff.1 hj).1; simpa using this
      rw [Nat.zero_add, hc j hlt]
      rw [List.getElem?_map, List.getElem?_eq_getElem hlt] at hj
      rw [List.getD_eq_getElem?_getD, List.getElem?_eq_getElem hlt]
      simpa using hj) hg (by simp; omega) (by simpa using hcap) (by rw [e1]; omega)
    rw [e1, List.length_map] at h
    exact h

theorem join_le (sep : List UInt8) (k : Nat) : ∀ l : List (List UInt8), (∀ t ∈ l, t.length ≤ k) → (Lib.join l sep).length ≤ l.length * (k + sep.length) := by
  intro l
  cases l with
  | nil => intro _; simp [Lib.join_nil]
  | cons x r =>
    intro h
    rw [Lib.join_cons, List.length_append]
    have hx := h x (by simp)
    suffices h2 : (Lib.joinTail sep r).length ≤ r.length * (k + sep.length) by
      rw [List.length_cons, Nat.add_mul]; omega
    have hr : ∀ t ∈ r, t.length ≤ k := fun t ht => h t (List.mem_cons_of_mem _ ht)
    clear h hx
    induction r with
    | nil => simp [Lib.joinTail]
    | cons y r ih =>
      have := ih (fun t ht => hr t (List.mem_cons_of_mem _ ht))
      have hy := hr y (by simp)
      simp only [Lib.joinTail, List.map_cons, List.flatten_cons, List.length_append, List.length_cons, Nat.add_mul] at this ⊢
      omega

/-- the plain circuit of a table -/
def plainT (t : Nat → Bool) : List UInt8 := Lib.join ((leastL t).map txt) [43]
theorem plainT_len (t : Nat → Bool) : (plainT t).length ≤ 2304 := by
  unfold plainT
  have h := join_le [43] 8 ((leastL t).map txt) (by
    intro x hx
    obtain ⟨n, _, rfl⟩ := List.mem_map.1 hx
    exact txtTo_len n 8)
  have := leastL_len t
  rw [List.length_map] at h
  simp only [List.length_cons, List.length_nil] at h
  omega
def plainOf (t : Nat → Bool) : List UInt8 × Int :=
  if t 0 || !t 255 then ([], 5) else if 40 < (plainT t).length then ([], 4) else (plainT t, 0)

theorem least_table (p : Value) (t : Nat → Bool) (w : World) (hp : TableAt w p t) :
    Calls Try.prog 59 #[.func (.func 60) #[p] #[]] w fun e w' => ∃ v, e = .returned v ∧ IntsR w' v (leastL t) ∧ Below w.heap.size w w' :=
  least_any 60 p t w (enters_of Try.func60 (by kernel_rfl) rfl) fun w' n hb hn => path_any p t n hn w' (hp.keep hb)

set_option maxRecDepth 100000 in
theorem plainM_any (p : Value) (t : Nat → Bool) (w : World) (hp : TableAt w p t) :
    Calls Try.prog 74 #[p] w fun e w' => e = .returned (.tuple #[.string ⟨(plainOf t).1.toArray⟩, .int .i64 (plainOf t).2]) ∧ Below w.heap.size w w' := by
  have hL := Lib.hid (least_table p t w hp)
  have hp0 := hp
  obtain ⟨b, rfl, hbl, hc⟩ := hp
  have h0 := hc 0 (by omega)
  have h255 := hc 255 (by omega)
  have hmf : ∀ (fn : Fn) (first cap : Array Value) (w : World), (Instr.makeFunc fn first cap).run Try.prog w = .ok (.func fn first cap) w := fun _ _ _ _ => rfl
  clear hc hp0
  cases ht0 : t 0 with
  | true =>
    have hf : plainOf t = ([], 5) := by unfold plainOf; rw [ht0]; rfl
    have HF := Lib.hid hf
    rw [ht0] at h0
    clear hf ht0
    go_enter Try.func74, Try.ntmps74
    go_wp2_with fail
    go_ret2
    rw [HF.out]
    exact ⟨rfl, Below.refl _ _⟩
  | false =>
    cases ht1 : t 255 with
    | false =>
      have hf : plainOf t = ([], 5) := by unfold plainOf; rw [ht0, ht1]; rfl
      have HF := Lib.hid hf
      rw [ht0] at h0
      rw [ht1] at h255
      clear hf ht0 ht1
      go_enter Try.func74, Try.ntmps74
      go_wp2_with fail
      go_ret2
      rw [HF.out]
      exact ⟨rfl, Below.refl _ _⟩
    | true =>
      have hf : plainOf t = if 40 < (plainT t).length then ([], 4) else (plainT t, 0) := by unfold plainOf; rw [ht0, ht1]; rfl
      have HF := Lib.hid hf
      have hpl := plainT_len t
      rw [ht0] at h0
      rw [ht1] at h255
      clear hf ht0 ht1
      go_enter Try.func74, Try.ntmps74
      go_wp2_with fail
      refine hL.out.mono ?_
      rintro e w2 ⟨v, rfl, hv, hb2⟩
      have HT := Lib.hid (texts_any v _ (leastL_len _) (fun n hn => (leastL_mem _ n hn).1) w2 hv)
      have hsz2 := hb2.size
      clear hv
      go_wp2_with fail
      refine HT.out.mono ?_
      rintro e w3 ⟨u, rfl, hu, hb3⟩
      have hsz3 := hb3.size
      have HJ := Lib.hid (join_any u _ ⟨#[43]⟩ w3 hu (by have := leastL_len t; simp; omega) (by show (plainT t).length ≤ _; omega))
      change Hid (Calls Try.prog 101 #[u, .string ⟨#[43]⟩] w3 fun e w' => e = .returned (.string ⟨(plainT t).toArray⟩) ∧ Below w3.heap.size w3 w') at HJ
      clear hu
      generalize plainT t = z at *
      go_wp2_with fail
      refine HJ.out.mono ?_
      rintro e w4 ⟨rfl, hb4⟩
      have hz := bsize z
      by_cases h40 : 40 < z.length
      · rw [if_pos h40] at HF
        go_wp2_with fail
        go_ret2
        rw [HF.out]
        exact ⟨rfl, hb2.trans ((hb3.mono hsz2).trans (hb4.mono (by omega)))⟩
      · rw [if_neg h40] at HF
        go_wp2_with fail
        go_ret2
        rw [HF.out]
        exact ⟨rfl, hb2.trans ((hb3.mono hsz2).trans (hb4.mono (by omega)))⟩

/-- Plain's answers -/
def plainC (s : List UInt8) : List UInt8 × Int := match circ s with
  | none => ([], 90)
  | some c => plainOf (evC c)
theorem plain_any (s : ByteArray) (w : World) (hm : s.size ≤ maxLen) :
    Calls Try.prog 34 #[.string s] w fun e w' => e = .returned (.tuple #[.string ⟨(plainC s.data.toList).1.toArray⟩, .int .i64 (plainC s.data.toList).2]) ∧ Below w.heap.size w w' := by
  have HP := Lib.hid (open_any s w hm)
  have hf : ∀ o, circ s.data.toList = o → plainC s.data.toList = match (motive := Option (List (List Part)) → List UInt8 × Int) o with | none => ([], 90) | some c => plainOf (evC c) := fun o h => by unfold plainC; rw [h]
  have HF := Lib.hid hf
  clear hf
  generalize plainC s.data.toList = z at *
  go_enter Try.func34, Try.ntmps34
  go_wp2_with fail
  refine HP.out.mono ?_
  rintro e w1 ⟨hb, ⟨c, p, ho, rfl, hT⟩ | ⟨ho, rfl⟩⟩
  · have HL := Lib.hid (plainM_any p _ w1 hT)
    have hf := HF.out _ ho
    dsimp only at hf
    rw [← hf] at HL
    have hsz := hb.size
    clear ho hT hf
    go_wp2_with fail
    refine HL.out.mono ?_
    rintro e w2 ⟨rfl, hb2⟩
    go_wp2_with fail
    go_ret2
    exact ⟨rfl, hb.trans (hb2.mono hsz)⟩
  · have hf := Lib.hid (HF.out _ ho)
    clear ho
    go_wp2_with fail
    go_ret2
    rw [hf.out]
    exact ⟨rfl, hb⟩
end Go.Proofs.Ytfoeamgjjhfkdaa
