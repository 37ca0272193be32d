/- How often the tape is asked never falls. -/
import Derived.Laws.AppendOwn
import Derived.WalkKit
import Derived.Below
namespace Go.Proofs.Ytfoeamgjjhfkdaa
open Go
open Go.RowKit
theorem viewStore_drawn {w w' : World} {P : Program} {at_ : Addr} {u : TypeId} {a : Addr} {v : Value} {x : Bool} {l} (h : w.viewStore P at_ u a v x = .ok (w', l)) : w'.drawn = w.drawn := by
  unfold World.viewStore at h
  simp only [bind, Except.bind, pure, Except.pure] at h
  repeat' (split at h)
  all_goals first
    | (cases h; done)
    | (simp only [Except.ok.injEq, Prod.mk.injEq] at h; rw [← h.1])
theorem farStore_drawn {w w' : World} {P : Program} {a : Addr} {v : Value} {x : Bool} {l} (h : w.farStore P a v x = .ok (w', l)) : w'.drawn = w.drawn := by
  unfold World.farStore at h
  split at h
  · split at h
    · rename_i e; cases h; exact viewStore_drawn e
    · cases h
  · cases h
theorem ask_drawn {α : Type} (k : Ask α) : ∀ w : World, w.drawn ≤ (w.ask k).2.drawn := by
  induction k with
  | done a => intro w; exact Nat.le_refl _
  | ask what range k ih =>
    intro w
    simp only [World.ask]
    split
    · exact ih _ _
    · have := ih (Question.cut (Question.extern what range) (w.tape w.drawn (Question.extern what range))) { w with drawn := w.drawn + 1 }
      simp only at this ⊢
      omega
theorem sys_drawn (w : World) (c : Sys) : w.drawn ≤ (w.sys c).2.drawn := by
  unfold World.sys
  have h := ask_drawn (Kernel.perform c w.os) w
  split
  · exact Nat.le_refl _
  · rename_i e; rw [e] at h; exact h
theorem run_drawn {P : Program} {α : Type} (s : Sem α) : ∀ (w : World) (v : α) (w' : World), s.run P w = .ok v w' → w.drawn ≤ w'.drawn := by
  induction s with
  | pure a => intro w v w' h; simp only [Sem.run, Result.ok.injEq] at h; rw [h.2]; exact Nat.le_refl _
  | load m a k ih =>
    intro w v w' h; simp only [Sem.run] at h
    split at h
    · exact ih _ _ _ _ h
    · split at h
      · exact ih _ _ _ _ h
      · cases h
  | store m a v k ih =>
    intro w u w' h
    cases v <;> simp only [Sem.run] at h <;> first
      | (cases h; done)
      | (split at h
         · split at h
           · cases h
           · exact ih (w.setCell a _) _ _ h
         · split at h
           · rename_i e; have := ih _ _ _ h; rw [farStore_drawn e] at this; exact this
           · cases h)
  | new o k ih => intro w v w' h; simp only [Sem.run] at h; exact ih w.heap.size { w with heap := w.heap.push o } _ _ h
  | shape r k ih => intro w v w' h; simp only [Sem.run] at h; exact ih _ _ _ _ h
  | freeze a n k ih => intro w v w' h; simp only [Sem.run] at h; have := ih _ _ _ h; unfold World.freeze at this; split at this <;> exact this
  | frozen a k ih => intro w v w' h; simp only [Sem.run] at h; exact ih _ _ _ _ h
  | getObj r k ih =>
    intro w v w' h; simp only [Sem.run] at h
    split at h
    · cases h
    · exact ih _ _ _ _ h
    · cases h
  | setObj r o k ih =>
    intro w v w' h; simp only [Sem.run] at h
    split at h
    · cases h
    · exact ih { w with heap := w.heap.setIfInBounds r o } _ _ h
    · cases h
  | choose q k ih =>
    intro w v w' h; simp only [Sem.run] at h
    split at h
    · exact ih _ _ _ _ h
    · have := ih _ { w with drawn := w.drawn + 1 } _ _ h; simp only at this; omega
  | sys c k ih => intro w v w' h; simp only [Sem.run] at h; exact Nat.le_trans (sys_drawn w c) (ih _ _ _ _ h)
  | program k ih => intro w v w' h; simp only [Sem.run] at h; exact ih _ _ _ _ h
  | mark m k ih => intro w v w' h; simp only [Sem.run] at h; exact ih _ _ _ h
  | halt x => intro w v w' h; simp only [Sem.run] at h; cases h

theorem wpList_append_own_d {P : Program} {w : World} {ops : Array Oper} {rest : List Oper} {o : Oper} {a : Act} {Q : Exit → Act → World → Prop} (hgd : o.guard = none) (s x : Operand) (t : TypeId)
    (ho : o.op = .call { callee := .builtin .append, args := #[s, x], argTypes := #[t, t] })
    (base : Nat) (e : TypeId) (i : TypeInfo) (z : Value) (size bytes : Nat) (ht : P.underlying t = some (.slice e)) (hi : P.info? e = some i) (hz : i.zero = some z)
    (hsize : i.size = size) (hby : i.bytes = bytes) (hzs : z.cells.size = size) (hsz : 0 < size)
    (v : Value) (n : Nat) (xs : List Value) (hs : a.eval s = v) (hown : w.ownsRow base e size v n xs)
    (ad : Addr) (m c : Nat) (news : List Value) (hx : a.eval x = .slice (some ad) m c) (hl : news.length = m * size) (hnews : ∀ j u, news[j]? = some u → w.cell? (ad.add j) = some u) (h1 : ∀ u ∈ news, u.oneCell' = true)
    (h63 : n + m ≤ maxLen) (hbytes : (n + m) * bytes ≤ 140737488355328) (hbase : base ≤ w.heap.size)
    (h : ∀ v' w', w'.ownsRow base e size v' (n + m) (xs ++ news) → w.grownBy w' v.ownBlock → w.drawn ≤ w'.drawn → wpList P ops Q rest (a.put o.dst v') w') : wpList P ops Q (o :: rest) a w :=
  wpList_plain hgd fun _ hK => by
    obtain ⟨v', w', hr, h2, h3, _⟩ := run_append_own w base t o.type e i z size bytes ht hi hz hsize hby hzs hsz v n xs hown ad m c news hl hnews h1 h63 hbytes hbase
    unfold Oper.wp execOp
    simp only [ho, resolve, invoke, builtin, Sem.run_bind, Sem.run_pure, Result.andThen_ok, List.map_toArray, List.map_cons, List.map_nil, hs, hx, hr]
    exact hK _ _ (h v' w' h2 h3 (run_drawn _ _ _ _ hr))
end Go.Proofs.Ytfoeamgjjhfkdaa
