import Derived.Test.YtnhpkefjmpgneaaDoorBase
namespace Go.Proofs.YtnhpkefjmpgneaaDoor
open Go.RowKit

/-! ### draws are only ever made -/
theorem ask_drawn {α : Type} (q : Ask α) (w : World) : w.drawn ≤ (w.ask q).2.drawn := by
  induction q generalizing w with
  | done a => exact Nat.le_refl _
  | ask what range k ih =>
    unfold World.ask
    dsimp only
    split
    · exact ih 0 w
    · exact Nat.le_trans (Nat.le_succ _) (ih _ { w with drawn := w.drawn + 1 })
theorem sys_drawn (w : World) (c : Sys) : w.drawn ≤ (w.sys c).2.drawn := by
  have h := ask_drawn (Kernel.perform c w.os) w
  unfold World.sys
  split
  · exact Nat.le_refl _
  · rename_i heq
    rw [heq] at h
    exact h
theorem except_bind_ok {ε α β : Type} {x : Except ε α} {f : α → Except ε β} {b : β} (h : (x >>= f) = .ok b) : ∃ a, x = .ok a ∧ f a = .ok b := by
  cases x with
  | error e => cases h
  | ok a => exact ⟨a, rfl, h⟩
theorem viewStore_drawn {P : Program} {w w' : World} {at_ : Addr} {u : TypeId} {k : Addr} {v : Value} {at2 : Bool} {l : List Addr} (h : w.viewStore P at_ u k v at2 = .ok (w', l)) : w'.drawn = w.drawn := by
  unfold World.viewStore at h
  repeat' first
    | (obtain ⟨_, _, h⟩ := except_bind_ok h)
    | (cases h; rfl)
    | (cases h; done)
    | split at h
theorem farStore_drawn {P : Program} {w w' : World} {a : Addr} {v : Value} {at2 : Bool} {l : List Addr} (h : w.farStore P a v at2 = .ok (w', l)) : w'.drawn = w.drawn := by
  unfold World.farStore at h
  split at h
  · split at h
    · rename_i r hr
      cases h
      exact viewStore_drawn hr
    · cases h
  · cases h
theorem run_drawn {α : Type} {P : Program} (s : Sem α) : ∀ {w w' : World} {v : α}, s.run P w = .ok v w' → w.drawn ≤ w'.drawn := by
  induction s with
  | pure a => intro w w' v h; simp only [Sem.run] at h; cases h; exact Nat.le_refl _
  | load m a k ih =>
    intro w w' v h
    simp only [Sem.run] at h
    split at h
    · exact ih _ h
    · split at h
      · exact ih _ h
      · cases h
  | store m a x k ih =>
    intro w w' v h
    cases x
    all_goals
      simp only [Sem.run] at h
      first
        | (cases h; done)
        | (split at h
           · split at h
             · cases h
             · exact ih (w := w.setCell a _) h
           · split at h
             · rename_i hf
               have := farStore_drawn hf
               rw [← this]
               exact ih h
             · cases h)
  | new o k ih => intro w w' v h; simp only [Sem.run] at h; exact ih _ (w := { w with heap := w.heap.push o }) h
  | shape r k ih => intro w w' v h; simp only [Sem.run] at h; exact ih _ h
  | freeze a n k ih =>
    intro w w' v h
    simp only [Sem.run] at h
    have h2 : (w.freeze a n).drawn = w.drawn := by unfold World.freeze; split <;> rfl
    rw [← h2]
    exact ih h
  | frozen a k ih => intro w w' v h; simp only [Sem.run] at h; exact ih _ h
  | getObj r k ih =>
    intro w w' v h
    simp only [Sem.run] at h
    split at h
    · cases h
    · exact ih _ h
    · cases h
  | setObj r o k ih =>
    intro w w' v h
    simp only [Sem.run] at h
    split at h
    · cases h
    · exact ih (w := { w with heap := w.heap.setIfInBounds r o }) h
    · cases h
  | choose q k ih =>
    intro w w' v h
    simp only [Sem.run] at h
    split at h
    · exact ih _ h
    · exact Nat.le_trans (Nat.le_succ _) (ih _ (w := { w with drawn := w.drawn + 1 }) h)
  | sys c k ih =>
    intro w w' v h
    simp only [Sem.run] at h
    exact Nat.le_trans (sys_drawn w c) (ih _ h)
  | program k ih => intro w w' v h; simp only [Sem.run] at h; exact ih _ h
  | mark m k ih => intro w w' v h; simp only [Sem.run] at h; exact ih h
  | halt x => intro w w' v h; simp only [Sem.run] at h; cases h
/-- append onto a row of one's own; draws are only made. -/
theorem wpList_append_d {P : Program} {w : World} {ops : Array Oper} {rest : List Oper} {o : Oper} {a : Act} {Q : Exit → Act → World → Prop} (hgd : o.guard = none) (s x : Operand) (t : TypeId)
    (ho : o.op = .call { callee := .builtin .append, args := #[s, x], argTypes := #[t, t] })
    (base : Nat) (e : TypeId) (i : TypeInfo) (z : Value) (size bytes : Nat) (ht : P.underlying t = some (.slice e)) (hi : P.info? e = some i) (hz : i.zero = some z)
    (hsize : i.size = size) (hby : i.bytes = bytes) (hzs : z.cells.size = size) (hsz : 0 < size)
    (v : Value) (n : Nat) (xs : List Value) (hs : a.eval s = v) (hown : w.ownsRow base e size v n xs)
    (ad : Addr) (m c : Nat) (news : List Value) (hx : a.eval x = .slice (some ad) m c) (hl : news.length = m * size) (hnews : ∀ j u, news[j]? = some u → w.cell? (ad.add j) = some u) (h1 : ∀ u ∈ news, u.oneCell' = true)
    (h63 : n + m ≤ maxLen) (hbytes : (n + m) * bytes ≤ 140737488355328) (hbase : base ≤ w.heap.size)
    (h : ∀ v' w', w'.ownsRow base e size v' (n + m) (xs ++ news) → w.grownBy w' v.ownBlock → w.drawn ≤ w'.drawn → wpList P ops Q rest (a.put o.dst v') w') : wpList P ops Q (o :: rest) a w := by
  obtain ⟨v', w', hr, h2, h3, _, _⟩ := run_append_own_at (P := P) w base t o.type e i z size bytes ht hi hz hsize hby hzs hsz v n xs hown ad m c news hl hnews h1 h63 hbytes hbase
  refine wpList_plain hgd fun K hK => ?_
  unfold Oper.wp execOp
  simp only [ho, resolve, invoke, builtin, Sem.run_bind, Sem.run_pure, Result.andThen_ok, List.map_toArray, List.map_cons, List.map_nil, hs, hx, hr]
  exact hK _ _ (h v' w' h2 h3 (run_drawn _ hr))
/-- As Ret, and draws were only made. -/
def RetD (w : World) (v : Value) (e : Ending) (w' : World) : Prop := e = .returned v ∧ Below w.heap.size w w' ∧ w.drawn ≤ w'.drawn
end Go.Proofs.YtnhpkefjmpgneaaDoor
