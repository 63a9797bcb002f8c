import Derived.Test.YtnhpkefjmpgneaaDoorMap
import Derived.RangeFuncGives
import Derived.Sort.MapsRangeIn
namespace Go.Proofs.YtnhpkefjmpgneaaDoor
open Go.RowKit
open Go.ChangeMaps Go.MapKept
set_option linter.unusedSectionVars false

/-! ### a range over a map: whichever order -/
section
variable {P : Program} {K V : Type} [DecidableEq K]
/-- The map in block b holds l; the iterator in block r has given dn. -/
def Ranging (enc : K → Value) (ev : V → Value) (w : World) (b r : Nat) (l dn : List (K × V)) : Prop :=
  ∃ es clock since seen c0 lf, w.heap[b]? = some (.map es clock) ∧ es.toList.map (fun e => (e.key, e.val)) = l.map (fun p => (enc p.1, ev p.2)) ∧ (es.toList.map (·.born)).Pairwise (· < ·) ∧
    w.heap[r]? = some (.mapIter (some b) since seen c0) ∧ (∀ x ∈ es.toList, x.born < since) ∧ since ≤ c0 ∧ since ≤ clock ∧ (leftOf es seen).toList.map (fun e => (e.key, e.val)) = lf.map (fun p => (enc p.1, ev p.2)) ∧ (dn ++ lf).Perm l
variable {enc : K → Value} {ev : V → Value} {w w' : World} {b r : Nat} {l dn : List (K × V)}
theorem Ranging.ne (h : Ranging enc ev w b r l dn) : r ≠ b := by
  obtain ⟨es, clock, since, seen, c0, lf, hb, _, _, hr, _⟩ := h
  rintro rfl
  rw [hr] at hb
  cases hb
theorem Ranging.lt (h : Ranging enc ev w b r l dn) : r < w.heap.size := by
  obtain ⟨es, clock, since, seen, c0, lf, hb, _, _, hr, _⟩ := h
  exact (Array.getElem?_eq_some_iff.1 hr).1
theorem Ranging.ltm (h : Ranging enc ev w b r l dn) : b < w.heap.size := by
  obtain ⟨es, clock, since, seen, c0, lf, hb, _, _, hr, _⟩ := h
  exact (Array.getElem?_eq_some_iff.1 hb).1
theorem Ranging.iter_walk (h : Ranging enc ev w b r l dn) : ∃ o : Obj, w.heap[r]? = some o ∧ o.isWalk = true := by
  obtain ⟨es, clock, since, seen, c0, lf, hb, _, _, hr, _⟩ := h
  exact ⟨_, hr, rfl⟩
theorem Ranging.keep (h : Ranging enc ev w b r l dn) (hb : w'.heap[b]? = w.heap[b]?) (hr : w'.heap[r]? = w.heap[r]?) : Ranging enc ev w' b r l dn := by
  obtain ⟨es, clock, since, seen, c0, lf, h1, h2, h3, h4, h5⟩ := h
  exact ⟨es, clock, since, seen, c0, lf, hb.trans h1, h2, h3, hr.trans h4, h5⟩
theorem Ranging.of_walks (h : Ranging enc ev w b r l dn) (hk : KeepsWalks w w') : Ranging enc ev w' b r l dn := by
  obtain ⟨es, clock, since, seen, c0, lf, h1, h2, h3, h4, h5⟩ := h
  exact ⟨es, clock, since, seen, c0, lf, hk.same _ _ h1 rfl, h2, h3, hk.same _ _ h4 rfl, h5⟩
theorem Ranging.left_eq (h : Ranging enc ev w b r l dn) : w.rangeLeft b r + dn.length = l.length := by
  obtain ⟨es, clock, since, seen, c0, lf, hb, _, _, hr, _, _, _, h5, h6⟩ := h
  have h1 := congrArg List.length h5
  have h2 := h6.length_eq
  simp only [List.length_map, Array.length_toList, List.length_append] at h1 h2
  simp only [World.rangeLeft, hb, hr]
  omega
theorem Ranging.over (h : Ranging enc ev w b r l dn) (h0 : dn.length = l.length) : dn.Perm l := by
  obtain ⟨es, clock, since, seen, c0, lf, hb, _, _, hr, _, _, _, h5, h6⟩ := h
  have h2 := h6.length_eq
  simp only [List.length_append] at h2
  have : lf = [] := List.eq_nil_of_length_eq_zero (by omega)
  subst this
  simpa using h6
theorem ranging_start (h : IsMap enc ev w b l) : ∃ o, (∀ (t k e : TypeId), P.underlying t = some (.map k e) → (Instr.range t (.map (some b))).run P w = .ok (.pointer (some ⟨w.heap.size, 0, none⟩)) (w.alloc o)) ∧ Ranging enc ev (w.alloc o) b w.heap.size l [] ∧ o.isWalk = true := by
  obtain ⟨es, clock, hb, hl, hp, hc⟩ := h.out
  refine ⟨.mapIter (some b) clock #[] clock, fun t k e ht => ?_, ⟨es, clock, clock, #[], clock, l, ?_, hl, hp, heap_new w _, hc, Nat.le_refl _, Nat.le_refl _, ?_, by simp⟩, rfl⟩
  · simp only [Instr.range, Sem.run_bind, run_underlying ht, Result.andThen_ok, MapKept.run_getObj_map hb, Sem.run_pure]
    rfl
  · exact (Below.heap_alloc w _ b h.lt).trans hb
  · rw [← hl]; unfold leftOf; congr 1; simp
theorem map_split {α β : Type} (f : α → β) : ∀ (l : List α) (pre : List β) (y : β) (post : List β), l.map f = pre ++ y :: post → ∃ l1 x l2, l = l1 ++ x :: l2 ∧ l1.map f = pre ∧ f x = y ∧ l2.map f = post
  | [], pre, y, post, h => by simp at h
  | a :: r, [], y, post, h => by simp at h; exact ⟨[], a, r, rfl, rfl, h.1, h.2⟩
  | a :: r, p :: pre, y, post, h => by
    simp at h
    obtain ⟨l1, x, l2, h1, h2, h3, h4⟩ := map_split f r pre y post h.2
    exact ⟨a :: l1, x, l2, by rw [h1]; rfl, by simp [h.1, h2], h3, h4⟩
/-- The step: nothing is left; or one comes. -/
theorem Ranging.next (h : Ranging enc ev w b r l dn) (ty : TypeId) :
    (dn.Perm l ∧ (Instr.next (.pointer (some ⟨r, 0, none⟩)) false ty).run P w = .ok (.tuple #[.bool false]) w) ∨
    ∃ x c w', (Instr.next (.pointer (some ⟨r, 0, none⟩)) false ty).run P w = .ok (.tuple #[.bool true, enc x, ev c]) w' ∧ (x, c) ∈ l ∧ dn.length < l.length ∧ Ranging enc ev w' b r l (dn ++ [(x, c)]) ∧ w.grownBy w' (some r) ∧ w'.heap.size = w.heap.size ∧ (Instr.entry (.pointer (some ⟨r, 0, none⟩))).run P w' = .ok (.tuple #[enc x, ev c]) w' := by
  have hne := h.ne
  have hlq := h.left_eq
  have hov := h.over
  obtain ⟨es, clock, since, seen, c0, lf, hb, hl, hp, hr, hold, hsc, hsk, hlf, hpm⟩ := h
  rcases run_next_at (P := P) w ty r b since c0 seen es clock hr hb hold hsc with ⟨h0, hrun⟩ | ⟨e, he, w1, hal, hrun⟩
  · refine .inl ⟨hov ?_, hrun⟩
    simp only [World.rangeLeft, hb, hr] at hlq
    omega
  · obtain ⟨hem, hes⟩ := mem_left he
    have hr1 : w1.heap[r]? = some (.mapIter (some b) since seen c0) := by rcases hal with rfl | rfl <;> exact hr
    have hb1 : w1.heap[b]? = some (.map es clock) := by rcases hal with rfl | rfl <;> exact hb
    have hset := heap_set (o' := .mapIter (some b) since (seen.push e.born) clock) hr1
    have hb' : (setBlock w1 r (.mapIter (some b) since (seen.push e.born) clock)).heap[b]? = some (.map es clock) := (hset.2 b (fun e1 => hne e1.symm)).trans hb1
    have hnd : (es.toList.map (·.born)).Nodup := hp.imp (fun h => Nat.ne_of_lt h)
    obtain ⟨L1, L2, hL⟩ := List.append_of_mem he
    have hlf' := hlf
    rw [hL, List.map_append, List.map_cons] at hlf'
    obtain ⟨l1, ⟨x, c⟩, l2, rfl, h1, h2, h3⟩ := map_split _ lf _ _ _ hlf'.symm
    simp only [Prod.mk.injEq] at h2
    have hleft : (leftOf es (seen.push e.born)).toList = L1 ++ L2 := by
      have hsub : (leftOf es seen).toList.Sublist es.toList := by unfold leftOf; rw [Array.toList_filter]; exact List.filter_sublist
      have hnl : ((leftOf es seen).toList.map (·.born)).Nodup := hnd.sublist (hsub.map _)
      have : (leftOf es (seen.push e.born)).toList = (leftOf es seen).toList.filter (fun y => !(y.born == e.born)) := by
        unfold leftOf
        rw [Array.toList_filter, Array.toList_filter, List.filter_filter]
        congr 1
        funext y
        have : (seen.push e.born).contains y.born = (seen.contains y.born || y.born == e.born) := by
          rw [Array.contains_push]
        rw [this]
        cases seen.contains y.born <;> cases (y.born == e.born) <;> rfl
      rw [this, hL, List.filter_append, List.filter_cons]
      rw [hL, List.map_append, List.map_cons] at hnl
      have hn2 := List.nodup_append.1 hnl
      have e1 : L1.filter (fun y => !(y.born == e.born)) = L1 := List.filter_eq_self.2 fun y hy => by
        have := hn2.2.2 y.born (List.mem_map.2 ⟨y, hy, rfl⟩) e.born (by simp)
        simpa using this
      have e2 : L2.filter (fun y => !(y.born == e.born)) = L2 := List.filter_eq_self.2 fun y hy => by
        have := (List.nodup_cons.1 hn2.2.1).1
        simp only [List.mem_map, not_exists, not_and] at this
        simpa using this y hy
      simp [e1, e2]
    have hpm' : (dn ++ [(x, c)] ++ (l1 ++ l2)).Perm l := by
      refine List.Perm.trans ?_ hpm
      rw [List.append_assoc]
      exact List.Perm.append_left _ (by simpa using (List.perm_middle (a := (x, c)) (l₁ := l1) (l₂ := l2)).symm)
    refine .inr ⟨x, c, _, by rw [← h2.1, ← h2.2] at hrun; exact hrun, hpm.mem_iff.1 (by simp), ?_, ⟨es, clock, since, seen.push e.born, clock, l1 ++ l2, hb', hl, hp, hset.1, hold, hsk, hsk, ?_, hpm'⟩, ?_, ?_, ?_⟩
    · have := hpm.length_eq; simp at this; omega
    · rw [hleft, List.map_append, List.map_append, h1, h3]
    · rcases hal with rfl | rfl <;> exact ⟨rfl, rfl, rfl, by simp [setBlock], fun i _ hi => hset.2 i (fun e1 => hi (by rw [e1]))⟩
    · rcases hal with rfl | rfl <;> simp [setBlock]
    · have := run_entry_at (P := P) _ r b since seen es clock e hset.1 hb' hem hnd
      rw [← h2.1, ← h2.2] at this
      exact this
variable {ops : Array Oper} {rest : List Oper} {o : Oper} {a : Act} {Q : Exit → Act → World → Prop}
theorem wpList_range_is (hg : o.guard = none) (m : Operand) (t : TypeId) (hop : o.op = Op.range t m) (k e : TypeId) (ht : P.underlying t = some (.map k e)) (hm : a.eval m = .map (some b)) (h : IsMap enc ev w b l)
    (hK : ∀ w', Ranging enc ev w' b w.heap.size l [] → w.grownBy w' none → w'.heap.size = w.heap.size + 1 → wpList P ops Q rest (a.put o.dst (.pointer (some ⟨w.heap.size, 0, none⟩))) w') :
    wpList P ops Q (o :: rest) a w := by
  refine wpList_plain hg fun K' hK' => ?_
  obtain ⟨ob, hrun, hr, _⟩ := ranging_start (P := P) h
  unfold Oper.wp
  simp [execOp, hop, hm, hrun t k e ht, Result.andThen]
  exact hK' _ _ (hK _ hr ⟨rfl, rfl, rfl, by simp, fun i hi _ => Below.heap_alloc _ _ _ hi⟩ (by simp))
theorem wpListIn_range_is {F : Fence} {n : Nat} (hg : o.guard = none) (m : Operand) (t : TypeId) (hop : o.op = Op.range t m) (k e : TypeId) (ht : P.underlying t = some (.map k e)) (hm : a.eval m = .map (some b)) (h : IsMap enc ev w b l)
    (hK : ∀ w', Ranging enc ev w' b w.heap.size l [] → w.grownBy w' none → w'.heap.size = w.heap.size + 1 → wpListIn F n P ops Q rest (a.put o.dst (.pointer (some ⟨w.heap.size, 0, none⟩))) w') :
    wpListIn F n P ops Q (o :: rest) a w := by
  refine wpListIn_plain hg fun K' hK' => ?_
  obtain ⟨ob, hrun, hr, _⟩ := ranging_start (P := P) h
  unfold Oper.wpIn
  refine ⟨by simp [Oper.about, hop], ?_⟩
  rw [Oper.semAt_plain F _ _ (by rw [hop]; intro c hc'; cases hc')]
  simp [execOp, hop, hm, hrun t k e ht, Result.andThen]
  exact hK' _ _ (hK _ hr ⟨rfl, rfl, rfl, by simp, fun i hi _ => Below.heap_alloc _ _ _ hi⟩ (by simp))
theorem wpList_next_is (hg : o.guard = none) (it : Operand) (hop : o.op = Op.next it false) (hit : a.eval it = .pointer (some ⟨r, 0, none⟩)) (h : Ranging enc ev w b r l dn)
    (hDone : dn.Perm l → wpList P ops Q rest (a.put o.dst (.tuple #[.bool false])) w)
    (hMore : ∀ x c w', (x, c) ∈ l → dn.length < l.length → Ranging enc ev w' b r l (dn ++ [(x, c)]) → w.grownBy w' (some r) → w'.heap.size = w.heap.size → (Instr.entry (.pointer (some ⟨r, 0, none⟩))).run P w' = .ok (.tuple #[enc x, ev c]) w' → wpList P ops Q rest (a.put o.dst (.tuple #[.bool true, enc x, ev c])) w') :
    wpList P ops Q (o :: rest) a w := by
  refine wpList_plain hg fun K' hK' => ?_
  unfold Oper.wp
  rcases h.next (P := P) o.type with ⟨h0, hrun⟩ | ⟨x, c, w', hrun, h1, h2, h3, h4, h5, h6⟩
  · simp [execOp, hop, hit, hrun, Result.andThen]
    exact hK' _ _ (hDone h0)
  · simp [execOp, hop, hit, hrun, Result.andThen]
    exact hK' _ _ (hMore x c w' h1 h2 h3 h4 h5 h6)
theorem wpListIn_next_is {F : Fence} {n : Nat} (hg : o.guard = none) (it : Operand) (hop : o.op = Op.next it false) (hit : a.eval it = .pointer (some ⟨r, 0, none⟩)) (h : Ranging enc ev w b r l dn)
    (hDone : dn.Perm l → wpListIn F n P ops Q rest (a.put o.dst (.tuple #[.bool false])) w)
    (hMore : ∀ x c w', (x, c) ∈ l → dn.length < l.length → Ranging enc ev w' b r l (dn ++ [(x, c)]) → w.grownBy w' (some r) → w'.heap.size = w.heap.size → (Instr.entry (.pointer (some ⟨r, 0, none⟩))).run P w' = .ok (.tuple #[enc x, ev c]) w' → wpListIn F n P ops Q rest (a.put o.dst (.tuple #[.bool true, enc x, ev c])) w') :
    wpListIn F n P ops Q (o :: rest) a w := by
  refine wpListIn_plain hg fun K' hK' => ?_
  unfold Oper.wpIn
  refine ⟨by simp [Oper.about, hop], ?_⟩
  rw [Oper.semAt_plain F _ _ (by rw [hop]; intro c hc'; cases hc')]
  rcases h.next (P := P) o.type with ⟨h0, hrun⟩ | ⟨x, c, w', hrun, h1, h2, h3, h4, h5, h6⟩
  · simp [execOp, hop, hit, hrun, Result.andThen]
    exact hK' _ _ (hDone h0)
  · simp [execOp, hop, hit, hrun, Result.andThen]
    exact hK' _ _ (hMore x c w' h1 h2 h3 h4 h5 h6)
end
end Go.Proofs.YtnhpkefjmpgneaaDoor
