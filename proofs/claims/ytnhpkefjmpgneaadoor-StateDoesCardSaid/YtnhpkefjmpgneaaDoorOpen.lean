import Derived.Test.YtnhpkefjmpgneaaDoorKit
import Derived.Test.YtnhpkefjmpgneaaDoorGreat
namespace Go.Proofs.YtnhpkefjmpgneaaDoor
open Go.ChangeShapes Go.WideShapes Go.ChangeAt Go.RowKit Go.Joins Go.Deep

/-! ### arguments that are slices of structs -/
section
variable {H : Type} {enc : TypeId × Value → H} {P : Program} {w : World} {base : Nat} {spare : Nat → Bool} {held : Bool}
/-- A slice of structs of one-cell fields: each element's cells, each field's reading. -/
theorem open_rows {t e : TypeId} {fs : Array Field} {fuel len cap : Nat} {a0 : Option Addr} {x : DataW H × List MemPlace} (ht : P.underlying t = some (.slice e)) (he : P.underlying e = some (.struct fs))
    (hone : oneCellFields P fs = true) (hC : P.cellsOf e = fs.size) (h : DataW.trod enc P w base spare held fuel t [.slice a0 len cap] = some x) :
    len ≤ maxLen ∧ (len = 0 ∨ ∃ a, a0 = some a ∧ ∀ i, i < len → ∃ n : Nat, ∀ (j : Nat) (f : Field), fs[j]? = some f → ∃ (v : Value) (y : DataW H × List MemPlace), w.cell? (a.add (i * fs.size + j)) = some v ∧ DataW.trod enc P w base spare held n f.type [v] = some y) := by
  rcases open_slice ht h with ⟨h0, -⟩ | ⟨a, len', cap', m, n, D, Pl, hcs, hb, hl, hm, hmm, hx, hi⟩
  · simp only [List.cons.injEq, Value.slice.injEq, and_true] at h0
    obtain ⟨rfl, rfl, rfl⟩ := h0
    exact ⟨Nat.zero_le _, .inl rfl⟩
  · simp only [List.cons.injEq, Value.slice.injEq, and_true] at hcs
    obtain ⟨rfl, rfl, rfl⟩ := hcs
    refine ⟨Nat.le_trans hl hm, .inr ⟨a, rfl, fun i him => ?_⟩⟩
    have him2 : i < m := by rw [hmm]; split <;> omega
    obtain ⟨cs', hc, ht'⟩ := hi i him2
    rw [hC] at hc
    obtain ⟨ys, n', hn', hy, hlen, hyl, hf⟩ := DataW.trod_struct he ht'
    obtain ⟨_, hcl, hat⟩ := World.cells?_some hc
    refine ⟨n', fun j f hj => ?_⟩
    obtain ⟨ho, hk⟩ := hone_of hone j f hj
    have hjl : j < fs.size := (Array.getElem?_eq_some_iff.1 hj).1
    have hcell := hat j hjl
    have hv : cs'[j]? = some (cs'[j]'(by omega)) := List.getElem?_eq_getElem (by omega)
    have h1 := hf j f hj
    rw [ho, hk] at h1
    have hone' : (cs'.drop j).take 1 = [cs'[j]'(by omega)] := by
      rw [List.drop_eq_getElem_cons (by omega)]
      rfl
    rw [hone'] at h1
    have hys : ys[j]? = some (ys[j]'(by omega)) := List.getElem?_eq_getElem (by omega)
    refine ⟨_, _, ?_, h1.trans hys⟩
    rw [← Go.Deep.add_add, hcell, hv]
end
theorem list_of {α : Type} (Q : Nat → α → Prop) : ∀ n : Nat, (∀ i, i < n → ∃ x, Q i x) → ∃ l : List α, l.length = n ∧ ∀ i x, l[i]? = some x → Q i x
  | 0, _ => ⟨[], rfl, fun i x h => by simp at h⟩
  | n + 1, h => by
    obtain ⟨l, hl, hq⟩ := list_of Q n fun i hi => h i (by omega)
    obtain ⟨x, hx⟩ := h n (by omega)
    refine ⟨l ++ [x], by simp [hl], fun i y hy => ?_⟩
    by_cases hi : i < l.length
    · rw [List.getElem?_append_left hi] at hy
      exact hq i y hy
    · rw [List.getElem?_append_right (by omega)] at hy
      have h0 : i - l.length = 0 := by
        have := (List.getElem?_eq_some_iff.1 hy).1
        simp at this
        omega
      rw [h0] at hy
      simp at hy
      subst hy
      rw [show i = n from by omega]
      exact hx
theorem wf_i64 {z : Int} (h : (Lit.int .i64 z).wf = true) : I64 z := by
  have e1 : IntKind.i64.min = -9223372036854775808 := rfl
  have e2 : IntKind.i64.max = 9223372036854775807 := rfl
  simp [Lit.wf, e1, e2] at h
  unfold I64
  omega
theorem structAcc : ∃ f0 f1, Tryd.prog.underlying 77 = some (.struct #[f0, f1]) ∧ oneCellFields Tryd.prog #[f0, f1] = true ∧ f0.type = 9 ∧ f1.type = 2 :=
  ⟨_, _, Tryd.underlying77, by kernel_rfl, rfl, rfl⟩
theorem structTx : ∃ f0 f1 f2 f3 f4 f5 f6, Tryd.prog.underlying 25 = some (.struct #[f0, f1, f2, f3, f4, f5, f6]) ∧ oneCellFields Tryd.prog #[f0, f1, f2, f3, f4, f5, f6] = true ∧ f0.type = 3 ∧ f1.type = 9 ∧ f2.type = 9 ∧ f3.type = 9 ∧ f4.type = 9 ∧ f5.type = 2 ∧ f6.type = 2 :=
  ⟨_, _, _, _, _, _, _, Tryd.underlying25, by kernel_rfl, rfl, rfl, rfl, rfl, rfl, rfl, rfl⟩
variable {H : Type} {enc : TypeId × Value → H} {w : World} {base : Nat} {spare : Nat → Bool} {held : Bool}
set_option maxRecDepth 100000 in
theorem open_accounts {r : Reach} {b0 : Nat} {v : Value} {d : DataW H} {p : List MemPlace} (hv : Value.okWide Tryd.prog w r b0 22 v) (h : DataW.Trod enc Tryd.prog w base spare held 22 v d p) :
    ∃ (l : List (ByteArray × Int)) (A0 : Option Addr) (c : Nat), v = .slice A0 l.length c ∧ ReadsN w A0 2 (l.map acct) ∧ ∀ x ∈ l, I64 x.2 := by
  obtain ⟨a0, len, cap, rfl⟩ := okWide_slice Tryd.underlying22 hv
  obtain ⟨fuel, hf⟩ := h
  obtain ⟨f0, f1, hs, hone, t0, t1⟩ := structAcc
  obtain ⟨hm, hh⟩ := open_rows Tryd.underlying22 hs hone (by kernel_rfl) (show DataW.trod enc Tryd.prog w base spare held fuel 22 [.slice a0 len cap] = some (d, p) from hf)
  unfold maxLen at hm
  rcases hh with rfl | ⟨a, rfl, hi⟩
  · exact ⟨[], a0, cap, rfl, ⟨by simp, fun h => by simp at h⟩, fun x hx => by simp at hx⟩
  · obtain ⟨l, hl, hq⟩ := list_of (fun i (x : ByteArray × Int) => w.cell? (a.add (i * 2 + 0)) = some (.string x.1) ∧ w.cell? (a.add (i * 2 + 1)) = some (.int .i64 x.2) ∧ I64 x.2) len fun i him => by
      obtain ⟨n, hj⟩ := hi i him
      obtain ⟨v0, y0, k0, g0⟩ := hj 0 f0 rfl
      obtain ⟨v1, y1, k1, g1⟩ := hj 1 f1 rfl
      rw [t0] at g0; rw [t1] at g1
      obtain ⟨s0, e0, -⟩ := DataW.trod_string Tryd.underlying9 g0
      obtain ⟨z1, e1, -, hw⟩ := DataW.trod_int Tryd.underlying2 g1
      simp only [List.cons.injEq, and_true] at e0 e1
      subst e0 e1
      exact ⟨(s0, z1), k0, k1, wf_i64 hw⟩
    refine ⟨l, some a, cap, by rw [hl], ⟨by simp; omega, fun _ => ⟨a, rfl, fun k cs hk j u hj => ?_⟩⟩, fun x hx => ?_⟩
    · rw [List.getElem?_map, Option.map_eq_some_iff] at hk
      obtain ⟨x, hx, rfl⟩ := hk
      obtain ⟨q0, q1, -⟩ := hq k x hx
      match j, hj with
      | 0, hj => simp [acct] at hj; rw [← hj]; exact q0
      | 1, hj => simp [acct] at hj; rw [← hj]; exact q1
      | j + 2, hj => simp [acct] at hj
    · obtain ⟨i, hi2, rfl⟩ := List.getElem_of_mem hx
      exact (hq i _ (List.getElem?_eq_getElem hi2)).2.2
set_option maxRecDepth 100000 in
theorem open_txs {r : Reach} {b0 : Nat} {v : Value} {d : DataW H} {p : List MemPlace} (hv : Value.okWide Tryd.prog w r b0 23 v) (h : DataW.Trod enc Tryd.prog w base spare held 23 v d p) :
    ∃ (l : List Tx) (A0 : Option Addr) (c : Nat), v = .slice A0 l.length c ∧ ReadsN w A0 7 (l.map txList) := by
  obtain ⟨a0, len, cap, rfl⟩ := okWide_slice Tryd.underlying23 hv
  obtain ⟨fuel, hf⟩ := h
  obtain ⟨f0, f1, f2, f3, f4, f5, f6, hs, hone, t0, t1, t2, t3, t4, t5, t6⟩ := structTx
  obtain ⟨hm, hh⟩ := open_rows Tryd.underlying23 hs hone (by kernel_rfl) (show DataW.trod enc Tryd.prog w base spare held fuel 23 [.slice a0 len cap] = some (d, p) from hf)
  unfold maxLen at hm
  rcases hh with rfl | ⟨a, rfl, hi⟩
  · exact ⟨[], a0, cap, rfl, ⟨by simp, fun h => by simp at h⟩⟩
  · obtain ⟨l, hl, hq⟩ := list_of (fun i (x : Tx) => ∀ j u, (txList x)[j]? = some u → w.cell? (a.add (i * 7 + j)) = some u) len fun i him => by
      obtain ⟨n, hj⟩ := hi i him
      obtain ⟨v0, y0, k0, g0⟩ := hj 0 f0 rfl
      obtain ⟨v1, y1, k1, g1⟩ := hj 1 f1 rfl
      obtain ⟨v2, y2, k2, g2⟩ := hj 2 f2 rfl
      obtain ⟨v3, y3, k3, g3⟩ := hj 3 f3 rfl
      obtain ⟨v4, y4, k4, g4⟩ := hj 4 f4 rfl
      obtain ⟨v5, y5, k5, g5⟩ := hj 5 f5 rfl
      obtain ⟨v6, y6, k6, g6⟩ := hj 6 f6 rfl
      rw [t0] at g0; rw [t1] at g1; rw [t2] at g2; rw [t3] at g3; rw [t4] at g4; rw [t5] at g5; rw [t6] at g6
      obtain ⟨z0, e0, -, -⟩ := DataW.trod_int Tryd.underlying3 g0
      obtain ⟨z5, e5, -, -⟩ := DataW.trod_int Tryd.underlying2 g5
      obtain ⟨z6, e6, -, -⟩ := DataW.trod_int Tryd.underlying2 g6
      obtain ⟨s1, e1, -⟩ := DataW.trod_string Tryd.underlying9 g1
      obtain ⟨s2, e2, -⟩ := DataW.trod_string Tryd.underlying9 g2
      obtain ⟨s3, e3, -⟩ := DataW.trod_string Tryd.underlying9 g3
      obtain ⟨s4, e4, -⟩ := DataW.trod_string Tryd.underlying9 g4
      simp only [List.cons.injEq, and_true] at e0 e1 e2 e3 e4 e5 e6
      subst e0 e1 e2 e3 e4 e5 e6
      refine ⟨⟨z0, s1, s2, s3, s4, z5, z6⟩, fun j u hju => ?_⟩
      match j, hju with
      | 0, hju => simp [txList] at hju; rw [← hju]; exact k0
      | 1, hju => simp [txList] at hju; rw [← hju]; exact k1
      | 2, hju => simp [txList] at hju; rw [← hju]; exact k2
      | 3, hju => simp [txList] at hju; rw [← hju]; exact k3
      | 4, hju => simp [txList] at hju; rw [← hju]; exact k4
      | 5, hju => simp [txList] at hju; rw [← hju]; exact k5
      | 6, hju => simp [txList] at hju; rw [← hju]; exact k6
      | j + 7, hju => simp [txList] at hju
    refine ⟨l, some a, cap, by rw [hl], ⟨by simp; omega, fun _ => ⟨a, rfl, fun k cs hk j u hj => ?_⟩⟩⟩
    rw [List.getElem?_map, Option.map_eq_some_iff] at hk
    obtain ⟨x, hx, rfl⟩ := hk
    exact hq k x hx j u hj
set_option maxRecDepth 100000 in
/-- A transaction by value. -/
theorem open_tx {r : Reach} {b0 : Nat} {v : Value} {d : DataW H} {p : List MemPlace} (hv : Value.okWide Tryd.prog w r b0 25 v) (h : DataW.Trod enc Tryd.prog w base spare held 25 v d p) : ∃ t : Tx, v = txAgg t := by
  obtain ⟨f0, f1, f2, f3, f4, f5, f6, hs, hone, t0, t1, t2, t3, t4, t5, t6⟩ := structTx
  obtain ⟨v0, v1, v2, v3, v4, v5, v6, y0, y1, y2, y3, y4, y5, y6, n, rfl, -, g0, g1, g2, g3, g4, g5, g6⟩ := open_agg7 hs hone (by kernel_rfl) hv h
  rw [t0] at g0; rw [t1] at g1; rw [t2] at g2; rw [t3] at g3; rw [t4] at g4; rw [t5] at g5; rw [t6] at g6
  obtain ⟨z0, e0, -, -⟩ := DataW.trod_int Tryd.underlying3 g0
  obtain ⟨z5, e5, -, -⟩ := DataW.trod_int Tryd.underlying2 g5
  obtain ⟨z6, e6, -, -⟩ := DataW.trod_int Tryd.underlying2 g6
  obtain ⟨s1, e1, -⟩ := DataW.trod_string Tryd.underlying9 g1
  obtain ⟨s2, e2, -⟩ := DataW.trod_string Tryd.underlying9 g2
  obtain ⟨s3, e3, -⟩ := DataW.trod_string Tryd.underlying9 g3
  obtain ⟨s4, e4, -⟩ := DataW.trod_string Tryd.underlying9 g4
  simp only [List.cons.injEq, and_true] at e0 e1 e2 e3 e4 e5 e6
  subst e0 e1 e2 e3 e4 e5 e6
  exact ⟨⟨z0, s1, s2, s3, s4, z5, z6⟩, rfl⟩
end Go.Proofs.YtnhpkefjmpgneaaDoor
