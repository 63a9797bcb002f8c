import Derived.Test.YtnhpkefjmpgneaaDoorApart1
import Derived.Test.YtnhpkefjmpgneaaDoorGreat
import Derived.Test.YtnhpkefjmpgneaaDoorAlive
namespace Go.Proofs.YtnhpkefjmpgneaaDoor
open Go.RowKit

/-! ### StateApart: what its walk wants -/
abbrev TX : TypeId := 25
def tcells (t : Tx) : Array Value := #[.int .i64 t.kind, .string t.from_, .string t.to, .string t.key, .string t.val, .int .i64 t.amount, .int .i64 t.nonce]
/-- One state, and the two transactions in their boxes. -/
structure Ap (w wr : World) (p ba bv : Nat) (A : Accs) (V : Vals) (a b : Tx) : Prop where
  bx : wr.heap[w.heap.size]? = some (.cells (tcells a) TX (0, 0))
  by2 : wr.heap[w.heap.size + 1]? = some (.cells (tcells b) TX (0, 0))
  st : IsState wr p ba bv A V
  below : Below w.heap.size w wr
  fa : w.heap.size + 1 < ba
  fv : w.heap.size + 1 < bv
theorem Ap.grow {w wr wr' : World} {p ba bv : Nat} {A : Accs} {V : Vals} {a b : Tx} (h : Ap w wr p ba bv A V a b) (hb : Below wr.heap.size wr wr') : Ap w wr' p ba bv A V a b :=
  ⟨(hb.block _ (size_lt_of h.bx)).trans h.bx, (hb.block _ (size_lt_of h.by2)).trans h.by2, h.st.below hb, below_call h.below h.below.size hb, h.fa, h.fv⟩
theorem Ap.do {w wr wr' : World} {p ba bv : Nat} {A A' : Accs} {V V' : Vals} {a b : Tx} (h : Ap w wr p ba bv A V a b) (hs : IsState wr' p ba bv A' V') (hk : Kept (fun k => k = ba ∨ k = bv) wr wr') : Ap w wr' p ba bv A' V' a b :=
  have fa := h.fa
  have fv := h.fv
  ⟨kept_cells hk h.bx (by rintro (e | e) <;> omega), kept_cells hk h.by2 (by rintro (e | e) <;> omega), hs, Kept.below h.below h.below.size hk (by rintro i (rfl | rfl) <;> omega), h.fa, h.fv⟩
/-- Two states that have no block in common, and the two transactions. -/
structure Ap2 (w wr : World) (p ba bv : Nat) (A : Accs) (V : Vals) (q qa qv : Nat) (A2 : Accs) (V2 : Vals) (a b : Tx) : Prop where
  one : Ap w wr p ba bv A V a b
  st2 : IsState wr q qa qv A2 V2
  ga : w.heap.size + 1 < qa
  gv : w.heap.size + 1 < qv
  n1 : qa ≠ ba
  n2 : qa ≠ bv
  n3 : qv ≠ ba
  n4 : qv ≠ bv
theorem Ap2.grow {w wr wr' : World} {p ba bv q qa qv : Nat} {A A2 : Accs} {V V2 : Vals} {a b : Tx} (h : Ap2 w wr p ba bv A V q qa qv A2 V2 a b) (hb : Below wr.heap.size wr wr') : Ap2 w wr' p ba bv A V q qa qv A2 V2 a b :=
  ⟨h.one.grow hb, h.st2.below hb, h.ga, h.gv, h.n1, h.n2, h.n3, h.n4⟩
theorem kept_map {K V : Type} [DecidableEq K] {enc : K → Value} {ev : V → Value} {S : Nat → Prop} {w w' : World} {b : Nat} {l : List (K × V)} (h : IsMap enc ev w b l) (hk : Kept S w w') (hS : ¬ S b) : IsMap enc ev w' b l :=
  h.keep (hk.block b h.lt hS)
theorem state_kept {w w' : World} {p ba bv q qa qv : Nat} {A A2 : Accs} {V V2 : Vals} (h1 : IsState w p ba bv A V) (h : IsState w q qa qv A2 V2) (hk : Kept (fun k => k = ba ∨ k = bv) w w') (n1 : qa ≠ ba) (n2 : qa ≠ bv) (n3 : qv ≠ ba) (n4 : qv ≠ bv) : IsState w' q qa qv A2 V2 :=
  ⟨kept_cells hk h.head (by rintro (e | e); exact map_ne_cells h1.accs h.head e; exact map_ne_cells h1.vals h.head e), kept_map h.accs hk (by rintro (e | e); exact n1 e; exact n2 e), kept_map h.vals hk (by rintro (e | e); exact n3 e; exact n4 e), h.ne⟩
theorem Ap2.do1 {w wr wr' : World} {p ba bv q qa qv : Nat} {A A' A2 : Accs} {V V' V2 : Vals} {a b : Tx} (h : Ap2 w wr p ba bv A V q qa qv A2 V2 a b) (hs : IsState wr' p ba bv A' V') (hk : Kept (fun k => k = ba ∨ k = bv) wr wr') : Ap2 w wr' p ba bv A' V' q qa qv A2 V2 a b :=
  ⟨h.one.do hs hk, state_kept h.one.st h.st2 hk h.n1 h.n2 h.n3 h.n4, h.ga, h.gv, h.n1, h.n2, h.n3, h.n4⟩
theorem Ap2.swap {w wr : World} {p ba bv q qa qv : Nat} {A A2 : Accs} {V V2 : Vals} {a b : Tx} (h : Ap2 w wr p ba bv A V q qa qv A2 V2 a b) : Ap2 w wr q qa qv A2 V2 p ba bv A V a b :=
  ⟨⟨h.one.bx, h.one.by2, h.st2, h.one.below, h.ga, h.gv⟩, h.one.st, h.one.fa, h.one.fv, Ne.symm h.n1, Ne.symm h.n3, Ne.symm h.n2, Ne.symm h.n4⟩
theorem Ap2.do2 {w wr wr' : World} {p ba bv q qa qv : Nat} {A A2 A' : Accs} {V V2 V' : Vals} {a b : Tx} (h : Ap2 w wr p ba bv A V q qa qv A2 V2 a b) (hs : IsState wr' q qa qv A' V') (hk : Kept (fun k => k = qa ∨ k = qv) wr wr') : Ap2 w wr' p ba bv A V q qa qv A' V' a b :=
  (h.swap.do1 hs hk).swap
theorem Ap2.copied {w wr wr' : World} {p ba bv q qa qv : Nat} {A : Accs} {V : Vals} {a b : Tx} (h : Ap w wr p ba bv A V a b) (hs : IsState wr' q qa qv A V) (hb : Below wr.heap.size wr wr') (h2 : wr.heap.size ≤ qa) (h3 : wr.heap.size ≤ qv) : Ap2 w wr' p ba bv A V q qa qv A V a b := by
  have l1 := h.st.accs.lt
  have l2 := h.st.vals.lt
  have l3 := size_lt_of h.by2
  exact ⟨h.grow hb, hs, by omega, by omega, by omega, by omega, by omega, by omega⟩
/-- The seven cells of a box. -/
theorem seven {w : World} {b : Nat} {t : Tx} (h : w.heap[b]? = some (.cells (tcells t) TX (0, 0))) :
    w.cell? ⟨b, 0, none⟩ = some (.int .i64 t.kind) ∧ w.cell? ⟨b, 1, none⟩ = some (.string t.from_) ∧ w.cell? ⟨b, 2, none⟩ = some (.string t.to) ∧ w.cell? ⟨b, 3, none⟩ = some (.string t.key) ∧ w.cell? ⟨b, 4, none⟩ = some (.string t.val) ∧ w.cell? ⟨b, 5, none⟩ = some (.int .i64 t.amount) ∧ w.cell? ⟨b, 6, none⟩ = some (.int .i64 t.nonce) :=
  ⟨cell_at h 0, cell_at h 1, cell_at h 2, cell_at h 3, cell_at h 4, cell_at h 5, cell_at h 6⟩
/-- What New leaves is small. -/
theorem newGo_fit : ∀ (l : List (ByteArray × Int)) (all : Int) (A : Accs) (n : Nat), (∀ x ∈ l, x.1.size ≤ 1000 ∧ I64 x.2) → Fit n A [] → Fit (n + l.length) (newGo l all A).2 []
  | [], all, A, n, _, h => by simpa [newGo] using h
  | (nm, am) :: r, all, A, n, hl, h => by
    have h0 : Fit (n + (r.length + 1)) [] [] := ⟨by simp, by simp, by simp, by simp, by simp, by simp⟩
    have hx := hl _ (List.mem_cons_self ..)
    rw [newGo, List.length_cons]
    split
    · exact h0
    · split
      · exact h0
      · split
        · exact h0
        · have := newGo_fit r (addR all am).1 (aput A nm (am, 0)) (n + 1) (fun x h' => hl x (List.mem_cons_of_mem _ h')) (h.putA hx.1 hx.2 ⟨by simp, by simp⟩)
          rw [show n + (r.length + 1) = n + 1 + r.length from by omega]
          exact this
theorem newR_fit (l : List (ByteArray × Int)) (hl : ∀ x ∈ l, x.1.size ≤ 1000 ∧ I64 x.2) : Fit l.length (newR l).2 [] := by
  have := newGo_fit l 0 [] 0 hl ⟨by simp, by simp, by simp, by simp, by simp, by simp⟩
  simpa [newR] using this
/-- What some transactions leave. -/
def doAll : Accs → Vals → List Tx → Accs × Vals
  | A, V, [] => (A, V)
  | A, V, t :: r => doAll (doR A V t).2.1 (doR A V t).2.2 r
theorem doAll_fit : ∀ (l : List Tx) (A : Accs) (V : Vals) (n : Nat), Fit n A V → (∀ t ∈ l, greatT t = false) → Fit (n + 2 * l.length) (doAll A V l).1 (doAll A V l).2
  | [], A, V, n, h, _ => by simpa [doAll] using h
  | t :: r, A, V, n, h, hl => by
    have := doAll_fit r _ _ (n + 2) (h.do (slim_of (hl t (List.mem_cons_self ..)))) (fun x h' => hl x (List.mem_cons_of_mem _ h'))
    rw [doAll, List.length_cons, show n + 2 * (r.length + 1) = n + 2 + 2 * r.length from by omega]
    exact this
theorem doAll_snoc : ∀ (l : List Tx) (A : Accs) (V : Vals) (t : Tx), doAll A V (l ++ [t]) = (doR (doAll A V l).1 (doAll A V l).2 t).2
  | [], A, V, t => rfl
  | x :: r, A, V, t => doAll_snoc r _ _ t
/-- What StateApart's walk asks, hidden. -/
structure ApIn (w : World) (l : List (ByteArray × Int)) (A0 : Option Addr) (bs : List Tx) (B0 : Option Addr) : Prop where
  ra : ReadsN w A0 2 (l.map acct)
  rb : ReadsN w B0 7 (bs.map txList)
  ints : ∀ x ∈ l, I64 x.2
  tabs : Tabs w
theorem slim_small {t : Tx} (h : t.Slim) : t.small := by
  have h1 := h.sf
  have h2 := h.st
  have h3 := h.sk
  have h4 := h.sv
  exact ⟨by omega, by omega, by omega, by omega⟩
theorem any_false {α : Type} {f : α → Bool} {l : List α} (h : l.any f = false) : ∀ x ∈ l, f x = false := by
  intro x hx
  rw [List.any_eq_false] at h
  have := h x hx
  simpa using this
end Go.Proofs.YtnhpkefjmpgneaaDoor
