import Derived.Test.YtnhpkefjmpgneaaDoorKeeps1
import Derived.Test.YtnhpkefjmpgneaaDoorApart2
namespace Go.Proofs.YtnhpkefjmpgneaaDoor
open Go.RowKit

/-! ### StateKeeps: a round of its loop (not built yet) -/
/-- A state, and a transaction in a box. -/
structure Kp (w wr : World) (p ba bv : Nat) (A : Accs) (V : Vals) (r : Nat) (t : Tx) : Prop where
  st : IsState wr p ba bv A V
  below : Below w.heap.size w wr
  box : wr.heap[r]? = some (.cells (tcells t) TX (0, 0))
  fa : w.heap.size ≤ ba
  fv : w.heap.size ≤ bv
  ra : r ≠ ba
  rv : r ≠ bv
theorem Kp.grow {w wr wr' : World} {p ba bv r : Nat} {A : Accs} {V : Vals} {t : Tx} (h : Kp w wr p ba bv A V r t) (hb : Below wr.heap.size wr wr') : Kp w wr' p ba bv A V r t :=
  ⟨h.st.below hb, below_call h.below h.below.size hb, (hb.block _ (size_lt_of h.box)).trans h.box, h.fa, h.fv, h.ra, h.rv⟩
theorem Kp.do {w wr wr' : World} {p ba bv r : Nat} {A A' : Accs} {V V' : Vals} {t : Tx} (h : Kp w wr p ba bv A V r t) (hs : IsState wr' p ba bv A' V') (hk : Kept (fun k => k = ba ∨ k = bv) wr wr') : Kp w wr' p ba bv A' V' r t :=
  have fa := h.fa
  have fv := h.fv
  ⟨hs, Kept.below h.below h.below.size hk (by rintro i (rfl | rfl) <;> omega), kept_cells hk h.box (by rintro (e | e); exact h.ra e; exact h.rv e), h.fa, h.fv, h.ra, h.rv⟩
end Go.Proofs.YtnhpkefjmpgneaaDoor
