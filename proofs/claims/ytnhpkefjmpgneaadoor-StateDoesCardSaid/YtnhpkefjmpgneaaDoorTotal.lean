import Derived.Test.YtnhpkefjmpgneaaDoorFit
import Derived.Test.YtnhpkefjmpgneaaDoorRange
import Derived.Maps.RangeWalk
namespace Go.Proofs.YtnhpkefjmpgneaaDoor
open Go.RowKit

/-! ### state.Total -/
def sumA (l : Accs) : Int := (l.map (fun x => x.2.1)).sum
theorem sum_perm {l m : List Int} (h : l.Perm m) : l.sum = m.sum := by
  induction h with
  | nil => rfl
  | cons x _ ih => simp [ih]
  | swap x y l => simp; omega
  | trans _ _ h1 h2 => exact h1.trans h2
theorem sumA_perm {l m : Accs} (h : l.Perm m) : sumA l = sumA m := sum_perm (h.map _)
theorem sumA_nil : wrap64 (sumA []) = 0 := by simp [sumA, wrap64]
theorem sumA_snoc (l : Accs) (x : ByteArray × (Int × Int)) : sumA (l ++ [x]) = sumA l + x.2.1 := by simp [sumA]
theorem wrap_add (a b : Int) : wrap64 (wrap64 a + b) = wrap64 (a + b) := by
  unfold wrap64
  omega
set_option maxHeartbeats 1000000 in
set_option maxRecDepth 100000 in
theorem total_any (p ba bv : Nat) (A : Accs) (V : Vals) (w : World) (h : IsState w p ba bv A V) (hi : ∀ x ∈ A, I64 x.2.1 ∧ I64 x.2.2) :
    Calls Tryd.prog 16 #[.pointer (some ⟨p, 0, none⟩)] w (Ret w (.int .i64 (wrap64 (sumA A)))) := by
  have c0 : w.cell? ⟨p, 0, none⟩ = some (.map (some ba)) := by rw [cell_at h.head]; rfl
  have HA := h.accs
  have HI := Lib.hid hi
  clear h hi
  go_enter Tryd.func16, Tryd.ntmps16
  go_wp2_with (first
    | (at_range; refine wpList_range_is rfl _ 78 rfl 9 84 Tryd.underlying78 rfl HA ?_; intro w0 hrg0 hg0 hs0)
    | go_in)
  go_frame
  have hB0 : Below w.heap.size w w0 := (Below.refl _ w).grown hg0 (Nat.le_refl _) (fun k e => by cases e)
  clear hs0 HA hg0
  go_loopw [3] (fun n wr => ∃ dn : Accs, Ranging Value.string accV wr ba w.heap.size A dn ∧ n = .int .i64 (wrap64 (sumA dn)) ∧ Below w.heap.size w wr) (fun _ wr => wr.rangeLeft ba w.heap.size)
  case atStart => exact ⟨[], hrg0, by rw [sumA_nil], hB0⟩
  case round =>
    obtain ⟨dn, hrg, rfl, hB⟩ := hrel
    go_wp2_with (first
      | (at_next; refine wpList_next_is rfl _ rfl rfl hrg ?_ ?_)
      | go_in)
    · intro hdn
      have HS : Hid (wrap64 (sumA A) = wrap64 (sumA dn)) := by rw [Hid, sumA_perm hdn]
      go_wp2
      go_ret
      exact ⟨by rw [HS.out]; rfl, hB⟩
    · intro x am no w2 hmem hlen hrg2 hg2 hs2 hen
      have hB2 : Below w.heap.size w w2 := hB.grown hg2 hB.size (fun k e => by cases e; exact Nat.le_refl _)
      have HM := Lib.hid (HI.out _ hmem)
      have HS : Hid (wrap64 (sumA (dn ++ [(x, (am, no))])) = wrap64 (wrap64 (sumA dn) + am)) := by rw [Hid, sumA_snoc, wrap_add]
      have hlq := Lib.hid hrg.left_eq
      unfold accV at hen
      clear hmem hs2 hg2
      generalize wrap64 (sumA dn) = z at HS ⊢
      go_wp2
      have hrg3 := hrg2.of_walks (KeepsWalks.alloc w2 (.cells #[.int .i64 am, .int .i64 no] 84 (0, 0)))
      go_roundw
      case rel => exact ⟨dn ++ [(x, (am, no))], hrg3, by rw [HS.out], hB2.alloc hB2.size _⟩
      case measure =>
        have l1 := hrg3.left_eq
        have l2 := hlq.out
        rw [List.length_append] at l1
        simp only [List.length_cons, List.length_nil] at l1
        omega
end Go.Proofs.YtnhpkefjmpgneaaDoor
