import Derived.Test.YtnhpkefjmpgneaaDoorProg
import Derived.WalkKit
import Derived.WalkSmall
import Derived.Deep.QuietTactic
import Derived.BigQuiet
import Derived.Deep.LoopGhost
import Derived.Lib.Hide
import Derived.Lib.OthersKept
import Derived.Maps.AppendAt
namespace Go.Proofs.YtnhpkefjmpgneaaDoor
open Go.RowKit

/-- What a call returns, nothing that was there being changed. -/
def Ret (w : World) (v : Value) (e : Ending) (w' : World) : Prop := e = .returned v ∧ Below w.heap.size w w'
theorem ret_mk {w w' : World} {v v' : Value} (h : v' = v) (hb : Below w.heap.size w w') : Ret w v (.returned v') w' := ⟨by rw [h], hb⟩
theorem ret_bool {w w' : World} {b b' : Bool} (h : b' = b) (hb : Below w.heap.size w w') : Ret w (.bool b) (.returned (.bool b')) w' := ⟨by rw [h], hb⟩
theorem ret_int {w w' : World} {k : IntKind} {b b' : Int} (h : b' = b) (hb : Below w.heap.size w w') : Ret w (.int k b) (.returned (.int k b')) w' := ⟨by rw [h], hb⟩
/-- From the world behind a call on. -/
theorem below_call {B : Nat} {a w w' : World} (h : Below B a w) (hB : B ≤ w.heap.size) (k : Below w.heap.size w w') : Below B a w' := h.trans (k.mono hB)

/-- What was there reads on behind a call: two rules of the walk. -/
theorem bcell {W w1 : World} (hb : Below W.heap.size W w1) : (∀ b o, b < W.heap.size → w1.cell? ⟨b, o, none⟩ = W.cell? ⟨b, o, none⟩) ∧ (∀ b o, b < W.heap.size → w1.frozen? ⟨b, o, none⟩ = W.frozen? ⟨b, o, none⟩) :=
  ⟨fun b o h => hb.cell (p := ⟨b, o, none⟩) h, fun b o h => hb.frozen (p := ⟨b, o, none⟩) h⟩

/-! ### runes -/
theorem decode_pos (s : ByteArray) (p : Nat) : 1 ≤ (Utf8.decode s p).2 := by
  simp only [Utf8.decode]
  repeat' split
  all_goals simp
/-- A text's runes from a place on, with their places. -/
def runesF (s : ByteArray) : Nat → Nat → List (Nat × Int)
  | 0, _ => []
  | f + 1, p => if p < s.size then (p, ((Utf8.decode s p).1 : Int)) :: runesF s f (p + (Utf8.decode s p).2) else []
theorem runesF_fuel (s : ByteArray) : ∀ (f g p : Nat), s.size - p ≤ f → s.size - p ≤ g → runesF s f p = runesF s g p
  | 0, 0, _, _, _ => rfl
  | 0, g + 1, p, hf, _ => by rw [runesF, runesF, if_neg (by omega)]
  | f + 1, 0, p, _, hg => by rw [runesF, runesF, if_neg (by omega)]
  | f + 1, g + 1, p, hf, hg => by
    rw [runesF, runesF]
    have := decode_pos s p
    by_cases h : p < s.size
    · rw [if_pos h, if_pos h, runesF_fuel s f g _ (by omega) (by omega)]
    · rw [if_neg h, if_neg h]
def runesAt (s : ByteArray) (p : Nat) : List (Nat × Int) := runesF s s.size p
def runes (s : ByteArray) : List (Nat × Int) := runesAt s 0
theorem runesAt_lt (s : ByteArray) (p : Nat) (h : p < s.size) : runesAt s p = (p, ((Utf8.decode s p).1 : Int)) :: runesAt s (p + (Utf8.decode s p).2) := by
  have := decode_pos s p
  unfold runesAt
  conv => lhs; rw [runesF_fuel s s.size (s.size - p - 1 + 1) p (by omega) (by omega), runesF, if_pos h]
  rw [runesF_fuel s (s.size - p - 1) s.size _ (by omega) (by omega)]
theorem runesAt_ge (s : ByteArray) (p : Nat) (h : ¬ p < s.size) : runesAt s p = [] := by
  unfold runesAt
  cases hs : s.size with
  | zero => rfl
  | succ n => rw [runesF, if_neg h]
theorem runesAt_length (s : ByteArray) : ∀ (d p : Nat), s.size - p ≤ d → (runesAt s p).length ≤ d
  | 0, p, h => by rw [runesAt_ge s p (by omega)]; exact Nat.le_refl _
  | d + 1, p, h => by
    by_cases hp : p < s.size
    · have := decode_pos s p
      rw [runesAt_lt s p hp, List.length_cons]
      have := runesAt_length s d (p + (Utf8.decode s p).2) (by omega)
      omega
    · rw [runesAt_ge s p hp]; exact Nat.zero_le _
theorem runes_length (s : ByteArray) : (runes s).length ≤ s.size := runesAt_length s s.size 0 (by omega)
/-- A round of a range over a text: the rune at hand, and what comes behind it. -/
theorem runes_round {P : Program} (s : ByteArray) (p r : Nat) (pre : List (Nat × Int)) (wr : World) (hr : runes s = pre ++ runesAt s p) (hi : wr.heap[r]? = some (.stringIter s p)) (h : p < s.size) :
    ∃ (c : Int) (q : Nat), (∀ ty, (Instr.next (.pointer (some ⟨r, 0, none⟩)) true ty).run P wr = .ok (.tuple #[.bool true, .int .i64 p, .int .i32 c]) (wr.iterAt r s q)) ∧
      runes s = (pre ++ [(p, c)]) ++ runesAt s q ∧ (wr.iterAt r s q).heap[r]? = some (.stringIter s q) ∧ p < q ∧ pre.length < s.size ∧ 0 ≤ c ∧ c ≤ 2147483647 ∧ c = ((Utf8.decode s p).1 : Int) ∧ q = p + (Utf8.decode s p).2 := by
  refine ⟨((Utf8.decode s p).1 : Int), p + (Utf8.decode s p).2, fun ty => Lib.run_next_any_at (P := P) wr r s p ty hi h, ?_, Lib.iterAt_heap wr r s p _ hi, ?_, ?_, Int.natCast_nonneg _, ?_, rfl, rfl⟩
  · rw [hr, runesAt_lt s p h, List.append_assoc]; rfl
  · have := decode_pos s p; omega
  · have h1 := runes_length s
    rw [hr, runesAt_lt s p h, List.length_append, List.length_cons] at h1
    omega
  · have := decode_le s p; omega
theorem runes_over {P : Program} (s : ByteArray) (p r : Nat) (pre : List (Nat × Int)) (wr : World) (hr : runes s = pre ++ runesAt s p) (hi : wr.heap[r]? = some (.stringIter s p)) (h : ¬ p < s.size) :
    (∀ ty, (Instr.next (.pointer (some ⟨r, 0, none⟩)) true ty).run P wr = .ok (.tuple #[.bool false]) wr) ∧ runes s = pre :=
  ⟨fun ty => Lib.run_next_end_at (P := P) wr r s p ty hi h, by rw [hr, runesAt_ge s p h, List.append_nil]⟩
theorem below_iter {B : Nat} {a w : World} (h : Below B a w) {k : Nat} (hk : B ≤ k) (s : ByteArray) (pos : Nat) : Below B a (w.iterAt k s pos) := Lib.below_iterAt h hk s pos
/-- The iterator behind a call. -/
theorem iter_call {w w' : World} {r : Nat} {o : Obj} (h : w.heap[r]? = some o) (k : Below w.heap.size w w') : w'.heap[r]? = some o :=
  (k.block r (Array.getElem?_eq_some_iff.1 h).1).trans h
theorem iter_alloc {w : World} {r : Nat} {o : Obj} (h : w.heap[r]? = some o) (x : Obj) : (w.alloc x).heap[r]? = some o :=
  (Below.heap_alloc w x r (Array.getElem?_eq_some_iff.1 h).1).trans h
end Go.Proofs.YtnhpkefjmpgneaaDoor
