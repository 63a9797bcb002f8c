import Derived.Test.YtnhpkefjmpgneaaDoorTx1
namespace Go.Proofs.YtnhpkefjmpgneaaDoor
open Go.RowKit

/-! ### tx.Check -/
structure Tx where
  kind : Int
  from_ : ByteArray
  to : ByteArray
  key : ByteArray
  val : ByteArray
  amount : Int
  nonce : Int
abbrev Tx.cells (t : Tx) : Array Value := #[.int .i64 t.kind, .string t.from_, .string t.to, .string t.key, .string t.val, .int .i64 t.amount, .int .i64 t.nonce]
abbrev Tx.v (t : Tx) : Value := .agg t.cells
structure Tx.small (t : Tx) : Prop where
  from_ : t.from_.size ≤ 35184372088831
  to : t.to.size ≤ 35184372088831
  key : t.key.size ≤ 35184372088831
  val : t.val.size ≤ 35184372088831
def nonEmpty (s : ByteArray) : Bool := !s.toList.isEmpty
def moveOk (t : Tx) : Bool := decide (nameErr t.to = 0) && (withinB t.amount 1 4611686018427387904 && (t.key.toList.isEmpty && t.val.toList.isEmpty))
def putOk (t : Tx) : Bool := decide (nameErr t.key = 0) && (decide (valueErr t.val = 0) && (t.to.toList.isEmpty && decide (t.amount = 0)))
def txOk (t : Tx) : Bool := decide (nameErr t.from_ = 0) && (withinB t.nonce 1 4611686018427387904 && (if t.kind = 1 then moveOk t else if t.kind = 2 then putOk t else false))
def txErr (t : Tx) : Int := if txOk t then 0 else 80

set_option maxRecDepth 100000 in
theorem txCheck_any (kind amount nonce : Int) (from_ to key val : ByteArray) (hs : Tx.small ⟨kind, from_, to, key, val, amount, nonce⟩) (w : World) (hT : Tabs w) :
    Calls Tryd.prog 36 #[.agg #[.int .i64 kind, .string from_, .string to, .string key, .string val, .int .i64 amount, .int .i64 nonce]] w (Ret w (.int .i64 (txErr ⟨kind, from_, to, key, val, amount, nonce⟩))) := by
  obtain ⟨s1, s2, s3, s4⟩ := hs
  dsimp only at s1 s2 s3 s4
  have HS1 := Lib.hid (show from_.size ≤ maxLen by unfold maxLen; omega)
  have HS2 := Lib.hid (show to.size ≤ maxLen by unfold maxLen; omega)
  have HS3 := Lib.hid (show key.size ≤ maxLen by unfold maxLen; omega)
  have HS4 := Lib.hid (show val.size ≤ maxLen by unfold maxLen; omega)
  have HT := Lib.hid hT
  clear hT s1 s2 s3 s4
  have HB := Lib.hid ((Below.refl w.heap.size w).alloc (Nat.le_refl _) (.cells #[.int .i64 kind, .string from_, .string to, .string key, .string val, .int .i64 amount, .int .i64 nonce] 25))
  go_enter Tryd.func36, Tryd.ntmps36
  go_wp2_with (first | (go_at_call 34; first | ((with_reducible refine (check_any from_ HS1.out _).mono ?_); rintro e w1 ⟨rfl, hb1⟩; obtain ⟨hc1, hf1⟩ := bcell hb1; have hz1 : w.heap.size < w1.heap.size := Nat.lt_of_lt_of_le (by first | assumption | simp) hb1.size; have HB' := Lib.hid (below_call HB.out HB.out.size hb1); clear HB; have HB := HB'; clear HB') | ((with_reducible refine (check_any to HS2.out _).mono ?_); rintro e w1 ⟨rfl, hb1⟩; obtain ⟨hc1, hf1⟩ := bcell hb1; have hz1 : w.heap.size < w1.heap.size := Nat.lt_of_lt_of_le (by first | assumption | simp) hb1.size; have HB' := Lib.hid (below_call HB.out HB.out.size hb1); clear HB; have HB := HB'; clear HB') | ((with_reducible refine (check_any key HS3.out _).mono ?_); rintro e w1 ⟨rfl, hb1⟩; obtain ⟨hc1, hf1⟩ := bcell hb1; have hz1 : w.heap.size < w1.heap.size := Nat.lt_of_lt_of_le (by first | assumption | simp) hb1.size; have HB' := Lib.hid (below_call HB.out HB.out.size hb1); clear HB; have HB := HB'; clear HB')) | (go_at_call 65; ((with_reducible refine (within_any _ _ _ _).mono ?_); rintro e w1 ⟨rfl, hb1⟩; obtain ⟨hc1, hf1⟩ := bcell hb1; have hz1 : w.heap.size < w1.heap.size := Nat.lt_of_lt_of_le (by first | assumption | simp) hb1.size; have HB' := Lib.hid (below_call HB.out HB.out.size hb1); clear HB; have HB := HB'; clear HB')) | (go_at_call 66; ((with_reducible refine (value_any val HS4.out _ (tabs_keep HT.out HB.out)).mono ?_); rintro e w1 ⟨rfl, hb1⟩; obtain ⟨hc1, hf1⟩ := bcell hb1; have hz1 : w.heap.size < w1.heap.size := Nat.lt_of_lt_of_le (by first | assumption | simp) hb1.size; have HB' := Lib.hid (below_call HB.out HB.out.size hb1); clear HB; have HB := HB'; clear HB')))
  all_goals (go_ret; exact ret_int (by clear HB; go_tidy; simp_all [txErr, txOk, moveOk, putOk]) HB.out)
end Go.Proofs.YtnhpkefjmpgneaaDoor
