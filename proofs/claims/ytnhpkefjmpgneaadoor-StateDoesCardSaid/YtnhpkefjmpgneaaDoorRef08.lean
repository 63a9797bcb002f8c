import Derived.Test.YtnhpkefjmpgneaaDoorRef02
namespace Go.Proofs.YtnhpkefjmpgneaaDoor
open Go.RowKit

/-! ### the document's layer 8: Check -/
set_option maxHeartbeats 2000000 in
set_option maxRecDepth 100000 in
theorem refTx_any (kind amount nonce : Int) (from_ to key val : ByteArray) (s1 : from_.size ≤ 4398046511104) (s2 : to.size ≤ 4398046511104) (s3 : key.size ≤ 4398046511104) (s4 : val.size ≤ 4398046511104) (w : World) :
    Calls Tryd.prog 53 #[.agg #[.int .i64 kind, .string from_, .string to, .string key, .string val, .int .i64 amount, .int .i64 nonce]] w (Ret w (.bool (txOk ⟨kind, from_, to, key, val, amount, nonce⟩))) := by
  have HS1 := Lib.hid s1
  have HS2 := Lib.hid s2
  have HS3 := Lib.hid s3
  have HS4 := Lib.hid s4
  clear s1 s2 s3 s4
  have HB := Lib.hid ((Below.refl w.heap.size w).alloc (Nat.le_refl _) (.cells #[.int .i64 kind, .string from_, .string to, .string key, .string val, .int .i64 amount, .int .i64 nonce] 25))
  go_enter Tryd.func53, Tryd.ntmps53
  go_wp2_with (first | (go_at_call 50; first | ((with_reducible refine (refCheck_any from_ HS1.out _).mono ?_); rintro e w1 ⟨rfl, hb1⟩; obtain ⟨hc1, hf1⟩ := bcell hb1; have hz1 : w.heap.size < w1.heap.size := Nat.lt_of_lt_of_le (by first | assumption | simp) hb1.size; have HB' := Lib.hid (below_call HB.out HB.out.size hb1); clear HB; have HB := HB'; clear HB') | ((with_reducible refine (refCheck_any to HS2.out _).mono ?_); rintro e w1 ⟨rfl, hb1⟩; obtain ⟨hc1, hf1⟩ := bcell hb1; have hz1 : w.heap.size < w1.heap.size := Nat.lt_of_lt_of_le (by first | assumption | simp) hb1.size; have HB' := Lib.hid (below_call HB.out HB.out.size hb1); clear HB; have HB := HB'; clear HB') | ((with_reducible refine (refCheck_any key HS3.out _).mono ?_); rintro e w1 ⟨rfl, hb1⟩; obtain ⟨hc1, hf1⟩ := bcell hb1; have hz1 : w.heap.size < w1.heap.size := Nat.lt_of_lt_of_le (by first | assumption | simp) hb1.size; have HB' := Lib.hid (below_call HB.out HB.out.size hb1); clear HB; have HB := HB'; clear HB')) | (go_at_call 83; first | ((with_reducible refine (refValue_any val HS4.out _).mono ?_); rintro e w1 ⟨rfl, hb1⟩; obtain ⟨hc1, hf1⟩ := bcell hb1; have hz1 : w.heap.size < w1.heap.size := Nat.lt_of_lt_of_le (by first | assumption | simp) hb1.size; have HB' := Lib.hid (below_call HB.out HB.out.size hb1); clear HB; have HB := HB'; clear HB')))
  all_goals (go_ret; exact ret_bool (by clear HB; go_tidy; first | (simp_all [txOk, moveOk, putOk, nameErr, valueErr, withinB]; done) | (simp_all [txOk, moveOk, putOk, nameErr, valueErr, withinB]; rw [Bool.eq_iff_iff]; simp; done) | (simp_all [txOk, moveOk, putOk, nameErr, valueErr, withinB]; intros; omega) | (simp_all [txOk, moveOk, putOk, nameErr, valueErr, withinB]; intro hname; rcases ‹(_ ∨ _) ∨ _› with (h | h) | h; omega; omega; rw [hname] at h; cases h)) HB.out)
end Go.Proofs.YtnhpkefjmpgneaaDoor
