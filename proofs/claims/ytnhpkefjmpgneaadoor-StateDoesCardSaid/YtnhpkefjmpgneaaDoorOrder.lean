import Derived.Test.YtnhpkefjmpgneaaDoorName3
namespace Go.Proofs.YtnhpkefjmpgneaaDoor
open Go.RowKit

/-! ### state.order, the order of places -/
def orderR (a b : ByteArray) : Int := if lessB a b then -1 else if a = b then 0 else 1
theorem beqBytes (a b : ByteArray) : (a == b) = decide (a = b) := by
  rw [beq_toListBytes, ByteArray.toList_eq, ByteArray.toList_eq]
  obtain ⟨⟨x⟩⟩ := a
  obtain ⟨⟨y⟩⟩ := b
  rw [Bool.eq_iff_iff]
  simp
set_option maxRecDepth 100000 in
theorem order_any (a b : ByteArray) (ha : a.size ≤ 35184372088831) (hb : b.size ≤ 35184372088831) (w : World) : Calls Tryd.prog 41 #[.string a, .string b] w (RetD w (.int .i64 (orderR a b))) := by
  have hq : (a.toList == b.toList) = decide (a = b) := by rw [← beq_toListBytes, beqBytes]
  go_enter Tryd.func41, Tryd.ntmps41
  cases h1 : lessB a b
  · by_cases h2 : a = b
    · have HF : Hid (orderR a b = 0) := by unfold Hid orderR; rw [h1]; simp [h2]
      rw [decide_eq_true h2] at hq
      clear h2
      go_wp2_with (first | (go_at_call 71; ((with_reducible refine (less_any a b ha hb _).mono ?_)); rintro e w1 ⟨rfl, hb1, hd1⟩; rw [h1]))
      go_ret
      exact ⟨by rw [HF.out]; rfl, hb1, hd1⟩
    · have HF : Hid (orderR a b = 1) := by unfold Hid orderR; rw [h1]; simp [h2]
      rw [decide_eq_false h2] at hq
      clear h2
      go_wp2_with (first | (go_at_call 71; ((with_reducible refine (less_any a b ha hb _).mono ?_)); rintro e w1 ⟨rfl, hb1, hd1⟩; rw [h1]))
      go_ret
      exact ⟨by rw [HF.out]; rfl, hb1, hd1⟩
  · have HF : Hid (orderR a b = -1) := by unfold Hid orderR; rw [h1]; simp
    clear hq
    go_wp2_with (first | (go_at_call 71; ((with_reducible refine (less_any a b ha hb _).mono ?_)); rintro e w1 ⟨rfl, hb1, hd1⟩; rw [h1]))
    go_ret
    exact ⟨by rw [HF.out]; rfl, hb1, hd1⟩
abbrev Place := ByteArray × ByteArray
def orderP (p q : Place) : Int := if orderR p.1 q.1 ≠ 0 then orderR p.1 q.1 else orderR p.2 q.2
set_option maxRecDepth 100000 in
theorem byName_any (p q : Place) (h1 : p.1.size ≤ 35184372088831) (h2 : p.2.size ≤ 35184372088831) (h3 : q.1.size ≤ 35184372088831) (h4 : q.2.size ≤ 35184372088831) (w : World) :
    Calls Tryd.prog 44 #[.agg #[.string p.1, .string p.2], .agg #[.string q.1, .string q.2]] w (RetD w (.int .i64 (orderP p q))) := by
  obtain ⟨p1, p2⟩ := p
  obtain ⟨q1, q2⟩ := q
  simp only at h1 h2 h3 h4 ⊢
  have HP : Hid (orderP (p1, p2) (q1, q2) = if orderR p1 q1 ≠ 0 then orderR p1 q1 else orderR p2 q2) := rfl
  have hA : Below w.heap.size w ((w.alloc (.cells #[.string p1, .string p2] 91 (0, 0))).alloc (.cells #[.string q1, .string q2] 91 (0, 0))) := ((Below.refl _ _).alloc (Nat.le_refl _) _).alloc (by simp) _
  obtain ⟨n, hn⟩ : ∃ n, orderR p1 q1 = n := ⟨_, rfl⟩
  have HN := Lib.hid hn
  rw [hn] at HP
  clear hn
  by_cases h0 : n = 0
  · subst h0
    have e0 : ((0 : Int) != (0 : Int)) = false := by decide
    go_enter Tryd.func44, Tryd.ntmps44
    go_wp2_with (first | (go_at_call 41; ((with_reducible refine (order_any p1 q1 h1 h3 _).mono ?_)); rintro e w1 ⟨rfl, hb1, hd1⟩; rw [HN.out]; have hbc := bcell hb1; have hz := hb1.size; simp only [World.size_alloc] at hz; have HB : Hid (Below w.heap.size w w1 ∧ w.drawn ≤ w1.drawn) := ⟨below_call hA (by simp; omega) hb1, hd1⟩; clear hb1 hd1 hA; obtain ⟨bc1, bc2⟩ := hbc) | (go_at_call 41; ((with_reducible refine (order_any p2 q2 h2 h4 _).mono ?_)); rintro e w2 ⟨rfl, hb2, hd2⟩))
    go_ret
    refine ⟨?_, below_call HB.out.1 (by omega) hb2, Nat.le_trans HB.out.2 hd2⟩
    rw [HP.out]
    rfl
  · have e1 : (n != 0) = true := by simp [h0]
    have HF : Hid (orderP (p1, p2) (q1, q2) = n) := by rw [Hid, HP.out, if_pos h0]
    clear h0
    go_enter Tryd.func44, Tryd.ntmps44
    go_wp2_with (first | (go_at_call 41; ((with_reducible refine (order_any p1 q1 h1 h3 _).mono ?_)); rintro e w1 ⟨rfl, hb1, hd1⟩; rw [HN.out]; have hbc := bcell hb1; have hz := hb1.size; simp only [World.size_alloc] at hz; have HB : Hid (Below w.heap.size w w1 ∧ w.drawn ≤ w1.drawn) := ⟨below_call hA (by simp; omega) hb1, hd1⟩; clear hb1 hd1 hA; obtain ⟨bc1, bc2⟩ := hbc))
    go_ret
    exact ⟨by rw [HF.out]; rfl, HB.out⟩
end Go.Proofs.YtnhpkefjmpgneaaDoor
