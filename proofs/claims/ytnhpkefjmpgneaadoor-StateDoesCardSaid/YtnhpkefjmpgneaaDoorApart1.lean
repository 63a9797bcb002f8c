import Derived.Test.YtnhpkefjmpgneaaDoorFit
namespace Go.Proofs.YtnhpkefjmpgneaaDoor
open Go.RowKit

/-! ### two who have nothing in common -/
def errOf (t : Tx) (a : Int × Int) : Int :=
  if txErr t ≠ 0 then txErr t else if t.nonce ≠ wrap64 (a.2 + 1) then 90 else if t.kind = 1 then (if a.1 < t.amount then 91 else 0) else 0
theorem do_err (A : Accs) (V : Vals) (t : Tx) : (doR A V t).1 = errOf t (accOf A t.from_) := by
  unfold doR errOf
  dsimp only
  repeat' split
  all_goals first | rfl | (exfalso; simp_all; done) | simp_all
theorem do_bad (A : Accs) (V : Vals) (t : Tx) (h : errOf t (accOf A t.from_) ≠ 0) : (doR A V t).2 = (A, V) := by
  unfold errOf at h
  unfold doR
  dsimp only
  repeat' split
  all_goals first | rfl | (exfalso; simp_all; done)
theorem do_move (A : Accs) (V : Vals) (t : Tx) (h : errOf t (accOf A t.from_) = 0) (hk : t.kind = 1) :
    (doR A V t).2 = (aput (aput A t.from_ (wrap64 ((accOf A t.from_).1 - t.amount), wrap64 ((accOf A t.from_).2 + 1))) t.to
      (wrap64 ((accOf (aput A t.from_ (wrap64 ((accOf A t.from_).1 - t.amount), wrap64 ((accOf A t.from_).2 + 1))) t.to).1 + t.amount), (accOf (aput A t.from_ (wrap64 ((accOf A t.from_).1 - t.amount), wrap64 ((accOf A t.from_).2 + 1))) t.to).2), V) := by
  unfold errOf at h
  unfold doR
  dsimp only
  repeat' split
  all_goals first | rfl | (exfalso; simp_all; done)
theorem do_put (A : Accs) (V : Vals) (t : Tx) (h : errOf t (accOf A t.from_) = 0) (hk : t.kind ≠ 1) :
    (doR A V t).2 = (aput A t.from_ ((accOf A t.from_).1, wrap64 ((accOf A t.from_).2 + 1)), aput V (t.from_, t.key) t.val) := by
  unfold errOf at h
  unfold doR
  dsimp only
  repeat' split
  all_goals first | rfl | (exfalso; simp_all; done)
theorem accOf_aput (A : Accs) (k x : ByteArray) (v : Int × Int) : accOf (aput A k v) x = if x = k then v else accOf A x := by
  unfold accOf
  rw [aget_aput]
  split <;> rfl
theorem wrap_swap (z a b : Int) : wrap64 (wrap64 (z + a) + b) = wrap64 (wrap64 (z + b) + a) := by
  unfold wrap64
  omega
/-- Behind a, b's account stands. -/
theorem do_other (A : Accs) (V : Vals) (t : Tx) (x : ByteArray) (h1 : x ≠ t.from_) (h2 : x ≠ t.to) : aget (doR A V t).2.1 x = aget A x := by
  by_cases he : errOf t (accOf A t.from_) = 0
  · by_cases hk : t.kind = 1
    · rw [do_move A V t he hk]
      simp only [aget_aput, if_neg h1, if_neg h2]
    · rw [do_put A V t he hk]
      simp only [aget_aput, if_neg h1]
  · rw [do_bad A V t he]
theorem acc_other (A : Accs) (V : Vals) (t : Tx) (x : ByteArray) (h1 : x ≠ t.from_) (h2 : x ≠ t.to) : accOf (doR A V t).2.1 x = accOf A x := by
  unfold accOf
  rw [do_other A V t x h1 h2]
theorem do_comm (A : Accs) (V : Vals) (a b : Tx) (h1 : a.from_ ≠ b.from_) (h2 : a.from_ ≠ b.to) (h3 : a.to ≠ b.from_) :
    (doR A V a).1 = (doR (doR A V b).2.1 (doR A V b).2.2 a).1 ∧ (doR (doR A V a).2.1 (doR A V a).2.2 b).1 = (doR A V b).1 ∧
      (∀ x, aget (doR (doR A V a).2.1 (doR A V a).2.2 b).2.1 x = aget (doR (doR A V b).2.1 (doR A V b).2.2 a).2.1 x) ∧
      (∀ x, aget (doR (doR A V a).2.1 (doR A V a).2.2 b).2.2 x = aget (doR (doR A V b).2.1 (doR A V b).2.2 a).2.2 x) := by
  have ea : accOf (doR A V b).2.1 a.from_ = accOf A a.from_ := acc_other A V b _ h1 h2
  have eb : accOf (doR A V a).2.1 b.from_ = accOf A b.from_ := acc_other A V a _ (Ne.symm h1) (Ne.symm h3)
  refine ⟨by rw [do_err, do_err, ea], by rw [do_err, do_err, eb], ?_⟩
  by_cases ha : errOf a (accOf A a.from_) = 0
  · by_cases hb : errOf b (accOf A b.from_) = 0
    · have ha' : errOf a (accOf (doR A V b).2.1 a.from_) = 0 := by rw [ea]; exact ha
      have hb' : errOf b (accOf (doR A V a).2.1 b.from_) = 0 := by rw [eb]; exact hb
      have h1' := Ne.symm h1
      have h2' := Ne.symm h2
      have h3' := Ne.symm h3
      by_cases ka : a.kind = 1
      · by_cases kb : b.kind = 1
        · rw [do_move _ _ b hb' kb, do_move _ _ a ha' ka, eb, ea, do_move _ _ b hb kb, do_move _ _ a ha ka]
          refine ⟨fun x => ?_, fun x => rfl⟩
          simp only [aget_aput, accOf_aput]
          by_cases t1 : a.to = b.to <;> by_cases t2 : b.to = b.from_ <;> by_cases t3 : a.to = a.from_ <;> by_cases x1 : x = a.from_ <;> by_cases x2 : x = a.to <;> by_cases x3 : x = b.from_ <;> by_cases x4 : x = b.to
          all_goals first | (simp_all; done) | (simp_all; exact wrap_swap _ _ _)
        · rw [do_put _ _ b hb' kb, do_move _ _ a ha' ka, eb, ea, do_put _ _ b hb kb, do_move _ _ a ha ka]
          refine ⟨fun x => ?_, fun x => rfl⟩
          simp only [aget_aput, accOf_aput]
          by_cases t2 : b.to = b.from_ <;> by_cases t3 : a.to = a.from_ <;> by_cases x1 : x = a.from_ <;> by_cases x2 : x = a.to <;> by_cases x3 : x = b.from_ <;> by_cases x4 : x = b.to
          all_goals (simp_all; done)
      · by_cases kb : b.kind = 1
        · rw [do_move _ _ b hb' kb, do_put _ _ a ha' ka, eb, ea, do_move _ _ b hb kb, do_put _ _ a ha ka]
          refine ⟨fun x => ?_, fun x => rfl⟩
          simp only [aget_aput, accOf_aput]
          by_cases t2 : b.to = b.from_ <;> by_cases t3 : a.to = a.from_ <;> by_cases x1 : x = a.from_ <;> by_cases x2 : x = a.to <;> by_cases x3 : x = b.from_ <;> by_cases x4 : x = b.to
          all_goals (simp_all; done)
        · rw [do_put _ _ b hb' kb, do_put _ _ a ha' ka, eb, ea, do_put _ _ b hb kb, do_put _ _ a ha ka]
          refine ⟨fun x => ?_, fun x => ?_⟩
          · simp only [aget_aput]
            by_cases x1 : x = a.from_ <;> by_cases x2 : x = b.from_
            all_goals (simp_all; done)
          · simp only [aget_aput]
            by_cases x1 : x = (a.from_, a.key)
            · by_cases x2 : x = (b.from_, b.key)
              · rw [x1] at x2
                exact absurd (congrArg Prod.fst x2) h1
              · rw [if_neg x2, if_pos x1, if_pos x1]
            · rw [if_neg x1, if_neg x1]
    · have hb' : errOf b (accOf (doR A V a).2.1 b.from_) ≠ 0 := by rw [eb]; exact hb
      rw [do_bad _ _ b hb', do_bad _ _ b hb]
      exact ⟨fun _ => rfl, fun _ => rfl⟩
  · have ha' : errOf a (accOf (doR A V b).2.1 a.from_) ≠ 0 := by rw [ea]; exact ha
    rw [do_bad _ _ a ha', do_bad _ _ a ha]
    exact ⟨fun _ => rfl, fun _ => rfl⟩
end Go.Proofs.YtnhpkefjmpgneaaDoor
