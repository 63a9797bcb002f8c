import Derived.Test.YtnhpkefjmpgneaaDoorApart1
import Derived.Test.YtnhpkefjmpgneaaDoorTotal
namespace Go.Proofs.YtnhpkefjmpgneaaDoor
open Go.RowKit

/-! ### what Do keeps -/
theorem sumA_aput (A : Accs) (k : ByteArray) (v : Int × Int) : sumA (aput A k v) = sumA A - (accOf A k).1 + v.1 := by
  induction A with
  | nil => simp [aput, sumA, accOf, aget]
  | cons p r ih =>
    obtain ⟨y, u⟩ := p
    unfold aput
    by_cases h : k = y
    · subst h
      simp [sumA, accOf, aget]
      omega
    · rw [if_neg h]
      have e : accOf ((y, u) :: r) k = accOf r k := by unfold accOf; simp [aget, h]
      rw [e]
      simp only [sumA, List.map_cons, List.sum_cons] at ih ⊢
      omega
theorem do_sum (A : Accs) (V : Vals) (t : Tx) : wrap64 (sumA (doR A V t).2.1) = wrap64 (sumA A) := by
  by_cases he : errOf t (accOf A t.from_) = 0
  · by_cases hk : t.kind = 1
    · rw [do_move A V t he hk]
      simp only [sumA_aput]
      generalize accOf (aput A t.from_ (wrap64 ((accOf A t.from_).1 - t.amount), wrap64 ((accOf A t.from_).2 + 1))) t.to = b
      generalize (accOf A t.from_).1 = a
      unfold wrap64
      omega
    · rw [do_put A V t he hk]
      simp only [sumA_aput]
      congr 1
      omega
  · rw [do_bad A V t he]
structure Good (A : Accs) : Prop where
  pos : ∀ x ∈ A, 0 ≤ x.2.1
  most : sumA A ≤ 4611686018427387904
theorem sum_ge {A : Accs} (h : ∀ x ∈ A, 0 ≤ x.2.1) : 0 ≤ sumA A := by
  induction A with
  | nil => simp [sumA]
  | cons p r ih =>
    have h1 := h p (List.mem_cons_self ..)
    have h2 := ih fun x hx => h x (List.mem_cons_of_mem _ hx)
    simp only [sumA, List.map_cons, List.sum_cons] at h2 ⊢
    omega
theorem acc_le {A : Accs} (h : ∀ x ∈ A, 0 ≤ x.2.1) (s : ByteArray) : 0 ≤ (accOf A s).1 ∧ (accOf A s).1 ≤ sumA A := by
  induction A with
  | nil => simp [accOf, aget, sumA]
  | cons p r ih =>
    obtain ⟨y, u⟩ := p
    have h1 := h (y, u) (List.mem_cons_self ..)
    have hr : ∀ x ∈ r, 0 ≤ x.2.1 := fun x hx => h x (List.mem_cons_of_mem _ hx)
    have h2 := ih hr
    have h3 := sum_ge hr
    by_cases e : s = y
    · have : accOf ((y, u) :: r) s = u := by unfold accOf; simp [aget, e]
      rw [this]
      simp only [sumA, List.map_cons, List.sum_cons] at h3 ⊢
      simp only at h1
      omega
    · have : accOf ((y, u) :: r) s = accOf r s := by unfold accOf; simp [aget, e]
      rw [this]
      simp only [sumA, List.map_cons, List.sum_cons] at h2 ⊢
      simp only at h1
      omega
theorem Good.put {A : Accs} (h : Good A) {k : ByteArray} {v : Int × Int} (h1 : 0 ≤ v.1) (h2 : sumA A - (accOf A k).1 + v.1 ≤ 4611686018427387904) : Good (aput A k v) :=
  ⟨fun x hx => by
    rcases mem_aput hx with rfl | hx
    · exact h1
    · exact h.pos x hx, by rw [sumA_aput]; exact h2⟩
theorem wrap_small {z : Int} (h0 : 0 ≤ z) (h1 : z ≤ 4611686018427387904) : wrap64 z = z := by
  unfold wrap64
  omega
theorem ok_facts {t : Tx} {a : Int × Int} (h : errOf t a = 0) : txOk t = true ∧ t.nonce = wrap64 (a.2 + 1) ∧ (t.kind = 1 → t.amount ≤ a.1) := by
  unfold errOf at h
  by_cases h1 : txErr t ≠ 0
  · rw [if_pos h1] at h
    exact absurd h h1
  · rw [if_neg h1] at h
    have h0 : txOk t = true := by
      unfold txErr at h1
      cases hk : txOk t
      · rw [hk] at h1; simp at h1
      · rfl
    by_cases h2 : t.nonce ≠ wrap64 (a.2 + 1)
    · rw [if_pos h2] at h
      cases h
    · rw [if_neg h2] at h
      refine ⟨h0, Classical.not_not.1 h2, fun hk => ?_⟩
      rw [if_pos hk] at h
      by_cases h3 : a.1 < t.amount
      · rw [if_pos h3] at h
        cases h
      · omega
theorem ok_nums {t : Tx} (h : txOk t = true) : 1 ≤ t.nonce ∧ t.nonce ≤ 4611686018427387904 ∧ (t.kind = 1 → 1 ≤ t.amount ∧ t.amount ≤ 4611686018427387904) := by
  unfold txOk at h
  simp only [Bool.and_eq_true, decide_eq_true_eq] at h
  obtain ⟨-, hn, hk⟩ := h
  have h1 : 1 ≤ t.nonce ∧ t.nonce ≤ 4611686018427387904 := by simpa [withinB] using hn
  refine ⟨h1.1, h1.2, fun e => ?_⟩
  rw [if_pos e] at hk
  unfold moveOk at hk
  simp only [Bool.and_eq_true, decide_eq_true_eq] at hk
  simpa [withinB] using hk.2.1
theorem good_do {A : Accs} (h : Good A) (V : Vals) (t : Tx) : Good (doR A V t).2.1 := by
  by_cases he : errOf t (accOf A t.from_) = 0
  · obtain ⟨h1, h2, h3⟩ := ok_facts he
    obtain ⟨-, -, h4⟩ := ok_nums h1
    have ha := acc_le h.pos t.from_
    have hm := h.most
    by_cases hk : t.kind = 1
    · have h5 := h3 hk
      have h6 := h4 hk
      have e1 : wrap64 ((accOf A t.from_).1 - t.amount) = (accOf A t.from_).1 - t.amount := wrap_small (by omega) (by omega)
      rw [do_move A V t he hk, e1]
      have g1 : Good (aput A t.from_ ((accOf A t.from_).1 - t.amount, wrap64 ((accOf A t.from_).2 + 1))) := h.put (by simp; omega) (by simp; omega)
      have s1 := sumA_aput A t.from_ ((accOf A t.from_).1 - t.amount, wrap64 ((accOf A t.from_).2 + 1))
      have hb := acc_le g1.pos t.to
      simp only at s1
      have e2 : wrap64 ((accOf (aput A t.from_ ((accOf A t.from_).1 - t.amount, wrap64 ((accOf A t.from_).2 + 1))) t.to).1 + t.amount) = (accOf (aput A t.from_ ((accOf A t.from_).1 - t.amount, wrap64 ((accOf A t.from_).2 + 1))) t.to).1 + t.amount := wrap_small (by omega) (by omega)
      rw [e2]
      exact g1.put (by simp; omega) (by simp; omega)
    · rw [do_put A V t he hk]
      exact h.put (by simp; omega) (by simp; omega)
  · rw [do_bad A V t he]
    exact h
theorem nonce_after {A : Accs} {V : Vals} {t : Tx} (he : errOf t (accOf A t.from_) = 0) : (accOf (doR A V t).2.1 t.from_).2 = wrap64 ((accOf A t.from_).2 + 1) := by
  by_cases hk : t.kind = 1
  · rw [do_move A V t he hk]
    simp only [accOf_aput]
    by_cases e : t.from_ = t.to
    · rw [← e]; simp
    · simp [e]
  · rw [do_put A V t he hk]
    simp [accOf_aput]
theorem again {A : Accs} {V : Vals} {t : Tx} (he : errOf t (accOf A t.from_) = 0) : doR (doR A V t).2.1 (doR A V t).2.2 t = (90, (doR A V t).2.1, (doR A V t).2.2) := by
  obtain ⟨h1, h2, -⟩ := ok_facts he
  obtain ⟨h3, h4, -⟩ := ok_nums h1
  have hn : (accOf (doR A V t).2.1 t.from_).2 = t.nonce := by rw [nonce_after he, h2]
  have hx : errOf t (accOf (doR A V t).2.1 t.from_) = 90 := by
    unfold errOf
    have : txErr t = 0 := by unfold txErr; rw [h1]; rfl
    rw [this, if_neg (by simp), hn, if_pos]
    unfold wrap64
    omega
  have e1 := do_err (doR A V t).2.1 (doR A V t).2.2 t
  have e2 := do_bad (doR A V t).2.1 (doR A V t).2.2 t (by rw [hx]; decide)
  rw [hx] at e1
  exact Prod.ext e1 e2
theorem newGo_good : ∀ (l : List (ByteArray × Int)) (all : Int) (A : Accs), Good A → sumA A = all → Good (newGo l all A).2
  | [], all, A, h, _ => by simpa [newGo] using h
  | (nm, am) :: r, all, A, h, hs => by
    have h0 : Good [] := ⟨by simp, by simp [sumA]⟩
    rw [newGo]
    split
    · exact h0
    · rename_i h1
      split
      · exact h0
      · rename_i h2
        split
        · exact h0
        · rename_i h3
          have hg : aget A nm = none := by
            cases e : aget A nm with
            | none => rfl
            | some v => rw [e] at h2; simp at h2
          have ha : accOf A nm = (0, 0) := by unfold accOf; rw [hg]; rfl
          have hadd : (addR all am).1 = all + am ∧ all + am ≤ 4611686018427387904 := by
            unfold addR at h3 ⊢
            split
            · rename_i hm
              simp only [Bool.and_eq_true] at hm
              exact ⟨rfl, ((mayN_iff _).1 hm.2.2).2⟩
            · rename_i hm
              rw [if_neg hm] at h3
              simp at h3
          refine newGo_good r _ _ (h.put (by simp; omega) ?_) ?_
          · rw [ha]; simp; omega
          · rw [sumA_aput, ha, hadd.1]; simp; omega
theorem newR_good (l : List (ByteArray × Int)) : Good (newR l).2 := newGo_good l 0 [] ⟨by simp, by simp [sumA]⟩ (by simp [sumA])
end Go.Proofs.YtnhpkefjmpgneaaDoor
