import Derived.Test.YtnhpkefjmpgneaaDoorOrder
import Derived.Shelf.SlSortCmp.Insertion
import Derived.Shelf.SlSortCmp.InsertionK
import Derived.Shelf.SlSortCmp.Kit1
import Derived.Shelf.SlSortCmp.KitK
namespace Go.Proofs.YtnhpkefjmpgneaaDoor
open Go.RowKit Go.Sort

/-! ### the orders are total -/
theorem cmpR_eq : ∀ x y : List Int, cmpR x y = .eq ↔ x = y
  | [], [] => by simp [cmpR]
  | [], _ :: _ => by simp [cmpR]
  | _ :: _, [] => by simp [cmpR]
  | c :: x, d :: y => by
    rw [cmpR]
    by_cases h1 : d < c
    · rw [if_pos h1]; simp; intro h; omega
    · by_cases h2 : c < d
      · rw [if_neg h1, if_pos h2]; simp; intro h; omega
      · rw [if_neg h1, if_neg h2, cmpR_eq x y]; simp; intro; omega
theorem cmpR_swap : ∀ x y : List Int, cmpR x y = .lt ↔ cmpR y x = .gt
  | [], [] => by simp [cmpR]
  | [], _ :: _ => by simp [cmpR]
  | _ :: _, [] => by simp [cmpR]
  | c :: x, d :: y => by
    rw [cmpR, cmpR]
    by_cases h1 : d < c
    · rw [if_pos h1, if_neg (by omega), if_pos h1]; simp
    · by_cases h2 : c < d
      · rw [if_neg h1, if_pos h2, if_pos h2]; simp
      · rw [if_neg h1, if_neg h2, if_neg h2, if_neg h1]; exact cmpR_swap x y
theorem cmpR_trans : ∀ x y z : List Int, cmpR x y = .lt → cmpR y z = .lt → cmpR x z = .lt
  | [], [], z => by simp [cmpR]
  | [], _ :: _, [] => by simp [cmpR]
  | [], _ :: _, _ :: _ => by simp [cmpR]
  | _ :: _, [], z => by simp [cmpR]
  | _ :: _, _ :: _, [] => by simp [cmpR]
  | c :: x, d :: y, e :: z => by
    simp only [cmpR]
    intro h1 h2
    have h : cmpR x y = .lt → cmpR y z = .lt → cmpR x z = .lt := cmpR_trans x y z
    repeat' split at h1
    all_goals repeat' split at h2
    all_goals first
      | (cases h1; done)
      | (cases h2; done)
      | (rw [if_neg (by omega), if_pos (by omega)])
      | (rw [if_neg (by omega), if_neg (by omega)]; exact h h1 h2)
theorem lessB_iff (a b : ByteArray) : lessB a b = true ↔ cmpR (rns a) (rns b) = .lt ∨ (rns a = rns b ∧ a.toList < b.toList) := by
  unfold lessB
  have h := cmpR_eq (rns a) (rns b)
  cases hc : cmpR (rns a) (rns b) with
  | lt => simp
  | gt => rw [hc] at h; simp; intro h2; simp [h2] at h
  | eq => rw [hc] at h; simp [bytesLess_eq]; intro; exact h.1 rfl
theorem toList_inj {a b : ByteArray} (h : a.toList = b.toList) : a = b := by
  have := beqBytes a b
  rw [beq_toListBytes, h] at this
  simpa using this.symm
theorem lessB_irrefl (a : ByteArray) : lessB a a = false := by
  rw [← Bool.not_eq_true, lessB_iff, (cmpR_eq _ _).2 rfl]
  simp [List.lt_irrefl]
theorem lessB_trans {a b c : ByteArray} (h1 : lessB a b = true) (h2 : lessB b c = true) : lessB a c = true := by
  rw [lessB_iff] at *
  rcases h1 with h1 | ⟨h1, h1'⟩
  · rcases h2 with h2 | ⟨h2, h2'⟩
    · exact .inl (cmpR_trans _ _ _ h1 h2)
    · rw [← h2]; exact .inl h1
  · rw [h1]
    rcases h2 with h2 | ⟨h2, h2'⟩
    · exact .inl h2
    · exact .inr ⟨h2, List.lt_trans h1' h2'⟩
theorem lessB_tri {a b : ByteArray} (h1 : lessB a b = false) (h2 : lessB b a = false) : a = b := by
  rw [← Bool.not_eq_true, lessB_iff] at *
  cases hc : cmpR (rns a) (rns b) with
  | lt => exact absurd (.inl hc) h1
  | gt => exact absurd (.inl ((cmpR_swap _ _).2 hc)) h2
  | eq =>
    have he := (cmpR_eq _ _).1 hc
    apply toList_inj
    refine List.le_antisymm ?_ ?_
    · exact Classical.not_not.1 fun h => h2 (.inr ⟨he.symm, List.not_le.1 h⟩)
    · exact Classical.not_not.1 fun h => h1 (.inr ⟨he, List.not_le.1 h⟩)
theorem swo_of_tri {α : Type} {lt : α → α → Bool} (h1 : ∀ x, lt x x = false) (h2 : ∀ x y z, lt x y = true → lt y z = true → lt x z = true) (h3 : ∀ x y, lt x y = false → lt y x = false → x = y) : SWO lt :=
  ⟨h1, h2, fun x y z hx hy => by
    cases hyx : lt y x with
    | false => rw [h3 x y hx hyx]; exact hy
    | true =>
      cases hzy : lt z y with
      | false => rw [← h3 y z hy hzy]; exact hx
      | true =>
        rw [← Bool.not_eq_true]
        intro hxz
        have := h2 _ _ _ (h2 _ _ _ hzy hyx) hxz
        rw [h1] at this
        cases this⟩
theorem orderR_neg (a b : ByteArray) : decide (orderR a b < 0) = lessB a b := by
  unfold orderR
  cases lessB a b
  · by_cases h : a = b <;> simp [h]
  · simp
theorem orderR_zero (a b : ByteArray) : orderR a b = 0 ↔ a = b := by
  unfold orderR
  cases h1 : lessB a b
  · by_cases h : a = b <;> simp [h]
  · simp
    rintro rfl
    rw [lessB_irrefl] at h1
    cases h1
def lessP (p q : Place) : Bool := if p.1 = q.1 then lessB p.2 q.2 else lessB p.1 q.1
theorem orderP_neg (p q : Place) : decide (orderP p q < 0) = lessP p q := by
  unfold orderP lessP
  by_cases h : p.1 = q.1
  · rw [if_pos h, if_neg (by simp [orderR_zero, h]), orderR_neg]
  · rw [if_neg h, if_pos (by simp [orderR_zero, h]), orderR_neg]
theorem lessP_irrefl (p : Place) : lessP p p = false := by simp [lessP, lessB_irrefl]
theorem lessP_trans {p q r : Place} (h1 : lessP p q = true) (h2 : lessP q r = true) : lessP p r = true := by
  unfold lessP at *
  by_cases ha : p.1 = q.1
  · rw [if_pos ha] at h1
    by_cases hb : q.1 = r.1
    · rw [if_pos hb] at h2
      rw [if_pos (ha.trans hb)]
      exact lessB_trans h1 h2
    · rw [if_neg hb] at h2
      rw [ha, if_neg hb]
      exact h2
  · rw [if_neg ha] at h1
    by_cases hb : q.1 = r.1
    · rw [← hb, if_neg ha]
      exact h1
    · rw [if_neg hb] at h2
      by_cases hc : p.1 = r.1
      · rw [← hc] at h2
        have := lessB_trans h1 h2
        rw [lessB_irrefl] at this
        cases this
      · rw [if_neg hc]
        exact lessB_trans h1 h2
theorem lessP_tri {p q : Place} (h1 : lessP p q = false) (h2 : lessP q p = false) : p = q := by
  unfold lessP at *
  by_cases ha : p.1 = q.1
  · rw [if_pos ha] at h1
    rw [if_pos ha.symm] at h2
    exact Prod.ext ha (lessB_tri h1 h2)
  · rw [if_neg ha] at h1
    rw [if_neg (Ne.symm ha)] at h2
    exact absurd (lessB_tri h1 h2) ha

/-! ### the sort's keys -/
abbrev SKey := {s : ByteArray // s.size ≤ 35184372088831}
abbrev SPlace := {p : Place // p.1.size ≤ 35184372088831 ∧ p.2.size ≤ 35184372088831}
instance : Inhabited SKey := ⟨⟨⟨#[]⟩, by decide⟩⟩
instance : Inhabited SPlace := ⟨⟨(⟨#[]⟩, ⟨#[]⟩), by decide, by decide⟩⟩
def encK (x : SKey) : Value := .string x.1
def encP (x : SPlace) : List Value := [.string x.1.1, .string x.1.2]
def cfK (x y : SKey) : Int := orderR x.1 y.1
def cfP (x y : SPlace) : Int := orderP x.1 y.1
theorem ltK (x y : SKey) : ltOf cfK x y = lessB x.1 y.1 := orderR_neg _ _
theorem ltP (x y : SPlace) : ltOf cfP x y = lessP x.1 y.1 := orderP_neg _ _
theorem triK (x y : SKey) (h1 : ltOf cfK x y = false) (h2 : ltOf cfK y x = false) : x = y := by
  rw [ltK] at h1 h2
  exact Subtype.ext (lessB_tri h1 h2)
theorem triP (x y : SPlace) (h1 : ltOf cfP x y = false) (h2 : ltOf cfP y x = false) : x = y := by
  rw [ltP] at h1 h2
  exact Subtype.ext (lessP_tri h1 h2)
theorem swoK : SWO (ltOf cfK) := swo_of_tri (fun x => by rw [ltK, lessB_irrefl]) (fun x y z h1 h2 => by rw [ltK] at *; exact lessB_trans h1 h2) triK
theorem swoP : SWO (ltOf cfP) := swo_of_tri (fun x => by rw [ltP, lessP_irrefl]) (fun x y z h1 h2 => by rw [ltP] at *; exact lessP_trans h1 h2) triP
/-- A world that only grew and drew. -/
theorem grown_of {w w' : World} (hb : Below w.heap.size w w') (hd : w.drawn ≤ w'.drawn) : ∃ q os', w' = grow (w.drewN q) os' := by
  refine ⟨w'.drawn - w.drawn, w'.heap.extract w.heap.size w'.heap.size, ?_⟩
  have hh : w'.heap = w.heap ++ w'.heap.extract w.heap.size w'.heap.size := by
    apply Array.ext_getElem?
    intro i
    have := hb.size
    by_cases hi : i < w.heap.size
    · rw [hb.block i hi, Array.getElem?_append_left hi]
    · rw [Array.getElem?_append_right (by omega), Array.getElem?_extract]
      by_cases h2 : i < w'.heap.size
      · rw [if_pos (by omega), show w.heap.size + (i - w.heap.size) = i by omega]
      · rw [if_neg (by omega), Array.getElem?_eq_none (by omega)]
  obtain ⟨heap', tape', drawn', os', output'⟩ := w'
  have h1 := hb.os
  have h2 := hb.tape
  have h3 := hb.output
  unfold grow World.drewN
  simp only at h1 h2 h3 hh hd ⊢
  subst h1 h2 h3
  rw [← hh, show w.drawn + (drawn' - w.drawn) = drawn' by omega]
theorem cmpK (blk off size : Nat) (w : World) : CmpLays1 Tryd.prog 41 #[] encK cfK blk off size w := fun m os dk _ x y => by
  refine (order_any x.1 y.1 x.2 y.2 _).mono ?_
  rintro e w' ⟨he, hb, hd⟩
  exact ⟨he, grown_of hb hd⟩
theorem cmpP (blk off size : Nat) (w : World) : CmpLays Tryd.prog 44 #[] encP 2 cfP blk off size w := fun m os dk _ x y => by
  refine (byName_any x.1 y.1 x.2.1 x.2.2 y.2.1 y.2.2 _).mono ?_
  rintro e w' ⟨he, hb, hd⟩
  exact ⟨he, grown_of hb hd⟩
end Go.Proofs.YtnhpkefjmpgneaaDoor
