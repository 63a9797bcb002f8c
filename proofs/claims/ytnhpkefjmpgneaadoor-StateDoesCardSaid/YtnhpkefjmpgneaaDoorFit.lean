import Derived.Test.YtnhpkefjmpgneaaDoorDigest2
namespace Go.Proofs.YtnhpkefjmpgneaaDoor
open Go.RowKit

/-! ### states that a law reaches are small -/
def I64 (z : Int) : Prop := -9223372036854775808 ≤ z ∧ z ≤ 9223372036854775807
theorem i64_wrap (z : Int) : I64 (wrap64 z) := by
  unfold I64 wrap64
  omega
theorem mem_aput {K V : Type} [DecidableEq K] {l : List (K × V)} {k : K} {v : V} {x : K × V} (h : x ∈ aput l k v) : x = (k, v) ∨ x ∈ l := by
  induction l with
  | nil => simpa [aput] using h
  | cons p r ih =>
    obtain ⟨z, u⟩ := p
    unfold aput at h
    by_cases e : k = z
    · rw [if_pos e] at h
      rcases List.mem_cons.1 h with h | h
      · exact .inl h
      · exact .inr (List.mem_cons_of_mem _ h)
    · rw [if_neg e] at h
      rcases List.mem_cons.1 h with h | h
      · exact .inr (by rw [h]; exact List.mem_cons_self ..)
      · rcases ih h with h | h
        · exact .inl h
        · exact .inr (List.mem_cons_of_mem _ h)
theorem aget_mem {K V : Type} [DecidableEq K] {l : List (K × V)} {k : K} {v : V} (h : aget l k = some v) : (k, v) ∈ l := by
  induction l with
  | nil => simp [aget] at h
  | cons p r ih =>
    obtain ⟨z, u⟩ := p
    unfold aget at h
    by_cases e : k = z
    · rw [if_pos e] at h
      cases h
      rw [e]
      exact List.mem_cons_self ..
    · rw [if_neg e] at h
      exact List.mem_cons_of_mem _ (ih h)
structure Fit (n : Nat) (A : Accs) (V : Vals) : Prop where
  lenA : A.length ≤ n
  lenV : V.length ≤ n
  nodA : (A.map (·.1)).Nodup
  nodV : (V.map (·.1)).Nodup
  keyA : ∀ x ∈ A, x.1.size ≤ 1000 ∧ I64 x.2.1 ∧ I64 x.2.2
  keyV : ∀ x ∈ V, x.1.1.size ≤ 1000 ∧ x.1.2.size ≤ 1000 ∧ x.2.size ≤ 1000
theorem Fit.mono {n m : Nat} {A : Accs} {V : Vals} (h : Fit n A V) (hn : n ≤ m) : Fit m A V := ⟨Nat.le_trans h.lenA hn, Nat.le_trans h.lenV hn, h.nodA, h.nodV, h.keyA, h.keyV⟩
theorem Fit.acc {n : Nat} {A : Accs} {V : Vals} (h : Fit n A V) (s : ByteArray) : I64 (accOf A s).1 ∧ I64 (accOf A s).2 := by
  unfold accOf
  cases e : aget A s with
  | none => exact ⟨by unfold I64; decide, by unfold I64; decide⟩
  | some v => exact (h.keyA _ (aget_mem e)).2
theorem Fit.val {n : Nat} {A : Accs} {V : Vals} (h : Fit n A V) (p : ByteArray × ByteArray) : (valOf V p).size ≤ 1000 := by
  unfold valOf
  cases e : aget V p with
  | none => exact Nat.zero_le _
  | some v => exact (h.keyV _ (aget_mem e)).2.2
theorem Fit.putA {n : Nat} {A : Accs} {V : Vals} (h : Fit n A V) {k : ByteArray} {a : Int × Int} (hk : k.size ≤ 1000) (h1 : I64 a.1) (h2 : I64 a.2) : Fit (n + 1) (aput A k a) V :=
  ⟨Nat.le_trans (length_aput _ _ _) (Nat.succ_le_succ h.lenA), Nat.le_succ_of_le h.lenV, nodup_aput h.nodA _ _, h.nodV, fun x hx => by
    rcases mem_aput hx with rfl | hx
    · exact ⟨hk, h1, h2⟩
    · exact h.keyA x hx, h.keyV⟩
theorem Fit.putV {n : Nat} {A : Accs} {V : Vals} (h : Fit n A V) {k : ByteArray × ByteArray} {v : ByteArray} (h0 : k.1.size ≤ 1000) (h1 : k.2.size ≤ 1000) (h2 : v.size ≤ 1000) : Fit (n + 1) A (aput V k v) :=
  ⟨Nat.le_succ_of_le h.lenA, Nat.le_trans (length_aput _ _ _) (Nat.succ_le_succ h.lenV), h.nodA, nodup_aput h.nodV _ _, h.keyA, fun x hx => by
    rcases mem_aput hx with rfl | hx
    · exact ⟨h0, h1, h2⟩
    · exact h.keyV x hx⟩
/-- A transaction of texts that are looked at. -/
structure Tx.Slim (t : Tx) : Prop where
  sf : t.from_.size ≤ 1000
  st : t.to.size ≤ 1000
  sk : t.key.size ≤ 1000
  sv : t.val.size ≤ 1000
theorem Fit.do {n : Nat} {A : Accs} {V : Vals} (h : Fit n A V) {t : Tx} (ht : t.Slim) : Fit (n + 2) (doR A V t).2.1 (doR A V t).2.2 := by
  unfold doR
  split
  · exact h.mono (by omega)
  · dsimp only
    split
    · exact h.mono (by omega)
    · split
      · split
        · exact h.mono (by omega)
        · have h1 := h.putA (a := (wrap64 ((accOf A t.from_).1 - t.amount), wrap64 ((accOf A t.from_).2 + 1))) ht.sf (i64_wrap _) (i64_wrap _)
          exact h1.putA ht.st (i64_wrap _) (h1.acc _).2
      · have h1 := h.putA (a := ((accOf A t.from_).1, wrap64 ((accOf A t.from_).2 + 1))) ht.sf (h.acc _).1 (i64_wrap _)
        exact h1.putV (k := (t.from_, t.key)) ht.sf ht.sk ht.sv
theorem dec_len : ∀ (k n : Nat), n < 10 ^ (k + 1) → (dec n).length ≤ k + 1
  | 0, n, h => by rw [dec, if_pos (by omega)]; simp
  | k + 1, n, h => by
    rw [dec]
    split
    · simp
    · have := dec_len k (n / 10) (by rw [Nat.pow_succ] at h; omega)
      simp
      omega
theorem printB_size {n : Int} (h : I64 n) : (printB n).size ≤ 20 := by
  unfold I64 at h
  have h1 := dec_len 18 n.natAbs (by omega)
  have : (printB n).size = ((if n < 0 then [45] else []) ++ dec n.natAbs : List UInt8).length := by
    unfold printB
    rw [← list_size]
  rw [this, List.length_append]
  split <;> simp <;> omega
theorem flat_bound {α β : Type} (f : α → List β) (c : Nat) (l : List α) (h : ∀ x ∈ l, (f x).length ≤ c) : (l.flatMap f).length ≤ l.length * c := by
  induction l with
  | nil => simp
  | cons a r ih =>
    rw [List.flatMap_cons, List.length_append, List.length_cons, Nat.succ_mul]
    have h1 := h a (List.mem_cons_self ..)
    have h2 := ih fun x hx => h x (List.mem_cons_of_mem _ hx)
    omega
theorem Fit.small {n : Nat} {A : Accs} {V : Vals} (h : Fit n A V) (hn : n ≤ 1000000) : SmallState A V where
  lenA := Nat.le_trans h.lenA hn
  lenV := Nat.le_trans h.lenV hn
  keysA := fun x hx => by
    obtain ⟨y, hy, rfl⟩ := List.mem_map.1 hx
    have := (h.keyA y hy).1
    omega
  keysV := fun x hx => by
    obtain ⟨y, hy, rfl⟩ := List.mem_map.1 hx
    have := h.keyV y hy
    exact ⟨by omega, by omega⟩
  ints := fun s => h.acc s
  total := by
    unfold digL
    have h1 : ((sortB (A.map (·.1))).flatMap (line1 A)).length ≤ (sortB (A.map (·.1))).length * 2000 := flat_bound _ _ _ fun x hx => by
      have hx2 := (perm_sortB _).mem_iff.1 hx
      obtain ⟨y, hy, rfl⟩ := List.mem_map.1 hx2
      have hk := (h.keyA y hy).1
      unfold line1
      split
      · simp
      · have p1 := printB_size (h.acc y.1).1
        have p2 := printB_size (h.acc y.1).2
        rw [list_size]
        simp only [ByteArray.size_append]
        have e1 : (⟨#[32]⟩ : ByteArray).size = 1 := rfl
        have e2 : (⟨#[10]⟩ : ByteArray).size = 1 := rfl
        rw [e1, e2]
        omega
    have h2 : ((sortP (V.map (·.1))).flatMap (line2 V)).length ≤ (sortP (V.map (·.1))).length * 4000 := flat_bound _ _ _ fun x hx => by
      have hx2 := (perm_sortP _).mem_iff.1 hx
      obtain ⟨y, hy, rfl⟩ := List.mem_map.1 hx2
      have hk := h.keyV y hy
      have hv := h.val y.1
      unfold line2
      split
      · simp
      · rw [list_size]
        simp only [ByteArray.size_append]
        have e1 : (⟨#[9]⟩ : ByteArray).size = 1 := rfl
        have e2 : (⟨#[10]⟩ : ByteArray).size = 1 := rfl
        rw [e1, e2]
        omega
    have l1 : (sortB (A.map (·.1))).length ≤ 1000000 := by rw [(perm_sortB _).length_eq, List.length_map]; exact Nat.le_trans h.lenA hn
    have l2 : (sortP (V.map (·.1))).length ≤ 1000000 := by rw [(perm_sortP _).length_eq, List.length_map]; exact Nat.le_trans h.lenV hn
    rw [List.length_append]
    omega
/-- States that hold the same show the same. -/
theorem keys_perm {K V : Type} [DecidableEq K] {l m : List (K × V)} (hl : (l.map (·.1)).Nodup) (hm : (m.map (·.1)).Nodup) (h : ∀ x, aget l x = aget m x) : (l.map (·.1)).Perm (m.map (·.1)) := by
  refine (List.perm_ext_iff_of_nodup hl hm).2 fun x => ?_
  have h1 := @aget_none K V _ l x
  have h2 := @aget_none K V _ m x
  rw [h x] at h1
  constructor
  · intro hx
    exact Classical.not_not.1 fun hn => (h1.1 (h2.2 hn)) hx
  · intro hx
    exact Classical.not_not.1 fun hn => (h2.1 (h1.2 hn)) hx
theorem dig_same {A A' : Accs} {V V' : Vals} (h1 : (A.map (·.1)).Nodup) (h2 : (A'.map (·.1)).Nodup) (h3 : (V.map (·.1)).Nodup) (h4 : (V'.map (·.1)).Nodup) (hA : ∀ x, aget A x = aget A' x) (hV : ∀ x, aget V x = aget V' x) : digB A V = digB A' V' := by
  have e1 : line1 A = line1 A' := by funext s; unfold line1 accOf; rw [hA s]
  have e2 : line2 V = line2 V' := by funext s; unfold line2 valOf; rw [hV s]
  unfold digB digL
  rw [sortB_perm (keys_perm h1 h2 hA), sortP_perm (keys_perm h3 h4 hV), e1, e2]
end Go.Proofs.YtnhpkefjmpgneaaDoor
