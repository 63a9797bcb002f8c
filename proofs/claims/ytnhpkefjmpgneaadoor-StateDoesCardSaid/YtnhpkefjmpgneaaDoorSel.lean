import Derived.Test.YtnhpkefjmpgneaaDoorDigest1
namespace Go.Proofs.YtnhpkefjmpgneaaDoor
open Go.RowKit

/-! ### the least one is taken away, again and again -/
section
variable {α : Type} (lt : α → α → Bool)
/-- The place of the least one of the first n (at least one). -/
def minIdx (L : List α) : Nat → Nat
  | 0 => 0
  | n + 1 => match L[n]?, L[minIdx L n]? with
    | some x, some m => if 0 < n ∧ lt x m = true then n else minIdx L n
    | _, _ => 0
theorem minIdx_lt {L : List α} : ∀ n, 0 < n → n ≤ L.length → minIdx lt L n < n
  | 0, h, _ => by omega
  | n + 1, _, h => by
    unfold minIdx
    split
    · rename_i x m hx hm
      split
      · omega
      · rcases Nat.eq_zero_or_pos n with h0 | h0
        · subst h0
          unfold minIdx
          omega
        · have := minIdx_lt (L := L) n h0 (by omega)
          omega
    · omega
theorem minIdx_step {L : List α} {n k : Nat} (h0 : 0 < n) (hn : n < L.length) (hk : minIdx lt L n = k) (hkl : k < L.length) : minIdx lt L (n + 1) = if lt L[n] L[k] = true then n else k := by
  unfold minIdx
  rw [hk, List.getElem?_eq_getElem hn, List.getElem?_eq_getElem hkl]
  simp [h0]
theorem minIdx_one (L : List α) (h : 0 < L.length) : minIdx lt L 1 = 0 := by
  have := minIdx_lt lt (L := L) 1 (by omega) h
  omega
variable (h1 : ∀ x, lt x x = false) (h2 : ∀ x y z, lt x y = true → lt y z = true → lt x z = true)
include h1 h2 in
theorem minIdx_least {L : List α} : ∀ n, (hn : 0 < n) → (h : n ≤ L.length) → ∀ i, (hi : i < n) → lt L[i] (L[minIdx lt L n]'(Nat.lt_of_lt_of_le (minIdx_lt lt n hn h) h)) = false
  | 0, hn, _, _, _ => by omega
  | n + 1, _, h, i, hi => by
    rcases Nat.eq_zero_or_pos n with h0 | h0
    · subst h0
      have e : minIdx lt L (0 + 1) = 0 := minIdx_one lt L (by omega)
      have : i = 0 := by omega
      subst this
      simp only [e]
      exact h1 _
    · have hk := minIdx_lt lt (L := L) n h0 (by omega)
      have hs := minIdx_step lt (L := L) h0 (by omega) rfl (Nat.lt_of_lt_of_le hk (by omega))
      by_cases hc : lt L[n] L[minIdx lt L n] = true
      · rw [if_pos hc] at hs
        simp only [hs]
        rcases Nat.lt_or_ge i n with hin | hin
        · have := minIdx_least (L := L) n h0 (by omega) i hin
          cases hx : lt L[i] L[n] with
          | false => rfl
          | true => rw [h2 _ _ _ hx hc] at this; cases this
        · have : i = n := by omega
          subst this
          exact h1 _
      · rw [if_neg hc] at hs
        simp only [hs]
        rcases Nat.lt_or_ge i n with hin | hin
        · exact minIdx_least (L := L) n h0 (by omega) i hin
        · have : i = n := by omega
          subst this
          simpa using hc
/-- All of them, the least one first. -/
def selF : Nat → List α → List α
  | 0, _ => []
  | n + 1, L => match L[minIdx lt L L.length]? with
    | some x => x :: selF n (L.eraseIdx (minIdx lt L L.length))
    | none => []
def sel (L : List α) : List α := selF lt L.length L
theorem sel_nil : sel lt ([] : List α) = [] := rfl
theorem sel_cons {L : List α} {k : Nat} (hk : minIdx lt L L.length = k) (h : k < L.length) : sel lt L = L[k] :: sel lt (L.eraseIdx k) := by
  unfold sel
  obtain ⟨n, hn⟩ : ∃ n, L.length = n + 1 := ⟨L.length - 1, by omega⟩
  have he : (L.eraseIdx k).length = n := by rw [List.length_eraseIdx, if_pos h]; omega
  rw [he]
  conv => lhs; rw [hn]
  rw [selF, hk, List.getElem?_eq_getElem h]
theorem cons_erase_perm {α : Type} : ∀ (L : List α) (k : Nat) (h : k < L.length), (L[k] :: L.eraseIdx k).Perm L
  | [], k, h => by simp at h
  | x :: r, 0, h => List.Perm.refl _
  | x :: r, k + 1, h => by
    simp only [List.getElem_cons_succ, List.eraseIdx_cons_succ]
    exact (List.Perm.swap x _ _).trans (List.Perm.cons x (cons_erase_perm r k (by simpa using h)))
theorem sel_perm : ∀ (n : Nat) (L : List α), L.length = n → (sel lt L).Perm L
  | 0, L, h => by
    have : L = [] := List.eq_nil_of_length_eq_zero h
    subst this
    exact List.Perm.refl _
  | n + 1, L, h => by
    have hk := minIdx_lt lt (L := L) L.length (by omega) (Nat.le_refl _)
    rw [sel_cons lt rfl hk]
    have he : (L.eraseIdx (minIdx lt L L.length)).length = n := by rw [List.length_eraseIdx, if_pos hk]; omega
    exact (List.Perm.cons _ (sel_perm n _ he)).trans (cons_erase_perm L _ hk)
include h1 h2 in
theorem sel_sorted : ∀ (n : Nat) (L : List α), L.length = n → (sel lt L).Pairwise fun x y => lt y x = false
  | 0, L, h => by
    have : L = [] := List.eq_nil_of_length_eq_zero h
    subst this
    exact List.Pairwise.nil
  | n + 1, L, h => by
    have hk := minIdx_lt lt (L := L) L.length (by omega) (Nat.le_refl _)
    rw [sel_cons lt rfl hk]
    have he : (L.eraseIdx (minIdx lt L L.length)).length = n := by rw [List.length_eraseIdx, if_pos hk]; omega
    refine List.Pairwise.cons (fun y hy => ?_) (sel_sorted n _ he)
    have hy2 := List.mem_of_mem_eraseIdx ((sel_perm lt n _ he).mem_iff.1 hy)
    obtain ⟨i, hi, rfl⟩ := List.getElem_of_mem hy2
    exact minIdx_least lt h1 h2 L.length (by omega) (Nat.le_refl _) i hi
end
/-! ### accounts and values -/
theorem aget_cons {K V : Type} [DecidableEq K] (y : K) (v : V) (r : List (K × V)) (x : K) : aget ((y, v) :: r) x = if x = y then some v else aget r x := rfl
def ltA (x y : ByteArray × (Int × Int)) : Bool := lessB x.1 y.1
def ltV (x y : (ByteArray × ByteArray) × ByteArray) : Bool := lessP x.1 y.1
def rline1 (x : ByteArray × (Int × Int)) : List UInt8 := if x.2.1 = 0 ∧ x.2.2 = 0 then [] else (x.1 ++ ⟨#[32]⟩ ++ printB x.2.1 ++ ⟨#[32]⟩ ++ printB x.2.2 ++ ⟨#[10]⟩).data.toList
def rline2 (x : (ByteArray × ByteArray) × ByteArray) : List UInt8 := if x.2 = ⟨#[]⟩ then [] else (x.1.1 ++ ⟨#[9]⟩ ++ x.1.2 ++ ⟨#[9]⟩ ++ x.2 ++ ⟨#[10]⟩).data.toList
theorem aget_of_mem {K V : Type} [DecidableEq K] {l : List (K × V)} (hn : (l.map (·.1)).Nodup) {x : K × V} (h : x ∈ l) : aget l x.1 = some x.2 := by
  induction l with
  | nil => cases h
  | cons p r ih =>
    obtain ⟨y, u⟩ := p
    simp only [List.map_cons, List.nodup_cons] at hn
    rcases List.mem_cons.1 h with rfl | h
    · rw [aget_cons, if_pos rfl]
    · have hne : x.1 ≠ y := fun e => hn.1 (e ▸ List.mem_map.2 ⟨x, h, rfl⟩)
      rw [aget_cons, if_neg hne]
      exact ih hn.2 h
theorem flatMap_congr' {α β : Type} {l : List α} {f g : α → List β} (h : ∀ x ∈ l, f x = g x) : l.flatMap f = l.flatMap g := by
  induction l with
  | nil => rfl
  | cons a r ih => rw [List.flatMap_cons, List.flatMap_cons, h a (List.mem_cons_self ..), ih fun x hx => h x (List.mem_cons_of_mem _ hx)]
theorem selA_line {A : Accs} (hn : (A.map (·.1)).Nodup) : (sel ltA A).flatMap rline1 = (sortB (A.map (·.1))).flatMap (line1 A) := by
  have hp := sel_perm ltA _ A rfl
  have hs := sel_sorted ltA (fun x => lessB_irrefl _) (fun x y z h h' => lessB_trans h h') _ A rfl
  have e : (sel ltA A).map (·.1) = sortB (A.map (·.1)) := sortB_unique (hp.map _) (by
    rw [List.pairwise_map]
    exact hs.imp fun h => by unfold leB; unfold ltA at h; rw [h]; rfl)
  rw [← e, List.flatMap_map]
  refine flatMap_congr' fun x hx => ?_
  have := aget_of_mem hn (hp.mem_iff.1 hx)
  unfold rline1 line1 accOf
  rw [this]
  rfl
theorem selV_line {V : Vals} (hn : (V.map (·.1)).Nodup) : (sel ltV V).flatMap rline2 = (sortP (V.map (·.1))).flatMap (line2 V) := by
  have hp := sel_perm ltV _ V rfl
  have hs := sel_sorted ltV (fun x => lessP_irrefl _) (fun x y z h h' => lessP_trans h h') _ V rfl
  have e : (sel ltV V).map (·.1) = sortP (V.map (·.1)) := sortP_unique (hp.map _) (by
    rw [List.pairwise_map]
    exact hs.imp fun h => by unfold leP; unfold ltV at h; rw [h]; rfl)
  rw [← e, List.flatMap_map]
  refine flatMap_congr' fun x hx => ?_
  have := aget_of_mem hn (hp.mem_iff.1 hx)
  unfold rline2 line2 valOf
  rw [this]
  rfl
theorem dig_sel {A : Accs} {V : Vals} (h1 : (A.map (·.1)).Nodup) (h2 : (V.map (·.1)).Nodup) : digB A V = ⟨((sel ltA A).flatMap rline1 ++ (sel ltV V).flatMap rline2).toArray⟩ := by
  unfold digB digL
  rw [selA_line h1, selV_line h2]
end Go.Proofs.YtnhpkefjmpgneaaDoor
