import Derived.Test.YtnhpkefjmpgneaaDoorShows
import Derived.Test.YtnhpkefjmpgneaaDoorKeeps1
import Derived.Test.YtnhpkefjmpgneaaDoorRef09c
import Derived.Test.YtnhpkefjmpgneaaDoorRef09f
namespace Go.Proofs.YtnhpkefjmpgneaaDoor
open Go.RowKit

/-! ### StateDoes, plain: the two go the same way -/
theorem aget_rput {K V : Type} [DecidableEq K] (l : List (K × V)) (k : K) (v : V) (x : K) : aget (rput l k v) x = if x = k then some v else aget l x := by
  unfold rput
  induction l with
  | nil => simp [aget]
  | cons p r ih =>
    obtain ⟨y, u⟩ := p
    by_cases h : y = k
    · subst h
      rw [List.filter_cons_of_neg (by simp), ih, aget_cons]
      split <;> rfl
    · rw [List.filter_cons_of_pos (by simp [h]), List.cons_append, aget_cons, ih, aget_cons]
      by_cases hx : x = y
      · subst hx
        rw [if_pos rfl, if_neg h, if_pos rfl]
      · rw [if_neg hx, if_neg hx]
theorem keys_filter {K V : Type} [DecidableEq K] (l : List (K × V)) (k : K) : (l.filter (fun x => decide (x.1 ≠ k))).map (·.1) = (l.map (·.1)).filter (fun x => decide (x ≠ k)) := by
  rw [List.filter_map]; rfl
theorem nodup_rput {K V : Type} [DecidableEq K] {l : List (K × V)} (h : (l.map (·.1)).Nodup) (k : K) (v : V) : ((rput l k v).map (·.1)).Nodup := by
  unfold rput
  rw [List.map_append, keys_filter]
  refine List.nodup_append.2 ⟨h.filter _, by simp, fun a ha b hb => ?_⟩
  simp at hb
  subst hb
  have := (List.mem_filter.1 ha).2
  simpa using this
theorem mem_rput {K V : Type} [DecidableEq K] {l : List (K × V)} {k : K} {v : V} {x : K × V} (h : x ∈ rput l k v) : x = (k, v) ∨ x ∈ l := by
  unfold rput at h
  rcases List.mem_append.1 h with h | h
  · exact .inr (List.mem_filter.1 h).1
  · exact .inl (by simpa using h)
theorem length_rput {K V : Type} [DecidableEq K] (l : List (K × V)) (k : K) (v : V) : (rput l k v).length ≤ l.length + 1 := by
  unfold rput
  have := List.length_filter_le (fun x : K × V => decide (x.1 ≠ k)) l
  simp at this ⊢
  omega
theorem Fit.rputA {n : Nat} {A : Accs} {V : Vals} (h : Fit n A V) {k : ByteArray} {a : Int × Int} (hk : k.size ≤ 1000) (h1 : I64 a.1) (h2 : I64 a.2) : Fit (n + 1) (rput A k a) V :=
  ⟨Nat.le_trans (length_rput _ _ _) (Nat.succ_le_succ h.lenA), Nat.le_succ_of_le h.lenV, nodup_rput h.nodA _ _, h.nodV, fun x hx => by
    rcases mem_rput hx with rfl | hx
    · exact ⟨hk, h1, h2⟩
    · exact h.keyA x hx, h.keyV⟩
theorem Fit.rputV {n : Nat} {A : Accs} {V : Vals} (h : Fit n A V) {k : ByteArray × ByteArray} {v : ByteArray} (h0 : k.1.size ≤ 1000) (h1 : k.2.size ≤ 1000) (h2 : v.size ≤ 1000) : Fit (n + 1) A (rput V k v) :=
  ⟨Nat.le_succ_of_le h.lenA, Nat.le_trans (length_rput _ _ _) (Nat.succ_le_succ h.lenV), h.nodA, nodup_rput h.nodV _ _, h.keyA, fun x hx => by
    rcases mem_rput hx with rfl | hx
    · exact ⟨h0, h1, h2⟩
    · exact h.keyV x hx⟩
theorem Fit.rdo {n : Nat} {A : Accs} {V : Vals} (h : Fit n A V) {t : Tx} (ht : t.Slim) : Fit (n + 2) (refDo A V t).2.1 (refDo A V t).2.2 := by
  unfold refDo
  split
  · exact h.mono (by omega)
  · split
    · have h1 := h.rputA (a := (wrap64 ((accOf A t.from_).1 - t.amount), wrap64 ((accOf A t.from_).2 + 1))) ht.sf (i64_wrap _) (i64_wrap _)
      exact h1.rputA ht.st (i64_wrap _) (h1.acc _).2
    · have h1 := h.rputA (a := ((accOf A t.from_).1, wrap64 ((accOf A t.from_).2 + 1))) ht.sf (h.acc _).1 (i64_wrap _)
      exact h1.rputV (k := (t.from_, t.key)) ht.sf ht.sk ht.sv
structure Both (n : Nat) (A : Accs) (V : Vals) (mA : Accs) (mV : Vals) : Prop where
  fit : Fit n A V
  fitM : Fit n mA mV
  acc : ∀ x, aget A x = aget mA x
  val : ∀ x, aget V x = aget mV x
  good : Good A
  nons : ∀ x ∈ A, 0 ≤ x.2.2
theorem Both.alike {n : Nat} {A mA : Accs} {V mV : Vals} (h : Both n A V mA mV) {N : Nat} (hN : n ≤ N) : Alike N A V mA mV :=
  ⟨h.fit.mono hN, h.fitM.mono hN, h.acc, h.val, fun x hx => by
    have h1 := aget_of_mem h.fitM.nodA hx
    rw [← h.acc] at h1
    have h2 := aget_mem h1
    exact ⟨h.good.pos _ h2, h.nons _ h2⟩⟩
theorem accOf_eq {A mA : Accs} (h : ∀ x, aget A x = aget mA x) (x : ByteArray) : accOf mA x = accOf A x := by unfold accOf; rw [h]
theorem both_err {n : Nat} {A mA : Accs} {V mV : Vals} (h : Both n A V mA mV) (t : Tx) : (refDo mA mV t).1 = (doR A V t).1 := by
  rw [do_err]
  unfold refDo
  rw [accOf_eq h.acc]
  split
  · rfl
  · rename_i h0
    have h0' : errOf t (accOf A t.from_) = 0 := by simpa using h0
    rw [h0']
    split <;> rfl
theorem nons_do {A : Accs} {V : Vals} {t : Tx} (h : ∀ x ∈ A, 0 ≤ x.2.2) : ∀ x ∈ (doR A V t).2.1, 0 ≤ x.2.2 := by
  have hacc : ∀ s, 0 ≤ (accOf A s).2 := fun s => by
    unfold accOf
    cases e : aget A s with
    | none => exact Int.le_refl 0
    | some v => exact h _ (aget_mem e)
  by_cases he : errOf t (accOf A t.from_) = 0
  · obtain ⟨h1, h2, -⟩ := ok_facts he
    obtain ⟨h3, -, -⟩ := ok_nums h1
    rw [h2] at h3
    by_cases hk : t.kind = 1
    · rw [do_move A V t he hk]
      intro x hx
      rcases mem_aput hx with rfl | hx
      · simp only [accOf_aput]
        split
        · simp only; omega
        · exact hacc _
      · rcases mem_aput hx with rfl | hx
        · simp only; omega
        · exact h x hx
    · rw [do_put A V t he hk]
      intro x hx
      rcases mem_aput hx with rfl | hx
      · simp only; omega
      · exact h x hx
  · rw [do_bad A V t he]
    exact h
theorem both_do {n : Nat} {A mA : Accs} {V mV : Vals} (h : Both n A V mA mV) {t : Tx} (ht : t.Slim) : Both (n + 2) (doR A V t).2.1 (doR A V t).2.2 (refDo mA mV t).2.1 (refDo mA mV t).2.2 := by
  refine ⟨h.fit.do ht, h.fitM.rdo ht, ?_, ?_, good_do h.good V t, nons_do h.nons⟩
  all_goals
    intro x
    have hac := accOf_eq h.acc t.from_
    by_cases he : errOf t (accOf A t.from_) = 0
    · by_cases hk : t.kind = 1
      · rw [do_move A V t he hk]
        unfold refDo
        rw [hac, if_neg (by simpa using he), if_pos hk]
        first
          | exact h.val x
          | (have e2 : accOf (rput mA t.from_ (wrap64 ((accOf A t.from_).1 - t.amount), wrap64 ((accOf A t.from_).2 + 1))) t.to = accOf (aput A t.from_ (wrap64 ((accOf A t.from_).1 - t.amount), wrap64 ((accOf A t.from_).2 + 1))) t.to := by
               unfold accOf
               simp only [aget_rput, aget_aput, h.acc]
             rw [e2]
             simp only [aget_aput, aget_rput, h.acc])
      · rw [do_put A V t he hk]
        unfold refDo
        rw [hac, if_neg (by simpa using he), if_neg hk]
        first
          | (simp only [aget_aput, aget_rput, h.acc]; done)
          | (simp only [aget_aput, aget_rput, h.val]; done)
    · rw [do_bad A V t he]
      unfold refDo
      rw [hac, if_pos he]
      first | exact h.acc x | exact h.val x
theorem both_new {l : List (ByteArray × Int)} (hl : ∀ x ∈ l, x.1.size ≤ 1000 ∧ I64 x.2) : Both l.length (newR l).2 [] (newR l).2 [] := by
  refine ⟨newR_fit l hl, newR_fit l hl, fun _ => rfl, fun _ => rfl, newR_good l, ?_⟩
  have go : ∀ (l : List (ByteArray × Int)) (all : Int) (A : Accs), (∀ x ∈ A, 0 ≤ x.2.2) → ∀ x ∈ (newGo l all A).2, 0 ≤ x.2.2 := by
    intro l
    induction l with
    | nil => intro all A h; simpa [newGo] using h
    | cons p r ih =>
      intro all A h
      obtain ⟨nm, am⟩ := p
      rw [newGo]
      split
      · intro x hx; cases hx
      · split
        · intro x hx; cases hx
        · split
          · intro x hx; cases hx
          · refine ih _ _ fun x hx => ?_
            rcases mem_aput hx with rfl | hx
            · exact Int.le_refl 0
            · exact h x hx
  exact go l 0 [] fun x hx => by cases hx
end Go.Proofs.YtnhpkefjmpgneaaDoor
namespace Go.Proofs.YtnhpkefjmpgneaaDoor
open Go.RowKit

/-! ### StateDoes: what its walk wants -/
theorem refDo_any (A : Accs) (A0 : Option Addr) (c : Nat) (V : Vals) (B0 : Option Addr) (d : Nat) (kind amount nonce : Int) (from_ to key val : ByteArray) (hsz : A.length ≤ 100000) (hvz : V.length ≤ 100000) (sl : Tx.Slim ⟨kind, from_, to, key, val, amount, nonce⟩) (w : World) (hr : ReadsN w A0 3 (A.map rowA)) (hv : ReadsN w B0 3 (V.map rowV)) :
    Calls Tryd.prog 24 #[.agg #[.slice A0 A.length c, .slice B0 V.length d], .agg #[.int .i64 kind, .string from_, .string to, .string key, .string val, .int .i64 amount, .int .i64 nonce]] w (RDoPost (refDo A V ⟨kind, from_, to, key, val, amount, nonce⟩) w) := by
  by_cases he : errOf ⟨kind, from_, to, key, val, amount, nonce⟩ (accOf A from_) = 0
  · by_cases hk : kind = 1
    · subst hk
      exact refDo_move A A0 c V B0 d amount nonce from_ to key val hsz hvz sl w hr hv he
    · exact refDo_put A A0 c V B0 d kind amount nonce from_ to key val hsz hvz sl w hr hv he hk
  · exact refDo_bad A A0 c V B0 d kind amount nonce from_ to key val sl w hr hv he
theorem cell_keep {w w' : World} {a : Addr} {v : Value} (h : w.cell? a = some v) (hb : ∀ cs T fz, w.heap[a.block]? = some (.cells cs T fz) → w'.heap[a.block]? = some (.cells cs T fz)) : w'.cell? a = some v := by
  unfold World.cell? at h ⊢
  split at h
  · rename_i cs T fz e
    rw [hb _ _ _ e]
    exact h
  · cases h
/-- Rows of cells stay where two maps change. -/
theorem readsN_kept {w w' : World} {p ba bv : Nat} {A : Accs} {V : Vals} {A0 : Option Addr} {size : Nat} {xs : List (List Value)} (h : ReadsN w A0 size xs) (hS : IsState w p ba bv A V) (hk : Kept (fun k => k = ba ∨ k = bv) w w') : ReadsN w' A0 size xs :=
  ⟨h.1, fun hn => by
    obtain ⟨ad, e, hc⟩ := h.2 hn
    exact ⟨ad, e, fun k cs hk2 j u hj => cell_keep (hc k cs hk2 j u hj) fun cs T fz hb => kept_cells hk hb (by rintro (e | e); exact map_ne_cells hS.accs hb e; exact map_ne_cells hS.vals hb e)⟩⟩
/-- Rows that begin with a string don't lie in a box of two slices. -/
theorem readsN_apart {w : World} {A0 : Option Addr} {xs : List (List Value)} (h : ReadsN w A0 3 xs) (hx : ∀ x ∈ xs, ∃ s r, x = .string s :: r) {b : Nat} {u v : Value} {T : TypeId} {fz : Nat × Nat} (hb : w.heap[b]? = some (.cells #[u, v] T fz)) (hu : ∀ s, u ≠ .string s) (hv : ∀ s, v ≠ .string s) (hn : 0 < xs.length) : ∀ ad, A0 = some ad → b ≠ ad.block := by
  rintro ad rfl rfl
  obtain ⟨ad2, e, hc⟩ := h.2 hn
  cases e
  obtain ⟨s, r, e⟩ := hx xs[0] (List.getElem_mem hn)
  have h1 := hc 0 _ (List.getElem?_eq_getElem hn) 0 (.string s) (by rw [e]; rfl)
  have h2 : ad.add (0 * 3 + 0) = ad := by simp [Addr.add]
  rw [h2] at h1
  unfold World.cell? at h1
  rw [hb] at h1
  simp only at h1
  split at h1
  · cases h1
  · match hoff : ad.off, h1 with
    | 0, h1 => exact hu s (Option.some.inj h1)
    | 1, h1 => exact hv s (Option.some.inj h1)
    | n + 2, h1 => simp at h1
theorem readsN_set2 {w : World} {A0 : Option Addr} {xs : List (List Value)} (h : ReadsN w A0 3 xs) (hx : ∀ x ∈ xs, ∃ s r, x = .string s :: r) {b : Nat} {u v : Value} {T : TypeId} {fz : Nat × Nat} (hb : w.heap[b]? = some (.cells #[u, v] T fz)) (hu : ∀ s, u ≠ .string s) (hv : ∀ s, v ≠ .string s) (x y : Value) : ReadsN ((w.setCell ⟨b, 0, none⟩ x).setCell ⟨b, 1, none⟩ y) A0 3 xs := by
  by_cases hn : 0 < xs.length
  · have := readsN_apart h hx hb hu hv hn
    exact readsN_set (readsN_set h (p := ⟨b, 0, none⟩) this x) (p := ⟨b, 1, none⟩) this y
  · exact ⟨h.1, fun h2 => absurd h2 hn⟩
/-- A state, and the document's in a box. -/
structure Dn (w wr : World) (p ba bv : Nat) (A : Accs) (V : Vals) (r : Nat) (A0 : Option Addr) (c : Nat) (mA : Accs) (B0 : Option Addr) (d : Nat) (mV : Vals) : Prop where
  st : IsState wr p ba bv A V
  below : Below w.heap.size w wr
  box : wr.heap[r]? = some (.cells #[.slice A0 mA.length c, .slice B0 mV.length d] 50 (0, 0))
  ra : ReadsN wr A0 3 (mA.map rowA)
  rb : ReadsN wr B0 3 (mV.map rowV)
  fa : w.heap.size ≤ ba
  fv : w.heap.size ≤ bv
  fr : w.heap.size ≤ r
theorem Dn.grow {w wr wr' : World} {p ba bv r c d : Nat} {A mA : Accs} {V mV : Vals} {A0 B0 : Option Addr} (h : Dn w wr p ba bv A V r A0 c mA B0 d mV) (hb : Below wr.heap.size wr wr') : Dn w wr' p ba bv A V r A0 c mA B0 d mV :=
  ⟨h.st.below hb, below_call h.below h.below.size hb, iter_call h.box hb, readsN_below h.ra hb, readsN_below h.rb hb, h.fa, h.fv, h.fr⟩
theorem Dn.do {w wr wr' : World} {p ba bv r c d : Nat} {A mA A' : Accs} {V mV V' : Vals} {A0 B0 : Option Addr} (h : Dn w wr p ba bv A V r A0 c mA B0 d mV) (hs : IsState wr' p ba bv A' V') (hk : Kept (fun k => k = ba ∨ k = bv) wr wr') : Dn w wr' p ba bv A' V' r A0 c mA B0 d mV :=
  have fa := h.fa
  have fv := h.fv
  ⟨hs, Kept.below h.below h.below.size hk (by rintro i (rfl | rfl) <;> omega), kept_cells hk h.box (by rintro (e | e); exact map_ne_cells h.st.accs h.box e; exact map_ne_cells h.st.vals h.box e), readsN_kept h.ra h.st hk, readsN_kept h.rb h.st hk, h.fa, h.fv, h.fr⟩
theorem rowsA_str (l : Accs) : ∀ x ∈ l.map rowA, ∃ s r, x = .string s :: r := by
  intro x hx
  obtain ⟨y, _, rfl⟩ := List.mem_map.1 hx
  exact ⟨_, _, rfl⟩
theorem rowsV_str (l : Vals) : ∀ x ∈ l.map rowV, ∃ s r, x = .string s :: r := by
  intro x hx
  obtain ⟨y, _, rfl⟩ := List.mem_map.1 hx
  exact ⟨_, _, rfl⟩
theorem IsState.setCell {w : World} {p ba bv b : Nat} {A : Accs} {V : Vals} (h : IsState w p ba bv A V) {cs : Array Value} {T : TypeId} {fz : Nat × Nat} (hb : w.heap[b]? = some (.cells cs T fz)) (hT : T ≠ 81) (o : Nat) (x : Value) : IsState (w.setCell ⟨b, o, none⟩ x) p ba bv A V := by
  have n1 : b ≠ p := by
    rintro rfl
    rw [h.head] at hb
    cases hb
    exact hT rfl
  have n2 := map_ne_cells h.accs hb
  have n3 := map_ne_cells h.vals hb
  exact ⟨(Below.heap_setCell _ _ _ _ (by simpa using Ne.symm n1)).trans h.head, h.accs.keep (Below.heap_setCell _ _ _ _ (by simpa using Ne.symm n2)), h.vals.keep (Below.heap_setCell _ _ _ _ (by simpa using Ne.symm n3)), h.ne⟩
/-- The box takes the document's next state. -/
theorem Dn.store {w wr : World} {p ba bv r c d c2 d2 : Nat} {A mA mA2 : Accs} {V mV mV2 : Vals} {A0 B0 A2 B2 : Option Addr} (h : Dn w wr p ba bv A V r A0 c mA B0 d mV) (ha : ReadsN wr A2 3 (mA2.map rowA)) (hb : ReadsN wr B2 3 (mV2.map rowV)) :
    Dn w ((wr.setCell ⟨r, 0, none⟩ (.slice A2 mA2.length c2)).setCell ⟨r, 1, none⟩ (.slice B2 mV2.length d2)) p ba bv A V r A2 c2 mA2 B2 d2 mV2 := by
  have hx1 : (wr.setCell ⟨r, 0, none⟩ (.slice A2 mA2.length c2)).heap[r]? = some (.cells #[.slice A2 mA2.length c2, .slice B0 mV.length d] 50 (0, 0)) := by
    have := heap_set_at 0 (.slice A2 mA2.length c2) h.box
    simpa using this
  have hx2 : ((wr.setCell ⟨r, 0, none⟩ (.slice A2 mA2.length c2)).setCell ⟨r, 1, none⟩ (.slice B2 mV2.length d2)).heap[r]? = some (.cells #[.slice A2 mA2.length c2, .slice B2 mV2.length d2] 50 (0, 0)) := by
    have := heap_set_at 1 (.slice B2 mV2.length d2) hx1
    simpa using this
  exact ⟨(h.st.setCell h.box (by decide) _ _).setCell hx1 (by decide) _ _, (h.below.setCell (p := ⟨r, 0, none⟩) h.fr _).setCell (p := ⟨r, 1, none⟩) h.fr _, hx2,
    readsN_set2 ha (rowsA_str _) h.box (by simp) (by simp) _ _, readsN_set2 hb (rowsV_str _) h.box (by simp) (by simp) _ _, h.fa, h.fv, h.fr⟩
end Go.Proofs.YtnhpkefjmpgneaaDoor
