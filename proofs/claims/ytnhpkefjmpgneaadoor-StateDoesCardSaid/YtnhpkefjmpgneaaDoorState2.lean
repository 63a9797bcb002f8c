import Derived.Test.YtnhpkefjmpgneaaDoorState1
import Derived.StillTailTactics
namespace Go.Proofs.YtnhpkefjmpgneaaDoor
open Go.RowKit

/-- What was there is as it was, but for some blocks. -/
structure Kept (S : Nat → Prop) (w w' : World) : Prop where
  os : w'.os = w.os
  tape : w'.tape = w.tape
  output : w'.output = w.output
  size : w.heap.size ≤ w'.heap.size
  block : ∀ k, k < w.heap.size → ¬ S k → w'.heap[k]? = w.heap[k]?
theorem Kept.refl (S : Nat → Prop) (w : World) : Kept S w w := ⟨rfl, rfl, rfl, Nat.le_refl _, fun _ _ _ => rfl⟩
theorem Kept.of_below {S : Nat → Prop} {w w' : World} (h : Below w.heap.size w w') : Kept S w w' := ⟨h.os, h.tape, h.output, h.size, fun k hk _ => h.block k hk⟩
theorem Kept.trans {S : Nat → Prop} {a b c : World} (h : Kept S a b) (k : Kept S b c) : Kept S a c :=
  ⟨k.os.trans h.os, k.tape.trans h.tape, k.output.trans h.output, Nat.le_trans h.size k.size, fun i hi hs => (k.block i (Nat.lt_of_lt_of_le hi h.size) hs).trans (h.block i hi hs)⟩
/-- What a call has changed of blocks that are new is nobody's. -/
theorem Kept.below {S : Nat → Prop} {B : Nat} {a w w' : World} (h : Below B a w) (hz : B ≤ w.heap.size) (k : Kept S w w') (hS : ∀ i, S i → B ≤ i) : Below B a w' :=
  h.trans ⟨k.os, k.tape, k.output, k.size, fun i hi => k.block i (by omega) (fun hs => by have := hS i hs; omega)⟩
theorem Kept.withObj {S : Nat → Prop} {a w : World} (h : Kept S a w) {b : Nat} (hb : S b) (o : Obj) : Kept S a (World.withObj w b o) :=
  h.trans ⟨rfl, rfl, rfl, by simp [World.withObj], fun k _ hk => by
    have : b ≠ k := fun e => hk (e ▸ hb)
    simp [World.withObj, this]⟩

/-- What becomes of a state. -/
def doR (A : Accs) (V : Vals) (t : Tx) : Int × Accs × Vals :=
  if txErr t ≠ 0 then (txErr t, A, V)
  else
    let a := accOf A t.from_
    if t.nonce ≠ wrap64 (a.2 + 1) then (90, A, V)
    else if t.kind = 1 then
      if a.1 < t.amount then (91, A, V)
      else
        let A1 := aput A t.from_ (wrap64 (a.1 - t.amount), wrap64 (a.2 + 1))
        let b := accOf A1 t.to
        (0, aput A1 t.to (wrap64 (b.1 + t.amount), b.2), V)
    else (0, aput A t.from_ (a.1, wrap64 (a.2 + 1)), aput V (t.from_, t.key) t.val)

/-- On the way of Do: the state, the transaction's box, the account's box. -/
structure Stage (w W : World) (p ba bv bt bf : Nat) (t : Tx) (x : Int × Int) (A : Accs) (V : Vals) : Prop where
  st : IsState W p ba bv A V
  box : W.heap[bt]? = some (.cells t.cells 25 (0, 0))
  acc : W.heap[bf]? = some (.cells #[.int .i64 x.1, .int .i64 x.2] 84 (0, 0))
  kept : Kept (fun k => k = ba ∨ k = bv) w W
  fresh : w.heap.size ≤ bf
theorem cell_at {W : World} {b : Nat} {cs : Array Value} {T : TypeId} {fz : Nat × Nat} (h : W.heap[b]? = some (.cells cs T fz)) (i : Nat) : W.cell? ⟨b, i, none⟩ = cs[i]? := by simp [World.cell?, h]
theorem frozen_at {W : World} {b : Nat} {cs : Array Value} {T : TypeId} (h : W.heap[b]? = some (.cells cs T (0, 0))) (i : Nat) : W.frozen? ⟨b, i, none⟩ = false := by simp [World.frozen?, h]
theorem IsMap.drew {K V : Type} [DecidableEq K] {enc : K → Value} {ev : V → Value} {w : World} {b : Nat} {l : List (K × V)} (h : IsMap enc ev w b l) : IsMap enc ev w.drew b l := h.keep rfl
theorem IsState.drew {w : World} {p ba bv : Nat} {A : Accs} {V : Vals} (h : IsState w p ba bv A V) : IsState w.drew p ba bv A V := ⟨h.head, h.accs.drew, h.vals.drew, h.ne⟩
theorem IsState.below {w w' : World} {p ba bv : Nat} {A : Accs} {V : Vals} (h : IsState w p ba bv A V) (hb : Below w.heap.size w w') : IsState w' p ba bv A V :=
  ⟨(hb.block p (Array.getElem?_eq_some_iff.1 h.head).1).trans h.head, h.accs.below hb, h.vals.below hb, h.ne⟩
theorem heap_withObj (w : World) (b k : Nat) (o : Obj) (h : k ≠ b) : (World.withObj w b o).heap[k]? = w.heap[k]? := by simp [World.withObj, Ne.symm h]
theorem size_withObj (w : World) (b : Nat) (o : Obj) : (World.withObj w b o).heap.size = w.heap.size := by simp [World.withObj]
theorem map_ne_cells {K V : Type} [DecidableEq K] {enc : K → Value} {ev : V → Value} {w : World} {b : Nat} {l : List (K × V)} (h : IsMap enc ev w b l) {k : Nat} {cs : Array Value} {T : TypeId} {fz : Nat × Nat} (hk : w.heap[k]? = some (.cells cs T fz)) : k ≠ b := by
  obtain ⟨es, c, hb, _⟩ := h.out
  intro e
  subst e
  rw [hb] at hk
  cases hk
theorem IsState.putAcc {w : World} {p ba bv : Nat} {A A' : Accs} {V : Vals} (h : IsState w p ba bv A V) {o : Obj} (hA : IsAccs (World.withObj w ba o) ba A') : IsState (World.withObj w ba o) p ba bv A' V :=
  ⟨(heap_withObj _ _ _ _ (map_ne_cells h.accs h.head)).trans h.head, hA, h.vals.keep (heap_withObj _ _ _ _ (Ne.symm h.ne)), h.ne⟩
theorem IsState.putVal {w : World} {p ba bv : Nat} {A : Accs} {V V' : Vals} (h : IsState w p ba bv A V) {o : Obj} (hA : IsVals (World.withObj w bv o) bv V') : IsState (World.withObj w bv o) p ba bv A V' :=
  ⟨(heap_withObj _ _ _ _ (map_ne_cells h.vals h.head)).trans h.head, h.accs.keep (heap_withObj _ _ _ _ h.ne), hA, h.ne⟩
theorem Stage.putAcc {w W : World} {p ba bv bt bf : Nat} {t : Tx} {x : Int × Int} {A A' : Accs} {V : Vals} (h : Stage w W p ba bv bt bf t x A V) {o : Obj} (hA : IsAccs (World.withObj W ba o) ba A') : Stage w (World.withObj W ba o) p ba bv bt bf t x A' V :=
  ⟨h.st.putAcc hA, (heap_withObj _ _ _ _ (map_ne_cells h.st.accs h.box)).trans h.box, (heap_withObj _ _ _ _ (map_ne_cells h.st.accs h.acc)).trans h.acc, h.kept.withObj (.inl rfl) o, h.fresh⟩
theorem Stage.putVal {w W : World} {p ba bv bt bf : Nat} {t : Tx} {x : Int × Int} {A : Accs} {V V' : Vals} (h : Stage w W p ba bv bt bf t x A V) {o : Obj} (hA : IsVals (World.withObj W bv o) bv V') : Stage w (World.withObj W bv o) p ba bv bt bf t x A V' :=
  ⟨h.st.putVal hA, (heap_withObj _ _ _ _ (map_ne_cells h.st.vals h.box)).trans h.box, (heap_withObj _ _ _ _ (map_ne_cells h.st.vals h.acc)).trans h.acc, h.kept.withObj (.inr rfl) o, h.fresh⟩
theorem Stage.drew {w W : World} {p ba bv bt bf : Nat} {t : Tx} {x : Int × Int} {A : Accs} {V : Vals} (h : Stage w W p ba bv bt bf t x A V) : Stage w W.drew p ba bv bt bf t x A V :=
  ⟨h.st.drew, h.box, h.acc, h.kept.trans ⟨rfl, rfl, rfl, Nat.le_refl _, fun _ _ _ => rfl⟩, h.fresh⟩
theorem put_acc {w : World} {b : Nat} {A : Accs} (h : IsAccs w b A) (s : ByteArray) (x y : Int) : ∃ o, (Instr.mapUpdate 78 (.map (some b)) (.string s) (.agg #[.int .i64 x, .int .i64 y])).run Tryd.prog w = .ok () (World.withObj w b o) ∧ IsAccs (World.withObj w b o) b (aput A s (x, y)) :=
  run_put (e := 84) Tryd.underlying78 keyOk_name h s (x, y)
theorem put_val {w : World} {b : Nat} {V : Vals} (h : IsVals w b V) (x y v : ByteArray) : ∃ o, (Instr.mapUpdate 79 (.map (some b)) (.agg #[.string x, .string y]) (.agg #[.string v])).run Tryd.prog w = .ok () (World.withObj w b o) ∧ IsVals (World.withObj w b o) b (aput V (x, y) v) :=
  run_put (e := 89) Tryd.underlying79 keyOk_place h (x, y) v
theorem Stage.alloc {w W : World} {p ba bv bt bf : Nat} {t : Tx} {x : Int × Int} {A : Accs} {V : Vals} (h : Stage w W p ba bv bt bf t x A V) (y : Int × Int) :
    Stage w (W.alloc (.cells #[.int .i64 y.1, .int .i64 y.2] 84)).drew p ba bv bt W.heap.size t y A V := by
  have h2 : Below W.heap.size W (W.alloc (.cells #[.int .i64 y.1, .int .i64 y.2] 84)) := (Below.refl _ _).alloc (Nat.le_refl _) _
  exact ⟨(h.st.below h2).drew, (h2.block _ (Array.getElem?_eq_some_iff.1 h.box).1).trans h.box, heap_new _ _, h.kept.trans ((Kept.of_below h2).trans ⟨rfl, rfl, rfl, Nat.le_refl _, fun _ _ _ => rfl⟩), h.kept.size⟩
theorem Stage.setNonce {w W : World} {p ba bv bt bf : Nat} {t : Tx} {x : Int × Int} {A : Accs} {V : Vals} (h : Stage w W p ba bv bt bf t x A V) (n : Int) :
    Stage w (W.setCell ⟨bf, 1, none⟩ (.int .i64 n)) p ba bv bt bf t (x.1, n) A V := by
  have hk : ∀ k, k ≠ bf → (W.setCell ⟨bf, 1, none⟩ (.int .i64 n)).heap[k]? = W.heap[k]? := fun k hk => Below.heap_setCell _ _ _ _ hk
  have h1 : p ≠ bf := fun e => by have := h.st.head; rw [e, h.acc] at this; injection this with this; injection this with _ hh; exact absurd hh (by decide)
  have h2 : bt ≠ bf := fun e => by have := h.box; rw [e, h.acc] at this; injection this with this; injection this with _ hh; exact absurd hh (by decide)
  refine ⟨⟨(hk p h1).trans h.st.head, h.st.accs.keep (hk ba (Ne.symm (map_ne_cells h.st.accs h.acc))), h.st.vals.keep (hk bv (Ne.symm (map_ne_cells h.st.vals h.acc))), h.st.ne⟩, (hk bt h2).trans h.box, ?_, ⟨h.kept.os, h.kept.tape, h.kept.output, by simpa [World.setCell] using h.kept.size, fun k hlt hs => (hk k (by have := h.fresh; omega)).trans (h.kept.block k hlt hs)⟩, h.fresh⟩
  · simp [World.setCell, Array.getElem?_modify, h.acc]
theorem stage_start {w w1 : World} {p ba bv : Nat} {t : Tx} {A : Accs} {V : Vals} (h : IsState w p ba bv A V) (hb : Below (w.alloc (.cells t.cells 25)).heap.size (w.alloc (.cells t.cells 25)) w1) (x : Int × Int) :
    Stage w (w1.alloc (.cells #[.int .i64 x.1, .int .i64 x.2] 84)).drew p ba bv w.heap.size w1.heap.size t x A V := by
  have h1 : Below w.heap.size w w1 := below_call ((Below.refl _ _).alloc (Nat.le_refl _) _) (by simp) hb
  have h2 : Below w.heap.size w (w1.alloc (.cells #[.int .i64 x.1, .int .i64 x.2] 84)) := h1.alloc h1.size _
  have hz : w.heap.size < w1.heap.size := by have := hb.size; simp at this; omega
  refine ⟨(h.below h2).drew, ?_, heap_new _ _, .of_below ⟨h2.os, h2.tape, h2.output, h2.size, h2.block⟩, h1.size⟩
  show (w1.alloc _).heap[w.heap.size]? = _
  rw [Below.heap_alloc _ _ _ hz, hb.block _ (by simp)]
  exact heap_new _ _

set_option maxHeartbeats 2000000 in
set_option maxRecDepth 100000 in
theorem do_any (p ba bv : Nat) (A : Accs) (V : Vals) (kind amount nonce : Int) (from_ to key val : ByteArray) (hs : Tx.small ⟨kind, from_, to, key, val, amount, nonce⟩) (w : World) (hT : Tabs w) (h : IsState w p ba bv A V) :
    Calls Tryd.prog 13 #[.pointer (some ⟨p, 0, none⟩), .agg #[.int .i64 kind, .string from_, .string to, .string key, .string val, .int .i64 amount, .int .i64 nonce]] w fun e w' =>
      e = .returned (.int .i64 (doR A V ⟨kind, from_, to, key, val, amount, nonce⟩).1) ∧ IsState w' p ba bv (doR A V ⟨kind, from_, to, key, val, amount, nonce⟩).2.1 (doR A V ⟨kind, from_, to, key, val, amount, nonce⟩).2.2 ∧ Kept (fun k => k = ba ∨ k = bv) w w' := by
  obtain ⟨t, ht⟩ : ∃ t : Tx, t = ⟨kind, from_, to, key, val, amount, nonce⟩ := ⟨_, rfl⟩
  have HT := Lib.hid hT
  have HST := Lib.hid h
  have HS := Lib.hid hs
  have HB := Lib.hid ((Below.refl w.heap.size w).alloc (Nat.le_refl _) (.cells #[.int .i64 kind, .string from_, .string to, .string key, .string val, .int .i64 amount, .int .i64 nonce] 25))
  clear hT h hs
  rw [← ht] at HS ⊢
  have HTT := Lib.hid ht; clear ht
  by_cases hE : txErr t = 0
  · have HE := Lib.hid hE; clear hE
    go_enter Tryd.func13, Tryd.ntmps13
    go_wp2_with (go_at_call 36; refine (txCheck_any kind amount nonce from_ to key val (HTT.out ▸ HS.out) _ (tabs_keep HT.out HB.out)).mono ?_; rintro e w1 ⟨rfl, hb1⟩; rw [← HTT.out, HE.out])
    have HB1 := Lib.hid (below_call HB.out HB.out.size hb1)
    have hz1 : w.heap.size < w1.heap.size := Nat.lt_of_lt_of_le (by simp) hb1.size
    have hpl : p < w.heap.size := (Array.getElem?_eq_some_iff.1 HST.out.head).1
    have hpz : p < w1.heap.size := by omega
    have HA1 : Hid (IsAccs w1 ba A) := HST.out.accs.below HB1.out
    have b0 : w1.cell? ⟨p, 0, none⟩ = some (.map (some ba)) := (HB1.out.cell (p := ⟨p, 0, none⟩) hpl).trans (cell_of_head HST.out).1
    have t0 : w1.cell? ⟨w.heap.size, 0, none⟩ = some (.int .i64 kind) := by rw [hb1.cell (p := ⟨w.heap.size, 0, none⟩) (by simp)]; simp
    have t1 : w1.cell? ⟨w.heap.size, 1, none⟩ = some (.string from_) := by rw [hb1.cell (p := ⟨w.heap.size, 1, none⟩) (by simp)]; simp
    have t2 : w1.cell? ⟨w.heap.size, 2, none⟩ = some (.string to) := by rw [hb1.cell (p := ⟨w.heap.size, 2, none⟩) (by simp)]; simp
    have t3 : w1.cell? ⟨w.heap.size, 3, none⟩ = some (.string key) := by rw [hb1.cell (p := ⟨w.heap.size, 3, none⟩) (by simp)]; simp
    have t4 : w1.cell? ⟨w.heap.size, 4, none⟩ = some (.string val) := by rw [hb1.cell (p := ⟨w.heap.size, 4, none⟩) (by simp)]; simp
    have t5 : w1.cell? ⟨w.heap.size, 5, none⟩ = some (.int .i64 amount) := by rw [hb1.cell (p := ⟨w.heap.size, 5, none⟩) (by simp)]; simp
    have t6 : w1.cell? ⟨w.heap.size, 6, none⟩ = some (.int .i64 nonce) := by rw [hb1.cell (p := ⟨w.heap.size, 6, none⟩) (by simp)]; simp
    obtain ⟨⟨a0, n0⟩, hx⟩ : ∃ x : Int × Int, accOf A from_ = x := ⟨_, rfl⟩
    have hl := look_acc (w := w1.drew) (HA1.out.keep rfl) from_
    have hl2 := fun o => look_acc (w := (w1.alloc o).drew) ((HA1.out.below ((Below.refl _ _).alloc (Nat.le_refl _) o)).keep rfl) from_
    rw [hx] at hl
    simp only [hx] at hl2
    have HX := Lib.hid hx; clear hx
    go_region
    clear hl hl2
    by_cases hn : nonce = wrap64 (n0 + 1)
    · have en : (nonce != wrap64 (n0 + 1)) = false := by simp [hn]
      have HN := Lib.hid hn; clear hn
      have hfin : ∀ W, IsState W p ba bv (doR A V t).2.1 (doR A V t).2.2 ∧ Kept (fun k => k = ba ∨ k = bv) w W → (doR A V t).1 = 0 → (Ending.returned (.int .i64 0) = .returned (.int .i64 (doR A V t).1) ∧ IsState W p ba bv (doR A V t).2.1 (doR A V t).2.2 ∧ Kept (fun k => k = ba ∨ k = bv) w W) := fun W h e => ⟨by rw [e], h⟩
      have HFIN := Lib.hid hfin; clear hfin
      by_cases hk : kind = 1
      · have ek : (kind == 1) = true := by simp [hk]
        have HK := Lib.hid hk; clear hk
        by_cases hfu : a0 < amount
        · have hR : doR A V t = (91, A, V) := by
            unfold doR
            rw [HE.out, HTT.out]
            simp only [ne_eq, not_true_eq_false, if_false, HX.out, HN.out, HK.out, if_true, hfu]
          have HR := Lib.hid hR; clear hR
          have HS1 := Lib.hid (stage_start (t := ⟨kind, from_, to, key, val, amount, nonce⟩) HST.out hb1 (a0, n0))
          go_wp2
          go_ret
          rw [HR.out]
          exact ⟨rfl, HS1.out.st, HS1.out.kept⟩
        · have hR : doR A V t = (0, aput (aput A from_ (wrap64 (a0 - amount), wrap64 (n0 + 1))) to (wrap64 ((accOf (aput A from_ (wrap64 (a0 - amount), wrap64 (n0 + 1))) to).1 + amount), (accOf (aput A from_ (wrap64 (a0 - amount), wrap64 (n0 + 1))) to).2), V) := by
            unfold doR
            rw [HE.out, HTT.out]
            simp only [ne_eq, not_true_eq_false, if_false, HX.out, HN.out, HK.out, if_true, hfu]
          have HR := Lib.hid hR; clear hR
          go_wp2
          have hS := stage_start (t := ⟨kind, from_, to, key, val, amount, nonce⟩) HST.out hb1 (wrap64 (a0 - amount), wrap64 (n0 + 1))
          obtain ⟨W, hW⟩ : ∃ W, W = (w1.alloc (.cells #[.int .i64 (wrap64 (a0 - amount)), .int .i64 (wrap64 (n0 + 1))] 84)).drew := ⟨_, rfl⟩
          dsimp only at hS
          rw [← hW] at hS ⊢
          clear hW
          have HS1 := Lib.hid hS; clear hS
          have c_b0 : W.cell? ⟨p, 0, none⟩ = some (.map (some ba)) := by rw [cell_at HS1.out.st.head]; rfl
          have c_t1 : W.cell? ⟨w.heap.size, 1, none⟩ = some (.string from_) := by rw [cell_at HS1.out.box]; rfl
          have c_a0 : W.cell? ⟨w1.heap.size, 0, none⟩ = some (.int .i64 (wrap64 (a0 - amount))) := by rw [cell_at HS1.out.acc]; rfl
          have c_a1 : W.cell? ⟨w1.heap.size, 1, none⟩ = some (.int .i64 (wrap64 (n0 + 1))) := by rw [cell_at HS1.out.acc]; rfl
          obtain ⟨o, hput, hA'⟩ := put_acc (w := W.drew) HS1.out.drew.st.accs from_ (wrap64 (a0 - amount)) (wrap64 (n0 + 1))
          have HS2 := Lib.hid (HS1.out.drew.putAcc hA'); clear hA'
          go_region
          clear hput c_b0 c_t1 c_a0 c_a1
          generalize World.withObj W.drew ba o = W2 at HS2 ⊢
          have c_b0 : W2.cell? ⟨p, 0, none⟩ = some (.map (some ba)) := by rw [cell_at HS2.out.st.head]; rfl
          have c_t0 : W2.cell? ⟨w.heap.size, 0, none⟩ = some (.int .i64 kind) := by rw [cell_at HS2.out.box]; rfl
          have c_t2 : W2.cell? ⟨w.heap.size, 2, none⟩ = some (.string to) := by rw [cell_at HS2.out.box]; rfl
          have c_t5 : W2.cell? ⟨w.heap.size, 5, none⟩ = some (.int .i64 amount) := by rw [cell_at HS2.out.box]; rfl
          have hz2 : p < W2.heap.size := (Array.getElem?_eq_some_iff.1 HS2.out.st.head).1
          have hz3 : w.heap.size < W2.heap.size := (Array.getElem?_eq_some_iff.1 HS2.out.box).1
          go_wp2
          obtain ⟨⟨b0, m0⟩, hy⟩ : ∃ x : Int × Int, accOf (aput A from_ (wrap64 (a0 - amount), wrap64 (n0 + 1))) to = x := ⟨_, rfl⟩
          have hl := look_acc (w := W2.drew) HS2.out.drew.st.accs to
          have hl2 := fun o => look_acc (w := (W2.alloc o).drew) ((HS2.out.st.accs.below ((Below.refl _ _).alloc (Nat.le_refl _) o)).keep rfl) to
          rw [hy] at hl
          simp only [hy] at hl2
          have HY := Lib.hid hy; clear hy
          go_region
          clear hl hl2
          go_wp2
          have hS := HS2.out.alloc (wrap64 (b0 + amount), m0)
          obtain ⟨W3, hW⟩ : ∃ W, W = (W2.alloc (.cells #[.int .i64 (wrap64 (b0 + amount)), .int .i64 m0] 84)).drew := ⟨_, rfl⟩
          dsimp only at hS
          rw [← hW] at hS ⊢
          clear hW c_b0 c_t0 c_t2 c_t5
          have HS3 := Lib.hid hS; clear hS
          have c_b0 : W3.cell? ⟨p, 0, none⟩ = some (.map (some ba)) := by rw [cell_at HS3.out.st.head]; rfl
          have c_t2 : W3.cell? ⟨w.heap.size, 2, none⟩ = some (.string to) := by rw [cell_at HS3.out.box]; rfl
          have c_a0 : W3.cell? ⟨W2.heap.size, 0, none⟩ = some (.int .i64 (wrap64 (b0 + amount))) := by rw [cell_at HS3.out.acc]; rfl
          have c_a1 : W3.cell? ⟨W2.heap.size, 1, none⟩ = some (.int .i64 m0) := by rw [cell_at HS3.out.acc]; rfl
          obtain ⟨o, hput, hA'⟩ := put_acc (w := W3.drew) HS3.out.drew.st.accs to (wrap64 (b0 + amount)) m0
          have HS4 := Lib.hid (HS3.out.drew.putAcc hA'); clear hA'
          go_region
          clear hput c_b0 c_t2 c_a0 c_a1
          generalize World.withObj W3.drew ba o = W4 at HS4 ⊢
          go_wp2
          go_ret
          rw [HR.out, HY.out]
          exact ⟨rfl, HS4.out.st, HS4.out.kept⟩
      · have ek : (kind == 1) = false := by simp [hk]
        have hR : doR A V t = (0, aput A from_ (a0, wrap64 (n0 + 1)), aput V (from_, key) val) := by
          unfold doR
          rw [HE.out, HTT.out]
          simp only [ne_eq, not_true_eq_false, if_false, HX.out, HN.out, hk]
        have HR := Lib.hid hR; clear hR
        have HK := Lib.hid hk; clear hk
        go_wp2
        have hS := stage_start (t := ⟨kind, from_, to, key, val, amount, nonce⟩) HST.out hb1 (a0, n0)
        obtain ⟨W, hW⟩ : ∃ W, W = (w1.alloc (.cells #[.int .i64 a0, .int .i64 n0] 84)).drew := ⟨_, rfl⟩
        dsimp only at hS
        rw [← hW] at hS ⊢
        clear hW
        have HS1 := Lib.hid hS; clear hS
        have c_b1 : W.cell? ⟨p, 1, none⟩ = some (.map (some bv)) := by rw [cell_at HS1.out.st.head]; rfl
        have c_t1 : W.cell? ⟨w.heap.size, 1, none⟩ = some (.string from_) := by rw [cell_at HS1.out.box]; rfl
        have c_t3 : W.cell? ⟨w.heap.size, 3, none⟩ = some (.string key) := by rw [cell_at HS1.out.box]; rfl
        have c_t4 : W.cell? ⟨w.heap.size, 4, none⟩ = some (.string val) := by rw [cell_at HS1.out.box]; rfl
        obtain ⟨o, hput, hA'⟩ := put_val (w := W.drew) HS1.out.drew.st.vals from_ key val
        have HS2 := Lib.hid (HS1.out.drew.putVal hA'); clear hA'
        go_region
        clear hput c_b1 c_t1 c_t3 c_t4
        generalize World.withObj W.drew bv o = W2 at HS2 ⊢
        have c_b0 : W2.cell? ⟨p, 0, none⟩ = some (.map (some ba)) := by rw [cell_at HS2.out.st.head]; rfl
        have c_t0 : W2.cell? ⟨w.heap.size, 0, none⟩ = some (.int .i64 kind) := by rw [cell_at HS2.out.box]; rfl
        have c_t1 : W2.cell? ⟨w.heap.size, 1, none⟩ = some (.string from_) := by rw [cell_at HS2.out.box]; rfl
        have c_a0 : W2.cell? ⟨w1.heap.size, 0, none⟩ = some (.int .i64 a0) := by rw [cell_at HS2.out.acc]; rfl
        have c_a1 : W2.cell? ⟨w1.heap.size, 1, none⟩ = some (.int .i64 n0) := by rw [cell_at HS2.out.acc]; rfl
        have c_f1 : W2.frozen? ⟨w1.heap.size, 1, none⟩ = false := frozen_at HS2.out.acc 1
        go_wp2
        have hS := HS2.out.setNonce (wrap64 (n0 + 1))
        generalize W2.setCell ⟨w1.heap.size, 1, none⟩ (.int .i64 (wrap64 (n0 + 1))) = W3 at hS ⊢
        clear c_b0 c_t0 c_t1 c_a0 c_a1 c_f1
        have HS3 := Lib.hid hS; clear hS
        have c_b0 : W3.cell? ⟨p, 0, none⟩ = some (.map (some ba)) := by rw [cell_at HS3.out.st.head]; rfl
        have c_t0 : W3.cell? ⟨w.heap.size, 0, none⟩ = some (.int .i64 kind) := by rw [cell_at HS3.out.box]; rfl
        have c_t1 : W3.cell? ⟨w.heap.size, 1, none⟩ = some (.string from_) := by rw [cell_at HS3.out.box]; rfl
        have c_a0 : W3.cell? ⟨w1.heap.size, 0, none⟩ = some (.int .i64 a0) := by rw [cell_at HS3.out.acc]; rfl
        have c_a1 : W3.cell? ⟨w1.heap.size, 1, none⟩ = some (.int .i64 (wrap64 (n0 + 1))) := by rw [cell_at HS3.out.acc]; rfl
        obtain ⟨o, hput, hA'⟩ := put_acc (w := W3.drew) HS3.out.drew.st.accs from_ a0 (wrap64 (n0 + 1))
        have HS4 := Lib.hid (HS3.out.drew.putAcc hA'); clear hA'
        go_region
        clear hput c_b0 c_t1 c_a0 c_a1 c_t0
        generalize World.withObj W3.drew ba o = W4 at HS4 ⊢
        have c_t0 : W4.cell? ⟨w.heap.size, 0, none⟩ = some (.int .i64 kind) := by rw [cell_at HS4.out.box]; rfl
        go_wp2
        go_ret
        rw [HR.out]
        exact ⟨rfl, HS4.out.st, HS4.out.kept⟩
    · have en : (nonce != wrap64 (n0 + 1)) = true := by simp [hn]
      have hR : doR A V t = (90, A, V) := by
        unfold doR
        rw [HE.out, HTT.out]
        simp only [ne_eq, not_true_eq_false, if_false, HX.out, hn, not_false_eq_true, if_true]
      have HR := Lib.hid hR; clear hR hn
      have HS1 := Lib.hid (stage_start (t := ⟨kind, from_, to, key, val, amount, nonce⟩) HST.out hb1 (a0, n0))
      go_wp2
      go_ret
      rw [HR.out]
      exact ⟨rfl, HS1.out.st, HS1.out.kept⟩
  · have hR : doR A V t = (txErr t, A, V) := by unfold doR; rw [if_pos hE]
    have HR := Lib.hid hR; clear hR
    have en : (txErr t != 0) = true := by simp [hE]
    clear hE
    go_enter Tryd.func13, Tryd.ntmps13
    go_wp2_with (go_at_call 36; refine (txCheck_any kind amount nonce from_ to key val (HTT.out ▸ HS.out) _ (tabs_keep HT.out HB.out)).mono ?_; rintro e w1 ⟨rfl, hb1⟩; rw [← HTT.out])
    have HB1 := Lib.hid (below_call HB.out HB.out.size hb1)
    go_ret
    rw [HR.out]
    exact ⟨rfl, HST.out.below HB1.out, .of_below HB1.out⟩
end Go.Proofs.YtnhpkefjmpgneaaDoor
