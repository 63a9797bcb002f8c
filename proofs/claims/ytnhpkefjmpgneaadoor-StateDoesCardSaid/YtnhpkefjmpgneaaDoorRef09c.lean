import Derived.Test.YtnhpkefjmpgneaaDoorRef09b
import Derived.Test.YtnhpkefjmpgneaaDoorKeeps1
import Derived.Deep.RegionHeld3
namespace Go.Proofs.YtnhpkefjmpgneaaDoor
open Go.RowKit

/-! ### the document's layer 9: Do -/
def refDo (A : Accs) (V : Vals) (t : Tx) : Int × Accs × Vals :=
  if errOf t (accOf A t.from_) ≠ 0 then (errOf t (accOf A t.from_), A, V)
  else if t.kind = 1 then
    (0, rput (rput A t.from_ (wrap64 ((accOf A t.from_).1 - t.amount), wrap64 ((accOf A t.from_).2 + 1))) t.to
      (wrap64 ((accOf (rput A t.from_ (wrap64 ((accOf A t.from_).1 - t.amount), wrap64 ((accOf A t.from_).2 + 1))) t.to).1 + t.amount), (accOf (rput A t.from_ (wrap64 ((accOf A t.from_).1 - t.amount), wrap64 ((accOf A t.from_).2 + 1))) t.to).2), V)
  else (0, rput A t.from_ ((accOf A t.from_).1, wrap64 ((accOf A t.from_).2 + 1)), rput V (t.from_, t.key) t.val)
/-- In the document's Do: the boxes of the state and of the transaction, and the result's. -/
structure DoSt (w W : World) (s1 s2 : Value) (t : Array Value) : Prop where
  st : W.heap[w.heap.size]? = some (.cells #[s1, s2] 50 (0, 0))
  tx : W.heap[w.heap.size + 1]? = some (.cells t 25 (0, 0))
  res : ∃ x y, W.heap[w.heap.size + 1 + 1]? = some (.cells #[x, y] 50 (0, 0))
  below : Below w.heap.size w W
theorem DoSt.grow {w W W' : World} {s1 s2 : Value} {t : Array Value} (h : DoSt w W s1 s2 t) (hb : Below W.heap.size W W') : DoSt w W' s1 s2 t :=
  ⟨iter_call h.st hb, iter_call h.tx hb, by obtain ⟨x, y, hr⟩ := h.res; exact ⟨x, y, iter_call hr hb⟩, below_call h.below h.below.size hb⟩
theorem doSt_new (w : World) (s1 s2 : Value) (t : Array Value) (x y : Value) : DoSt w (((w.alloc (.cells #[s1, s2] 50 (0, 0))).alloc (.cells t 25 (0, 0))).alloc (.cells #[x, y] 50 (0, 0))) s1 s2 t :=
  ⟨iter_alloc (iter_alloc (heap_new w _) _) _, by have := iter_alloc (heap_new (w.alloc (.cells #[s1, s2] 50 (0, 0))) (.cells t 25 (0, 0))) (.cells #[x, y] 50 (0, 0)); simpa using this,
    ⟨x, y, by have := heap_new ((w.alloc (.cells #[s1, s2] 50 (0, 0))).alloc (.cells t 25 (0, 0))) (.cells #[x, y] 50 (0, 0)); simpa using this⟩,
    (((Below.refl _ _).alloc (Nat.le_refl _) _).alloc (by simp) _).alloc (by simp; omega) _⟩
theorem DoSt.store {w W : World} {s1 s2 : Value} {t : Array Value} (h : DoSt w W s1 s2 t) (u1 u2 : Value) : DoSt w ((W.setCell ⟨w.heap.size, 0, none⟩ u1).setCell ⟨w.heap.size, 1, none⟩ u2) u1 u2 t :=
  ⟨by have := heap_set_at 1 u2 (heap_set_at 0 u1 h.st); simpa using this,
    by rw [Below.heap_setCell _ _ _ _ (by simp), Below.heap_setCell _ _ _ _ (by simp)]; exact h.tx,
    by obtain ⟨x, y, hr⟩ := h.res; exact ⟨x, y, by rw [Below.heap_setCell _ _ _ _ (by simp; omega), Below.heap_setCell _ _ _ _ (by simp; omega)]; exact hr⟩,
    (h.below.setCell (p := ⟨w.heap.size, 0, none⟩) (by simp) _).setCell (p := ⟨w.heap.size, 1, none⟩) (by simp) _⟩
theorem DoSt.alloc {w W : World} {s1 s2 : Value} {t : Array Value} (h : DoSt w W s1 s2 t) (o : Obj) : DoSt w (W.alloc o) s1 s2 t := h.grow ((Below.refl _ _).alloc (Nat.le_refl _) _)
/-- What the document's Do returns. -/
def RDoPost (r : Int × Accs × Vals) (w : World) (e : Ending) (w' : World) : Prop := ∃ A1 c1 B1 d1, e = .returned (.tuple #[.agg #[.slice A1 r.2.1.length c1, .slice B1 r.2.2.length d1], .int .i64 r.1]) ∧ ReadsN w' A1 3 (r.2.1.map rowA) ∧ ReadsN w' B1 3 (r.2.2.map rowV) ∧ Below w.heap.size w w'
set_option maxHeartbeats 2000000 in
set_option maxRecDepth 100000 in
theorem refDo_move (A : Accs) (A0 : Option Addr) (c : Nat) (V : Vals) (B0 : Option Addr) (d : Nat) (amount nonce : Int) (from_ to key val : ByteArray) (hsz : A.length ≤ 100000) (hvz : V.length ≤ 100000) (sl : Tx.Slim ⟨1, from_, to, key, val, amount, nonce⟩) (w : World) (hr : ReadsN w A0 3 (A.map rowA)) (hv : ReadsN w B0 3 (V.map rowV)) (he : errOf ⟨1, from_, to, key, val, amount, nonce⟩ (accOf A from_) = 0) :
    Calls Tryd.prog 24 #[.agg #[.slice A0 A.length c, .slice B0 V.length d], .agg #[.int .i64 1, .string from_, .string to, .string key, .string val, .int .i64 amount, .int .i64 nonce]] w (RDoPost (refDo A V ⟨1, from_, to, key, val, amount, nonce⟩) w) := by
  have HR := Lib.hid hr
  have HV := Lib.hid hv
  have HSL := Lib.hid sl
  clear hr hv sl
  have HF : Hid (refDo A V ⟨1, from_, to, key, val, amount, nonce⟩ = (0, rput (rput A from_ (wrap64 ((accOf A from_).1 - amount), wrap64 ((accOf A from_).2 + 1))) to
      (wrap64 ((accOf (rput A from_ (wrap64 ((accOf A from_).1 - amount), wrap64 ((accOf A from_).2 + 1))) to).1 + amount), (accOf (rput A from_ (wrap64 ((accOf A from_).1 - amount), wrap64 ((accOf A from_).2 + 1))) to).2), V)) := by
    unfold Hid refDo
    rw [if_neg (by simpa using he), if_pos rfl]
  obtain ⟨h1, h2, h3⟩ := ok_facts he
  have HOK := Lib.hid h1
  have h4 := h3 rfl
  dsimp only at h2 h4
  have HO := Lib.hid (fun W hW => refOf_any A A0 c (.slice B0 V.length d) from_ W hW)
  obtain ⟨⟨fa, fn⟩, hfa⟩ : ∃ x : Int × Int, accOf A from_ = x := ⟨_, rfl⟩
  rw [hfa] at h2 h4 HO HF
  dsimp only at h2 h4
  have e1 : (nonce != wrap64 (fn + 1)) = false := by rw [← h2]; simp
  have HP := Lib.hid (fun W hW => refPut_any A A0 c B0 V.length d from_ (wrap64 (fa - amount)) (wrap64 (fn + 1)) (by omega) W hW)
  have hrl : (rput A from_ (wrap64 (fa - amount), wrap64 (fn + 1))).length ≤ 1000000 := by unfold rput; have := List.length_filter_le (fun x : ByteArray × Int × Int => decide (x.1 ≠ from_)) A; simp at this ⊢; omega
  clear h1 h2 h3 he hfa
  generalize rput A from_ (wrap64 (fa - amount), wrap64 (fn + 1)) = R1 at HP HF hrl
  generalize hwa : wrap64 (fa - amount) = na at HP
  generalize hwn : wrap64 (fn + 1) = nn at HP e1
  obtain ⟨⟨ta, tn⟩, hta⟩ : ∃ x : Int × Int, accOf R1 to = x := ⟨_, rfl⟩
  rw [hta] at HF
  have HTA := Lib.hid hta
  have D0 := Lib.hid (doSt_new w (.slice A0 A.length c) (.slice B0 V.length d) #[.int .i64 1, .string from_, .string to, .string key, .string val, .int .i64 amount, .int .i64 nonce] (.slice none 0 0) (.slice none 0 0))
  clear hta
  go_enter Tryd.func24, Tryd.ntmps24
  go_wp2_with fail
  refine (refTx_any _ _ _ _ _ _ _ (by have := HSL.out.sf; simp at this; omega) (by have := HSL.out.st; simp at this; omega) (by have := HSL.out.sk; simp at this; omega) (by have := HSL.out.sv; simp at this; omega) _).mono ?_
  rintro e w1 ⟨rfl, hb⟩
  rw [HOK.out]
  have D1 := Lib.hid (D0.out.grow hb)
  have c0 : w1.cell? ⟨w.heap.size, 0, none⟩ = some (.slice A0 A.length c) := cell_at D1.out.st 0
  have c1 : w1.cell? ⟨w.heap.size, 1, none⟩ = some (.slice B0 V.length d) := cell_at D1.out.st 1
  have t1 : w1.cell? ⟨w.heap.size + 1, 1, none⟩ = some (.string from_) := cell_at D1.out.tx 1
  clear hb
  go_wp2_with fail
  refine (HO.out _ (readsN_below HR.out D1.out.below)).mono ?_
  rintro e w2 ⟨rfl, hb⟩
  have D2 := Lib.hid (D1.out.grow hb)
  clear hb c0 c1 t1
  have t6 : w2.cell? ⟨w.heap.size + 1, 6, none⟩ = some (.int .i64 nonce) := cell_at D2.out.tx 6
  have t0 : w2.cell? ⟨w.heap.size + 1, 0, none⟩ = some (.int .i64 1) := cell_at D2.out.tx 0
  have t5 : w2.cell? ⟨w.heap.size + 1, 5, none⟩ = some (.int .i64 amount) := cell_at D2.out.tx 5
  have c0 : w2.cell? ⟨w.heap.size, 0, none⟩ = some (.slice A0 A.length c) := cell_at D2.out.st 0
  have c1 : w2.cell? ⟨w.heap.size, 1, none⟩ = some (.slice B0 V.length d) := cell_at D2.out.st 1
  have z1 : w.heap.size < w2.heap.size := size_lt_of D2.out.st
  have z2 : w.heap.size + 1 < w2.heap.size := size_lt_of D2.out.tx
  go_wp2_with fail
  refine (HP.out _ (readsN_below (readsN_below HR.out D2.out.below) ((Below.refl _ _).alloc (Nat.le_refl _) _))).mono ?_
  rintro e w3 ⟨A1, c2, rfl, hR3, hF3, hb⟩
  have D3 := Lib.hid (((D2.out.alloc (.cells #[.string from_, .int .i64 na, .int .i64 nn] 127)).grow hb).store (.slice A1 R1.length c2) (.slice B0 V.length d))
  have D3a := Lib.hid ((D2.out.alloc (.cells #[.string from_, .int .i64 na, .int .i64 nn] 127)).grow hb)
  have HR3 := Lib.hid (readsN_set (readsN_set hR3 (p := ⟨w.heap.size, 0, none⟩) (fun ad h => by have := hF3 ad h; simp at this ⊢; omega) (.slice A1 R1.length c2)) (p := ⟨w.heap.size, 1, none⟩) (fun ad h => by have := hF3 ad h; simp at this ⊢; omega) (.slice B0 V.length d))
  clear t6 t0 t5 c0 c1 z1 z2 hR3 hF3 hwa hwn e1 HP hb
  have c0 : w3.cell? ⟨w.heap.size, 0, none⟩ = some (.slice A0 A.length c) := cell_at D3a.out.st 0
  have c1 : w3.cell? ⟨w.heap.size, 1, none⟩ = some (.slice B0 V.length d) := cell_at D3a.out.st 1
  have f0 := frozen_at D3a.out.st 0
  have f1 := frozen_at D3a.out.st 1
  have t2 : w3.cell? ⟨w.heap.size + 1, 2, none⟩ = some (.string to) := cell_at D3a.out.tx 2
  go_wp2_with fail
  refine ((refOf_any R1 A1 c2 (.slice B0 V.length d) to _ HR3.out)).mono ?_
  rintro e w4 ⟨rfl, hb⟩
  rw [HTA.out]
  have D4 := Lib.hid (D3.out.grow hb)
  have HR4 := Lib.hid (readsN_below HR3.out hb)
  clear hb c0 c1 f0 f1 t2
  have t5 : w4.cell? ⟨w.heap.size + 1, 5, none⟩ = some (.int .i64 amount) := cell_at D4.out.tx 5
  have c0 : w4.cell? ⟨w.heap.size, 0, none⟩ = some (.slice A1 R1.length c2) := cell_at D4.out.st 0
  have c1 : w4.cell? ⟨w.heap.size, 1, none⟩ = some (.slice B0 V.length d) := cell_at D4.out.st 1
  have z1 : w.heap.size < w4.heap.size := size_lt_of D4.out.st
  have z2 : w.heap.size + 1 < w4.heap.size := size_lt_of D4.out.tx
  have HP := Lib.hid (fun W hW => refPut_any R1 A1 c2 B0 V.length d to (wrap64 (ta + amount)) tn hrl W hW)
  generalize hwa : wrap64 (ta + amount) = nb at HP HF
  go_wp2_with fail
  refine (HP.out _ (readsN_below HR4.out ((Below.refl _ _).alloc (Nat.le_refl _) _))).mono ?_
  rintro e w5 ⟨A2, c3, rfl, hR5, hF5, hb⟩
  have D5 := Lib.hid ((D4.out.alloc (.cells #[.string to, .int .i64 nb, .int .i64 tn] 127)).grow hb)
  have HV5 := Lib.hid (readsN_below HV.out D5.out.below)
  obtain ⟨x, y, hres⟩ := D5.out.res
  have z3 := size_lt_of D2.out.st
  have z4 := D5.out.below.size
  clear t5 c0 c1 z1 z2 hwa HP
  have m0 : w5.cell? ⟨w.heap.size + 1 + 1, 0, none⟩ = some x := cell_at hres 0
  have m1 : w5.cell? ⟨w.heap.size + 1 + 1, 1, none⟩ = some y := cell_at hres 1
  have f0 := frozen_at hres 0
  have f1 := frozen_at hres 1
  have hz5 : w.heap.size + 1 + 1 < w4.heap.size := by obtain ⟨x, y, h⟩ := D4.out.res; exact size_lt_of h
  have HR5 := Lib.hid (readsN_set (readsN_set hR5 (p := ⟨w.heap.size + 1 + 1, 0, none⟩) (fun ad h => by have := hF5 ad h; simp at this ⊢; omega) (.slice A2 (rput R1 to (nb, tn)).length c3)) (p := ⟨w.heap.size + 1 + 1, 1, none⟩) (fun ad h => by have := hF5 ad h; simp at this ⊢; omega) (.slice B0 V.length d))
  have HB5 := Lib.hid ((D5.out.below.setCell (p := ⟨w.heap.size + 1 + 1, 0, none⟩) (by simp; omega) (.slice A2 (rput R1 to (nb, tn)).length c3)).setCell (p := ⟨w.heap.size + 1 + 1, 1, none⟩) (by simp; omega) (.slice B0 V.length d))
  clear hres hR5 hF5 hb
  go_wp2
  refine bodyPost_ret (v := .tuple #[.agg #[.slice A2 (rput R1 to (nb, tn)).length c3, .slice B0 V.length d], .int .i64 0]) (by simp [results, Tryd.results24, go_sem, m0, m1]) rfl ?_
  rw [HF.out]
  exact ⟨A2, c3, B0, d, rfl, HR5.out, readsN_below HV.out HB5.out, HB5.out⟩
end Go.Proofs.YtnhpkefjmpgneaaDoor
namespace Go.Proofs.YtnhpkefjmpgneaaDoor
open Go.RowKit

/-! ### the document's Do: refusals -/
theorem refDo_err {A : Accs} {V : Vals} {t : Tx} {e : Int} (h : errOf t (accOf A t.from_) = e) (he : e ≠ 0) : refDo A V t = (e, A, V) := by
  unfold refDo
  rw [h, if_pos he]
set_option maxHeartbeats 2000000 in
set_option maxRecDepth 100000 in
theorem refDo_bad (A : Accs) (A0 : Option Addr) (c : Nat) (V : Vals) (B0 : Option Addr) (d : Nat) (kind amount nonce : Int) (from_ to key val : ByteArray) (sl : Tx.Slim ⟨kind, from_, to, key, val, amount, nonce⟩) (w : World) (hr : ReadsN w A0 3 (A.map rowA)) (hv : ReadsN w B0 3 (V.map rowV)) (he : errOf ⟨kind, from_, to, key, val, amount, nonce⟩ (accOf A from_) ≠ 0) :
    Calls Tryd.prog 24 #[.agg #[.slice A0 A.length c, .slice B0 V.length d], .agg #[.int .i64 kind, .string from_, .string to, .string key, .string val, .int .i64 amount, .int .i64 nonce]] w (RDoPost (refDo A V ⟨kind, from_, to, key, val, amount, nonce⟩) w) := by
  have HR := Lib.hid hr
  have HV := Lib.hid hv
  have HSL := Lib.hid sl
  clear hr hv sl
  have HO := Lib.hid (fun W hW => refOf_any A A0 c (.slice B0 V.length d) from_ W hW)
  obtain ⟨⟨fa, fn⟩, hfa⟩ : ∃ x : Int × Int, accOf A from_ = x := ⟨_, rfl⟩
  have HFA := Lib.hid hfa
  rw [hfa] at he HO
  clear hfa
  have D0 := Lib.hid (doSt_new w (.slice A0 A.length c) (.slice B0 V.length d) #[.int .i64 kind, .string from_, .string to, .string key, .string val, .int .i64 amount, .int .i64 nonce] (.slice none 0 0) (.slice none 0 0))
  cases hok : txOk ⟨kind, from_, to, key, val, amount, nonce⟩
  · have HE := Lib.hid (refDo_err (A := A) (V := V) (t := ⟨kind, from_, to, key, val, amount, nonce⟩) (e := 80) (by dsimp only; rw [HFA.out]; unfold errOf txErr; rw [hok]; rfl) (by decide))
    have HOK := Lib.hid hok
    clear hok he
    go_enter Tryd.func24, Tryd.ntmps24
    go_wp2_with fail
    refine (refTx_any _ _ _ _ _ _ _ (by have := HSL.out.sf; simp at this; omega) (by have := HSL.out.st; simp at this; omega) (by have := HSL.out.sk; simp at this; omega) (by have := HSL.out.sv; simp at this; omega) _).mono ?_
    rintro e w1 ⟨rfl, hb⟩
    rw [HOK.out]
    have D1 := Lib.hid (D0.out.grow hb)
    have c0 : w1.cell? ⟨w.heap.size, 0, none⟩ = some (.slice A0 A.length c) := cell_at D1.out.st 0
    have c1 : w1.cell? ⟨w.heap.size, 1, none⟩ = some (.slice B0 V.length d) := cell_at D1.out.st 1
    obtain ⟨x, y, hres⟩ := D1.out.res
    have m0 : w1.cell? ⟨w.heap.size + 1 + 1, 0, none⟩ = some x := cell_at hres 0
    have m1 : w1.cell? ⟨w.heap.size + 1 + 1, 1, none⟩ = some y := cell_at hres 1
    have f0 := frozen_at hres 0
    have f1 := frozen_at hres 1
    have HB := Lib.hid ((D1.out.below.setCell (p := ⟨w.heap.size + 1 + 1, 0, none⟩) (by simp; omega) (.slice A0 A.length c)).setCell (p := ⟨w.heap.size + 1 + 1, 1, none⟩) (by simp; omega) (.slice B0 V.length d))
    clear hb hres
    go_wp2
    refine bodyPost_ret (v := .tuple #[.agg #[.slice A0 A.length c, .slice B0 V.length d], .int .i64 80]) (by simp [results, Tryd.results24, go_sem, m0, m1]) rfl ?_
    rw [HE.out]
    exact ⟨A0, c, B0, d, rfl, readsN_below HR.out HB.out, readsN_below HV.out HB.out, HB.out⟩
  · have HOK := Lib.hid hok
    have htx : txErr ⟨kind, from_, to, key, val, amount, nonce⟩ = 0 := by unfold txErr; rw [hok]; rfl
    by_cases hn : nonce = wrap64 (fn + 1)
    · by_cases hk : kind = 1
      · by_cases ha : fa < amount
        · have HE := Lib.hid (refDo_err (A := A) (V := V) (t := ⟨kind, from_, to, key, val, amount, nonce⟩) (e := 91) (by dsimp only; rw [HFA.out]; unfold errOf; rw [htx]; simp [hn, hk, ha]) (by decide))
          have e1 : (nonce != wrap64 (fn + 1)) = false := by rw [← hn]; simp
          subst hk
          clear hok he htx hn
          go_enter Tryd.func24, Tryd.ntmps24
          go_wp2_with fail
          refine (refTx_any _ _ _ _ _ _ _ (by have := HSL.out.sf; simp at this; omega) (by have := HSL.out.st; simp at this; omega) (by have := HSL.out.sk; simp at this; omega) (by have := HSL.out.sv; simp at this; omega) _).mono ?_
          rintro e w1 ⟨rfl, hb⟩
          rw [HOK.out]
          have D1 := Lib.hid (D0.out.grow hb)
          have c0 : w1.cell? ⟨w.heap.size, 0, none⟩ = some (.slice A0 A.length c) := cell_at D1.out.st 0
          have c1 : w1.cell? ⟨w.heap.size, 1, none⟩ = some (.slice B0 V.length d) := cell_at D1.out.st 1
          have t1 : w1.cell? ⟨w.heap.size + 1, 1, none⟩ = some (.string from_) := cell_at D1.out.tx 1
          clear hb
          go_wp2_with fail
          refine (HO.out _ (readsN_below HR.out D1.out.below)).mono ?_
          rintro e w2 ⟨rfl, hb⟩
          have D2 := Lib.hid (D1.out.grow hb)
          clear hb c0 c1 t1
          obtain ⟨x, y, hres⟩ := D2.out.res
          have t6 : w2.cell? ⟨w.heap.size + 1, 6, none⟩ = some (.int .i64 nonce) := cell_at D2.out.tx 6
          have t0 : w2.cell? ⟨w.heap.size + 1, 0, none⟩ = some (.int .i64 1) := cell_at D2.out.tx 0
          have t5 : w2.cell? ⟨w.heap.size + 1, 5, none⟩ = some (.int .i64 amount) := cell_at D2.out.tx 5
          have c0 : w2.cell? ⟨w.heap.size, 0, none⟩ = some (.slice A0 A.length c) := cell_at D2.out.st 0
          have c1 : w2.cell? ⟨w.heap.size, 1, none⟩ = some (.slice B0 V.length d) := cell_at D2.out.st 1
          have m0 : w2.cell? ⟨w.heap.size + 1 + 1, 0, none⟩ = some x := cell_at hres 0
          have m1 : w2.cell? ⟨w.heap.size + 1 + 1, 1, none⟩ = some y := cell_at hres 1
          have f0 := frozen_at hres 0
          have f1 := frozen_at hres 1
          have z1 : w.heap.size < w2.heap.size := size_lt_of D2.out.st
          have z2 : w.heap.size + 1 < w2.heap.size := size_lt_of D2.out.tx
          have z3 : w.heap.size + 1 + 1 < w2.heap.size := size_lt_of hres
          have HB := Lib.hid (((D2.out.below.setCell (p := ⟨w.heap.size + 1 + 1, 0, none⟩) (by simp; omega) (.slice A0 A.length c)).setCell (p := ⟨w.heap.size + 1 + 1, 1, none⟩) (by simp; omega) (.slice B0 V.length d)).alloc (by have := D2.out.below.size; simp [World.setCell]; omega) (.cells #[.string from_, .int .i64 fa, .int .i64 fn] 127))
          clear hres
          go_wp2
          refine bodyPost_ret (v := .tuple #[.agg #[.slice A0 A.length c, .slice B0 V.length d], .int .i64 91]) (by simp [results, Tryd.results24, go_sem, m0, m1, z1, z2, z3]) rfl ?_
          rw [HE.out]
          exact ⟨A0, c, B0, d, rfl, readsN_below HR.out HB.out, readsN_below HV.out HB.out, HB.out⟩
        · exact absurd (show errOf ⟨kind, from_, to, key, val, amount, nonce⟩ (fa, fn) = 0 by unfold errOf; rw [htx]; simp [hn, hk, ha]) he
      · exact absurd (show errOf ⟨kind, from_, to, key, val, amount, nonce⟩ (fa, fn) = 0 by unfold errOf; rw [htx]; simp [hn, hk]) he
    · have HE := Lib.hid (refDo_err (A := A) (V := V) (t := ⟨kind, from_, to, key, val, amount, nonce⟩) (e := 90) (by dsimp only; rw [HFA.out]; unfold errOf; rw [htx]; simp [hn]) (by decide))
      have e1 : (nonce != wrap64 (fn + 1)) = true := by simp [hn]
      clear hok he htx hn
      go_enter Tryd.func24, Tryd.ntmps24
      go_wp2_with fail
      refine (refTx_any _ _ _ _ _ _ _ (by have := HSL.out.sf; simp at this; omega) (by have := HSL.out.st; simp at this; omega) (by have := HSL.out.sk; simp at this; omega) (by have := HSL.out.sv; simp at this; omega) _).mono ?_
      rintro e w1 ⟨rfl, hb⟩
      rw [HOK.out]
      have D1 := Lib.hid (D0.out.grow hb)
      have c0 : w1.cell? ⟨w.heap.size, 0, none⟩ = some (.slice A0 A.length c) := cell_at D1.out.st 0
      have c1 : w1.cell? ⟨w.heap.size, 1, none⟩ = some (.slice B0 V.length d) := cell_at D1.out.st 1
      have t1 : w1.cell? ⟨w.heap.size + 1, 1, none⟩ = some (.string from_) := cell_at D1.out.tx 1
      clear hb
      go_wp2_with fail
      refine (HO.out _ (readsN_below HR.out D1.out.below)).mono ?_
      rintro e w2 ⟨rfl, hb⟩
      have D2 := Lib.hid (D1.out.grow hb)
      clear hb c0 c1 t1
      obtain ⟨x, y, hres⟩ := D2.out.res
      have t6 : w2.cell? ⟨w.heap.size + 1, 6, none⟩ = some (.int .i64 nonce) := cell_at D2.out.tx 6
      have c0 : w2.cell? ⟨w.heap.size, 0, none⟩ = some (.slice A0 A.length c) := cell_at D2.out.st 0
      have c1 : w2.cell? ⟨w.heap.size, 1, none⟩ = some (.slice B0 V.length d) := cell_at D2.out.st 1
      have m0 : w2.cell? ⟨w.heap.size + 1 + 1, 0, none⟩ = some x := cell_at hres 0
      have m1 : w2.cell? ⟨w.heap.size + 1 + 1, 1, none⟩ = some y := cell_at hres 1
      have f0 := frozen_at hres 0
      have f1 := frozen_at hres 1
      have z1 : w.heap.size < w2.heap.size := size_lt_of D2.out.st
      have z2 : w.heap.size + 1 < w2.heap.size := size_lt_of D2.out.tx
      have z3 : w.heap.size + 1 + 1 < w2.heap.size := size_lt_of hres
      have HB := Lib.hid (((D2.out.below.setCell (p := ⟨w.heap.size + 1 + 1, 0, none⟩) (by simp; omega) (.slice A0 A.length c)).setCell (p := ⟨w.heap.size + 1 + 1, 1, none⟩) (by simp; omega) (.slice B0 V.length d)).alloc (by have := D2.out.below.size; simp [World.setCell]; omega) (.cells #[.string from_, .int .i64 fa, .int .i64 fn] 127))
      clear hres
      go_wp2
      refine bodyPost_ret (v := .tuple #[.agg #[.slice A0 A.length c, .slice B0 V.length d], .int .i64 90]) (by simp [results, Tryd.results24, go_sem, m0, m1, z1, z2, z3]) rfl ?_
      rw [HE.out]
      exact ⟨A0, c, B0, d, rfl, readsN_below HR.out HB.out, readsN_below HV.out HB.out, HB.out⟩
end Go.Proofs.YtnhpkefjmpgneaaDoor
namespace Go.Proofs.YtnhpkefjmpgneaaDoor
open Go.RowKit

/-! ### the document's Do: a value -/
theorem info_val : (Tryd.prog.info? 130).map (fun i => (i.zero, i.size, i.bytes)) = some (some (.agg #[.string ⟨#[]⟩, .string ⟨#[]⟩, .string ⟨#[]⟩]), 3, 48) := by kernel_rfl
/-- In the loop over the values: the boxes, the account's box. -/
structure ValSt (w W : World) (s1 s2 : Value) (t ac : Array Value) (b6 : Nat) : Prop where
  d : DoSt w W s1 s2 t
  ac : W.heap[b6]? = some (.cells ac 127 (0, 0))
  lt : w.heap.size + 1 + 1 < b6
theorem ValSt.grown {w W W' : World} {s1 s2 : Value} {t ac : Array Value} {b6 : Nat} (h : ValSt w W s1 s2 t ac b6) {base : Nat} {e : TypeId} {size n : Nat} {v : Value} {xs : List Value} (ho : W.ownsRow base e size v n xs) (hb : b6 < base) (hg : W.grownBy W' v.ownBlock) : ValSt w W' s1 s2 t ac b6 :=
  have hl := h.lt
  ⟨⟨low_grown ho hg h.d.st (by omega), low_grown ho hg h.d.tx (by omega), by obtain ⟨x, y, hr⟩ := h.d.res; exact ⟨x, y, low_grown ho hg hr (by omega)⟩, below_grown h.d.below h.d.below.size ho (by omega) hg⟩, low_grown ho hg h.ac hb, h.lt⟩
theorem ValSt.grow {w W W' : World} {s1 s2 : Value} {t ac : Array Value} {b6 : Nat} (h : ValSt w W s1 s2 t ac b6) (hb : Below W.heap.size W W') : ValSt w W' s1 s2 t ac b6 :=
  ⟨h.d.grow hb, iter_call h.ac hb, h.lt⟩
theorem ValSt.drewN {w W : World} {s1 s2 : Value} {t ac : Array Value} {b6 : Nat} (h : ValSt w W s1 s2 t ac b6) (n : Nat) : ValSt w (W.drewN n) s1 s2 t ac b6 :=
  h.grow (belowN (Below.refl _ _) n)
set_option maxHeartbeats 4000000 in
set_option maxRecDepth 100000 in
theorem refDo_put (A : Accs) (A0 : Option Addr) (c : Nat) (V : Vals) (B0 : Option Addr) (d : Nat) (kind amount nonce : Int) (from_ to key val : ByteArray) (hsz : A.length ≤ 100000) (hvz : V.length ≤ 100000) (sl : Tx.Slim ⟨kind, from_, to, key, val, amount, nonce⟩) (w : World) (hr : ReadsN w A0 3 (A.map rowA)) (hv : ReadsN w B0 3 (V.map rowV)) (he : errOf ⟨kind, from_, to, key, val, amount, nonce⟩ (accOf A from_) = 0) (hk : kind ≠ 1) :
    Calls Tryd.prog 24 #[.agg #[.slice A0 A.length c, .slice B0 V.length d], .agg #[.int .i64 kind, .string from_, .string to, .string key, .string val, .int .i64 amount, .int .i64 nonce]] w (RDoPost (refDo A V ⟨kind, from_, to, key, val, amount, nonce⟩) w) := by
  obtain ⟨i0, hi, hz0, hz1, hz2⟩ := info_parts info_val
  have HR := Lib.hid hr
  have HV := Lib.hid hv
  have HSL := Lib.hid sl
  clear hr hv sl
  have HF : Hid (refDo A V ⟨kind, from_, to, key, val, amount, nonce⟩ = (0, rput A from_ ((accOf A from_).1, wrap64 ((accOf A from_).2 + 1)), rput V (from_, key) val)) := by
    unfold Hid refDo
    rw [if_neg (by simpa using he), if_neg (by simpa using hk)]
  obtain ⟨h1, h2, -⟩ := ok_facts he
  have HOK := Lib.hid h1
  dsimp only at h2
  have HO := Lib.hid (fun W hW => refOf_any A A0 c (.slice B0 V.length d) from_ W hW)
  obtain ⟨⟨fa, fn⟩, hfa⟩ : ∃ x : Int × Int, accOf A from_ = x := ⟨_, rfl⟩
  rw [hfa] at h2 HO HF
  dsimp only at h2
  have e1 : (nonce != wrap64 (fn + 1)) = false := by rw [← h2]; simp
  have ek : (kind == 1) = false := by simp [hk]
  clear h1 h2 he hfa hk
  generalize hwn : wrap64 (fn + 1) = nn at HF e1
  have D0 := Lib.hid (doSt_new w (.slice A0 A.length c) (.slice B0 V.length d) #[.int .i64 kind, .string from_, .string to, .string key, .string val, .int .i64 amount, .int .i64 nonce] (.slice none 0 0) (.slice none 0 0))
  go_enter Tryd.func24, Tryd.ntmps24
  go_wp2_with fail
  refine (refTx_any _ _ _ _ _ _ _ (by have := HSL.out.sf; simp at this; omega) (by have := HSL.out.st; simp at this; omega) (by have := HSL.out.sk; simp at this; omega) (by have := HSL.out.sv; simp at this; omega) _).mono ?_
  rintro e w1 ⟨rfl, hb⟩
  rw [HOK.out]
  have D1 := Lib.hid (D0.out.grow hb)
  have c0 : w1.cell? ⟨w.heap.size, 0, none⟩ = some (.slice A0 A.length c) := cell_at D1.out.st 0
  have c1 : w1.cell? ⟨w.heap.size, 1, none⟩ = some (.slice B0 V.length d) := cell_at D1.out.st 1
  have t1 : w1.cell? ⟨w.heap.size + 1, 1, none⟩ = some (.string from_) := cell_at D1.out.tx 1
  clear hb
  go_wp2_with fail
  refine (HO.out _ (readsN_below HR.out D1.out.below)).mono ?_
  rintro e w2 ⟨rfl, hb⟩
  have D2 := Lib.hid (D1.out.grow hb)
  clear hb c0 c1 t1
  have t6 : w2.cell? ⟨w.heap.size + 1, 6, none⟩ = some (.int .i64 nonce) := cell_at D2.out.tx 6
  have t0 : w2.cell? ⟨w.heap.size + 1, 0, none⟩ = some (.int .i64 kind) := cell_at D2.out.tx 0
  have t5 : w2.cell? ⟨w.heap.size + 1, 5, none⟩ = some (.int .i64 amount) := cell_at D2.out.tx 5
  have c0 : w2.cell? ⟨w.heap.size, 0, none⟩ = some (.slice A0 A.length c) := cell_at D2.out.st 0
  have c1 : w2.cell? ⟨w.heap.size, 1, none⟩ = some (.slice B0 V.length d) := cell_at D2.out.st 1
  have z1 : w.heap.size < w2.heap.size := size_lt_of D2.out.st
  have z2 : w.heap.size + 1 < w2.heap.size := size_lt_of D2.out.tx
  have z3 : w.heap.size + 1 + 1 < w2.heap.size := by obtain ⟨x, y, h⟩ := D2.out.res; exact size_lt_of h
  go_wp2_with fail
  go_loopw [8, 9] (fun v i wr => ∃ k : Nat, i = .int .i64 k ∧ k ≤ V.length ∧ wr.ownsRow (w2.heap.size + 1) 130 3 v ((V.take k).filter (fun x => decide (x.1 ≠ (from_, key)))).length (((V.take k).filter (fun x => decide (x.1 ≠ (from_, key)))).flatMap rowV) ∧ w2.heap.size + 1 ≤ wr.heap.size ∧ Hid (ValSt w wr (.slice A0 A.length c) (.slice B0 V.length d) #[.int .i64 kind, .string from_, .string to, .string key, .string val, .int .i64 amount, .int .i64 nonce] #[.string from_, .int .i64 fa, .int .i64 nn] w2.heap.size)) (fun _ i _ => V.length - (intOf i).toNat)
  case atStart => exact ⟨0, rfl, by omega, World.ownsRow_nil _ _ _ _, by simp, ⟨D2.out.alloc _, heap_new _ _, z3⟩⟩
  case round =>
    obtain ⟨k, rfl, hk, hown, hz, hS⟩ := hrel
    clear t6 t0 t5 c0 c1 hwn e1
    have c0 : wr.cell? ⟨w.heap.size, 0, none⟩ = some (.slice A0 A.length c) := cell_at hS.out.d.st 0
    have c1 : wr.cell? ⟨w.heap.size, 1, none⟩ = some (.slice B0 V.length d) := cell_at hS.out.d.st 1
    have d1 : wr.cell? ⟨w.heap.size + 1, 1, none⟩ = some (.string from_) := cell_at hS.out.d.tx 1
    have d3 : wr.cell? ⟨w.heap.size + 1, 3, none⟩ = some (.string key) := cell_at hS.out.d.tx 3
    have d4 : wr.cell? ⟨w.heap.size + 1, 4, none⟩ = some (.string val) := cell_at hS.out.d.tx 4
    by_cases hlt : k < V.length
    · obtain ⟨a, b, u, hx2⟩ : ∃ a b v, V[k] = ((a, b), v) := ⟨_, _, _, rfl⟩
      obtain ⟨ad, rfl, k0, k1, k2⟩ := rowV_at (readsN_below HV.out hS.out.d.below) hlt hx2
      have htk : V.take (k + 1) = V.take k ++ [((a, b), u)] := by rw [List.take_succ_eq_append_getElem hlt, hx2]
      have hlen : ((V.take k).filter (fun x => decide (x.1 ≠ (from_, key)))).length ≤ k := Nat.le_trans (List.length_filter_le _ _) (List.length_take_le _ _)
      by_cases hn : a = from_ ∧ b = key
      · have hF : Hid ((V.take (k + 1)).filter (fun x => decide (x.1 ≠ (from_, key))) = (V.take k).filter (fun x => decide (x.1 ≠ (from_, key)))) := by rw [Hid, htk, List.filter_append]; simp [hn]
        have q1 := eq_bytes hn.1
        have q2 := eq_bytes hn.2
        clear hn htk hx2
        go_wp2_with fail
        go_quiet (fail)
        go_wp2
        go_roundw
        case rel => exact ⟨k + 1, by go_num, by omega, by rw [hF.out]; exact hown, hz, hS.out.drewN _⟩
        case measure => simp [intOf]; omega
      · have hF : Hid ((V.take (k + 1)).filter (fun x => decide (x.1 ≠ (from_, key))) = (V.take k).filter (fun x => decide (x.1 ≠ (from_, key))) ++ [((a, b), u)]) := by rw [Hid, htk, List.filter_append]; simp [hn]
        clear htk hx2
        generalize (V.take k).filter (fun x => decide (x.1 ≠ (from_, key))) = L at hF hown hlen
        rcases (show a ≠ from_ ∨ (a = from_ ∧ b ≠ key) by by_cases h : a = from_; exact .inr ⟨h, fun h' => hn ⟨h, h'⟩⟩; exact .inl h) with hq | ⟨hq, hq2⟩
        · have q1 := ne_bytes hq
          clear hn hq
          go_wp2_with fail
          go_quiet (fail)
          go_wp2_with (at_builtin; refine wpList_append_d rfl _ _ 48 rfl (w2.heap.size + 1) 130 i0 (.agg #[.string ⟨#[]⟩, .string ⟨#[]⟩, .string ⟨#[]⟩]) 3 48 Tryd.underlying48 hi hz0 hz1 hz2 rfl (by decide) _ _ _ rfl ((own_drewN hown _).alloc _) ⟨wr.heap.size, 0, none⟩ 1 1 [.string a, .string b, .string u] rfl rfl ?c1 ?c2 ?c3 ?c4 ?c5 ?_)
          case c1 => exact three_new _ _ _ _ _
          case c2 => intro u hu; simp at hu; rcases hu with rfl | rfl | rfl <;> rfl
          case c3 => unfold maxLen; omega
          case c4 => omega
          case c5 => simp; omega
          intro v' w3 hown' hgrow hdr
          have hO := (own_drewN hown nq).alloc (.cells #[.string a, .string b, .string u] 130)
          have hS2 := Lib.hid (((hS.out.drewN nq).grow ((Below.refl _ _).alloc (Nat.le_refl _) _)).grown hO (by omega) hgrow)
          have hz2 : w2.heap.size + 1 ≤ w3.heap.size := by have := hgrow.size; simp at this; omega
          clear hO hgrow hdr
          go_wp2
          go_roundw
          case rel => exact ⟨k + 1, by go_num, by omega, by rw [hF.out, List.length_append, flat_snoc]; exact hown', hz2, hS2.out⟩
          case measure => simp [intOf]; omega
        · have q1 := eq_bytes hq
          have q2 := ne_bytes hq2
          clear hn hq hq2
          go_wp2_with fail
          go_quiet (fail)
          go_wp2_with (at_builtin; refine wpList_append_d rfl _ _ 48 rfl (w2.heap.size + 1) 130 i0 (.agg #[.string ⟨#[]⟩, .string ⟨#[]⟩, .string ⟨#[]⟩]) 3 48 Tryd.underlying48 hi hz0 hz1 hz2 rfl (by decide) _ _ _ rfl ((own_drewN hown _).alloc _) ⟨wr.heap.size, 0, none⟩ 1 1 [.string a, .string b, .string u] rfl rfl ?c1 ?c2 ?c3 ?c4 ?c5 ?_)
          case c1 => exact three_new _ _ _ _ _
          case c2 => intro u hu; simp at hu; rcases hu with rfl | rfl | rfl <;> rfl
          case c3 => unfold maxLen; omega
          case c4 => omega
          case c5 => simp; omega
          intro v' w3 hown' hgrow hdr
          have hO := (own_drewN hown nq).alloc (.cells #[.string a, .string b, .string u] 130)
          have hS2 := Lib.hid (((hS.out.drewN nq).grow ((Below.refl _ _).alloc (Nat.le_refl _) _)).grown hO (by omega) hgrow)
          have hz2 : w2.heap.size + 1 ≤ w3.heap.size := by have := hgrow.size; simp at this; omega
          clear hO hgrow hdr
          go_wp2
          go_roundw
          case rel => exact ⟨k + 1, by go_num, by omega, by rw [hF.out, List.length_append, flat_snoc]; exact hown', hz2, hS2.out⟩
          case measure => simp [intOf]; omega
    · obtain rfl : k = V.length := by omega
      rw [List.take_length] at hown
      have hlen : (V.filter (fun x => decide (x.1 ≠ (from_, key)))).length ≤ 100000 := Nat.le_trans (List.length_filter_le _ _) hvz
      have hP : Hid (rput V (from_, key) val = V.filter (fun x => decide (x.1 ≠ (from_, key))) ++ [((from_, key), val)]) := rfl
      generalize V.filter (fun x => decide (x.1 ≠ (from_, key))) = L at hP hown hlen
      have hO := (own_drew hown).alloc (.cells #[.string from_, .string key, .string val] 130)
      have g1 := Lib.hid (three_new wr.drew (.string from_) (.string key) (.string val) 130)
      have g2 : Hid (∀ u ∈ [Value.string from_, .string key, .string val], u.oneCell' = true) := by intro u hu; simp at hu; rcases hu with rfl | rfl | rfl <;> rfl
      have g3 : L.length + 1 ≤ maxLen := by unfold maxLen; omega
      have g4 : (L.length + 1) * 48 ≤ 140737488355328 := by omega
      have g5 : Hid (w2.heap.size + 1 ≤ (wr.drew.alloc (.cells #[.string from_, .string key, .string val] 130)).heap.size) := by rw [Hid]; simp; omega
      have HO2 := Lib.hid hO
      have y1 : w.heap.size < wr.heap.size := by omega
      have y2 : w.heap.size + 1 < wr.heap.size := by omega
      have y3 : w.heap.size + 1 + 1 < wr.heap.size := by omega
      clear hO z1 z2
      go_wp2_with fail
      go_region_held3 (fun W => W.cell? ⟨w.heap.size, 0, none⟩ = some (.slice A0 A.length c) ∧ W.cell? ⟨w.heap.size + 1, 1, none⟩ = some (.string from_) ∧ W.cell? ⟨w.heap.size + 1, 3, none⟩ = some (.string key) ∧ W.cell? ⟨w.heap.size + 1, 4, none⟩ = some (.string val)) (first | (go_keep; done) | exact ⟨m1, n1, n3, n4⟩ | exact ⟨cell_at (S3.out.d.store _ _).st 0, cell_at (S3.out.d.store _ _).tx 1, cell_at (S3.out.d.store _ _).tx 3, cell_at (S3.out.d.store _ _).tx 4⟩ | (refine ⟨?_, ?_, ?_, ?_⟩; exact cell_at (S3.out.d.store _ _).st 0; exact cell_at (S3.out.d.store _ _).tx 1; exact cell_at (S3.out.d.store _ _).tx 3; exact cell_at (S3.out.d.store _ _).tx 4)) ((refine step_append_lies _ rfl (.tmp 102) (.tmp 110) 48 rfl (w2.heap.size + 1) 130 i0 (.agg #[.string ⟨#[]⟩, .string ⟨#[]⟩, .string ⟨#[]⟩]) 3 48 Tryd.underlying48 hi hz0 hz1 hz2 rfl (by decide) _ _ _ (by simp [Act.eval, Act.put]) HO2.out ⟨wr.heap.size, 0, none⟩ 1 1 [.string from_, .string key, .string val] (by simp [Act.eval, Act.put]) rfl g1.out g2.out (by decide) g3 g4 g5.out _ rfl ?_; intro g cap w3 hown2 hgrow hgg hgl; have S3 := Lib.hid (((hS.out.drewN 1).grow ((Below.refl _ _).alloc (Nat.le_refl _) _)).grown HO2.out (by omega) hgrow); have m1 : w3.cell? ⟨w.heap.size, 0, none⟩ = some (.slice A0 A.length c) := cell_at S3.out.d.st 0; have m2 : w3.cell? ⟨w.heap.size, 1, none⟩ = some (.slice B0 V.length d) := cell_at S3.out.d.st 1; have m4 := frozen_at S3.out.d.st 0; have m5 := frozen_at S3.out.d.st 1; have n1 : w3.cell? ⟨w.heap.size + 1, 1, none⟩ = some (.string from_) := cell_at S3.out.d.tx 1; have n3 : w3.cell? ⟨w.heap.size + 1, 3, none⟩ = some (.string key) := cell_at S3.out.d.tx 3; have n4 : w3.cell? ⟨w.heap.size + 1, 4, none⟩ = some (.string val) := cell_at S3.out.d.tx 4; have hO2 := Lib.hid hown2; clear hown2 hgrow hgg hgl))
      all_goals
        have hgb := (own_base hO2.out g rfl).1
        have D3 := Lib.hid (S3.out.d.store (.slice A0 A.length c) (.slice (some ⟨g, 0, none⟩) (L.length + 1) cap))
        have a6 := Lib.hid (show ((w3.setCell ⟨w.heap.size, 0, none⟩ (.slice A0 A.length c)).setCell ⟨w.heap.size, 1, none⟩ (.slice (some ⟨g, 0, none⟩) (L.length + 1) cap)).heap[w2.heap.size]? = some (.cells #[.string from_, .int .i64 fa, .int .i64 nn] 127 (0, 0)) by rw [Below.heap_setCell _ _ _ _ (by simp; omega), Below.heap_setCell _ _ _ _ (by simp; omega)]; exact S3.out.ac)
        have hO3 := ownsRow_setCell_below (ownsRow_setCell_below hO2.out (a := ⟨w.heap.size, 0, none⟩) (by simp; omega) (.slice A0 A.length c)) (a := ⟨w.heap.size, 1, none⟩) (by simp; omega) (.slice (some ⟨g, 0, none⟩) (L.length + 1) cap)
        have hO4 : _ := hO3
        rw [show L.flatMap rowV ++ [Value.string from_, .string key, .string val] = (L ++ [((from_, key), val)]).flatMap rowV from (flat_snoc rowV L ((from_, key), val)).symm] at hO4
        obtain ⟨A1, c2, hv1, hRV⟩ := readsN_of_own hO4 (fun y _ => rfl) (by simp) (by decide) (by omega)
        have hA1 : A1 = some ⟨g, 0, none⟩ := by injection hv1 with h1 h2 h3; exact h1.symm
        subst hA1
        have HRV := Lib.hid hRV
        clear hO3 hO4 hv1 hRV m1 m2 m4 m5
        have b0 := cell_at D3.out.st 0
        have b1 := cell_at D3.out.st 1
        have b2 := cell_at a6.out 0
        have b3 := cell_at a6.out 1
        have b4 := cell_at a6.out 2
        generalize (w3.setCell ⟨w.heap.size, 0, none⟩ (.slice A0 A.length c)).setCell ⟨w.heap.size, 1, none⟩ (.slice (some ⟨g, 0, none⟩) (L.length + 1) cap) = w4 at D3 a6 HRV b0 b1 b2 b3 b4 ⊢
        go_wp2_with fail
        refine (refPut_any A A0 c (some ⟨g, 0, none⟩) (L.length + 1) cap from_ fa nn (by omega) _ (readsN_below HR.out D3.out.below)).mono ?_
        rintro e w5 ⟨A2, c3, rfl, hR5, hF5, hb⟩
        have D5 := Lib.hid (D3.out.grow hb)
        have hRV5 := readsN_below HRV.out hb
        obtain ⟨x, y, hres⟩ := D5.out.res
        have hz5 : w.heap.size + 1 + 1 < w4.heap.size := by obtain ⟨x, y, h⟩ := D3.out.res; exact size_lt_of h
        have m0 : w5.cell? ⟨w.heap.size + 1 + 1, 0, none⟩ = some x := cell_at hres 0
        have m1 : w5.cell? ⟨w.heap.size + 1 + 1, 1, none⟩ = some y := cell_at hres 1
        have f0 := frozen_at hres 0
        have f1 := frozen_at hres 1
        have HR5 := Lib.hid (readsN_set (readsN_set hR5 (p := ⟨w.heap.size + 1 + 1, 0, none⟩) (fun ad h => by have := hF5 ad h; simp at this ⊢; omega) (.slice A2 (rput A from_ (fa, nn)).length c3)) (p := ⟨w.heap.size + 1 + 1, 1, none⟩) (fun ad h => by have := hF5 ad h; simp at this ⊢; omega) (.slice (some ⟨g, 0, none⟩) (L.length + 1) cap))
        have HV5 := Lib.hid (readsN_set (readsN_set hRV5 (p := ⟨w.heap.size + 1 + 1, 0, none⟩) (fun ad h => by cases h; simp; omega) (.slice A2 (rput A from_ (fa, nn)).length c3)) (p := ⟨w.heap.size + 1 + 1, 1, none⟩) (fun ad h => by cases h; simp; omega) (.slice (some ⟨g, 0, none⟩) (L.length + 1) cap))
        have HB5 := Lib.hid ((D5.out.below.setCell (p := ⟨w.heap.size + 1 + 1, 0, none⟩) (by simp; omega) (.slice A2 (rput A from_ (fa, nn)).length c3)).setCell (p := ⟨w.heap.size + 1 + 1, 1, none⟩) (by simp; omega) (.slice (some ⟨g, 0, none⟩) (L.length + 1) cap))
        clear hres hR5 hF5 hb hRV5 b0 b1 b2 b3 b4
        go_wp2
        refine bodyPost_ret (v := .tuple #[.agg #[.slice A2 (rput A from_ (fa, nn)).length c3, .slice (some ⟨g, 0, none⟩) (L.length + 1) cap], .int .i64 0]) (by simp [results, Tryd.results24, go_sem, m0, m1]) rfl ?_
        rw [HF.out]
        exact ⟨A2, c3, some ⟨g, 0, none⟩, cap, by dsimp only; rw [hP.out, List.length_append]; rfl, HR5.out, by dsimp only; rw [hP.out]; exact HV5.out, HB5.out⟩
end Go.Proofs.YtnhpkefjmpgneaaDoor
