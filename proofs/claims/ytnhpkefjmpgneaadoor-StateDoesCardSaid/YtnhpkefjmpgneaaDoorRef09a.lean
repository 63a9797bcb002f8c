import Derived.Test.YtnhpkefjmpgneaaDoorRef08
import Derived.Test.YtnhpkefjmpgneaaDoorRef01
import Derived.Test.YtnhpkefjmpgneaaDoorTotal
import Derived.Test.YtnhpkefjmpgneaaDoorSel
namespace Go.Proofs.YtnhpkefjmpgneaaDoor
open Go.RowKit

/-! ### the document's layer 9: Of, Get, Total -/
def rowA (x : ByteArray × (Int × Int)) : List Value := [.string x.1, .int .i64 x.2.1, .int .i64 x.2.2]
def rowV (x : (ByteArray × ByteArray) × ByteArray) : List Value := [.string x.1.1, .string x.1.2, .string x.2]
theorem heap_two (w : World) (a b : Obj) : ((w.alloc a).alloc b).heap[w.heap.size]? = some a ∧ ((w.alloc a).alloc b).heap[w.heap.size + 1]? = some b :=
  ⟨(Below.heap_alloc _ b _ (by simp)).trans (heap_new w a), by have := heap_new (w.alloc a) b; simpa using this⟩
theorem accOf_drop (A : Accs) (k : Nat) (h : k < A.length) (who : ByteArray) : accOf (A.drop k) who = if who = A[k].1 then A[k].2 else accOf (A.drop (k + 1)) who := by
  rw [List.drop_eq_getElem_cons h]
  unfold accOf
  conv => lhs; rw [show A[k] = (A[k].1, A[k].2) from rfl]
  rw [aget_cons]
  split <;> rfl
theorem valOf_drop (V : Vals) (k : Nat) (h : k < V.length) (p : ByteArray × ByteArray) : valOf (V.drop k) p = if p = V[k].1 then V[k].2 else valOf (V.drop (k + 1)) p := by
  rw [List.drop_eq_getElem_cons h]
  unfold valOf
  conv => lhs; rw [show V[k] = (V[k].1, V[k].2) from rfl]
  rw [aget_cons]
  split <;> rfl
theorem rowA_at {w : World} {A0 : Option Addr} {A : Accs} (h : ReadsN w A0 3 (A.map rowA)) {k : Nat} (hk : k < A.length) {nm : ByteArray} {am no : Int} (hx : A[k] = (nm, (am, no))) :
    ∃ ad, A0 = some ad ∧ w.cell? (ad.add (k * 3)) = some (.string nm) ∧ w.cell? ⟨(ad.add (k * 3)).block, (ad.add (k * 3)).off + 1, none⟩ = some (.int .i64 am) ∧ w.cell? ⟨(ad.add (k * 3)).block, (ad.add (k * 3)).off + 2, none⟩ = some (.int .i64 no) := by
  obtain ⟨ad, e, h0, hc⟩ := readsN_at h (k := k) (c := .string nm) (cs := [.int .i64 am, .int .i64 no]) (by rw [List.getElem?_map, List.getElem?_eq_getElem hk, hx]; rfl)
  exact ⟨ad, e, h0, hc 0 _ rfl, hc 1 _ rfl⟩
theorem rowV_at {w : World} {A0 : Option Addr} {V : Vals} (h : ReadsN w A0 3 (V.map rowV)) {k : Nat} (hk : k < V.length) {a b v : ByteArray} (hx : V[k] = ((a, b), v)) :
    ∃ ad, A0 = some ad ∧ w.cell? (ad.add (k * 3)) = some (.string a) ∧ w.cell? ⟨(ad.add (k * 3)).block, (ad.add (k * 3)).off + 1, none⟩ = some (.string b) ∧ w.cell? ⟨(ad.add (k * 3)).block, (ad.add (k * 3)).off + 2, none⟩ = some (.string v) := by
  obtain ⟨ad, e, h0, hc⟩ := readsN_at h (k := k) (c := .string a) (cs := [.string b, .string v]) (by rw [List.getElem?_map, List.getElem?_eq_getElem hk, hx]; rfl)
  exact ⟨ad, e, h0, hc 0 _ rfl, hc 1 _ rfl⟩
/-- Two texts, compared: the walk's two forms. -/
theorem eq_bytes {a b : ByteArray} (h : a = b) : (a.toList == b.toList) = true := by subst h; exact beq_self_eq_true _
theorem ne_bytes {a b : ByteArray} (h : a ≠ b) : (a.toList == b.toList) = false := by
  rw [← beq_toListBytes, beq_bytes]; exact decide_eq_false h

set_option maxHeartbeats 1000000 in
set_option maxRecDepth 100000 in
theorem refOf_any (A : Accs) (A0 : Option Addr) (c : Nat) (vv : Value) (who : ByteArray) (w : World) (hr : ReadsN w A0 3 (A.map rowA)) :
    Calls Tryd.prog 54 #[.agg #[.slice A0 A.length c, vv], .string who] w (Ret w (.agg #[.string who, .int .i64 (accOf A who).1, .int .i64 (accOf A who).2])) := by
  have hl : A.length ≤ 9223372036854775807 := by have := hr.1; simpa using this
  have HR := Lib.hid hr
  clear hr
  go_enter Tryd.func54, Tryd.ntmps54
  go_wp2
  go_loopw [5] (fun i wr => ∃ k : Nat, i = .int .i64 k ∧ k ≤ A.length ∧ Hid (accOf (A.drop k) who = accOf A who) ∧ Below w.heap.size w wr ∧ Hid (wr.heap[w.heap.size]? = some (.cells #[.slice A0 A.length c, vv] 50 (0, 0))) ∧ Hid (∃ x y z, wr.heap[w.heap.size + 1]? = some (.cells #[x, y, z] 127 (0, 0)))) (fun i _ => A.length - (intOf i).toNat)
  case atStart =>
    obtain ⟨h1, h2⟩ := heap_two w (.cells #[.slice A0 A.length c, vv] 50) (.cells #[.string ⟨#[]⟩, .int .i64 0, .int .i64 0] 127)
    exact ⟨0, rfl, by omega, rfl, ((Below.refl _ _).alloc (Nat.le_refl _) _).alloc (by simp) _, h1, ⟨_, _, _, h2⟩⟩
  case round =>
    obtain ⟨k, rfl, hk, hd, hB, hx, hy⟩ := hrel
    obtain ⟨x1, x2, x3, hy⟩ := hy.out
    have HY := Lib.hid hy
    have c0 : wr.cell? ⟨w.heap.size, 0, none⟩ = some (.slice A0 A.length c) := cell_at hx.out 0
    have y0 : wr.cell? ⟨w.heap.size + 1, 0, none⟩ = some x1 := cell_at hy 0
    have y1 : wr.cell? ⟨w.heap.size + 1, 1, none⟩ = some x2 := cell_at hy 1
    have y2 : wr.cell? ⟨w.heap.size + 1, 2, none⟩ = some x3 := cell_at hy 2
    have f0 := frozen_at hy 0
    have f1 := frozen_at hy 1
    have f2 := frozen_at hy 2
    clear hy
    by_cases hlt : k < A.length
    · obtain ⟨nm, am, no, hx2⟩ : ∃ nm am no, A[k] = (nm, (am, no)) := ⟨_, _, _, rfl⟩
      obtain ⟨ad, rfl, k0, k1, k2⟩ := rowA_at (readsN_below HR.out hB) hlt hx2
      have hs := accOf_drop A k hlt who
      rw [hd.out, hx2] at hs
      have HS := Lib.hid hs
      clear hs hx2
      by_cases hn : who = nm
      · subst hn
        have HF : Hid (accOf A who = (am, no)) := by rw [Hid, HS.out, if_pos rfl]
        have e1 := eq_bytes (rfl : who = who)
        go_wp2
        refine bodyPost_ret (v := .agg #[.string who, .int .i64 am, .int .i64 no]) (by simp [results, Tryd.results54, go_sem, y0, y1, y2]) rfl ?_
        exact ret_mk (by rw [HF.out]) (((hB.setCell (p := ⟨w.heap.size + 1, 0, none⟩) (by simp) _).setCell (p := ⟨w.heap.size + 1, 1, none⟩) (by simp) _).setCell (p := ⟨w.heap.size + 1, 2, none⟩) (by simp) _)
      · have HF : Hid (accOf (A.drop (k + 1)) who = accOf A who) := by rw [Hid, HS.out, if_neg hn]
        have e1 := ne_bytes (Ne.symm hn)
        clear hn
        go_wp2
        go_roundw
        case rel => exact ⟨k + 1, by go_num, by omega, HF, hB, hx, ⟨_, _, _, HY.out⟩⟩
        case measure => simp [intOf]; omega
    · obtain rfl : k = A.length := by omega
      have HF : Hid (accOf A who = (0, 0)) := by rw [Hid, ← hd.out, List.drop_length]; rfl
      go_wp2
      refine bodyPost_ret (v := .agg #[.string who, .int .i64 0, .int .i64 0]) (by simp [results, Tryd.results54, go_sem, y0, y1, y2]) rfl ?_
      exact ret_mk (by rw [HF.out]) (((hB.setCell (p := ⟨w.heap.size + 1, 0, none⟩) (by simp) _).setCell (p := ⟨w.heap.size + 1, 1, none⟩) (by simp) _).setCell (p := ⟨w.heap.size + 1, 2, none⟩) (by simp) _)

set_option maxHeartbeats 1000000 in
set_option maxRecDepth 100000 in
theorem refGet_any (V : Vals) (B0 : Option Addr) (c : Nat) (va : Value) (who key : ByteArray) (w : World) (hr : ReadsN w B0 3 (V.map rowV)) :
    Calls Tryd.prog 57 #[.agg #[va, .slice B0 V.length c], .string who, .string key] w (Ret w (.string (valOf V (who, key)))) := by
  have hl : V.length ≤ 9223372036854775807 := by have := hr.1; simpa using this
  have HR := Lib.hid hr
  clear hr
  go_enter Tryd.func57, Tryd.ntmps57
  go_wp2
  go_loopw [7] (fun i wr => ∃ k : Nat, i = .int .i64 k ∧ k ≤ V.length ∧ Hid (valOf (V.drop k) (who, key) = valOf V (who, key)) ∧ Below w.heap.size w wr ∧ Hid (wr.heap[w.heap.size]? = some (.cells #[va, .slice B0 V.length c] 50 (0, 0)))) (fun i _ => V.length - (intOf i).toNat)
  case atStart => exact ⟨0, rfl, by omega, rfl, (Below.refl _ _).alloc (Nat.le_refl _) _, heap_new _ _⟩
  case round =>
    obtain ⟨k, rfl, hk, hd, hB, hx⟩ := hrel
    have c0 : wr.cell? ⟨w.heap.size, 1, none⟩ = some (.slice B0 V.length c) := cell_at hx.out 1
    by_cases hlt : k < V.length
    · obtain ⟨a, b, v, hx2⟩ : ∃ a b v, V[k] = ((a, b), v) := ⟨_, _, _, rfl⟩
      obtain ⟨ad, rfl, k0, k1, k2⟩ := rowV_at (readsN_below HR.out hB) hlt hx2
      have hs := valOf_drop V k hlt (who, key)
      rw [hd.out, hx2] at hs
      have HS := Lib.hid hs
      clear hs hx2
      by_cases hn : a = who
      · by_cases hm : b = key
        · have HF : Hid (valOf V (who, key) = v) := by rw [Hid, HS.out, if_pos (by rw [hn, hm])]
          have e1 := eq_bytes hn
          have e2 := eq_bytes hm
          clear hn hm
          go_wp2
          go_ret
          exact ret_mk (by rw [HF.out]; rfl) hB
        · have HF : Hid (valOf (V.drop (k + 1)) (who, key) = valOf V (who, key)) := by rw [Hid, HS.out, if_neg (fun h => hm (congrArg Prod.snd h).symm)]
          have e1 := eq_bytes hn
          have e2 := ne_bytes hm
          clear hn hm
          go_wp2
          go_roundw
          case rel => exact ⟨k + 1, by go_num, by omega, HF, hB, hx⟩
          case measure => simp [intOf]; omega
      · have HF : Hid (valOf (V.drop (k + 1)) (who, key) = valOf V (who, key)) := by rw [Hid, HS.out, if_neg (fun h => hn (congrArg Prod.fst h).symm)]
        have e1 := ne_bytes hn
        clear hn
        go_wp2
        go_roundw
        case rel => exact ⟨k + 1, by go_num, by omega, HF, hB, hx⟩
        case measure => simp [intOf]; omega
    · obtain rfl : k = V.length := by omega
      have HF : Hid (valOf V (who, key) = ⟨#[]⟩) := by rw [Hid, ← hd.out, List.drop_length]; rfl
      go_wp2
      go_ret
      exact ret_mk (by rw [HF.out]; rfl) hB
theorem sumA_take (A : Accs) (k : Nat) (h : k < A.length) : sumA (A.take (k + 1)) = sumA (A.take k) + A[k].2.1 := by
  rw [List.take_succ_eq_append_getElem h, sumA_snoc]
set_option maxHeartbeats 1000000 in
set_option maxRecDepth 100000 in
theorem refTotal_any (A : Accs) (A0 : Option Addr) (c : Nat) (vv : Value) (w : World) (hr : ReadsN w A0 3 (A.map rowA)) :
    Calls Tryd.prog 56 #[.agg #[.slice A0 A.length c, vv]] w (Ret w (.int .i64 (wrap64 (sumA A)))) := by
  have hl : A.length ≤ 9223372036854775807 := by have := hr.1; simpa using this
  have HR := Lib.hid hr
  clear hr
  go_enter Tryd.func56, Tryd.ntmps56
  go_wp2
  go_loopw [3, 4] (fun n i wr => ∃ k : Nat, i = .int .i64 k ∧ n = .int .i64 (wrap64 (sumA (A.take k))) ∧ k ≤ A.length ∧ Below w.heap.size w wr ∧ Hid (wr.heap[w.heap.size]? = some (.cells #[.slice A0 A.length c, vv] 50 (0, 0)))) (fun _ i _ => A.length - (intOf i).toNat)
  case atStart => exact ⟨0, rfl, by rw [List.take_zero, sumA_nil], by omega, (Below.refl _ _).alloc (Nat.le_refl _) _, heap_new _ _⟩
  case round =>
    obtain ⟨k, rfl, rfl, hk, hB, hx⟩ := hrel
    have c0 : wr.cell? ⟨w.heap.size, 0, none⟩ = some (.slice A0 A.length c) := cell_at hx.out 0
    by_cases hlt : k < A.length
    · obtain ⟨nm, am, no, hx2⟩ : ∃ nm am no, A[k] = (nm, (am, no)) := ⟨_, _, _, rfl⟩
      obtain ⟨ad, rfl, k0, k1, k2⟩ := rowA_at (readsN_below HR.out hB) hlt hx2
      have HS := Lib.hid (sumA_take A k hlt)
      rw [hx2] at HS
      have HW := Lib.hid (wrap_add (sumA (A.take k)) am)
      clear hx2
      generalize sumA (A.take k) = z at HS HW ⊢
      go_wp2
      go_roundw
      case rel => exact ⟨k + 1, by go_num, by rw [HS.out, ← HW.out], by omega, hB, hx⟩
      case measure => simp [intOf]; omega
    · obtain rfl : k = A.length := by omega
      rw [List.take_length]
      go_wp2
      go_ret
      exact ret_int rfl hB
end Go.Proofs.YtnhpkefjmpgneaaDoor
