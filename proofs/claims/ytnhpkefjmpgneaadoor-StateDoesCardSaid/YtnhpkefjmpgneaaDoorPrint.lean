import Derived.Test.YtnhpkefjmpgneaaDoorMap
import Derived.Laws.IdiomStrings
namespace Go.Proofs.YtnhpkefjmpgneaaDoor
open Go.RowKit

/-! ### num.Print -/
def dec (n : Nat) : List UInt8 := if n < 10 then [UInt8.ofNat (48 + n)] else dec (n / 10) ++ [UInt8.ofNat (48 + n % 10)]
termination_by n
decreasing_by omega
def printB (n : Int) : ByteArray := ⟨((if n < 0 then [45] else []) ++ dec n.natAbs).toArray⟩
theorem dec_step (m : Nat) (ds : List UInt8) (h : m / 10 ≠ 0) : dec m ++ ds = dec (m / 10) ++ (UInt8.ofNat (48 + m % 10) :: ds) := by
  conv => lhs; rw [dec]
  rw [if_neg (by omega), List.append_assoc]
  rfl
theorem dec_last (m : Nat) (ds : List UInt8) (h : m / 10 = 0) : dec m ++ ds = UInt8.ofNat (48 + m % 10) :: ds := by
  rw [dec, if_pos (by omega), show m % 10 = m from by omega]
  rfl
def bVals (l : List UInt8) : List Value := l.map fun b => .int .u8 (b.toNat : Int)
theorem heap_set_at {W : World} {B : Nat} {cur : Array Value} {t : TypeId} {fr : Nat × Nat} (i : Nat) (v : Value) (h : W.heap[B]? = some (.cells cur t fr)) : (W.setCell ⟨B, i, none⟩ v).heap[B]? = some (.cells (cur.setIfInBounds i v) t fr) := by
  obtain ⟨hlt, hk⟩ := Array.getElem?_eq_some_iff.1 h
  show (W.heap.modify B _)[B]? = _
  rw [Array.getElem?_eq_getElem (by rw [Array.size_modify]; exact hlt), Array.getElem_modify_self, hk]
  rfl
theorem drop_set_here {α : Type} (l : List α) (i : Nat) (v : α) (h : i < l.length) : (l.set i v).drop i = v :: l.drop (i + 1) := by
  rw [List.drop_eq_getElem_cons (by simpa using h), List.getElem_set_self, List.drop_set_of_lt (by omega)]
/-- The loop's relation. -/
def PrintAt (n : Int) (N B : Nat) (w : World) (at_ left done : Value) (wr : World) : Prop :=
  ∃ (k m : Nat) (ds : List UInt8) (dn : Bool) (cur : Array Value), at_ = .int .i64 k ∧ left = .int .i64 (-(m : Int)) ∧ done = .bool dn ∧ k + ds.length = 20 ∧ m ≤ 9223372036854775808 ∧ ds.length ≤ 19 ∧
    Hid (if dn then dec N = ds else (dec N = dec m ++ ds ∧ m * 10 ^ ds.length ≤ N ∧ ds.length ≤ 18)) ∧ (dn = false → ds.length ≤ 18) ∧ wr.heap[w.heap.size]? = some (.cells cur 146 (0, 0)) ∧ cur.size = 20 ∧ Hid (cur.toList.drop k = bVals ds) ∧ Below w.heap.size w wr
theorem printAt_step {n : Int} {N : Nat} {w wr : World} {k m : Nat} {ds : List UInt8} {cur : Array Value} (hN : N ≤ 9223372036854775808) (hk : k + ds.length = 20) (hmb : m ≤ 9223372036854775808) (hds3 : ds.length ≤ 18)
    (hD : dec N = dec m ++ ds ∧ m * 10 ^ ds.length ≤ N ∧ ds.length ≤ 18) (hbk : wr.heap[w.heap.size]? = some (.cells cur 146 (0, 0))) (hcs : cur.size = 20) (hdr : cur.toList.drop k = bVals ds) (hB : Below w.heap.size w wr) :
    PrintAt n N 0 w (.int .i64 ((k : Int) - 1)) (.int .i64 (-((m : Int) / 10))) (.bool (-((m : Int) / 10) == 0)) (wr.setCell ⟨w.heap.size, k - 1, none⟩ (.int .u8 (48 + (m : Int) % 10))) := by
  have hlt : ∀ h : m / 10 ≠ 0, ds.length + 1 ≤ 18 := fun h => by
    have h1 : m / 10 * 10 ^ (ds.length + 1) ≤ N := by
      refine Nat.le_trans ?_ hD.2.1
      rw [Nat.pow_succ, Nat.mul_comm (10 ^ ds.length) 10, ← Nat.mul_assoc]
      exact Nat.mul_le_mul_right _ (by omega)
    have h2 : 10 ^ (ds.length + 1) ≤ N := Nat.le_trans (Nat.le_mul_of_pos_left _ (by omega)) h1
    have h3 : 10 ^ (ds.length + 1) < 10 ^ 19 := Nat.lt_of_le_of_lt h2 (by omega)
    have := (Nat.pow_lt_pow_iff_right (a := 10) (by omega)).1 h3
    omega
  refine ⟨k - 1, m / 10, UInt8.ofNat (48 + m % 10) :: ds, decide (m / 10 = 0), _, ?_, ?_, ?_, ?_, by omega, by simp; omega, ?_, ?_, heap_set_at _ _ hbk, by simpa using hcs, ?_, hB.setCell (p := ⟨w.heap.size, k - 1, none⟩) (Nat.le_refl _) _⟩
  · congr 1; omega
  · congr 1
  · congr 1
    have : ((m : Int) / 10) = ((m / 10 : Nat) : Int) := rfl
    rw [this]
    by_cases h : m / 10 = 0
    · simp [h]
    · simp only [h, decide_false]; simp; omega
  · simp; omega
  · by_cases h : m / 10 = 0
    · simp only [h, decide_true, if_true]
      rw [Hid, hD.1, dec_last m ds h]
    · simp only [h, decide_false]
      refine ⟨by rw [hD.1, dec_step m ds h], ?_, by simpa using hlt h⟩
      refine Nat.le_trans ?_ hD.2.1
      rw [List.length_cons, Nat.pow_succ, Nat.mul_comm (10 ^ ds.length) 10, ← Nat.mul_assoc]
      exact Nat.mul_le_mul_right _ (by omega)
  · intro h
    have : m / 10 ≠ 0 := by simpa using h
    simpa using hlt this
  · show List.drop (k - 1) _ = _
    rw [Array.toList_setIfInBounds, drop_set_here _ _ _ (by simp; omega), show k - 1 + 1 = k from by omega, hdr]
    unfold bVals
    rw [List.map_cons]
    congr 2
    rw [UInt8.toNat_ofNat']
    omega
theorem cells_drop {W : World} {B k : Nat} {cur : Array Value} {T : TypeId} {ds : List UInt8} (hb : W.heap[B]? = some (.cells cur T (0, 0))) (hd : cur.toList.drop k = bVals ds) : ∀ j (hj : j < ds.length), W.cell? ((⟨B, k, none⟩ : Addr).add j) = some (.int .u8 (ds[j].toNat : Int)) := by
  intro j hj
  have e1 : (⟨B, k, none⟩ : Addr).add j = ⟨B, k + j, none⟩ := by unfold Addr.add; split <;> simp_all
  rw [e1]
  unfold World.cell?
  simp only [hb, Option.isSome_none, Bool.false_eq_true, if_false]
  rw [← Array.getElem?_toList, ← List.getElem?_drop, hd]
  simp [bVals, hj]
theorem dec_ne (n : Nat) : dec n ≠ [] := by
  rw [dec]; split <;> simp
theorem arr20 : Tryd.prog.underlying 146 = some (.array (Tryd.prog.arrayLen 146) (Tryd.prog.elem 146)) := by kernel_rfl
theorem len20 : Tryd.prog.arrayLen 146 = 20 := by kernel_rfl
theorem elem20 (W : World) : (sizeOf (Tryd.prog.elem 146)).run Tryd.prog W = .ok 1 W := by kernel_rfl
theorem slice20 (b k len : Nat) (l : Int) (W : World) (h : k + len = 20) (hl : 0 < len) (hk : l = (k : Int)) : (Instr.sliceAt 146 (.pointer (some ⟨b, 0, none⟩)) (some (.int .i64 l)) none none).run Tryd.prog W = .ok (.slice (some ⟨b, k, none⟩) len len) W := by
  subst hk
  rw [run_sliceAt_array_l W 146 _ arr20 _ _ (by omega) (by rw [len20]; omega), elem20, len20]
  simp only [Result.andThen, slicedAt]
  rw [if_neg (by simp; omega), show 20 - ((k : Int)).toNat = len from by simp; omega]
  unfold Addr.add
  by_cases h0 : k = 0
  · subst h0; rfl
  · rw [if_neg (by simp; omega)]; simp
theorem printB_pos {n : Int} {N : Nat} {ds : List UInt8} (hN : n.natAbs = N) (h0 : ¬ n < 0) (hd : dec N = ds) : printB n = ⟨ds.toArray⟩ := by
  unfold printB; rw [hN, hd, if_neg h0]; rfl
theorem printB_neg {n : Int} {N : Nat} {ds : List UInt8} (hN : n.natAbs = N) (h0 : n < 0) (hd : dec N = ds) : printB n = ⟨(45 :: ds).toArray⟩ := by
  unfold printB; rw [hN, hd, if_pos h0]; rfl
set_option maxHeartbeats 1000000 in
set_option maxRecDepth 100000 in
theorem print_any (n : Int) (h0 : -9223372036854775808 ≤ n) (h1 : n ≤ 9223372036854775807) (w : World) : Calls Tryd.prog 43 #[.int .i64 n] w (Ret w (.string (printB n))) := by
  obtain ⟨N, hN⟩ : ∃ N : Nat, n.natAbs = N := ⟨_, rfl⟩
  have hNb : N ≤ 9223372036854775808 := by omega
  have hcs : (n > 0 ∧ ¬ n < 0) ∨ (¬ n > 0 ∧ ¬ n < 0) ∨ (¬ n > 0 ∧ n < 0) := by omega
  have HN := Lib.hid hN; clear hN
  rcases hcs with ⟨hp, hm⟩ | ⟨hp, hm⟩ | ⟨hp, hm⟩
  all_goals
    go_enter Tryd.func43, Tryd.ntmps43
    go_wp2
    go_loopw [4, 5, 6] (fun a l d wr => PrintAt n N 0 w a l d wr) (fun a _ _ _ => (intOf a).toNat)
    case atStart =>
      refine ⟨20, N, [], false, _, rfl, ?_, rfl, rfl, hNb, by simp, ⟨by simp, by simp, by simp⟩, fun _ => by simp, heap_new _ _, rfl, ?_, (Below.refl _ _).alloc (Nat.le_refl _) _⟩
      · have := HN.out; congr 1; omega
      · rfl
    case round =>
      obtain ⟨k, m, ds, dn, cur, rfl, rfl, rfl, hk, hmb, hds, hD, hds2, hbk, hcs, hdr, hB⟩ := hrel
      have HB := Lib.hid hbk
      have HC := Lib.hid hcs
      cases dn
      · have hds3 := hds2 rfl
        clear hds2
        have hsz : w.heap.size < wr.heap.size := (Array.getElem?_eq_some_iff.1 hbk).1
        have e1 : Int.tmod (-(m : Int)) 10 = -((m % 10 : Nat) : Int) := by rw [Int.neg_tmod]; rfl
        have e2 : Int.tdiv (-(m : Int)) 10 = -((m / 10 : Nat) : Int) := by rw [Int.neg_tdiv]; rfl
        obtain ⟨old, hc⟩ : ∃ v, wr.cell? ⟨w.heap.size, k - 1, none⟩ = some v := ⟨cur[k - 1]'(by omega), by simp [World.cell?, hbk]⟩
        have hf : wr.frozen? ⟨w.heap.size, k - 1, none⟩ = false := by simp [World.frozen?, hbk]
        clear hbk hcs
        go_wp2
        exact ⟨printAt_step hNb hk hmb hds3 hD.out HB.out HC.out hdr.out hB, by simp [intOf]; omega⟩
      · have hsz : w.heap.size < wr.heap.size := (Array.getElem?_eq_some_iff.1 hbk).1
        obtain ⟨old, hc⟩ : ∃ v, wr.cell? ⟨w.heap.size, k - 1, none⟩ = some v := ⟨cur[k - 1]'(by omega), by simp [World.cell?, hbk]⟩
        have hf : wr.frozen? ⟨w.heap.size, k - 1, none⟩ = false := by simp [World.frozen?, hbk]
        clear hbk hcs hds2
        have hdN : dec N = ds := hD.out
        have hlen : 0 < ds.length := by
          have := dec_ne N
          rw [hdN] at this
          exact List.length_pos_iff.2 this
        first
          | (have HP := Lib.hid (printB_pos HN.out (by omega) hdN)
             have h20 := slice20 w.heap.size k ds.length k wr hk hlen rfl
             have hcv := run_convert_bytes_back wr 95 9 5 ⟨w.heap.size, k, none⟩ ds.length ds Tryd.underlying95 Tryd.underlying5 Tryd.underlying9 (cells_drop HB.out hdr.out)
             clear hdN hD hk hlen
             go_wp2
             go_ret
             exact ⟨by rw [HP.out]; rfl, hB⟩)
          | (have HP := Lib.hid (printB_neg HN.out hm hdN)
             have hbk2 := heap_set_at (k - 1) (.int .u8 45) HB.out
             have hdr2 : (cur.setIfInBounds (k - 1) (.int .u8 45)).toList.drop (k - 1) = bVals (45 :: ds) := by
               rw [Array.toList_setIfInBounds, drop_set_here _ _ _ (by simp; have := HC.out; omega), show k - 1 + 1 = k from by omega, hdr.out]
               rfl
             have h20 := slice20 w.heap.size (k - 1) (45 :: ds).length ((k : Int) - 1) (wr.setCell ⟨w.heap.size, k - 1, none⟩ (.int .u8 45)) (by simp; omega) (by simp) (by omega)
             have hcv := run_convert_bytes_back (wr.setCell ⟨w.heap.size, k - 1, none⟩ (.int .u8 45)) 95 9 5 ⟨w.heap.size, k - 1, none⟩ (45 :: ds).length (45 :: ds) Tryd.underlying95 Tryd.underlying5 Tryd.underlying9 (cells_drop hbk2 hdr2)
             clear hdN hD hlen hbk2 hdr2
             generalize 45 :: ds = es at HP h20 hcv
             go_wp2
             go_ret
             exact ⟨by rw [HP.out]; rfl, hB.setCell (p := ⟨w.heap.size, k - 1, none⟩) (Nat.le_refl _) _⟩)
end Go.Proofs.YtnhpkefjmpgneaaDoor
