import Derived.Test.YtnhpkefjmpgneaaDoorTx
import Derived.Test.YtnhpkefjmpgneaaDoorOwn
import Derived.Test.YtnhpkefjmpgneaaDoorPrint
import Derived.Test.YtnhpkefjmpgneaaDoorState2
import Derived.Laws.Concat
namespace Go.Proofs.YtnhpkefjmpgneaaDoor
open Go.RowKit

/-! ### the document's layer 1: in, Add, Print -/
theorem ret_pair {w w' : World} {p : Int × Int} {x y : Int} (h : p = (x, y)) (hb : Below w.heap.size w w') : Ret w (.tuple #[.int .i64 p.1, .int .i64 p.2]) (.returned (.tuple #[.int .i64 x, .int .i64 y])) w' := ret_mk (by rw [h]) hb
theorem refIn_any (n : Int) (w : World) : Calls Tryd.prog 82 #[.int .i64 n] w (Ret w (.bool (mayN n))) := by
  by_cases h1 : -4611686018427387904 ≤ n <;> by_cases h2 : n ≤ 4611686018427387904
  all_goals
    go_enter Tryd.func82, Tryd.ntmps82
    go_wp2
    go_ret
    exact ret_bool (by simp [mayN, withinB]; try omega) (Below.refl _ _)
set_option maxHeartbeats 1000000 in
theorem refAdd_any (a b : Int) (w : World) : Calls Tryd.prog 51 #[.int .i64 a, .int .i64 b] w (Ret w (.tuple #[.int .i64 (addR a b).1, .int .i64 (addR a b).2])) := by
  have HIN := Lib.hid refIn_any
  cases ha : mayN a
  · have HA := Lib.hid ha
    have HF : Hid (addR a b = (0, 10)) := by unfold Hid addR; rw [ha]; rfl
    clear ha
    go_enter Tryd.func51, Tryd.ntmps51
    go_wp2_with (go_at_call 82; ((with_reducible refine (HIN.out _ _).mono ?_)); rintro e w1 ⟨rfl, hb⟩; rw [HA.out]; have HB := Lib.hid hb; clear hb)
    go_ret2
    exact ret_pair HF.out HB.out
  · cases hb : mayN b
    · have HA := Lib.hid ha
      have HB0 := Lib.hid hb
      have HF : Hid (addR a b = (0, 10)) := by unfold Hid addR; rw [ha, hb]; rfl
      clear ha hb
      go_enter Tryd.func51, Tryd.ntmps51
      go_wp2_with (first | (go_at_call 82; ((with_reducible refine (HIN.out a _).mono ?_)); rintro e w1 ⟨rfl, hb⟩; rw [HA.out]; have HB := Lib.hid hb; clear hb) | (go_at_call 82; ((with_reducible refine (HIN.out b _).mono ?_)); rintro e w2 ⟨rfl, hb⟩; rw [HB0.out]; have HB2 := Lib.hid (below_call HB.out HB.out.size hb); clear hb))
      go_ret2
      exact ret_pair HF.out HB2.out
    · have HA := Lib.hid ha
      have HB0 := Lib.hid hb
      have hs : mayN (a + b) = (decide (-4611686018427387904 ≤ a + b) && decide (a + b ≤ 4611686018427387904)) := rfl
      have HS := Lib.hid (show addR a b = if mayN (a + b) then (a + b, 0) else (0, 10) by unfold addR; rw [ha, hb]; simp)
      rw [mayN_iff] at ha hb
      obtain ⟨a0, a1⟩ := ha
      obtain ⟨b0, b1⟩ := hb
      rw [hs] at HS
      clear hs
      by_cases h1 : 0 < b
      · by_cases h2 : 4611686018427387904 - b < a
        · have HF : Hid (addR a b = (0, 10)) := by rw [Hid, HS.out, if_neg (by simp; omega)]
          go_enter Tryd.func51, Tryd.ntmps51
          go_wp2_with (first | (go_at_call 82; ((with_reducible refine (HIN.out a _).mono ?_)); rintro e w1 ⟨rfl, hb⟩; rw [HA.out]; have HB := Lib.hid hb; clear hb) | (go_at_call 82; ((with_reducible refine (HIN.out b _).mono ?_)); rintro e w2 ⟨rfl, hb⟩; rw [HB0.out]; have HB2 := Lib.hid (below_call HB.out HB.out.size hb); clear hb))
          go_ret2
          exact ret_pair HF.out HB2.out
        · have HF : Hid (addR a b = (a + b, 0)) := by rw [Hid, HS.out, if_pos (by simp; omega)]
          go_enter Tryd.func51, Tryd.ntmps51
          go_wp2_with (first | (go_at_call 82; ((with_reducible refine (HIN.out a _).mono ?_)); rintro e w1 ⟨rfl, hb⟩; rw [HA.out]; have HB := Lib.hid hb; clear hb) | (go_at_call 82; ((with_reducible refine (HIN.out b _).mono ?_)); rintro e w2 ⟨rfl, hb⟩; rw [HB0.out]; have HB2 := Lib.hid (below_call HB.out HB.out.size hb); clear hb))
          go_ret2
          exact ret_pair HF.out HB2.out
      · by_cases h2 : b < 0
        · by_cases h3 : a < -4611686018427387904 - b
          · have HF : Hid (addR a b = (0, 10)) := by rw [Hid, HS.out, if_neg (by simp; omega)]
            go_enter Tryd.func51, Tryd.ntmps51
            go_wp2_with (first | (go_at_call 82; ((with_reducible refine (HIN.out a _).mono ?_)); rintro e w1 ⟨rfl, hb⟩; rw [HA.out]; have HB := Lib.hid hb; clear hb) | (go_at_call 82; ((with_reducible refine (HIN.out b _).mono ?_)); rintro e w2 ⟨rfl, hb⟩; rw [HB0.out]; have HB2 := Lib.hid (below_call HB.out HB.out.size hb); clear hb))
            go_ret2
            exact ret_pair HF.out HB2.out
          · have HF : Hid (addR a b = (a + b, 0)) := by rw [Hid, HS.out, if_pos (by simp; omega)]
            go_enter Tryd.func51, Tryd.ntmps51
            go_wp2_with (first | (go_at_call 82; ((with_reducible refine (HIN.out a _).mono ?_)); rintro e w1 ⟨rfl, hb⟩; rw [HA.out]; have HB := Lib.hid hb; clear hb) | (go_at_call 82; ((with_reducible refine (HIN.out b _).mono ?_)); rintro e w2 ⟨rfl, hb⟩; rw [HB0.out]; have HB2 := Lib.hid (below_call HB.out HB.out.size hb); clear hb))
            go_ret2
            exact ret_pair HF.out HB2.out
        · have HF : Hid (addR a b = (a + b, 0)) := by rw [Hid, HS.out, if_pos (by simp; omega)]
          go_enter Tryd.func51, Tryd.ntmps51
          go_wp2_with (first | (go_at_call 82; ((with_reducible refine (HIN.out a _).mono ?_)); rintro e w1 ⟨rfl, hb⟩; rw [HA.out]; have HB := Lib.hid hb; clear hb) | (go_at_call 82; ((with_reducible refine (HIN.out b _).mono ?_)); rintro e w2 ⟨rfl, hb⟩; rw [HB0.out]; have HB2 := Lib.hid (below_call HB.out HB.out.size hb); clear hb))
          go_ret2
          exact ret_pair HF.out HB2.out

theorem byte1 (l : List UInt8) (u : UInt8) : (⟨#[u]⟩ : ByteArray) ++ (⟨l.toArray⟩ : ByteArray) = ⟨(u :: l).toArray⟩ := by
  ext1
  simp
theorem addr_zero' (a : Addr) : a.add 0 = a := by unfold Addr.add; simp
theorem size_mk (l : List UInt8) : (⟨l.toArray⟩ : ByteArray).size = l.length := rfl
theorem dec_bound : ∀ (k n : Nat), n < 10 ^ (k + 1) → (dec n).length ≤ k + 1
  | 0, n, h => by rw [dec, if_pos (by omega)]; simp
  | k + 1, n, h => by
    rw [dec]
    split
    · simp
    · have := dec_bound k (n / 10) (by rw [Nat.pow_succ] at h; omega)
      simp
      omega
set_option maxHeartbeats 1000000 in
set_option maxRecDepth 100000 in
theorem refPrint_nat (N : Nat) (h1 : N ≤ 9223372036854775807) (w : World) : Calls Tryd.prog 85 #[.int .i64 (N : Int)] w (Ret w (.string (printB (N : Int)))) := by
  have hmin : ((N : Int) == -9223372036854775808) = false := by first | (simp; done) | (simp; omega)
  have HP : Hid (printB (N : Int) = ⟨(dec N).toArray⟩) := by unfold Hid printB; rw [if_neg (by omega)]; rfl
  have HL := Lib.hid (dec_bound 18 N (by omega))
  go_enter Tryd.func85, Tryd.ntmps85
  go_wp2
  clear hmin
  go_loopw [0, 3] (fun n s wr => ∃ (m : Nat) (ds : List UInt8), n = .int .i64 (m : Int) ∧ s = .string ⟨ds.toArray⟩ ∧ m ≤ 9223372036854775807 ∧ Hid (dec N = dec m ++ ds) ∧ Below w.heap.size w wr) (fun n _ _ => (intOf n).toNat)
  case atStart => exact ⟨N, [], rfl, rfl, h1, by rw [Hid, List.append_nil], Below.refl _ _⟩
  case round =>
    obtain ⟨m, ds, rfl, rfl, hm, hd, hB⟩ := hrel
    have hlen : ds.length ≤ 19 := by have h := HL.out; rw [hd.out, List.length_append] at h; omega
    have hcv : ∀ W : World, (convert 95 9 (.slice (some ⟨W.heap.size, 0, none⟩) 1 1)).run Tryd.prog (W.alloc (.cells #[.int .u8 (48 + (m : Int) % 10)] 5)) = .ok (.string ⟨#[UInt8.ofNat (48 + m % 10)]⟩) (W.alloc (.cells #[.int .u8 (48 + (m : Int) % 10)] 5)) := fun W => by
      have hx : ((UInt8.ofNat (48 + m % 10)).toNat : Int) = 48 + (m : Int) % 10 := by rw [UInt8.toNat_ofNat']; omega
      refine run_convert_bytes_back _ 95 9 5 ⟨W.heap.size, 0, none⟩ 1 [UInt8.ofNat (48 + m % 10)] Tryd.underlying95 Tryd.underlying5 Tryd.underlying9 fun j hj => ?_
      have : j = 0 := by simpa using hj
      subst this
      rw [addr_zero', cell_at (heap_new W _)]
      simp only [List.getElem_cons_zero]
      rw [hx]
      rfl
    have hadd : ∀ W : World, (Op.stringOp .add ⟨#[UInt8.ofNat (48 + m % 10)]⟩ ⟨ds.toArray⟩).run Tryd.prog W = .ok (.string ⟨(UInt8.ofNat (48 + m % 10) :: ds).toArray⟩) W := fun W => by
      rw [run_string_add_sum W _ _ (by have h1 : (⟨#[UInt8.ofNat (48 + m % 10)]⟩ : ByteArray).size = 1 := rfl; have h2 : (⟨ds.toArray⟩ : ByteArray).size = ds.length := rfl; rw [h1, h2]; omega), byte1]
    have hdl := Lib.hid (dec_last m ds)
    have hds := Lib.hid (dec_step m ds)
    generalize UInt8.ofNat (48 + m % 10) = u at hcv hadd hdl hds
    by_cases hz : m < 10
    · have hF : Hid (printB (N : Int) = ⟨(u :: ds).toArray⟩) := by rw [Hid, HP.out, hd.out, hdl.out (by omega)]
      have e0 : ((m : Int) / 10 == 0) = true := by simp; omega
      go_wp2
      go_ret
      exact ret_mk (by rw [hF.out]; rfl) (hB.alloc hB.size _)
    · have hd2 : Hid (dec N = dec (m / 10) ++ (u :: ds)) := by rw [Hid, hd.out, hds.out (by omega)]
      have e0 : ((m : Int) / 10 == 0) = false := by simp; omega
      go_wp2
      go_roundw
      case rel => exact ⟨m / 10, u :: ds, by go_num, rfl, by omega, hd2, hB.alloc hB.size _⟩
      case measure => simp [intOf]; omega
end Go.Proofs.YtnhpkefjmpgneaaDoor
