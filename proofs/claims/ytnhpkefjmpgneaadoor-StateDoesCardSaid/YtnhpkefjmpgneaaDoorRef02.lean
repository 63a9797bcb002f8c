import Derived.Test.YtnhpkefjmpgneaaDoorName3
import Derived.Lib.DecodeN
import Derived.Shelf.Spec.BytesIndexFunc
import Derived.WalkSpells
import Derived.Test.YtnhpkefjmpgneaaDoorTx
import Derived.Test.YtnhpkefjmpgneaaDoorOwn
namespace Go.Proofs.YtnhpkefjmpgneaaDoor
open Go.RowKit

/-! ### the document's layer 2: tail, Step, Runes -/
def tailI (s : ByteArray) (k : Nat) : Int := if k < s.size ∧ 128 ≤ (s.get! k).toNat ∧ (s.get! k).toNat < 192 then ((s.get! k).toNat : Int) - 128 else -1
theorem get_bang (s : ByteArray) (k : Nat) (h : k < s.size) : s.get! k = s[k] := by
  simp [ByteArray.get!, ByteArray.getElem_eq_getElem_data, h]
theorem tail_any (s : ByteArray) (k : Nat) (hk : k ≤ 3) (w : World) : Calls Tryd.prog 133 #[.string s, .int .i64 k] w (Ret w (.int .i64 (tailI s k))) := by
  by_cases hlt : k < s.size
  · have hb := get_bang s k hlt
    have hx : (s[k].toNat : Int) ≤ 255 := by have := s[k].toNat_lt; omega
    have HF : Hid (tailI s k = if 128 ≤ (s[k].toNat : Int) ∧ (s[k].toNat : Int) < 192 then (s[k].toNat : Int) - 128 else -1) := by
      unfold Hid tailI
      rw [hb]
      by_cases h : 128 ≤ (s[k].toNat : Int) ∧ (s[k].toNat : Int) < 192
      · rw [if_pos h, if_pos (by omega)]
      · rw [if_neg h, if_neg (by omega)]
    clear hb
    by_cases h1 : 128 ≤ (s[k].toNat : Int) <;> by_cases h2 : (s[k].toNat : Int) < 192
    all_goals
      go_enter Tryd.func133, Tryd.ntmps133
      go_wp2
      go_ret
      exact ret_int (by rw [HF.out]; split <;> omega) (Below.refl _ _)
  · have HF : Hid (tailI s k = -1) := by unfold Hid tailI; rw [if_neg (by omega)]
    go_enter Tryd.func133, Tryd.ntmps133
    go_wp2
    go_ret
    exact ret_int HF.out.symm (Below.refl _ _)

/-- The rune of a text's first bytes, as the document reckons it. -/
def stepR (a b c d : Int) : Int × Int × Bool :=
  if a < 128 then (a, 1, true)
  else if 192 ≤ a ∧ a < 224 ∧ 0 ≤ b ∧ 128 ≤ (a - 192) * 64 + b then ((a - 192) * 64 + b, 2, true)
  else if 224 ≤ a ∧ a < 240 ∧ 0 ≤ b ∧ 0 ≤ c ∧ 2048 ≤ (a - 224) * 4096 + b * 64 + c ∧ ((a - 224) * 4096 + b * 64 + c < 55296 ∨ 57343 < (a - 224) * 4096 + b * 64 + c) then ((a - 224) * 4096 + b * 64 + c, 3, true)
  else if 240 ≤ a ∧ a < 248 ∧ 0 ≤ b ∧ 0 ≤ c ∧ 0 ≤ d ∧ 65536 ≤ (a - 240) * 262144 + b * 4096 + c * 64 + d ∧ (a - 240) * 262144 + b * 4096 + c * 64 + d ≤ 1114111 then ((a - 240) * 262144 + b * 4096 + c * 64 + d, 4, true)
  else (65533, 1, false)
def okAt (s : ByteArray) (p : Nat) : Bool := !(decide (((Utf8.decode s p).1 : Int) = 65533) && decide ((Utf8.decode s p).2 = 1))
theorem tail_range (s : ByteArray) (k : Nat) : -1 ≤ tailI s k ∧ tailI s k ≤ 63 := by
  unfold tailI
  split <;> omega
theorem tail_cases (n b k : Nat) (hb : b < 256) : ((k < n ∧ b / 64 = 2) ∧ (if k < n ∧ 128 ≤ b ∧ b < 192 then (b : Int) - 128 else -1) = ((b % 64 : Nat) : Int)) ∨ (¬ (k < n ∧ b / 64 = 2) ∧ (if k < n ∧ 128 ≤ b ∧ b < 192 then (b : Int) - 128 else -1) = -1) := by
  by_cases h : k < n ∧ 128 ≤ b ∧ b < 192
  · rw [if_pos h]
    exact .inl ⟨by omega, by omega⟩
  · rw [if_neg h]
    exact .inr ⟨by omega, rfl⟩
theorem step_core (a x y z : Nat) (P Q R : Prop) [Decidable P] [Decidable Q] [Decidable R] (b c d : Int) (hb : (P ∧ b = (x : Int)) ∨ (¬ P ∧ b = -1)) (hc : (Q ∧ c = (y : Int)) ∨ (¬ Q ∧ c = -1)) (hd : (R ∧ d = (z : Int)) ∨ (¬ R ∧ d = -1)) (hx : x < 64) (hy : y < 64) (hz : z < 64) (ha : a < 256) (r : Nat × Nat)
    (hr : r = if a < 128 then (a, 1) else if a / 32 = 6 ∧ P then (if a % 32 * 64 + x ≥ 128 then (a % 32 * 64 + x, 2) else (65533, 1))
      else if a / 16 = 14 ∧ P ∧ Q then (if a % 16 * 4096 + x * 64 + y ≥ 2048 ∧ (a % 16 * 4096 + x * 64 + y < 55296 ∨ (57344 ≤ a % 16 * 4096 + x * 64 + y ∧ a % 16 * 4096 + x * 64 + y ≤ 1114111)) then (a % 16 * 4096 + x * 64 + y, 3) else (65533, 1))
      else if a / 8 = 30 ∧ P ∧ Q ∧ R then (if a % 8 * 262144 + x * 4096 + y * 64 + z ≥ 65536 ∧ (a % 8 * 262144 + x * 4096 + y * 64 + z < 55296 ∨ (57344 ≤ a % 8 * 262144 + x * 4096 + y * 64 + z ∧ a % 8 * 262144 + x * 4096 + y * 64 + z ≤ 1114111)) then (a % 8 * 262144 + x * 4096 + y * 64 + z, 4) else (65533, 1))
      else (65533, 1)) : stepR (a : Int) b c d = ((r.1 : Int), (r.2 : Int), !(decide ((r.1 : Int) = 65533) && decide (r.2 = 1))) := by
  have none_ : r = (65533, 1) → ((65533 : Int), (1 : Int), false) = ((r.1 : Int), (r.2 : Int), !(decide ((r.1 : Int) = 65533) && decide (r.2 = 1))) := by rintro rfl; rfl
  have some_ : ∀ m k : Nat, r = (m, k) → 2 ≤ k ∨ m < 128 → ((m : Int), (k : Int), true) = ((r.1 : Int), (r.2 : Int), !(decide ((r.1 : Int) = 65533) && decide (r.2 = 1))) := by
    rintro m k rfl h
    simp
    omega
  unfold stepR
  by_cases h0 : a < 128
  · rw [if_pos (by omega)]
    rw [if_pos h0] at hr
    exact some_ a 1 hr (.inr h0)
  · rw [if_neg (by omega)]
    rw [if_neg h0] at hr
    rcases hb with ⟨p, rfl⟩ | ⟨p, rfl⟩
    · by_cases h1 : a / 32 = 6
      · rw [if_pos ⟨h1, p⟩] at hr
        by_cases h2 : a % 32 * 64 + x ≥ 128
        · rw [if_pos h2] at hr
          rw [if_pos ⟨by omega, by omega, by omega, by omega⟩, show ((a : Int) - 192) * 64 + (x : Int) = ((a % 32 * 64 + x : Nat) : Int) from by omega]
          exact some_ _ 2 hr (.inl (by omega))
        · rw [if_neg h2] at hr
          rw [if_neg (by omega), if_neg (by omega), if_neg (by omega)]
          exact none_ hr
      · rw [if_neg (fun h => h1 h.1)] at hr
        rw [if_neg (by omega)]
        rcases hc with ⟨q, rfl⟩ | ⟨q, rfl⟩
        · by_cases h2 : a / 16 = 14
          · rw [if_pos ⟨h2, p, q⟩] at hr
            by_cases h3 : a % 16 * 4096 + x * 64 + y ≥ 2048 ∧ (a % 16 * 4096 + x * 64 + y < 55296 ∨ (57344 ≤ a % 16 * 4096 + x * 64 + y ∧ a % 16 * 4096 + x * 64 + y ≤ 1114111))
            · rw [if_pos h3] at hr
              rw [if_pos ⟨by omega, by omega, by omega, by omega, by omega, by omega⟩, show ((a : Int) - 224) * 4096 + (x : Int) * 64 + (y : Int) = ((a % 16 * 4096 + x * 64 + y : Nat) : Int) from by omega]
              exact some_ _ 3 hr (.inl (by omega))
            · rw [if_neg h3] at hr
              rw [if_neg (by omega), if_neg (by omega)]
              exact none_ hr
          · rw [if_neg (fun h => h2 h.1)] at hr
            rw [if_neg (by omega)]
            rcases hd with ⟨u, rfl⟩ | ⟨u, rfl⟩
            · by_cases h3 : a / 8 = 30
              · rw [if_pos ⟨h3, p, q, u⟩] at hr
                by_cases h4 : a % 8 * 262144 + x * 4096 + y * 64 + z ≥ 65536 ∧ (a % 8 * 262144 + x * 4096 + y * 64 + z < 55296 ∨ (57344 ≤ a % 8 * 262144 + x * 4096 + y * 64 + z ∧ a % 8 * 262144 + x * 4096 + y * 64 + z ≤ 1114111))
                · rw [if_pos h4] at hr
                  rw [if_pos ⟨by omega, by omega, by omega, by omega, by omega, by omega, by omega⟩, show ((a : Int) - 240) * 262144 + (x : Int) * 4096 + (y : Int) * 64 + (z : Int) = ((a % 8 * 262144 + x * 4096 + y * 64 + z : Nat) : Int) from by omega]
                  exact some_ _ 4 hr (.inl (by omega))
                · rw [if_neg h4] at hr
                  rw [if_neg (by omega)]
                  exact none_ hr
              · rw [if_neg (fun h => h3 h.1)] at hr
                rw [if_neg (by omega)]
                exact none_ hr
            · rw [if_neg (fun h => u h.2.2.2)] at hr
              rw [if_neg (by omega)]
              exact none_ hr
        · rw [if_neg (fun h => q h.2.2), if_neg (fun h => q h.2.2.1)] at hr
          rw [if_neg (by omega), if_neg (by omega)]
          exact none_ hr
    · rw [if_neg (fun h => p h.2), if_neg (fun h => p h.2.1), if_neg (fun h => p h.2.1)] at hr
      rw [if_neg (by omega), if_neg (by omega), if_neg (by omega)]
      exact none_ hr
theorem stepR_decode (s : ByteArray) : stepR ((s.get! 0).toNat : Int) (tailI s 1) (tailI s 2) (tailI s 3) = (((Utf8.decode s 0).1 : Int), ((Utf8.decode s 0).2 : Int), okAt s 0) := by
  have ha := (s.get! 0).toNat_lt
  have hb := tail_cases s.size _ 1 (s.get! 1).toNat_lt
  have hc := tail_cases s.size _ 2 (s.get! 2).toNat_lt
  have hd := tail_cases s.size _ 3 (s.get! 3).toNat_lt
  exact step_core _ _ _ _ _ _ _ _ _ _ hb hc hd (Nat.mod_lt _ (by decide)) (Nat.mod_lt _ (by decide)) (Nat.mod_lt _ (by decide)) ha _ (by rw [Lib.decode_at]; rfl)
end Go.Proofs.YtnhpkefjmpgneaaDoor
namespace Go.Proofs.YtnhpkefjmpgneaaDoor
open Go.RowKit

/-! ### the document's Step, walked -/
/-- What Step returns. -/
def StepPost (w : World) (r : Int × Int × Bool) (e : Ending) (w' : World) : Prop := e = .returned (.tuple #[.int .i64 r.1, .int .i64 r.2.1, .bool r.2.2]) ∧ Below w.heap.size w w'
theorem step_ret {w w' : World} {r : Int × Int × Bool} {x y : Int} {z : Bool} (h : r = (x, y, z)) (hb : Below w.heap.size w w') : StepPost w r (.returned (.tuple #[.int .i64 x, .int .i64 y, .bool z])) w' := ⟨by rw [h], hb⟩
set_option maxHeartbeats 4000000 in
set_option maxRecDepth 100000 in
theorem step_walk (s : ByteArray) (h : 0 < s.size) (b c d : Int) (w : World) (b0 : -1 ≤ b) (b1 : b ≤ 63) (c0 : -1 ≤ c) (c1 : c ≤ 63) (d0 : -1 ≤ d) (d1 : d ≤ 63)
    (T1 : Hid (∀ w, Calls Tryd.prog 133 #[.string s, .int .i64 1] w (Ret w (.int .i64 b)))) (T2 : Hid (∀ w, Calls Tryd.prog 133 #[.string s, .int .i64 2] w (Ret w (.int .i64 c)))) (T3 : Hid (∀ w, Calls Tryd.prog 133 #[.string s, .int .i64 3] w (Ret w (.int .i64 d)))) :
    Calls Tryd.prog 102 #[.string s] w (StepPost w (stepR (s[0].toNat : Int) b c d)) := by
  have hx : (s[0].toNat : Int) ≤ 255 := by have := s[0].toNat_lt; omega
  have hx0 : 0 ≤ (s[0].toNat : Int) := by omega
  have hB0 := Lib.hid (Below.refl w.heap.size w)
  obtain ⟨a, ha⟩ : ∃ a : Int, (s[0].toNat : Int) = a := ⟨_, rfl⟩
  have HA := Lib.hid ha
  rw [ha] at hx hx0 ⊢
  have hidx : ∀ w, (Instr.index 9 (.string s) (.int .i64 0)).run Tryd.prog w = .ok (.int .u8 a) w := fun w => by
    rw [run_index_string w 9 s .i64 0 Tryd.underlying9, dif_pos ⟨Int.le_refl 0, by omega⟩, ← ha]
    rfl
  clear ha
  by_cases q1 : a < 128
  · have HS : Hid (stepR a b c d = (a, 1, true)) := by unfold Hid stepR; repeat (first | rw [if_pos (by omega)] | rw [if_neg (by omega)])
    go_enter Tryd.func102, Tryd.ntmps102
    go_wp2_with (first | (go_at_call 133; ((with_reducible refine (T1.out _).mono ?_)); rintro e w1 ⟨rfl, hb⟩; have HB1 := Lib.hid hb; clear hb) | (go_at_call 133; ((with_reducible refine (T2.out _).mono ?_)); rintro e w2 ⟨rfl, hb⟩; have HB2 := Lib.hid (below_call HB1.out HB1.out.size hb); clear hb) | (go_at_call 133; ((with_reducible refine (T3.out _).mono ?_)); rintro e w3 ⟨rfl, hb⟩; have HB3 := Lib.hid (below_call HB2.out HB2.out.size hb); clear hb))
    go_ret3
    exact step_ret HS.out hB0.out
  · by_cases q2 : a < 192
    · have HS : Hid (stepR a b c d = (65533, 1, false)) := by unfold Hid stepR; repeat (first | rw [if_pos (by omega)] | rw [if_neg (by omega)])
      go_enter Tryd.func102, Tryd.ntmps102
      go_wp2_with (first | (go_at_call 133; ((with_reducible refine (T1.out _).mono ?_)); rintro e w1 ⟨rfl, hb⟩; have HB1 := Lib.hid hb; clear hb) | (go_at_call 133; ((with_reducible refine (T2.out _).mono ?_)); rintro e w2 ⟨rfl, hb⟩; have HB2 := Lib.hid (below_call HB1.out HB1.out.size hb); clear hb) | (go_at_call 133; ((with_reducible refine (T3.out _).mono ?_)); rintro e w3 ⟨rfl, hb⟩; have HB3 := Lib.hid (below_call HB2.out HB2.out.size hb); clear hb))
      go_ret3
      exact step_ret HS.out HB3.out
    · by_cases q3 : a < 224
      · by_cases q4 : b < 0
        · have HS : Hid (stepR a b c d = (65533, 1, false)) := by unfold Hid stepR; repeat (first | rw [if_pos (by omega)] | rw [if_neg (by omega)])
          go_enter Tryd.func102, Tryd.ntmps102
          go_wp2_with (first | (go_at_call 133; ((with_reducible refine (T1.out _).mono ?_)); rintro e w1 ⟨rfl, hb⟩; have HB1 := Lib.hid hb; clear hb) | (go_at_call 133; ((with_reducible refine (T2.out _).mono ?_)); rintro e w2 ⟨rfl, hb⟩; have HB2 := Lib.hid (below_call HB1.out HB1.out.size hb); clear hb) | (go_at_call 133; ((with_reducible refine (T3.out _).mono ?_)); rintro e w3 ⟨rfl, hb⟩; have HB3 := Lib.hid (below_call HB2.out HB2.out.size hb); clear hb))
          go_ret3
          exact step_ret HS.out HB3.out
        · by_cases q5 : 128 ≤ (a - 192) * 64 + b
          · have HS : Hid (stepR a b c d = ((a - 192) * 64 + b, 2, true)) := by unfold Hid stepR; repeat (first | rw [if_pos (by omega)] | rw [if_neg (by omega)])
            go_enter Tryd.func102, Tryd.ntmps102
            go_wp2_with (first | (go_at_call 133; ((with_reducible refine (T1.out _).mono ?_)); rintro e w1 ⟨rfl, hb⟩; have HB1 := Lib.hid hb; clear hb) | (go_at_call 133; ((with_reducible refine (T2.out _).mono ?_)); rintro e w2 ⟨rfl, hb⟩; have HB2 := Lib.hid (below_call HB1.out HB1.out.size hb); clear hb) | (go_at_call 133; ((with_reducible refine (T3.out _).mono ?_)); rintro e w3 ⟨rfl, hb⟩; have HB3 := Lib.hid (below_call HB2.out HB2.out.size hb); clear hb))
            go_ret3
            exact step_ret HS.out HB3.out
          · have HS : Hid (stepR a b c d = (65533, 1, false)) := by unfold Hid stepR; repeat (first | rw [if_pos (by omega)] | rw [if_neg (by omega)])
            go_enter Tryd.func102, Tryd.ntmps102
            go_wp2_with (first | (go_at_call 133; ((with_reducible refine (T1.out _).mono ?_)); rintro e w1 ⟨rfl, hb⟩; have HB1 := Lib.hid hb; clear hb) | (go_at_call 133; ((with_reducible refine (T2.out _).mono ?_)); rintro e w2 ⟨rfl, hb⟩; have HB2 := Lib.hid (below_call HB1.out HB1.out.size hb); clear hb) | (go_at_call 133; ((with_reducible refine (T3.out _).mono ?_)); rintro e w3 ⟨rfl, hb⟩; have HB3 := Lib.hid (below_call HB2.out HB2.out.size hb); clear hb))
            go_ret3
            exact step_ret HS.out HB3.out
      · by_cases q6 : a < 240
        · by_cases q7 : b < 0
          · have HS : Hid (stepR a b c d = (65533, 1, false)) := by unfold Hid stepR; repeat (first | rw [if_pos (by omega)] | rw [if_neg (by omega)])
            go_enter Tryd.func102, Tryd.ntmps102
            go_wp2_with (first | (go_at_call 133; ((with_reducible refine (T1.out _).mono ?_)); rintro e w1 ⟨rfl, hb⟩; have HB1 := Lib.hid hb; clear hb) | (go_at_call 133; ((with_reducible refine (T2.out _).mono ?_)); rintro e w2 ⟨rfl, hb⟩; have HB2 := Lib.hid (below_call HB1.out HB1.out.size hb); clear hb) | (go_at_call 133; ((with_reducible refine (T3.out _).mono ?_)); rintro e w3 ⟨rfl, hb⟩; have HB3 := Lib.hid (below_call HB2.out HB2.out.size hb); clear hb))
            go_ret3
            exact step_ret HS.out HB3.out
          · by_cases q8 : c < 0
            · have HS : Hid (stepR a b c d = (65533, 1, false)) := by unfold Hid stepR; repeat (first | rw [if_pos (by omega)] | rw [if_neg (by omega)])
              go_enter Tryd.func102, Tryd.ntmps102
              go_wp2_with (first | (go_at_call 133; ((with_reducible refine (T1.out _).mono ?_)); rintro e w1 ⟨rfl, hb⟩; have HB1 := Lib.hid hb; clear hb) | (go_at_call 133; ((with_reducible refine (T2.out _).mono ?_)); rintro e w2 ⟨rfl, hb⟩; have HB2 := Lib.hid (below_call HB1.out HB1.out.size hb); clear hb) | (go_at_call 133; ((with_reducible refine (T3.out _).mono ?_)); rintro e w3 ⟨rfl, hb⟩; have HB3 := Lib.hid (below_call HB2.out HB2.out.size hb); clear hb))
              go_ret3
              exact step_ret HS.out HB3.out
            · by_cases q9 : 2048 ≤ (a - 224) * 4096 + b * 64 + c
              · by_cases q10 : (a - 224) * 4096 + b * 64 + c < 55296
                · have HS : Hid (stepR a b c d = ((a - 224) * 4096 + b * 64 + c, 3, true)) := by unfold Hid stepR; repeat (first | rw [if_pos (by omega)] | rw [if_neg (by omega)])
                  go_enter Tryd.func102, Tryd.ntmps102
                  go_wp2_with (first | (go_at_call 133; ((with_reducible refine (T1.out _).mono ?_)); rintro e w1 ⟨rfl, hb⟩; have HB1 := Lib.hid hb; clear hb) | (go_at_call 133; ((with_reducible refine (T2.out _).mono ?_)); rintro e w2 ⟨rfl, hb⟩; have HB2 := Lib.hid (below_call HB1.out HB1.out.size hb); clear hb) | (go_at_call 133; ((with_reducible refine (T3.out _).mono ?_)); rintro e w3 ⟨rfl, hb⟩; have HB3 := Lib.hid (below_call HB2.out HB2.out.size hb); clear hb))
                  go_ret3
                  exact step_ret HS.out HB3.out
                · by_cases q11 : 57343 < (a - 224) * 4096 + b * 64 + c
                  · have HS : Hid (stepR a b c d = ((a - 224) * 4096 + b * 64 + c, 3, true)) := by unfold Hid stepR; repeat (first | rw [if_pos (by omega)] | rw [if_neg (by omega)])
                    go_enter Tryd.func102, Tryd.ntmps102
                    go_wp2_with (first | (go_at_call 133; ((with_reducible refine (T1.out _).mono ?_)); rintro e w1 ⟨rfl, hb⟩; have HB1 := Lib.hid hb; clear hb) | (go_at_call 133; ((with_reducible refine (T2.out _).mono ?_)); rintro e w2 ⟨rfl, hb⟩; have HB2 := Lib.hid (below_call HB1.out HB1.out.size hb); clear hb) | (go_at_call 133; ((with_reducible refine (T3.out _).mono ?_)); rintro e w3 ⟨rfl, hb⟩; have HB3 := Lib.hid (below_call HB2.out HB2.out.size hb); clear hb))
                    go_ret3
                    exact step_ret HS.out HB3.out
                  · have HS : Hid (stepR a b c d = (65533, 1, false)) := by unfold Hid stepR; repeat (first | rw [if_pos (by omega)] | rw [if_neg (by omega)])
                    go_enter Tryd.func102, Tryd.ntmps102
                    go_wp2_with (first | (go_at_call 133; ((with_reducible refine (T1.out _).mono ?_)); rintro e w1 ⟨rfl, hb⟩; have HB1 := Lib.hid hb; clear hb) | (go_at_call 133; ((with_reducible refine (T2.out _).mono ?_)); rintro e w2 ⟨rfl, hb⟩; have HB2 := Lib.hid (below_call HB1.out HB1.out.size hb); clear hb) | (go_at_call 133; ((with_reducible refine (T3.out _).mono ?_)); rintro e w3 ⟨rfl, hb⟩; have HB3 := Lib.hid (below_call HB2.out HB2.out.size hb); clear hb))
                    go_ret3
                    exact step_ret HS.out HB3.out
              · have HS : Hid (stepR a b c d = (65533, 1, false)) := by unfold Hid stepR; repeat (first | rw [if_pos (by omega)] | rw [if_neg (by omega)])
                go_enter Tryd.func102, Tryd.ntmps102
                go_wp2_with (first | (go_at_call 133; ((with_reducible refine (T1.out _).mono ?_)); rintro e w1 ⟨rfl, hb⟩; have HB1 := Lib.hid hb; clear hb) | (go_at_call 133; ((with_reducible refine (T2.out _).mono ?_)); rintro e w2 ⟨rfl, hb⟩; have HB2 := Lib.hid (below_call HB1.out HB1.out.size hb); clear hb) | (go_at_call 133; ((with_reducible refine (T3.out _).mono ?_)); rintro e w3 ⟨rfl, hb⟩; have HB3 := Lib.hid (below_call HB2.out HB2.out.size hb); clear hb))
                go_ret3
                exact step_ret HS.out HB3.out
        · by_cases q12 : a < 248
          · by_cases q13 : b < 0
            · have HS : Hid (stepR a b c d = (65533, 1, false)) := by unfold Hid stepR; repeat (first | rw [if_pos (by omega)] | rw [if_neg (by omega)])
              go_enter Tryd.func102, Tryd.ntmps102
              go_wp2_with (first | (go_at_call 133; ((with_reducible refine (T1.out _).mono ?_)); rintro e w1 ⟨rfl, hb⟩; have HB1 := Lib.hid hb; clear hb) | (go_at_call 133; ((with_reducible refine (T2.out _).mono ?_)); rintro e w2 ⟨rfl, hb⟩; have HB2 := Lib.hid (below_call HB1.out HB1.out.size hb); clear hb) | (go_at_call 133; ((with_reducible refine (T3.out _).mono ?_)); rintro e w3 ⟨rfl, hb⟩; have HB3 := Lib.hid (below_call HB2.out HB2.out.size hb); clear hb))
              go_ret3
              exact step_ret HS.out HB3.out
            · by_cases q14 : c < 0
              · have HS : Hid (stepR a b c d = (65533, 1, false)) := by unfold Hid stepR; repeat (first | rw [if_pos (by omega)] | rw [if_neg (by omega)])
                go_enter Tryd.func102, Tryd.ntmps102
                go_wp2_with (first | (go_at_call 133; ((with_reducible refine (T1.out _).mono ?_)); rintro e w1 ⟨rfl, hb⟩; have HB1 := Lib.hid hb; clear hb) | (go_at_call 133; ((with_reducible refine (T2.out _).mono ?_)); rintro e w2 ⟨rfl, hb⟩; have HB2 := Lib.hid (below_call HB1.out HB1.out.size hb); clear hb) | (go_at_call 133; ((with_reducible refine (T3.out _).mono ?_)); rintro e w3 ⟨rfl, hb⟩; have HB3 := Lib.hid (below_call HB2.out HB2.out.size hb); clear hb))
                go_ret3
                exact step_ret HS.out HB3.out
              · by_cases q15 : d < 0
                · have HS : Hid (stepR a b c d = (65533, 1, false)) := by unfold Hid stepR; repeat (first | rw [if_pos (by omega)] | rw [if_neg (by omega)])
                  go_enter Tryd.func102, Tryd.ntmps102
                  go_wp2_with (first | (go_at_call 133; ((with_reducible refine (T1.out _).mono ?_)); rintro e w1 ⟨rfl, hb⟩; have HB1 := Lib.hid hb; clear hb) | (go_at_call 133; ((with_reducible refine (T2.out _).mono ?_)); rintro e w2 ⟨rfl, hb⟩; have HB2 := Lib.hid (below_call HB1.out HB1.out.size hb); clear hb) | (go_at_call 133; ((with_reducible refine (T3.out _).mono ?_)); rintro e w3 ⟨rfl, hb⟩; have HB3 := Lib.hid (below_call HB2.out HB2.out.size hb); clear hb))
                  go_ret3
                  exact step_ret HS.out HB3.out
                · by_cases q16 : 65536 ≤ (a - 240) * 262144 + b * 4096 + c * 64 + d
                  · by_cases q17 : (a - 240) * 262144 + b * 4096 + c * 64 + d ≤ 1114111
                    · have HS : Hid (stepR a b c d = ((a - 240) * 262144 + b * 4096 + c * 64 + d, 4, true)) := by unfold Hid stepR; repeat (first | rw [if_pos (by omega)] | rw [if_neg (by omega)])
                      go_enter Tryd.func102, Tryd.ntmps102
                      go_wp2_with (first | (go_at_call 133; ((with_reducible refine (T1.out _).mono ?_)); rintro e w1 ⟨rfl, hb⟩; have HB1 := Lib.hid hb; clear hb) | (go_at_call 133; ((with_reducible refine (T2.out _).mono ?_)); rintro e w2 ⟨rfl, hb⟩; have HB2 := Lib.hid (below_call HB1.out HB1.out.size hb); clear hb) | (go_at_call 133; ((with_reducible refine (T3.out _).mono ?_)); rintro e w3 ⟨rfl, hb⟩; have HB3 := Lib.hid (below_call HB2.out HB2.out.size hb); clear hb))
                      go_ret3
                      exact step_ret HS.out HB3.out
                    · have HS : Hid (stepR a b c d = (65533, 1, false)) := by unfold Hid stepR; repeat (first | rw [if_pos (by omega)] | rw [if_neg (by omega)])
                      go_enter Tryd.func102, Tryd.ntmps102
                      go_wp2_with (first | (go_at_call 133; ((with_reducible refine (T1.out _).mono ?_)); rintro e w1 ⟨rfl, hb⟩; have HB1 := Lib.hid hb; clear hb) | (go_at_call 133; ((with_reducible refine (T2.out _).mono ?_)); rintro e w2 ⟨rfl, hb⟩; have HB2 := Lib.hid (below_call HB1.out HB1.out.size hb); clear hb) | (go_at_call 133; ((with_reducible refine (T3.out _).mono ?_)); rintro e w3 ⟨rfl, hb⟩; have HB3 := Lib.hid (below_call HB2.out HB2.out.size hb); clear hb))
                      go_ret3
                      exact step_ret HS.out HB3.out
                  · have HS : Hid (stepR a b c d = (65533, 1, false)) := by unfold Hid stepR; repeat (first | rw [if_pos (by omega)] | rw [if_neg (by omega)])
                    go_enter Tryd.func102, Tryd.ntmps102
                    go_wp2_with (first | (go_at_call 133; ((with_reducible refine (T1.out _).mono ?_)); rintro e w1 ⟨rfl, hb⟩; have HB1 := Lib.hid hb; clear hb) | (go_at_call 133; ((with_reducible refine (T2.out _).mono ?_)); rintro e w2 ⟨rfl, hb⟩; have HB2 := Lib.hid (below_call HB1.out HB1.out.size hb); clear hb) | (go_at_call 133; ((with_reducible refine (T3.out _).mono ?_)); rintro e w3 ⟨rfl, hb⟩; have HB3 := Lib.hid (below_call HB2.out HB2.out.size hb); clear hb))
                    go_ret3
                    exact step_ret HS.out HB3.out
          · have HS : Hid (stepR a b c d = (65533, 1, false)) := by unfold Hid stepR; repeat (first | rw [if_pos (by omega)] | rw [if_neg (by omega)])
            go_enter Tryd.func102, Tryd.ntmps102
            go_wp2_with (first | (go_at_call 133; ((with_reducible refine (T1.out _).mono ?_)); rintro e w1 ⟨rfl, hb⟩; have HB1 := Lib.hid hb; clear hb) | (go_at_call 133; ((with_reducible refine (T2.out _).mono ?_)); rintro e w2 ⟨rfl, hb⟩; have HB2 := Lib.hid (below_call HB1.out HB1.out.size hb); clear hb) | (go_at_call 133; ((with_reducible refine (T3.out _).mono ?_)); rintro e w3 ⟨rfl, hb⟩; have HB3 := Lib.hid (below_call HB2.out HB2.out.size hb); clear hb))
            go_ret3
            exact step_ret HS.out HB3.out
end Go.Proofs.YtnhpkefjmpgneaaDoor
namespace Go.Proofs.YtnhpkefjmpgneaaDoor
open Go.RowKit

/-! ### the document's Runes -/
theorem step_any (s : ByteArray) (h : 0 < s.size) (w : World) : Calls Tryd.prog 102 #[.string s] w (StepPost w (((Utf8.decode s 0).1 : Int), ((Utf8.decode s 0).2 : Int), okAt s 0)) := by
  obtain ⟨b0, b1⟩ := tail_range s 1
  obtain ⟨c0, c1⟩ := tail_range s 2
  obtain ⟨d0, d1⟩ := tail_range s 3
  have := step_walk s h (tailI s 1) (tailI s 2) (tailI s 3) w b0 b1 c0 c1 d0 d1 (fun w => tail_any s 1 (by omega) w) (fun w => tail_any s 2 (by omega) w) (fun w => tail_any s 3 (by omega) w)
  rw [← get_bang s 0 h, stepR_decode] at this
  exact this
theorem decode_suffix (s : ByteArray) (p : Nat) (h : p < s.size) : Utf8.decode (s.extract p s.size) 0 = Utf8.decode s p := by
  have h1 := decodeGo_tail s p h
  unfold Lib.decodeGo at h1
  have hz : (s.extract p s.size).size = s.size - p := by simp
  rw [if_neg (by rw [hz]; omega)] at h1
  exact h1
theorem decode_fits (s : ByteArray) (p : Nat) (h : p < s.size) : (Utf8.decode s p).2 ≤ s.size - p := by
  have h1 := Lib.decodeGo_le_size (s.extract p s.size)
  rw [decodeGo_tail s p h] at h1
  simpa using h1
theorem okAt_suffix (s : ByteArray) (p : Nat) (h : p < s.size) : okAt (s.extract p s.size) 0 = okAt s p := by unfold okAt; rw [decode_suffix s p h]
theorem suffix_suffix (s : ByteArray) (p n : Nat) (h : p ≤ s.size) : (s.extract p s.size).extract n (s.extract p s.size).size = s.extract (p + n) s.size := by
  have h1 : (s.extract p s.size).size = s.size - p := by simp
  rw [h1, ByteArray.extract_extract]
  congr 1
  omega
/-- A text's runes as ints. -/
def rints (l : List (Nat × Int)) : List Value := l.map fun x => .int .i64 x.2
theorem rints_snoc (l : List (Nat × Int)) (x : Nat × Int) : rints (l ++ [x]) = rints l ++ [.int .i64 x.2] := by simp [rints]
def allOk (s : ByteArray) (l : List (Nat × Int)) : Bool := l.all fun x => okAt s x.1
theorem allOk_snoc (s : ByteArray) (l : List (Nat × Int)) (x : Nat × Int) : allOk s (l ++ [x]) = (allOk s l && okAt s x.1) := by simp [allOk]
def RunesPost (s : ByteArray) (w : World) (e : Ending) (w' : World) : Prop := ∃ A c, e = .returned (.tuple #[.slice A (runes s).length c, .bool (allOk s (runes s))]) ∧ Reads w' A (rints (runes s)) ∧ Below w.heap.size w w'
theorem info_int : (Tryd.prog.info? 3).map (fun i => (i.zero, i.size, i.bytes)) = some (some (.int .i64 0), 1, 8) := by kernel_rfl
theorem runes_ret {s : ByteArray} {w w' : World} {v : Value} {pre : List (Nat × Int)} {b : Bool} (h : runes s = pre) (hb : allOk s pre = b) (ho : w'.ownsRow w.heap.size 3 1 v pre.length (rints pre)) (hB : Below w.heap.size w w') : RunesPost s w (.returned (.tuple #[v, .bool b])) w' := by
  obtain ⟨A, c, rfl, hR, hl⟩ := reads_of_own ho
  subst h
  subst hb
  exact ⟨A, c, rfl, hR, hB⟩
set_option maxHeartbeats 1000000 in
set_option maxRecDepth 100000 in
theorem refRunes_any (s : ByteArray) (hs : s.size ≤ 4398046511104) (w : World) : Calls Tryd.prog 80 #[.string s] w (RunesPost s w) := by
  obtain ⟨i0, hi, hz0, hz1, hz2⟩ := info_parts info_int
  have hfull : s.extract 0 s.size = s := by ext1; simp
  go_enter Tryd.func80, Tryd.ntmps80
  go_wp2
  go_loopw [0, 4, 5] (fun t v b wr => ∃ (p : Nat) (pre : List (Nat × Int)) (x : ByteArray), t = .string x ∧ b = .bool (allOk s pre) ∧ p ≤ s.size ∧ Hid (x.size = s.size - p) ∧ wr.ownsRow w.heap.size 3 1 v pre.length (rints pre) ∧ Hid (runes s = pre ++ runesAt s p) ∧ Hid (x = s.extract p s.size) ∧ Below w.heap.size w wr) (fun t _ _ _ => (match t with | .string x => x.size | _ => 0))
  case atStart => exact ⟨0, [], s, rfl, rfl, by omega, rfl, World.ownsRow_nil _ _ _ _, rfl, hfull.symm, Below.refl _ _⟩
  case round =>
    obtain ⟨p, pre, x, rfl, rfl, hp, hxs, hown, hr, hx, hB⟩ := hrel
    by_cases hlt : p < s.size
    · have hpos : 0 < x.size := by have := hxs.out; omega
      have hle2 : x.size ≤ s.size := by have := hxs.out; omega
      have hr2 := Lib.hid (runesAt_lt s p hlt)
      have hd := decode_pos s p
      have hf := decode_fits s p hlt
      have hST := Lib.hid (step_any x hpos)
      have hE : Hid (Utf8.decode x 0 = Utf8.decode s p ∧ okAt x 0 = okAt s p) := by rw [Hid, hx.out]; exact ⟨decode_suffix s p hlt, okAt_suffix s p hlt⟩
      have hrl := runes_length s
      have hrl2 := congrArg List.length hr.out
      rw [hr2.out, List.length_append, List.length_cons] at hrl2
      have hpre : pre.length < 4398046511104 := by omega
      have hle := decode_le s p
      have hsz : ∀ n, n ≤ x.size → (x.extract n x.size).size = x.size - n := fun n _ => by simp
      have HSZ := Lib.hid hsz
      have hsuf := fun n => suffix_suffix s p n hp
      have HSUF : Hid (∀ n, x.extract n x.size = s.extract (p + n) s.size) := by rw [Hid, hx.out]; exact hsuf
      rw [hE.out.1, hE.out.2] at hST
      obtain ⟨⟨c, n⟩, hcn⟩ : ∃ y, Utf8.decode s p = y := ⟨_, rfl⟩
      rw [hcn] at hr2 hd hf hST hle
      dsimp only at hr2 hd hf hST hle
      clear hrl hrl2 hsuf hsz hE hx
      have HOK := Lib.hid (allOk_snoc s pre (p, (c : Int)))
      generalize okAt s p = ok at hST HOK
      clear hcn
      have hfx : n ≤ x.size := by have := hxs.out; omega
      generalize allOk s pre = al at HOK ⊢
      cases al <;> cases ok
      all_goals
        go_wp2_with (first | (go_at_call 102; ((with_reducible refine (hST.out _).mono ?_)); rintro e w1 ⟨rfl, hb⟩; have hB1 := Lib.hid (below_call hB hB.size hb); have hown1 := own_below hown hb; clear hb) | (at_builtin; refine wpList_append_d rfl _ _ 115 rfl w.heap.size 3 i0 (.int .i64 0) 1 8 Tryd.underlying115 hi hz0 hz1 hz2 rfl (by decide) _ _ _ rfl (hown1.alloc _) ⟨w1.heap.size, 0, none⟩ 1 1 [.int .i64 c] rfl rfl ?c1 ?c2 ?c3 ?c4 ?c5 ?_))
        case c1 => exact cell_one_new _ _ _
        case c2 => intro u hu; simp at hu; subst hu; rfl
        case c3 => unfold maxLen; omega
        case c4 => omega
        case c5 => have := hB1.out.size; simp; omega
        intro v' w2 hown' hgrow hdr
        have hB2 := Lib.hid (below_grown (hB1.out.alloc hB1.out.size (.cells #[.int .i64 c] 3)) (by have := hB1.out.size; simp; omega) (hown1.alloc _) (Nat.le_refl _) hgrow)
        clear hdr hgrow
        go_wp2
        go_roundw
        case rel => exact ⟨p + n, pre ++ [(p, (c : Int))], x.extract n x.size, rfl, by rw [HOK.out]; rfl, by omega, by rw [Hid, HSZ.out n hfx, hxs.out]; omega, by rw [rints_snoc, List.length_append]; exact hown', by rw [Hid, hr.out, hr2.out]; simp, HSUF.out n, hB2.out⟩
        case measure => simp only []; rw [HSZ.out n hfx]; omega
    · have hx0 : x.size ≤ 0 := by have := hxs.out; omega
      have HR : Hid (runes s = pre) := by have := hr.out; rw [runesAt_ge s p hlt, List.append_nil] at this; exact this
      go_wp2
      go_ret2
      exact runes_ret HR.out rfl hown hB
end Go.Proofs.YtnhpkefjmpgneaaDoor
namespace Go.Proofs.YtnhpkefjmpgneaaDoor
open Go.RowKit

/-! ### the document's Letter, Check -/
set_option maxHeartbeats 2000000 in
set_option maxRecDepth 100000 in
theorem refLetter_any (c : Int) (w : World) : Calls Tryd.prog 81 #[.int .i64 c] w (Ret w (.bool (letterB c))) := by
  by_cases q0 : c < 45
  · have HL : Hid (letterB c = false) := by unfold Hid letterB; simp [spans, hasB]; omega
    have e95 : (c == 95) = false := by simp; omega
    have e45 : (c == 45) = false := by simp; omega
    have e247 : (c == 247) = false := by simp; omega
    have n247 : (c != 247) = true := by simp; omega
    go_enter Tryd.func81, Tryd.ntmps81
    go_wp2
    go_ret
    exact ret_bool (by first | (rw [HL.out]; done) | (rw [HL.out]; simp; done) | (rw [HL.out]; simp; omega)) (Below.refl _ _)
  · skip
    by_cases q1 : c < 46
    · obtain rfl : c = 45 := by omega
      have HL : Hid (letterB 45 = true) := by unfold Hid letterB; simp [spans, hasB]
      go_enter Tryd.func81, Tryd.ntmps81
      go_wp2
      go_ret
      exact ret_bool (by first | (rw [HL.out]; done) | (rw [HL.out]; simp; done) | (rw [HL.out]; simp; omega)) (Below.refl _ _)
    · skip
      by_cases q2 : c < 48
      · have HL : Hid (letterB c = false) := by unfold Hid letterB; simp [spans, hasB]; omega
        have e95 : (c == 95) = false := by simp; omega
        have e45 : (c == 45) = false := by simp; omega
        have e247 : (c == 247) = false := by simp; omega
        have n247 : (c != 247) = true := by simp; omega
        go_enter Tryd.func81, Tryd.ntmps81
        go_wp2
        go_ret
        exact ret_bool (by first | (rw [HL.out]; done) | (rw [HL.out]; simp; done) | (rw [HL.out]; simp; omega)) (Below.refl _ _)
      · skip
        by_cases q3 : c < 58
        · have HL : Hid (letterB c = true) := by unfold Hid letterB; simp [spans, hasB]; omega
          have e95 : (c == 95) = false := by simp; omega
          have e45 : (c == 45) = false := by simp; omega
          have e247 : (c == 247) = false := by simp; omega
          have n247 : (c != 247) = true := by simp; omega
          go_enter Tryd.func81, Tryd.ntmps81
          go_wp2
          go_ret
          exact ret_bool (by first | (rw [HL.out]; done) | (rw [HL.out]; simp; done) | (rw [HL.out]; simp; omega)) (Below.refl _ _)
        · skip
          by_cases q4 : c < 95
          · have HL : Hid (letterB c = false) := by unfold Hid letterB; simp [spans, hasB]; omega
            have e95 : (c == 95) = false := by simp; omega
            have e45 : (c == 45) = false := by simp; omega
            have e247 : (c == 247) = false := by simp; omega
            have n247 : (c != 247) = true := by simp; omega
            go_enter Tryd.func81, Tryd.ntmps81
            go_wp2
            go_ret
            exact ret_bool (by first | (rw [HL.out]; done) | (rw [HL.out]; simp; done) | (rw [HL.out]; simp; omega)) (Below.refl _ _)
          · skip
            by_cases q5 : c < 96
            · obtain rfl : c = 95 := by omega
              have HL : Hid (letterB 95 = true) := by unfold Hid letterB; simp [spans, hasB]
              go_enter Tryd.func81, Tryd.ntmps81
              go_wp2
              go_ret
              exact ret_bool (by first | (rw [HL.out]; done) | (rw [HL.out]; simp; done) | (rw [HL.out]; simp; omega)) (Below.refl _ _)
            · skip
              by_cases q6 : c < 97
              · have HL : Hid (letterB c = false) := by unfold Hid letterB; simp [spans, hasB]; omega
                have e95 : (c == 95) = false := by simp; omega
                have e45 : (c == 45) = false := by simp; omega
                have e247 : (c == 247) = false := by simp; omega
                have n247 : (c != 247) = true := by simp; omega
                go_enter Tryd.func81, Tryd.ntmps81
                go_wp2
                go_ret
                exact ret_bool (by first | (rw [HL.out]; done) | (rw [HL.out]; simp; done) | (rw [HL.out]; simp; omega)) (Below.refl _ _)
              · skip
                by_cases q7 : c < 123
                · have HL : Hid (letterB c = true) := by unfold Hid letterB; simp [spans, hasB]; omega
                  have e95 : (c == 95) = false := by simp; omega
                  have e45 : (c == 45) = false := by simp; omega
                  have e247 : (c == 247) = false := by simp; omega
                  have n247 : (c != 247) = true := by simp; omega
                  go_enter Tryd.func81, Tryd.ntmps81
                  go_wp2
                  go_ret
                  exact ret_bool (by first | (rw [HL.out]; done) | (rw [HL.out]; simp; done) | (rw [HL.out]; simp; omega)) (Below.refl _ _)
                · skip
                  by_cases q8 : c < 223
                  · have HL : Hid (letterB c = false) := by unfold Hid letterB; simp [spans, hasB]; omega
                    have e95 : (c == 95) = false := by simp; omega
                    have e45 : (c == 45) = false := by simp; omega
                    have e247 : (c == 247) = false := by simp; omega
                    have n247 : (c != 247) = true := by simp; omega
                    go_enter Tryd.func81, Tryd.ntmps81
                    go_wp2
                    go_ret
                    exact ret_bool (by first | (rw [HL.out]; done) | (rw [HL.out]; simp; done) | (rw [HL.out]; simp; omega)) (Below.refl _ _)
                  · skip
                    by_cases q9 : c < 247
                    · have HL : Hid (letterB c = true) := by unfold Hid letterB; simp [spans, hasB]; omega
                      have e95 : (c == 95) = false := by simp; omega
                      have e45 : (c == 45) = false := by simp; omega
                      have e247 : (c == 247) = false := by simp; omega
                      have n247 : (c != 247) = true := by simp; omega
                      go_enter Tryd.func81, Tryd.ntmps81
                      go_wp2
                      go_ret
                      exact ret_bool (by first | (rw [HL.out]; done) | (rw [HL.out]; simp; done) | (rw [HL.out]; simp; omega)) (Below.refl _ _)
                    · skip
                      by_cases q10 : c < 248
                      · obtain rfl : c = 247 := by omega
                        have HL : Hid (letterB 247 = false) := by unfold Hid letterB; simp [spans, hasB]
                        go_enter Tryd.func81, Tryd.ntmps81
                        go_wp2
                        go_ret
                        exact ret_bool (by first | (rw [HL.out]; done) | (rw [HL.out]; simp; done) | (rw [HL.out]; simp; omega)) (Below.refl _ _)
                      · skip
                        by_cases q11 : c < 256
                        · have HL : Hid (letterB c = true) := by unfold Hid letterB; simp [spans, hasB]; omega
                          have e95 : (c == 95) = false := by simp; omega
                          have e45 : (c == 45) = false := by simp; omega
                          have e247 : (c == 247) = false := by simp; omega
                          have n247 : (c != 247) = true := by simp; omega
                          go_enter Tryd.func81, Tryd.ntmps81
                          go_wp2
                          go_ret
                          exact ret_bool (by first | (rw [HL.out]; done) | (rw [HL.out]; simp; done) | (rw [HL.out]; simp; omega)) (Below.refl _ _)
                        · skip
                          by_cases q12 : c < 945
                          · have HL : Hid (letterB c = false) := by unfold Hid letterB; simp [spans, hasB]; omega
                            have e95 : (c == 95) = false := by simp; omega
                            have e45 : (c == 45) = false := by simp; omega
                            have e247 : (c == 247) = false := by simp; omega
                            have n247 : (c != 247) = true := by simp; omega
                            go_enter Tryd.func81, Tryd.ntmps81
                            go_wp2
                            go_ret
                            exact ret_bool (by first | (rw [HL.out]; done) | (rw [HL.out]; simp; done) | (rw [HL.out]; simp; omega)) (Below.refl _ _)
                          · skip
                            by_cases q13 : c < 970
                            · have HL : Hid (letterB c = true) := by unfold Hid letterB; simp [spans, hasB]; omega
                              have e95 : (c == 95) = false := by simp; omega
                              have e45 : (c == 45) = false := by simp; omega
                              have e247 : (c == 247) = false := by simp; omega
                              have n247 : (c != 247) = true := by simp; omega
                              go_enter Tryd.func81, Tryd.ntmps81
                              go_wp2
                              go_ret
                              exact ret_bool (by first | (rw [HL.out]; done) | (rw [HL.out]; simp; done) | (rw [HL.out]; simp; omega)) (Below.refl _ _)
                            · skip
                              have HL : Hid (letterB c = false) := by unfold Hid letterB; simp [spans, hasB]; omega
                              have e95 : (c == 95) = false := by simp; omega
                              have e45 : (c == 45) = false := by simp; omega
                              have e247 : (c == 247) = false := by simp; omega
                              have n247 : (c != 247) = true := by simp; omega
                              go_enter Tryd.func81, Tryd.ntmps81
                              go_wp2
                              go_ret
                              exact ret_bool (by first | (rw [HL.out]; done) | (rw [HL.out]; simp; done) | (rw [HL.out]; simp; omega)) (Below.refl _ _)

theorem runesAt_mem (s : ByteArray) : ∀ (d p : Nat), s.size - p ≤ d → ∀ x ∈ runesAt s p, p ≤ x.1 ∧ x.1 < s.size ∧ x.2 = ((Utf8.decode s x.1).1 : Int)
  | 0, p, h => by rw [runesAt_ge s p (by omega)]; intro x hx; cases hx
  | d + 1, p, h => by
    by_cases hp : p < s.size
    · have hd := decode_pos s p
      rw [runesAt_lt s p hp]
      intro x hx
      rcases List.mem_cons.1 hx with rfl | hx
      · exact ⟨Nat.le_refl _, hp, rfl⟩
      · have := runesAt_mem s d (p + (Utf8.decode s p).2) (by omega) x hx
        exact ⟨by omega, this.2⟩
    · rw [runesAt_ge s p hp]; intro x hx; cases hx
theorem runes_mem {s : ByteArray} {x : Nat × Int} (h : x ∈ runes s) : x.1 < s.size ∧ x.2 = ((Utf8.decode s x.1).1 : Int) := (runesAt_mem s s.size 0 (by omega) x h).2
theorem letter_broken : letterB 65533 = false := by unfold letterB; simp [spans, hasB]
theorem okAt_false {s : ByteArray} {p : Nat} (h : okAt s p = false) : ((Utf8.decode s p).1 : Int) = 65533 ∧ (Utf8.decode s p).2 = 1 := by
  unfold okAt at h
  simpa using h
theorem nameOk_unletter {s : ByteArray} {x : Nat × Int} (h : x ∈ runes s) (hl : letterB x.2 = false) : nameOk s = false := by
  unfold nameOk
  have : (runes s).all runeOk = false := by
    rw [List.all_eq_false]
    exact ⟨x, h, by unfold runeOk; rw [hl]; simp⟩
  rw [this]; rfl
theorem nameOk_broken {s : ByteArray} (h : allOk s (runes s) = false) : nameOk s = false := by
  unfold allOk at h
  rw [List.all_eq_false] at h
  obtain ⟨x, hx, hk⟩ := h
  have h1 := runes_mem hx
  refine nameOk_unletter hx ?_
  rw [h1.2, (okAt_false (by simpa using hk)).1]
  exact letter_broken
theorem nameOk_first {s : ByteArray} (h : firstBad 0 ((Utf8.decode s 0).1 : Int) = true) (hl : 0 < (runes s).length) : nameOk s = false := by
  unfold nameOk
  have : (runes s).all runeOk = false := by
    rw [List.all_eq_false]
    have hz : 0 < s.size := by
      rcases Nat.eq_zero_or_pos s.size with hz | hz
      · have := runes_length s; omega
      · exact hz
    have hr := runesAt_lt s 0 hz
    refine ⟨(0, ((Utf8.decode s 0).1 : Int)), by unfold runes; rw [hr]; exact List.mem_cons_self .., ?_⟩
    unfold runeOk
    rw [h]; simp
  rw [this]; rfl
theorem nameOk_good {s : ByteArray} (h0 : firstBad 0 ((Utf8.decode s 0).1 : Int) = false) (h1 : 1 ≤ (runes s).length) (h2 : (runes s).length ≤ 32) (hl : ∀ x ∈ runes s, letterB x.2 = true) : nameOk s = true := by
  unfold nameOk
  have hz : 0 < s.size := by
    rcases Nat.eq_zero_or_pos s.size with hz | hz
    · have := runes_length s; omega
    · exact hz
  have hr := runesAt_lt s 0 hz
  have : (runes s).all runeOk = true := by
    rw [List.all_eq_true]
    intro x hx
    unfold runeOk
    rw [hl x hx]
    have hm := runes_mem hx
    by_cases e : x.1 = 0
    · rw [hm.2, e, h0]; rfl
    · unfold firstBad
      simp [e]
  rw [this]
  simp [h1, h2]
end Go.Proofs.YtnhpkefjmpgneaaDoor
namespace Go.Proofs.YtnhpkefjmpgneaaDoor
open Go.RowKit

/-! ### the document's Check, Value -/
theorem addr_zero (a : Addr) : a.add 0 = a := by unfold Addr.add; simp
theorem rints_at (l : List (Nat × Int)) (k : Nat) (h : k < l.length) : (rints l)[k]? = some (.int .i64 l[k].2) := by simp [rints, h]
theorem first_of {s : ByteArray} (h : 0 < (runes s).length) : (runes s)[0].2 = ((Utf8.decode s 0).1 : Int) := by
  have hz : 0 < s.size := by
    rcases Nat.eq_zero_or_pos s.size with hz | hz
    · have := runes_length s; omega
    · exact hz
  have hr := runesAt_lt s 0 hz
  have : runes s = runesAt s 0 := rfl
  simp only [this, hr, List.getElem_cons_zero]
set_option maxHeartbeats 2000000 in
set_option maxRecDepth 100000 in
theorem refCheck_any (s : ByteArray) (hs : s.size ≤ 4398046511104) (w : World) : Calls Tryd.prog 50 #[.string s] w (Ret w (.bool (nameOk s))) := by
  have HRU := Lib.hid (fun w => refRunes_any s hs w)
  obtain ⟨ok, hok⟩ : ∃ b, allOk s (runes s) = b := ⟨_, rfl⟩
  have HOK := Lib.hid hok
  have hrl : (runes s).length ≤ 4398046511104 := by have := runes_length s; omega
  clear hok
  cases ok
  · have HF := Lib.hid (nameOk_broken HOK.out)
    go_enter Tryd.func50, Tryd.ntmps50
    go_wp2_with (go_at_call 80; ((with_reducible refine (HRU.out _).mono ?_)); rintro e w1 ⟨A, c, rfl, hR, hb⟩; rw [HOK.out])
    go_ret
    exact ret_bool HF.out.symm hb
  · by_cases h1 : (runes s).length < 1
    · have HF : Hid (nameOk s = false) := by unfold Hid nameOk; simp; omega
      go_enter Tryd.func50, Tryd.ntmps50
      go_wp2_with (go_at_call 80; ((with_reducible refine (HRU.out _).mono ?_)); rintro e w1 ⟨A, c, rfl, hR, hb⟩; rw [HOK.out])
      go_ret
      exact ret_bool HF.out.symm hb
    · by_cases h2 : 32 < (runes s).length
      · have HF : Hid (nameOk s = false) := by unfold Hid nameOk; simp; omega
        go_enter Tryd.func50, Tryd.ntmps50
        go_wp2_with (go_at_call 80; ((with_reducible refine (HRU.out _).mono ?_)); rintro e w1 ⟨A, c, rfl, hR, hb⟩; rw [HOK.out])
        go_ret
        exact ret_bool HF.out.symm hb
      · have hpos : 0 < (runes s).length := by omega
        have hf := first_of hpos
        have HB := Lib.hid (fun h => nameOk_first (s := s) h hpos)
        have HG := Lib.hid (fun h => nameOk_good (s := s) h (by omega) (by omega))
        have HUL := Lib.hid (fun x hx hl => nameOk_unletter (s := s) (x := x) hx hl)
        have hx0 := rints_at (runes s) 0 hpos
        rw [hf] at hx0
        obtain ⟨c0, hc0⟩ : ∃ c : Int, ((Utf8.decode s 0).1 : Int) = c := ⟨_, rfl⟩
        rw [hc0] at hx0 HB HG
        have HX0 := Lib.hid hx0
        clear hf hx0 hc0
        by_cases h3 : c0 = 45
        · subst h3
          have HF := Lib.hid (HB.out (by decide))
          go_enter Tryd.func50, Tryd.ntmps50
          go_wp2_with (go_at_call 80; ((with_reducible refine (HRU.out _).mono ?_)); rintro e w1 ⟨A, c, rfl, hR, hb⟩; rw [HOK.out]; obtain ⟨ad, rfl, hc0⟩ := reads_at hR HX0.out; rw [addr_zero] at hc0)
          go_ret
          exact ret_bool HF.out.symm hb
        · have e45 : (c0 == 45) = false := by simp [h3]
          by_cases h4 : 48 ≤ c0
          · by_cases h5 : c0 ≤ 57
            · have HF := Lib.hid (HB.out (by simp [firstBad]; omega))
              clear h3
              go_enter Tryd.func50, Tryd.ntmps50
              go_wp2_with (go_at_call 80; ((with_reducible refine (HRU.out _).mono ?_)); rintro e w1 ⟨A, c, rfl, hR, hb⟩; rw [HOK.out]; obtain ⟨ad, rfl, hc0⟩ := reads_at hR HX0.out; rw [addr_zero] at hc0)
              go_ret
              exact ret_bool HF.out.symm hb
            · have HG2 := Lib.hid (HG.out (by simp [firstBad]; omega))
              clear h3
              go_enter Tryd.func50, Tryd.ntmps50
              go_wp2_with (go_at_call 80; ((with_reducible refine (HRU.out _).mono ?_)); rintro e w1 ⟨A, c, rfl, hR, hb⟩; rw [HOK.out]; obtain ⟨ad, rfl, hc0⟩ := reads_at hR HX0.out; rw [addr_zero] at hc0)
              have HR := Lib.hid hR
              have HUL2 := Lib.hid HUL.out
              clear hc0 hR HX0
              go_loopw [5] (fun i wr => ∃ k : Nat, i = .int .i64 k ∧ k ≤ (runes s).length ∧ Hid (∀ j, (h : j < (runes s).length) → j < k → letterB (runes s)[j].2 = true) ∧ Below w1.heap.size w1 wr) (fun i _ => (runes s).length - (intOf i).toNat)
              case atStart => exact ⟨0, rfl, by omega, fun j hj h => by omega, Below.refl _ _⟩
              case round =>
                obtain ⟨k, rfl, hk, hn, hB⟩ := hrel
                by_cases hlt : k < (runes s).length
                · obtain ⟨ad, hA, hx⟩ := reads_at (reads_below HR.out hB) (rints_at (runes s) k hlt)
                  cases hA
                  have hm := List.getElem_mem hlt
                  have HN := Lib.hid (fun (h : letterB (runes s)[k].2 = true) => (show ∀ j, (hj : j < (runes s).length) → j < k + 1 → letterB (runes s)[j].2 = true from fun j hj hjk => by
                    rcases Nat.lt_or_ge j k with h' | h'
                    · exact hn.out j hj h'
                    · obtain rfl : j = k := by omega
                      exact h))
                  have HU := Lib.hid (HUL2.out _ hm)
                  generalize (runes s)[k].2 = x at hx HN HU
                  cases hl : letterB x
                  · have HL := Lib.hid hl
                    have HF := Lib.hid (HU.out hl)
                    clear hl hm
                    go_wp2_with (go_at_call 81; ((with_reducible refine (refLetter_any _ _).mono ?_)); rintro e w2 ⟨rfl, hb2⟩; rw [HL.out])
                    go_ret
                    exact ret_bool HF.out.symm (below_call (below_call hb hb.size hB) (by have := hb.size; have := hB.size; omega) hb2)
                  · have HL := Lib.hid hl
                    have HN2 := Lib.hid (HN.out hl)
                    clear hl hm
                    go_wp2_with (go_at_call 81; ((with_reducible refine (refLetter_any _ _).mono ?_)); rintro e w2 ⟨rfl, hb2⟩; rw [HL.out])
                    go_roundw
                    case rel => exact ⟨k + 1, by go_num, by omega, HN2.out, below_call hB hB.size hb2⟩
                    case measure => simp [intOf]; omega
                · have HF : Hid (nameOk s = true) := HG2.out fun x hx => by
                    obtain ⟨j, hj, rfl⟩ := List.getElem_of_mem hx
                    exact hn.out j hj (by omega)
                  go_wp2
                  go_ret
                  exact ret_bool HF.out.symm (below_call hb hb.size hB)
          · have HG2 := Lib.hid (HG.out (by simp [firstBad]; omega))
            clear h3
            go_enter Tryd.func50, Tryd.ntmps50
            go_wp2_with (go_at_call 80; ((with_reducible refine (HRU.out _).mono ?_)); rintro e w1 ⟨A, c, rfl, hR, hb⟩; rw [HOK.out]; obtain ⟨ad, rfl, hc0⟩ := reads_at hR HX0.out; rw [addr_zero] at hc0)
            have HR := Lib.hid hR
            have HUL2 := Lib.hid HUL.out
            clear hc0 hR HX0
            go_loopw [5] (fun i wr => ∃ k : Nat, i = .int .i64 k ∧ k ≤ (runes s).length ∧ Hid (∀ j, (h : j < (runes s).length) → j < k → letterB (runes s)[j].2 = true) ∧ Below w1.heap.size w1 wr) (fun i _ => (runes s).length - (intOf i).toNat)
            case atStart => exact ⟨0, rfl, by omega, fun j hj h => by omega, Below.refl _ _⟩
            case round =>
              obtain ⟨k, rfl, hk, hn, hB⟩ := hrel
              by_cases hlt : k < (runes s).length
              · obtain ⟨ad, hA, hx⟩ := reads_at (reads_below HR.out hB) (rints_at (runes s) k hlt)
                cases hA
                have hm := List.getElem_mem hlt
                have HN := Lib.hid (fun (h : letterB (runes s)[k].2 = true) => (show ∀ j, (hj : j < (runes s).length) → j < k + 1 → letterB (runes s)[j].2 = true from fun j hj hjk => by
                  rcases Nat.lt_or_ge j k with h' | h'
                  · exact hn.out j hj h'
                  · obtain rfl : j = k := by omega
                    exact h))
                have HU := Lib.hid (HUL2.out _ hm)
                generalize (runes s)[k].2 = x at hx HN HU
                cases hl : letterB x
                · have HL := Lib.hid hl
                  have HF := Lib.hid (HU.out hl)
                  clear hl hm
                  go_wp2_with (go_at_call 81; ((with_reducible refine (refLetter_any _ _).mono ?_)); rintro e w2 ⟨rfl, hb2⟩; rw [HL.out])
                  go_ret
                  exact ret_bool HF.out.symm (below_call (below_call hb hb.size hB) (by have := hb.size; have := hB.size; omega) hb2)
                · have HL := Lib.hid hl
                  have HN2 := Lib.hid (HN.out hl)
                  clear hl hm
                  go_wp2_with (go_at_call 81; ((with_reducible refine (refLetter_any _ _).mono ?_)); rintro e w2 ⟨rfl, hb2⟩; rw [HL.out])
                  go_roundw
                  case rel => exact ⟨k + 1, by go_num, by omega, HN2.out, below_call hB hB.size hb2⟩
                  case measure => simp [intOf]; omega
              · have HF : Hid (nameOk s = true) := HG2.out fun x hx => by
                  obtain ⟨j, hj, rfl⟩ := List.getElem_of_mem hx
                  exact hn.out j hj (by omega)
                go_wp2
                go_ret
                exact ret_bool HF.out.symm (below_call hb hb.size hB)
end Go.Proofs.YtnhpkefjmpgneaaDoor
namespace Go.Proofs.YtnhpkefjmpgneaaDoor
open Go.RowKit

/-! ### the document's Value, Less -/
theorem brokenB_at {s : ByteArray} {p : Nat} (h : p < s.size) : brokenB s p ((Utf8.decode s p).1 : Int) = !okAt s p := by
  unfold brokenB okAt
  rw [decodeGo_tail s p h, Bool.not_not]
theorem valueRune_at {s : ByteArray} {x : Nat × Int} (h : x ∈ runes s) : valueRune s x = (decide (32 ≤ x.2) && (decide (x.2 ≠ 127) && okAt s x.1)) := by
  have hm := runes_mem h
  unfold valueRune
  rw [hm.2, brokenB_at hm.1, Bool.not_not]
theorem valueOk_not {s : ByteArray} {x : Nat × Int} (h : x ∈ runes s) (hl : valueRune s x = false) : valueOk s = false := by
  unfold valueOk
  have : (runes s).all (valueRune s) = false := by
    rw [List.all_eq_false]
    exact ⟨x, h, by rw [hl]; simp⟩
  rw [this]; rfl
theorem valueOk_broken {s : ByteArray} (h : allOk s (runes s) = false) : valueOk s = false := by
  unfold allOk at h
  rw [List.all_eq_false] at h
  obtain ⟨x, hx, hk⟩ := h
  refine valueOk_not hx ?_
  rw [valueRune_at hx]
  simp at hk
  simp [hk]
theorem valueOk_low {s : ByteArray} {x : Nat × Int} (h : x ∈ runes s) (hl : x.2 < 32) : valueOk s = false := valueOk_not h (by rw [valueRune_at h]; simp; omega)
theorem valueOk_del {s : ByteArray} {x : Nat × Int} (h : x ∈ runes s) (hl : x.2 = 127) : valueOk s = false := valueOk_not h (by rw [valueRune_at h, hl]; simp)
theorem valueOk_good {s : ByteArray} (h0 : allOk s (runes s) = true) (h2 : (runes s).length ≤ 32) (hl : ∀ x ∈ runes s, 32 ≤ x.2 ∧ x.2 ≠ 127) : valueOk s = true := by
  unfold valueOk
  have : (runes s).all (valueRune s) = true := by
    rw [List.all_eq_true]
    intro x hx
    rw [valueRune_at hx]
    unfold allOk at h0
    rw [List.all_eq_true] at h0
    simp [hl x hx, h0 x hx]
  rw [this]
  simp [h2]
set_option maxHeartbeats 2000000 in
set_option maxRecDepth 100000 in
theorem refValue_any (s : ByteArray) (hs : s.size ≤ 4398046511104) (w : World) : Calls Tryd.prog 83 #[.string s] w (Ret w (.bool (valueOk s))) := by
  have HRU := Lib.hid (fun w => refRunes_any s hs w)
  obtain ⟨ok, hok⟩ : ∃ b, allOk s (runes s) = b := ⟨_, rfl⟩
  have HOK := Lib.hid hok
  have hrl : (runes s).length ≤ 4398046511104 := by have := runes_length s; omega
  clear hok
  cases ok
  · have HF := Lib.hid (valueOk_broken HOK.out)
    go_enter Tryd.func83, Tryd.ntmps83
    go_wp2_with (go_at_call 80; ((with_reducible refine (HRU.out _).mono ?_)); rintro e w1 ⟨A, c, rfl, hR, hb⟩; rw [HOK.out])
    go_ret
    exact ret_bool HF.out.symm hb
  · by_cases h2 : 32 < (runes s).length
    · have HF : Hid (valueOk s = false) := by unfold Hid valueOk; simp; omega
      go_enter Tryd.func83, Tryd.ntmps83
      go_wp2_with (go_at_call 80; ((with_reducible refine (HRU.out _).mono ?_)); rintro e w1 ⟨A, c, rfl, hR, hb⟩; rw [HOK.out])
      go_ret
      exact ret_bool HF.out.symm hb
    · have HG2 := Lib.hid (fun h => valueOk_good (s := s) HOK.out (by omega) h)
      have HU1 := Lib.hid (fun x hx hl => valueOk_low (s := s) (x := x) hx hl)
      have HU2 := Lib.hid (fun x hx hl => valueOk_del (s := s) (x := x) hx hl)
      go_enter Tryd.func83, Tryd.ntmps83
      go_wp2_with (go_at_call 80; ((with_reducible refine (HRU.out _).mono ?_)); rintro e w1 ⟨A, c, rfl, hR, hb⟩; rw [HOK.out])
      have HR := Lib.hid hR
      clear hR
      go_loopw [5] (fun i wr => ∃ k : Nat, i = .int .i64 k ∧ k ≤ (runes s).length ∧ Hid (∀ j, (h : j < (runes s).length) → j < k → 32 ≤ (runes s)[j].2 ∧ (runes s)[j].2 ≠ 127) ∧ Below w1.heap.size w1 wr) (fun i _ => (runes s).length - (intOf i).toNat)
      case atStart => exact ⟨0, rfl, by omega, fun j hj h => by omega, Below.refl _ _⟩
      case round =>
        obtain ⟨k, rfl, hk, hn, hB⟩ := hrel
        by_cases hlt : k < (runes s).length
        · obtain ⟨ad, rfl, hx⟩ := reads_at (reads_below HR.out hB) (rints_at (runes s) k hlt)
          have hm := List.getElem_mem hlt
          have HN := Lib.hid (fun (h : 32 ≤ (runes s)[k].2 ∧ (runes s)[k].2 ≠ 127) => (show ∀ j, (hj : j < (runes s).length) → j < k + 1 → 32 ≤ (runes s)[j].2 ∧ (runes s)[j].2 ≠ 127 from fun j hj hjk => by
            rcases Nat.lt_or_ge j k with h' | h'
            · exact hn.out j hj h'
            · obtain rfl : j = k := by omega
              exact h))
          have HUa := Lib.hid (HU1.out _ hm)
          have HUb := Lib.hid (HU2.out _ hm)
          generalize (runes s)[k].2 = x at hx HN HUa HUb
          have hB' := Lib.hid (below_call hb hb.size hB)
          by_cases h3 : x < 32
          · have HF := Lib.hid (HUa.out h3)
            clear hm
            go_wp2
            go_ret
            exact ret_bool HF.out.symm hB'.out
          · by_cases h4 : x = 127
            · have HF := Lib.hid (HUb.out h4)
              subst h4
              clear hm
              go_wp2
              go_ret
              exact ret_bool HF.out.symm hB'.out
            · have HN2 := Lib.hid (HN.out ⟨by omega, h4⟩)
              have e127 : (x == 127) = false := by simp [h4]
              clear hm h4
              go_wp2
              go_roundw
              case rel => exact ⟨k + 1, by go_num, by omega, HN2.out, hB⟩
              case measure => simp [intOf]; omega
        · have HF : Hid (valueOk s = true) := HG2.out fun x hx => by
            obtain ⟨j, hj, rfl⟩ := List.getElem_of_mem hx
            exact hn.out j hj (by omega)
          go_wp2
          go_ret
          exact ret_bool HF.out.symm (below_call hb hb.size hB)

/-! ### Less -/
theorem rints_get (s : ByteArray) (k : Nat) (h : k < (runes s).length) : (rints (runes s))[k]? = some (.int .i64 ((rns s).getD k 0)) := by
  rw [rints_at _ k h]
  simp [rns, h]
set_option maxHeartbeats 2000000 in
set_option maxRecDepth 100000 in
theorem refLess_any (a b : ByteArray) (ha : a.size ≤ 4398046511104) (hb : b.size ≤ 4398046511104) (w : World) : Calls Tryd.prog 84 #[.string a, .string b] w (Ret w (.bool (lessB a b))) := by
  have HL : Hid (lessB a b = match cmpR ((rns a).drop 0) ((rns b).drop 0) with | .lt => true | .gt => false | .eq => Op.bytesLess a.toList b.toList) := rfl
  have hla := runes_length a
  have hlb := runes_length b
  have hra : (rns a).length = (runes a).length := by simp [rns]
  have hrb : (rns b).length = (runes b).length := by simp [rns]
  have HRa := Lib.hid hra
  have HRb := Lib.hid hrb
  clear hra hrb
  have HRU1 := Lib.hid (fun w => refRunes_any a ha w)
  have HRU2 := Lib.hid (fun w => refRunes_any b hb w)
  generalize hoa : allOk a (runes a) = oa at *
  generalize hob : allOk b (runes b) = ob at *
  have HOA := Lib.hid hoa
  have HOB := Lib.hid hob
  clear hoa hob
  go_enter Tryd.func84, Tryd.ntmps84
  go_wp2_with (first | (go_at_call 80; ((with_reducible refine (HRU1.out _).mono ?_)); rintro e w1 ⟨A1, c1, rfl, hR1, hb1⟩; rw [HOA.out]; have HB1 := Lib.hid hb1; clear hb1) | (go_at_call 80; ((with_reducible refine (HRU2.out _).mono ?_)); rintro e w2 ⟨A2, c2, rfl, hR2, hb2⟩; rw [HOB.out]; have HR1 := Lib.hid (reads_below hR1 hb2); have HR2 := Lib.hid hR2; have HB := Lib.hid (below_call HB1.out HB1.out.size hb2); clear hb2 hR1 hR2 HB1))
  go_loopw [9] (fun i wr => ∃ k : Nat, i = .int .i64 k ∧ k ≤ (runes a).length ∧ k ≤ (runes b).length ∧ Hid (cmpR ((rns a).drop k) ((rns b).drop k) = cmpR ((rns a).drop 0) ((rns b).drop 0)) ∧ Below w2.heap.size w2 wr) (fun i _ => (runes a).length - (intOf i).toNat)
  case atStart => exact ⟨0, rfl, by omega, by omega, rfl, Below.refl _ _⟩
  case round =>
    obtain ⟨k, rfl, hka, hkb, hc, hB⟩ := hrel
    have hB' := Lib.hid (below_call HB.out HB.out.size hB)
    by_cases h1 : k < (runes a).length
    · by_cases h2 : k < (runes b).length
      · obtain ⟨ad, rfl, hx⟩ := reads_at (reads_below HR1.out hB) (rints_get a k h1)
        obtain ⟨bd, rfl, hy⟩ := reads_at (reads_below HR2.out hB) (rints_get b k h2)
        obtain ⟨x, hxe⟩ : ∃ x, (rns a).getD k 0 = x := ⟨_, rfl⟩
        obtain ⟨y, hye⟩ : ∃ y, (rns b).getD k 0 = y := ⟨_, rfl⟩
        rw [hxe] at hx
        rw [hye] at hy
        have l1 := HRa.out
        have l2 := HRb.out
        by_cases h4 : y < x
        · have HF : Hid (lessB a b = false) := by rw [Hid, HL.out, ← hc.out, cmpR_gt _ _ k (by omega) (by omega) (by rw [hxe, hye]; exact h4)]
          have e1 : (x != y) = true := by simp; omega
          clear hxe hye l1 l2
          go_wp2_with fail
          go_quiet (fail)
          go_wp2_with fail
          go_quiet (fail)
          go_wp2
          go_ret
          exact ret_bool (by first | (rw [HF.out]; done) | (rw [HF.out]; simp; done) | (rw [HF.out]; simp; omega)) (belowN (belowN hB'.out _) _)
        · by_cases h5 : x < y
          · have HF : Hid (lessB a b = true) := by rw [Hid, HL.out, ← hc.out, cmpR_lt _ _ k (by omega) (by omega) (by rw [hxe, hye]; exact h5)]
            have e1 : (x != y) = true := by simp; omega
            clear hxe hye l1 l2
            go_wp2_with fail
            go_quiet (fail)
            go_wp2_with fail
            go_quiet (fail)
            go_wp2
            go_ret
            exact ret_bool (by first | (rw [HF.out]; done) | (rw [HF.out]; simp; done) | (rw [HF.out]; simp; omega)) (belowN (belowN hB'.out _) _)
          · have HF : Hid (cmpR ((rns a).drop (k + 1)) ((rns b).drop (k + 1)) = cmpR ((rns a).drop 0) ((rns b).drop 0)) := by rw [Hid, ← hc.out, cmpR_drop _ _ k (by omega) (by omega) (by rw [hxe, hye]; omega)]
            have e1 : (x != y) = false := by simp; omega
            clear hxe hye l1 l2
            go_wp2_with fail
            go_quiet (fail)
            go_wp2
            go_roundw
            case rel => exact ⟨k + 1, by go_num, by omega, by omega, HF, belowN hB _⟩
            case measure => simp [intOf]; omega
      · obtain rfl : k = (runes b).length := by omega
        have HF : Hid (lessB a b = false) := by rw [Hid, HL.out, ← hc.out, cmpR_over _ _ _ (by rw [HRa.out]; omega) (by rw [HRb.out])]
        have e2 : (((runes a).length : Int) != ((runes b).length : Int)) = true := by simp; omega
        clear h2
        go_wp2
        go_ret
        exact ret_bool (by first | (rw [HF.out]; done) | (rw [HF.out]; simp; done) | (rw [HF.out]; simp; omega)) hB'.out
    · obtain rfl : k = (runes a).length := by omega
      have HC : Hid (lessB a b = match (if (runes a).length < (runes b).length then Ordering.lt else Ordering.eq) with | .lt => true | .gt => false | .eq => Op.bytesLess a.toList b.toList) := by
        have h3 := cmpR_end (rns a) (rns b) (by rw [HRa.out, HRb.out]; omega)
        rw [HRa.out, HRb.out] at h3
        rw [Hid, HL.out, ← hc.out, h3]
      by_cases h2 : (runes a).length < (runes b).length
      · have HF : Hid (lessB a b = true) := by have := HC.out; rw [if_pos h2] at this; exact this
        have e2 : (((runes a).length : Int) != ((runes b).length : Int)) = true := by simp; omega
        go_wp2
        go_ret
        exact ret_bool (by first | (rw [HF.out]; done) | (rw [HF.out]; simp; done) | (rw [HF.out]; simp; omega)) hB'.out
      · have HF : Hid (lessB a b = Op.bytesLess a.toList b.toList) := by have := HC.out; rw [if_neg h2] at this; exact this
        have e2 : (((runes a).length : Int) != ((runes b).length : Int)) = false := by simp; omega
        go_wp2
        go_ret
        exact ret_bool HF.out.symm hB'.out
end Go.Proofs.YtnhpkefjmpgneaaDoor
