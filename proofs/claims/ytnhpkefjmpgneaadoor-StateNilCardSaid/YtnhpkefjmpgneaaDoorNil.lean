import Derived.Test.YtnhpkefjmpgneaaDoorAlive2
namespace Go.Proofs.YtnhpkefjmpgneaaDoor
open Go.RowKit

/-! ### StateNil -/
theorem amount_nil (s : ByteArray) (w : World) : Calls Tryd.prog 18 #[.pointer none, .string s] w (Ret w (.int .i64 0)) := by
  go_enter Tryd.func18, Tryd.ntmps18
  go_wp2
  go_ret
  exact ret_int rfl (Below.refl _ _)
theorem nonce_nil (s : ByteArray) (w : World) : Calls Tryd.prog 17 #[.pointer none, .string s] w (Ret w (.int .i64 0)) := by
  go_enter Tryd.func17, Tryd.ntmps17
  go_wp2
  go_ret
  exact ret_int rfl (Below.refl _ _)
theorem value_nil (s t : ByteArray) (w : World) : Calls Tryd.prog 26 #[.pointer none, .string s, .string t] w (Ret w (.string ⟨#[]⟩)) := by
  go_enter Tryd.func26, Tryd.ntmps26
  go_wp2
  go_ret
  exact ret_mk rfl (Below.refl _ _)
theorem total_nil (w : World) : Calls Tryd.prog 16 #[.pointer none] w (Ret w (.int .i64 0)) := by
  go_enter Tryd.func16, Tryd.ntmps16
  go_wp2
  go_ret
  exact ret_int rfl (Below.refl _ _)
set_option maxHeartbeats 2000000 in
set_option maxRecDepth 100000 in
theorem stateNil_any (kind amount nonce : Int) (from_ to key val : ByteArray) (w : World) (hT : Tabs w) :
    Calls Tryd.prog 7 #[.agg #[.int .i64 kind, .string from_, .string to, .string key, .string val, .int .i64 amount, .int .i64 nonce]] w (Ret w (.bool true)) := by
  have HT := Lib.hid hT
  have hB0 : Below w.heap.size w (w.alloc (.cells #[.int .i64 kind, .string from_, .string to, .string key, .string val, .int .i64 amount, .int .i64 nonce] 25 (0, 0))) := (Below.refl _ _).alloc (Nat.le_refl _) _
  have HX0 := Lib.hid (heap_new w (.cells #[.int .i64 kind, .string from_, .string to, .string key, .string val, .int .i64 amount, .int .i64 nonce] 25 (0, 0)))
  have HB0 := Lib.hid hB0
  clear hT hB0
  have hq1 : ((⟨#[]⟩ : ByteArray).toList == (⟨#[]⟩ : ByteArray).toList) = true := by simp
  go_enter Tryd.func7, Tryd.ntmps7
  go_wp2_with (first
    | (go_at_call 9; ((with_reducible refine (alive_any _ (tabs_keep HT.out HB0.out)).mono ?_)); rintro e w1 ⟨rfl, hb⟩; have HB1 := Lib.hid (below_call HB0.out HB0.out.size hb); have HX1 := Lib.hid ((hb.block _ (size_lt_of HX0.out)).trans HX0.out); have k0 : w1.cell? ⟨w.heap.size, 0, none⟩ = some (.int .i64 kind) := cell_at HX1.out 0; have k1 : w1.cell? ⟨w.heap.size, 1, none⟩ = some (.string from_) := cell_at HX1.out 1; have k2 : w1.cell? ⟨w.heap.size, 2, none⟩ = some (.string to) := cell_at HX1.out 2; have k3 : w1.cell? ⟨w.heap.size, 3, none⟩ = some (.string key) := cell_at HX1.out 3; have k4 : w1.cell? ⟨w.heap.size, 4, none⟩ = some (.string val) := cell_at HX1.out 4; have k5 : w1.cell? ⟨w.heap.size, 5, none⟩ = some (.int .i64 amount) := cell_at HX1.out 5; have k6 : w1.cell? ⟨w.heap.size, 6, none⟩ = some (.int .i64 nonce) := cell_at HX1.out 6; clear hb)
    | (go_at_call 13; ((with_reducible refine (do_nil kind amount nonce from_ to key val _).mono ?_)); rintro e w2 ⟨rfl, hb⟩; have HB2 := Lib.hid (below_call HB1.out HB1.out.size hb); have HX2 := Lib.hid ((hb.block _ (size_lt_of HX1.out)).trans HX1.out); have l1 : w2.cell? ⟨w.heap.size, 1, none⟩ = some (.string from_) := cell_at HX2.out 1; clear hb)
    | (go_at_call 18; ((with_reducible refine (amount_nil _ _).mono ?_)); rintro e w3 ⟨rfl, hb⟩; have HB3 := Lib.hid (below_call HB2.out HB2.out.size hb); have HX3 := Lib.hid ((hb.block _ (size_lt_of HX2.out)).trans HX2.out); have m1 : w3.cell? ⟨w.heap.size, 1, none⟩ = some (.string from_) := cell_at HX3.out 1; clear hb)
    | (go_at_call 17; ((with_reducible refine (nonce_nil _ _).mono ?_)); rintro e w4 ⟨rfl, hb⟩; have HB4 := Lib.hid (below_call HB3.out HB3.out.size hb); have HX4 := Lib.hid ((hb.block _ (size_lt_of HX3.out)).trans HX3.out); have n1 : w4.cell? ⟨w.heap.size, 1, none⟩ = some (.string from_) := cell_at HX4.out 1; have n3 : w4.cell? ⟨w.heap.size, 3, none⟩ = some (.string key) := cell_at HX4.out 3; clear hb)
    | (go_at_call 26; ((with_reducible refine (value_nil _ _ _).mono ?_)); rintro e w5 ⟨rfl, hb⟩; have HB5 := Lib.hid (below_call HB4.out HB4.out.size hb); clear hb)
    | (go_at_call 16; ((with_reducible refine (total_nil _).mono ?_)); rintro e w6 ⟨rfl, hb⟩; have HB6 := Lib.hid (below_call HB5.out HB5.out.size hb); clear hb)
    | (go_at_call 15; ((with_reducible refine (digest_nil _).mono ?_)); rintro e w7 ⟨rfl, hb⟩; have HB7 := Lib.hid (below_call HB6.out HB6.out.size hb); clear hb)
    | (go_at_call 14; ((with_reducible refine (copy_nil _).mono ?_)); rintro e w8 ⟨rfl, hb⟩; have HB8 := Lib.hid (below_call HB7.out HB7.out.size hb); clear hb))
  go_ret
  exact ret_bool rfl HB8.out
end Go.Proofs.YtnhpkefjmpgneaaDoor
