import Derived.Test.YtnhpkefjmpgneaaDoorApart3
namespace Go.Proofs.YtnhpkefjmpgneaaDoor
open Go.RowKit

theorem ap_start {w w4 w5 : World} {A : Accs} {a b : Tx} (hx : w4.heap[w.heap.size]? = some (.cells (tcells a) TX (0, 0))) (hy : w4.heap[w.heap.size + 1]? = some (.cells (tcells b) TX (0, 0))) (hB : Below w.heap.size w w4) (hb : Below w4.heap.size w4 w5)
    (hs : IsState w5 (w4.heap.size + 1 + 1) w4.heap.size (w4.heap.size + 1) A []) : Ap w w5 (w4.heap.size + 1 + 1) w4.heap.size (w4.heap.size + 1) A [] a b := by
  have := size_lt_of hy
  exact ⟨(hb.block _ (size_lt_of hx)).trans hx, (hb.block _ this).trans hy, hs, below_call hB hB.size hb, by omega, by omega⟩
set_option maxHeartbeats 2000000 in
set_option maxRecDepth 100000 in
theorem apart_err (l : List (ByteArray × Int)) (A0 : Option Addr) (c0 : Nat) (bs : List Tx) (B0 : Option Addr) (c1 : Nat) (ak aa an : Int) (af at2 akey av : ByteArray) (bk ba2 bn : Int) (bf bt bkey bv2 : ByteArray) (w : World) (hin : ApIn w l A0 bs B0)
    (gA : greatA l = false) (gB : greatL bs = false) (gC : greatL [⟨ak, af, at2, akey, av, aa, an⟩, ⟨bk, bf, bt, bkey, bv2, ba2, bn⟩] = false) (hsz : ∀ x ∈ l, x.1.size ≤ 35184372088831) (hne : ¬ (newR l).1 = 0) :
    Calls Tryd.prog 3 #[.slice A0 l.length c0, .slice B0 bs.length c1, .agg #[.int .i64 ak, .string af, .string at2, .string akey, .string av, .int .i64 aa, .int .i64 an], .agg #[.int .i64 bk, .string bf, .string bt, .string bkey, .string bv2, .int .i64 ba2, .int .i64 bn]] w (Ret w (.bool true)) := by
  have HT := Lib.hid hin.tabs
  have HRA := Lib.hid hin.ra
  have HRB := Lib.hid hin.rb
  have hB0 : Below w.heap.size w ((w.alloc (.cells #[.int .i64 ak, .string af, .string at2, .string akey, .string av, .int .i64 aa, .int .i64 an] TX (0, 0))).alloc (.cells #[.int .i64 bk, .string bf, .string bt, .string bkey, .string bv2, .int .i64 ba2, .int .i64 bn] TX (0, 0))) := ((Below.refl _ _).alloc (Nat.le_refl _) _).alloc (by simp) _
  have HX0 : Hid (((w.alloc (.cells #[.int .i64 ak, .string af, .string at2, .string akey, .string av, .int .i64 aa, .int .i64 an] TX (0, 0))).alloc (.cells #[.int .i64 bk, .string bf, .string bt, .string bkey, .string bv2, .int .i64 ba2, .int .i64 bn] TX (0, 0))).heap[w.heap.size]? = some (.cells (tcells ⟨ak, af, at2, akey, av, aa, an⟩) TX (0, 0))) := (Below.heap_alloc _ _ _ (by simp)).trans (heap_new w _)
  have HY0 : Hid (((w.alloc (.cells #[.int .i64 ak, .string af, .string at2, .string akey, .string av, .int .i64 aa, .int .i64 an] TX (0, 0))).alloc (.cells #[.int .i64 bk, .string bf, .string bt, .string bkey, .string bv2, .int .i64 ba2, .int .i64 bn] TX (0, 0))).heap[w.heap.size + 1]? = some (.cells (tcells ⟨bk, bf, bt, bkey, bv2, ba2, bn⟩) TX (0, 0))) := by
    have := heap_new (w.alloc (.cells #[.int .i64 ak, .string af, .string at2, .string akey, .string av, .int .i64 aa, .int .i64 an] TX (0, 0))) (.cells #[.int .i64 bk, .string bf, .string bt, .string bkey, .string bv2, .int .i64 ba2, .int .i64 bn] TX (0, 0))
    rw [World.size_alloc] at this
    exact this
  have HB0 := Lib.hid hB0
  clear hin hB0
  have hGC : ∀ W : World, Calls Tryd.prog 11 #[.slice (some ⟨W.heap.size, 0, none⟩) 2 2] (W.alloc (.cells #[.int .i64 ak, .string af, .string at2, .string akey, .string av, .int .i64 aa, .int .i64 an, .int .i64 bk, .string bf, .string bt, .string bkey, .string bv2, .int .i64 ba2, .int .i64 bn] TX)) (Ret (W.alloc (.cells #[.int .i64 ak, .string af, .string at2, .string akey, .string av, .int .i64 aa, .int .i64 an, .int .i64 bk, .string bf, .string bt, .string bkey, .string bv2, .int .i64 ba2, .int .i64 bn] TX)) (.bool (greatL [⟨ak, af, at2, akey, av, aa, an⟩, ⟨bk, bf, bt, bkey, bv2, ba2, bn⟩]))) := fun W => greatL_any [⟨ak, af, at2, akey, av, aa, an⟩, ⟨bk, bf, bt, bkey, bv2, ba2, bn⟩] _ 2 _ (reads_two W _ _)
  have HSZ := Lib.hid hsz
  have hnb : ((newR l).1 != 0) = true := by simp [hne]
  clear hsz
  go_enter Tryd.func3, Tryd.ntmps3
  go_wp2_with (first | (go_at_call 9; ((with_reducible refine (alive_any _ (tabs_keep HT.out HB0.out)).mono ?_)); rintro e w1 ⟨rfl, hb⟩; have HB1 := Lib.hid (below_call HB0.out HB0.out.size hb); have HX1 := Lib.hid ((hb.block _ (size_lt_of HX0.out)).trans HX0.out); have HY1 := Lib.hid ((hb.block _ (size_lt_of HY0.out)).trans HY0.out); clear hb) | (go_at_call 12; ((with_reducible refine (new_any l A0 c0 HSZ.out _ (readsN_below HRA.out HB4.out)).mono ?_)); rintro e w5 ⟨hb, hP⟩; rw [if_neg hne] at hP; obtain rfl := hP; have HB5 := Lib.hid (below_call HB4.out HB4.out.size hb); clear hb) | (go_at_call 11; ((with_reducible refine (hGC w3).mono ?_)); rintro e w4 ⟨rfl, hb⟩; rw [gC]; have HB4 := Lib.hid (below_call (HB3.out.alloc HB3.out.size _) (by simp; exact Nat.le_succ_of_le HB3.out.size) hb); have HX4 := Lib.hid ((hb.block _ (by have := size_lt_of HX3.out; simp; omega)).trans ((Below.heap_alloc _ _ _ (size_lt_of HX3.out)).trans HX3.out)); have HY4 := Lib.hid ((hb.block _ (by have := size_lt_of HY3.out; simp; omega)).trans ((Below.heap_alloc _ _ _ (size_lt_of HY3.out)).trans HY3.out)); clear hb) | (go_at_call 11; ((with_reducible refine (greatL_any bs B0 c1 _ (readsN_below HRB.out HB2.out)).mono ?_)); rintro e w3 ⟨rfl, hb⟩; rw [gB]; have HB3 := Lib.hid (below_call HB2.out HB2.out.size hb); have HX3 := Lib.hid ((hb.block _ (size_lt_of HX2.out)).trans HX2.out); have HY3 := Lib.hid ((hb.block _ (size_lt_of HY2.out)).trans HY2.out); clear hb; obtain ⟨x0, x1, x2, x3, x4, x5, x6⟩ := seven HX3.out; obtain ⟨y0, y1, y2, y3, y4, y5, y6⟩ := seven HY3.out) | (go_at_call 10; ((with_reducible refine (greatA_any l A0 c0 _ (readsN_below HRA.out HB1.out)).mono ?_)); rintro e w2 ⟨rfl, hb⟩; rw [gA]; have HB2 := Lib.hid (below_call HB1.out HB1.out.size hb); have HX2 := Lib.hid ((hb.block _ (size_lt_of HX1.out)).trans HX1.out); have HY2 := Lib.hid ((hb.block _ (size_lt_of HY1.out)).trans HY1.out); clear hb))
  go_ret
  exact ret_bool rfl HB5.out
set_option maxHeartbeats 2000000 in
set_option maxRecDepth 100000 in
theorem apart_same (l : List (ByteArray × Int)) (A0 : Option Addr) (c0 : Nat) (bs : List Tx) (B0 : Option Addr) (c1 : Nat) (ak aa an : Int) (af at2 akey av : ByteArray) (bk ba2 bn : Int) (bf bt bkey bv2 : ByteArray) (w : World) (hin : ApIn w l A0 bs B0)
    (gA : greatA l = false) (gB : greatL bs = false) (gC : greatL [⟨ak, af, at2, akey, av, aa, an⟩, ⟨bk, bf, bt, bkey, bv2, ba2, bn⟩] = false) (hsz : ∀ x ∈ l, x.1.size ≤ 35184372088831) (hz : (newR l).1 = 0) (hd : af = bf ∨ af = bt ∨ at2 = bf) :
    Calls Tryd.prog 3 #[.slice A0 l.length c0, .slice B0 bs.length c1, .agg #[.int .i64 ak, .string af, .string at2, .string akey, .string av, .int .i64 aa, .int .i64 an], .agg #[.int .i64 bk, .string bf, .string bt, .string bkey, .string bv2, .int .i64 ba2, .int .i64 bn]] w (Ret w (.bool true)) := by
  have HT := Lib.hid hin.tabs
  have HRA := Lib.hid hin.ra
  have HRB := Lib.hid hin.rb
  have hB0 : Below w.heap.size w ((w.alloc (.cells #[.int .i64 ak, .string af, .string at2, .string akey, .string av, .int .i64 aa, .int .i64 an] TX (0, 0))).alloc (.cells #[.int .i64 bk, .string bf, .string bt, .string bkey, .string bv2, .int .i64 ba2, .int .i64 bn] TX (0, 0))) := ((Below.refl _ _).alloc (Nat.le_refl _) _).alloc (by simp) _
  have HX0 : Hid (((w.alloc (.cells #[.int .i64 ak, .string af, .string at2, .string akey, .string av, .int .i64 aa, .int .i64 an] TX (0, 0))).alloc (.cells #[.int .i64 bk, .string bf, .string bt, .string bkey, .string bv2, .int .i64 ba2, .int .i64 bn] TX (0, 0))).heap[w.heap.size]? = some (.cells (tcells ⟨ak, af, at2, akey, av, aa, an⟩) TX (0, 0))) := (Below.heap_alloc _ _ _ (by simp)).trans (heap_new w _)
  have HY0 : Hid (((w.alloc (.cells #[.int .i64 ak, .string af, .string at2, .string akey, .string av, .int .i64 aa, .int .i64 an] TX (0, 0))).alloc (.cells #[.int .i64 bk, .string bf, .string bt, .string bkey, .string bv2, .int .i64 ba2, .int .i64 bn] TX (0, 0))).heap[w.heap.size + 1]? = some (.cells (tcells ⟨bk, bf, bt, bkey, bv2, ba2, bn⟩) TX (0, 0))) := by
    have := heap_new (w.alloc (.cells #[.int .i64 ak, .string af, .string at2, .string akey, .string av, .int .i64 aa, .int .i64 an] TX (0, 0))) (.cells #[.int .i64 bk, .string bf, .string bt, .string bkey, .string bv2, .int .i64 ba2, .int .i64 bn] TX (0, 0))
    rw [World.size_alloc] at this
    exact this
  have HB0 := Lib.hid hB0
  clear hin hB0
  have hGC : ∀ W : World, Calls Tryd.prog 11 #[.slice (some ⟨W.heap.size, 0, none⟩) 2 2] (W.alloc (.cells #[.int .i64 ak, .string af, .string at2, .string akey, .string av, .int .i64 aa, .int .i64 an, .int .i64 bk, .string bf, .string bt, .string bkey, .string bv2, .int .i64 ba2, .int .i64 bn] TX)) (Ret (W.alloc (.cells #[.int .i64 ak, .string af, .string at2, .string akey, .string av, .int .i64 aa, .int .i64 an, .int .i64 bk, .string bf, .string bt, .string bkey, .string bv2, .int .i64 ba2, .int .i64 bn] TX)) (.bool (greatL [⟨ak, af, at2, akey, av, aa, an⟩, ⟨bk, bf, bt, bkey, bv2, ba2, bn⟩]))) := fun W => greatL_any [⟨ak, af, at2, akey, av, aa, an⟩, ⟨bk, bf, bt, bkey, bv2, ba2, bn⟩] _ 2 _ (reads_two W _ _)
  have HSZ := Lib.hid hsz
  clear hsz
  have d1 : (af.toList == bf.toList) = decide (af = bf) := by rw [← beq_toListBytes, beqBytes]
  have d2 : (af.toList == bt.toList) = decide (af = bt) := by rw [← beq_toListBytes, beqBytes]
  have d3 : (at2.toList == bf.toList) = decide (at2 = bf) := by rw [← beq_toListBytes, beqBytes]
  by_cases e1 : af = bf
  · rw [decide_eq_true e1] at d1
    clear e1 hd d2 d3
    go_enter Tryd.func3, Tryd.ntmps3
    go_wp2_with (first | (go_at_call 9; ((with_reducible refine (alive_any _ (tabs_keep HT.out HB0.out)).mono ?_)); rintro e w1 ⟨rfl, hb⟩; have HB1 := Lib.hid (below_call HB0.out HB0.out.size hb); have HX1 := Lib.hid ((hb.block _ (size_lt_of HX0.out)).trans HX0.out); have HY1 := Lib.hid ((hb.block _ (size_lt_of HY0.out)).trans HY0.out); clear hb) | (go_at_call 12; ((with_reducible refine (new_any l A0 c0 HSZ.out _ (readsN_below HRA.out HB4.out)).mono ?_)); rintro e w5 ⟨hb, hP⟩; rw [if_pos hz] at hP; obtain ⟨rfl, hS⟩ := hP; have HA5 := Lib.hid (ap_start HX4.out HY4.out HB4.out hb hS); obtain ⟨x0, x1, x2, x3, x4, x5, x6⟩ := seven HA5.out.bx; obtain ⟨y0, y1, y2, y3, y4, y5, y6⟩ := seven HA5.out.by2; clear hb hS) | (go_at_call 11; ((with_reducible refine (hGC w3).mono ?_)); rintro e w4 ⟨rfl, hb⟩; rw [gC]; have HB4 := Lib.hid (below_call (HB3.out.alloc HB3.out.size _) (by simp; exact Nat.le_succ_of_le HB3.out.size) hb); have HX4 := Lib.hid ((hb.block _ (by have := size_lt_of HX3.out; simp; omega)).trans ((Below.heap_alloc _ _ _ (size_lt_of HX3.out)).trans HX3.out)); have HY4 := Lib.hid ((hb.block _ (by have := size_lt_of HY3.out; simp; omega)).trans ((Below.heap_alloc _ _ _ (size_lt_of HY3.out)).trans HY3.out)); clear hb) | (go_at_call 11; ((with_reducible refine (greatL_any bs B0 c1 _ (readsN_below HRB.out HB2.out)).mono ?_)); rintro e w3 ⟨rfl, hb⟩; rw [gB]; have HB3 := Lib.hid (below_call HB2.out HB2.out.size hb); have HX3 := Lib.hid ((hb.block _ (size_lt_of HX2.out)).trans HX2.out); have HY3 := Lib.hid ((hb.block _ (size_lt_of HY2.out)).trans HY2.out); clear hb; obtain ⟨x0, x1, x2, x3, x4, x5, x6⟩ := seven HX3.out; obtain ⟨y0, y1, y2, y3, y4, y5, y6⟩ := seven HY3.out) | (go_at_call 10; ((with_reducible refine (greatA_any l A0 c0 _ (readsN_below HRA.out HB1.out)).mono ?_)); rintro e w2 ⟨rfl, hb⟩; rw [gA]; have HB2 := Lib.hid (below_call HB1.out HB1.out.size hb); have HX2 := Lib.hid ((hb.block _ (size_lt_of HX1.out)).trans HX1.out); have HY2 := Lib.hid ((hb.block _ (size_lt_of HY1.out)).trans HY1.out); clear hb))
    go_ret
    exact ret_bool rfl HA5.out.below
  · rw [decide_eq_false e1] at d1
    by_cases e2 : af = bt
    · rw [decide_eq_true e2] at d2
      clear e1 e2 hd d3
      go_enter Tryd.func3, Tryd.ntmps3
      go_wp2_with (first | (go_at_call 9; ((with_reducible refine (alive_any _ (tabs_keep HT.out HB0.out)).mono ?_)); rintro e w1 ⟨rfl, hb⟩; have HB1 := Lib.hid (below_call HB0.out HB0.out.size hb); have HX1 := Lib.hid ((hb.block _ (size_lt_of HX0.out)).trans HX0.out); have HY1 := Lib.hid ((hb.block _ (size_lt_of HY0.out)).trans HY0.out); clear hb) | (go_at_call 12; ((with_reducible refine (new_any l A0 c0 HSZ.out _ (readsN_below HRA.out HB4.out)).mono ?_)); rintro e w5 ⟨hb, hP⟩; rw [if_pos hz] at hP; obtain ⟨rfl, hS⟩ := hP; have HA5 := Lib.hid (ap_start HX4.out HY4.out HB4.out hb hS); obtain ⟨x0, x1, x2, x3, x4, x5, x6⟩ := seven HA5.out.bx; obtain ⟨y0, y1, y2, y3, y4, y5, y6⟩ := seven HA5.out.by2; clear hb hS) | (go_at_call 11; ((with_reducible refine (hGC w3).mono ?_)); rintro e w4 ⟨rfl, hb⟩; rw [gC]; have HB4 := Lib.hid (below_call (HB3.out.alloc HB3.out.size _) (by simp; exact Nat.le_succ_of_le HB3.out.size) hb); have HX4 := Lib.hid ((hb.block _ (by have := size_lt_of HX3.out; simp; omega)).trans ((Below.heap_alloc _ _ _ (size_lt_of HX3.out)).trans HX3.out)); have HY4 := Lib.hid ((hb.block _ (by have := size_lt_of HY3.out; simp; omega)).trans ((Below.heap_alloc _ _ _ (size_lt_of HY3.out)).trans HY3.out)); clear hb) | (go_at_call 11; ((with_reducible refine (greatL_any bs B0 c1 _ (readsN_below HRB.out HB2.out)).mono ?_)); rintro e w3 ⟨rfl, hb⟩; rw [gB]; have HB3 := Lib.hid (below_call HB2.out HB2.out.size hb); have HX3 := Lib.hid ((hb.block _ (size_lt_of HX2.out)).trans HX2.out); have HY3 := Lib.hid ((hb.block _ (size_lt_of HY2.out)).trans HY2.out); clear hb; obtain ⟨x0, x1, x2, x3, x4, x5, x6⟩ := seven HX3.out; obtain ⟨y0, y1, y2, y3, y4, y5, y6⟩ := seven HY3.out) | (go_at_call 10; ((with_reducible refine (greatA_any l A0 c0 _ (readsN_below HRA.out HB1.out)).mono ?_)); rintro e w2 ⟨rfl, hb⟩; rw [gA]; have HB2 := Lib.hid (below_call HB1.out HB1.out.size hb); have HX2 := Lib.hid ((hb.block _ (size_lt_of HX1.out)).trans HX1.out); have HY2 := Lib.hid ((hb.block _ (size_lt_of HY1.out)).trans HY1.out); clear hb))
      go_ret
      exact ret_bool rfl HA5.out.below
    · rw [decide_eq_false e2] at d2
      have e3 : at2 = bf := by
        rcases hd with h | h | h
        · exact absurd h e1
        · exact absurd h e2
        · exact h
      rw [decide_eq_true e3] at d3
      clear e1 e2 e3 hd
      go_enter Tryd.func3, Tryd.ntmps3
      go_wp2_with (first | (go_at_call 9; ((with_reducible refine (alive_any _ (tabs_keep HT.out HB0.out)).mono ?_)); rintro e w1 ⟨rfl, hb⟩; have HB1 := Lib.hid (below_call HB0.out HB0.out.size hb); have HX1 := Lib.hid ((hb.block _ (size_lt_of HX0.out)).trans HX0.out); have HY1 := Lib.hid ((hb.block _ (size_lt_of HY0.out)).trans HY0.out); clear hb) | (go_at_call 12; ((with_reducible refine (new_any l A0 c0 HSZ.out _ (readsN_below HRA.out HB4.out)).mono ?_)); rintro e w5 ⟨hb, hP⟩; rw [if_pos hz] at hP; obtain ⟨rfl, hS⟩ := hP; have HA5 := Lib.hid (ap_start HX4.out HY4.out HB4.out hb hS); obtain ⟨x0, x1, x2, x3, x4, x5, x6⟩ := seven HA5.out.bx; obtain ⟨y0, y1, y2, y3, y4, y5, y6⟩ := seven HA5.out.by2; clear hb hS) | (go_at_call 11; ((with_reducible refine (hGC w3).mono ?_)); rintro e w4 ⟨rfl, hb⟩; rw [gC]; have HB4 := Lib.hid (below_call (HB3.out.alloc HB3.out.size _) (by simp; exact Nat.le_succ_of_le HB3.out.size) hb); have HX4 := Lib.hid ((hb.block _ (by have := size_lt_of HX3.out; simp; omega)).trans ((Below.heap_alloc _ _ _ (size_lt_of HX3.out)).trans HX3.out)); have HY4 := Lib.hid ((hb.block _ (by have := size_lt_of HY3.out; simp; omega)).trans ((Below.heap_alloc _ _ _ (size_lt_of HY3.out)).trans HY3.out)); clear hb) | (go_at_call 11; ((with_reducible refine (greatL_any bs B0 c1 _ (readsN_below HRB.out HB2.out)).mono ?_)); rintro e w3 ⟨rfl, hb⟩; rw [gB]; have HB3 := Lib.hid (below_call HB2.out HB2.out.size hb); have HX3 := Lib.hid ((hb.block _ (size_lt_of HX2.out)).trans HX2.out); have HY3 := Lib.hid ((hb.block _ (size_lt_of HY2.out)).trans HY2.out); clear hb; obtain ⟨x0, x1, x2, x3, x4, x5, x6⟩ := seven HX3.out; obtain ⟨y0, y1, y2, y3, y4, y5, y6⟩ := seven HY3.out) | (go_at_call 10; ((with_reducible refine (greatA_any l A0 c0 _ (readsN_below HRA.out HB1.out)).mono ?_)); rintro e w2 ⟨rfl, hb⟩; rw [gA]; have HB2 := Lib.hid (below_call HB1.out HB1.out.size hb); have HX2 := Lib.hid ((hb.block _ (size_lt_of HX1.out)).trans HX1.out); have HY2 := Lib.hid ((hb.block _ (size_lt_of HY1.out)).trans HY1.out); clear hb))
      go_ret
      exact ret_bool rfl HA5.out.below
end Go.Proofs.YtnhpkefjmpgneaaDoor
