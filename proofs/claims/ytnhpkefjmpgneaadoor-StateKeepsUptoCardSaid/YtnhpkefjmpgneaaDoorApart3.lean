import Derived.Test.YtnhpkefjmpgneaaDoorApart2
namespace Go.Proofs.YtnhpkefjmpgneaaDoor
open Go.RowKit

theorem reads_two (W : World) (a b : Tx) : ReadsN (W.alloc (.cells #[.int .i64 a.kind, .string a.from_, .string a.to, .string a.key, .string a.val, .int .i64 a.amount, .int .i64 a.nonce, .int .i64 b.kind, .string b.from_, .string b.to, .string b.key, .string b.val, .int .i64 b.amount, .int .i64 b.nonce] TX)) (some ⟨W.heap.size, 0, none⟩) 7 ([a, b].map txList) := by
  refine ⟨by simp, fun _ => ⟨_, rfl, fun k cs hk j u hj => ?_⟩⟩
  have hn := heap_new W (.cells #[.int .i64 a.kind, .string a.from_, .string a.to, .string a.key, .string a.val, .int .i64 a.amount, .int .i64 a.nonce, .int .i64 b.kind, .string b.from_, .string b.to, .string b.key, .string b.val, .int .i64 b.amount, .int .i64 b.nonce] TX)
  have e1 : (⟨W.heap.size, 0, none⟩ : Addr).add (k * 7 + j) = ⟨W.heap.size, k * 7 + j, none⟩ := by unfold Addr.add; split <;> simp_all
  rw [e1, cell_at hn]
  match k, hk with
  | 0, hk =>
    simp only [List.map_cons, List.getElem?_cons_zero, Option.some.injEq] at hk
    subst hk
    match j, hj with
    | 0, hj => simpa [txList] using hj
    | 1, hj => simpa [txList] using hj
    | 2, hj => simpa [txList] using hj
    | 3, hj => simpa [txList] using hj
    | 4, hj => simpa [txList] using hj
    | 5, hj => simpa [txList] using hj
    | 6, hj => simpa [txList] using hj
    | j + 7, hj => simp [txList] at hj
  | 1, hk =>
    simp only [List.map_cons, List.map_nil, List.getElem?_cons_succ, List.getElem?_cons_zero, Option.some.injEq] at hk
    subst hk
    match j, hj with
    | 0, hj => simpa [txList] using hj
    | 1, hj => simpa [txList] using hj
    | 2, hj => simpa [txList] using hj
    | 3, hj => simpa [txList] using hj
    | 4, hj => simpa [txList] using hj
    | 5, hj => simpa [txList] using hj
    | 6, hj => simpa [txList] using hj
    | j + 7, hj => simp [txList] at hj
  | k + 2, hk => simp at hk
/-- What StateApart's walk asks, hidden. -/
structure ApIn (w : World) (l : List (ByteArray × Int)) (A0 : Option Addr) (bs : List Tx) (B0 : Option Addr) : Prop where
  ra : ReadsN w A0 2 (l.map acct)
  rb : ReadsN w B0 7 (bs.map txList)
  ints : ∀ x ∈ l, I64 x.2
  tabs : Tabs w
set_option maxHeartbeats 2000000 in
set_option maxRecDepth 100000 in
theorem apart_great (l : List (ByteArray × Int)) (A0 : Option Addr) (c0 : Nat) (bs : List Tx) (B0 : Option Addr) (c1 : Nat) (ak aa an : Int) (af at2 akey av : ByteArray) (bk ba2 bn : Int) (bf bt bkey bv2 : ByteArray) (w : World) (hin : ApIn w l A0 bs B0)
    (hg : (greatA l || (greatL bs || greatL [⟨ak, af, at2, akey, av, aa, an⟩, ⟨bk, bf, bt, bkey, bv2, ba2, bn⟩])) = true) :
    Calls Tryd.prog 3 #[.slice A0 l.length c0, .slice B0 bs.length c1, .agg #[.int .i64 ak, .string af, .string at2, .string akey, .string av, .int .i64 aa, .int .i64 an], .agg #[.int .i64 bk, .string bf, .string bt, .string bkey, .string bv2, .int .i64 ba2, .int .i64 bn]] w (Ret w (.bool true)) := by
  have HT := Lib.hid hin.tabs
  have HRA := Lib.hid hin.ra
  have HRB := Lib.hid hin.rb
  have hB0 : Below w.heap.size w ((w.alloc (.cells #[.int .i64 ak, .string af, .string at2, .string akey, .string av, .int .i64 aa, .int .i64 an] TX (0, 0))).alloc (.cells #[.int .i64 bk, .string bf, .string bt, .string bkey, .string bv2, .int .i64 ba2, .int .i64 bn] TX (0, 0))) := ((Below.refl _ _).alloc (Nat.le_refl _) _).alloc (by simp) _
  have HX0 : Hid (((w.alloc (.cells #[.int .i64 ak, .string af, .string at2, .string akey, .string av, .int .i64 aa, .int .i64 an] TX (0, 0))).alloc (.cells #[.int .i64 bk, .string bf, .string bt, .string bkey, .string bv2, .int .i64 ba2, .int .i64 bn] TX (0, 0))).heap[w.heap.size]? = some (.cells (tcells ⟨ak, af, at2, akey, av, aa, an⟩) TX (0, 0))) := (Below.heap_alloc _ _ _ (by simp)).trans (heap_new w _)
  have HY0 : Hid (((w.alloc (.cells #[.int .i64 ak, .string af, .string at2, .string akey, .string av, .int .i64 aa, .int .i64 an] TX (0, 0))).alloc (.cells #[.int .i64 bk, .string bf, .string bt, .string bkey, .string bv2, .int .i64 ba2, .int .i64 bn] TX (0, 0))).heap[w.heap.size + 1]? = some (.cells (tcells ⟨bk, bf, bt, bkey, bv2, ba2, bn⟩) TX (0, 0))) := by
    have := heap_new (w.alloc (.cells #[.int .i64 ak, .string af, .string at2, .string akey, .string av, .int .i64 aa, .int .i64 an] TX (0, 0))) (.cells #[.int .i64 bk, .string bf, .string bt, .string bkey, .string bv2, .int .i64 ba2, .int .i64 bn] TX (0, 0))
    rw [World.size_alloc] at this
    exact this
  have HB0 := Lib.hid hB0
  clear hin hB0
  have hGC : ∀ W : World, Calls Tryd.prog 11 #[.slice (some ⟨W.heap.size, 0, none⟩) 2 2] (W.alloc (.cells #[.int .i64 ak, .string af, .string at2, .string akey, .string av, .int .i64 aa, .int .i64 an, .int .i64 bk, .string bf, .string bt, .string bkey, .string bv2, .int .i64 ba2, .int .i64 bn] TX)) (Ret (W.alloc (.cells #[.int .i64 ak, .string af, .string at2, .string akey, .string av, .int .i64 aa, .int .i64 an, .int .i64 bk, .string bf, .string bt, .string bkey, .string bv2, .int .i64 ba2, .int .i64 bn] TX)) (.bool (greatL [⟨ak, af, at2, akey, av, aa, an⟩, ⟨bk, bf, bt, bkey, bv2, ba2, bn⟩]))) := fun W => greatL_any [⟨ak, af, at2, akey, av, aa, an⟩, ⟨bk, bf, bt, bkey, bv2, ba2, bn⟩] _ 2 _ (reads_two W _ _)
  cases gA : greatA l
  · cases gB : greatL bs
    · have gC : greatL [⟨ak, af, at2, akey, av, aa, an⟩, ⟨bk, bf, bt, bkey, bv2, ba2, bn⟩] = true := by rw [gA, gB] at hg; exact hg
      clear hg
      go_enter Tryd.func3, Tryd.ntmps3
      go_wp2_with (first | (go_at_call 9; ((with_reducible refine (alive_any _ (tabs_keep HT.out HB0.out)).mono ?_)); rintro e w1 ⟨rfl, hb⟩; have HB1 := Lib.hid (below_call HB0.out HB0.out.size hb); have HX1 := Lib.hid ((hb.block _ (size_lt_of HX0.out)).trans HX0.out); have HY1 := Lib.hid ((hb.block _ (size_lt_of HY0.out)).trans HY0.out); clear hb) | (go_at_call 11; ((with_reducible refine (hGC w3).mono ?_)); rintro e w4 ⟨rfl, hb⟩; rw [gC]; have HB4 := Lib.hid (below_call (HB3.out.alloc HB3.out.size _) (by simp; exact Nat.le_succ_of_le HB3.out.size) hb); have HX4 := Lib.hid ((hb.block _ (by have := size_lt_of HX3.out; simp; omega)).trans ((Below.heap_alloc _ _ _ (size_lt_of HX3.out)).trans HX3.out)); have HY4 := Lib.hid ((hb.block _ (by have := size_lt_of HY3.out; simp; omega)).trans ((Below.heap_alloc _ _ _ (size_lt_of HY3.out)).trans HY3.out)); clear hb) | (go_at_call 11; ((with_reducible refine (greatL_any bs B0 c1 _ (readsN_below HRB.out HB2.out)).mono ?_)); rintro e w3 ⟨rfl, hb⟩; rw [gB]; have HB3 := Lib.hid (below_call HB2.out HB2.out.size hb); have HX3 := Lib.hid ((hb.block _ (size_lt_of HX2.out)).trans HX2.out); have HY3 := Lib.hid ((hb.block _ (size_lt_of HY2.out)).trans HY2.out); clear hb; obtain ⟨x0, x1, x2, x3, x4, x5, x6⟩ := seven HX3.out; obtain ⟨y0, y1, y2, y3, y4, y5, y6⟩ := seven HY3.out) | (go_at_call 10; ((with_reducible refine (greatA_any l A0 c0 _ (readsN_below HRA.out HB1.out)).mono ?_)); rintro e w2 ⟨rfl, hb⟩; rw [gA]; have HB2 := Lib.hid (below_call HB1.out HB1.out.size hb); have HX2 := Lib.hid ((hb.block _ (size_lt_of HX1.out)).trans HX1.out); have HY2 := Lib.hid ((hb.block _ (size_lt_of HY1.out)).trans HY1.out); clear hb))
      go_ret
      exact ret_bool rfl HB4.out
    · clear hg
      go_enter Tryd.func3, Tryd.ntmps3
      go_wp2_with (first | (go_at_call 9; ((with_reducible refine (alive_any _ (tabs_keep HT.out HB0.out)).mono ?_)); rintro e w1 ⟨rfl, hb⟩; have HB1 := Lib.hid (below_call HB0.out HB0.out.size hb); have HX1 := Lib.hid ((hb.block _ (size_lt_of HX0.out)).trans HX0.out); have HY1 := Lib.hid ((hb.block _ (size_lt_of HY0.out)).trans HY0.out); clear hb) | (go_at_call 11; ((with_reducible refine (hGC w3).mono ?_)); rintro e w4 ⟨rfl, hb⟩; rw [gC]; have HB4 := Lib.hid (below_call (HB3.out.alloc HB3.out.size _) (by simp; exact Nat.le_succ_of_le HB3.out.size) hb); have HX4 := Lib.hid ((hb.block _ (by have := size_lt_of HX3.out; simp; omega)).trans ((Below.heap_alloc _ _ _ (size_lt_of HX3.out)).trans HX3.out)); have HY4 := Lib.hid ((hb.block _ (by have := size_lt_of HY3.out; simp; omega)).trans ((Below.heap_alloc _ _ _ (size_lt_of HY3.out)).trans HY3.out)); clear hb) | (go_at_call 11; ((with_reducible refine (greatL_any bs B0 c1 _ (readsN_below HRB.out HB2.out)).mono ?_)); rintro e w3 ⟨rfl, hb⟩; rw [gB]; have HB3 := Lib.hid (below_call HB2.out HB2.out.size hb); have HX3 := Lib.hid ((hb.block _ (size_lt_of HX2.out)).trans HX2.out); have HY3 := Lib.hid ((hb.block _ (size_lt_of HY2.out)).trans HY2.out); clear hb; obtain ⟨x0, x1, x2, x3, x4, x5, x6⟩ := seven HX3.out; obtain ⟨y0, y1, y2, y3, y4, y5, y6⟩ := seven HY3.out) | (go_at_call 10; ((with_reducible refine (greatA_any l A0 c0 _ (readsN_below HRA.out HB1.out)).mono ?_)); rintro e w2 ⟨rfl, hb⟩; rw [gA]; have HB2 := Lib.hid (below_call HB1.out HB1.out.size hb); have HX2 := Lib.hid ((hb.block _ (size_lt_of HX1.out)).trans HX1.out); have HY2 := Lib.hid ((hb.block _ (size_lt_of HY1.out)).trans HY1.out); clear hb))
      go_ret
      exact ret_bool rfl HB3.out
  · clear hg
    go_enter Tryd.func3, Tryd.ntmps3
    go_wp2_with (first | (go_at_call 9; ((with_reducible refine (alive_any _ (tabs_keep HT.out HB0.out)).mono ?_)); rintro e w1 ⟨rfl, hb⟩; have HB1 := Lib.hid (below_call HB0.out HB0.out.size hb); have HX1 := Lib.hid ((hb.block _ (size_lt_of HX0.out)).trans HX0.out); have HY1 := Lib.hid ((hb.block _ (size_lt_of HY0.out)).trans HY0.out); clear hb) | (go_at_call 11; ((with_reducible refine (hGC w3).mono ?_)); rintro e w4 ⟨rfl, hb⟩; rw [gC]; have HB4 := Lib.hid (below_call (HB3.out.alloc HB3.out.size _) (by simp; exact Nat.le_succ_of_le HB3.out.size) hb); have HX4 := Lib.hid ((hb.block _ (by have := size_lt_of HX3.out; simp; omega)).trans ((Below.heap_alloc _ _ _ (size_lt_of HX3.out)).trans HX3.out)); have HY4 := Lib.hid ((hb.block _ (by have := size_lt_of HY3.out; simp; omega)).trans ((Below.heap_alloc _ _ _ (size_lt_of HY3.out)).trans HY3.out)); clear hb) | (go_at_call 11; ((with_reducible refine (greatL_any bs B0 c1 _ (readsN_below HRB.out HB2.out)).mono ?_)); rintro e w3 ⟨rfl, hb⟩; rw [gB]; have HB3 := Lib.hid (below_call HB2.out HB2.out.size hb); have HX3 := Lib.hid ((hb.block _ (size_lt_of HX2.out)).trans HX2.out); have HY3 := Lib.hid ((hb.block _ (size_lt_of HY2.out)).trans HY2.out); clear hb; obtain ⟨x0, x1, x2, x3, x4, x5, x6⟩ := seven HX3.out; obtain ⟨y0, y1, y2, y3, y4, y5, y6⟩ := seven HY3.out) | (go_at_call 10; ((with_reducible refine (greatA_any l A0 c0 _ (readsN_below HRA.out HB1.out)).mono ?_)); rintro e w2 ⟨rfl, hb⟩; rw [gA]; have HB2 := Lib.hid (below_call HB1.out HB1.out.size hb); have HX2 := Lib.hid ((hb.block _ (size_lt_of HX1.out)).trans HX1.out); have HY2 := Lib.hid ((hb.block _ (size_lt_of HY1.out)).trans HY1.out); clear hb))
    go_ret
    exact ret_bool rfl HB2.out
end Go.Proofs.YtnhpkefjmpgneaaDoor
