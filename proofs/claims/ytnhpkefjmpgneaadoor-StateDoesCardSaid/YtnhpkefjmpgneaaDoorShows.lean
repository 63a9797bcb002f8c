import Derived.Test.YtnhpkefjmpgneaaDoorRef09h
import Derived.Test.YtnhpkefjmpgneaaDoorApart2
import Derived.Deep.RegionHeld3
namespace Go.Proofs.YtnhpkefjmpgneaaDoor
open Go.RowKit

/-! ### the law's Shows: a state and the document's -/
/-- They hold the same. -/
structure Alike (N : Nat) (A : Accs) (V : Vals) (mA : Accs) (mV : Vals) : Prop where
  fit : Fit N A V
  fitM : Fit N mA mV
  acc : ∀ x, aget A x = aget mA x
  val : ∀ x, aget V x = aget mV x
  pos : ∀ x ∈ mA, 0 ≤ x.2.1 ∧ 0 ≤ x.2.2
theorem mem_iff_aget {K V : Type} [DecidableEq K] {l : List (K × V)} (hn : (l.map (·.1)).Nodup) (x : K × V) : x ∈ l ↔ aget l x.1 = some x.2 :=
  ⟨aget_of_mem hn, fun h => aget_mem h⟩
theorem nodup_of_keys {K V : Type} {l : List (K × V)} (hn : (l.map (·.1)).Nodup) : l.Nodup := by
  have := List.pairwise_map.1 hn
  exact this.imp fun h e => h (by rw [e])
theorem perm_of_aget {l m : Accs} (hl : (l.map (·.1)).Nodup) (hm : (m.map (·.1)).Nodup) (h : ∀ x, aget l x = aget m x) : l.Perm m :=
  (List.perm_ext_iff_of_nodup (nodup_of_keys hl) (nodup_of_keys hm)).2 fun x => by rw [mem_iff_aget hl, mem_iff_aget hm, h]
theorem Alike.dig {N : Nat} {A mA : Accs} {V mV : Vals} (h : Alike N A V mA mV) : digB mA mV = digB A V :=
  (dig_same h.fit.nodA h.fitM.nodA h.fit.nodV h.fitM.nodV h.acc h.val).symm
theorem Alike.sum {N : Nat} {A mA : Accs} {V mV : Vals} (h : Alike N A V mA mV) : sumA mA = sumA A :=
  (sumA_perm (perm_of_aget h.fit.nodA h.fitM.nodA h.acc)).symm
theorem Alike.accOf {N : Nat} {A mA : Accs} {V mV : Vals} (h : Alike N A V mA mV) (x : ByteArray) : accOf mA x = accOf A x := by unfold Proofs.YtnhpkefjmpgneaaDoor.accOf; rw [h.acc]
theorem Alike.valOf {N : Nat} {A mA : Accs} {V mV : Vals} (h : Alike N A V mA mV) (x : ByteArray × ByteArray) : valOf mV x = valOf V x := by unfold Proofs.YtnhpkefjmpgneaaDoor.valOf; rw [h.val]
theorem tx_cells {w : World} {A0 : Option Addr} {l : List Tx} (h : ReadsN w A0 7 (l.map txList)) {k : Nat} (hk : k < l.length) : ∃ ad, A0 = some ad ∧ w.cell? (ad.add (k * 7)) = some (.int .i64 l[k].kind) ∧
    w.cell? ⟨(ad.add (k * 7)).block, (ad.add (k * 7)).off + 1, none⟩ = some (.string l[k].from_) ∧ w.cell? ⟨(ad.add (k * 7)).block, (ad.add (k * 7)).off + 2, none⟩ = some (.string l[k].to) ∧ w.cell? ⟨(ad.add (k * 7)).block, (ad.add (k * 7)).off + 3, none⟩ = some (.string l[k].key) ∧
    w.cell? ⟨(ad.add (k * 7)).block, (ad.add (k * 7)).off + 4, none⟩ = some (.string l[k].val) ∧ w.cell? ⟨(ad.add (k * 7)).block, (ad.add (k * 7)).off + 5, none⟩ = some (.int .i64 l[k].amount) ∧ w.cell? ⟨(ad.add (k * 7)).block, (ad.add (k * 7)).off + 6, none⟩ = some (.int .i64 l[k].nonce) := by
  obtain ⟨ad, e, h0, hc⟩ := readsN_at h (k := k) (c := .int .i64 l[k].kind) (cs := [.string l[k].from_, .string l[k].to, .string l[k].key, .string l[k].val, .int .i64 l[k].amount, .int .i64 l[k].nonce]) (by rw [List.getElem?_map, List.getElem?_eq_getElem hk]; rfl)
  exact ⟨ad, e, h0, hc 0 _ rfl, hc 1 _ rfl, hc 2 _ rfl, hc 3 _ rfl, hc 4 _ rfl, hc 5 _ rfl⟩
theorem key_call {w w1 : World} {a : Addr} {v : Value} (h : w.cell? a = some v) (hb : Below w.heap.size w w1) : w1.cell? a = some v := (hb.cell (World.block_lt_of_cell? w _ h)).trans h
set_option maxHeartbeats 4000000 in
set_option maxRecDepth 100000 in
theorem shows_any (N : Nat) (hN : N ≤ 1000) (p ba bv : Nat) (A : Accs) (V : Vals) (mA : Accs) (mV : Vals) (hal : Alike N A V mA mV) (A0 : Option Addr) (c : Nat) (B0 : Option Addr) (d : Nat) (l : List Tx) (C0 : Option Addr) (cc : Nat) (hl60 : l.length ≤ 60) (w : World)
    (hS : IsState w p ba bv A V) (hA : ReadsN w A0 3 (mA.map rowA)) (hV : ReadsN w B0 3 (mV.map rowV)) (hL : ReadsN w C0 7 (l.map txList)) :
    Calls Tryd.prog 25 #[.pointer (some ⟨p, 0, none⟩), .agg #[.slice A0 mA.length c, .slice B0 mV.length d], .slice C0 l.length cc] w (Ret w (.bool true)) := by
  have hint : ∀ x ∈ A, I64 x.2.1 ∧ I64 x.2.2 := fun x hx => (hal.fit.keyA x hx).2
  have K1 : Hid (∀ W, Below w.heap.size w W → Calls Tryd.prog 15 #[.pointer (some ⟨p, 0, none⟩)] W (Ret W (.string (digB A V)))) := fun W hb => digest_any p ba bv A V W (hS.below hb) (hal.fit.small (by omega))
  have K2 : Hid (∀ W, Below w.heap.size w W → Calls Tryd.prog 55 #[.agg #[.slice A0 mA.length c, .slice B0 mV.length d]] W (Ret W (.string (digB A V)))) := fun W hb => by
    rw [← hal.dig]; exact refDigest_any mA A0 c mV B0 d N hN hal.fitM hal.pos W (readsN_below hA hb) (readsN_below hV hb)
  have K3 : Hid (∀ W, Below w.heap.size w W → Calls Tryd.prog 16 #[.pointer (some ⟨p, 0, none⟩)] W (Ret W (.int .i64 (wrap64 (sumA A))))) := fun W hb => total_any p ba bv A V W (hS.below hb) hint
  have K4 : Hid (∀ W, Below w.heap.size w W → Calls Tryd.prog 56 #[.agg #[.slice A0 mA.length c, .slice B0 mV.length d]] W (Ret W (.int .i64 (wrap64 (sumA A))))) := fun W hb => by
    rw [← hal.sum]; exact refTotal_any mA A0 c _ W (readsN_below hA hb)
  have K5 : Hid (∀ W s, Below w.heap.size w W → Calls Tryd.prog 18 #[.pointer (some ⟨p, 0, none⟩), .string s] W (Ret W (.int .i64 (accOf A s).1))) := fun W s hb => amount_any p ba bv A V s W (hS.below hb)
  have K6 : Hid (∀ W s, Below w.heap.size w W → Calls Tryd.prog 17 #[.pointer (some ⟨p, 0, none⟩), .string s] W (Ret W (.int .i64 (accOf A s).2))) := fun W s hb => nonce_any p ba bv A V s W (hS.below hb)
  have K7 : Hid (∀ W s k, Below w.heap.size w W → Calls Tryd.prog 26 #[.pointer (some ⟨p, 0, none⟩), .string s, .string k] W (Ret W (.string (valOf V (s, k))))) := fun W s k hb => valueOf_any p ba bv A V s k W (hS.below hb)
  have K8 : Hid (∀ W s, Below w.heap.size w W → Calls Tryd.prog 54 #[.agg #[.slice A0 mA.length c, .slice B0 mV.length d], .string s] W (Ret W (.agg #[.string s, .int .i64 (accOf A s).1, .int .i64 (accOf A s).2]))) := fun W s hb => by
    rw [← hal.accOf]; exact refOf_any mA A0 c _ s W (readsN_below hA hb)
  have K9 : Hid (∀ W s k, Below w.heap.size w W → Calls Tryd.prog 57 #[.agg #[.slice A0 mA.length c, .slice B0 mV.length d], .string s, .string k] W (Ret W (.string (valOf V (s, k))))) := fun W s k hb => by
    rw [← hal.valOf]; exact refGet_any mV B0 d _ s k W (readsN_below hV hb)
  have HL := Lib.hid hL
  clear hS hA hV hL hal hint
  generalize digB A V = dig at K1 K2
  generalize wrap64 (sumA A) = tot at K3 K4
  have hx0 := Lib.hid (heap_new w (.cells #[.slice A0 mA.length c, .slice B0 mV.length d] 50))
  have hb0 := Lib.hid ((Below.refl w.heap.size w).alloc (Nat.le_refl _) (.cells #[.slice A0 mA.length c, .slice B0 mV.length d] 50))
  go_enter Tryd.func25, Tryd.ntmps25
  obtain ⟨W0, hW0⟩ : ∃ W0, W0 = w.alloc (.cells #[.slice A0 mA.length c, .slice B0 mV.length d] 50 (0, 0)) := ⟨_, rfl⟩
  have c0 : W0.cell? ⟨w.heap.size, 0, none⟩ = some (.slice A0 mA.length c) := by rw [hW0]; exact cell_at hx0.out 0
  have c1 : W0.cell? ⟨w.heap.size, 1, none⟩ = some (.slice B0 mV.length d) := by rw [hW0]; exact cell_at hx0.out 1
  have HB0 : Hid (Below w.heap.size w W0) := by rw [Hid, hW0]; exact hb0.out
  have HX0 : Hid (W0.heap[w.heap.size]? = some (.cells #[.slice A0 mA.length c, .slice B0 mV.length d] 50 (0, 0))) := by rw [Hid, hW0]; exact hx0.out
  go_wp2_with fail
  rw [← hW0]
  clear hW0 hx0 hb0
  go_region_held3 (fun W => W.cell? ⟨w.heap.size, 0, none⟩ = some (.slice A0 mA.length c) ∧ W.cell? ⟨w.heap.size, 1, none⟩ = some (.slice B0 mV.length d)) (first | (go_keep; done) | exact ⟨j0, j1⟩ | exact ⟨i0, i1⟩ | exact ⟨h0, h1⟩ | exact ⟨g0, g1⟩) ((first | (go_at_call 15; ((with_reducible refine (K1.out _ HB0.out.drew).mono ?_)); rintro e x1 ⟨rfl, hb⟩; have HB1 := Lib.hid (below_call HB0.out.drew HB0.out.drew.size hb); have HX1 := Lib.hid (iter_call (w := W0.drew) HX0.out hb); have g0 : x1.cell? ⟨w.heap.size, 0, none⟩ = some (.slice A0 mA.length c) := cell_at HX1.out 0; have g1 : x1.cell? ⟨w.heap.size, 1, none⟩ = some (.slice B0 mV.length d) := cell_at HX1.out 1; clear hb) | (go_at_call 55; ((with_reducible refine (K2.out _ HB1.out).mono ?_)); rintro e x2 ⟨rfl, hb⟩; have HB2 := Lib.hid (below_call HB1.out HB1.out.size hb); have HX2 := Lib.hid (iter_call HX1.out hb); have h0 : x2.cell? ⟨w.heap.size, 0, none⟩ = some (.slice A0 mA.length c) := cell_at HX2.out 0; have h1 : x2.cell? ⟨w.heap.size, 1, none⟩ = some (.slice B0 mV.length d) := cell_at HX2.out 1; clear hb) | (go_at_call 16; ((with_reducible refine (K3.out _ HB2.out).mono ?_)); rintro e x3 ⟨rfl, hb⟩; have HB3 := Lib.hid (below_call HB2.out HB2.out.size hb); have HX3 := Lib.hid (iter_call HX2.out hb); have i0 : x3.cell? ⟨w.heap.size, 0, none⟩ = some (.slice A0 mA.length c) := cell_at HX3.out 0; have i1 : x3.cell? ⟨w.heap.size, 1, none⟩ = some (.slice B0 mV.length d) := cell_at HX3.out 1; clear hb) | (go_at_call 56; ((with_reducible refine (K4.out _ HB3.out).mono ?_)); rintro e x4 ⟨rfl, hb⟩; have HB4 := Lib.hid (below_call HB3.out HB3.out.size hb); have HX4 := Lib.hid (iter_call HX3.out hb); have j0 : x4.cell? ⟨w.heap.size, 0, none⟩ = some (.slice A0 mA.length c) := cell_at HX4.out 0; have j1 : x4.cell? ⟨w.heap.size, 1, none⟩ = some (.slice B0 mV.length d) := cell_at HX4.out 1; clear hb)))
  clear c0 c1 g0 g1 h0 h1 i0 i1 K1 K2 K3 K4 HB0 HX0 HB1 HX1 HB2 HX2 HB3 HX3
  go_wp2_with fail
  go_loopw [7] (fun iv wr => ∃ i : Nat, iv = .int .i64 i ∧ i ≤ l.length ∧ Hid (Below w.heap.size w wr) ∧ Hid (wr.heap[w.heap.size]? = some (.cells #[.slice A0 mA.length c, .slice B0 mV.length d] 50 (0, 0)))) (fun iv _ => l.length - (intOf iv).toNat)
  case atStart => exact ⟨0, rfl, by omega, HB4, HX4⟩
  case round =>
    obtain ⟨i, rfl, hi, HB, HX⟩ := hrel
    clear HB4 HX4 j0 j1
    by_cases hlt : i < l.length
    · obtain ⟨ad, rfl, -, t1, t2, t3, -⟩ := tx_cells (readsN_below HL.out HB.out) hlt
      obtain ⟨fr, hfr⟩ : ∃ x, l[i].from_ = x := ⟨_, rfl⟩
      obtain ⟨to, hto⟩ : ∃ x, l[i].to = x := ⟨_, rfl⟩
      obtain ⟨ke, hke⟩ : ∃ x, l[i].key = x := ⟨_, rfl⟩
      rw [hfr] at t1
      rw [hto] at t2
      rw [hke] at t3
      clear hfr hto hke
      have y1 : (0 : Int) ≤ (i : Int) := by omega
      have y2 : (i : Int) < (l.length : Int) := by omega
      have T3 := Lib.hid t3
      go_wp2_with fail
      go_region_held3 (fun W => W.cell? ⟨(ad.add (i * 7)).block, (ad.add (i * 7)).off + 1, none⟩ = some (.string fr) ∧ W.cell? ⟨(ad.add (i * 7)).block, (ad.add (i * 7)).off + 2, none⟩ = some (.string to)) (go_keep) (fail)
      go_wp2_with fail
      have hyb : wr.heap.size < (wr.alloc (.cells #[.string fr, .string to] 9)).heap.size := by simp
      have HB5 := Lib.hid ((HB.out.alloc HB.out.size (.cells #[.string fr, .string to] 9)).drew)
      have HX5 : Hid ((wr.alloc (.cells #[.string fr, .string to] 9)).drew.heap[w.heap.size]? = some (.cells #[.slice A0 mA.length c, .slice B0 mV.length d] 50 (0, 0))) := iter_alloc HX.out _
      have HP5 : Hid ((wr.alloc (.cells #[.string fr, .string to] 9)).drew.heap[wr.heap.size]? = some (.cells #[.string fr, .string to] 9 (0, 0))) := heap_new wr _
      have HT5 : Hid ((wr.alloc (.cells #[.string fr, .string to] 9)).drew.cell? ⟨(ad.add (i * 7)).block, (ad.add (i * 7)).off + 3, none⟩ = some (.string ke)) := (((Below.refl wr.heap.size wr).alloc (Nat.le_refl _) (.cells #[.string fr, .string to] 9)).drew.cell (World.block_lt_of_cell? wr _ t3)).trans t3
      clear t1 t2 t3 T3 hyb
      generalize wr.heap.size = yl at HP5 ⊢
      generalize (wr.alloc (.cells #[.string fr, .string to] 9)).drew = W5 at HB5 HX5 HP5 HT5 ⊢
      go_loopw [41] (fun jv wr => ∃ j : Nat, jv = .int .i64 j ∧ j ≤ 2 ∧ Hid (Below w.heap.size w wr) ∧ Hid (wr.heap[w.heap.size]? = some (.cells #[.slice A0 mA.length c, .slice B0 mV.length d] 50 (0, 0))) ∧ Hid (wr.heap[yl]? = some (.cells #[.string fr, .string to] 9 (0, 0))) ∧ Hid (wr.cell? ⟨(ad.add (i * 7)).block, (ad.add (i * 7)).off + 3, none⟩ = some (.string ke))) (fun jv _ => 2 - (intOf jv).toNat)
      case atStart => exact ⟨0, rfl, by omega, HB5, HX5, HP5, HT5⟩
      case round =>
        obtain ⟨j, rfl, hj, HB, HX, HP, HQ⟩ := hrel
        clear HB5 HX5 HP5 HT5
        rcases (show j = 0 ∨ j = 1 ∨ j = 2 by omega) with rfl | rfl | rfl
        · obtain ⟨⟨am, no⟩, hac⟩ : ∃ x : Int × Int, accOf A fr = x := ⟨_, rfl⟩
          obtain ⟨vv, hvv⟩ : ∃ x, valOf V (fr, ke) = x := ⟨_, rfl⟩
          have K5w : Hid (∀ W, Below w.heap.size w W → Calls Tryd.prog 18 #[.pointer (some ⟨p, 0, none⟩), .string fr] W (Ret W (.int .i64 am))) := fun W hb => by have := K5.out W fr hb; rw [hac] at this; exact this
          have K6w : Hid (∀ W, Below w.heap.size w W → Calls Tryd.prog 17 #[.pointer (some ⟨p, 0, none⟩), .string fr] W (Ret W (.int .i64 no))) := fun W hb => by have := K6.out W fr hb; rw [hac] at this; exact this
          have K7w : Hid (∀ W, Below w.heap.size w W → Calls Tryd.prog 26 #[.pointer (some ⟨p, 0, none⟩), .string fr, .string ke] W (Ret W (.string vv))) := fun W hb => by have := K7.out W fr ke hb; rw [hvv] at this; exact this
          have K8w : Hid (∀ W, Below w.heap.size w W → Calls Tryd.prog 54 #[.agg #[.slice A0 mA.length c, .slice B0 mV.length d], .string fr] W (Ret W (.agg #[.string fr, .int .i64 am, .int .i64 no]))) := fun W hb => by have := K8.out W fr hb; rw [hac] at this; exact this
          have K9w : Hid (∀ W, Below w.heap.size w W → Calls Tryd.prog 57 #[.agg #[.slice A0 mA.length c, .slice B0 mV.length d], .string fr, .string ke] W (Ret W (.string vv))) := fun W hb => by have := K9.out W fr ke hb; rw [hvv] at this; exact this
          have l0 : wr.cell? ⟨yl, 0, none⟩ = some (.string fr) := cell_at HP.out 0
          have l1 : wr.cell? ⟨yl, 1, none⟩ = some (.string to) := cell_at HP.out 1
          have b0 : wr.cell? ⟨w.heap.size, 0, none⟩ = some (.slice A0 mA.length c) := cell_at HX.out 0
          have b1 : wr.cell? ⟨w.heap.size, 1, none⟩ = some (.slice B0 mV.length d) := cell_at HX.out 1
          clear hac hvv hj
          go_wp2_with (go_at_call 54; ((with_reducible refine (K8w.out _ HB.out).mono ?_)); rintro e x5 ⟨rfl, hb⟩; have HB4 := Lib.hid (below_call HB.out HB.out.size hb); have HX4 := Lib.hid (iter_call HX.out hb); have HP4 := Lib.hid (iter_call HP.out hb); have HQ4 := Lib.hid (key_call HQ.out hb); clear hb)
          have HB5 := Lib.hid (HB4.out.alloc HB4.out.size (.cells #[.string fr, .int .i64 am, .int .i64 no] 127 (0, 0)))
          have HX5 : Hid ((x5.alloc (.cells #[.string fr, .int .i64 am, .int .i64 no] 127 (0, 0))).heap[w.heap.size]? = some (.cells #[.slice A0 mA.length c, .slice B0 mV.length d] 50 (0, 0))) := iter_alloc HX4.out _
          have HP5 : Hid ((x5.alloc (.cells #[.string fr, .int .i64 am, .int .i64 no] 127 (0, 0))).heap[yl]? = some (.cells #[.string fr, .string to] 9 (0, 0))) := iter_alloc HP4.out _
          have HZ5 : Hid ((x5.alloc (.cells #[.string fr, .int .i64 am, .int .i64 no] 127 (0, 0))).heap[x5.heap.size]? = some (.cells #[.string fr, .int .i64 am, .int .i64 no] 127 (0, 0))) := heap_new x5 _
          have HQ5 := Lib.hid (key_call HQ4.out ((Below.refl _ _).alloc (Nat.le_refl _) (.cells #[.string fr, .int .i64 am, .int .i64 no] 127 (0, 0))))
          have a0 := cell_at HX5.out 0
          have a1 := cell_at HX5.out 1
          have a2 := cell_at HZ5.out 1
          have a3 := cell_at HZ5.out 2
          have a4 := HQ5.out
          clear l0 l1 b0 b1
          generalize x5.heap.size = yb at HZ5 a2 a3 ⊢
          generalize x5.alloc (.cells #[.string fr, .int .i64 am, .int .i64 no] 127 (0, 0)) = W5 at HB5 HX5 HP5 HZ5 HQ5 a0 a1 a2 a3 a4 ⊢
          have w0 : W5.cell? ⟨w.heap.size, 0, none⟩ = some (.slice A0 mA.length c) := a0
          have w1 : W5.cell? ⟨w.heap.size, 1, none⟩ = some (.slice B0 mV.length d) := a1
          have w2 : W5.cell? ⟨yb, 1, none⟩ = some (.int .i64 am) := a2
          have w3 : W5.cell? ⟨yb, 2, none⟩ = some (.int .i64 no) := a3
          clear a0 a1 a2 a3
          go_region_held3 (fun W => W.cell? ⟨w.heap.size, 0, none⟩ = some (.slice A0 mA.length c) ∧ W.cell? ⟨w.heap.size, 1, none⟩ = some (.slice B0 mV.length d) ∧ W.cell? ⟨yb, 1, none⟩ = some (.int .i64 am) ∧ W.cell? ⟨yb, 2, none⟩ = some (.int .i64 no) ∧ W.cell? ⟨(ad.add (i * 7)).block, (ad.add (i * 7)).off + 3, none⟩ = some (.string ke)) (first | (go_keep; done) | exact ⟨r0, r1, r2, r3, r4⟩ | exact ⟨q0, q1, q2, q3, q4⟩ | exact ⟨b0, b1, b2, b3, b4⟩ | exact ⟨a0, a1, a2, a3, a4⟩) ((first | (go_at_call 18; ((with_reducible refine (K5w.out _ HB5.out.drew).mono ?_)); rintro e x6 ⟨rfl, hb⟩; have HB6 := Lib.hid (below_call HB5.out.drew HB5.out.drew.size hb); have HX6 := Lib.hid (iter_call (w := W5.drew) HX5.out hb); have HZ6 := Lib.hid (iter_call (w := W5.drew) HZ5.out hb); have HP6 := Lib.hid (iter_call (w := W5.drew) HP5.out hb); have HQ6 := Lib.hid (key_call (w := W5.drew) HQ5.out hb); have a0 : x6.cell? ⟨w.heap.size, 0, none⟩ = some (.slice A0 mA.length c) := cell_at HX6.out 0; have a1 : x6.cell? ⟨w.heap.size, 1, none⟩ = some (.slice B0 mV.length d) := cell_at HX6.out 1; have a2 : x6.cell? ⟨yb, 1, none⟩ = some (.int .i64 am) := cell_at HZ6.out 1; have a3 : x6.cell? ⟨yb, 2, none⟩ = some (.int .i64 no) := cell_at HZ6.out 2; have a4 := HQ6.out; clear hb) | (go_at_call 17; ((with_reducible refine (K6w.out _ HB6.out).mono ?_)); rintro e x7 ⟨rfl, hb⟩; have HB7 := Lib.hid (below_call HB6.out HB6.out.size hb); have HX7 := Lib.hid (iter_call HX6.out hb); have HZ7 := Lib.hid (iter_call HZ6.out hb); have HP7 := Lib.hid (iter_call HP6.out hb); have HQ7 := Lib.hid (key_call HQ6.out hb); have b0 : x7.cell? ⟨w.heap.size, 0, none⟩ = some (.slice A0 mA.length c) := cell_at HX7.out 0; have b1 : x7.cell? ⟨w.heap.size, 1, none⟩ = some (.slice B0 mV.length d) := cell_at HX7.out 1; have b2 : x7.cell? ⟨yb, 1, none⟩ = some (.int .i64 am) := cell_at HZ7.out 1; have b3 : x7.cell? ⟨yb, 2, none⟩ = some (.int .i64 no) := cell_at HZ7.out 2; have b4 := HQ7.out; clear hb) | (go_at_call 26; ((with_reducible refine (K7w.out _ HB7.out).mono ?_)); rintro e x8 ⟨rfl, hb⟩; have HB8 := Lib.hid (below_call HB7.out HB7.out.size hb); have HX8 := Lib.hid (iter_call HX7.out hb); have HZ8 := Lib.hid (iter_call HZ7.out hb); have HP8 := Lib.hid (iter_call HP7.out hb); have HQ8 := Lib.hid (key_call HQ7.out hb); have q0 : x8.cell? ⟨w.heap.size, 0, none⟩ = some (.slice A0 mA.length c) := cell_at HX8.out 0; have q1 : x8.cell? ⟨w.heap.size, 1, none⟩ = some (.slice B0 mV.length d) := cell_at HX8.out 1; have q2 : x8.cell? ⟨yb, 1, none⟩ = some (.int .i64 am) := cell_at HZ8.out 1; have q3 : x8.cell? ⟨yb, 2, none⟩ = some (.int .i64 no) := cell_at HZ8.out 2; have q4 := HQ8.out; clear hb) | (go_at_call 57; ((with_reducible refine (K9w.out _ HB8.out).mono ?_)); rintro e x9 ⟨rfl, hb⟩; have HB9 := Lib.hid (below_call HB8.out HB8.out.size hb); have HX9 := Lib.hid (iter_call HX8.out hb); have HZ9 := Lib.hid (iter_call HZ8.out hb); have HP9 := Lib.hid (iter_call HP8.out hb); have HQ9 := Lib.hid (key_call HQ8.out hb); have r0 : x9.cell? ⟨w.heap.size, 0, none⟩ = some (.slice A0 mA.length c) := cell_at HX9.out 0; have r1 : x9.cell? ⟨w.heap.size, 1, none⟩ = some (.slice B0 mV.length d) := cell_at HX9.out 1; have r2 : x9.cell? ⟨yb, 1, none⟩ = some (.int .i64 am) := cell_at HZ9.out 1; have r3 : x9.cell? ⟨yb, 2, none⟩ = some (.int .i64 no) := cell_at HZ9.out 2; have r4 := HQ9.out; clear hb)))
          clear w0 w1 w2 w3 a4
          go_wp2
          go_roundw
          case rel => exact ⟨1, rfl, by omega, HB9, HX9, HP9, HQ9⟩
          case measure => simp [intOf]
        · obtain ⟨⟨am, no⟩, hac⟩ : ∃ x : Int × Int, accOf A to = x := ⟨_, rfl⟩
          obtain ⟨vv, hvv⟩ : ∃ x, valOf V (to, ke) = x := ⟨_, rfl⟩
          have K5w : Hid (∀ W, Below w.heap.size w W → Calls Tryd.prog 18 #[.pointer (some ⟨p, 0, none⟩), .string to] W (Ret W (.int .i64 am))) := fun W hb => by have := K5.out W to hb; rw [hac] at this; exact this
          have K6w : Hid (∀ W, Below w.heap.size w W → Calls Tryd.prog 17 #[.pointer (some ⟨p, 0, none⟩), .string to] W (Ret W (.int .i64 no))) := fun W hb => by have := K6.out W to hb; rw [hac] at this; exact this
          have K7w : Hid (∀ W, Below w.heap.size w W → Calls Tryd.prog 26 #[.pointer (some ⟨p, 0, none⟩), .string to, .string ke] W (Ret W (.string vv))) := fun W hb => by have := K7.out W to ke hb; rw [hvv] at this; exact this
          have K8w : Hid (∀ W, Below w.heap.size w W → Calls Tryd.prog 54 #[.agg #[.slice A0 mA.length c, .slice B0 mV.length d], .string to] W (Ret W (.agg #[.string to, .int .i64 am, .int .i64 no]))) := fun W hb => by have := K8.out W to hb; rw [hac] at this; exact this
          have K9w : Hid (∀ W, Below w.heap.size w W → Calls Tryd.prog 57 #[.agg #[.slice A0 mA.length c, .slice B0 mV.length d], .string to, .string ke] W (Ret W (.string vv))) := fun W hb => by have := K9.out W to ke hb; rw [hvv] at this; exact this
          have l0 : wr.cell? ⟨yl, 0, none⟩ = some (.string fr) := cell_at HP.out 0
          have l1 : wr.cell? ⟨yl, 1, none⟩ = some (.string to) := cell_at HP.out 1
          have b0 : wr.cell? ⟨w.heap.size, 0, none⟩ = some (.slice A0 mA.length c) := cell_at HX.out 0
          have b1 : wr.cell? ⟨w.heap.size, 1, none⟩ = some (.slice B0 mV.length d) := cell_at HX.out 1
          clear hac hvv hj
          go_wp2_with (go_at_call 54; ((with_reducible refine (K8w.out _ HB.out).mono ?_)); rintro e x5 ⟨rfl, hb⟩; have HB4 := Lib.hid (below_call HB.out HB.out.size hb); have HX4 := Lib.hid (iter_call HX.out hb); have HP4 := Lib.hid (iter_call HP.out hb); have HQ4 := Lib.hid (key_call HQ.out hb); clear hb)
          have HB5 := Lib.hid (HB4.out.alloc HB4.out.size (.cells #[.string to, .int .i64 am, .int .i64 no] 127 (0, 0)))
          have HX5 : Hid ((x5.alloc (.cells #[.string to, .int .i64 am, .int .i64 no] 127 (0, 0))).heap[w.heap.size]? = some (.cells #[.slice A0 mA.length c, .slice B0 mV.length d] 50 (0, 0))) := iter_alloc HX4.out _
          have HP5 : Hid ((x5.alloc (.cells #[.string to, .int .i64 am, .int .i64 no] 127 (0, 0))).heap[yl]? = some (.cells #[.string fr, .string to] 9 (0, 0))) := iter_alloc HP4.out _
          have HZ5 : Hid ((x5.alloc (.cells #[.string to, .int .i64 am, .int .i64 no] 127 (0, 0))).heap[x5.heap.size]? = some (.cells #[.string to, .int .i64 am, .int .i64 no] 127 (0, 0))) := heap_new x5 _
          have HQ5 := Lib.hid (key_call HQ4.out ((Below.refl _ _).alloc (Nat.le_refl _) (.cells #[.string to, .int .i64 am, .int .i64 no] 127 (0, 0))))
          have a0 := cell_at HX5.out 0
          have a1 := cell_at HX5.out 1
          have a2 := cell_at HZ5.out 1
          have a3 := cell_at HZ5.out 2
          have a4 := HQ5.out
          clear l0 l1 b0 b1
          generalize x5.heap.size = yb at HZ5 a2 a3 ⊢
          generalize x5.alloc (.cells #[.string to, .int .i64 am, .int .i64 no] 127 (0, 0)) = W5 at HB5 HX5 HP5 HZ5 HQ5 a0 a1 a2 a3 a4 ⊢
          have w0 : W5.cell? ⟨w.heap.size, 0, none⟩ = some (.slice A0 mA.length c) := a0
          have w1 : W5.cell? ⟨w.heap.size, 1, none⟩ = some (.slice B0 mV.length d) := a1
          have w2 : W5.cell? ⟨yb, 1, none⟩ = some (.int .i64 am) := a2
          have w3 : W5.cell? ⟨yb, 2, none⟩ = some (.int .i64 no) := a3
          clear a0 a1 a2 a3
          go_region_held3 (fun W => W.cell? ⟨w.heap.size, 0, none⟩ = some (.slice A0 mA.length c) ∧ W.cell? ⟨w.heap.size, 1, none⟩ = some (.slice B0 mV.length d) ∧ W.cell? ⟨yb, 1, none⟩ = some (.int .i64 am) ∧ W.cell? ⟨yb, 2, none⟩ = some (.int .i64 no) ∧ W.cell? ⟨(ad.add (i * 7)).block, (ad.add (i * 7)).off + 3, none⟩ = some (.string ke)) (first | (go_keep; done) | exact ⟨r0, r1, r2, r3, r4⟩ | exact ⟨q0, q1, q2, q3, q4⟩ | exact ⟨b0, b1, b2, b3, b4⟩ | exact ⟨a0, a1, a2, a3, a4⟩) ((first | (go_at_call 18; ((with_reducible refine (K5w.out _ HB5.out.drew).mono ?_)); rintro e x6 ⟨rfl, hb⟩; have HB6 := Lib.hid (below_call HB5.out.drew HB5.out.drew.size hb); have HX6 := Lib.hid (iter_call (w := W5.drew) HX5.out hb); have HZ6 := Lib.hid (iter_call (w := W5.drew) HZ5.out hb); have HP6 := Lib.hid (iter_call (w := W5.drew) HP5.out hb); have HQ6 := Lib.hid (key_call (w := W5.drew) HQ5.out hb); have a0 : x6.cell? ⟨w.heap.size, 0, none⟩ = some (.slice A0 mA.length c) := cell_at HX6.out 0; have a1 : x6.cell? ⟨w.heap.size, 1, none⟩ = some (.slice B0 mV.length d) := cell_at HX6.out 1; have a2 : x6.cell? ⟨yb, 1, none⟩ = some (.int .i64 am) := cell_at HZ6.out 1; have a3 : x6.cell? ⟨yb, 2, none⟩ = some (.int .i64 no) := cell_at HZ6.out 2; have a4 := HQ6.out; clear hb) | (go_at_call 17; ((with_reducible refine (K6w.out _ HB6.out).mono ?_)); rintro e x7 ⟨rfl, hb⟩; have HB7 := Lib.hid (below_call HB6.out HB6.out.size hb); have HX7 := Lib.hid (iter_call HX6.out hb); have HZ7 := Lib.hid (iter_call HZ6.out hb); have HP7 := Lib.hid (iter_call HP6.out hb); have HQ7 := Lib.hid (key_call HQ6.out hb); have b0 : x7.cell? ⟨w.heap.size, 0, none⟩ = some (.slice A0 mA.length c) := cell_at HX7.out 0; have b1 : x7.cell? ⟨w.heap.size, 1, none⟩ = some (.slice B0 mV.length d) := cell_at HX7.out 1; have b2 : x7.cell? ⟨yb, 1, none⟩ = some (.int .i64 am) := cell_at HZ7.out 1; have b3 : x7.cell? ⟨yb, 2, none⟩ = some (.int .i64 no) := cell_at HZ7.out 2; have b4 := HQ7.out; clear hb) | (go_at_call 26; ((with_reducible refine (K7w.out _ HB7.out).mono ?_)); rintro e x8 ⟨rfl, hb⟩; have HB8 := Lib.hid (below_call HB7.out HB7.out.size hb); have HX8 := Lib.hid (iter_call HX7.out hb); have HZ8 := Lib.hid (iter_call HZ7.out hb); have HP8 := Lib.hid (iter_call HP7.out hb); have HQ8 := Lib.hid (key_call HQ7.out hb); have q0 : x8.cell? ⟨w.heap.size, 0, none⟩ = some (.slice A0 mA.length c) := cell_at HX8.out 0; have q1 : x8.cell? ⟨w.heap.size, 1, none⟩ = some (.slice B0 mV.length d) := cell_at HX8.out 1; have q2 : x8.cell? ⟨yb, 1, none⟩ = some (.int .i64 am) := cell_at HZ8.out 1; have q3 : x8.cell? ⟨yb, 2, none⟩ = some (.int .i64 no) := cell_at HZ8.out 2; have q4 := HQ8.out; clear hb) | (go_at_call 57; ((with_reducible refine (K9w.out _ HB8.out).mono ?_)); rintro e x9 ⟨rfl, hb⟩; have HB9 := Lib.hid (below_call HB8.out HB8.out.size hb); have HX9 := Lib.hid (iter_call HX8.out hb); have HZ9 := Lib.hid (iter_call HZ8.out hb); have HP9 := Lib.hid (iter_call HP8.out hb); have HQ9 := Lib.hid (key_call HQ8.out hb); have r0 : x9.cell? ⟨w.heap.size, 0, none⟩ = some (.slice A0 mA.length c) := cell_at HX9.out 0; have r1 : x9.cell? ⟨w.heap.size, 1, none⟩ = some (.slice B0 mV.length d) := cell_at HX9.out 1; have r2 : x9.cell? ⟨yb, 1, none⟩ = some (.int .i64 am) := cell_at HZ9.out 1; have r3 : x9.cell? ⟨yb, 2, none⟩ = some (.int .i64 no) := cell_at HZ9.out 2; have r4 := HQ9.out; clear hb)))
          clear w0 w1 w2 w3 a4
          go_wp2
          go_roundw
          case rel => exact ⟨2, rfl, by omega, HB9, HX9, HP9, HQ9⟩
          case measure => simp [intOf]
        · go_wp2
          go_roundw
          case rel => exact ⟨i + 1, by go_num, by omega, HB, HX⟩
          case measure => simp [intOf]; omega
    · go_wp2
      go_ret
      exact ret_bool rfl HB.out
end Go.Proofs.YtnhpkefjmpgneaaDoor
