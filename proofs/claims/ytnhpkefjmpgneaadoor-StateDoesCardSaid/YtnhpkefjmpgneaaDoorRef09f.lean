import Derived.Test.YtnhpkefjmpgneaaDoorRef09c
import Derived.StillTailTactics
namespace Go.Proofs.YtnhpkefjmpgneaaDoor
open Go.RowKit

/-! ### the document's New -/
/-- On New's way: the result's box; the state's box and its row. -/
structure NewSt (w W : World) (A : Accs) (x y : Value) (A1 : Option Addr) (c : Nat) : Prop where
  res : W.heap[w.heap.size]? = some (.cells #[x, y] 50 (0, 0))
  st : W.heap[w.heap.size + 1]? = some (.cells #[.slice A1 A.length c, .slice none 0 0] 50 (0, 0))
  row : ReadsN W A1 3 (A.map rowA)
  fresh : ∀ ad, A1 = some ad → w.heap.size + 1 < ad.block
  below : Below w.heap.size w W
theorem NewSt.grow {w W W' : World} {A : Accs} {x y : Value} {A1 : Option Addr} {c : Nat} (h : NewSt w W A x y A1 c) (hb : Below W.heap.size W W') : NewSt w W' A x y A1 c :=
  ⟨iter_call h.res hb, iter_call h.st hb, readsN_below h.row hb, h.fresh, below_call h.below h.below.size hb⟩
theorem NewSt.drewN {w W : World} {A : Accs} {x y : Value} {A1 : Option Addr} {c : Nat} (h : NewSt w W A x y A1 c) (n : Nat) : NewSt w (W.drewN n) A x y A1 c := h.grow (belowN (Below.refl _ _) n)
theorem NewSt.store {w W : World} {A A' : Accs} {x y : Value} {A1 A2 : Option Addr} {c c2 : Nat} (h : NewSt w W A x y A1 c) (hr : ReadsN W A2 3 (A'.map rowA)) (hf : ∀ ad, A2 = some ad → w.heap.size + 1 < ad.block) : NewSt w ((W.setCell ⟨w.heap.size + 1, 0, none⟩ (.slice A2 A'.length c2)).setCell ⟨w.heap.size + 1, 1, none⟩ (.slice none 0 0)) A' x y A2 c2 :=
  ⟨by rw [Below.heap_setCell _ _ _ _ (by simp), Below.heap_setCell _ _ _ _ (by simp)]; exact h.res,
    by have := heap_set_at 1 (.slice none 0 0) (heap_set_at 0 (.slice A2 A'.length c2) h.st); simpa using this,
    readsN_set (readsN_set hr (p := ⟨w.heap.size + 1, 0, none⟩) (fun ad e => by have := hf ad e; simp; omega) _) (p := ⟨w.heap.size + 1, 1, none⟩) (fun ad e => by have := hf ad e; simp; omega) _,
    hf, (h.below.setCell (p := ⟨w.heap.size + 1, 0, none⟩) (by simp) _).setCell (p := ⟨w.heap.size + 1, 1, none⟩) (by simp) _⟩
theorem readsN_nil (w : World) (A : Option Addr) (n : Nat) : ReadsN w A n [] := ⟨by simp, fun h => by simp at h⟩
theorem newSt_bad {w W : World} {A : Accs} {x y : Value} {A1 : Option Addr} {c : Nat} (h : NewSt w W A x y A1 c) {l : List (ByteArray × Int)} {e : Int} (hF : newR l = (e, [])) :
    RDoPost ((newR l).1, (newR l).2, []) w (.returned (.tuple #[.agg #[.slice none 0 0, .slice none 0 0], .int .i64 e])) ((W.setCell ⟨w.heap.size, 0, none⟩ (.slice none 0 0)).setCell ⟨w.heap.size, 1, none⟩ (.slice none 0 0)) := by
  rw [hF]
  exact ⟨none, 0, none, 0, rfl, readsN_nil _ _ _, readsN_nil _ _ _, (h.below.setCell (p := ⟨w.heap.size, 0, none⟩) (by simp) _).setCell (p := ⟨w.heap.size, 1, none⟩) (by simp) _⟩
theorem aget_some_of {A : Accs} {l : List (ByteArray × Int)} {k : Nat} (hA : A.map (·.1) = (l.take k).map (·.1)) {nm : ByteArray} {j : Nat} (hj : j < k) (hl : j < l.length) (he : l[j].1 = nm) : (aget A nm).isSome = true := by
  cases h : aget A nm with
  | some v => rfl
  | none =>
    rw [aget_none, hA] at h
    refine absurd ?_ h
    rw [← he]
    exact List.mem_map.2 ⟨l[j], List.mem_take_iff_getElem.2 ⟨j, by omega, rfl⟩, rfl⟩
theorem aget_none_of {A : Accs} {l : List (ByteArray × Int)} {k : Nat} (hA : A.map (·.1) = (l.take k).map (·.1)) {nm : ByteArray} (h : ∀ j, (hj : j < l.length) → j < k → l[j].1 ≠ nm) : aget A nm = none := by
  rw [aget_none, hA]
  intro hm
  obtain ⟨x, hx, rfl⟩ := List.mem_map.1 hm
  obtain ⟨j, hj, rfl⟩ := List.mem_take_iff_getElem.1 hx
  exact h j (by omega) (by omega) rfl
theorem rput_new {A : Accs} {nm : ByteArray} (h : aget A nm = none) (v : Int × Int) : rput A nm v = aput A nm v := by
  rw [aget_none] at h
  rw [aput_new h]
  unfold rput
  congr 1
  rw [List.filter_eq_self]
  intro x hx
  simp
  intro e
  exact h (List.mem_map.2 ⟨x, hx, e⟩)
theorem acct_at {w : World} {A0 : Option Addr} {l : List (ByteArray × Int)} (h : ReadsN w A0 2 (l.map acct)) {k : Nat} (hk : k < l.length) {nm : ByteArray} {am : Int} (hx : l[k] = (nm, am)) :
    ∃ ad, A0 = some ad ∧ w.cell? (ad.add (k * 2)) = some (.string nm) ∧ w.cell? ⟨(ad.add (k * 2)).block, (ad.add (k * 2)).off + 1, none⟩ = some (.int .i64 am) := by
  obtain ⟨ad, e, h0, hc⟩ := readsN_at h (k := k) (c := .string nm) (cs := [.int .i64 am]) (by rw [List.getElem?_map, List.getElem?_eq_getElem hk, hx]; rfl)
  exact ⟨ad, e, h0, hc 0 _ rfl⟩
set_option maxHeartbeats 4000000 in
set_option maxRecDepth 100000 in
theorem refNew_any (l : List (ByteArray × Int)) (A0 : Option Addr) (c0 : Nat) (hll : l.length ≤ 60) (hnm : ∀ x ∈ l, x.1.size ≤ 1000) (w : World) (hr : ReadsN w A0 2 (l.map acct)) :
    Calls Tryd.prog 23 #[.slice A0 l.length c0] w (RDoPost ((newR l).1, (newR l).2, []) w) := by
  have HR := Lib.hid hr
  have HNM := Lib.hid hnm
  clear hr hnm
  go_enter Tryd.func23, Tryd.ntmps23
  go_wp2
  go_loopw [5, 6] (fun n i wr => ∃ (k : Nat) (all : Int) (A : Accs) (x y : Value) (A1 : Option Addr) (c : Nat), i = .int .i64 k ∧ n = .int .i64 all ∧ k ≤ l.length ∧ A.length ≤ k ∧ Hid (newGo (l.drop k) all A = newR l) ∧ Hid (A.map (·.1) = (l.take k).map (·.1)) ∧ Hid (NewSt w wr A x y A1 c)) (fun _ i _ => l.length - (intOf i).toNat)
  case atStart =>
    obtain ⟨h1, h2⟩ := heap_two w (.cells #[.slice none 0 0, .slice none 0 0] 50) (.cells #[.slice none 0 0, .slice none 0 0] 50)
    exact ⟨0, 0, [], _, _, none, 0, rfl, rfl, by omega, by simp, rfl, rfl, ⟨h1, h2, readsN_nil _ _ _, (fun ad h => by cases h), ((Below.refl _ _).alloc (Nat.le_refl _) _).alloc (by simp) _⟩⟩
  case round =>
    obtain ⟨k, all, A, x, y, A1, c, rfl, rfl, hk, hAk, hg, hn, hS⟩ := hrel
    have r0 : wr.cell? ⟨w.heap.size, 0, none⟩ = some x := cell_at hS.out.res 0
    have r1 : wr.cell? ⟨w.heap.size, 1, none⟩ = some y := cell_at hS.out.res 1
    have s0 : wr.cell? ⟨w.heap.size + 1, 0, none⟩ = some (.slice A1 A.length c) := cell_at hS.out.st 0
    have s1 : wr.cell? ⟨w.heap.size + 1, 1, none⟩ = some (.slice none 0 0) := cell_at hS.out.st 1
    have q0 := frozen_at hS.out.res 0
    have q1 := frozen_at hS.out.res 1
    by_cases hlt : k < l.length
    · obtain ⟨nm, am, hx2⟩ : ∃ nm am, l[k] = (nm, am) := ⟨_, _, rfl⟩
      have hG : Hid (newR l = newGo ((nm, am) :: l.drop (k + 1)) all A) := by rw [Hid, ← hg.out, newGo_drop l k hlt, hx2]
      have hsz : Hid (nm.size ≤ 4398046511104) := by have := HNM.out _ (List.getElem_mem hlt); rw [hx2] at this; dsimp only at this; rw [Hid]; omega
      obtain ⟨ad, rfl, k0, k1⟩ := acct_at (readsN_below HR.out hS.out.below) hlt hx2
      have htk : Hid ((l.take (k + 1)).map (·.1) = (l.take k).map (·.1) ++ [nm]) := by rw [Hid, List.take_succ_eq_append_getElem hlt, hx2, List.map_append]; rfl
      have hX : Hid (∀ h : k < l.length, l[k] = (nm, am)) := fun _ => hx2
      clear hx2
      cases hok : nameOk nm
      · have HOK := Lib.hid hok
        have hF : Hid (newR l = (1, [])) := by rw [Hid, hG.out, newGo, if_pos (.inl (by unfold nameErr; rw [hok]; decide))]
        clear hok
        go_wp2_with (go_at_call 50; ((with_reducible refine (refCheck_any nm hsz.out _).mono ?_)); rintro e w1 ⟨rfl, hb⟩; rw [HOK.out]; have S1 := Lib.hid (hS.out.grow hb); have v0 : w1.cell? ⟨w.heap.size, 0, none⟩ = some x := cell_at S1.out.res 0; have v1 : w1.cell? ⟨w.heap.size, 1, none⟩ = some y := cell_at S1.out.res 1; have v2 := frozen_at S1.out.res 0; have v3 := frozen_at S1.out.res 1; clear hb)
        refine bodyPost_ret (v := .tuple #[.agg #[.slice none 0 0, .slice none 0 0], .int .i64 1]) (by simp [results, Tryd.results23, go_sem, v0, v1]) rfl ?_
        exact newSt_bad S1.out hF.out
      · have HOK := Lib.hid hok
        have hne : nameErr nm = 0 := by unfold nameErr; rw [hok]; rfl
        by_cases ham : am < 0
        · have hF : Hid (newR l = (1, [])) := by rw [Hid, hG.out, newGo, if_pos (.inr ham)]
          clear hok hne
          go_wp2_with (go_at_call 50; ((with_reducible refine (refCheck_any nm hsz.out _).mono ?_)); rintro e w1 ⟨rfl, hb⟩; rw [HOK.out]; have S1 := Lib.hid (hS.out.grow hb); have v0 : w1.cell? ⟨w.heap.size, 0, none⟩ = some x := cell_at S1.out.res 0; have v1 : w1.cell? ⟨w.heap.size, 1, none⟩ = some y := cell_at S1.out.res 1; have v2 := frozen_at S1.out.res 0; have v3 := frozen_at S1.out.res 1; have u1 := (hb.cell (World.block_lt_of_cell? wr _ k1)).trans k1; clear hb)
          refine bodyPost_ret (v := .tuple #[.agg #[.slice none 0 0, .slice none 0 0], .int .i64 1]) (by simp [results, Tryd.results23, go_sem, v0, v1]) rfl ?_
          exact newSt_bad S1.out hF.out
        · have hG2 : Hid (newR l = if (aget A nm).isSome then (100, []) else if (addR all am).2 ≠ 0 then ((addR all am).2, []) else newGo (l.drop (k + 1)) (addR all am).1 (aput A nm (am, 0))) := by rw [Hid, hG.out, newGo, if_neg (by rw [hne]; omega)]
          clear hok hne
          go_wp2_with (go_at_call 50; ((with_reducible refine (refCheck_any nm hsz.out _).mono ?_)); rintro e w1 ⟨rfl, hb⟩; rw [HOK.out]; have S1 := Lib.hid (hS.out.grow hb); have u1 := (hb.cell (World.block_lt_of_cell? wr _ k1)).trans k1; clear hb)
          clear r0 r1 s0 s1 q0 q1 k0 k1 u1
          go_loopw [7] (fun jv wj => ∃ j : Nat, jv = .int .i64 j ∧ j ≤ k ∧ Hid (∀ i, (hi : i < l.length) → i < j → l[i].1 ≠ nm) ∧ Hid (NewSt w wj A x y A1 c)) (fun jv _ => k - (intOf jv).toNat)
          case atStart => exact ⟨0, rfl, by omega, fun i hi h => by omega, S1.out⟩
          case round =>
            obtain ⟨j, rfl, hj, hd, hS2⟩ := hrel
            have hkx : l[k] = (nm, am) := hX.out hlt
            obtain ⟨_, h0, k0, k1⟩ := acct_at (readsN_below HR.out hS2.out.below) hlt hkx
            cases h0
            by_cases hjk : j < k
            · have hjl : j < l.length := by omega
              obtain ⟨n2, a2, hx3⟩ : ∃ nm am, l[j] = (nm, am) := ⟨_, _, rfl⟩
              obtain ⟨_, h0, j0, j1⟩ := acct_at (readsN_below HR.out hS2.out.below) hjl hx3
              cases h0
              by_cases he : n2 = nm
              · have hF : Hid (newR l = (100, [])) := by rw [Hid, hG2.out, if_pos (aget_some_of hn.out hjk hjl (by rw [hx3]; exact he))]
                have p1 := eq_bytes he
                have r0 : wr.cell? ⟨w.heap.size, 0, none⟩ = some x := cell_at hS2.out.res 0
                have r1 : wr.cell? ⟨w.heap.size, 1, none⟩ = some y := cell_at hS2.out.res 1
                have q0 := frozen_at hS2.out.res 0
                have q1 := frozen_at hS2.out.res 1
                clear he hx3 hkx
                go_wp2_with fail
                go_quiet (fail)
                go_wp2
                refine bodyPost_ret (v := .tuple #[.agg #[.slice none 0 0, .slice none 0 0], .int .i64 100]) (by simp [results, Tryd.results23, go_sem, r0, r1]) rfl ?_
                exact newSt_bad (hS2.out.drewN _) hF.out
              · have hd2 : Hid (∀ i, (hi : i < l.length) → i < j + 1 → l[i].1 ≠ nm) := fun i hi h => by
                  rcases Nat.lt_or_ge i j with h' | h'
                  · exact hd.out i hi h'
                  · obtain rfl : i = j := by omega
                    rw [hx3]; exact he
                have p1 := ne_bytes he
                clear he hx3 hkx
                go_wp2_with fail
                go_quiet (fail)
                go_wp2
                go_roundw
                case rel => exact ⟨j + 1, by go_num, by omega, hd2, hS2.out.drewN _⟩
                case measure => simp [intOf]; omega
            · obtain rfl : j = k := by omega
              have hag : aget A nm = none := aget_none_of hn.out fun i hi h => hd.out i hi h
              have hG3 : Hid (newR l = if (addR all am).2 ≠ 0 then ((addR all am).2, []) else newGo (l.drop (j + 1)) (addR all am).1 (aput A nm (am, 0))) := by rw [Hid, hG2.out, hag]; rfl
              have HPN := Lib.hid (rput_new hag (am, 0))
              have hnA : Hid ((aput A nm (am, 0)).map (·.1) = (l.take (j + 1)).map (·.1)) := by
                rw [Hid, keys_aput, if_neg (aget_none.1 hag), hn.out, htk.out]
              have hAl : (aput A nm (am, 0)).length ≤ j + 1 := Nat.le_trans (length_aput _ _ _) (by omega)
              have HAD := Lib.hid (fun W => refAdd_any all am W)
              obtain ⟨⟨sn, se⟩, hadd⟩ : ∃ x : Int × Int, addR all am = x := ⟨_, rfl⟩
              rw [hadd] at hG3 HAD
              clear hag hadd hkx hX
              by_cases hse : se = 0
              · subst hse
                have hF : Hid (newGo (l.drop (j + 1)) sn (aput A nm (am, 0)) = newR l) := hG3.out.symm
                go_wp2_with (go_at_call 51; ((with_reducible refine (HAD.out _).mono ?_)); rintro e w2 ⟨rfl, hb⟩; have S2 := Lib.hid (hS2.out.grow hb); have k0 := (hb.cell (World.block_lt_of_cell? wr _ k0)).trans k0; have k1 := (hb.cell (World.block_lt_of_cell? wr _ k1)).trans k1; clear hb)
                have s0 : w2.cell? ⟨w.heap.size + 1, 0, none⟩ = some (.slice A1 A.length c) := cell_at S2.out.st 0
                have s1 : w2.cell? ⟨w.heap.size + 1, 1, none⟩ = some (.slice none 0 0) := cell_at S2.out.st 1
                have i0 : (0 : Int) ≤ (j : Int) := by omega
                have i1 : (j : Int) < (l.length : Int) := by omega
                go_wp2_with fail
                go_still_tail 12, (by kernel_rfl)
                change wpList _ _ _ _ _ w2.drew
                go_wp2_with fail
                have HP := refPut_any A A1 c none 0 0 nm am 0 (by omega) w2.drew (S2.out.drewN 1).row
                rw [HPN.out] at HP
                refine HP.mono ?_
                rintro e w5 ⟨A2, c3, rfl, hR5, hF5, hb⟩
                have S5a := Lib.hid ((S2.out.drewN 1).grow hb)
                have hz5 := size_lt_of S2.out.st
                have S5 := Lib.hid (S5a.out.store (c2 := c3) hR5 (fun ad h => by have := hF5 ad h; simp at this; omega))
                have s0 : w5.cell? ⟨w.heap.size + 1, 0, none⟩ = some (.slice A1 A.length c) := cell_at S5a.out.st 0
                have s1 : w5.cell? ⟨w.heap.size + 1, 1, none⟩ = some (.slice none 0 0) := cell_at S5a.out.st 1
                have q0 := frozen_at S5a.out.st 0
                have q1 := frozen_at S5a.out.st 1
                clear hb hR5 hF5 HP
                generalize aput A nm (am, 0) = A' at hF hnA hAl S5 ⊢
                go_wp2
                go_roundw
                case rel => exact ⟨j + 1, sn, A', x, y, A2, c3, by go_num, rfl, by omega, hAl, hF, hnA, S5⟩
                case measure => simp [intOf]; omega
              · have hF : Hid (newR l = (se, [])) := by rw [Hid, hG3.out, if_pos hse]
                have e1 : (se != 0) = true := by simp [hse]
                go_wp2_with (go_at_call 51; ((with_reducible refine (HAD.out _).mono ?_)); rintro e w2 ⟨rfl, hb⟩; have S2 := Lib.hid (hS2.out.grow hb); have r0 : w2.cell? ⟨w.heap.size, 0, none⟩ = some x := cell_at S2.out.res 0; have r1 : w2.cell? ⟨w.heap.size, 1, none⟩ = some y := cell_at S2.out.res 1; have q0 := frozen_at S2.out.res 0; have q1 := frozen_at S2.out.res 1; clear hb)
                refine bodyPost_ret (v := .tuple #[.agg #[.slice none 0 0, .slice none 0 0], .int .i64 se]) (by simp [results, Tryd.results23, go_sem, r0, r1]) rfl ?_
                exact newSt_bad S2.out hF.out
    · obtain rfl : k = l.length := by omega
      have hF : Hid (newR l = (0, A)) := by rw [Hid, ← hg.out, List.drop_length, newGo]
      go_wp2
      refine bodyPost_ret (v := .tuple #[.agg #[.slice A1 A.length c, .slice none 0 0], .int .i64 0]) (by simp [results, Tryd.results23, go_sem, r0, r1]) rfl ?_
      rw [hF.out]
      exact ⟨A1, c, none, 0, rfl, readsN_set (readsN_set hS.out.row (p := ⟨w.heap.size, 0, none⟩) (fun ad h => by have := hS.out.fresh ad h; simp; omega) _) (p := ⟨w.heap.size, 1, none⟩) (fun ad h => by have := hS.out.fresh ad h; simp; omega) _, readsN_nil _ _ _, (hS.out.below.setCell (p := ⟨w.heap.size, 0, none⟩) (by simp) _).setCell (p := ⟨w.heap.size, 1, none⟩) (by simp) _⟩
end Go.Proofs.YtnhpkefjmpgneaaDoor
