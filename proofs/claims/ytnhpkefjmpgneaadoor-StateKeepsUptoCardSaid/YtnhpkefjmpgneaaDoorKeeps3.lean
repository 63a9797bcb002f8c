import Derived.Test.YtnhpkefjmpgneaaDoorKeeps2
import Derived.Test.YtnhpkefjmpgneaaDoorApart5
namespace Go.Proofs.YtnhpkefjmpgneaaDoor
open Go.RowKit

set_option maxHeartbeats 2000000 in
set_option maxRecDepth 100000 in
theorem keeps_early (l : List (ByteArray × Int)) (A0 : Option Addr) (c0 : Nat) (bs : List Tx) (B0 : Option Addr) (c1 : Nat) (w : World) (hin : ApIn w l A0 bs B0) (hsz : ∀ x ∈ l, x.1.size ≤ 35184372088831)
    (hg : ¬ (newR l).1 = 0 ∨ greatA l = true ∨ greatL bs = true) :
    Calls Tryd.prog 4 #[.slice A0 l.length c0, .slice B0 bs.length c1] w (Ret w (.bool true)) := by
  have HT := Lib.hid hin.tabs
  have HRA := Lib.hid hin.ra
  have HRB := Lib.hid hin.rb
  have HSZ := Lib.hid hsz
  clear hin hsz
  by_cases hz : (newR l).1 = 0
  · cases gA : greatA l
    · have gB : greatL bs = true := by
        rcases hg with h | h | h
        · exact absurd hz h
        · rw [gA] at h; cases h
        · exact h
      clear hg
      go_enter Tryd.func4, Tryd.ntmps4
      go_wp2_with (first | (go_at_call 9; ((with_reducible refine (alive_any _ HT.out).mono ?_)); rintro e w1 ⟨rfl, hb⟩; have HB1 := Lib.hid hb; clear hb) | (go_at_call 12; ((with_reducible refine (new_any l A0 c0 HSZ.out _ (readsN_below HRA.out HB1.out)).mono ?_)); rintro e w2 ⟨hb, hP⟩; rw [if_pos hz] at hP; obtain ⟨rfl, hS⟩ := hP; have HB2 := Lib.hid (below_call HB1.out HB1.out.size hb); have hw1 := HB1.out.size; have HS2 := Lib.hid hS; clear hb hS; generalize w1.heap.size + 1 + 1 = p at HS2 ⊢; have hf1 : w.heap.size ≤ w1.heap.size + 1 := (by omega); generalize w1.heap.size + 1 = bv at HS2 hf1; generalize w1.heap.size = ba at HS2 hw1) | (go_at_call 10; ((with_reducible refine (greatA_any l A0 c0 _ (readsN_below HRA.out HB2.out)).mono ?_)); rintro e w3 ⟨rfl, hb⟩; rw [gA]; have HB3 := Lib.hid (below_call HB2.out HB2.out.size hb); have HS3 := Lib.hid (HS2.out.below hb); clear hb) | (go_at_call 11; ((with_reducible refine (greatL_any bs B0 c1 _ (readsN_below HRB.out HB3.out)).mono ?_)); rintro e w4 ⟨rfl, hb⟩; rw [gB]; have HB4 := Lib.hid (below_call HB3.out HB3.out.size hb); have HS4 := Lib.hid (HS3.out.below hb); clear hb))
      go_ret
      exact ret_bool rfl HB4.out
    · clear hg
      go_enter Tryd.func4, Tryd.ntmps4
      go_wp2_with (first | (go_at_call 9; ((with_reducible refine (alive_any _ HT.out).mono ?_)); rintro e w1 ⟨rfl, hb⟩; have HB1 := Lib.hid hb; clear hb) | (go_at_call 12; ((with_reducible refine (new_any l A0 c0 HSZ.out _ (readsN_below HRA.out HB1.out)).mono ?_)); rintro e w2 ⟨hb, hP⟩; rw [if_pos hz] at hP; obtain ⟨rfl, hS⟩ := hP; have HB2 := Lib.hid (below_call HB1.out HB1.out.size hb); have hw1 := HB1.out.size; have HS2 := Lib.hid hS; clear hb hS; generalize w1.heap.size + 1 + 1 = p at HS2 ⊢; have hf1 : w.heap.size ≤ w1.heap.size + 1 := (by omega); generalize w1.heap.size + 1 = bv at HS2 hf1; generalize w1.heap.size = ba at HS2 hw1) | (go_at_call 10; ((with_reducible refine (greatA_any l A0 c0 _ (readsN_below HRA.out HB2.out)).mono ?_)); rintro e w3 ⟨rfl, hb⟩; rw [gA]; have HB3 := Lib.hid (below_call HB2.out HB2.out.size hb); have HS3 := Lib.hid (HS2.out.below hb); clear hb) | (go_at_call 11; ((with_reducible refine (greatL_any bs B0 c1 _ (readsN_below HRB.out HB3.out)).mono ?_)); rintro e w4 ⟨rfl, hb⟩; rw [gB]; have HB4 := Lib.hid (below_call HB3.out HB3.out.size hb); have HS4 := Lib.hid (HS3.out.below hb); clear hb))
      go_ret
      exact ret_bool rfl HB3.out
  · have hne := hz
    have hnb : ((newR l).1 != 0) = true := by simp [hne]
    clear hg hz
    go_enter Tryd.func4, Tryd.ntmps4
    go_wp2_with (first | (go_at_call 9; ((with_reducible refine (alive_any _ HT.out).mono ?_)); rintro e w1 ⟨rfl, hb⟩; have HB1 := Lib.hid hb; clear hb) | (go_at_call 12; ((with_reducible refine (new_any l A0 c0 HSZ.out _ (readsN_below HRA.out HB1.out)).mono ?_)); rintro e w2 ⟨hb, hP⟩; rw [if_neg hne] at hP; obtain rfl := hP; have HB2 := Lib.hid (below_call HB1.out HB1.out.size hb); clear hb))
    go_ret
    exact ret_bool rfl HB2.out
set_option maxHeartbeats 8000000 in
set_option maxRecDepth 100000 in
theorem keeps_main (l : List (ByteArray × Int)) (A0 : Option Addr) (c0 : Nat) (bs : List Tx) (B0 : Option Addr) (c1 : Nat) (w : World) (hin : ApIn w l A0 bs B0) (hsz : ∀ x ∈ l, x.1.size ≤ 35184372088831)
    (hz : (newR l).1 = 0) (gA : greatA l = false) (gB : greatL bs = false) :
    Calls Tryd.prog 4 #[.slice A0 l.length c0, .slice B0 bs.length c1] w (Ret w (.bool true)) := by
  have HT := Lib.hid hin.tabs
  have HRA := Lib.hid hin.ra
  have HRB := Lib.hid hin.rb
  have HSZ := Lib.hid hsz
  have hla : l.length ≤ 60 ∧ ∀ x ∈ l, x.1.size ≤ 1000 := by
    have g := gA
    unfold greatA at g
    rw [Bool.or_eq_false_iff] at g
    refine ⟨by simpa using g.1, fun x hx => ?_⟩
    have := any_false g.2 x hx
    simpa using this
  have hlb : bs.length ≤ 60 ∧ ∀ t ∈ bs, greatT t = false := by
    have g := gB
    unfold greatL at g
    rw [Bool.or_eq_false_iff] at g
    exact ⟨by simpa using g.1, any_false g.2⟩
  have hF0 := newR_fit l fun x hx => ⟨hla.2 x hx, hin.ints x hx⟩
  have HFK : Hid (∀ k, k ≤ bs.length → Fit (60 + 2 * 60) (doAll (newR l).2 [] (bs.take k)).1 (doAll (newR l).2 [] (bs.take k)).2) := fun k hk => by
    refine (doAll_fit (bs.take k) _ _ _ hF0 fun t ht => hlb.2 t (List.mem_of_mem_take ht)).mono ?_
    rw [List.length_take]
    have h1 := hla.1
    have h2 := hlb.1
    omega
  have HSB : Hid (∀ t ∈ bs, greatT t = false) := hlb.2
  have HGK : Hid (∀ k, Good (doAll (newR l).2 [] (bs.take k)).1 ∧ wrap64 (sumA (doAll (newR l).2 [] (bs.take k)).1) = wrap64 (sumA (newR l).2)) := by
    have go : ∀ (r : List Tx) (A : Accs) (V : Vals), Good A → Good (doAll A V r).1 ∧ wrap64 (sumA (doAll A V r).1) = wrap64 (sumA A) := by
      intro r
      induction r with
      | nil => intro A V h; exact ⟨h, rfl⟩
      | cons t r ih =>
        intro A V h
        have h1 := ih (doR A V t).2.1 (doR A V t).2.2 (good_do h V t)
        rw [doAll]
        exact ⟨h1.1, h1.2.trans (do_sum A V t)⟩
    exact fun k => go _ _ _ (newR_good l)
  have HIN : Hid (∀ x ∈ (newR l).2, I64 x.2.1 ∧ I64 x.2.2) := fun x hx => (hF0.keyA x hx).2
  have hbl := hlb.1
  clear hin hsz hla hlb hF0
  go_enter Tryd.func4, Tryd.ntmps4
  go_wp2_with (first | (go_at_call 9; ((with_reducible refine (alive_any _ HT.out).mono ?_)); rintro e w1 ⟨rfl, hb⟩; have HB1 := Lib.hid hb; clear hb) | (go_at_call 12; ((with_reducible refine (new_any l A0 c0 HSZ.out _ (readsN_below HRA.out HB1.out)).mono ?_)); rintro e w2 ⟨hb, hP⟩; rw [if_pos hz] at hP; obtain ⟨rfl, hS⟩ := hP; have HB2 := Lib.hid (below_call HB1.out HB1.out.size hb); have hw1 := HB1.out.size; have HS2 := Lib.hid hS; clear hb hS; generalize w1.heap.size + 1 + 1 = p at HS2 ⊢; have hf1 : w.heap.size ≤ w1.heap.size + 1 := (by omega); generalize w1.heap.size + 1 = bv at HS2 hf1; generalize w1.heap.size = ba at HS2 hw1) | (go_at_call 10; ((with_reducible refine (greatA_any l A0 c0 _ (readsN_below HRA.out HB2.out)).mono ?_)); rintro e w3 ⟨rfl, hb⟩; rw [gA]; have HB3 := Lib.hid (below_call HB2.out HB2.out.size hb); have HS3 := Lib.hid (HS2.out.below hb); clear hb) | (go_at_call 11; ((with_reducible refine (greatL_any bs B0 c1 _ (readsN_below HRB.out HB3.out)).mono ?_)); rintro e w4 ⟨rfl, hb⟩; rw [gB]; have HB4 := Lib.hid (below_call HB3.out HB3.out.size hb); have HS4 := Lib.hid (HS3.out.below hb); clear hb) | (go_at_call 16; ((with_reducible refine (total_any p ba bv _ _ _ HS4.out HIN.out).mono ?_)); rintro e w5 ⟨rfl, hb⟩; have HB5 := Lib.hid (below_call HB4.out HB4.out.size hb); have HS5 := Lib.hid (HS4.out.below hb); clear hb))
  clear hz
  go_loopw [8] (fun i wr => ∃ k : Nat, i = .int .i64 k ∧ k ≤ bs.length ∧ Hid (IsState wr p ba bv (doAll (newR l).2 [] (bs.take k)).1 (doAll (newR l).2 [] (bs.take k)).2 ∧ Below w.heap.size w wr)) (fun i _ => bs.length - (intOf i).toNat)
  case atStart => exact ⟨0, rfl, by omega, HS5.out, HB5.out⟩
  case round =>
    obtain ⟨k, rfl, hk, hA⟩ := hrel
    by_cases hlt : k < bs.length
    · obtain ⟨t, ht⟩ : ∃ t, bs[k] = t := ⟨_, rfl⟩
      obtain ⟨tk, tf, tt, tkey, tv, ta, tn⟩ := t
      have HSL : Hid (Tx.Slim ⟨tk, tf, tt, tkey, tv, ta, tn⟩) := slim_of (by rw [← ht]; exact HSB.out _ (List.getElem_mem hlt))
      have hcell : (bs.map txList)[k]? = some (.int .i64 tk :: [.string tf, .string tt, .string tkey, .string tv, .int .i64 ta, .int .i64 tn]) := by
        rw [List.getElem?_map, List.getElem?_eq_getElem hlt, ht]; rfl
      obtain ⟨ad, rfl, hc0, hcs⟩ := readsN_at (readsN_below HRB.out hA.out.2) hcell
      have k1 := hcs 0 _ rfl
      have k2 := hcs 1 _ rfl
      have k3 := hcs 2 _ rfl
      have k4 := hcs 3 _ rfl
      have k5 := hcs 4 _ rfl
      have k6 := hcs 5 _ rfl
      have HSN : Hid (doAll (newR l).2 [] (bs.take (k + 1)) = (doR (doAll (newR l).2 [] (bs.take k)).1 (doAll (newR l).2 [] (bs.take k)).2 ⟨tk, tf, tt, tkey, tv, ta, tn⟩).2) := by
        rw [Hid, List.take_succ_eq_append_getElem hlt, doAll_snoc, ht]
      have hFit := HFK.out k hk
      have hFit2 := HFK.out (k + 1) hlt
      have hGood := HGK.out k
      have hGood2 := HGK.out (k + 1)
      rw [HSN.out] at hFit2 hGood2
      clear hcell hcs ht
      generalize (doAll (newR l).2 [] (bs.take k)).1 = A at HSN hA hFit hFit2 hGood hGood2
      generalize (doAll (newR l).2 [] (bs.take k)).2 = V at HSN hA hFit hFit2 hGood2
      obtain ⟨er, A2, V2, hdo⟩ : ∃ x y z, doR A V ⟨tk, tf, tt, tkey, tv, ta, tn⟩ = (x, y, z) := ⟨_, _, _, rfl⟩
      have hderr := do_err A V ⟨tk, tf, tt, tkey, tv, ta, tn⟩
      rw [hdo] at hFit2 hGood2 hderr HSN
      simp only at hFit2 hGood2 hderr
      have SMA : Hid (SmallState A V) := hFit.small (by omega)
      have HIN2 : Hid (∀ x ∈ A2, I64 x.2.1 ∧ I64 x.2.2) := fun x hx => (hFit2.keyA x hx).2
      have HTOT : Hid (wrap64 (sumA A2) = wrap64 (sumA (newR l).2)) := hGood2.2
      have q1 : decide ((accOf A2 tf).1 < 0) = false := by have := (acc_le hGood2.1.pos tf).1; simp; omega
      have q2 : decide ((accOf A2 tt).1 < 0) = false := by have := (acc_le hGood2.1.pos tt).1; simp; omega
      have HDO := Lib.hid hdo
      have K0 : Hid (Kp w (wr.alloc (.cells #[.int .i64 tk, .string tf, .string tt, .string tkey, .string tv, .int .i64 ta, .int .i64 tn] 25 (0, 0))) p ba bv A V wr.heap.size ⟨tk, tf, tt, tkey, tv, ta, tn⟩) := by
        have l1 := hA.out.1.accs.lt
        have l2 := hA.out.1.vals.lt
        exact ⟨hA.out.1.below ((Below.refl _ _).alloc (Nat.le_refl _) _), hA.out.2.alloc hA.out.2.size _, heap_new _ _, hw1, hf1, by omega, by omega⟩
      by_cases her : er = 0
      · subst her
        have hok : errOf ⟨tk, tf, tt, tkey, tv, ta, tn⟩ (accOf A tf) = 0 := hderr.symm
        have HNON : Hid ((accOf A2 tf).2 = wrap64 ((accOf A tf).2 + 1)) := by have := nonce_after (V := V) hok; rw [hdo] at this; exact this
        have HAG : Hid (doR A2 V2 ⟨tk, tf, tt, tkey, tv, ta, tn⟩ = (90, A2, V2)) := by have := again (V := V) hok; rw [hdo] at this; exact this
        have htn : tn = wrap64 ((accOf A tf).2 + 1) := (ok_facts hok).2.1
        have q3 : (tn != wrap64 ((accOf A tf).2 + 1)) = false := by rw [← htn]; simp
        clear hdo hderr hok htn hFit hFit2 hGood hGood2
        go_wp2_with (first | (go_at_call 18; ((with_reducible refine (amount_any p ba bv _ _ tt _ K6.out.st).mono ?_)); rintro e v7 ⟨rfl, hb⟩; have K7 := Lib.hid (K6.out.grow hb); clear hb) | (go_at_call 18; ((with_reducible refine (amount_any p ba bv _ _ tf _ K5.out.st).mono ?_)); rintro e v6 ⟨rfl, hb⟩; have K6 := Lib.hid (K5.out.grow hb); clear hb; obtain ⟨g0, g1, g2, g3, g4, g5, g6⟩ := seven K6.out.box) | (go_at_call 16; ((with_reducible refine (total_any p ba bv _ _ _ K4.out.st HIN2.out).mono ?_)); rintro e v5 ⟨rfl, hb⟩; rw [HTOT.out]; have K5 := Lib.hid (K4.out.grow hb); clear hb; obtain ⟨f0, f1, f2, f3, f4, f5, f6⟩ := seven K5.out.box) | (go_at_call 13; ((with_reducible refine (do_any p ba bv A2 V2 tk ta tn tf tt tkey tv (slim_small HSL.out) _ (tabs_keep HT.out K4a.out.below) K4a.out.st).mono ?_)); rintro e v8 ⟨he, hs, hk⟩; rw [HAG.out] at he hs; obtain rfl := he; have K4 := Lib.hid (K4a.out.do hs hk); clear hs hk; obtain ⟨h0, h1, h2, h3, h4, h5, h6⟩ := seven K4.out.box) | (go_at_call 17; ((with_reducible refine (nonce_any p ba bv A2 V2 tf _ K3.out.st).mono ?_)); rintro e v4 ⟨rfl, hb⟩; rw [HNON.out]; have K4a := Lib.hid (K3.out.grow hb); clear hb; obtain ⟨d0, d1, d2, d3, d4, d5, d6⟩ := seven K4a.out.box) | (go_at_call 13; ((with_reducible refine (do_any p ba bv A V tk ta tn tf tt tkey tv (slim_small HSL.out) _ (tabs_keep HT.out K2.out.below) K2.out.st).mono ?_)); rintro e v3 ⟨he, hs, hk⟩; rw [HDO.out] at he hs; obtain rfl := he; have K3 := Lib.hid (K2.out.do hs hk); clear hs hk; obtain ⟨c0, c1, c2, c3, c4, c5, c6⟩ := seven K3.out.box) | (go_at_call 17; ((with_reducible refine (nonce_any p ba bv A V tf _ K1.out.st).mono ?_)); rintro e v2 ⟨rfl, hb⟩; have K2 := Lib.hid (K1.out.grow hb); clear hb; obtain ⟨b0, b1, b2, b3, b4, b5, b6⟩ := seven K2.out.box) | (go_at_call 15; ((with_reducible refine (digest_any p ba bv A V _ K0.out.st SMA.out).mono ?_)); rintro e v1 ⟨rfl, hb⟩; have K1 := Lib.hid (K0.out.grow hb); clear hb; obtain ⟨a0, a1, a2, a3, a4, a5, a6⟩ := seven K1.out.box))
        go_roundw
        case rel => exact ⟨k + 1, by go_num, by omega, by rw [HSN.out]; exact ⟨K7.out.st, K7.out.below⟩⟩
        case measure => simp [intOf]; omega
      · have hsame : A = A2 ∧ V = V2 := by
          have := do_bad A V ⟨tk, tf, tt, tkey, tv, ta, tn⟩ (by rw [← hderr]; exact her)
          rw [hdo] at this
          exact ⟨(congrArg Prod.fst this).symm, (congrArg Prod.snd this).symm⟩
        obtain ⟨rfl, rfl⟩ := hsame
        have q3 : (er != 0) = true := by simp [her]
        have q4 : (er == 0) = false := by simp [her]
        clear hdo hderr her hFit hFit2 hGood hGood2
        go_wp2_with (first | (go_at_call 18; ((with_reducible refine (amount_any p ba bv _ _ tt _ K6.out.st).mono ?_)); rintro e v7 ⟨rfl, hb⟩; have K7 := Lib.hid (K6.out.grow hb); clear hb) | (go_at_call 18; ((with_reducible refine (amount_any p ba bv _ _ tf _ K5.out.st).mono ?_)); rintro e v6 ⟨rfl, hb⟩; have K6 := Lib.hid (K5.out.grow hb); clear hb; obtain ⟨g0, g1, g2, g3, g4, g5, g6⟩ := seven K6.out.box) | (go_at_call 16; ((with_reducible refine (total_any p ba bv _ _ _ K4.out.st HIN2.out).mono ?_)); rintro e v5 ⟨rfl, hb⟩; rw [HTOT.out]; have K5 := Lib.hid (K4.out.grow hb); clear hb; obtain ⟨f0, f1, f2, f3, f4, f5, f6⟩ := seven K5.out.box) | (go_at_call 15; ((with_reducible refine (digest_any p ba bv A V _ K3.out.st SMA.out).mono ?_)); rintro e v4 ⟨rfl, hb⟩; have K4 := Lib.hid (K3.out.grow hb); clear hb; obtain ⟨d0, d1, d2, d3, d4, d5, d6⟩ := seven K4.out.box) | (go_at_call 13; ((with_reducible refine (do_any p ba bv A V tk ta tn tf tt tkey tv (slim_small HSL.out) _ (tabs_keep HT.out K2.out.below) K2.out.st).mono ?_)); rintro e v3 ⟨he, hs, hk⟩; rw [HDO.out] at he hs; obtain rfl := he; have K3 := Lib.hid (K2.out.do hs hk); clear hs hk; obtain ⟨c0, c1, c2, c3, c4, c5, c6⟩ := seven K3.out.box) | (go_at_call 17; ((with_reducible refine (nonce_any p ba bv A V tf _ K1.out.st).mono ?_)); rintro e v2 ⟨rfl, hb⟩; have K2 := Lib.hid (K1.out.grow hb); clear hb; obtain ⟨b0, b1, b2, b3, b4, b5, b6⟩ := seven K2.out.box) | (go_at_call 15; ((with_reducible refine (digest_any p ba bv A V _ K0.out.st SMA.out).mono ?_)); rintro e v1 ⟨rfl, hb⟩; have K1 := Lib.hid (K0.out.grow hb); clear hb; obtain ⟨a0, a1, a2, a3, a4, a5, a6⟩ := seven K1.out.box))
        go_roundw
        case rel => exact ⟨k + 1, by go_num, by omega, by rw [HSN.out]; exact ⟨K7.out.st, K7.out.below⟩⟩
        case measure => simp [intOf]; omega
    · go_wp2
      go_ret
      exact ret_bool rfl hA.out.2
end Go.Proofs.YtnhpkefjmpgneaaDoor
