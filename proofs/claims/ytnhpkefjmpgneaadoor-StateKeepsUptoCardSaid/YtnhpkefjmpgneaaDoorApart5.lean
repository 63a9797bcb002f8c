import Derived.Test.YtnhpkefjmpgneaaDoorApart4
import Derived.Deep.RegionWith
namespace Go.Proofs.YtnhpkefjmpgneaaDoor
open Go.RowKit

theorem Ap2.drew {w wr : World} {p ba bv q qa qv : Nat} {A A2 : Accs} {V V2 : Vals} {a b : Tx} (h : Ap2 w wr p ba bv A V q qa qv A2 V2 a b) : Ap2 w wr.drew p ba bv A V q qa qv A2 V2 a b :=
  ⟨⟨h.one.bx, h.one.by2, h.one.st.drew, h.one.below.drew, h.one.fa, h.one.fv⟩, h.st2.drew, h.ga, h.gv, h.n1, h.n2, h.n3, h.n4⟩
theorem slim_small {t : Tx} (h : t.Slim) : t.small := by
  have h1 := h.sf
  have h2 := h.st
  have h3 := h.sk
  have h4 := h.sv
  exact ⟨by omega, by omega, by omega, by omega⟩
theorem any_false {α : Type} {f : α → Bool} {l : List α} (h : l.any f = false) : ∀ x ∈ l, f x = false := by
  intro x hx
  rw [List.any_eq_false] at h
  have := h x hx
  simpa using this
set_option maxHeartbeats 8000000 in
set_option maxRecDepth 100000 in
theorem apart_main (l : List (ByteArray × Int)) (A0 : Option Addr) (c0 : Nat) (bs : List Tx) (B0 : Option Addr) (c1 : Nat) (ak aa an : Int) (af at2 akey av : ByteArray) (bk ba2 bn : Int) (bf bt bkey bv2 : ByteArray) (w : World) (hin : ApIn w l A0 bs B0)
    (gA : greatA l = false) (gB : greatL bs = false) (gC : greatL [⟨ak, af, at2, akey, av, aa, an⟩, ⟨bk, bf, bt, bkey, bv2, ba2, bn⟩] = false) (hsz : ∀ x ∈ l, x.1.size ≤ 35184372088831) (hz : (newR l).1 = 0) (e1 : af ≠ bf) (e2 : af ≠ bt) (e3 : at2 ≠ bf) :
    Calls Tryd.prog 3 #[.slice A0 l.length c0, .slice B0 bs.length c1, .agg #[.int .i64 ak, .string af, .string at2, .string akey, .string av, .int .i64 aa, .int .i64 an], .agg #[.int .i64 bk, .string bf, .string bt, .string bkey, .string bv2, .int .i64 ba2, .int .i64 bn]] w (Ret w (.bool true)) := by
  have HT := Lib.hid hin.tabs
  have HRA := Lib.hid hin.ra
  have HI := Lib.hid hin.ints
  have HRB := Lib.hid hin.rb
  have hB0 : Below w.heap.size w ((w.alloc (.cells #[.int .i64 ak, .string af, .string at2, .string akey, .string av, .int .i64 aa, .int .i64 an] TX (0, 0))).alloc (.cells #[.int .i64 bk, .string bf, .string bt, .string bkey, .string bv2, .int .i64 ba2, .int .i64 bn] TX (0, 0))) := ((Below.refl _ _).alloc (Nat.le_refl _) _).alloc (by simp) _
  have HX0 : Hid (((w.alloc (.cells #[.int .i64 ak, .string af, .string at2, .string akey, .string av, .int .i64 aa, .int .i64 an] TX (0, 0))).alloc (.cells #[.int .i64 bk, .string bf, .string bt, .string bkey, .string bv2, .int .i64 ba2, .int .i64 bn] TX (0, 0))).heap[w.heap.size]? = some (.cells (tcells ⟨ak, af, at2, akey, av, aa, an⟩) TX (0, 0))) := (Below.heap_alloc _ _ _ (by simp)).trans (heap_new w _)
  have HY0 : Hid (((w.alloc (.cells #[.int .i64 ak, .string af, .string at2, .string akey, .string av, .int .i64 aa, .int .i64 an] TX (0, 0))).alloc (.cells #[.int .i64 bk, .string bf, .string bt, .string bkey, .string bv2, .int .i64 ba2, .int .i64 bn] TX (0, 0))).heap[w.heap.size + 1]? = some (.cells (tcells ⟨bk, bf, bt, bkey, bv2, ba2, bn⟩) TX (0, 0))) := by
    have := heap_new (w.alloc (.cells #[.int .i64 ak, .string af, .string at2, .string akey, .string av, .int .i64 aa, .int .i64 an] TX (0, 0))) (.cells #[.int .i64 bk, .string bf, .string bt, .string bkey, .string bv2, .int .i64 ba2, .int .i64 bn] TX (0, 0))
    rw [World.size_alloc] at this
    exact this
  have HB0 := Lib.hid hB0
  clear hin hB0
  have hGC : ∀ W : World, Calls Tryd.prog 11 #[.slice (some ⟨W.heap.size, 0, none⟩) 2 2] (W.alloc (.cells #[.int .i64 ak, .string af, .string at2, .string akey, .string av, .int .i64 aa, .int .i64 an, .int .i64 bk, .string bf, .string bt, .string bkey, .string bv2, .int .i64 ba2, .int .i64 bn] TX)) (Ret (W.alloc (.cells #[.int .i64 ak, .string af, .string at2, .string akey, .string av, .int .i64 aa, .int .i64 an, .int .i64 bk, .string bf, .string bt, .string bkey, .string bv2, .int .i64 ba2, .int .i64 bn] TX)) (.bool (greatL [⟨ak, af, at2, akey, av, aa, an⟩, ⟨bk, bf, bt, bkey, bv2, ba2, bn⟩]))) := fun W => greatL_any [⟨ak, af, at2, akey, av, aa, an⟩, ⟨bk, bf, bt, bkey, bv2, ba2, bn⟩] _ 2 _ (reads_two W _ _)
  have HSZ := Lib.hid hsz
  have hla : l.length ≤ 60 ∧ ∀ x ∈ l, x.1.size ≤ 1000 := by
    unfold greatA at gA
    rw [Bool.or_eq_false_iff] at gA
    refine ⟨by simpa using gA.1, fun x hx => ?_⟩
    have := any_false gA.2 x hx
    simpa using this
  have hlb : bs.length ≤ 60 ∧ ∀ t ∈ bs, greatT t = false := by
    unfold greatL at gB
    rw [Bool.or_eq_false_iff] at gB
    exact ⟨by simpa using gB.1, any_false gB.2⟩
  have hlc : greatT ⟨ak, af, at2, akey, av, aa, an⟩ = false ∧ greatT ⟨bk, bf, bt, bkey, bv2, ba2, bn⟩ = false := by
    unfold greatL at gC
    rw [Bool.or_eq_false_iff] at gC
    exact ⟨any_false gC.2 _ (List.mem_cons_self ..), any_false gC.2 _ (List.mem_cons_of_mem _ (List.mem_cons_self ..))⟩
  have SA : Hid (Tx.small ⟨ak, af, at2, akey, av, aa, an⟩) := slim_small (slim_of hlc.1)
  have SB : Hid (Tx.small ⟨bk, bf, bt, bkey, bv2, ba2, bn⟩) := slim_small (slim_of hlc.2)
  have HSB : Hid (∀ t ∈ bs, greatT t = false) := hlb.2
  have hF0 := newR_fit l fun x hx => ⟨hla.2 x hx, HI.out x hx⟩
  have hF1 := doAll_fit bs _ _ _ hF0 hlb.2
  obtain ⟨A, hA0⟩ : ∃ A, (doAll (newR l).2 [] bs).1 = A := ⟨_, rfl⟩
  obtain ⟨V, hV0⟩ : ∃ V, (doAll (newR l).2 [] bs).2 = V := ⟨_, rfl⟩
  rw [hA0, hV0] at hF1
  obtain ⟨ea, Aa, Va, hda⟩ : ∃ x y z, doR A V ⟨ak, af, at2, akey, av, aa, an⟩ = (x, y, z) := ⟨_, _, _, rfl⟩
  obtain ⟨eab, Aab, Vab, hdab⟩ : ∃ x y z, doR Aa Va ⟨bk, bf, bt, bkey, bv2, ba2, bn⟩ = (x, y, z) := ⟨_, _, _, rfl⟩
  obtain ⟨eb, Ab, Vb, hdb⟩ : ∃ x y z, doR A V ⟨bk, bf, bt, bkey, bv2, ba2, bn⟩ = (x, y, z) := ⟨_, _, _, rfl⟩
  obtain ⟨eba, Aba, Vba, hdba⟩ : ∃ x y z, doR Ab Vb ⟨ak, af, at2, akey, av, aa, an⟩ = (x, y, z) := ⟨_, _, _, rfl⟩
  have hc := do_comm A V ⟨ak, af, at2, akey, av, aa, an⟩ ⟨bk, bf, bt, bkey, bv2, ba2, bn⟩ e1 e2 e3
  have f1 := hF1.do (slim_of hlc.1)
  have f2 := hF1.do (slim_of hlc.2)
  rw [hda] at f1 hc
  rw [hdb] at f2 hc
  have f3 := f1.do (slim_of hlc.2)
  have f4 := f2.do (slim_of hlc.1)
  simp only at hc f3 f4
  rw [hdab] at f3 hc
  rw [hdba] at f4 hc
  simp only at hc f3 f4
  obtain ⟨c1', c2', c3', c4'⟩ := hc
  subst c1' c2'
  have HDG : Hid (digB Aba Vba = digB Aab Vab) := (dig_same f3.nodA f4.nodA f3.nodV f4.nodV c3' c4').symm
  have FAB : Hid (SmallState Aab Vab) := f3.small (by omega)
  have FBA : Hid (SmallState Aba Vba) := f4.small (by omega)
  have HDA := Lib.hid hda
  have HDAB := Lib.hid hdab
  have HDB := Lib.hid hdb
  have HDBA := Lib.hid hdba
  have HAV : Hid ((doAll (newR l).2 [] bs).1 = A ∧ (doAll (newR l).2 [] bs).2 = V) := ⟨hA0, hV0⟩
  have hbl : bs.length ≤ 60 := hlb.1
  have d1 : (af.toList == bf.toList) = false := by rw [← beq_toListBytes, beqBytes, decide_eq_false e1]
  have d2 : (af.toList == bt.toList) = false := by rw [← beq_toListBytes, beqBytes, decide_eq_false e2]
  have d3 : (at2.toList == bf.toList) = false := by rw [← beq_toListBytes, beqBytes, decide_eq_false e3]
  clear hsz hla hlb hlc hF0 hF1 f1 f2 f3 f4 c3' c4' hda hdab hdb hdba hA0 hV0 e1 e2 e3
  go_enter Tryd.func3, Tryd.ntmps3
  go_wp2_with (first | (go_at_call 9; ((with_reducible refine (alive_any _ (tabs_keep HT.out HB0.out)).mono ?_)); rintro e w1 ⟨rfl, hb⟩; have HB1 := Lib.hid (below_call HB0.out HB0.out.size hb); have HX1 := Lib.hid ((hb.block _ (size_lt_of HX0.out)).trans HX0.out); have HY1 := Lib.hid ((hb.block _ (size_lt_of HY0.out)).trans HY0.out); clear hb) | (go_at_call 12; ((with_reducible refine (new_any l A0 c0 HSZ.out _ (readsN_below HRA.out HB4.out)).mono ?_)); rintro e w5 ⟨hb, hP⟩; rw [if_pos hz] at hP; obtain ⟨rfl, hS⟩ := hP; have HA5 := Lib.hid (ap_start HX4.out HY4.out HB4.out hb hS); obtain ⟨x0, x1, x2, x3, x4, x5, x6⟩ := seven HA5.out.bx; obtain ⟨y0, y1, y2, y3, y4, y5, y6⟩ := seven HA5.out.by2; clear hb hS; generalize w4.heap.size + 1 + 1 = p at HA5 ⊢; generalize w4.heap.size + 1 = bv at HA5; generalize w4.heap.size = ba at HA5) | (go_at_call 11; ((with_reducible refine (hGC w3).mono ?_)); rintro e w4 ⟨rfl, hb⟩; rw [gC]; have HB4 := Lib.hid (below_call (HB3.out.alloc HB3.out.size _) (by simp; exact Nat.le_succ_of_le HB3.out.size) hb); have HX4 := Lib.hid ((hb.block _ (by have := size_lt_of HX3.out; simp; omega)).trans ((Below.heap_alloc _ _ _ (size_lt_of HX3.out)).trans HX3.out)); have HY4 := Lib.hid ((hb.block _ (by have := size_lt_of HY3.out; simp; omega)).trans ((Below.heap_alloc _ _ _ (size_lt_of HY3.out)).trans HY3.out)); clear hb) | (go_at_call 11; ((with_reducible refine (greatL_any bs B0 c1 _ (readsN_below HRB.out HB2.out)).mono ?_)); rintro e w3 ⟨rfl, hb⟩; rw [gB]; have HB3 := Lib.hid (below_call HB2.out HB2.out.size hb); have HX3 := Lib.hid ((hb.block _ (size_lt_of HX2.out)).trans HX2.out); have HY3 := Lib.hid ((hb.block _ (size_lt_of HY2.out)).trans HY2.out); clear hb; obtain ⟨x0, x1, x2, x3, x4, x5, x6⟩ := seven HX3.out; obtain ⟨y0, y1, y2, y3, y4, y5, y6⟩ := seven HY3.out) | (go_at_call 10; ((with_reducible refine (greatA_any l A0 c0 _ (readsN_below HRA.out HB1.out)).mono ?_)); rintro e w2 ⟨rfl, hb⟩; rw [gA]; have HB2 := Lib.hid (below_call HB1.out HB1.out.size hb); have HX2 := Lib.hid ((hb.block _ (size_lt_of HX1.out)).trans HX1.out); have HY2 := Lib.hid ((hb.block _ (size_lt_of HY1.out)).trans HY1.out); clear hb))
  clear hGC hz
  go_loopw [11] (fun i wr => ∃ k : Nat, i = .int .i64 k ∧ k ≤ bs.length ∧ Hid (Ap w wr p ba bv (doAll (newR l).2 [] (bs.take k)).1 (doAll (newR l).2 [] (bs.take k)).2 ⟨ak, af, at2, akey, av, aa, an⟩ ⟨bk, bf, bt, bkey, bv2, ba2, bn⟩)) (fun i _ => bs.length - (intOf i).toNat)
  case atStart => exact ⟨0, rfl, by omega, HA5.out⟩
  case round =>
    obtain ⟨k, rfl, hk, hA⟩ := hrel
    by_cases hlt : k < bs.length
    · obtain ⟨t, ht⟩ : ∃ t, bs[k] = t := ⟨_, rfl⟩
      obtain ⟨tk, tf, tt, tkey, tv, ta, tn⟩ := t
      have HSL : Hid (Tx.Slim ⟨tk, tf, tt, tkey, tv, ta, tn⟩) := slim_of (by rw [← ht]; exact HSB.out _ (List.getElem_mem hlt))
      have hcell : (bs.map txList)[k]? = some (.int .i64 tk :: [.string tf, .string tt, .string tkey, .string tv, .int .i64 ta, .int .i64 tn]) := by
        rw [List.getElem?_map, List.getElem?_eq_getElem hlt, ht]; rfl
      obtain ⟨ad, rfl, hc0, hcs⟩ := readsN_at (readsN_below HRB.out hA.out.below) hcell
      have k1 := hcs 0 _ rfl
      have k2 := hcs 1 _ rfl
      have k3 := hcs 2 _ rfl
      have k4 := hcs 3 _ rfl
      have k5 := hcs 4 _ rfl
      have k6 := hcs 5 _ rfl
      have HSN : Hid (doAll (newR l).2 [] (bs.take (k + 1)) = (doR (doAll (newR l).2 [] (bs.take k)).1 (doAll (newR l).2 [] (bs.take k)).2 ⟨tk, tf, tt, tkey, tv, ta, tn⟩).2) := by
        rw [Hid, List.take_succ_eq_append_getElem hlt, doAll_snoc, ht]
      clear hcell hcs ht
      go_wp2_with (first | (go_at_call 13; ((with_reducible refine (do_any p ba bv _ _ tk ta tn tf tt tkey tv (slim_small HSL.out) _ (tabs_keep HT.out hA.out.below) hA.out.st).mono ?_)); rintro e w6 ⟨rfl, hs, hk⟩; have H6 := Lib.hid (hA.out.do hs hk); clear hs hk))
      go_roundw
      case rel => exact ⟨k + 1, by go_num, by omega, by rw [Hid, HSN.out]; exact H6.out⟩
      case measure => simp [intOf]; omega
    · obtain rfl : k = bs.length := by omega
      rw [List.take_length, HAV.out.1, HAV.out.2] at hA
      go_wp2_with (first | (go_at_call 14; ((with_reducible refine (copy_any p ba bv A V _ hA.out.st).mono ?_)); rintro e w6 ⟨q, qa, qv, rfl, hs, hb, hq1, hq2, hq3⟩; have H6' := Lib.hid (Ap2.copied hA.out hs hb hq2 hq3); have H6 := Lib.hid H6'.out.drew; obtain ⟨m0, m1, m2, m3, m4, m5, m6⟩ := seven H6'.out.one.bx; obtain ⟨n0, n1, n2, n3, n4, n5, n6⟩ := seven H6'.out.one.by2; clear hs hb hq1 hq2 hq3))
      go_region_with (first | (go_at_call 13; ((with_reducible refine (do_any q qa qv Ab Vb ak aa an af at2 akey av SA.out _ (tabs_keep HT.out H9.out.one.below) H9.out.st2).mono ?_)); rintro e w10 ⟨he, hs, hk⟩; rw [HDBA.out] at he hs; obtain rfl := he; have H10 := Lib.hid (H9.out.do2 hs hk); clear hs hk) | (go_at_call 13; ((with_reducible refine (do_any q qa qv A V bk ba2 bn bf bt bkey bv2 SB.out _ (tabs_keep HT.out H8.out.one.below) H8.out.st2).mono ?_)); rintro e w9 ⟨he, hs, hk⟩; rw [HDB.out] at he hs; obtain rfl := he; have H9 := Lib.hid (H8.out.do2 hs hk); obtain ⟨t0, t1, t2, t3, t4, t5, t6⟩ := seven H9.out.one.bx; obtain ⟨u0, u1, u2, u3, u4, u5, u6⟩ := seven H9.out.one.by2; clear hs hk) | (go_at_call 13; ((with_reducible refine (do_any p ba bv Aa Va bk ba2 bn bf bt bkey bv2 SB.out _ (tabs_keep HT.out H7.out.one.below) H7.out.one.st).mono ?_)); rintro e w8 ⟨he, hs, hk⟩; rw [HDAB.out] at he hs; obtain rfl := he; have H8 := Lib.hid (H7.out.do1 hs hk).drew; obtain ⟨r0, r1, r2, r3, r4, r5, r6⟩ := seven (H7.out.do1 hs hk).one.bx; obtain ⟨s0, s1, s2, s3, s4, s5, s6⟩ := seven (H7.out.do1 hs hk).one.by2; clear hs hk) | (go_at_call 13; ((with_reducible refine (do_any p ba bv A V ak aa an af at2 akey av SA.out _ (tabs_keep HT.out H6.out.one.below) H6.out.one.st).mono ?_)); rintro e w7 ⟨he, hs, hk⟩; rw [HDA.out] at he hs; obtain rfl := he; have H7 := Lib.hid (H6.out.do1 hs hk); obtain ⟨p0, p1, p2, p3, p4, p5, p6⟩ := seven H7.out.one.bx; obtain ⟨q0, q1, q2, q3, q4, q5, q6⟩ := seven H7.out.one.by2; clear hs hk))
      all_goals go_wp2
      all_goals go_region_with (first | (go_at_call 13; ((with_reducible refine (do_any q qa qv Ab Vb ak aa an af at2 akey av SA.out _ (tabs_keep HT.out H9.out.one.below) H9.out.st2).mono ?_)); rintro e w10 ⟨he, hs, hk⟩; rw [HDBA.out] at he hs; obtain rfl := he; have H10 := Lib.hid (H9.out.do2 hs hk); clear hs hk) | (go_at_call 13; ((with_reducible refine (do_any q qa qv A V bk ba2 bn bf bt bkey bv2 SB.out _ (tabs_keep HT.out H8.out.one.below) H8.out.st2).mono ?_)); rintro e w9 ⟨he, hs, hk⟩; rw [HDB.out] at he hs; obtain rfl := he; have H9 := Lib.hid (H8.out.do2 hs hk); obtain ⟨t0, t1, t2, t3, t4, t5, t6⟩ := seven H9.out.one.bx; obtain ⟨u0, u1, u2, u3, u4, u5, u6⟩ := seven H9.out.one.by2; clear hs hk) | (go_at_call 13; ((with_reducible refine (do_any p ba bv Aa Va bk ba2 bn bf bt bkey bv2 SB.out _ (tabs_keep HT.out H7.out.one.below) H7.out.one.st).mono ?_)); rintro e w8 ⟨he, hs, hk⟩; rw [HDAB.out] at he hs; obtain rfl := he; have H8 := Lib.hid (H7.out.do1 hs hk).drew; obtain ⟨r0, r1, r2, r3, r4, r5, r6⟩ := seven (H7.out.do1 hs hk).one.bx; obtain ⟨s0, s1, s2, s3, s4, s5, s6⟩ := seven (H7.out.do1 hs hk).one.by2; clear hs hk) | (go_at_call 13; ((with_reducible refine (do_any p ba bv A V ak aa an af at2 akey av SA.out _ (tabs_keep HT.out H6.out.one.below) H6.out.one.st).mono ?_)); rintro e w7 ⟨he, hs, hk⟩; rw [HDA.out] at he hs; obtain rfl := he; have H7 := Lib.hid (H6.out.do1 hs hk); obtain ⟨p0, p1, p2, p3, p4, p5, p6⟩ := seven H7.out.one.bx; obtain ⟨q0, q1, q2, q3, q4, q5, q6⟩ := seven H7.out.one.by2; clear hs hk))
      all_goals
        go_wp2_with (first | (go_at_call 15; ((with_reducible refine (digest_any q qa qv Aba Vba _ H11.out.st2 FBA.out).mono ?_)); rintro e w12 ⟨rfl, hb⟩; rw [HDG.out]; have H12 := Lib.hid (H11.out.grow hb); clear hb) | (go_at_call 15; ((with_reducible refine (digest_any p ba bv Aab Vab _ H10.out.one.st FAB.out).mono ?_)); rintro e w11 ⟨rfl, hb⟩; have H11 := Lib.hid (H10.out.grow hb); clear hb))
        go_ret
        exact ret_bool (by simp) H12.out.one.below
end Go.Proofs.YtnhpkefjmpgneaaDoor
