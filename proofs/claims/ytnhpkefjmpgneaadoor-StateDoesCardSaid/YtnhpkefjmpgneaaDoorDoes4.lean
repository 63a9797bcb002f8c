import Derived.Test.YtnhpkefjmpgneaaDoorDoes3
import Derived.Test.YtnhpkefjmpgneaaDoorShows
import Derived.Deep.RegionHeld3
namespace Go.Proofs.YtnhpkefjmpgneaaDoor
open Go.RowKit

/-- In a round: the state and the document's; the copy; the document's next in its box. -/
structure Dr (w wr : World) (p ba bv : Nat) (A : Accs) (V : Vals) (r : Nat) (A0 : Option Addr) (c : Nat) (mA : Accs) (B0 : Option Addr) (d : Nat) (mV : Vals) (q qa qv : Nat) (A2 : Accs) (V2 : Vals) (s : Nat) (A3 : Option Addr) (c3 : Nat) (nA : Accs) (B3 : Option Addr) (d3 : Nat) (nV : Vals) : Prop where
  dn : Dn w wr p ba bv A V r A0 c mA B0 d mV
  st2 : IsState wr q qa qv A2 V2
  n1 : qa ≠ ba
  n2 : qa ≠ bv
  n3 : qv ≠ ba
  n4 : qv ≠ bv
  box2 : wr.heap[s]? = some (.cells #[.slice A3 nA.length c3, .slice B3 nV.length d3] 50 (0, 0))
  ra2 : ReadsN wr A3 3 (nA.map rowA)
  rb2 : ReadsN wr B3 3 (nV.map rowV)
theorem Dr.grow {w wr wr' : World} {p ba bv r c d q qa qv s c3 d3 : Nat} {A mA A2 nA : Accs} {V mV V2 nV : Vals} {A0 B0 A3 B3 : Option Addr} (h : Dr w wr p ba bv A V r A0 c mA B0 d mV q qa qv A2 V2 s A3 c3 nA B3 d3 nV) (hb : Below wr.heap.size wr wr') : Dr w wr' p ba bv A V r A0 c mA B0 d mV q qa qv A2 V2 s A3 c3 nA B3 d3 nV :=
  ⟨h.dn.grow hb, h.st2.below hb, h.n1, h.n2, h.n3, h.n4, iter_call h.box2 hb, readsN_below h.ra2 hb, readsN_below h.rb2 hb⟩
theorem Dr.do {w wr wr' : World} {p ba bv r c d q qa qv s c3 d3 : Nat} {A mA A2 nA A' : Accs} {V mV V2 nV V' : Vals} {A0 B0 A3 B3 : Option Addr} (h : Dr w wr p ba bv A V r A0 c mA B0 d mV q qa qv A2 V2 s A3 c3 nA B3 d3 nV) (hs : IsState wr' p ba bv A' V') (hk : Kept (fun k => k = ba ∨ k = bv) wr wr') : Dr w wr' p ba bv A' V' r A0 c mA B0 d mV q qa qv A2 V2 s A3 c3 nA B3 d3 nV :=
  ⟨h.dn.do hs hk, state_kept h.dn.st h.st2 hk h.n1 h.n2 h.n3 h.n4, h.n1, h.n2, h.n3, h.n4, kept_cells hk h.box2 (by rintro (e | e); exact map_ne_cells h.dn.st.accs h.box2 e; exact map_ne_cells h.dn.st.vals h.box2 e), readsN_kept h.ra2 h.dn.st hk, readsN_kept h.rb2 h.dn.st hk⟩
theorem Dr.store {w wr : World} {p ba bv r c d q qa qv s c3 d3 : Nat} {A mA A2 nA : Accs} {V mV V2 nV : Vals} {A0 B0 A3 B3 : Option Addr} (h : Dr w wr p ba bv A V r A0 c mA B0 d mV q qa qv A2 V2 s A3 c3 nA B3 d3 nV) : Dn w ((wr.setCell ⟨r, 0, none⟩ (.slice A3 nA.length c3)).setCell ⟨r, 1, none⟩ (.slice B3 nV.length d3)) p ba bv A V r A3 c3 nA B3 d3 nV :=
  h.dn.store h.ra2 h.rb2
theorem Dr.made1 {w w6 w7 : World} {p ba bv r c d q qa qv c3 d3 : Nat} {A mA nA : Accs} {V mV nV : Vals} {A0 B0 A3 B3 : Option Addr} (h : Dn w w6 p ba bv A V r A0 c mA B0 d mV) (hq : IsState w6 q qa qv A V) (hn : qa ≠ ba ∧ qa ≠ bv ∧ qv ≠ ba ∧ qv ≠ bv) (hb : Below w6.heap.size w6 w7) (ha : ReadsN w7 A3 3 (nA.map rowA)) (hv : ReadsN w7 B3 3 (nV.map rowV)) :
    Dr w (w7.alloc (.cells #[.slice A3 nA.length c3, .slice B3 nV.length d3] 50 (0, 0))) p ba bv A V r A0 c mA B0 d mV q qa qv A V w7.heap.size A3 c3 nA B3 d3 nV := by
  have hb2 : Below w7.heap.size w7 (w7.alloc (.cells #[.slice A3 nA.length c3, .slice B3 nV.length d3] 50 (0, 0))) := (Below.refl _ _).alloc (Nat.le_refl _) _
  exact ⟨(h.grow hb).grow hb2, (hq.below hb).below hb2, hn.1, hn.2.1, hn.2.2.1, hn.2.2.2, heap_new _ _, readsN_below ha hb2, readsN_below hv hb2⟩
theorem Dr.made2 {w w6 w7 : World} {p ba bv r c d q qa qv c3 d3 : Nat} {A mA nA : Accs} {V mV nV : Vals} {A0 B0 A3 B3 : Option Addr} (h : Dn w w6 p ba bv A V r A0 c mA B0 d mV) (hq : IsState w6 q qa qv A V) (hn : qa ≠ ba ∧ qa ≠ bv ∧ qv ≠ ba ∧ qv ≠ bv) (hb : Below w6.heap.size w6 w7) (hx : w7.heap[w6.heap.size]? = some (.cells #[.slice none 0 0, .slice none 0 0] 50 (0, 0))) (ha : ReadsN w7 A3 3 (nA.map rowA)) (hv : ReadsN w7 B3 3 (nV.map rowV)) :
    Dr w ((w7.setCell ⟨w6.heap.size, 0, none⟩ (.slice A3 nA.length c3)).setCell ⟨w6.heap.size, 1, none⟩ (.slice B3 nV.length d3)) p ba bv A V r A0 c mA B0 d mV q qa qv A V w6.heap.size A3 c3 nA B3 d3 nV := by
  have hb2 : Below w6.heap.size w6 ((w7.setCell ⟨w6.heap.size, 0, none⟩ (.slice A3 nA.length c3)).setCell ⟨w6.heap.size, 1, none⟩ (.slice B3 nV.length d3)) := (hb.setCell (p := ⟨w6.heap.size, 0, none⟩) (Nat.le_refl _) _).setCell (p := ⟨w6.heap.size, 1, none⟩) (Nat.le_refl _) _
  exact ⟨h.grow hb2, hq.below hb2, hn.1, hn.2.1, hn.2.2.1, hn.2.2.2, by have := heap_set_at 1 (.slice B3 nV.length d3) (heap_set_at 0 (.slice A3 nA.length c3) hx); simpa using this, readsN_set2 ha (rowsA_str _) hx (by simp) (by simp) _ _, readsN_set2 hv (rowsV_str _) hx (by simp) (by simp) _ _⟩
theorem keep2 {W : World} {a : Addr} {v : Value} (h : W.cell? a = some v) {b : Nat} (hb : b ≠ a.block) (x y : Value) : ((W.setCell ⟨b, 0, none⟩ x).setCell ⟨b, 1, none⟩ y).cell? a = some v :=
  (World.cell?_setCell_far _ _ _ y hb).trans ((World.cell?_setCell_far _ _ _ x hb).trans h)
theorem two_cells {w : World} {b : Nat} {x y : Value} {T : TypeId} {fz : Nat × Nat} (h : w.heap[b]? = some (.cells #[x, y] T fz)) : w.cell? ⟨b, 0, none⟩ = some x ∧ w.cell? ⟨b, 1, none⟩ = some y := ⟨cell_at h 0, cell_at h 1⟩
set_option maxHeartbeats 8000000 in
set_option maxRecDepth 100000 in
theorem does_main (l : List (ByteArray × Int)) (A0 : Option Addr) (c0 : Nat) (bs : List Tx) (B0 : Option Addr) (c1 : Nat) (w : World) (hin : ApIn w l A0 bs B0)
    (gA : greatA l = false) (gB : greatL bs = false) (hz : (newR l).1 = 0) :
    Calls Tryd.prog 6 #[.slice A0 l.length c0, .slice B0 bs.length c1] w (Ret w (.bool true)) := by
  have HT := Lib.hid hin.tabs
  have HRA := Lib.hid hin.ra
  have HRB := Lib.hid hin.rb
  have hla : l.length ≤ 60 ∧ ∀ x ∈ l, x.1.size ≤ 1000 := by
    have g := gA
    unfold greatA at g
    rw [Bool.or_eq_false_iff] at g
    refine ⟨by simpa using g.1, fun x hx => ?_⟩
    have := any_false g.2 x hx
    simpa using this
  have hlb : bs.length ≤ 60 ∧ ∀ t ∈ bs, greatT t = false := by
    have g := gB
    unfold greatL at g
    rw [Bool.or_eq_false_iff] at g
    exact ⟨by simpa using g.1, any_false g.2⟩
  have HSZ : Hid (∀ x ∈ l, x.1.size ≤ 35184372088831) := fun x hx => by have := hla.2 x hx; omega
  have HSB : Hid (∀ t ∈ bs, greatT t = false) := hlb.2
  have HBO : Hid (Both (60 + 2 * 0) (newR l).2 [] (newR l).2 []) := by
    have h := both_new (l := l) fun x hx => ⟨hla.2 x hx, hin.ints x hx⟩
    exact ⟨h.fit.mono hla.1, h.fitM.mono hla.1, h.acc, h.val, h.good, h.nons⟩
  have HS : Hid (∀ W, Below w.heap.size w W → Calls Tryd.prog 12 #[.slice A0 l.length c0] W (fun e w' => Below W.heap.size W w' ∧ e = .returned (.tuple #[.pointer (some ⟨W.heap.size + 1 + 1, 0, none⟩), .int .i64 0]) ∧ IsState w' (W.heap.size + 1 + 1) W.heap.size (W.heap.size + 1) (newR l).2 [])) := fun W hW => (new_any l A0 c0 HSZ.out W (readsN_below hin.ra hW)).mono fun e w' h => by
    have := h.2
    rw [if_pos hz] at this
    exact ⟨h.1, this⟩
  have HN : Hid (∀ W, Below w.heap.size w W → Calls Tryd.prog 23 #[.slice A0 l.length c0] W (RDoPost (0, (newR l).2, []) W)) := fun W hW => by have := refNew_any l A0 c0 hla.1 hla.2 W (readsN_below hin.ra hW); rw [hz] at this; exact this
  have hbl := hlb.1
  clear hin hla hlb hz HSZ
  generalize (newR l).2 = N0 at HN HS HBO
  go_enter Tryd.func6, Tryd.ntmps6
  go_wp2_with (first | (go_at_call 9; ((with_reducible refine (alive_any _ HT.out).mono ?_)); rintro e w1 ⟨rfl, hb⟩; have HB1 := Lib.hid hb; clear hb) | (go_at_call 10; ((with_reducible refine (greatA_any l A0 c0 _ (readsN_below HRA.out HB1.out)).mono ?_)); rintro e w2 ⟨rfl, hb⟩; rw [gA]; have HB2 := Lib.hid (below_call HB1.out HB1.out.size hb); clear hb) | (go_at_call 11; ((with_reducible refine (greatL_any bs B0 c1 _ (readsN_below HRB.out HB2.out)).mono ?_)); rintro e w3 ⟨rfl, hb⟩; rw [gB]; have HB3 := Lib.hid (below_call HB2.out HB2.out.size hb); clear hb) | (go_at_call 12; ((with_reducible refine (HS.out _ HB3.out).mono ?_)); rintro e w4 ⟨hb, rfl, hS⟩; have HB4 := Lib.hid (below_call HB3.out HB3.out.size hb); have hw1 := HB3.out.size; have HS4 := Lib.hid hS; clear hb hS; generalize w3.heap.size + 1 + 1 = p at HS4 ⊢; have hf1 : w.heap.size ≤ w3.heap.size + 1 := (by omega); generalize w3.heap.size + 1 = bv at HS4 hf1; generalize w3.heap.size = ba at HS4 hw1) | (go_at_call 23; ((with_reducible refine (HN.out _ HB4.out).mono ?_)); rintro e w5 ⟨A1, d1, B1, d2, rfl, hr1, hr2, hb⟩; have HB5 := Lib.hid (below_call HB4.out HB4.out.size hb); have HS5 := Lib.hid (HS4.out.below hb); have HR1 := Lib.hid hr1; have HR2 := Lib.hid hr2; clear hb hr1 hr2))
  have D0 : Hid (Dn w (w5.alloc (.cells #[.slice A1 N0.length d1, .slice B1 ([] : Vals).length d2] 50)) p ba bv N0 [] w5.heap.size A1 d1 N0 B1 d2 []) := by
    have hb : Below w5.heap.size w5 (w5.alloc (.cells #[.slice A1 N0.length d1, .slice B1 ([] : Vals).length d2] 50)) := (Below.refl _ _).alloc (Nat.le_refl _) _
    exact ⟨HS5.out.below hb, below_call HB5.out HB5.out.size hb, heap_new _ _, readsN_below HR1.out hb, readsN_below HR2.out hb, hw1, hf1, HB5.out.size⟩
  generalize w5.heap.size = r at D0 ⊢
  clear HN HS HB1 HB2 HB3 HB4 HB5 HS4 HS5 HR1 HR2 hw1 hf1
  go_loopw [9] (fun i wr => ∃ (k : Nat) (A : Accs) (V : Vals) (mA : Accs) (mV : Vals) (A1 : Option Addr) (c : Nat) (B1 : Option Addr) (d : Nat), i = .int .i64 k ∧ k ≤ bs.length ∧ Hid (Both (60 + 2 * k) A V mA mV) ∧ Hid (Dn w wr p ba bv A V r A1 c mA B1 d mV)) (fun i _ => bs.length - (intOf i).toNat)
  case atStart => exact ⟨0, _, _, _, _, _, _, _, _, rfl, by omega, HBO, D0⟩
  case round =>
    obtain ⟨k, A, V, mA, mV, A1, c, B1, d, rfl, hk, HBO, D⟩ := hrel
    clear D0
    have b0 := (two_cells D.out.box).1
    have b1 := (two_cells D.out.box).2
    by_cases hlt : k < bs.length
    · obtain ⟨t, ht⟩ : ∃ t, bs[k] = t := ⟨_, rfl⟩
      obtain ⟨tk, tf, tt, tkey, tv, ta, tn⟩ := t
      have HSL : Hid (Tx.Slim ⟨tk, tf, tt, tkey, tv, ta, tn⟩) := slim_of (by rw [← ht]; exact HSB.out _ (List.getElem_mem hlt))
      obtain ⟨ad, had, -⟩ := tx_cells HRB.out hlt
      subst had
      have HTX : Hid (∀ W, Below w.heap.size w W → W.cell? (ad.add (k * 7)) = some (.int .i64 tk) ∧
          W.cell? ⟨(ad.add (k * 7)).block, (ad.add (k * 7)).off + 1, none⟩ = some (.string tf) ∧ W.cell? ⟨(ad.add (k * 7)).block, (ad.add (k * 7)).off + 2, none⟩ = some (.string tt) ∧ W.cell? ⟨(ad.add (k * 7)).block, (ad.add (k * 7)).off + 3, none⟩ = some (.string tkey) ∧
          W.cell? ⟨(ad.add (k * 7)).block, (ad.add (k * 7)).off + 4, none⟩ = some (.string tv) ∧ W.cell? ⟨(ad.add (k * 7)).block, (ad.add (k * 7)).off + 5, none⟩ = some (.int .i64 ta) ∧ W.cell? ⟨(ad.add (k * 7)).block, (ad.add (k * 7)).off + 6, none⟩ = some (.int .i64 tn)) := fun W hb => by
        obtain ⟨ad2, e, h⟩ := tx_cells (readsN_below HRB.out hb) hlt
        cases e
        rw [ht] at h
        exact h
      have HX0 : Hid (∀ W, Below w.heap.size w W → W.cell? (ad.add (k * 7)) = some (.int .i64 tk)) := fun W hW => (HTX.out W hW).1
      have HX1 : Hid (∀ W, Below w.heap.size w W → W.cell? ⟨(ad.add (k * 7)).block, (ad.add (k * 7)).off + 1, none⟩ = some (.string tf)) := fun W hW => (HTX.out W hW).2.1
      have HX2 : Hid (∀ W, Below w.heap.size w W → W.cell? ⟨(ad.add (k * 7)).block, (ad.add (k * 7)).off + 2, none⟩ = some (.string tt)) := fun W hW => (HTX.out W hW).2.2.1
      have HX3 : Hid (∀ W, Below w.heap.size w W → W.cell? ⟨(ad.add (k * 7)).block, (ad.add (k * 7)).off + 3, none⟩ = some (.string tkey)) := fun W hW => (HTX.out W hW).2.2.2.1
      have HX4 : Hid (∀ W, Below w.heap.size w W → W.cell? ⟨(ad.add (k * 7)).block, (ad.add (k * 7)).off + 4, none⟩ = some (.string tv)) := fun W hW => (HTX.out W hW).2.2.2.2.1
      have HX5 : Hid (∀ W, Below w.heap.size w W → W.cell? ⟨(ad.add (k * 7)).block, (ad.add (k * 7)).off + 5, none⟩ = some (.int .i64 ta)) := fun W hW => (HTX.out W hW).2.2.2.2.2.1
      have HX6 : Hid (∀ W, Below w.heap.size w W → W.cell? ⟨(ad.add (k * 7)).block, (ad.add (k * 7)).off + 6, none⟩ = some (.int .i64 tn)) := fun W hW => (HTX.out W hW).2.2.2.2.2.2
      have HE : Hid ((refDo mA mV ⟨tk, tf, tt, tkey, tv, ta, tn⟩).1 = (doR A V ⟨tk, tf, tt, tkey, tv, ta, tn⟩).1) := both_err HBO.out _
      have HB2 : Hid (Both (60 + 2 * (k + 1)) (doR A V ⟨tk, tf, tt, tkey, tv, ta, tn⟩).2.1 (doR A V ⟨tk, tf, tt, tkey, tv, ta, tn⟩).2.2 (refDo mA mV ⟨tk, tf, tt, tkey, tv, ta, tn⟩).2.1 (refDo mA mV ⟨tk, tf, tt, tkey, tv, ta, tn⟩).2.2) := both_do HBO.out HSL.out
      have hmA : mA.length ≤ 100000 := by have := HBO.out.fitM.lenA; omega
      have hmV : mV.length ≤ 100000 := by have := HBO.out.fitM.lenV; omega
      have HDO : Hid (∀ W A1 c B1 d, ReadsN W A1 3 (mA.map rowA) → ReadsN W B1 3 (mV.map rowV) → Calls Tryd.prog 24 #[.agg #[.slice A1 mA.length c, .slice B1 mV.length d], .agg #[.int .i64 tk, .string tf, .string tt, .string tkey, .string tv, .int .i64 ta, .int .i64 tn]] W (RDoPost (refDo mA mV ⟨tk, tf, tt, tkey, tv, ta, tn⟩) W)) := fun W A1 c B1 d h1 h2 => refDo_any mA A1 c mV B1 d tk ta tn tf tt tkey tv hmA hmV HSL.out W h1 h2
      obtain ⟨⟨re, nA, nV⟩, hrd⟩ : ∃ x, refDo mA mV ⟨tk, tf, tt, tkey, tv, ta, tn⟩ = x := ⟨_, rfl⟩
      obtain ⟨⟨er, A2, V2⟩, hdo⟩ : ∃ x, doR A V ⟨tk, tf, tt, tkey, tv, ta, tn⟩ = x := ⟨_, rfl⟩
      rw [hrd] at HE HB2 HDO
      rw [hdo] at HE HB2
      have hee := HE.out
      dsimp only at hee
      subst hee
      have HDD := Lib.hid hdo
      clear hrd hdo hmA hmV ht HE
      have HS1 : Hid (∀ W q qa qv A1 c B1 d, IsState W q qa qv A V → Below w.heap.size w W → ReadsN W A1 3 (mA.map rowA) → ReadsN W B1 3 (mV.map rowV) → Calls Tryd.prog 25 #[.pointer (some ⟨q, 0, none⟩), .agg #[.slice A1 mA.length c, .slice B1 mV.length d], .slice (some ad) bs.length c1] W (Ret W (.bool true))) := fun W q qa qv A1 c B1 d h1 h0 h2 h3 => shows_any (60 + 2 * k) (by omega) q qa qv A V mA mV (HBO.out.alike (Nat.le_refl _)) A1 c B1 d bs (some ad) c1 hbl W h1 h2 h3 (readsN_below HRB.out h0)
      have HS2 : Hid (∀ W A1 c B1 d, Dn w W p ba bv A2 V2 r A1 c nA B1 d nV → Calls Tryd.prog 25 #[.pointer (some ⟨p, 0, none⟩), .agg #[.slice A1 nA.length c, .slice B1 nV.length d], .slice (some ad) bs.length c1] W (Ret W (.bool true))) := fun W A1 c B1 d h => shows_any (60 + 2 * (k + 1)) (by omega) p ba bv A2 V2 nA nV (HB2.out.alike (Nat.le_refl _)) A1 c B1 d bs (some ad) c1 hbl W h.st h.ra h.rb (readsN_below HRB.out h.below)
      have q3 : (re != re) = false := by simp
      go_wp2_with (first | (go_at_call 14; ((with_reducible refine (copy_any p ba bv A V _ D.out.st).mono ?_)); rintro e w6 ⟨q, qa, qv, rfl, hs, hb, hq1, hq2, hq3⟩; have D6 := Lib.hid (D.out.grow hb); have HQ6 := Lib.hid hs; have hl1 := D.out.st.accs.lt; have hl2 := D.out.st.vals.lt; have HNE : Hid (qa ≠ ba ∧ qa ≠ bv ∧ qv ≠ ba ∧ qv ≠ bv) := (by refine ⟨?_, ?_, ?_, ?_⟩ <;> omega); clear hs hb hq1 hq2 hq3 hl1 hl2))
      have b2 := (two_cells D6.out.box).1
      have b3 := (two_cells D6.out.box).2
      obtain ⟨k0, k1, k2, k3, k4, k5, k6⟩ := HTX.out _ D6.out.below
      clear b0 b1
      have y1 : (0 : Int) ≤ (k : Int) := by omega
      have y2 : (k : Int) < (bs.length : Int) := by omega
      have hlr : r < w6.heap.size := size_lt_of D6.out.box
      have hla : (ad.add (k * 7)).block < w6.heap.size := World.block_lt_of_cell? w6 _ k0
      have HY : Hid (Below w6.heap.size w6 w6.drew) := (Below.refl w6.heap.size w6).drew
      have HZ : Hid (Below w6.heap.size w6 (w6.alloc (.cells #[.slice none 0 0, .slice none 0 0] 50 (0, 0))).drew) := ((Below.refl w6.heap.size w6).alloc (Nat.le_refl _) _).drew
      have HZX : Hid ((w6.alloc (.cells #[.slice none 0 0, .slice none 0 0] 50 (0, 0))).drew.heap[w6.heap.size]? = some (.cells #[.slice none 0 0, .slice none 0 0] 50 (0, 0))) := heap_new w6 _
      have hn1 : w6.heap.size ≠ r := by omega
      have hn2 : w6.heap.size ≠ (ad.add (k * 7)).block := by omega
      go_region_held3 (fun W => W.cell? ⟨r, 0, none⟩ = some (.slice A1 mA.length c) ∧ W.cell? ⟨r, 1, none⟩ = some (.slice B1 mV.length d) ∧ W.cell? (ad.add (k * 7)) = some (.int .i64 tk) ∧ W.cell? ⟨(ad.add (k * 7)).block, (ad.add (k * 7)).off + 1, none⟩ = some (.string tf) ∧ W.cell? ⟨(ad.add (k * 7)).block, (ad.add (k * 7)).off + 2, none⟩ = some (.string tt) ∧ W.cell? ⟨(ad.add (k * 7)).block, (ad.add (k * 7)).off + 3, none⟩ = some (.string tkey) ∧ W.cell? ⟨(ad.add (k * 7)).block, (ad.add (k * 7)).off + 4, none⟩ = some (.string tv) ∧ W.cell? ⟨(ad.add (k * 7)).block, (ad.add (k * 7)).off + 5, none⟩ = some (.int .i64 ta) ∧ W.cell? ⟨(ad.add (k * 7)).block, (ad.add (k * 7)).off + 6, none⟩ = some (.int .i64 tn)) (first | (go_keep; done) | exact ⟨keep2 e0 hn1 _ _, keep2 e1 hn1 _ _, keep2 a0 hn2 _ _, keep2 a1 hn2 _ _, keep2 a2 hn2 _ _, keep2 a3 hn2 _ _, keep2 a4 hn2 _ _, keep2 a5 hn2 _ _, keep2 a6 hn2 _ _⟩ | exact ⟨e0, e1, a0, a1, a2, a3, a4, a5, a6⟩) ((first | (go_at_call 24; ((with_reducible refine (HDO.out _ _ _ _ _ (readsN_below D6.out.ra HY.out) (readsN_below D6.out.rb HY.out)).mono ?_)); rintro e w7 ⟨A3, c3, B3, d3, rfl, hr1, hr2, hb⟩; have HB7 := Lib.hid (below_call HY.out HY.out.size hb); have HR1 := Lib.hid hr1; have HR2 := Lib.hid hr2; have D7 := Lib.hid (D6.out.grow HB7.out); clear hb hr1 hr2; obtain ⟨e0, e1⟩ := two_cells D7.out.box; have a0 := HX0.out w7 D7.out.below; have a1 := HX1.out w7 D7.out.below; have a2 := HX2.out w7 D7.out.below; have a3 := HX3.out w7 D7.out.below; have a4 := HX4.out w7 D7.out.below; have a5 := HX5.out w7 D7.out.below; have a6 := HX6.out w7 D7.out.below; clear D7) | (go_at_call 24; ((with_reducible refine (HDO.out _ _ _ _ _ (readsN_below D6.out.ra (HZ.out)) (readsN_below D6.out.rb (HZ.out))).mono ?_)); rintro e w7 ⟨A3, c3, B3, d3, rfl, hr1, hr2, hb⟩; have HB7 := Lib.hid (below_call HZ.out HZ.out.size hb); have HX7 := Lib.hid (iter_call HZX.out hb); obtain ⟨s0, s1⟩ := two_cells HX7.out; have s2 := frozen_at HX7.out 0; have s3 := frozen_at HX7.out 1; have HR1 := Lib.hid hr1; have HR2 := Lib.hid hr2; have D7 := Lib.hid (D6.out.grow HB7.out); clear hb hr1 hr2; obtain ⟨e0, e1⟩ := two_cells D7.out.box; have a0 := HX0.out w7 D7.out.below; have a1 := HX1.out w7 D7.out.below; have a2 := HX2.out w7 D7.out.below; have a3 := HX3.out w7 D7.out.below; have a4 := HX4.out w7 D7.out.below; have a5 := HX5.out w7 D7.out.below; have a6 := HX6.out w7 D7.out.below; clear D7)))
      · have DR := Lib.hid (Dr.made1 (c3 := c3) (d3 := d3) D6.out HQ6.out HNE.out HB7.out HR1.out HR2.out)
        generalize (w7.alloc (.cells #[.slice A3 nA.length c3, .slice B3 nV.length d3] 50 (0, 0))) = w8 at DR ⊢
        generalize w7.heap.size = s at DR ⊢
        clear D6 HQ6 HNE HB7 HR1 HR2 HY HZ HZX hn1 hn2 hlr hla e0 e1 a0 a1 a2 a3 a4 a5 a6 b2 b3 k0 k1 k2 k3 k4 k5 k6
        obtain ⟨e0, e1⟩ := two_cells DR.out.dn.box
        obtain ⟨a0, a1, a2, a3, a4, a5, a6⟩ := HTX.out _ DR.out.dn.below
        go_wp2_with (first | (go_at_call 13; ((with_reducible refine (do_any p ba bv A V tk ta tn tf tt tkey tv (slim_small HSL.out) _ (tabs_keep HT.out DR.out.dn.below) DR.out.dn.st).mono ?_)); rintro e w9 ⟨he, hs, hk⟩; rw [HDD.out] at he hs; obtain rfl := he; have DR2 := Lib.hid (DR.out.do hs hk); clear hs hk; obtain ⟨m0, m1⟩ := two_cells DR2.out.dn.box) | (go_at_call 25; ((with_reducible refine (HS2.out _ _ _ _ _ DN1.out).mono ?_)); rintro e w11 ⟨rfl, hb⟩; have DN2 := Lib.hid (DN1.out.grow hb); clear hb) | (go_at_call 25; ((with_reducible refine (HS1.out _ _ _ _ _ _ _ _ DR2.out.st2 DR2.out.dn.below DR2.out.dn.ra DR2.out.dn.rb).mono ?_)); rintro e w10 ⟨rfl, hb⟩; have DR3 := Lib.hid (DR2.out.grow hb); clear hb; obtain ⟨n0, n1⟩ := two_cells DR3.out.box2; obtain ⟨r0, r1⟩ := two_cells DR3.out.dn.box; have r2 := frozen_at DR3.out.dn.box 0; have r3 := frozen_at DR3.out.dn.box 1; have DN1 := Lib.hid DR3.out.store))
        go_roundw
        case rel => exact ⟨k + 1, A2, V2, nA, nV, A3, c3, B3, d3, by go_num, by omega, HB2, DN2⟩
        case measure => simp [intOf]; omega
      · have DR := Lib.hid (Dr.made2 (c3 := c3) (d3 := d3) D6.out HQ6.out HNE.out HB7.out HX7.out HR1.out HR2.out)
        generalize ((w7.setCell ⟨w6.heap.size, 0, none⟩ (.slice A3 nA.length c3)).setCell ⟨w6.heap.size, 1, none⟩ (.slice B3 nV.length d3)) = w8 at DR ⊢
        generalize w6.heap.size = s at DR ⊢
        clear D6 HX7 s0 s1 s2 s3 HQ6 HNE HB7 HR1 HR2 HY HZ HZX hn1 hn2 hlr hla e0 e1 a0 a1 a2 a3 a4 a5 a6 b2 b3 k0 k1 k2 k3 k4 k5 k6
        obtain ⟨e0, e1⟩ := two_cells DR.out.dn.box
        obtain ⟨a0, a1, a2, a3, a4, a5, a6⟩ := HTX.out _ DR.out.dn.below
        go_wp2_with (first | (go_at_call 13; ((with_reducible refine (do_any p ba bv A V tk ta tn tf tt tkey tv (slim_small HSL.out) _ (tabs_keep HT.out DR.out.dn.below) DR.out.dn.st).mono ?_)); rintro e w9 ⟨he, hs, hk⟩; rw [HDD.out] at he hs; obtain rfl := he; have DR2 := Lib.hid (DR.out.do hs hk); clear hs hk; obtain ⟨m0, m1⟩ := two_cells DR2.out.dn.box) | (go_at_call 25; ((with_reducible refine (HS2.out _ _ _ _ _ DN1.out).mono ?_)); rintro e w11 ⟨rfl, hb⟩; have DN2 := Lib.hid (DN1.out.grow hb); clear hb) | (go_at_call 25; ((with_reducible refine (HS1.out _ _ _ _ _ _ _ _ DR2.out.st2 DR2.out.dn.below DR2.out.dn.ra DR2.out.dn.rb).mono ?_)); rintro e w10 ⟨rfl, hb⟩; have DR3 := Lib.hid (DR2.out.grow hb); clear hb; obtain ⟨n0, n1⟩ := two_cells DR3.out.box2; obtain ⟨r0, r1⟩ := two_cells DR3.out.dn.box; have r2 := frozen_at DR3.out.dn.box 0; have r3 := frozen_at DR3.out.dn.box 1; have DN1 := Lib.hid DR3.out.store))
        go_roundw
        case rel => exact ⟨k + 1, A2, V2, nA, nV, A3, c3, B3, d3, by go_num, by omega, HB2, DN2⟩
        case measure => simp [intOf]; omega
    · have HS1 : Hid (∀ W, Dn w W p ba bv A V r A1 c mA B1 d mV → Calls Tryd.prog 25 #[.pointer (some ⟨p, 0, none⟩), .agg #[.slice A1 mA.length c, .slice B1 mV.length d], .slice B0 bs.length c1] W (Ret W (.bool true))) := fun W h => shows_any (60 + 2 * k) (by omega) p ba bv A V mA mV (HBO.out.alike (Nat.le_refl _)) A1 c B1 d bs B0 c1 hbl W h.st h.ra h.rb (readsN_below HRB.out h.below)
      go_wp2_with (first | (go_at_call 25; ((with_reducible refine (HS1.out _ D.out).mono ?_)); rintro e w11 ⟨rfl, hb⟩; have DN2 := Lib.hid (D.out.grow hb); clear hb))
      go_ret
      exact ret_bool rfl DN2.out.below
end Go.Proofs.YtnhpkefjmpgneaaDoor
