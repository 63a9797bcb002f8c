import Derived.Test.YtnhpkefjmpgneaaDoorState2
namespace Go.Proofs.YtnhpkefjmpgneaaDoor
open Go.RowKit

/-! ### state.New -/
/-- A slice whose element k has these cells. -/
def ReadsN (w : World) (A : Option Addr) (size : Nat) (xs : List (List Value)) : Prop :=
  xs.length ≤ 9223372036854775807 ∧ (0 < xs.length → ∃ ad, A = some ad ∧ ∀ k cs, xs[k]? = some cs → ∀ j u, cs[j]? = some u → w.cell? (ad.add (k * size + j)) = some u)
theorem readsN_below {w w' : World} {A : Option Addr} {size : Nat} {xs : List (List Value)} (h : ReadsN w A size xs) (hb : Below w.heap.size w w') : ReadsN w' A size xs :=
  ⟨h.1, fun hn => by
    obtain ⟨ad, e, hc⟩ := h.2 hn
    exact ⟨ad, e, fun k cs hk j u hj => (hb.cell (World.block_lt_of_cell? w _ (hc k cs hk j u hj))).trans (hc k cs hk j u hj)⟩⟩
theorem add_off (ad : Addr) (n j : Nat) (h : 0 < j) : (⟨(ad.add n).block, (ad.add n).off + j, none⟩ : Addr) = ad.add (n + j) := by
  unfold Addr.add
  by_cases hn : n = 0
  · subst hn; simp; omega
  · simp [hn]; omega
/-- The cells of element k: the first one at its address, the others behind it. -/
theorem readsN_at {w : World} {A : Option Addr} {size : Nat} {xs : List (List Value)} (h : ReadsN w A size xs) {k : Nat} {c : Value} {cs : List Value} (hk : xs[k]? = some (c :: cs)) :
    ∃ ad, A = some ad ∧ w.cell? (ad.add (k * size)) = some c ∧ ∀ j u, cs[j]? = some u → w.cell? ⟨(ad.add (k * size)).block, (ad.add (k * size)).off + (j + 1), none⟩ = some u := by
  obtain ⟨ad, e, hc⟩ := h.2 (by have := (List.getElem?_eq_some_iff.1 hk).1; omega)
  refine ⟨ad, e, hc k _ hk 0 c rfl, fun j u hj => ?_⟩
  rw [add_off _ _ _ (by omega)]
  exact hc k _ hk (j + 1) u (by simpa using hj)

def acct (x : ByteArray × Int) : List Value := [.string x.1, .int .i64 x.2]
def newGo : List (ByteArray × Int) → Int → Accs → Int × Accs
  | [], _, A => (0, A)
  | (nm, am) :: r, all, A =>
    if nameErr nm ≠ 0 ∨ am < 0 then (1, [])
    else if (aget A nm).isSome then (100, [])
    else if (addR all am).2 ≠ 0 then ((addR all am).2, [])
    else newGo r (addR all am).1 (aput A nm (am, 0))
def newR (l : List (ByteArray × Int)) : Int × Accs := newGo l 0 []
/-- What New returns. -/
def NewPost (l : List (ByteArray × Int)) (w : World) (e : Ending) (w' : World) : Prop :=
  Below w.heap.size w w' ∧ (if (newR l).1 = 0 then
    e = .returned (.tuple #[.pointer (some ⟨w.heap.size + 1 + 1, 0, none⟩), .int .i64 0]) ∧ IsState w' (w.heap.size + 1 + 1) w.heap.size (w.heap.size + 1) (newR l).2 []
  else e = .returned (.tuple #[.pointer none, .int .i64 (newR l).1]))

theorem newGo_drop (l : List (ByteArray × Int)) (k : Nat) (h : k < l.length) (all : Int) (A : Accs) : newGo (l.drop k) all A = newGo ((l[k].1, l[k].2) :: l.drop (k + 1)) all A := by
  rw [List.drop_eq_getElem_cons h]
theorem size_lt_of {w : World} {k : Nat} {o : Obj} (h : w.heap[k]? = some o) : k < w.heap.size := (Array.getElem?_eq_some_iff.1 h).1
theorem newPost_bad {l : List (ByteArray × Int)} {w w' : World} {e : Int} (h : newR l = (e, [])) (he : e ≠ 0) (hB : Below w.heap.size w w') : NewPost l w (.returned (.tuple #[.pointer none, .int .i64 e])) w' := by
  refine ⟨hB, ?_⟩
  rw [h]
  simp only [he, if_false]
theorem newPost_good {l : List (ByteArray × Int)} {w w' : World} {A : Accs} (h : newR l = (0, A)) (hB : Below w.heap.size w w') (hS : IsState w' (w.heap.size + 1 + 1) w.heap.size (w.heap.size + 1) A []) : NewPost l w (.returned (.tuple #[.pointer (some ⟨w.heap.size + 1 + 1, 0, none⟩), .int .i64 0])) w' := by
  refine ⟨hB, ?_⟩
  rw [h]
  exact ⟨rfl, hS⟩
theorem isState_new (w : World) : IsState (((w.alloc (.map #[] 0)).alloc (.map #[] 0)).alloc (.cells #[.map (some w.heap.size), .map (some (w.heap.size + 1))] 81)) (w.heap.size + 1 + 1) w.heap.size (w.heap.size + 1) [] [] := by
  have h1 : Below w.heap.size.succ (w.alloc (.map #[] 0)) (((w.alloc (.map #[] 0)).alloc (.map #[] 0)).alloc (.cells #[.map (some w.heap.size), .map (some (w.heap.size + 1))] 81)) := ((Below.refl _ _).alloc (by simp) _).alloc (by simp) _
  refine ⟨?_, (isMap_new w).keep (h1.block _ (by omega)), ?_, by omega⟩
  · have := heap_new ((w.alloc (.map #[] 0)).alloc (.map #[] 0)) (.cells #[.map (some w.heap.size), .map (some (w.heap.size + 1))] 81)
    simpa using this
  · have := (isMap_new (enc := placeV) (ev := entV) (w.alloc (.map #[] 0))).below ((Below.refl _ _).alloc (Nat.le_refl _) (.cells #[.map (some w.heap.size), .map (some (w.heap.size + 1))] 81))
    simpa using this

set_option maxHeartbeats 2000000 in
set_option maxRecDepth 100000 in
theorem new_any (l : List (ByteArray × Int)) (A0 : Option Addr) (c : Nat) (hl : ∀ x ∈ l, x.1.size ≤ 35184372088831) (w : World) (hr : ReadsN w A0 2 (l.map acct)) :
    Calls Tryd.prog 12 #[.slice A0 l.length c] w (NewPost l w) := by
  have hll : l.length ≤ 9223372036854775807 := by have := hr.1; simpa using this
  have HR := Lib.hid hr; have HL := Lib.hid hl; clear hr hl
  have hmm := @run_makeMap Tryd.prog
  go_enter Tryd.func12, Tryd.ntmps12
  go_wp2
  clear hmm
  go_loopw [5, 18] (fun n i wr => ∃ (k : Nat) (all : Int) (A : Accs), i = .int .i64 k ∧ n = .int .i64 all ∧ k ≤ l.length ∧ Hid (newGo (l.drop k) all A = newR l) ∧ Hid (IsState wr (w.heap.size + 1 + 1) w.heap.size (w.heap.size + 1) A []) ∧ Below w.heap.size w wr) (fun _ i _ => l.length - (intOf i).toNat)
  case atStart => exact ⟨0, 0, [], rfl, rfl, by omega, rfl, isState_new w, (((Below.refl _ _).alloc (Nat.le_refl _) _).alloc (by simp) _).alloc (by simp; omega) _⟩
  case round =>
    obtain ⟨k, all, A, rfl, rfl, hk, hg, hS, hB⟩ := hrel
    by_cases hlt : k < l.length
    · obtain ⟨nm, am, hx⟩ : ∃ nm am, l[k] = (nm, am) := ⟨_, _, rfl⟩
      have hcell : (l.map acct)[k]? = some (.string nm :: [.int .i64 am]) := by
        rw [List.getElem?_map, List.getElem?_eq_getElem hlt, hx]; rfl
      obtain ⟨ad, rfl, hc0, hc1'⟩ := readsN_at (readsN_below HR.out hB) hcell
      have hc1 := hc1' 0 _ rfl
      have hnm : Hid (nm.size ≤ maxLen) := by
        have := HL.out (l[k]) (List.getElem_mem hlt)
        rw [hx] at this
        unfold Hid maxLen
        dsimp only at this
        omega
      have hG : Hid (newR l = newGo ((nm, am) :: l.drop (k + 1)) all A) := by rw [Hid, ← hg.out, newGo_drop l k hlt, hx]
      clear hc1' hcell hx
      have hBX : Below w.heap.size w (wr.alloc (.cells #[.string nm, .int .i64 am] 77)) := hB.alloc hB.size _
      by_cases hbad : nameErr nm ≠ 0 ∨ am < 0
      · have hF : Hid (newR l = (1, [])) := by rw [Hid, hG.out, newGo, if_pos hbad]
        by_cases hn0 : nameErr nm = 0
        · have ham : am < 0 := by rcases hbad with h | h <;> first | exact absurd hn0 h | exact h
          have HN := Lib.hid hn0; clear hn0 hbad
          go_wp2_with (go_at_call 34; refine (check_any nm hnm.out _).mono ?_; rintro e w1 ⟨rfl, hb1⟩; rw [HN.out]; obtain ⟨hq1, hq2⟩ := bcell hb1)
          go_ret2
          exact newPost_bad hF.out (by decide) (below_call hBX hBX.size ‹_›)
        · have HN := Lib.hid (rfl : nameErr nm = nameErr nm)
          have en : (nameErr nm != 0) = true := by simp [hn0]
          clear hn0 hbad
          go_wp2_with (go_at_call 34; refine (check_any nm hnm.out _).mono ?_; rintro e w1 ⟨rfl, hb1⟩; rw [HN.out]; obtain ⟨hq1, hq2⟩ := bcell hb1)
          go_ret2
          exact newPost_bad hF.out (by decide) (below_call hBX hBX.size ‹_›)
      · have hn0 : nameErr nm = 0 := by
          rcases Classical.em (nameErr nm = 0) with h | h
          · exact h
          · exact absurd (.inl h) hbad
        have ham : 0 ≤ am := by
          rcases (show am < 0 ∨ 0 ≤ am by omega) with h | h
          · exact absurd (.inr h) hbad
          · exact h
        have hG2 : Hid (newR l = if (aget A nm).isSome then (100, []) else if (addR all am).2 ≠ 0 then ((addR all am).2, []) else newGo (l.drop (k + 1)) (addR all am).1 (aput A nm (am, 0))) := by rw [Hid, hG.out, newGo, if_neg hbad]
        have HN := Lib.hid hn0; clear hn0 hbad hG
        go_wp2_with (go_at_call 34; refine (check_any nm hnm.out _).mono ?_; rintro e w1 ⟨rfl, hb1⟩; rw [HN.out]; obtain ⟨hq1, hq2⟩ := bcell hb1)
        clear hq1 hq2
        have hB1 := below_call hBX hBX.size hb1
        have HS1 := Lib.hid (hS.out.below ((Below.refl _ _).alloc (Nat.le_refl _) (.cells #[.string nm, .int .i64 am] 77)) |>.below hb1)
        have hx1 : Hid (w1.heap[wr.heap.size]? = some (.cells #[.string nm, .int .i64 am] 77 (0, 0))) := (hb1.block _ (by simp)).trans (heap_new _ _)
        have c_x0 : w1.cell? ⟨wr.heap.size, 0, none⟩ = some (.string nm) := by rw [cell_at hx1.out]; rfl
        have c_p0 : w1.cell? ⟨w.heap.size + 1 + 1, 0, none⟩ = some (.map (some w.heap.size)) := by rw [cell_at HS1.out.head]; rfl
        have hz1 : w.heap.size + 1 + 1 < w1.heap.size := size_lt_of HS1.out.head
        have hz2 : wr.heap.size < w1.heap.size := size_lt_of hx1.out
        have hl := look_acc_ok (w := w1.drew) HS1.out.drew.accs nm
        have hl2 := fun o => look_acc_ok (w := (w1.alloc o).drew) ((HS1.out.accs.below ((Below.refl _ _).alloc (Nat.le_refl _) o)).keep rfl) nm
        obtain ⟨⟨a0, n0⟩, ha0⟩ : ∃ x : Int × Int, accOf A nm = x := ⟨_, rfl⟩
        rw [ha0] at hl
        simp only [ha0] at hl2
        clear ha0
        cases hthere : (aget A nm).isSome
        · have HG := Lib.hid hG2.out
          rw [hthere] at hl HG
          simp only [hthere] at hl2
          go_region
          clear hl hl2 hthere c_x0 c_p0
          have c_x1 : w1.cell? ⟨wr.heap.size, 1, none⟩ = some (.int .i64 am) := by rw [cell_at hx1.out]; rfl
          have hB2 := Lib.hid ((hB1.alloc hB1.size (.cells #[.int .i64 a0, .int .i64 n0] 84)).drew)
          have HS2 := Lib.hid ((HS1.out.below ((Below.refl _ _).alloc (Nat.le_refl _) (.cells #[.int .i64 a0, .int .i64 n0] 84))).drew)
          have hx2 : Hid ((w1.alloc (.cells #[.int .i64 a0, .int .i64 n0] 84)).drew.heap[wr.heap.size]? = some (.cells #[.string nm, .int .i64 am] 77 (0, 0))) := (Below.heap_alloc _ _ _ hz2).trans hx1.out
          obtain ⟨⟨sn, se⟩, hadd⟩ : ∃ x : Int × Int, addR all am = x := ⟨_, rfl⟩
          have HAD := Lib.hid hadd
          have HG3 : Hid (newR l = if se ≠ 0 then (se, []) else newGo (l.drop (k + 1)) sn (aput A nm (am, 0))) := by
            have := HG.out
            rw [hadd] at this
            exact this
          clear hadd
          by_cases hse : se = 0
          · subst hse
            have hF : Hid (newGo (l.drop (k + 1)) sn (aput A nm (am, 0)) = newR l) := HG3.out.symm
            go_wp2_with (go_at_call 35; refine (add_any _ _ _).mono ?_; rintro e w2 ⟨rfl, hb2⟩; rw [HAD.out])
            have hB3 := Lib.hid (below_call hB2.out hB2.out.size hb2)
            have HS3 := Lib.hid (HS2.out.below hb2)
            have hx3 := Lib.hid ((hb2.block _ (size_lt_of hx2.out)).trans hx2.out)
            clear hb2 c_x1
            have c_x0 : w2.cell? ⟨wr.heap.size, 0, none⟩ = some (.string nm) := by rw [cell_at hx3.out]; rfl
            have c_x1 : w2.cell? ⟨wr.heap.size, 1, none⟩ = some (.int .i64 am) := by rw [cell_at hx3.out]; rfl
            have c_p0 : w2.cell? ⟨w.heap.size + 1 + 1, 0, none⟩ = some (.map (some w.heap.size)) := by rw [cell_at HS3.out.head]; rfl
            obtain ⟨o, hput, hA'⟩ := put_acc (w := w2.drew) HS3.out.drew.accs nm am 0
            have HS4 := Lib.hid (HS3.out.drew.putAcc hA')
            have hB4 : Hid (Below w.heap.size w (World.withObj w2.drew w.heap.size o)) := Kept.below (S := fun k => k = w.heap.size) hB3.out.drew hB3.out.size ((Kept.refl (fun k => k = w.heap.size) w2.drew).withObj (b := w.heap.size) rfl o) (fun i hi => by omega)
            clear hA'
            go_region
            clear hput c_x0 c_x1 c_p0
            generalize World.withObj w2.drew w.heap.size o = w3 at HS4 hB4 ⊢
            go_wp2
            go_roundw
            case rel => exact ⟨k + 1, sn, aput A nm (am, 0), by go_num, rfl, by omega, hF, HS4, hB4.out⟩
            case measure => simp [intOf]; omega
          · have hF : Hid (newR l = (se, [])) := by rw [Hid, HG3.out, if_pos hse]
            have ese : (se != 0) = true := by simp [hse]
            go_wp2_with (go_at_call 35; refine (add_any _ _ _).mono ?_; rintro e w2 ⟨rfl, hb2⟩; rw [HAD.out])
            go_ret2
            exact newPost_bad hF.out hse (below_call hB2.out hB2.out.size ‹_›)
        · have hF : Hid (newR l = (100, [])) := by rw [Hid, hG2.out, hthere]; rfl
          rw [hthere] at hl
          simp only [hthere] at hl2
          go_region
          clear hl hl2 hthere c_x0 c_p0
          go_wp2
          go_ret2
          exact newPost_bad hF.out (by decide) (hB1.alloc hB1.size _).drew
    · obtain rfl : k = l.length := by omega
      have hF : Hid (newR l = (0, A)) := by rw [Hid, ← hg.out, List.drop_length, newGo]
      go_wp2
      go_ret2
      exact newPost_good hF.out hB hS.out
end Go.Proofs.YtnhpkefjmpgneaaDoor
