import Derived.Test.YtnhpkefjmpgneaaDoorName1
import Derived.Test.YtnhpkefjmpgneaaDoorShelf
namespace Go.Proofs.YtnhpkefjmpgneaaDoor
open Go.RowKit

/-! ### name.broken, name.Value -/
/-- The library's two tables of UTF-8, as the row lists them. -/
abbrev Tabs (w : World) : Prop := Lib.Utf8Tabs 0 1 w
theorem tabs_below {B : Nat} {w w' : World} (h : Tabs w) (hB : Below B w w') (h0 : 0 < B) (h1 : 1 < B) : Tabs w' :=
  ⟨fun c hc => (hB.cell (p := ⟨_, c, none⟩) h0).trans (h.1 c hc), fun i hi => ⟨(hB.cell (p := ⟨_, _, none⟩) h1).trans (h.2 i hi).1, (hB.cell (p := ⟨_, _, none⟩) h1).trans (h.2 i hi).2⟩⟩
theorem tabs_lt {w : World} (h : Tabs w) : 0 < w.heap.size ∧ 1 < w.heap.size :=
  ⟨World.block_lt_of_cell? w _ (h.1 0 (by omega)), World.block_lt_of_cell? w _ (h.2 0 (by omega)).1⟩
/-- The tables stand where nothing that was there has changed. -/
theorem tabs_keep {a w : World} (h : Tabs a) (hB : Below a.heap.size a w) : Tabs w := tabs_below h hB (tabs_lt h).1 (tabs_lt h).2

def brokenB (s : ByteArray) (p : Nat) (c : Int) : Bool := decide (c = 65533) && decide ((Lib.decodeGo (s.extract p s.size)).2 = 1)

set_option maxRecDepth 100000 in
theorem broken_any (s : ByteArray) (hs : s.size ≤ maxLen) (p : Nat) (hp : p ≤ s.size) (c : Int) (w : World) (hT : Tabs w) :
    Calls Tryd.prog 89 #[.string s, .int .i64 p, .int .i32 c] w (Ret w (.bool (brokenB s p c))) := by
  unfold maxLen at hs
  have HT := Lib.hid hT; clear hT
  by_cases hc : c = 65533
  · subst hc
    go_enter Tryd.func89, Tryd.ntmps89
    go_wp2_with (go_at_call 103; refine (Tryd.utf8_DecodeRuneInString _ _ HT.out).mono ?_; rintro e w' ⟨rfl, hb⟩)
    go_ret
    exact ret_bool (by rw [Bool.eq_iff_iff]; simp [brokenB]; omega) ‹_›
  · have e : (c != 65533) = true := by simpa using hc
    go_enter Tryd.func89, Tryd.ntmps89
    go_wp2
    go_ret
    exact ret_bool (by simp [brokenB, hc]) (Below.refl _ _)

def valueRune (s : ByteArray) (x : Nat × Int) : Bool := decide (32 ≤ x.2) && (decide (x.2 ≠ 127) && !brokenB s x.1 x.2)
def valueOk (s : ByteArray) : Bool := (runes s).all (valueRune s) && decide ((runes s).length ≤ 32)
def valueErr (s : ByteArray) : Int := if valueOk s then 0 else 20
theorem valueErr_bad {s : ByteArray} {pre r : List (Nat × Int)} {x : Nat × Int} (h : runes s = (pre ++ [x]) ++ r) (hb : valueRune s x = false) : valueErr s = 20 := by
  unfold valueErr valueOk
  rw [h]
  simp [hb]
theorem valueErr_end {s : ByteArray} {pre : List (Nat × Int)} (h : runes s = pre) (ha : pre.all (valueRune s) = true) : valueErr s = if pre.length ≤ 32 then 0 else 20 := by
  unfold valueErr valueOk
  rw [h, ha]
  simp

set_option maxRecDepth 100000 in
theorem value_any (s : ByteArray) (hs : s.size ≤ maxLen) (w : World) (hT : Tabs w) : Calls Tryd.prog 66 #[.string s] w (Ret w (.int .i64 (valueErr s))) := by
  have hs0 := Lib.hid hs
  unfold maxLen at hs
  have HT := Lib.hid hT; clear hT
  go_enter Tryd.func66, Tryd.ntmps66
  go_wp2
  go_loopw [3] (fun n wr => ∃ (p : Nat) (pre : List (Nat × Int)), n = .int .i64 pre.length ∧ Hid (runes s = pre ++ runesAt s p) ∧ Hid (pre.all (valueRune s) = true) ∧ Hid (wr.heap[w.heap.size]? = some (.stringIter s p)) ∧ Below w.heap.size w wr) (fun _ wr => s.size - wr.iterPos w.heap.size)
  case atStart => exact ⟨0, [], rfl, rfl, rfl, World.iter_heap w s 0, (Below.refl _ _).alloc (Nat.le_refl _) _⟩
  case round =>
    obtain ⟨p, pre, rfl, hr, ha, hi, hB⟩ := hrel
    have hrs : w.heap.size < wr.heap.size := (Array.getElem?_eq_some_iff.1 hi.out).1
    by_cases hlt : p < s.size
    · obtain ⟨c, q, hnx, hr', hi', hpq, hlen, hc0, hc1, -, -⟩ := runes_round (P := Tryd.prog) s p w.heap.size pre wr hr.out hi.out hlt
      have HR := Lib.hid hr'; have HI := Lib.hid hi'; clear hr' hi'
      have hM := Lib.hid (iterPos_of hi.out)
      have hM' := Lib.hid (iterPos_of HI.out)
      have hZ : w.heap.size < (wr.iterAt w.heap.size s q).heap.size := by rw [Lib.iterAt_size]; exact hrs
      have hBI := below_iter hB (Nat.le_refl _) s q
      have HTI := Lib.hid (tabs_keep HT.out hBI)
      by_cases h1 : c < 32
      · have hbad := Lib.hid (valueErr_bad HR.out (show valueRune s (p, c) = false by unfold valueRune; simp; omega))
        go_wp2
        go_ret; exact ret_int hbad.out.symm hBI
      · by_cases h2 : c = 127
        · subst h2
          have hbad := Lib.hid (valueErr_bad HR.out (show valueRune s (p, 127) = false by unfold valueRune; simp))
          go_wp2
          go_ret; exact ret_int hbad.out.symm hBI
        · have e127 : (c == 127) = false := by simpa using h2
          cases hb : brokenB s p c
          · have hok : valueRune s (p, c) = true := by unfold valueRune; simp [hb, h2]; omega
            have HA := Lib.hid (all_snoc ha.out hok)
            have HB := Lib.hid hb; clear hb hok h2
            go_wp2_with (go_at_call 89; refine (broken_any s hs0.out p (by omega) c _ HTI.out).mono ?_; rintro e w' ⟨rfl, hb⟩; rw [HB.out])
            go_roundw
            case rel => exact ⟨q, pre ++ [(_, c)], by simp, HR, HA, iter_call HI.out ‹_›, below_call hBI (Nat.le_of_lt hZ) ‹_›⟩
            case measure => rw [hM.out, iterPos_of (iter_call HI.out ‹_›)]; omega
          · have hbad := Lib.hid (valueErr_bad HR.out (show valueRune s (p, c) = false by unfold valueRune; simp [hb]))
            have HB := Lib.hid hb; clear hb h2
            go_wp2_with (go_at_call 89; refine (broken_any s hs0.out p (by omega) c _ HTI.out).mono ?_; rintro e w' ⟨rfl, hb⟩; rw [HB.out])
            go_ret; exact ret_int hbad.out.symm (below_call hBI (Nat.le_of_lt hZ) ‹_›)
    · obtain ⟨hnx, hr'⟩ := runes_over (P := Tryd.prog) s p w.heap.size pre wr hr.out hi.out hlt
      have hln := runes_length s
      have HE := Lib.hid (valueErr_end hr' ha.out)
      rw [hr'] at hln
      clear hr'
      by_cases h2 : 32 < pre.length
      · have HE' : Hid (valueErr s = 20) := by have := HE.out; rw [if_neg (by omega)] at this; exact this
        go_wp2
        go_ret; exact ret_int HE'.out.symm hB
      · have HE' : Hid (valueErr s = 0) := by have := HE.out; rw [if_pos (by omega)] at this; exact this
        go_wp2
        go_ret; exact ret_int HE'.out.symm hB
end Go.Proofs.YtnhpkefjmpgneaaDoor
