import Derived.Test.YtnhpkefjmpgneaaDoorBase
namespace Go.Proofs.YtnhpkefjmpgneaaDoor
open Go.RowKit

def hasB (a b d c : Int) : Bool := decide (a ≤ c) && (decide (c ≤ b) && (c != d))

theorem has_any (a b d c : Int) (w : World) :
    Calls Tryd.prog 88 #[.agg #[.int .i32 a, .int .i32 b, .int .i32 d], .int .i32 c] w (Ret w (.bool (hasB a b d c))) := by
  by_cases h1 : a ≤ c <;> by_cases h2 : c ≤ b
  all_goals
    go_enter Tryd.func88, Tryd.ntmps88
    go_wp2
    go_ret
    exact ret_bool (by simp [hasB, decide_eq_true_eq, *]; try omega) ((Below.refl _ _).alloc (Nat.le_refl _) _)

/-- The spans of letters. -/
def spans : List (Int × Int × Int) := [(97, 122, 0), (48, 57, 0), (95, 95, 0), (45, 45, 0), (223, 255, 247), (945, 969, 0)]
def letterB (c : Int) : Bool := spans.any fun x => hasB x.1 x.2.1 x.2.2 c

theorem letter_index (w : World) : ∀ k : Nat, k < 6 → (Instr.index 165 (.agg #[.int .i32 97, .int .i32 122, .int .i32 0, .int .i32 48, .int .i32 57, .int .i32 0, .int .i32 95, .int .i32 95, .int .i32 0, .int .i32 45, .int .i32 45, .int .i32 0, .int .i32 223, .int .i32 255, .int .i32 247, .int .i32 945, .int .i32 969, .int .i32 0]) (.int .i64 k)).run Tryd.prog w =
    .ok (.agg #[.int .i32 (spans.getD k (0, 0, 0)).1, .int .i32 (spans.getD k (0, 0, 0)).2.1, .int .i32 (spans.getD k (0, 0, 0)).2.2]) w
  | 0, _ => by kernel_rfl
  | 1, _ => by kernel_rfl
  | 2, _ => by kernel_rfl
  | 3, _ => by kernel_rfl
  | 4, _ => by kernel_rfl
  | 5, _ => by kernel_rfl
  | n + 6, h => by omega

theorem letterB_at (c : Int) (k : Nat) (h : k < 6) (hh : hasB (spans.getD k (0, 0, 0)).1 (spans.getD k (0, 0, 0)).2.1 (spans.getD k (0, 0, 0)).2.2 c = true) : letterB c = true := by
  unfold letterB
  rw [List.any_eq_true]
  exact ⟨spans.getD k (0, 0, 0), by rw [List.getD_eq_getElem?_getD, List.getElem?_eq_getElem (show k < spans.length from h)]; exact List.getElem_mem _, hh⟩
theorem letterB_none (c : Int) (h : ∀ j, j < 6 → hasB (spans.getD j (0, 0, 0)).1 (spans.getD j (0, 0, 0)).2.1 (spans.getD j (0, 0, 0)).2.2 c = false) : letterB c = false := by
  have h0 := h 0 (by omega); have h1 := h 1 (by omega); have h2 := h 2 (by omega); have h3 := h 3 (by omega); have h4 := h 4 (by omega); have h5 := h 5 (by omega)
  simp [spans] at h0 h1 h2 h3 h4 h5
  simp [letterB, spans, h0, h1, h2, h3, h4, h5]

set_option maxRecDepth 100000 in
theorem letter_any (c : Int) (w : World) : Calls Tryd.prog 62 #[.int .i32 c] w (Ret w (.bool (letterB c))) := by
  go_enter Tryd.func62, Tryd.ntmps62
  go_wp2
  go_loopw [12] (fun i wr => ∃ k : Nat, k ≤ 6 ∧ i = .int .i64 k ∧ Hid (∀ j, j < k → hasB (spans.getD j (0, 0, 0)).1 (spans.getD j (0, 0, 0)).2.1 (spans.getD j (0, 0, 0)).2.2 c = false) ∧ Below w.heap.size w wr) (fun i _ => 6 - (intOf i).toNat)
  case atStart => exact ⟨0, by omega, rfl, fun j hj => by omega, Below.refl _ _⟩
  case round =>
    obtain ⟨k, hk, rfl, hn, hB⟩ := hrel
    by_cases hlt : k < 6
    · have hx := letter_index wr k hlt
      have hN : hasB (spans.getD k (0, 0, 0)).1 (spans.getD k (0, 0, 0)).2.1 (spans.getD k (0, 0, 0)).2.2 c = false → Hid (∀ j, j < k + 1 → hasB (spans.getD j (0, 0, 0)).1 (spans.getD j (0, 0, 0)).2.1 (spans.getD j (0, 0, 0)).2.2 c = false) := fun hh j hj => by
          rcases Nat.lt_or_ge j k with h | h
          · exact hn.out j h
          · obtain rfl : j = k := by omega
            exact hh
      have hY := letterB_at c k hlt
      obtain ⟨⟨xa, xb, xd⟩, hxe⟩ : ∃ x, spans.getD k (0, 0, 0) = x := ⟨_, rfl⟩
      rw [hxe] at hx hN hY
      clear hxe hn
      dsimp only at hx hN hY
      cases hh : hasB xa xb xd c
      · have hN' := hN hh
        have hH := Lib.hid hh; clear hh hN hY
        go_wp2_with (go_at_call 88; refine (has_any _ _ _ _ _).mono ?_; rintro e w' ⟨rfl, hb⟩; rw [hH.out])
        go_roundw
        case rel => exact ⟨k + 1, by omega, by go_num, hN', (hB.alloc hB.size _).trans (hb.mono (by have := hB.size; simp; omega))⟩
        case measure => simp [intOf]; omega
      · have hY' := hY hh
        have hH := Lib.hid hh; clear hh hN hY
        go_wp2_with (go_at_call 88; refine (has_any _ _ _ _ _).mono ?_; rintro e w' ⟨rfl, hb⟩; rw [hH.out])
        go_ret
        exact ret_bool (by rw [hY']) ((hB.alloc hB.size _).trans (hb.mono (by have := hB.size; simp; omega)))
    · obtain rfl : k = 6 := by omega
      have hL := letterB_none c hn.out
      go_wp2
      go_ret
      exact ret_bool hL.symm hB
/-! ### name.Check -/
def firstBad (p : Nat) (c : Int) : Bool := decide (p = 0) && ((decide (48 ≤ c) && decide (c ≤ 57)) || decide (c = 45))
def runeOk (x : Nat × Int) : Bool := !firstBad x.1 x.2 && letterB x.2
def nameOk (s : ByteArray) : Bool := (runes s).all runeOk && (decide (1 ≤ (runes s).length) && decide ((runes s).length ≤ 32))
def nameErr (s : ByteArray) : Int := if nameOk s then 0 else 20

theorem nameErr_bad {s : ByteArray} {pre r : List (Nat × Int)} {x : Nat × Int} (h : runes s = (pre ++ [x]) ++ r) (hb : runeOk x = false) : nameErr s = 20 := by
  unfold nameErr nameOk
  rw [h]
  simp [hb]
theorem nameErr_end {s : ByteArray} {pre : List (Nat × Int)} (h : runes s = pre) (ha : pre.all runeOk = true) : nameErr s = if 1 ≤ pre.length ∧ pre.length ≤ 32 then 0 else 20 := by
  unfold nameErr nameOk
  rw [h, ha]
  simp
theorem all_snoc {pre : List (Nat × Int)} {x : Nat × Int} {f : Nat × Int → Bool} (h : pre.all f = true) (hx : f x = true) : (pre ++ [x]).all f = true := by
  rw [List.all_append, h]; simp [hx]

set_option maxRecDepth 100000 in
theorem check_any (s : ByteArray) (hs : s.size ≤ maxLen) (w : World) : Calls Tryd.prog 34 #[.string s] w (Ret w (.int .i64 (nameErr s))) := by
  unfold maxLen at hs
  go_enter Tryd.func34, Tryd.ntmps34
  go_wp2
  go_loopw [3] (fun n wr => ∃ (p : Nat) (pre : List (Nat × Int)), n = .int .i64 pre.length ∧ Hid (runes s = pre ++ runesAt s p) ∧ Hid (pre.all runeOk = true) ∧ Hid (wr.heap[w.heap.size]? = some (.stringIter s p)) ∧ Below w.heap.size w wr) (fun _ wr => s.size - wr.iterPos w.heap.size)
  case atStart => exact ⟨0, [], rfl, rfl, rfl, World.iter_heap w s 0, (Below.refl _ _).alloc (Nat.le_refl _) _⟩
  case round =>
    obtain ⟨p, pre, rfl, hr, ha, hi, hB⟩ := hrel
    have hrs : w.heap.size < wr.heap.size := (Array.getElem?_eq_some_iff.1 hi.out).1
    by_cases hlt : p < s.size
    · obtain ⟨c, q, hnx, hr', hi', hpq, hlen, hc0, hc1, -, -⟩ := runes_round (P := Tryd.prog) s p w.heap.size pre wr hr.out hi.out hlt
      have HR := Lib.hid hr'; have HI := Lib.hid hi'; clear hr' hi'
      have hM := Lib.hid (iterPos_of hi.out)
      have hM' := Lib.hid (iterPos_of HI.out)
      have hZ : w.heap.size < (wr.iterAt w.heap.size s q).heap.size := by rw [Lib.iterAt_size]; exact hrs
      have hBI := below_iter hB (Nat.le_refl _) s q
      cases hok : runeOk (p, c)
      · have hbad := nameErr_bad HR.out hok
        have HOK := Lib.hid hok; have HB := Lib.hid hbad; clear hok hbad
        cases hL : letterB c
        all_goals
          have HL := Lib.hid hL; clear hL
          go_wp2_with (go_at_call 62; refine (letter_any _ _).mono ?_; rintro e w' ⟨rfl, hb⟩; rw [HL.out])
          all_goals first
            | (go_ret; exact ret_int HB.out.symm hBI)
            | (go_ret; exact ret_int HB.out.symm (below_call hBI (Nat.le_of_lt hZ) ‹_›))
            | (exfalso; have h1 := HOK.out; have h2 := HL.out; unfold runeOk firstBad at h1; dsimp only at h1; rw [h2] at h1; simp at h1; omega)
      · have hL : letterB c = true := by unfold runeOk at hok; simp at hok; exact hok.2
        have hF : ¬ (p = 0 ∧ ((48 ≤ c ∧ c ≤ 57) ∨ c = 45)) := by unfold runeOk firstBad at hok; simp at hok; omega
        have HA := Lib.hid (all_snoc ha.out hok)
        have HL := Lib.hid hL; clear hL hok
        rcases (show 0 < p ∨ (p = 0 ∧ c ≠ 45 ∧ c < 48) ∨ (p = 0 ∧ c ≠ 45 ∧ 57 < c) by omega) with h1 | ⟨rfl, h0, h1⟩ | ⟨rfl, h0, h1⟩
        · clear hF
          go_wp2_with (go_at_call 62; refine (letter_any _ _).mono ?_; rintro e w' ⟨rfl, hb⟩; rw [HL.out])
          go_roundw
          case rel => exact ⟨q, pre ++ [(_, c)], by simp, HR, HA, iter_call HI.out ‹_›, below_call hBI (Nat.le_of_lt hZ) ‹_›⟩
          case measure => rw [hM.out, iterPos_of (iter_call HI.out ‹_›)]; omega
        · have e45 : (c == 45) = false := by simpa using h0
          clear hF h0
          go_wp2_with (go_at_call 62; refine (letter_any _ _).mono ?_; rintro e w' ⟨rfl, hb⟩; rw [HL.out])
          go_roundw
          case rel => exact ⟨q, pre ++ [(_, c)], by simp, HR, HA, iter_call HI.out ‹_›, below_call hBI (Nat.le_of_lt hZ) ‹_›⟩
          case measure => rw [hM.out, iterPos_of (iter_call HI.out ‹_›)]; omega
        · have e45 : (c == 45) = false := by simpa using h0
          have e57 : decide (c ≤ 57) = false := by simpa using h1
          clear hF h0
          go_wp2_with (go_at_call 62; refine (letter_any _ _).mono ?_; rintro e w' ⟨rfl, hb⟩; rw [HL.out])
          go_roundw
          case rel => exact ⟨q, pre ++ [(_, c)], by simp, HR, HA, iter_call HI.out ‹_›, below_call hBI (Nat.le_of_lt hZ) ‹_›⟩
          case measure => rw [hM.out, iterPos_of (iter_call HI.out ‹_›)]; omega
    · obtain ⟨hnx, hr'⟩ := runes_over (P := Tryd.prog) s p w.heap.size pre wr hr.out hi.out hlt
      have HE := Lib.hid (nameErr_end hr' ha.out)
      clear hr'
      by_cases h1 : pre.length < 1
      · have HE' : Hid (nameErr s = 20) := by have := HE.out; rw [if_neg (by omega)] at this; exact this
        go_wp2
        go_ret; exact ret_int HE'.out.symm hB
      · by_cases h2 : 32 < pre.length
        · have HE' : Hid (nameErr s = 20) := by have := HE.out; rw [if_neg (by omega)] at this; exact this
          go_wp2
          go_ret; exact ret_int HE'.out.symm hB
        · have HE' : Hid (nameErr s = 0) := by have := HE.out; rw [if_pos (by omega)] at this; exact this
          go_wp2
          go_ret; exact ret_int HE'.out.symm hB
end Go.Proofs.YtnhpkefjmpgneaaDoor
