import Derived.Test.YtnhpkefjmpgneaaDoorName3
import Derived.Laws.OwnMore
import Derived.Deep.AppendLies
namespace Go.Proofs.YtnhpkefjmpgneaaDoor
open Go.RowKit

/-! ### num.Within, may, told, Add -/
def withinB (n a b : Int) : Bool := decide (a ≤ n) && decide (n ≤ b)
theorem within_any (n a b : Int) (w : World) : Calls Tryd.prog 65 #[.int .i64 n, .int .i64 a, .int .i64 b] w (Ret w (.bool (withinB n a b))) := by
  by_cases h1 : a ≤ n <;> by_cases h2 : n ≤ b
  all_goals
    go_enter Tryd.func65, Tryd.ntmps65
    go_wp2
    go_ret
    exact ret_bool (by simp [withinB]; try omega) (Below.refl _ _)

def mayN (n : Int) : Bool := withinB n (-4611686018427387904) 4611686018427387904
def ints (l : List Int) : List Value := l.map (.int .i64)
theorem ints_at (l : List Int) (k : Nat) (h : k < l.length) : (ints l)[k]? = some (.int .i64 (l.getD k 0)) := by simp [ints, h]
set_option maxRecDepth 100000 in
theorem may_any (l : List Int) (A : Option Addr) (c : Nat) (w : World) (hr : Reads w A (ints l)) : Calls Tryd.prog 63 #[.slice A l.length c] w (Ret w (.bool (l.all mayN))) := by
  have hl : l.length ≤ 9223372036854775807 := by have := hr.1; simpa [ints] using this
  have HR := Lib.hid hr; clear hr
  go_enter Tryd.func63, Tryd.ntmps63
  go_wp2
  go_loopw [7] (fun i wr => ∃ k : Nat, k ≤ l.length ∧ i = .int .i64 k ∧ Hid (∀ j, j < k → mayN (l.getD j 0) = true) ∧ Below w.heap.size w wr) (fun i _ => l.length - (intOf i).toNat)
  case atStart => exact ⟨0, by omega, rfl, fun j hj => by omega, Below.refl _ _⟩
  case round =>
    obtain ⟨k, hk, rfl, hn, hB⟩ := hrel
    by_cases hlt : k < l.length
    · obtain ⟨ad, rfl, hx⟩ := reads_at (reads_below HR.out hB) (ints_at l k hlt)
      have hm : l[k] = l.getD k 0 := by simp [hlt]
      obtain ⟨x, hxe⟩ : ∃ x, l.getD k 0 = x := ⟨_, rfl⟩
      rw [hxe] at hx hm
      cases hh : mayN x
      · have HF : Hid (l.all mayN = false) := by
          rw [Hid, List.all_eq_false]
          exact ⟨l[k], List.getElem_mem _, by rw [hm, hh]; decide⟩
        have HH : Hid (withinB x (-4611686018427387904) 4611686018427387904 = false) := hh
        clear hh hm hxe hn
        go_wp2_with (go_at_call 65; refine (within_any _ _ _ _).mono ?_; rintro e w' ⟨rfl, hb⟩; rw [HH.out])
        go_ret; exact ret_bool HF.out.symm (below_call hB hB.size ‹_›)
      · have HN : Hid (∀ j, j < k + 1 → mayN (l.getD j 0) = true) := fun j hj => by
          rcases Nat.lt_or_ge j k with h | h
          · exact hn.out j h
          · obtain rfl : j = k := by omega
            rw [hxe]; exact hh
        have HH : Hid (withinB x (-4611686018427387904) 4611686018427387904 = true) := hh
        clear hh hm hxe hn
        go_wp2_with (go_at_call 65; refine (within_any _ _ _ _).mono ?_; rintro e w' ⟨rfl, hb⟩; rw [HH.out])
        go_roundw
        case rel => exact ⟨k + 1, by omega, by go_num, HN, below_call hB hB.size ‹_›⟩
        case measure => simp [intOf]; omega
    · obtain rfl : k = l.length := by omega
      have HF : Hid (l.all mayN = true) := by
        rw [Hid, List.all_eq_true]
        intro x hx
        obtain ⟨j, hj, rfl⟩ := List.getElem_of_mem hx
        have := hn.out j hj
        rw [List.getD_eq_getElem?_getD, List.getElem?_eq_getElem hj] at this
        exact this
      go_wp2
      go_ret; exact ret_bool HF.out.symm hB

theorem reads_new (W : World) (x : List Value) (e : TypeId) (h : x.length ≤ 9223372036854775807) : Reads (W.alloc (.cells x.toArray e)) (some ⟨W.heap.size, 0, none⟩) x :=
  ⟨h, fun _ => ⟨_, rfl, fun j u hj => World.news_of_block (heap_alloc_new W _) j u (by simpa using hj)⟩⟩

def toldR (n : Int) (ok : Bool) : Int × Int := if ok && mayN n then (n, 0) else (0, 10)
theorem told_any (n : Int) (ok : Bool) (w : World) : Calls Tryd.prog 64 #[.int .i64 n, .bool ok] w (Ret w (.tuple #[.int .i64 (toldR n ok).1, .int .i64 (toldR n ok).2])) := by
  cases ok
  · go_enter Tryd.func64, Tryd.ntmps64
    go_wp2
    go_ret2
    exact ret_mk rfl (Below.refl _ _)
  · cases h : mayN n
    all_goals
      have H := Lib.hid h; clear h
      have HM : Hid ([n].all mayN = mayN n) := by simp [Hid]
      have hrd := Lib.hid (reads_new w (ints [n]) 2 (by simp [ints]))
      go_enter Tryd.func64, Tryd.ntmps64
      go_wp2_with (go_at_call 63; refine (may_any [n] _ _ _ hrd.out).mono ?_; rintro e w' ⟨rfl, hb⟩; rw [HM.out, H.out])
      go_ret2
      exact ret_mk (by simp [toldR, H.out]) (below_call ((Below.refl _ _).alloc (Nat.le_refl _) _) (by simp) ‹_›)

def addR (a b : Int) : Int × Int := if mayN a && (mayN b && mayN (a + b)) then (a + b, 0) else (0, 10)
theorem mayN_iff (n : Int) : mayN n = true ↔ -4611686018427387904 ≤ n ∧ n ≤ 4611686018427387904 := by simp [mayN, withinB]
theorem add_any (a b : Int) (w : World) : Calls Tryd.prog 35 #[.int .i64 a, .int .i64 b] w (Ret w (.tuple #[.int .i64 (addR a b).1, .int .i64 (addR a b).2])) := by
  have HM : Hid ([a, b].all mayN = (mayN a && mayN b)) := by simp [Hid]
  have hrd := Lib.hid (reads_new w (ints [a, b]) 2 (by simp [ints]))
  cases h : (mayN a && mayN b)
  · have H := Lib.hid h
    have HT : Hid (toldR 0 false = (0, 10)) := rfl
    have HA : Hid (addR a b = (0, 10)) := by
      unfold Hid addR
      rw [← Bool.and_assoc, h]; rfl
    clear h
    go_enter Tryd.func35, Tryd.ntmps35
    go_wp2_with (first | (go_at_call 63; refine (may_any [a, b] _ _ _ hrd.out).mono ?_; rintro e w1 ⟨rfl, hb1⟩; rw [HM.out, H.out]) | (go_at_call 64; refine (told_any _ _ _).mono ?_; rintro e w2 ⟨rfl, hb2⟩; rw [HT.out]; dsimp only))
    go_ret2
    exact ret_mk (by rw [HA.out]; rfl) (below_call (below_call ((Below.refl _ _).alloc (Nat.le_refl _) _) (by simp) ‹Below _ _ w1›) (by have := (‹Below _ _ w1›).size; simp at this; omega) ‹_›)
  · have ha : mayN a = true := by simp at h; exact h.1
    have hb : mayN b = true := by simp at h; exact h.2
    have H := Lib.hid h
    have HE : Hid (∀ h : ¬ (a + b = 9223372036854775808), toldR (a + b) true = addR a b) := by
      intro _
      unfold toldR addR
      rw [ha, hb]; rfl
    have HE2 : Hid (a = 4611686018427387904 → b = 4611686018427387904 → addR a b = (0, 10)) := by
      rintro rfl rfl; rfl
    have HT : Hid (toldR (wrap64 9223372036854775808) (!decide (wrap64 9223372036854775808 < 0)) = (0, 10)) := by unfold Hid; kernel_rfl
    rw [mayN_iff] at ha hb
    clear h
    by_cases hz : a = 4611686018427387904 ∧ b = 4611686018427387904
    · obtain ⟨rfl, rfl⟩ := hz
      have HA := Lib.hid (HE2.out rfl rfl)
      clear HE HE2
      go_enter Tryd.func35, Tryd.ntmps35
      go_wp2_with (first | (go_at_call 63; refine (may_any [_, _] _ _ _ hrd.out).mono ?_; rintro e w1 ⟨rfl, hb1⟩; rw [HM.out, H.out]) | (go_at_call 64; refine (told_any _ _ _).mono ?_; rintro e w2 ⟨rfl, hb2⟩; rw [HT.out]; dsimp only))
      go_ret2
      exact ret_mk (by rw [HA.out]; rfl) (below_call (below_call ((Below.refl _ _).alloc (Nat.le_refl _) _) (by simp) ‹Below _ _ w1›) (by have := (‹Below _ _ w1›).size; simp at this; omega) ‹_›)
    · have h3 : -9223372036854775808 ≤ a + b := by omega
      have h4 : a + b ≤ 9223372036854775807 := by omega
      have HA := Lib.hid (HE.out (by omega))
      clear HE HE2 hz
      by_cases h5 : 0 < a
      · by_cases h6 : 0 < b
        · have h7 : decide (a + b < 0) = false := by simp; omega
          go_enter Tryd.func35, Tryd.ntmps35
          go_wp2_with (first | (go_at_call 63; refine (may_any [_, _] _ _ _ hrd.out).mono ?_; rintro e w1 ⟨rfl, hb1⟩; rw [HM.out, H.out]) | (go_at_call 64; refine (told_any _ _ _).mono ?_; rintro e w2 ⟨rfl, hb2⟩; rw [HA.out]))
          go_ret2
          exact ret_mk rfl (below_call (below_call ((Below.refl _ _).alloc (Nat.le_refl _) _) (by simp) ‹Below _ _ w1›) (by have := (‹Below _ _ w1›).size; simp at this; omega) ‹_›)
        · go_enter Tryd.func35, Tryd.ntmps35
          go_wp2_with (first | (go_at_call 63; refine (may_any [_, _] _ _ _ hrd.out).mono ?_; rintro e w1 ⟨rfl, hb1⟩; rw [HM.out, H.out]) | (go_at_call 64; refine (told_any _ _ _).mono ?_; rintro e w2 ⟨rfl, hb2⟩; rw [HA.out]))
          go_ret2
          exact ret_mk rfl (below_call (below_call ((Below.refl _ _).alloc (Nat.le_refl _) _) (by simp) ‹Below _ _ w1›) (by have := (‹Below _ _ w1›).size; simp at this; omega) ‹_›)
      · go_enter Tryd.func35, Tryd.ntmps35
        go_wp2_with (first | (go_at_call 63; refine (may_any [_, _] _ _ _ hrd.out).mono ?_; rintro e w1 ⟨rfl, hb1⟩; rw [HM.out, H.out]) | (go_at_call 64; refine (told_any _ _ _).mono ?_; rintro e w2 ⟨rfl, hb2⟩; rw [HA.out]))
        go_ret2
        exact ret_mk rfl (below_call (below_call ((Below.refl _ _).alloc (Nat.le_refl _) _) (by simp) ‹Below _ _ w1›) (by have := (‹Below _ _ w1›).size; simp at this; omega) ‹_›)
end Go.Proofs.YtnhpkefjmpgneaaDoor
