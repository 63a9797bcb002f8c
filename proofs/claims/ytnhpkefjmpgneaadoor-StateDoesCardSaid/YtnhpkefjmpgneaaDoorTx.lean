import Derived.Test.YtnhpkefjmpgneaaDoorName3
import Derived.Laws.OwnMore
import Derived.Deep.AppendLies
namespace Go.Proofs.YtnhpkefjmpgneaaDoor
open Go.RowKit

/-! ### num.Within, may, told, Add -/
def withinB (n a b : Int) : Bool := decide (a ≤ n) && decide (n ≤ b)
theorem within_any (n a b : Int) (w : World) : Calls Tryd.prog 65 #[.int .i64 n, .int .i64 a, .int .i64 b] w (Ret w (.bool (withinB n a b))) := by
  by_cases h1 : a ≤ n <;> by_cases h2 : n ≤ b
  all_goals
    go_enter Tryd.func65, Tryd.ntmps65
    go_wp2
    go_ret
    exact ret_bool (by simp [withinB]; try omega) (Below.refl _ _)

def mayN (n : Int) : Bool := withinB n (-4611686018427387904) 4611686018427387904
def ints (l : List Int) : List Value := l.map (.int .i64)
theorem ints_at (l : List Int) (k : Nat) (h : k < l.length) : (ints l)[k]? = some (.int .i64 (l.getD k 0)) := by simp [ints, h]
set_option maxRecDepth 100000 in
theorem may_any (l : List Int) (A : Option Addr) (c : Nat) (w : World) (hr : Reads w A (ints l)) : Calls Tryd.prog 63 #[.slice A l.length c] w (Ret w (.bool (l.all mayN))) := by
  have hl : l.length ≤ 9223372036854775807 := by have := hr.1; simpa [ints] using this
  have HR := Lib.hid hr; clear hr
  go_enter Tryd.func63, Tryd.ntmps63
  go_wp2
  go_loopw [7] (fun i wr => ∃ k : Nat, k ≤ l.length ∧ i = .int .i64 k ∧ Hid (∀ j, j < k → mayN (l.getD j 0) = true) ∧ Below w.heap.size w wr) (fun i _ => l.length - (intOf i).toNat)
  case atStart => exact ⟨0, by omega, rfl, fun j hj => by omega, Below.refl _ _⟩
  case round =>
    obtain ⟨k, hk, rfl, hn, hB⟩ := hrel
    by_cases hlt : k < l.length
    · obtain ⟨ad, rfl, hx⟩ := reads_at (reads_below HR.out hB) (ints_at l k hlt)
      have hm : l[k] = l.getD k 0 := by simp [hlt]
      obtain ⟨x, hxe⟩ : ∃ x, l.getD k 0 = x := ⟨_, rfl⟩
      rw [hxe] at hx hm
      cases hh : mayN x
      · have HF : Hid (l.all mayN = false) := by
          rw [Hid, List.all_eq_false]
          exact ⟨l[k], List.getElem_mem _, by rw [hm, hh]; decide⟩
        have HH : Hid (withinB x (-4611686018427387904) 4611686018427387904 = false) := hh
        clear hh hm hxe hn
        go_wp2_with (go_at_call 65; refine (within_any _ _ _ _).mono ?_; rintro e w' ⟨rfl, hb⟩; rw [HH.out])
        go_ret; exact ret_bool HF.out.symm (below_call hB hB.size ‹_›)
      · have HN : Hid (∀ j, j < k + 1 → mayN (l.getD j 0) = true) := fun j hj => by
          rcases Nat.lt_or_ge j k with h | h
          · exact hn.out j h
          · obtain rfl : j = k := by omega
            rw [hxe]; exact hh
        have HH : Hid (withinB x (-4611686018427387904) 4611686018427387904 = true) := hh
        clear hh hm hxe hn
        go_wp2_with (go_at_call 65; refine (within_any _ _ _ _).mono ?_; rintro e w' ⟨rfl, hb⟩; rw [HH.out])
        go_roundw
        case rel => exact ⟨k + 1, by omega, by go_num, HN, below_call hB hB.size ‹_›⟩
        case measure => simp [intOf]; omega
    · obtain rfl : k = l.length := by omega
      have HF : Hid (l.all mayN = true) := by
        rw [Hid, List.all_eq_true]
        intro x hx
        obtain ⟨j, hj, rfl⟩ := List.getElem_of_mem hx
        have := hn.out j hj
        rw [List.getD_eq_getElem?_getD, List.getElem?_eq_getElem hj] at this
        exact this
      go_wp2
      go_ret; exact ret_bool HF.out.symm hB

theorem reads_new (W : World) (x : List Value) (e : TypeId) (h : x.length ≤ 9223372036854775807) : Reads (W.alloc (.cells x.toArray e)) (some ⟨W.heap.size, 0, none⟩) x :=
  ⟨h, fun _ => ⟨_, rfl, fun j u hj => World.news_of_block (heap_alloc_new W _) j u (by simpa using hj)⟩⟩

def toldR (n : Int) (ok : Bool) : Int × Int := if ok && mayN n then (n, 0) else (0, 10)
theorem told_any (n : Int) (ok : Bool) (w : World) : Calls Tryd.prog 64 #[.int .i64 n, .bool ok] w (Ret w (.tuple #[.int .i64 (toldR n ok).1, .int .i64 (toldR n ok).2])) := by
  cases ok
  · go_enter Tryd.func64, Tryd.ntmps64
    go_wp2
    go_ret2
    exact ret_mk rfl (Below.refl _ _)
  · cases h : mayN n
    all_goals
      have H := Lib.hid h; clear h
      have HM : Hid ([n].all mayN = mayN n) := by simp [Hid]
      have hrd := Lib.hid (reads_new w (ints [n]) 2 (by simp [ints]))
      go_enter Tryd.func64, Tryd.ntmps64
      go_wp2_with (go_at_call 63; refine (may_any [n] _ _ _ hrd.out).mono ?_; rintro e w' ⟨rfl, hb⟩; rw [HM.out, H.out])
      go_ret2
      exact ret_mk (by simp [toldR, H.out]) (below_call ((Below.refl _ _).alloc (Nat.le_refl _) _) (by simp) ‹_›)

def addR (a b : Int) : Int × Int := if mayN a && (mayN b && mayN (a + b)) then (a + b, 0) else (0, 10)
theorem mayN_iff (n : Int) : mayN n = true ↔ -4611686018427387904 ≤ n ∧ n ≤ 4611686018427387904 := by simp [mayN, withinB]
theorem add_any (a b : Int) (w : World) : Calls Tryd.prog 35 #[.int .i64 a, .int .i64 b] w (Ret w (.tuple #[.int .i64 (addR a b).1, .int .i64 (addR a b).2])) := by
  have HM : Hid ([a, b].all mayN = (mayN a && mayN b)) := by simp [Hid]
  have hrd := Lib.hid (reads_new w (ints [a, b]) 2 (by simp [ints]))
  cases h : (mayN a && mayN b)
  · have H := Lib.hid h
    have HT : Hid (toldR 0 false = (0, 10)) := rfl
    have HA : Hid (addR a b = (0, 10)) := by
      unfold Hid addR
      rw [← Bool.and_assoc, h]; rfl
    clear h
    go_enter Tryd.func35, Tryd.ntmps35
    go_wp2_with (first | (go_at_call 63; refine (may_any [a, b] _ _ _ hrd.out).mono ?_; rintro e w1 ⟨rfl, hb1⟩; rw [HM.out, H.out]) | (go_at_call 64; refine (told_any _ _ _).mono ?_; rintro e w2 ⟨rfl, hb2⟩; rw [HT.out]; dsimp only))
    go_ret2
    exact ret_mk (by rw [HA.out]; rfl) (below_call (below_call ((Below.refl _ _).alloc (Nat.le_refl _) _) (by simp) ‹Below _ _ w1›) (by have := (‹Below _ _ w1›).size; simp at this; omega) ‹_›)
  · have ha : mayN a = true := by simp at h; exact h.1
    have hb : mayN b = true := by simp at h; exact h.2
    have H := Lib.hid h
    have HE : Hid (∀ h : ¬ (a + b = 9223372036854775808), toldR (a + b) true = addR a b) := by
      intro _
      unfold toldR addR
      rw [ha, hb]; rfl
    have HE2 : Hid (a = 4611686018427387904 → b = 4611686018427387904 → addR a b = (0, 10)) := by
      rintro rfl rfl; rfl
    have HT : Hid (toldR (wrap64 9223372036854775808) (!decide (wrap64 9223372036854775808 < 0)) = (0, 10)) := by unfold Hid; kernel_rfl
    rw [mayN_iff] at ha hb
    clear h
    by_cases hz : a = 4611686018427387904 ∧ b = 4611686018427387904
    · obtain ⟨rfl, rfl⟩ := hz
      have HA := Lib.hid (HE2.out rfl rfl)
      clear HE HE2
      go_enter Tryd.func35, Tryd.ntmps35
      go_wp2_with (first | (go_at_call 63; refine (may_any [_, _] _ _ _ hrd.out).mono ?_; rintro e w1 ⟨rfl, hb1⟩; rw [HM.out, H.out]) | (go_at_call 64; refine (told_any _ _ _).mono ?_; rintro e w2 ⟨rfl, hb2⟩; rw [HT.out]; dsimp only))
      go_ret2
      exact ret_mk (by rw [HA.out]; rfl) (below_call (below_call ((Below.refl _ _).alloc (Nat.le_refl _) _) (by simp) ‹Below _ _ w1›) (by have := (‹Below _ _ w1›).size; simp at this; omega) ‹_›)
    · have h3 : -9223372036854775808 ≤ a + b := by omega
      have h4 : a + b ≤ 9223372036854775807 := by omega
      have HA := Lib.hid (HE.out (by omega))
      clear HE HE2 hz
      by_cases h5 : 0 < a
      · by_cases h6 : 0 < b
        · have h7 : decide (a + b < 0) = false := by simp; omega
          go_enter Tryd.func35, Tryd.ntmps35
          go_wp2_with (first | (go_at_call 63; refine (may_any [_, _] _ _ _ hrd.out).mono ?_; rintro e w1 ⟨rfl, hb1⟩; rw [HM.out, H.out]) | (go_at_call 64; refine (told_any _ _ _).mono ?_; rintro e w2 ⟨rfl, hb2⟩; rw [HA.out]))
          go_ret2
          exact ret_mk rfl (below_call (below_call ((Below.refl _ _).alloc (Nat.le_refl _) _) (by simp) ‹Below _ _ w1›) (by have := (‹Below _ _ w1›).size; simp at this; omega) ‹_›)
        · go_enter Tryd.func35, Tryd.ntmps35
          go_wp2_with (first | (go_at_call 63; refine (may_any [_, _] _ _ _ hrd.out).mono ?_; rintro e w1 ⟨rfl, hb1⟩; rw [HM.out, H.out]) | (go_at_call 64; refine (told_any _ _ _).mono ?_; rintro e w2 ⟨rfl, hb2⟩; rw [HA.out]))
          go_ret2
          exact ret_mk rfl (below_call (below_call ((Below.refl _ _).alloc (Nat.le_refl _) _) (by simp) ‹Below _ _ w1›) (by have := (‹Below _ _ w1›).size; simp at this; omega) ‹_›)
      · go_enter Tryd.func35, Tryd.ntmps35
        go_wp2_with (first | (go_at_call 63; refine (may_any [_, _] _ _ _ hrd.out).mono ?_; rintro e w1 ⟨rfl, hb1⟩; rw [HM.out, H.out]) | (go_at_call 64; refine (told_any _ _ _).mono ?_; rintro e w2 ⟨rfl, hb2⟩; rw [HA.out]))
        go_ret2
        exact ret_mk rfl (below_call (below_call ((Below.refl _ _).alloc (Nat.le_refl _) _) (by simp) ‹Below _ _ w1›) (by have := (‹Below _ _ w1›).size; simp at this; omega) ‹_›)
end Go.Proofs.YtnhpkefjmpgneaaDoor
namespace Go.Proofs.YtnhpkefjmpgneaaDoor
open Go.RowKit

/-! ### tx.Check -/
structure Tx where
  kind : Int
  from_ : ByteArray
  to : ByteArray
  key : ByteArray
  val : ByteArray
  amount : Int
  nonce : Int
abbrev Tx.cells (t : Tx) : Array Value := #[.int .i64 t.kind, .string t.from_, .string t.to, .string t.key, .string t.val, .int .i64 t.amount, .int .i64 t.nonce]
abbrev Tx.v (t : Tx) : Value := .agg t.cells
structure Tx.small (t : Tx) : Prop where
  from_ : t.from_.size ≤ 35184372088831
  to : t.to.size ≤ 35184372088831
  key : t.key.size ≤ 35184372088831
  val : t.val.size ≤ 35184372088831
def nonEmpty (s : ByteArray) : Bool := !s.toList.isEmpty
def moveOk (t : Tx) : Bool := decide (nameErr t.to = 0) && (withinB t.amount 1 4611686018427387904 && (t.key.toList.isEmpty && t.val.toList.isEmpty))
def putOk (t : Tx) : Bool := decide (nameErr t.key = 0) && (decide (valueErr t.val = 0) && (t.to.toList.isEmpty && decide (t.amount = 0)))
def txOk (t : Tx) : Bool := decide (nameErr t.from_ = 0) && (withinB t.nonce 1 4611686018427387904 && (if t.kind = 1 then moveOk t else if t.kind = 2 then putOk t else false))
def txErr (t : Tx) : Int := if txOk t then 0 else 80

set_option maxRecDepth 100000 in
theorem txCheck_any (kind amount nonce : Int) (from_ to key val : ByteArray) (hs : Tx.small ⟨kind, from_, to, key, val, amount, nonce⟩) (w : World) (hT : Tabs w) :
    Calls Tryd.prog 36 #[.agg #[.int .i64 kind, .string from_, .string to, .string key, .string val, .int .i64 amount, .int .i64 nonce]] w (Ret w (.int .i64 (txErr ⟨kind, from_, to, key, val, amount, nonce⟩))) := by
  obtain ⟨s1, s2, s3, s4⟩ := hs
  dsimp only at s1 s2 s3 s4
  have HS1 := Lib.hid (show from_.size ≤ maxLen by unfold maxLen; omega)
  have HS2 := Lib.hid (show to.size ≤ maxLen by unfold maxLen; omega)
  have HS3 := Lib.hid (show key.size ≤ maxLen by unfold maxLen; omega)
  have HS4 := Lib.hid (show val.size ≤ maxLen by unfold maxLen; omega)
  have HT := Lib.hid hT
  clear hT s1 s2 s3 s4
  have HB := Lib.hid ((Below.refl w.heap.size w).alloc (Nat.le_refl _) (.cells #[.int .i64 kind, .string from_, .string to, .string key, .string val, .int .i64 amount, .int .i64 nonce] 25))
  go_enter Tryd.func36, Tryd.ntmps36
  go_wp2_with (first | (go_at_call 34; first | ((with_reducible refine (check_any from_ HS1.out _).mono ?_); rintro e w1 ⟨rfl, hb1⟩; obtain ⟨hc1, hf1⟩ := bcell hb1; have hz1 : w.heap.size < w1.heap.size := Nat.lt_of_lt_of_le (by first | assumption | simp) hb1.size; have HB' := Lib.hid (below_call HB.out HB.out.size hb1); clear HB; have HB := HB'; clear HB') | ((with_reducible refine (check_any to HS2.out _).mono ?_); rintro e w1 ⟨rfl, hb1⟩; obtain ⟨hc1, hf1⟩ := bcell hb1; have hz1 : w.heap.size < w1.heap.size := Nat.lt_of_lt_of_le (by first | assumption | simp) hb1.size; have HB' := Lib.hid (below_call HB.out HB.out.size hb1); clear HB; have HB := HB'; clear HB') | ((with_reducible refine (check_any key HS3.out _).mono ?_); rintro e w1 ⟨rfl, hb1⟩; obtain ⟨hc1, hf1⟩ := bcell hb1; have hz1 : w.heap.size < w1.heap.size := Nat.lt_of_lt_of_le (by first | assumption | simp) hb1.size; have HB' := Lib.hid (below_call HB.out HB.out.size hb1); clear HB; have HB := HB'; clear HB')) | (go_at_call 65; ((with_reducible refine (within_any _ _ _ _).mono ?_); rintro e w1 ⟨rfl, hb1⟩; obtain ⟨hc1, hf1⟩ := bcell hb1; have hz1 : w.heap.size < w1.heap.size := Nat.lt_of_lt_of_le (by first | assumption | simp) hb1.size; have HB' := Lib.hid (below_call HB.out HB.out.size hb1); clear HB; have HB := HB'; clear HB')) | (go_at_call 66; ((with_reducible refine (value_any val HS4.out _ (tabs_keep HT.out HB.out)).mono ?_); rintro e w1 ⟨rfl, hb1⟩; obtain ⟨hc1, hf1⟩ := bcell hb1; have hz1 : w.heap.size < w1.heap.size := Nat.lt_of_lt_of_le (by first | assumption | simp) hb1.size; have HB' := Lib.hid (below_call HB.out HB.out.size hb1); clear HB; have HB := HB'; clear HB')))
  all_goals (go_ret; exact ret_int (by clear HB; go_tidy; simp_all [txErr, txOk, moveOk, putOk]) HB.out)
end Go.Proofs.YtnhpkefjmpgneaaDoor
