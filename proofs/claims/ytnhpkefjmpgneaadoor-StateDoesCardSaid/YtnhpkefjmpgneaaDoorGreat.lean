import Derived.Test.YtnhpkefjmpgneaaDoorFit
import Derived.Deep.LoopGhost
namespace Go.Proofs.YtnhpkefjmpgneaaDoor
open Go.RowKit

/-! ### what is looked at -/
def greatT (t : Tx) : Bool := decide (1000 < t.from_.size) || (decide (1000 < t.to.size) || (decide (1000 < t.key.size) || decide (1000 < t.val.size)))
theorem slim_of {t : Tx} (h : greatT t = false) : t.Slim := by
  unfold greatT at h
  simp at h
  exact ⟨by omega, by omega, by omega, by omega⟩
def txList (t : Tx) : List Value := [.int .i64 t.kind, .string t.from_, .string t.to, .string t.key, .string t.val, .int .i64 t.amount, .int .i64 t.nonce]
def txAgg (t : Tx) : Value := .agg #[.int .i64 t.kind, .string t.from_, .string t.to, .string t.key, .string t.val, .int .i64 t.amount, .int .i64 t.nonce]
set_option maxHeartbeats 1000000 in
set_option maxRecDepth 100000 in
theorem greatT_any (kind amount nonce : Int) (from_ to key val : ByteArray) (w : World) : Calls Tryd.prog 33 #[.agg #[.int .i64 kind, .string from_, .string to, .string key, .string val, .int .i64 amount, .int .i64 nonce]] w (Ret w (.bool (greatT ⟨kind, from_, to, key, val, amount, nonce⟩))) := by
  have HB : Hid (Below w.heap.size w (w.alloc (.cells #[.int .i64 kind, .string from_, .string to, .string key, .string val, .int .i64 amount, .int .i64 nonce] 25 (0, 0)))) := (Below.refl _ _).alloc (Nat.le_refl _) _
  by_cases h1 : 1000 < from_.size
  · have HG : Hid (greatT ⟨kind, from_, to, key, val, amount, nonce⟩ = true) := by simp [Hid, greatT, h1]
    go_enter Tryd.func33, Tryd.ntmps33
    go_wp2
    go_ret
    exact ret_bool HG.out.symm HB.out
  · by_cases h2 : 1000 < to.size
    · have HG : Hid (greatT ⟨kind, from_, to, key, val, amount, nonce⟩ = true) := by simp [Hid, greatT, h2]
      go_enter Tryd.func33, Tryd.ntmps33
      go_wp2
      go_ret
      exact ret_bool HG.out.symm HB.out
    · by_cases h3 : 1000 < key.size
      · have HG : Hid (greatT ⟨kind, from_, to, key, val, amount, nonce⟩ = true) := by simp [Hid, greatT, h3]
        go_enter Tryd.func33, Tryd.ntmps33
        go_wp2
        go_ret
        exact ret_bool HG.out.symm HB.out
      · by_cases h4 : 1000 < val.size
        · have HG : Hid (greatT ⟨kind, from_, to, key, val, amount, nonce⟩ = true) := by simp [Hid, greatT, h4]
          go_enter Tryd.func33, Tryd.ntmps33
          go_wp2
          go_ret
          exact ret_bool (by rw [HG.out]; simp; omega) HB.out
        · have HG : Hid (greatT ⟨kind, from_, to, key, val, amount, nonce⟩ = false) := by simp [Hid, greatT, h1, h2, h3, h4]
          go_enter Tryd.func33, Tryd.ntmps33
          go_wp2
          go_ret
          exact ret_bool (by rw [HG.out]; simp; omega) HB.out
def greatL (l : List Tx) : Bool := decide (60 < l.length) || l.any greatT
theorem any_split {α : Type} (f : α → Bool) (l : List α) (k : Nat) (h : k < l.length) : (l.drop k).any f = (f l[k] || (l.drop (k + 1)).any f) := by
  rw [List.drop_eq_getElem_cons h, List.any_cons]
set_option maxHeartbeats 2000000 in
set_option maxRecDepth 100000 in
theorem greatL_any (l : List Tx) (A0 : Option Addr) (c : Nat) (w : World) (hr : ReadsN w A0 7 (l.map txList)) :
    Calls Tryd.prog 11 #[.slice A0 l.length c] w (Ret w (.bool (greatL l))) := by
  have hll : l.length ≤ 9223372036854775807 := by have := hr.1; simpa using this
  have HR := Lib.hid hr; clear hr
  by_cases h60 : 60 < l.length
  · have HG : Hid (greatL l = true) := by simp [Hid, greatL, h60]
    go_enter Tryd.func11, Tryd.ntmps11
    go_wp2
    go_ret
    exact ret_bool HG.out.symm (Below.refl _ _)
  · have HG : Hid (greatL l = (l.drop 0).any greatT) := by simp [Hid, greatL, h60]
    go_enter Tryd.func11, Tryd.ntmps11
    go_wp2
    go_loopw [3] (fun i wr => ∃ k : Nat, i = .int .i64 k ∧ k ≤ l.length ∧ Hid ((l.drop k).any greatT = (l.drop 0).any greatT) ∧ Below w.heap.size w wr) (fun i _ => l.length - (intOf i).toNat)
    case atStart => exact ⟨0, rfl, by omega, rfl, Below.refl _ _⟩
    case round =>
      obtain ⟨k, rfl, hk, hA, hB⟩ := hrel
      by_cases hlt : k < l.length
      · obtain ⟨t, ht⟩ : ∃ t, l[k] = t := ⟨_, rfl⟩
        obtain ⟨kind, from_, to, key, val, amount, nonce⟩ := t
        have hcell : (l.map txList)[k]? = some (.int .i64 kind :: [.string from_, .string to, .string key, .string val, .int .i64 amount, .int .i64 nonce]) := by
          rw [List.getElem?_map, List.getElem?_eq_getElem hlt, ht]; rfl
        obtain ⟨ad, rfl, hc0, hcs⟩ := readsN_at (readsN_below HR.out hB) hcell
        have c1 := hcs 0 _ rfl
        have c2 := hcs 1 _ rfl
        have c3 := hcs 2 _ rfl
        have c4 := hcs 3 _ rfl
        have c5 := hcs 4 _ rfl
        have c6 := hcs 5 _ rfl
        have HS := Lib.hid (any_split greatT l k hlt)
        rw [ht] at HS
        have HB := Lib.hid hB
        clear hcell hcs ht
        cases hg : greatT ⟨kind, from_, to, key, val, amount, nonce⟩
        · have HS2 : Hid ((l.drop (k + 1)).any greatT = (l.drop 0).any greatT) := by rw [Hid, ← hA.out, HS.out, hg]; rfl
          go_wp2_with (first | (go_at_call 33; ((with_reducible refine (greatT_any kind amount nonce from_ to key val _).mono ?_)); rintro e w1 ⟨rfl, hb1⟩; rw [hg]; have hB1 := below_call HB.out HB.out.size hb1))
          go_roundw
          case rel => exact ⟨k + 1, by go_num, by omega, HS2, hB1⟩
          case measure => simp [intOf]; omega
        · have HS2 : Hid (greatL l = true) := by rw [Hid, HG.out, ← hA.out, HS.out, hg]; rfl
          go_wp2_with (first | (go_at_call 33; ((with_reducible refine (greatT_any kind amount nonce from_ to key val _).mono ?_)); rintro e w1 ⟨rfl, hb1⟩; rw [hg]; have hB1 := below_call HB.out HB.out.size hb1))
          go_ret
          exact ret_bool HS2.out.symm hB1
      · have HS2 : Hid (greatL l = false) := by rw [Hid, HG.out, ← hA.out, List.drop_of_length_le (by omega)]; rfl
        go_wp2
        go_ret
        exact ret_bool HS2.out.symm hB
def greatA (l : List (ByteArray × Int)) : Bool := decide (60 < l.length) || l.any fun x => decide (1000 < x.1.size)
set_option maxHeartbeats 2000000 in
set_option maxRecDepth 100000 in
theorem greatA_any (l : List (ByteArray × Int)) (A0 : Option Addr) (c : Nat) (w : World) (hr : ReadsN w A0 2 (l.map acct)) :
    Calls Tryd.prog 10 #[.slice A0 l.length c] w (Ret w (.bool (greatA l))) := by
  have hll : l.length ≤ 9223372036854775807 := by have := hr.1; simpa using this
  have HR := Lib.hid hr; clear hr
  by_cases h60 : 60 < l.length
  · have HG : Hid (greatA l = true) := by simp [Hid, greatA, h60]
    go_enter Tryd.func10, Tryd.ntmps10
    go_wp2
    go_ret
    exact ret_bool HG.out.symm (Below.refl _ _)
  · have HG : Hid (greatA l = (l.drop 0).any fun x => decide (1000 < x.1.size)) := by simp [Hid, greatA, h60]
    go_enter Tryd.func10, Tryd.ntmps10
    go_wp2
    go_loop [3] (fun i => ∃ k : Nat, i = .int .i64 k ∧ k ≤ l.length ∧ Hid (((l.drop k).any fun x => decide (1000 < x.1.size)) = (l.drop 0).any fun x => decide (1000 < x.1.size))) (fun i => l.length - (intOf i).toNat)
    case atStart => exact ⟨0, rfl, by omega, rfl⟩
    case round =>
      obtain ⟨k, rfl, hk, hA⟩ := hrel
      by_cases hlt : k < l.length
      · obtain ⟨nm, am, ht⟩ : ∃ nm am, l[k] = (nm, am) := ⟨_, _, rfl⟩
        have hcell : (l.map acct)[k]? = some (.string nm :: [.int .i64 am]) := by
          rw [List.getElem?_map, List.getElem?_eq_getElem hlt, ht]; rfl
        obtain ⟨ad, rfl, hc0, -⟩ := readsN_at HR.out hcell
        have HS := Lib.hid (any_split (fun x : ByteArray × Int => decide (1000 < x.1.size)) l k hlt)
        rw [ht] at HS
        clear hcell ht
        by_cases hg : 1000 < nm.size
        · have HS2 : Hid (greatA l = true) := by rw [Hid, HG.out, ← hA.out, HS.out]; simp [hg]
          go_wp2
          go_ret
          exact ret_bool HS2.out.symm (Below.refl _ _)
        · have HS2 : Hid (((l.drop (k + 1)).any fun x => decide (1000 < x.1.size)) = (l.drop 0).any fun x => decide (1000 < x.1.size)) := by rw [Hid, ← hA.out, HS.out]; simp [hg]
          go_wp2
          go_round
          case rel => exact ⟨k + 1, by go_num, by omega, HS2⟩
          case measure => simp [intOf]; omega
      · have HS2 : Hid (greatA l = false) := by rw [Hid, HG.out, ← hA.out, List.drop_of_length_le (by omega)]; rfl
        go_wp2
        go_ret
        exact ret_bool HS2.out.symm (Below.refl _ _)
end Go.Proofs.YtnhpkefjmpgneaaDoor
