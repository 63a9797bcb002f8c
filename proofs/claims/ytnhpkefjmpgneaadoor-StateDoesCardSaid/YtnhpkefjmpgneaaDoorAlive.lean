import Derived.Test.YtnhpkefjmpgneaaDoorState4
import Derived.Test.YtnhpkefjmpgneaaDoorDigest1
import Derived.Test.YtnhpkefjmpgneaaDoorDigest2
namespace Go.Proofs.YtnhpkefjmpgneaaDoor
open Go.RowKit

/-! ### the chapter's example, reckoned -/
def bAlice : ByteArray := ⟨#[97, 108, 105, 99, 101]⟩
def bBob : ByteArray := ⟨#[98, 111, 98]⟩
def bNone : ByteArray := ⟨#[]⟩
def aliveA : Accs := [(bAlice, (2, 1)), (bBob, (3, 0))]
def aliveTx : Tx := ⟨1, bAlice, bBob, bNone, bNone, 3, 1⟩
theorem alive_new : newR [(bAlice, 5)] = (0, [(bAlice, (5, 0))]) := by kernel_rfl
theorem alive_do : doR [(bAlice, (5, 0))] [] aliveTx = (0, aliveA, []) := by kernel_rfl
theorem alive_do2 : doR aliveA [] aliveTx = (90, aliveA, []) := by kernel_rfl
theorem alive_alice : accOf aliveA bAlice = (2, 1) := by kernel_rfl
theorem alive_bob : accOf aliveA bBob = (3, 0) := by kernel_rfl
theorem alive_less : lessB bBob bAlice = false := by kernel_rfl
theorem dec_one (n : Nat) (h : n < 10) : dec n = [UInt8.ofNat (48 + n)] := by rw [dec, if_pos h]
theorem alive_dig : digB aliveA [] = ⟨#[97, 108, 105, 99, 101, 32, 50, 32, 49, 10, 98, 111, 98, 32, 51, 32, 48, 10]⟩ := by
  have hs : sortB (aliveA.map (·.1)) = [bAlice, bBob] := (sortB_unique (List.Perm.refl _) (by
    show List.Pairwise _ [bAlice, bBob]
    simp [leB, alive_less])).symm
  have h0 : sortP (([] : Vals).map (·.1)) = [] := List.eq_nil_of_length_eq_zero (by rw [(perm_sortP _).length_eq]; rfl)
  have l1 : line1 aliveA bAlice = [97, 108, 105, 99, 101, 32, 50, 32, 49, 10] := by
    unfold line1
    rw [alive_alice, if_neg (by decide)]
    unfold printB
    rw [dec_one _ (by decide), dec_one _ (by decide)]
    rfl
  have l2 : line1 aliveA bBob = [98, 111, 98, 32, 51, 32, 48, 10] := by
    unfold line1
    rw [alive_bob, if_neg (by decide)]
    unfold printB
    rw [dec_one _ (by decide), dec_one _ (by decide)]
    rfl
  unfold digB digL
  rw [hs, h0, List.flatMap_cons, List.flatMap_cons, l1, l2]
  rfl
end Go.Proofs.YtnhpkefjmpgneaaDoor
namespace Go.Proofs.YtnhpkefjmpgneaaDoor
open Go.RowKit

theorem alive_small : SmallState aliveA [] where
  lenA := by decide
  lenV := by decide
  keysA := by intro x hx; simp [aliveA] at hx; rcases hx with rfl | rfl <;> decide
  keysV := by intro x hx; simp at hx
  ints := by
    intro s
    unfold accOf aliveA
    simp only [aget]
    by_cases h1 : s = bAlice
    · simp [h1]
    · by_cases h2 : s = bBob
      · subst h2; rw [if_neg h1]; simp
      · simp [h1, h2]
  total := by
    have h := congrArg (fun b : ByteArray => b.data.toList.length) alive_dig
    unfold digB at h
    simp only [List.length_cons, List.length_nil] at h
    omega
/-- What alive's state's blocks are behind the start. -/
theorem kept_cells {S : Nat → Prop} {w w' : World} (h : Kept S w w') {b : Nat} {cs : Array Value} {T : TypeId} {fz : Nat × Nat} (hb : w.heap[b]? = some (.cells cs T fz)) (hS : ¬ S b) : w'.heap[b]? = some (.cells cs T fz) :=
  (h.block b (size_lt_of hb) hS).trans hb
set_option maxHeartbeats 2000000 in
set_option maxRecDepth 100000 in
theorem alive_any (w : World) (hT : Tabs w) : Calls Tryd.prog 9 #[] w (Ret w (.bool true)) := by
  have HT := Lib.hid hT
  clear hT
  have hr : ReadsN (w.alloc (.cells #[.string bAlice, .int .i64 5] 77)) (some ⟨w.heap.size, 0, none⟩) 2 ([(bAlice, (5 : Int))].map acct) := by
    refine ⟨by simp, fun _ => ⟨_, rfl, fun k cs hk j u hj => ?_⟩⟩
    match k, hk with
    | 0, hk =>
      simp only [List.map_cons, List.map_nil, List.getElem?_cons_zero, Option.some.injEq] at hk
      subst hk
      have := KeysP.cell_two_new w (.string bAlice) (.int .i64 5) 77 j u hj
      simpa using this
    | k + 1, hk => simp at hk
  have hn1 : Calls Tryd.prog 12 #[.slice (some ⟨w.heap.size, 0, none⟩) 1 1] (w.alloc (.cells #[.string bAlice, .int .i64 5] 77)) fun e w' =>
      e = .returned (.tuple #[.pointer (some ⟨w.heap.size + 1 + 1 + 1, 0, none⟩), .int .i64 0]) ∧ IsState w' (w.heap.size + 1 + 1 + 1) (w.heap.size + 1) (w.heap.size + 1 + 1) [(bAlice, (5, 0))] [] ∧ Below w.heap.size w w' := by
    refine (new_any [(bAlice, 5)] (some ⟨w.heap.size, 0, none⟩) 1 (by intro x hx; simp at hx; subst hx; decide) _ hr).mono ?_
    rintro e w' ⟨hB, hP⟩
    rw [alive_new] at hP
    simp only [if_true, World.size_alloc] at hP
    exact ⟨hP.1, hP.2, below_call ((Below.refl _ _).alloc (Nat.le_refl _) _) (by simp) hB⟩
  have hn2 : bAlice = ⟨#[97, 108, 105, 99, 101]⟩ := rfl
  rw [hn2] at hn1
  clear hr hn2
  obtain ⟨p, hp⟩ : ∃ p, w.heap.size + 1 + 1 + 1 = p := ⟨_, rfl⟩
  obtain ⟨ba, hba⟩ : ∃ b, w.heap.size + 1 = b := ⟨_, rfl⟩
  obtain ⟨bv, hbv⟩ : ∃ b, w.heap.size + 1 + 1 = b := ⟨_, rfl⟩
  rw [hp, hbv, hba] at hn1
  have hNum : w.heap.size < ba ∧ ba < bv ∧ bv < p := by omega
  clear hp hba hbv
  have hD1 : ∀ W, Tabs W → IsState W p ba bv [(⟨#[97, 108, 105, 99, 101]⟩, (5, 0))] [] → Calls Tryd.prog 13 #[.pointer (some ⟨p, 0, none⟩), .agg #[.int .i64 1, .string ⟨#[97, 108, 105, 99, 101]⟩, .string ⟨#[98, 111, 98]⟩, .string ⟨#[]⟩, .string ⟨#[]⟩, .int .i64 3, .int .i64 1]] W fun e w' => e = .returned (.int .i64 0) ∧ IsState w' p ba bv aliveA [] ∧ Kept (fun k => k = ba ∨ k = bv) W w' := fun W hT hS => by
    refine (do_any p ba bv [(bAlice, (5, 0))] [] 1 3 1 bAlice bBob bNone bNone ⟨by decide, by decide, by decide, by decide⟩ W hT hS).mono ?_
    rintro e w' ⟨he, hs, hk⟩
    have hd : doR [(bAlice, (5, 0))] [] ⟨1, bAlice, bBob, bNone, bNone, 3, 1⟩ = (0, aliveA, []) := alive_do
    rw [hd] at he hs
    exact ⟨he, hs, hk⟩
  have hD2 : ∀ W, Tabs W → IsState W p ba bv aliveA [] → Calls Tryd.prog 13 #[.pointer (some ⟨p, 0, none⟩), .agg #[.int .i64 1, .string ⟨#[97, 108, 105, 99, 101]⟩, .string ⟨#[98, 111, 98]⟩, .string ⟨#[]⟩, .string ⟨#[]⟩, .int .i64 3, .int .i64 1]] W fun e w' => e = .returned (.int .i64 90) ∧ IsState w' p ba bv aliveA [] ∧ Kept (fun k => k = ba ∨ k = bv) W w' := fun W hT hS => by
    refine (do_any p ba bv aliveA [] 1 3 1 bAlice bBob bNone bNone ⟨by decide, by decide, by decide, by decide⟩ W hT hS).mono ?_
    rintro e w' ⟨he, hs, hk⟩
    have hd : doR aliveA [] ⟨1, bAlice, bBob, bNone, bNone, 3, 1⟩ = (90, aliveA, []) := alive_do2
    rw [hd] at he hs
    exact ⟨he, hs, hk⟩
  have hA1 : ∀ W, IsState W p ba bv aliveA [] → Calls Tryd.prog 18 #[.pointer (some ⟨p, 0, none⟩), .string ⟨#[97, 108, 105, 99, 101]⟩] W (Ret W (.int .i64 2)) := fun W hS => by
    have h := amount_any p ba bv aliveA [] bAlice W hS
    rw [alive_alice] at h
    exact h
  have hA2 : ∀ W, IsState W p ba bv aliveA [] → Calls Tryd.prog 18 #[.pointer (some ⟨p, 0, none⟩), .string ⟨#[98, 111, 98]⟩] W (Ret W (.int .i64 3)) := fun W hS => by
    have h := amount_any p ba bv aliveA [] bBob W hS
    rw [alive_bob] at h
    exact h
  have hG : ∀ W, IsState W p ba bv aliveA [] → Calls Tryd.prog 15 #[.pointer (some ⟨p, 0, none⟩)] W (Ret W (.string ⟨#[97, 108, 105, 99, 101, 32, 50, 32, 49, 10, 98, 111, 98, 32, 51, 32, 48, 10]⟩)) := fun W hS => by
    have h := digest_any p ba bv aliveA [] W hS alive_small
    rw [alive_dig] at h
    exact h
  go_enter Tryd.func9, Tryd.ntmps9
  go_wp2_with (first
    | (go_at_call 12; ((with_reducible refine hn1.mono ?_)); rintro e w1 ⟨rfl, hS1, hB1⟩; clear hn1; have hl1 := hS1.accs.lt; have hl2 := hS1.vals.lt; have HS1 := Lib.hid (hS1.below ((Below.refl _ _).alloc (Nat.le_refl _) (.cells #[.int .i64 1, .string ⟨#[97, 108, 105, 99, 101]⟩, .string ⟨#[98, 111, 98]⟩, .string ⟨#[]⟩, .string ⟨#[]⟩, .int .i64 3, .int .i64 1] 25 (0, 0)))); clear hS1; have HB1 := Lib.hid (hB1.alloc hB1.size (.cells #[.int .i64 1, .string ⟨#[97, 108, 105, 99, 101]⟩, .string ⟨#[98, 111, 98]⟩, .string ⟨#[]⟩, .string ⟨#[]⟩, .int .i64 3, .int .i64 1] 25 (0, 0))); have hz1 := hB1.size; clear hB1)
    | (go_at_call 13; ((with_reducible refine (hD2 _ (tabs_keep HT.out HB4.out) HS4.out).mono ?_)); rintro e w5 ⟨rfl, hS5, hK5⟩; have HS5 := Lib.hid hS5; have HB5 := Lib.hid (Kept.below HB4.out HB4.out.size hK5 (by rintro i (rfl | rfl) <;> omega)); clear hS5 hK5)
    | (go_at_call 13; ((with_reducible refine (hD1 _ (tabs_keep HT.out HB1.out) HS1.out).mono ?_)); rintro e w2 ⟨rfl, hS2, hK2⟩; have HS2 := Lib.hid hS2; have HB2 := Lib.hid (Kept.below HB1.out HB1.out.size hK2 (by rintro i (rfl | rfl) <;> omega)); have HX2 := Lib.hid (kept_cells hK2 (heap_new w1 (.cells #[.int .i64 1, .string ⟨#[97, 108, 105, 99, 101]⟩, .string ⟨#[98, 111, 98]⟩, .string ⟨#[]⟩, .string ⟨#[]⟩, .int .i64 3, .int .i64 1] 25 (0, 0))) (by rintro (h | h) <;> omega)); clear hS2 hK2)
    | (go_at_call 18; ((with_reducible refine (hA1 _ HS2.out).mono ?_)); rintro e w3 ⟨rfl, hb3⟩; have HS3 := Lib.hid (HS2.out.below hb3); have HB3 := Lib.hid (below_call HB2.out HB2.out.size hb3); have HX3 := Lib.hid ((hb3.block _ (size_lt_of HX2.out)).trans HX2.out); clear hb3)
    | (go_at_call 18; ((with_reducible refine (hA2 _ HS3.out).mono ?_)); rintro e w4 ⟨rfl, hb4⟩; have HS4 := Lib.hid (HS3.out.below hb4); have HB4 := Lib.hid (below_call HB3.out HB3.out.size hb4); have hX4 := ((hb4.block _ (size_lt_of HX3.out)).trans HX3.out); have k0 : w4.cell? ⟨w1.heap.size, 0, none⟩ = some (.int .i64 1) := cell_at hX4 0; have k1 : w4.cell? ⟨w1.heap.size, 1, none⟩ = some (.string ⟨#[97, 108, 105, 99, 101]⟩) := cell_at hX4 1; have k2 : w4.cell? ⟨w1.heap.size, 2, none⟩ = some (.string ⟨#[98, 111, 98]⟩) := cell_at hX4 2; have k3 : w4.cell? ⟨w1.heap.size, 3, none⟩ = some (.string ⟨#[]⟩) := cell_at hX4 3; have k4 : w4.cell? ⟨w1.heap.size, 4, none⟩ = some (.string ⟨#[]⟩) := cell_at hX4 4; have k5 : w4.cell? ⟨w1.heap.size, 5, none⟩ = some (.int .i64 3) := cell_at hX4 5; have k6 : w4.cell? ⟨w1.heap.size, 6, none⟩ = some (.int .i64 1) := cell_at hX4 6; clear hX4 hb4)
    | (go_at_call 15; ((with_reducible refine (hG _ HS5.out).mono ?_)); rintro e w6 ⟨rfl, hb6⟩))
  go_ret
  exact ret_bool rfl (below_call HB5.out HB5.out.size hb6)
end Go.Proofs.YtnhpkefjmpgneaaDoor
