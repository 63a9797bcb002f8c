import Derived.Test.YtnhpkefjmpgneaaDoorState4
import Derived.Test.YtnhpkefjmpgneaaDoorDigest1
namespace Go.Proofs.YtnhpkefjmpgneaaDoor
open Go.RowKit

/-! ### the chapter's example, reckoned -/
def bAlice : ByteArray := ⟨#[97, 108, 105, 99, 101]⟩
def bBob : ByteArray := ⟨#[98, 111, 98]⟩
def bNone : ByteArray := ⟨#[]⟩
def aliveA : Accs := [(bAlice, (2, 1)), (bBob, (3, 0))]
def aliveTx : Tx := ⟨1, bAlice, bBob, bNone, bNone, 3, 1⟩
theorem alive_new : newR [(bAlice, 5)] = (0, [(bAlice, (5, 0))]) := by kernel_rfl
theorem alive_do : doR [(bAlice, (5, 0))] [] aliveTx = (0, aliveA, []) := by kernel_rfl
theorem alive_do2 : doR aliveA [] aliveTx = (90, aliveA, []) := by kernel_rfl
theorem alive_alice : accOf aliveA bAlice = (2, 1) := by kernel_rfl
theorem alive_bob : accOf aliveA bBob = (3, 0) := by kernel_rfl
theorem alive_less : lessB bBob bAlice = false := by kernel_rfl
theorem dec_one (n : Nat) (h : n < 10) : dec n = [UInt8.ofNat (48 + n)] := by rw [dec, if_pos h]
theorem alive_dig : digB aliveA [] = ⟨#[97, 108, 105, 99, 101, 32, 50, 32, 49, 10, 98, 111, 98, 32, 51, 32, 48, 10]⟩ := by
  have hs : sortB (aliveA.map (·.1)) = [bAlice, bBob] := (sortB_unique (List.Perm.refl _) (by
    show List.Pairwise _ [bAlice, bBob]
    simp [leB, alive_less])).symm
  have h0 : sortP (([] : Vals).map (·.1)) = [] := List.eq_nil_of_length_eq_zero (by rw [(perm_sortP _).length_eq]; rfl)
  have l1 : line1 aliveA bAlice = [97, 108, 105, 99, 101, 32, 50, 32, 49, 10] := by
    unfold line1
    rw [alive_alice, if_neg (by decide)]
    unfold printB
    rw [dec_one _ (by decide), dec_one _ (by decide)]
    rfl
  have l2 : line1 aliveA bBob = [98, 111, 98, 32, 51, 32, 48, 10] := by
    unfold line1
    rw [alive_bob, if_neg (by decide)]
    unfold printB
    rw [dec_one _ (by decide), dec_one _ (by decide)]
    rfl
  unfold digB digL
  rw [hs, h0, List.flatMap_cons, List.flatMap_cons, l1, l2]
  rfl
end Go.Proofs.YtnhpkefjmpgneaaDoor
