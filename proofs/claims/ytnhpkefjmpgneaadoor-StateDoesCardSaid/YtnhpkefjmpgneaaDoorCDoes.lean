/- The law StateDoes of layer 9: whatever the accounts and the transactions, the law returns true and its arguments read as they did (its tied card, the first form), in every world in which the library's two tables of UTF-8 hold what they hold. -/
import Derived.Test.YtnhpkefjmpgneaaDoorDoes4
import Derived.Test.YtnhpkefjmpgneaaDoorOpen
namespace Go.Proofs.YtnhpkefjmpgneaaDoor.DoesCard
open Go.ChangeShapes Go.WideShapes Go.ChangeAt Go.RowKit Go.Joins Go.Deep

theorem whole (l : List (ByteArray × Int)) (A0 : Option Addr) (c0 : Nat) (bs : List Tx) (B0 : Option Addr) (c1 : Nat) (w : World) (hin : ApIn w l A0 bs B0) :
    Calls Tryd.prog 6 #[.slice A0 l.length c0, .slice B0 bs.length c1] w (Ret w (.bool true)) := by
  cases gA : greatA l
  · cases gB : greatL bs
    · by_cases hz : (newR l).1 = 0
      · exact does_main l A0 c0 bs B0 c1 w hin gA gB hz
      · exact does_err l A0 c0 bs B0 c1 w hin gA gB hz
    · exact does_great l A0 c0 bs B0 c1 w hin (by rw [gA, gB]; rfl)
  · exact does_great l A0 c0 bs B0 c1 w hin (by rw [gA]; rfl)

set_option maxRecDepth 100000 in
/-- What the walk gives, for every argument and every world that holds the tables. -/
theorem contract (H : Type) (enc : TypeId × Value → H) (W : World) (base : Nat) (args : Array Value) (ds gs : List (DataW H)) (before : List MemPlace)
    (hval : ∀ (j : Nat) t v, Tryd.f6.params[j]? = some t → args[j]? = some v → Value.okWide Tryd.prog W .any base t v)
    (hW : DataW.Whole enc Tryd.prog Tryd.f6.params.toList Rows.stateDoesSpec.vars false W args.toList ds gs before) (hL : laidMet Tryd.prog laidList W) :
    Calls Tryd.prog 6 args W fun e W' => ∃ v, e = .returned v ∧ Rows.stateDoesSpec.post enc Tryd.prog Tryd.f6 false true false false W args v W' := by
  have hW' := hW
  obtain ⟨p, q, hA0, hV, rfl, hfz, hnd⟩ := hW
  have hA : DataW.TrodAll enc Tryd.prog W 0 (fun _ => true) true Tryd.f6.params.toList args.toList ds p := hA0
  rw [Tryd.params6] at hA hval
  obtain ⟨v0, vs0, d0, ds0, p0, q0, hargs, rfl, rfl, h0, r0⟩ := trodAll_cons hA
  obtain ⟨v1, vs1, d1, ds1, p1, q1, rfl, rfl, rfl, h1, r1⟩ := trodAll_cons r0
  obtain ⟨rfl, rfl, rfl⟩ := trodAll_nil r1
  obtain rfl : args = #[v0, v1] := by cases args; simp_all
  obtain ⟨rfl, rfl⟩ := trodVars_none hV
  obtain ⟨l, A0, c0, rfl, ra, hI⟩ := open_accounts (hval 0 _ _ rfl rfl) h0
  obtain ⟨bs, B0, c1, rfl, rb⟩ := open_txs (hval 1 _ _ rfl rfl) h1
  refine (whole l A0 c0 bs B0 c1 W ⟨ra, rb, hI, tabs_of_row hL⟩).mono fun e W' ⟨he, hb⟩ => ⟨_, he, ?_⟩
  exact post_true laidOut (by rw [Tryd.params6]; intro t ht; simp at ht; rcases ht with rfl | rfl <;> exact ⟨by kernel_rfl, of_decide_eq_true (by kernel_rfl)⟩) rfl rfl (by kernel_rfl) Tryd.underlying4 hW' hb

def nilV : Value := .slice none 0 0
theorem laid_met (os : Os) : laidMet Tryd.prog Rows.stateDoesRow.laid ((laidWorld os).forCall (fun _ _ => 0) ⟨#[], #[nilV, nilV], []⟩).memory :=
  laidMet_of_run' 8 (by kernel_rfl) (by kernel_rfl)
theorem reads (os : Os) {H : Type} (enc : TypeId × Value → H) : ∃ places, DataW.whole enc Tryd.prog ((laidWorld os).forCall (fun _ _ => 0) ⟨#[], #[nilV, nilV], []⟩).memory Tryd.f6.params.toList Rows.stateDoesSpec.vars false #[nilV, nilV].toList 8 = some ([.nil, .nil], [], places) :=
  ⟨[], by kernel_rfl⟩
set_option maxRecDepth 100000 in
theorem lifted (os : Os) (started : os.Started) (H : Type) (enc : TypeId × Value → H) (F : Stop.Interp) :
    ReturnsInHanded {} Tryd.checked os 6 .any ((OpenSpec.ofChange Rows.stateDoesSpec).preRow enc Tryd.prog Tryd.f6 Rows.stateDoesRow.domain false Rows.stateDoesRow.laid) (((OpenSpec.ofChange Rows.stateDoesSpec).at F).post enc Tryd.prog Tryd.f6 false true false false) := by
  obtain ⟨places, hx⟩ := reads os enc
  refine returnsInHanded_of_row (C := Tryd.checked) (s := OpenSpec.ofChange Rows.stateDoesSpec) own started (by kernel_rfl) Tryd.func6
    (witness_row_at (enc := enc) (C := Tryd.checked) false (laidWorld os) #[nilV, nilV] rfl (by kernel_rfl) (by kernel_rfl) (by kernel_rfl)
      (OpenSpec.preRow_of_cond 8 hx (by kernel_rfl) (fun k hk => by cases hk) (by kernel_rfl) (laid_met os))) ?_
  intro W base args ds gs before hval hW _ _ _ hL _ _
  exact contract H enc W base args ds gs before hval hW hL
theorem said : Rows.StateDoesSaid :=
  OpenClaim.holds_of_cond 6 Tryd.f6 rfl rfl rfl rfl rfl rfl rfl ⟨rfl, rfl, rfl, rfl, rfl⟩ rfl rfl rfl rfl rfl (by kernel_rfl) Tryd.func6 (by kernel_rfl)
    (of_decide_eq_true (by kernel_rfl)) (by unfold Func.isWrapper; first | (rw [if_pos (by decide +kernel)]; kernel_rfl) | (rw [if_neg (by decide +kernel)]; exact ⟨rfl, rfl⟩))
    (fun os started H enc _ F => by rw [OpenClaim.pre_eq_preRow]; exact lifted os started H enc F)
theorem plain (f : FuncId) (fn : Func) (hf : Tryd.pinned.checked.prog.funcNamed "hallmoot/hallmootlaw09.StateDoes" = some f) (hfn : Tryd.pinned.checked.prog.funcs[f]? = some fn) :
    true = Tryd.pinned.checked.prog.looks [] ∧ ∀ (j : Nat) t, fn.params[j]? = some t → Tryd.pinned.checked.prog.wantsStandIn t = false := by
  obtain rfl : f = 6 := Option.some.inj ((show Tryd.prog.funcNamed "hallmoot/hallmootlaw09.StateDoes" = some 6 by kernel_rfl).symm.trans hf) |>.symm
  obtain rfl : fn = Tryd.f6 := (Option.some.inj (Tryd.func6.symm.trans hfn)).symm
  refine ⟨by kernel_rfl, fun j t ht => ?_⟩
  rw [Tryd.params6] at ht
  have hm := Array.mem_of_getElem? ht
  simp at hm
  rcases hm with rfl | rfl
  · exact (show Tryd.prog.wantsStandIn 22 = false by kernel_rfl)
  · exact (show Tryd.prog.wantsStandIn 23 = false by kernel_rfl)
end Go.Proofs.YtnhpkefjmpgneaaDoor.DoesCard
namespace Go.Proofs.YtnhpkefjmpgneaaDoor
/-- The claim. -/
theorem stateDoes_card : Rows.StateDoesCardSaid :=
  Claim7.holds_tied_plain_at .later [] _ _ _ _ DoesCard.said (fun _ h => by cases h) (by kernel_rfl) (fun _ h => by cases h) stateDoes_row_tie rfl ⟨rfl, rfl⟩ (by kernel_rfl) rfl DoesCard.plain (by kernel_rfl)
end Go.Proofs.YtnhpkefjmpgneaaDoor
