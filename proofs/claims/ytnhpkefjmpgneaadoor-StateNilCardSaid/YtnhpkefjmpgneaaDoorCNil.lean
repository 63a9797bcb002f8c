/- The law StateNil of layer 9: whatever the transaction, the law returns true and its argument reads as it did (its tied card, the first form), in every world in which the library's two tables of UTF-8 hold what they hold. -/
import Derived.Test.YtnhpkefjmpgneaaDoorNil
import Derived.Test.YtnhpkefjmpgneaaDoorKit
namespace Go.Proofs.YtnhpkefjmpgneaaDoor.NilCard
open Go.ChangeShapes Go.WideShapes Go.ChangeAt Go.RowKit Go.Joins Go.Deep

theorem struct25 : ∃ f0 f1 f2 f3 f4 f5 f6, Tryd.prog.underlying 25 = some (.struct #[f0, f1, f2, f3, f4, f5, f6]) ∧ oneCellFields Tryd.prog #[f0, f1, f2, f3, f4, f5, f6] = true ∧ f0.type = 3 ∧ f1.type = 9 ∧ f2.type = 9 ∧ f3.type = 9 ∧ f4.type = 9 ∧ f5.type = 2 ∧ f6.type = 2 :=
  ⟨_, _, _, _, _, _, _, Tryd.underlying25, by kernel_rfl, rfl, rfl, rfl, rfl, rfl, rfl, rfl⟩
theorem cells25 : Tryd.prog.cellsOf 25 = 7 := by kernel_rfl

set_option maxRecDepth 100000 in
/-- What the walk gives, for every argument and every world that holds the tables. -/
theorem contract (H : Type) (enc : TypeId × Value → H) (W : World) (base : Nat) (args : Array Value) (ds gs : List (DataW H)) (before : List MemPlace)
    (hval : ∀ (j : Nat) t v, Tryd.f7.params[j]? = some t → args[j]? = some v → Value.okWide Tryd.prog W .any base t v)
    (hW : DataW.Whole enc Tryd.prog Tryd.f7.params.toList Rows.stateNilSpec.vars false W args.toList ds gs before) (hL : laidMet Tryd.prog laidList W) :
    Calls Tryd.prog 7 args W fun e W' => ∃ v, e = .returned v ∧ Rows.stateNilSpec.post enc Tryd.prog Tryd.f7 false true false false W args v W' := by
  have hW' := hW
  obtain ⟨p, q, hA0, hV, rfl, hfz, hnd⟩ := hW
  have hA : DataW.TrodAll enc Tryd.prog W 0 (fun _ => true) true Tryd.f7.params.toList args.toList ds p := hA0
  rw [Tryd.params7] at hA hval
  obtain ⟨v0, vs0, d0, ds0, p0, q0, hargs, rfl, rfl, h0, r0⟩ := trodAll_cons hA
  obtain ⟨rfl, rfl, rfl⟩ := trodAll_nil r0
  obtain rfl : args = #[v0] := by cases args; simp_all
  obtain ⟨rfl, rfl⟩ := trodVars_none hV
  obtain ⟨f0, f1, f2, f3, f4, f5, f6, hs, hone, t0, t1, t2, t3, t4, t5, t6⟩ := struct25
  obtain ⟨v0, v1, v2, v3, v4, v5, v6, y0, y1, y2, y3, y4, y5, y6, n, rfl, rfl, g0, g1, g2, g3, g4, g5, g6⟩ := open_agg7 hs hone cells25 (hval 0 25 _ rfl rfl) h0
  rw [t0] at g0; rw [t1] at g1; rw [t2] at g2; rw [t3] at g3; rw [t4] at g4; rw [t5] at g5; rw [t6] at g6
  obtain ⟨z0, e0, -, -⟩ := DataW.trod_int Tryd.underlying3 g0
  obtain ⟨z5, e5, -, -⟩ := DataW.trod_int Tryd.underlying2 g5
  obtain ⟨z6, e6, -, -⟩ := DataW.trod_int Tryd.underlying2 g6
  obtain ⟨s1, e1, -⟩ := DataW.trod_string Tryd.underlying9 g1
  obtain ⟨s2, e2, -⟩ := DataW.trod_string Tryd.underlying9 g2
  obtain ⟨s3, e3, -⟩ := DataW.trod_string Tryd.underlying9 g3
  obtain ⟨s4, e4, -⟩ := DataW.trod_string Tryd.underlying9 g4
  simp only [List.cons.injEq, and_true] at e0 e1 e2 e3 e4 e5 e6
  subst e0 e1 e2 e3 e4 e5 e6
  refine (stateNil_any z0 z5 z6 s1 s2 s3 s4 W (tabs_of_row hL)).mono fun e W' ⟨he, hb⟩ => ⟨_, he, ?_⟩
  exact post_true laidOut (by rw [Tryd.params7]; intro t ht; simp at ht; subst ht; exact ⟨by kernel_rfl, of_decide_eq_true (by kernel_rfl)⟩) rfl rfl (by kernel_rfl) Tryd.underlying4 hW' hb

def zeroTx : Value := .agg #[.int .i64 0, .string ⟨#[]⟩, .string ⟨#[]⟩, .string ⟨#[]⟩, .string ⟨#[]⟩, .int .i64 0, .int .i64 0]
theorem laid_met (os : Os) : laidMet Tryd.prog Rows.stateNilRow.laid ((laidWorld os).forCall (fun _ _ => 0) ⟨#[], #[zeroTx], []⟩).memory :=
  laidMet_of_run' 8 (by kernel_rfl) (by kernel_rfl)
theorem reads (os : Os) {H : Type} (enc : TypeId × Value → H) : ∃ places, DataW.whole enc Tryd.prog ((laidWorld os).forCall (fun _ _ => 0) ⟨#[], #[zeroTx], []⟩).memory Tryd.f7.params.toList Rows.stateNilSpec.vars false #[zeroTx].toList 8 = some ([.agg [.lit (.int .i64 0), .lit (.string []), .lit (.string []), .lit (.string []), .lit (.string []), .lit (.int .i64 0), .lit (.int .i64 0)]], [], places) :=
  ⟨[], by kernel_rfl⟩
set_option maxRecDepth 100000 in
theorem lifted (os : Os) (started : os.Started) (H : Type) (enc : TypeId × Value → H) (F : Stop.Interp) :
    ReturnsInHanded {} Tryd.checked os 7 .any ((OpenSpec.ofChange Rows.stateNilSpec).preRow enc Tryd.prog Tryd.f7 Rows.stateNilRow.domain false Rows.stateNilRow.laid) (((OpenSpec.ofChange Rows.stateNilSpec).at F).post enc Tryd.prog Tryd.f7 false true false false) := by
  obtain ⟨places, hx⟩ := reads os enc
  refine returnsInHanded_of_row (C := Tryd.checked) (s := OpenSpec.ofChange Rows.stateNilSpec) own started (by kernel_rfl) Tryd.func7
    (witness_row_at (enc := enc) (C := Tryd.checked) false (laidWorld os) #[zeroTx] rfl (by kernel_rfl) (by kernel_rfl) (by kernel_rfl)
      (OpenSpec.preRow_of_cond 8 hx (by kernel_rfl) (fun k hk => by cases hk) (by kernel_rfl) (laid_met os))) ?_
  intro W base args ds gs before hval hW _ _ _ hL _ _
  exact contract H enc W base args ds gs before hval hW hL
theorem said : Rows.StateNilSaid :=
  OpenClaim.holds_of_cond 7 Tryd.f7 rfl rfl rfl rfl rfl rfl rfl ⟨rfl, rfl, rfl, rfl, rfl⟩ rfl rfl rfl rfl rfl (by kernel_rfl) Tryd.func7 (by kernel_rfl)
    (of_decide_eq_true (by kernel_rfl)) (by unfold Func.isWrapper; first | (rw [if_pos (by decide +kernel)]; kernel_rfl) | (rw [if_neg (by decide +kernel)]; exact ⟨rfl, rfl⟩))
    (fun os started H enc _ F => by rw [OpenClaim.pre_eq_preRow]; exact lifted os started H enc F)
theorem plain (f : FuncId) (fn : Func) (hf : Tryd.pinned.checked.prog.funcNamed "hallmoot/hallmootlaw09.StateNil" = some f) (hfn : Tryd.pinned.checked.prog.funcs[f]? = some fn) :
    true = Tryd.pinned.checked.prog.looks [] ∧ ∀ (j : Nat) t, fn.params[j]? = some t → Tryd.pinned.checked.prog.wantsStandIn t = false := by
  obtain rfl : f = 7 := Option.some.inj ((show Tryd.prog.funcNamed "hallmoot/hallmootlaw09.StateNil" = some 7 by kernel_rfl).symm.trans hf) |>.symm
  obtain rfl : fn = Tryd.f7 := (Option.some.inj (Tryd.func7.symm.trans hfn)).symm
  refine ⟨by kernel_rfl, fun j t ht => ?_⟩
  rw [Tryd.params7] at ht
  obtain rfl : t = 25 := by simpa using Array.mem_of_getElem? ht
  exact (show Tryd.prog.wantsStandIn 25 = false by kernel_rfl)
end Go.Proofs.YtnhpkefjmpgneaaDoor.NilCard
namespace Go.Proofs.YtnhpkefjmpgneaaDoor
/-- The claim. -/
theorem stateNil_card : Rows.StateNilCardSaid :=
  Claim7.holds_tied_plain_at .later [] _ _ _ _ NilCard.said (fun _ h => by cases h) (by kernel_rfl) (fun _ h => by cases h) stateNil_row_tie rfl ⟨rfl, rfl⟩ (by kernel_rfl) rfl NilCard.plain (by kernel_rfl)
end Go.Proofs.YtnhpkefjmpgneaaDoor
