/- The law StateApart of layer 9: whatever the accounts, the transactions before and the two transactions, the law returns true and its arguments read as they did (its tied card, the first form), in every world in which the library's two tables of UTF-8 hold what they hold. -/
import Derived.Test.YtnhpkefjmpgneaaDoorApart5
import Derived.Test.YtnhpkefjmpgneaaDoorOpen
namespace Go.Proofs.YtnhpkefjmpgneaaDoor.ApartCard
open Go.ChangeShapes Go.WideShapes Go.ChangeAt Go.RowKit Go.Joins Go.Deep

theorem whole (l : List (ByteArray × Int)) (A0 : Option Addr) (c0 : Nat) (bs : List Tx) (B0 : Option Addr) (c1 : Nat) (a b : Tx) (w : World) (hin : ApIn w l A0 bs B0) :
    Calls Tryd.prog 3 #[.slice A0 l.length c0, .slice B0 bs.length c1, txAgg a, txAgg b] w (Ret w (.bool true)) := by
  obtain ⟨ak, af, at2, akey, av, aa, an⟩ := a
  obtain ⟨bk, bf, bt, bkey, bv2, ba2, bn⟩ := b
  cases hg : (greatA l || (greatL bs || greatL [⟨ak, af, at2, akey, av, aa, an⟩, ⟨bk, bf, bt, bkey, bv2, ba2, bn⟩])) with
  | true => exact apart_great l A0 c0 bs B0 c1 ak aa an af at2 akey av bk ba2 bn bf bt bkey bv2 w hin hg
  | false =>
    rw [Bool.or_eq_false_iff, Bool.or_eq_false_iff] at hg
    obtain ⟨gA, gB, gC⟩ := hg
    have hsz : ∀ x ∈ l, x.1.size ≤ 35184372088831 := by
      have g2 := gA
      unfold greatA at g2
      rw [Bool.or_eq_false_iff] at g2
      intro x hx
      have h1 := any_false g2.2 x hx
      simp at h1
      omega
    by_cases hz : (newR l).1 = 0
    · by_cases e1 : af = bf
      · exact apart_same l A0 c0 bs B0 c1 ak aa an af at2 akey av bk ba2 bn bf bt bkey bv2 w hin gA gB gC hsz hz (.inl e1)
      · by_cases e2 : af = bt
        · exact apart_same l A0 c0 bs B0 c1 ak aa an af at2 akey av bk ba2 bn bf bt bkey bv2 w hin gA gB gC hsz hz (.inr (.inl e2))
        · by_cases e3 : at2 = bf
          · exact apart_same l A0 c0 bs B0 c1 ak aa an af at2 akey av bk ba2 bn bf bt bkey bv2 w hin gA gB gC hsz hz (.inr (.inr e3))
          · exact apart_main l A0 c0 bs B0 c1 ak aa an af at2 akey av bk ba2 bn bf bt bkey bv2 w hin gA gB gC hsz hz e1 e2 e3
    · exact apart_err l A0 c0 bs B0 c1 ak aa an af at2 akey av bk ba2 bn bf bt bkey bv2 w hin gA gB gC hsz hz

set_option maxRecDepth 100000 in
/-- What the walk gives, for every argument and every world that holds the tables. -/
theorem contract (H : Type) (enc : TypeId × Value → H) (W : World) (base : Nat) (args : Array Value) (ds gs : List (DataW H)) (before : List MemPlace)
    (hval : ∀ (j : Nat) t v, Tryd.f3.params[j]? = some t → args[j]? = some v → Value.okWide Tryd.prog W .any base t v)
    (hW : DataW.Whole enc Tryd.prog Tryd.f3.params.toList Rows.stateApartSpec.vars false W args.toList ds gs before) (hL : laidMet Tryd.prog laidList W) :
    Calls Tryd.prog 3 args W fun e W' => ∃ v, e = .returned v ∧ Rows.stateApartSpec.post enc Tryd.prog Tryd.f3 false true false false W args v W' := by
  have hW' := hW
  obtain ⟨p, q, hA0, hV, rfl, hfz, hnd⟩ := hW
  have hA : DataW.TrodAll enc Tryd.prog W 0 (fun _ => true) true Tryd.f3.params.toList args.toList ds p := hA0
  rw [Tryd.params3] at hA hval
  obtain ⟨v0, vs0, d0, ds0, p0, q0, hargs, rfl, rfl, h0, r0⟩ := trodAll_cons hA
  obtain ⟨v1, vs1, d1, ds1, p1, q1, rfl, rfl, rfl, h1, r1⟩ := trodAll_cons r0
  obtain ⟨v2, vs2, d2, ds2, p2, q2, rfl, rfl, rfl, h2, r2⟩ := trodAll_cons r1
  obtain ⟨v3, vs3, d3, ds3, p3, q3, rfl, rfl, rfl, h3, r3⟩ := trodAll_cons r2
  obtain ⟨rfl, rfl, rfl⟩ := trodAll_nil r3
  obtain rfl : args = #[v0, v1, v2, v3] := by cases args; simp_all
  obtain ⟨rfl, rfl⟩ := trodVars_none hV
  obtain ⟨l, A0, c0, rfl, ra, hI⟩ := open_accounts (hval 0 _ _ rfl rfl) h0
  obtain ⟨bs, B0, c1, rfl, rb⟩ := open_txs (hval 1 _ _ rfl rfl) h1
  obtain ⟨a, rfl⟩ := open_tx (hval 2 _ _ rfl rfl) h2
  obtain ⟨b, rfl⟩ := open_tx (hval 3 _ _ rfl rfl) h3
  refine (whole l A0 c0 bs B0 c1 a b W ⟨ra, rb, hI, tabs_of_row hL⟩).mono fun e W' ⟨he, hb⟩ => ⟨_, he, ?_⟩
  exact post_true laidOut (by rw [Tryd.params3]; intro t ht; simp at ht; rcases ht with rfl | rfl | rfl <;> exact ⟨by kernel_rfl, of_decide_eq_true (by kernel_rfl)⟩) rfl rfl (by kernel_rfl) Tryd.underlying4 hW' hb

def zeroTx : Value := .agg #[.int .i64 0, .string ⟨#[]⟩, .string ⟨#[]⟩, .string ⟨#[]⟩, .string ⟨#[]⟩, .int .i64 0, .int .i64 0]
def nilV : Value := .slice none 0 0
theorem laid_met (os : Os) : laidMet Tryd.prog Rows.stateApartRow.laid ((laidWorld os).forCall (fun _ _ => 0) ⟨#[], #[nilV, nilV, zeroTx, zeroTx], []⟩).memory :=
  laidMet_of_run' 8 (by kernel_rfl) (by kernel_rfl)
theorem reads (os : Os) {H : Type} (enc : TypeId × Value → H) : ∃ places, DataW.whole enc Tryd.prog ((laidWorld os).forCall (fun _ _ => 0) ⟨#[], #[nilV, nilV, zeroTx, zeroTx], []⟩).memory Tryd.f3.params.toList Rows.stateApartSpec.vars false #[nilV, nilV, zeroTx, zeroTx].toList 8 = some ([.nil, .nil, .agg [.lit (.int .i64 0), .lit (.string []), .lit (.string []), .lit (.string []), .lit (.string []), .lit (.int .i64 0), .lit (.int .i64 0)], .agg [.lit (.int .i64 0), .lit (.string []), .lit (.string []), .lit (.string []), .lit (.string []), .lit (.int .i64 0), .lit (.int .i64 0)]], [], places) :=
  ⟨[], by kernel_rfl⟩
set_option maxRecDepth 100000 in
theorem lifted (os : Os) (started : os.Started) (H : Type) (enc : TypeId × Value → H) (F : Stop.Interp) :
    ReturnsInHanded {} Tryd.checked os 3 .any ((OpenSpec.ofChange Rows.stateApartSpec).preRow enc Tryd.prog Tryd.f3 Rows.stateApartRow.domain false Rows.stateApartRow.laid) (((OpenSpec.ofChange Rows.stateApartSpec).at F).post enc Tryd.prog Tryd.f3 false true false false) := by
  obtain ⟨places, hx⟩ := reads os enc
  refine returnsInHanded_of_row (C := Tryd.checked) (s := OpenSpec.ofChange Rows.stateApartSpec) own started (by kernel_rfl) Tryd.func3
    (witness_row_at (enc := enc) (C := Tryd.checked) false (laidWorld os) #[nilV, nilV, zeroTx, zeroTx] rfl (by kernel_rfl) (by kernel_rfl) (by kernel_rfl)
      (OpenSpec.preRow_of_cond 8 hx (by kernel_rfl) (fun k hk => by cases hk) (by kernel_rfl) (laid_met os))) ?_
  intro W base args ds gs before hval hW _ _ _ hL _ _
  exact contract H enc W base args ds gs before hval hW hL
theorem said : Rows.StateApartSaid :=
  OpenClaim.holds_of_cond 3 Tryd.f3 rfl rfl rfl rfl rfl rfl rfl ⟨rfl, rfl, rfl, rfl, rfl⟩ rfl rfl rfl rfl rfl (by kernel_rfl) Tryd.func3 (by kernel_rfl)
    (of_decide_eq_true (by kernel_rfl)) (by unfold Func.isWrapper; first | (rw [if_pos (by decide +kernel)]; kernel_rfl) | (rw [if_neg (by decide +kernel)]; exact ⟨rfl, rfl⟩))
    (fun os started H enc _ F => by rw [OpenClaim.pre_eq_preRow]; exact lifted os started H enc F)
theorem plain (f : FuncId) (fn : Func) (hf : Tryd.pinned.checked.prog.funcNamed "hallmoot/hallmootlaw09.StateApart" = some f) (hfn : Tryd.pinned.checked.prog.funcs[f]? = some fn) :
    true = Tryd.pinned.checked.prog.looks [] ∧ ∀ (j : Nat) t, fn.params[j]? = some t → Tryd.pinned.checked.prog.wantsStandIn t = false := by
  obtain rfl : f = 3 := Option.some.inj ((show Tryd.prog.funcNamed "hallmoot/hallmootlaw09.StateApart" = some 3 by kernel_rfl).symm.trans hf) |>.symm
  obtain rfl : fn = Tryd.f3 := (Option.some.inj (Tryd.func3.symm.trans hfn)).symm
  refine ⟨by kernel_rfl, fun j t ht => ?_⟩
  rw [Tryd.params3] at ht
  have hm := Array.mem_of_getElem? ht
  simp at hm
  rcases hm with rfl | rfl | rfl
  · exact (show Tryd.prog.wantsStandIn 22 = false by kernel_rfl)
  · exact (show Tryd.prog.wantsStandIn 23 = false by kernel_rfl)
  · exact (show Tryd.prog.wantsStandIn 25 = false by kernel_rfl)
end Go.Proofs.YtnhpkefjmpgneaaDoor.ApartCard
namespace Go.Proofs.YtnhpkefjmpgneaaDoor
/-- The claim. -/
theorem stateApart_card : Rows.StateApartCardSaid :=
  Claim7.holds_tied_plain_at .later [] _ _ _ _ ApartCard.said (fun _ h => by cases h) (by kernel_rfl) (fun _ h => by cases h) stateApart_row_tie rfl ⟨rfl, rfl⟩ (by kernel_rfl) rfl ApartCard.plain (by kernel_rfl)
end Go.Proofs.YtnhpkefjmpgneaaDoor
