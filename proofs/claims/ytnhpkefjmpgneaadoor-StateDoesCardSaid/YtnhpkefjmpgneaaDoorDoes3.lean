import Derived.Test.YtnhpkefjmpgneaaDoorDoesP
import Derived.Test.YtnhpkefjmpgneaaDoorApart2
namespace Go.Proofs.YtnhpkefjmpgneaaDoor
open Go.RowKit

set_option maxHeartbeats 2000000 in
set_option maxRecDepth 100000 in
theorem does_great (l : List (ByteArray × Int)) (A0 : Option Addr) (c0 : Nat) (bs : List Tx) (B0 : Option Addr) (c1 : Nat) (w : World) (hin : ApIn w l A0 bs B0)
    (hg : (greatA l || greatL bs) = true) :
    Calls Tryd.prog 6 #[.slice A0 l.length c0, .slice B0 bs.length c1] w (Ret w (.bool true)) := by
  have HT := Lib.hid hin.tabs
  have HRA := Lib.hid hin.ra
  have HRB := Lib.hid hin.rb
  clear hin
  cases gA : greatA l
  · rw [gA, Bool.false_or] at hg
    go_enter Tryd.func6, Tryd.ntmps6
    go_wp2_with (first | (go_at_call 9; ((with_reducible refine (alive_any _ HT.out).mono ?_)); rintro e w1 ⟨rfl, hb⟩; have HB1 := Lib.hid hb; clear hb) | (go_at_call 10; ((with_reducible refine (greatA_any l A0 c0 _ (readsN_below HRA.out HB1.out)).mono ?_)); rintro e w2 ⟨rfl, hb⟩; rw [gA]; have HB2 := Lib.hid (below_call HB1.out HB1.out.size hb); clear hb) | (go_at_call 11; ((with_reducible refine (greatL_any bs B0 c1 _ (readsN_below HRB.out HB2.out)).mono ?_)); rintro e w3 ⟨rfl, hb⟩; rw [hg]; have HB3 := Lib.hid (below_call HB2.out HB2.out.size hb); clear hb))
    go_ret
    exact ret_bool rfl HB3.out
  · clear hg
    go_enter Tryd.func6, Tryd.ntmps6
    go_wp2_with (first | (go_at_call 9; ((with_reducible refine (alive_any _ HT.out).mono ?_)); rintro e w1 ⟨rfl, hb⟩; have HB1 := Lib.hid hb; clear hb) | (go_at_call 10; ((with_reducible refine (greatA_any l A0 c0 _ (readsN_below HRA.out HB1.out)).mono ?_)); rintro e w2 ⟨rfl, hb⟩; rw [gA]; have HB2 := Lib.hid (below_call HB1.out HB1.out.size hb); clear hb))
    go_ret
    exact ret_bool rfl HB2.out
set_option maxHeartbeats 2000000 in
set_option maxRecDepth 100000 in
theorem does_err (l : List (ByteArray × Int)) (A0 : Option Addr) (c0 : Nat) (bs : List Tx) (B0 : Option Addr) (c1 : Nat) (w : World) (hin : ApIn w l A0 bs B0)
    (gA : greatA l = false) (gB : greatL bs = false) (hz : ¬ (newR l).1 = 0) :
    Calls Tryd.prog 6 #[.slice A0 l.length c0, .slice B0 bs.length c1] w (Ret w (.bool true)) := by
  have HT := Lib.hid hin.tabs
  have HRA := Lib.hid hin.ra
  have HRB := Lib.hid hin.rb
  have hla : l.length ≤ 60 ∧ ∀ x ∈ l, x.1.size ≤ 1000 := by
    have g := gA
    unfold greatA at g
    rw [Bool.or_eq_false_iff] at g
    refine ⟨by simpa using g.1, fun x hx => ?_⟩
    have := any_false g.2 x hx
    simpa using this
  have HSZ : Hid (∀ x ∈ l, x.1.size ≤ 35184372088831) := fun x hx => by have := hla.2 x hx; omega
  have hbl : bs.length ≤ 60 := by
    have g := gB
    unfold greatL at g
    rw [Bool.or_eq_false_iff] at g
    simpa using g.1
  have HS : Hid (∀ W, Below w.heap.size w W → Calls Tryd.prog 12 #[.slice A0 l.length c0] W (fun e w' => e = .returned (.tuple #[.pointer none, .int .i64 (newR l).1]) ∧ Below W.heap.size W w')) := fun W hW => (new_any l A0 c0 HSZ.out W (readsN_below hin.ra hW)).mono fun e w' h => by
    have := h.2
    rw [if_neg hz] at this
    exact ⟨this, h.1⟩
  have HN : Hid (∀ W, Below w.heap.size w W → Calls Tryd.prog 23 #[.slice A0 l.length c0] W (RDoPost ((newR l).1, (newR l).2, []) W)) := fun W hW => refNew_any l A0 c0 hla.1 hla.2 W (readsN_below hin.ra hW)
  have hq1 : ((newR l).1 != (newR l).1) = false := by simp
  have hq2 : ((newR l).1 != 0) = true := by simp [hz]
  clear hin hla hz HSZ
  generalize (newR l).1 = er at hq1 hq2 HN HS
  generalize (newR l).2 = nA at HN
  go_enter Tryd.func6, Tryd.ntmps6
  go_wp2_with (first | (go_at_call 9; ((with_reducible refine (alive_any _ HT.out).mono ?_)); rintro e w1 ⟨rfl, hb⟩; have HB1 := Lib.hid hb; clear hb) | (go_at_call 10; ((with_reducible refine (greatA_any l A0 c0 _ (readsN_below HRA.out HB1.out)).mono ?_)); rintro e w2 ⟨rfl, hb⟩; rw [gA]; have HB2 := Lib.hid (below_call HB1.out HB1.out.size hb); clear hb) | (go_at_call 11; ((with_reducible refine (greatL_any bs B0 c1 _ (readsN_below HRB.out HB2.out)).mono ?_)); rintro e w3 ⟨rfl, hb⟩; rw [gB]; have HB3 := Lib.hid (below_call HB2.out HB2.out.size hb); clear hb) | (go_at_call 12; ((with_reducible refine (HS.out _ HB3.out).mono ?_)); rintro e w4 ⟨rfl, hb⟩; have HB4 := Lib.hid (below_call HB3.out HB3.out.size hb); clear hb) | (go_at_call 23; ((with_reducible refine (HN.out _ HB4.out).mono ?_)); rintro e w5 ⟨A1, d1, B1, d2, rfl, -, -, hb⟩; have HB5 := Lib.hid (below_call HB4.out HB4.out.size hb); clear hb))
  go_loopw [9] (fun i wr => i = .int .i64 0 ∧ Hid (Below w.heap.size w wr)) (fun _ _ => 0)
  case atStart => exact ⟨rfl, HB5.out.alloc HB5.out.size _⟩
  case round =>
    obtain ⟨rfl, HB⟩ := hrel
    by_cases hlt : 0 < bs.length
    · have y1 : (0 : Int) < (bs.length : Int) := by omega
      go_wp2
      go_ret
      exact ret_bool rfl HB.out
    · have y1 : ¬ (0 : Int) < (bs.length : Int) := by omega
      go_wp2
      go_ret
      exact ret_bool rfl HB.out
end Go.Proofs.YtnhpkefjmpgneaaDoor
