import Derived.Test.YtnhpkefjmpgneaaDoorSorted
import Derived.Test.YtnhpkefjmpgneaaDoorBuilder
import Derived.Test.YtnhpkefjmpgneaaDoorPrint
import Derived.Test.YtnhpkefjmpgneaaDoorState4
namespace Go.Proofs.YtnhpkefjmpgneaaDoor
open Go.RowKit Go.Sort

/-! ### state.Digest: what its walk wants -/
def line1 (A : Accs) (who : ByteArray) : List UInt8 :=
  if (accOf A who).1 = 0 ∧ (accOf A who).2 = 0 then []
  else (who ++ ⟨#[32]⟩ ++ printB (accOf A who).1 ++ ⟨#[32]⟩ ++ printB (accOf A who).2 ++ ⟨#[10]⟩).data.toList
def line2 (V : Vals) (p : Place) : List UInt8 :=
  if valOf V p = ⟨#[]⟩ then [] else (p.1 ++ ⟨#[9]⟩ ++ p.2 ++ ⟨#[9]⟩ ++ valOf V p ++ ⟨#[10]⟩).data.toList
def digL (A : Accs) (V : Vals) : List UInt8 := (sortB (A.map (·.1))).flatMap (line1 A) ++ (sortP (V.map (·.1))).flatMap (line2 V)
def digB (A : Accs) (V : Vals) : ByteArray := ⟨(digL A V).toArray⟩

abbrev BT : TypeId := 97
abbrev UT : TypeId := 5
theorem isBuilder_below {w w' : World} {B b : Nat} {l : List Value} (h : Lib.IsBuilder BT UT B b l w) (hb : Below w.heap.size w w') : Lib.IsBuilder BT UT B b l w' := by
  have go : ∀ p, Lib.BuilderAt BT UT B b p l w → Lib.BuilderAt BT UT B b p l w' := fun p ⟨h1, v, h2, h3, h4⟩ =>
    ⟨h1, v, (hb.block b (size_lt_of h2)).trans h2, by
      refine ⟨h3.1, ?_⟩
      rcases h3.2 with hn | ⟨g, cap, cur, hv, hg, hk, hr⟩
      · exact .inl hn
      · exact .inr ⟨g, cap, cur, hv, hg, (hb.block g (size_lt_of hk)).trans hk, hr⟩, h4⟩
  rcases h with h | h
  · exact .inl (go _ h)
  · exact .inr (go _ h)
/-- In Digest's loops: the builder holds l; a row of keys stands. -/
structure Dig (T : TypeId) (w w2 : World) (Ad : Option Addr) (l : List UInt8) (wr : World) : Prop where
  bld : Lib.IsBuilder BT UT w.heap.size w.heap.size (Lib.byteCells l) wr
  below : Below w.heap.size w wr
  row : ∀ ad, Ad = some ad → ∃ cur, w2.heap[ad.block]? = some (.cells cur T (0, 0)) ∧ wr.heap[ad.block]? = some (.cells cur T (0, 0))
theorem Dig.grow {T : TypeId} {w w2 wr wr' : World} {Ad : Option Addr} {l : List UInt8} (h : Dig T w w2 Ad l wr) (hb : Below wr.heap.size wr wr') : Dig T w w2 Ad l wr' :=
  ⟨isBuilder_below h.bld hb, below_call h.below h.below.size hb, fun ad e => by
    obtain ⟨cur, h1, h2⟩ := h.row ad e
    exact ⟨cur, h1, (hb.block _ (size_lt_of h2)).trans h2⟩⟩
theorem Dig.write {T : TypeId} (hT : T ≠ UT) (hT2 : T ≠ BT) {w w2 wr wr' : World} {Ad : Option Addr} {l : List UInt8} (h : Dig T w w2 Ad l wr) (s : ByteArray)
    (h1 : Lib.BuilderAt BT UT w.heap.size w.heap.size (.pointer (some ⟨w.heap.size, 0, none⟩)) (Lib.byteCells l ++ Lib.strCells s) wr') (h2 : Below w.heap.size wr wr') (h3 : Others w.heap.size wr wr') : Dig T w w2 Ad (l ++ s.data.toList) wr' :=
  ⟨.inr (by rw [Lib.byteCells_append]; exact h1), h.below.trans h2, fun ad e => by
    obtain ⟨cur, h4, h5⟩ := h.row ad e
    refine ⟨cur, h4, h3 _ _ h5 ?_ ?_⟩
    · intro e2
      have hb : ∃ p v, wr.heap[w.heap.size]? = some (.cells #[p, v] BT (0, 0)) := by
        rcases h.bld with ⟨_, v, h6, _⟩ | ⟨_, v, h6, _⟩
        · exact ⟨_, _, h6⟩
        · exact ⟨_, _, h6⟩
      obtain ⟨p, v, hb⟩ := hb
      rw [e2, hb] at h5
      exact hT2 (Obj.cells.inj (Option.some.inj h5)).2.1.symm
    · intro c e2
      exact hT (Obj.cells.inj e2).2.1⟩
theorem add_block (ad : Addr) (n : Nat) : (ad.add n).block = ad.block := by unfold Addr.add; split <;> rfl
theorem Dig.cells {T : TypeId} {w w2 wr : World} {Ad : Option Addr} {l : List UInt8} (h : Dig T w w2 Ad l wr) {ad : Addr} (e : Ad = some ad) (a : Addr) (ha : a.block = ad.block) : wr.cell? a = w2.cell? a := by
  obtain ⟨cur, h1, h2⟩ := h.row ad e
  unfold World.cell?
  rw [ha, h1, h2]
theorem Dig.reads {T : TypeId} {w w2 wr : World} {Ad : Option Addr} {l : List UInt8} (h : Dig T w w2 Ad l wr) {xs : List Value} (hr : Reads w2 Ad xs) : Reads wr Ad xs :=
  ⟨hr.1, fun hn => by
    obtain ⟨ad, e, hc⟩ := hr.2 hn
    exact ⟨ad, e, fun j u hj => (h.cells e _ (add_block _ _)).trans (hc j u hj)⟩⟩
theorem Dig.readsN {T : TypeId} {w w2 wr : World} {Ad : Option Addr} {l : List UInt8} (h : Dig T w w2 Ad l wr) {k : Nat} {xs : List (List Value)} (hr : ReadsN w2 Ad k xs) : ReadsN wr Ad k xs :=
  ⟨hr.1, fun hn => by
    obtain ⟨ad, e, hc⟩ := hr.2 hn
    exact ⟨ad, e, fun i cs hi j u hj => (h.cells e _ (add_block _ _)).trans (hc i cs hi j u hj)⟩⟩
theorem Dig.state {T : TypeId} {w w2 wr : World} {Ad : Option Addr} {l : List UInt8} (h : Dig T w w2 Ad l wr) {p ba bv : Nat} {A : Accs} {V : Vals} (hs : IsState w p ba bv A V) : IsState wr p ba bv A V := hs.below h.below

theorem acc_fields : (Tryd.prog.fieldsOf 84).toList.map (fun f => (f.name == "_", f.type, f.offset)) = [(false, 2, 0), (false, 2, 1)] := by kernel_rfl
theorem acc_stood : Tryd.prog.stoodInHeld 84 = false := by kernel_rfl
theorem acc_part0 (a b : Int) (w : World) : (part 2 #[.int .i64 a, .int .i64 b] 0).run Tryd.prog w = .ok (.int .i64 a) w := by kernel_rfl
theorem acc_part1 (a b : Int) (w : World) : (part 2 #[.int .i64 a, .int .i64 b] 1).run Tryd.prog w = .ok (.int .i64 b) w := by kernel_rfl
theorem run_eqFields_acc (w : World) (a b c d : Int) (n : Nat) : ∀ fs : List Field, fs.map (fun f => (f.name == "_", f.type, f.offset)) = [(false, 2, 0), (false, 2, 1)] →
    (Op.eqFields (n + 1) #[.int .i64 a, .int .i64 b] #[.int .i64 c, .int .i64 d] fs).run Tryd.prog w = .ok (decide (a = c ∧ b = d)) w
  | [], h => by simp at h
  | [_], h => by simp at h
  | _ :: _ :: _ :: _, h => by simp at h
  | [f, g], h => by
    simp only [List.map_cons, List.map_nil, List.cons.injEq, Prod.mk.injEq, and_true] at h
    obtain ⟨⟨h1, h2, h3⟩, h4, h5, h6⟩ := h
    have hn1 : f.name ≠ "_" := by simpa using h1
    have hn2 : g.name ≠ "_" := by simpa using h4
    have hs : ∀ x y : Int, (Op.equalIn (n + 1) 2 (.int .i64 x) (.int .i64 y)).run Tryd.prog w = .ok (decide (x = y)) w := fun x y => by
      rw [run_equalIn_int w n 2 .i64 _ x y Tryd.underlying2]
      rfl
    simp only [Op.eqFields, hn1, hn2, h2, h3, h5, h6, if_true, Sem.run_bind, acc_part0, acc_part1, Result.andThen_ok, hs, ne_eq, not_false_eq_true]
    by_cases ha : a = c <;> by_cases hb : b = d <;> simp [ha, hb, Sem.run_ite, acc_part1, hs]
theorem acc_ne (w : World) (a b : Int) : (binOp .neq 84 (.agg #[.int .i64 a, .int .i64 b]) (.agg #[.int .i64 0, .int .i64 0])).run Tryd.prog w = .ok (.bool !(decide (a = 0 ∧ b = 0))) w := by
  rw [run_neq_struct, show (10000 : Nat) = 9999 + 1 from rfl, run_equalIn_struct w 9999 84 _ _ (by kernel_rfl) acc_stood, run_eqFields_acc w a b 0 0 9998 _ acc_fields]
  rfl
theorem acc_guard : Tryd.prog.eqGuardType Tryd.prog.depth 84 = false := by kernel_rfl
theorem keysK_any (mb : Option Nat) (w : World) : Calls Tryd.prog 40 #[.map mb] w fun e w' => e = .returned (.func (.func 70) #[] #[.pointer (some ⟨w.heap.size, 0, none⟩)]) ∧ w' = w.alloc (.cells #[.map mb] 78) :=
  callsIn_wide.1 (KeysK.keys_in Fence.wide 1 trivial rfl mb w)
theorem keysP_any (mb : Option Nat) (w : World) : Calls Tryd.prog 46 #[.map mb] w fun e w' => e = .returned (.func (.func 75) #[] #[.pointer (some ⟨w.heap.size, 0, none⟩)]) ∧ w' = w.alloc (.cells #[.map mb] 79) :=
  callsIn_wide.1 (KeysP.keys_in Fence.wide 1 trivial rfl mb w)
set_option maxRecDepth 100000 in
theorem digest_nil (w : World) : Calls Tryd.prog 15 #[.pointer none] w (Ret w (.string ⟨#[]⟩)) := by
  go_enter Tryd.func15, Tryd.ntmps15
  go_wp2
  go_ret
  exact ret_mk rfl (Below.refl _ _)
end Go.Proofs.YtnhpkefjmpgneaaDoor
