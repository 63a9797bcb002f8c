import Derived.Test.YtnhpkefjmpgneaaDoorTx
import Derived.Test.YtnhpkefjmpgneaaDoorMap
import Derived.RegionTactic
import Derived.ChangeAlike
namespace Go.Proofs.YtnhpkefjmpgneaaDoor
open Go.RowKit

/-! ### state.State -/
def accV (a : Int × Int) : Value := .agg #[.int .i64 a.1, .int .i64 a.2]
def entV (s : ByteArray) : Value := .agg #[.string s]
abbrev Accs := List (ByteArray × (Int × Int))
abbrev Vals := List ((ByteArray × ByteArray) × ByteArray)
abbrev IsAccs (w : World) (b : Nat) (A : Accs) : Prop := IsMap Value.string accV w b A
abbrev IsVals (w : World) (b : Nat) (V : Vals) : Prop := IsMap placeV entV w b V
/-- A state: a block of two maps. -/
structure IsState (w : World) (p ba bv : Nat) (A : Accs) (V : Vals) : Prop where
  head : w.heap[p]? = some (.cells #[.map (some ba), .map (some bv)] 81 (0, 0))
  accs : IsAccs w ba A
  vals : IsVals w bv V
  ne : ba ≠ bv
theorem acc_zero (w : World) : (zeroValue 84).run Tryd.prog w = .ok (accV (0, 0)) w := by kernel_rfl
theorem ent_zero (w : World) : (zeroValue 89).run Tryd.prog w = .ok (entV ⟨#[]⟩) w := by kernel_rfl
theorem keyOk_name : KeyOk Tryd.prog 9 Value.string := keyOk_string Tryd.underlying9
def accOf (A : Accs) (s : ByteArray) : Int × Int := (aget A s).getD (0, 0)
def valOf (V : Vals) (p : ByteArray × ByteArray) : ByteArray := (aget V p).getD ⟨#[]⟩
theorem look_acc {w : World} {b : Nat} {A : Accs} (h : IsAccs w b A) (s : ByteArray) : (Instr.lookup 78 (.map (some b)) (.string s) false).run Tryd.prog w = .ok (.agg #[.int .i64 (accOf A s).1, .int .i64 (accOf A s).2]) w := by
  rw [run_look (e := 84) Tryd.underlying78 keyOk_name (acc_zero w) h s false]
  unfold accOf
  cases aget A s <;> rfl
theorem look_acc_ok {w : World} {b : Nat} {A : Accs} (h : IsAccs w b A) (s : ByteArray) : (Instr.lookup 78 (.map (some b)) (.string s) true).run Tryd.prog w = .ok (.tuple #[.agg #[.int .i64 (accOf A s).1, .int .i64 (accOf A s).2], .bool (aget A s).isSome]) w := by
  rw [run_look (e := 84) Tryd.underlying78 keyOk_name (acc_zero w) h s true]
  unfold accOf
  cases aget A s <;> rfl
theorem look_val {w : World} {b : Nat} {V : Vals} (h : IsVals w b V) (x y : ByteArray) : (Instr.lookup 79 (.map (some b)) (.agg #[.string x, .string y]) false).run Tryd.prog w = .ok (.agg #[.string (valOf V (x, y))]) w := by
  have := run_look (e := 89) Tryd.underlying79 keyOk_place (ent_zero w) h (x, y) false
  unfold placeV at this
  rw [this]
  unfold valOf
  cases aget V (x, y) <;> rfl
theorem cell_of_head {w : World} {p ba bv : Nat} {A : Accs} {V : Vals} (h : IsState w p ba bv A V) : w.cell? ⟨p, 0, none⟩ = some (.map (some ba)) ∧ w.cell? ⟨p, 1, none⟩ = some (.map (some bv)) := by
  have := h.head
  constructor <;> simp [World.cell?, this]

theorem acc_field0 (a b : Int) (w : World) : (Instr.field 84 (.agg #[.int .i64 a, .int .i64 b]) 0).run Tryd.prog w = .ok (.int .i64 a) w := by kernel_rfl
theorem acc_field1 (a b : Int) (w : World) : (Instr.field 84 (.agg #[.int .i64 a, .int .i64 b]) 1).run Tryd.prog w = .ok (.int .i64 b) w := by kernel_rfl
theorem ent_field0 (a : ByteArray) (w : World) : (Instr.field 89 (.agg #[.string a]) 0).run Tryd.prog w = .ok (.string a) w := by kernel_rfl

set_option maxRecDepth 100000 in
theorem amount_any (p ba bv : Nat) (A : Accs) (V : Vals) (s : ByteArray) (w : World) (h : IsState w p ba bv A V) :
    Calls Tryd.prog 18 #[.pointer (some ⟨p, 0, none⟩), .string s] w (Ret w (.int .i64 (accOf A s).1)) := by
  obtain ⟨h0, h1⟩ := cell_of_head h
  have hl := look_acc h.accs s
  have hf := acc_field0
  generalize accOf A s = x at hl ⊢
  go_enter Tryd.func18, Tryd.ntmps18
  go_wp2
  go_ret
  exact ret_int rfl (Below.refl _ _)
set_option maxRecDepth 100000 in
theorem nonce_any (p ba bv : Nat) (A : Accs) (V : Vals) (s : ByteArray) (w : World) (h : IsState w p ba bv A V) :
    Calls Tryd.prog 17 #[.pointer (some ⟨p, 0, none⟩), .string s] w (Ret w (.int .i64 (accOf A s).2)) := by
  obtain ⟨h0, h1⟩ := cell_of_head h
  have hl := look_acc h.accs s
  have hf := acc_field1
  generalize accOf A s = x at hl ⊢
  go_enter Tryd.func17, Tryd.ntmps17
  go_wp2
  go_ret
  exact ret_int rfl (Below.refl _ _)
set_option maxRecDepth 100000 in
theorem valueOf_any (p ba bv : Nat) (A : Accs) (V : Vals) (x y : ByteArray) (w : World) (h : IsState w p ba bv A V) :
    Calls Tryd.prog 26 #[.pointer (some ⟨p, 0, none⟩), .string x, .string y] w (Ret w (.string (valOf V (x, y)))) := by
  obtain ⟨h0, h1⟩ := cell_of_head h
  have hl := look_val h.vals x y
  have hf := ent_field0
  generalize valOf V (x, y) = u at hl ⊢
  go_enter Tryd.func26, Tryd.ntmps26
  go_wp2
  go_ret
  exact ret_mk rfl (Below.refl _ _)

set_option maxRecDepth 100000 in
theorem do_nil (kind amount nonce : Int) (from_ to key val : ByteArray) (w : World) :
    Calls Tryd.prog 13 #[.pointer none, .agg #[.int .i64 kind, .string from_, .string to, .string key, .string val, .int .i64 amount, .int .i64 nonce]] w (Ret w (.int .i64 3)) := by
  go_enter Tryd.func13, Tryd.ntmps13
  go_wp2
  go_ret
  exact ret_int rfl ((Below.refl _ _).alloc (Nat.le_refl _) _)
end Go.Proofs.YtnhpkefjmpgneaaDoor
