import Derived.Test.YtnhpkefjmpgneaaDoorState3
import Derived.Shelf.SlMaps.Clone
import Derived.Deep.RegionWith
import Derived.Deep.RegionHeld3
namespace Go.Proofs.YtnhpkefjmpgneaaDoor
open Go.RowKit

/-! ### state.Copy -/
set_option maxRecDepth 100000 in
theorem cloneA_any (b : Nat) (es : Array MapEntry) (clock : Nat) (w : World) (hb : w.heap[b]? = some (.map es clock)) :
    Calls Tryd.prog 37 #[.map (some b)] w fun e w' => e = .returned (.map (some w.heap.size)) ∧ w' = w.alloc (.map es clock) := by
  have hq := fun w => run_eql_map_nil_sl (P := Tryd.prog) w 78 _ _ (some b) Tryd.underlying78
  go_enter Tryd.func37, Tryd.ntmps37
  go_wp2
  rw [run_callFunc_extern Tryd.func67 (by kernel_rfl) (by kernel_rfl) (by kernel_rfl) (e := Extern.MapsClone.clone) (by kernel_rfl), run_maps_clone_sl w 78 hb]
  simp only [Result.andThen]
  rw [Oper.upon_value]
  go_wp2
  rw [run_typeAssert_map_sl _ 78 20 _ _ _ Tryd.underlying78]
  simp only [Result.andThen]
  rw [Oper.upon_value]
  go_wp2
  go_ret
  exact ⟨rfl, rfl⟩
set_option maxRecDepth 100000 in
theorem cloneV_any (b : Nat) (es : Array MapEntry) (clock : Nat) (w : World) (hb : w.heap[b]? = some (.map es clock)) :
    Calls Tryd.prog 38 #[.map (some b)] w fun e w' => e = .returned (.map (some w.heap.size)) ∧ w' = w.alloc (.map es clock) := by
  have hq := fun w => run_eql_map_nil_sl (P := Tryd.prog) w 79 _ _ (some b) Tryd.underlying79
  go_enter Tryd.func38, Tryd.ntmps38
  go_wp2
  rw [run_callFunc_extern Tryd.func67 (by kernel_rfl) (by kernel_rfl) (by kernel_rfl) (e := Extern.MapsClone.clone) (by kernel_rfl), run_maps_clone_sl w 79 hb]
  simp only [Result.andThen]
  rw [Oper.upon_value]
  go_wp2
  rw [run_typeAssert_map_sl _ 79 20 _ _ _ Tryd.underlying79]
  simp only [Result.andThen]
  rw [Oper.upon_value]
  go_wp2
  go_ret
  exact ⟨rfl, rfl⟩
theorem copy_nil (w : World) : Calls Tryd.prog 14 #[.pointer none] w (Ret w (.pointer none)) := by
  go_enter Tryd.func14, Tryd.ntmps14
  go_wp2
  go_ret
  exact ret_mk rfl (Below.refl _ _)

/-- What Copy's post says. -/
def CopyPost (A : Accs) (V : Vals) (w : World) (e : Ending) (w' : World) : Prop := ∃ q qa qv : Nat, e = .returned (.pointer (some ⟨q, 0, none⟩)) ∧ IsState w' q qa qv A V ∧ Below w.heap.size w w' ∧ w.heap.size ≤ q ∧ w.heap.size ≤ qa ∧ w.heap.size ≤ qv
theorem isMap_at {K V : Type} [DecidableEq K] {enc : K → Value} {ev : V → Value} {w w' : World} {b q : Nat} {l : List (K × V)} {es : Array MapEntry} {clock : Nat} (h : IsMap enc ev w b l) (hb : w.heap[b]? = some (.map es clock)) (hq : w'.heap[q]? = some (.map es clock)) : IsMap enc ev w' q l := by
  obtain ⟨es', clock', hb', r⟩ := h.out
  rw [hb] at hb'
  cases hb'
  exact ⟨⟨es, clock, hq, r⟩, h.nodup⟩
theorem copy_post {w : World} {p ba bv : Nat} {A : Accs} {V : Vals} (h : IsState w p ba bv A V) {es fs : Array MapEntry} {clock clock2 : Nat} (hb : w.heap[ba]? = some (.map es clock)) (hb2 : w.heap[bv]? = some (.map fs clock2)) :
    CopyPost A V w (.returned (.pointer (some ⟨w.heap.size + 1 + 1, 0, none⟩))) (((w.alloc (.map es clock)).alloc (.map fs clock2)).alloc (.cells #[.map (some w.heap.size), .map (some (w.heap.size + 1))] 81)).drew := by
  have h1 : Below (w.alloc (.map es clock)).heap.size (w.alloc (.map es clock)) (((w.alloc (.map es clock)).alloc (.map fs clock2)).alloc (.cells #[.map (some w.heap.size), .map (some (w.heap.size + 1))] 81)) := ((Below.refl _ _).alloc (Nat.le_refl _) _).alloc (by simp) _
  have h2 : Below ((w.alloc (.map es clock)).alloc (.map fs clock2)).heap.size ((w.alloc (.map es clock)).alloc (.map fs clock2)) (((w.alloc (.map es clock)).alloc (.map fs clock2)).alloc (.cells #[.map (some w.heap.size), .map (some (w.heap.size + 1))] 81)) := (Below.refl _ _).alloc (Nat.le_refl _) _
  refine ⟨w.heap.size + 1 + 1, w.heap.size, w.heap.size + 1, rfl, ⟨?_, isMap_at h.accs hb ?_, isMap_at h.vals hb2 ?_, by omega⟩, ((((Below.refl _ _).alloc (Nat.le_refl _) _).alloc (by simp) _).alloc (by simp; omega) _).drew, by omega, by omega, by omega⟩
  · have := heap_new ((w.alloc (.map es clock)).alloc (.map fs clock2)) (.cells #[.map (some w.heap.size), .map (some (w.heap.size + 1))] 81)
    rw [World.size_alloc, World.size_alloc] at this
    exact this
  · exact (h1.block _ (by simp)).trans (heap_new _ _)
  · have h3 := heap_new (w.alloc (.map es clock)) (.map fs clock2)
    rw [World.size_alloc] at h3
    exact (h2.block (w.heap.size + 1) (by simp)).trans h3

set_option maxHeartbeats 2000000 in
set_option maxRecDepth 100000 in
theorem copy_any (p ba bv : Nat) (A : Accs) (V : Vals) (w : World) (h : IsState w p ba bv A V) :
    Calls Tryd.prog 14 #[.pointer (some ⟨p, 0, none⟩)] w (CopyPost A V w) := by
  have c0 : w.cell? ⟨p, 0, none⟩ = some (.map (some ba)) := by rw [cell_at h.head]; rfl
  have c1 : w.cell? ⟨p, 1, none⟩ = some (.map (some bv)) := by rw [cell_at h.head]; rfl
  have hpz := size_lt_of h.head
  have hbz := h.accs.lt
  have hvz := h.vals.lt
  obtain ⟨es, clock, hb, _⟩ := h.accs.out
  obtain ⟨fs, clock2, hb2, _⟩ := h.vals.out
  have H := Lib.hid (copy_post h hb hb2); clear h
  go_enter Tryd.func14, Tryd.ntmps14
  go_wp2
  go_region_with (first | (go_at_call 37; refine (cloneA_any ba es clock w.drew hb).mono ?_; rintro e w1 ⟨rfl, rfl⟩) | (go_at_call 38; refine (cloneV_any bv fs clock2 (w.alloc (.map es clock)).drew ((Below.heap_alloc _ _ _ hvz).trans hb2)).mono ?_; rintro e w1 ⟨rfl, rfl⟩))
  all_goals
    go_wp2
    go_ret
    exact H.out
end Go.Proofs.YtnhpkefjmpgneaaDoor
