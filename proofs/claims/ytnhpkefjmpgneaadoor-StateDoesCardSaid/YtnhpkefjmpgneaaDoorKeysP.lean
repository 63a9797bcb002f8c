import Derived.Test.YtnhpkefjmpgneaaDoorSort1
import Derived.Test.YtnhpkefjmpgneaaDoorRange
import Derived.Test.YtnhpkefjmpgneaaDoorMap
import Derived.RangeFuncBound
import Derived.Shelf.AbstractIn
import Derived.RangeFuncSeq
import Derived.RangeFuncGives
import Derived.RangeFuncLeaves
import Derived.Sort.MapsRangeIn
import Derived.OwnWalkIn
import Derived.TacticsInMore
import Derived.RegionIn
import Derived.LoopNIn
import Derived.LoopIn
import Derived.Maps.AppendAt
namespace Go.Proofs.YtnhpkefjmpgneaaDoor.KeysP
open Go.RowKit Go.Maps Go.Sort Go.Shelf

abbrev EK := ByteArray × ByteArray
def enc : EK → Value := placeV
def cellsOf : EK → List Value := fun p => [.string p.1, .string p.2]
def rowOf (ss : List EK) : List Value := ss.flatMap cellsOf
theorem rowOf_snoc (ss : List EK) (x : EK) : rowOf (ss ++ [x]) = rowOf ss ++ cellsOf x := by simp [rowOf]

set_option maxRecDepth 100000 in
set_option maxHeartbeats 1000000 in
theorem keys1_in {V : Type} (ev : V → Value) (F : Fence) (n : Nat) (h10 : F.fn 75) (hro : F.round = none) (hn : 1 ≤ n) (l Bm b : Nat) (L : List (EK × V)) (J : List EK → World → Prop)
    (hY : ∀ pre x W, J pre W → pre.length < L.length → YieldAt F (n - 1) Tryd.prog l #[enc x] W fun e W' => e = .returned (.bool true) ∧ J (pre ++ [x]) W' ∧ KeepsWalks W W')
    (W : World) (hJ : AbidesFrom W.heap.size J) (hm : W.cell? ⟨Bm, 0, none⟩ = some (.map (some b))) (hown : IsMap enc ev W b L) (h0 : J [] W) :
    CallsIn F n Tryd.prog 75 #[.func (.yield l) #[] #[], .pointer (some ⟨Bm, 0, none⟩)] W fun e W' => (∃ v, e = .returned v) ∧ ∃ ss : List EK, ss.Perm (L.map (·.1)) ∧ J ss W' := by
  refine callsIn_of_wp Tryd.func75 rfl h10 ?_ hro
  simp only [Tryd.ntmps75, List.size_toArray, List.length_cons, List.length_nil, Nat.reduceAdd, Nat.reduceSub, Array.replicate_succ, Array.replicate_zero, List.push_toArray, List.append_toArray, List.nil_append, List.cons_append]
  gi_wp2_with (first
    | (gi_at_range; refine wpListIn_range_is rfl _ 79 rfl 91 89 Tryd.underlying79 rfl hown ?_; intro w0 hrg0 hg0 hs0)
    | gi_in)
  go_frame
  gi_loopw [3] (fun _ wr => ∃ dn : List (EK × V), Ranging enc ev wr b W.heap.size L dn ∧ J (dn.map (·.1)) wr)
    (fun _ wr => wr.rangeLeft b W.heap.size)
  case atStart =>
    exact ⟨[], hrg0, hJ [] W w0 none h0 hg0 (fun r e => by cases e)⟩
  case round =>
    obtain ⟨dn, hrg, hJs⟩ := hrel
    gi_wp2_with (first
      | (gi_at_next; refine wpListIn_next_is rfl _ rfl rfl hrg ?_ ?_)
      | gi_in)
    · intro hdn
      gi_wp2
      go_end0
      exact ⟨⟨_, rfl⟩, dn.map (·.1), hdn.map _, hJs⟩
    · intro x1 x2 c w2 hmem hlen hrg2 hg2 hs2 hen
      have hJ2 : J (dn.map (·.1)) w2 := hJ _ wr w2 (some W.heap.size) hJs hg2 (fun r e => by cases e; exact ⟨Nat.le_refl _, hrg.iter_walk⟩)
      have hJ2 : J (dn.map (·.1)) (w2.alloc (.cells #[.string x1, .string x2] 91)) := hJ _ _ _ none hJ2 ⟨rfl, rfl, rfl, by simp, fun i hi _ => Below.heap_alloc _ _ _ hi⟩ (fun r e => by cases e)
      obtain ⟨fn, tmps, assign, body, hy, hR⟩ := hY (dn.map (·.1)) (x1, x2) (w2.alloc (.cells #[.string x1, .string x2] 91)) hJ2 (by simpa using hlen)
      have hlq := hrg.left_eq
      clear hs2
      simp only [enc, placeV] at hen hy ⊢
      gi_wp2
      refine hR.mono ?_
      rintro e W3 ⟨rfl, hJ3, hk3⟩
      gi_wp2
      have hrg3 := (hrg2.of_walks (KeepsWalks.alloc _ _)).of_walks hk3
      go_roundw
      case rel => exact ⟨dn ++ [((x1, x2), c)], hrg3, by rw [List.map_append]; exact hJ3⟩
      case measure =>
        have hlq3 := hrg3.left_eq
        rw [List.length_append] at hlq3
        simp only [List.length_cons, List.length_nil] at hlq3
        omega

/-- maps.Keys(m). -/
theorem keys_in (F : Fence) (n : Nat) (h7 : F.fn 46) (hro : F.round = none) (mb : Option Nat) (w : World) :
    CallsIn F n Tryd.prog 46 #[.map mb] w fun e w' => e = .returned (.func (.func 75) #[] #[.pointer (some ⟨w.heap.size, 0, none⟩)]) ∧ w' = w.alloc (.cells #[.map mb] 79) := by
  refine callsIn_of_wp Tryd.func46 rfl h7 ?_ hro
  simp only [Tryd.ntmps46, List.size_toArray, List.length_cons, List.length_nil, Nat.reduceAdd, Nat.reduceSub, Array.replicate_succ, Array.replicate_zero, List.push_toArray, List.append_toArray, List.nil_append, List.cons_append]
  gi_wp2
  go_ret
  exact ⟨rfl, rfl⟩

theorem keys_gives {V : Type} (ev : V → Value) (F : Fence) (n : Nat) (h10 : F.fn 75) (hro : F.round = none) (hn : 1 ≤ n) (Bm b : Nat) (L : List (EK × V)) (w : World) (hBm : Bm < w.heap.size)
    (hm : w.cell? ⟨Bm, 0, none⟩ = some (.map (some b))) (hown : IsMap enc ev w b L) :
    SeqGives F n Tryd.prog 75 #[.pointer (some ⟨Bm, 0, none⟩)] enc (fun ss => ss.Perm (L.map (·.1))) L.length w := fun l J W hW hJ hY h0 =>
  keys1_in ev F n h10 hro hn l Bm b L J hY W hJ ((hW.cell (p := ⟨Bm, 0, none⟩) hBm).trans hm) (hown.below hW) h0

theorem cell_two_new (w : World) (a b : Value) (e : TypeId) : ∀ (j : Nat) (u : Value), [a, b][j]? = some u → (w.alloc (.cells #[a, b] e)).cell? ((⟨w.heap.size, 0, none⟩ : Addr).add j) = some u := by
  intro j u hj
  have hn := heap_new w (.cells #[a, b] e)
  match j, hj with
  | 0, hj => simp at hj; subst hj; rw [show (⟨w.heap.size, 0, none⟩ : Addr).add 0 = ⟨w.heap.size, 0, none⟩ from rfl]; unfold World.cell?; rw [hn]; rfl
  | 1, hj => simp at hj; subst hj; rw [show (⟨w.heap.size, 0, none⟩ : Addr).add 1 = ⟨w.heap.size, 1, none⟩ from rfl]; unfold World.cell?; rw [hn]; rfl
  | j + 2, hj => simp at hj
/-! ### slices.AppendSeq(nil, seq) -/

def apAssign : Code := (Code.region 2 #[{ dst := some 5, op := Op.alloc 91, type := 0, pos := "iter.go:51", after := #[], guard := none }, { dst := none, op := Op.store 91 (Operand.tmp 5) (Operand.tmp 7), type := 0, pos := "iter.go:51", after := #[{ on := 0, ground := Ground.data }, { on := 0, ground := Ground.phase }], guard := none }] false)
def apBody : Code := (Code.block 1 (Code.region 3 #[{ dst := some 8, op := Op.load (110) (Operand.tmp 2), type := 110, pos := "iter.go:52", after := #[], guard := none }, { dst := some 9, op := Op.load 91 (Operand.tmp 5), type := 91, pos := "iter.go:52", after := #[], guard := none }, { dst := some 10, op := Op.buildSlice (110) 1 #[(0, Operand.tmp 9)], type := 110, pos := "iter.go:52", after := #[{ on := 1, ground := Ground.data }], guard := none }, { dst := some 11, op := Op.call { callee := Callee.builtin Builtin.append, args := #[Operand.tmp 8, Operand.tmp 10], argTypes := #[110, 110] }, type := 110, pos := "iter.go:52", after := #[{ on := 0, ground := Ground.data }, { on := 2, ground := Ground.data }], guard := none }, { dst := none, op := Op.store (110) (Operand.tmp 2) (Operand.tmp 11), type := 0, pos := "iter.go:52", after := #[{ on := 3, ground := Ground.data }, { on := 3, ground := Ground.chain }, { on := 0, ground := Ground.phase }, { on := 1, ground := Ground.phase }, { on := 2, ground := Ground.phase }, { on := 3, ground := Ground.phase }], guard := none }] false))
def apRec (fn : FuncId) (sv : Value) (Bs D : Nat) (st : LoopState) (pend : Option Code) : Loop :=
  { state := st, pending := pend, fn, tmps := #[.slice none 0 0, sv, .pointer (some ⟨Bs, 0, none⟩), undef, .slice none 0 0, undef, sv, undef, undef, undef, undef, undef, undef], params := #[7], assign := apAssign, body := apBody, defers := D }

structure ApAt (w0 : World) (fn : FuncId) (sv : Value) (Bs l D : Nat) (ss : List EK) (W : World) : Prop where
  box : ∃ v, W.heap[Bs]? = some (.cells #[v] (110) (0, 0)) ∧ W.ownsRow w0.heap.size (91) 2 v ss.length (rowOf ss) ∧ (v = .slice none 0 0 ↔ ss = [])
  L : W.heap[l]? = some (.loop (apRec fn sv Bs D .ready none))
  K : W.heap[D]? = some (.deferred (some []))
  below : Below w0.heap.size w0 W

theorem ownsRow_abides {W W' : World} {row : Option Nat} {base : Nat} {e : TypeId} {size : Nat} {v : Value} {k : Nat} {xs : List Value} (h : W.ownsRow base e size v k xs) (hg : W.grownBy W' row)
    (hrow : ∀ r, row = some r → ∃ o : Obj, W.heap[r]? = some o ∧ o.isWalk = true) : W'.ownsRow base e size v k xs := by
  refine h.kept hg ?_
  rcases h.2 with ⟨rfl, _⟩ | ⟨g, cap, cur, rfl, _, hgb, _⟩
  · exact .inl rfl
  · refine .inr fun e' => ?_
    obtain ⟨o, ho, hw⟩ := hrow g (by simpa [Value.ownBlock] using e'.symm)
    rw [hgb] at ho; cases ho; cases hw

theorem ap_abides (w0 : World) (fn : FuncId) (sv : Value) (Bs l D B : Nat) (hB : w0.heap.size ≤ B) : AbidesFrom B (ApAt w0 fn sv Bs l D) := fun s W W' row h hg hrow => by
  have hrow' : ∀ r, row = some r → ∃ o : Obj, W.heap[r]? = some o ∧ o.isWalk = true := fun r e => (hrow r e).2
  obtain ⟨v, hv, hr, hn⟩ := h.box
  exact ⟨⟨v, (grownBy_keeps hg hrow' hv rfl).trans hv, ownsRow_abides hr hg hrow', hn⟩, (grownBy_keeps hg hrow' h.L rfl).trans h.L, (grownBy_keeps hg hrow' h.K rfl).trans h.K,
    h.below.grown hg h.below.size (fun k e => Nat.le_trans hB (hrow k e).1)⟩

theorem grownBy_putObj (W : World) (l : Nat) (o : Obj) : W.grownBy (W.putObj l o) (some l) :=
  ⟨rfl, rfl, rfl, by simp, fun k _ hk => World.putObj_heap_other (fun e => hk (by rw [e]))⟩
theorem grownBy_setCell0 (W : World) (b : Nat) (v : Value) : W.grownBy (W.setCell ⟨b, 0, none⟩ v) (some b) :=
  ⟨rfl, rfl, rfl, (KeepsWalks.setCell W _ v).size, fun k _ hk => Below.heap_setCell _ _ _ k (fun e => hk (by rw [e]))⟩
theorem ownsRow_ne {W : World} {base : Nat} {e : TypeId} {size : Nat} {v : Value} {k : Nat} {xs : List Value} (h : W.ownsRow base e size v k xs) {j : Nat} {o : Obj} (hj : W.heap[j]? = some o) (hno : ∀ cur, o ≠ .cells cur e (0, 0)) :
    v.ownBlock = none ∨ v.ownBlock ≠ some j := by
  rcases h.2 with ⟨rfl, _⟩ | ⟨g, cap, cur, rfl, _, hgb, _⟩
  · exact .inl rfl
  · refine .inr fun e' => ?_
    have : g = j := by simpa [Value.ownBlock] using e'
    subst this; rw [hgb] at hj; cases hj; exact hno cur rfl
theorem cell_of_box {W : World} {B : Nat} {v : Value} {t : TypeId} (h : W.heap[B]? = some (.cells #[v] t (0, 0))) : W.cell? ⟨B, 0, none⟩ = some v ∧ W.frozen? ⟨B, 0, none⟩ = false := by
  constructor <;> simp [World.cell?, World.frozen?, h]
theorem heap_setCell_box {W : World} {B : Nat} {v : Value} {t : TypeId} (v' : Value) (h : W.heap[B]? = some (.cells #[v] t (0, 0))) : (W.setCell ⟨B, 0, none⟩ v').heap[B]? = some (.cells #[v'] t (0, 0)) := by
  obtain ⟨hlt, hk⟩ := Array.getElem?_eq_some_iff.1 h
  show (W.heap.modify B _)[B]? = _
  rw [Array.getElem?_eq_getElem (by rw [Array.size_modify]; exact hlt), Array.getElem_modify_self, hk]
  rfl
theorem ownsRow_not_walk {W : World} {base : Nat} {e : TypeId} {size : Nat} {v : Value} {k : Nat} {xs : List Value} (h : W.ownsRow base e size v k xs) : ∀ (j : Nat) (o : Obj), v.ownBlock = some j → W.heap[j]? = some o → o.isWalk = false := by
  intro j o hj ho
  rcases h.2 with ⟨rfl, _⟩ | ⟨g, cap, cur, rfl, _, hgb, _⟩
  · simp [Value.ownBlock] at hj
  · have : g = j := by simpa [Value.ownBlock] using hj
    subst this; rw [hgb] at ho; cases ho; rfl
theorem info_el : (Tryd.prog.info? 91).map (fun i => (i.zero, i.size, i.bytes)) = some (some (.agg #[.string ⟨#[]⟩, .string ⟨#[]⟩]), 2, 32) := by kernel_rfl

set_option maxRecDepth 100000 in
set_option maxHeartbeats 2000000 in
theorem apYield (F : Fence) (m : Nat) (w0 : World) (fn : FuncId) (hfn : F.fn fn) (sv : Value) (Bs l D : Nat) (hBl : Bs ≠ l) (hDl : D ≠ l) (hDB : D ≠ Bs) (h0B : w0.heap.size ≤ Bs) (h0l : w0.heap.size ≤ l)
    (N : Nat) (hN : N ≤ maxLen) (hNb : N * 32 ≤ 140737488355328) (ss : List EK) (x : EK) (W : World) (h : ApAt w0 fn sv Bs l D ss W) (hlen : ss.length < N) :
    YieldAt F m Tryd.prog l #[enc x] W fun e W' => e = .returned (.bool true) ∧ ApAt w0 fn sv Bs l D (ss ++ [x]) W' ∧ KeepsWalks W W' := by
  obtain ⟨i0, hi, hz0, hz1, hz2⟩ := info_parts info_el
  obtain ⟨v, hv, hrow, _⟩ := h.box
  refine ⟨fn, #[.slice none 0 0, sv, .pointer (some ⟨Bs, 0, none⟩), undef, .slice none 0 0, undef, sv, enc x, undef, undef, undef, undef, undef], apAssign, apBody, by simpa [apRec] using run_yield (P := Tryd.prog) (args := #[enc x]) h.L rfl, roundIn_of_wpIn hfn ?_⟩
  have hl : l < W.heap.size := (Array.getElem?_eq_some_iff.1 h.L).1
  have hDlt0 : D < W.heap.size := (Array.getElem?_eq_some_iff.1 h.K).1
  have hBlt0 : Bs < W.heap.size := (Array.getElem?_eq_some_iff.1 hv).1
  obtain ⟨x1, x2⟩ := x
  have hL1 : (W.alloc (.cells #[.string x1, .string x2] 91)).heap[l]? = _ := (Below.heap_alloc _ _ l hl).trans h.L
  have hK1 : (W.alloc (.cells #[.string x1, .string x2] 91)).heap[D]? = _ := (Below.heap_alloc _ _ D hDlt0).trans h.K
  have hv1 : (W.alloc (.cells #[.string x1, .string x2] 91)).heap[Bs]? = _ := (Below.heap_alloc _ _ Bs hBlt0).trans hv
  have hbel1 : Below w0.heap.size w0 (W.alloc (.cells #[.string x1, .string x2] 91)) := h.below.alloc h.below.size _
  have hkw : KeepsWalks W (W.alloc (.cells #[.string x1, .string x2] 91)) := KeepsWalks.alloc _ _
  have hrow1 : World.ownsRow (W.alloc (.cells #[.string x1, .string x2] 91)) w0.heap.size (91) 2 v ss.length (rowOf ss) := hrow.alloc _
  have hnew : (W.alloc (.cells #[.string x1, .string x2] 91)).heap[W.heap.size]? = some (.cells #[.string x1, .string x2] (91) (0, 0)) := heap_new _ _
  have hbr := run_beginRound (P := Tryd.prog) hL1 rfl
  obtain ⟨W2, hW2⟩ : ∃ W2, (W.alloc (.cells #[.string x1, .string x2] 91)).putObj l (.loop { apRec fn sv Bs D .ready none with state := .busy }) = W2 := ⟨_, rfl⟩
  rw [hW2] at hbr
  have hg2 : (W.alloc (.cells #[.string x1, .string x2] 91)).grownBy W2 (some l) := by rw [← hW2]; exact grownBy_putObj _ _ _
  have hk2 : KeepsWalks W W2 := by rw [← hW2]; exact hkw.trans (KeepsWalks.putObj _ hL1 rfl)
  have hv2 : W2.heap[Bs]? = some (.cells #[v] (110) (0, 0)) := by rw [← hW2]; exact (World.putObj_heap_other hBl).trans hv1
  have hK2 : W2.heap[D]? = some (.deferred (some [])) := by rw [← hW2]; exact (World.putObj_heap_other hDl).trans hK1
  have hL2 : W2.heap[l]? = some (.loop { apRec fn sv Bs D .ready none with state := .busy }) := by rw [← hW2]; exact World.putObj_heap_same (Array.getElem?_eq_some_iff.1 hL1).1
  have hrow2 : W2.ownsRow w0.heap.size (91) 2 v ss.length (rowOf ss) := hrow1.kept hg2 (ownsRow_ne hrow1 hL1 (fun cur e => by cases e))
  have hb2 : Below w0.heap.size w0 W2 := hbel1.grown hg2 hbel1.size (fun k e => by cases e; exact h0l)
  have hnew2 : W2.heap[W.heap.size]? = some (.cells #[.string x1, .string x2] (91) (0, 0)) := by rw [← hW2]; exact (World.putObj_heap_other (by omega)).trans hnew
  have hp0 : W2.cell? ⟨W.heap.size, 0, none⟩ = some (.string x1) := by simp [World.cell?, hnew2]
  have hp1 : W2.cell? ⟨W.heap.size, 1, none⟩ = some (.string x2) := by simp [World.cell?, hnew2]
  clear hnew2
  obtain ⟨hc2, hf2⟩ := cell_of_box hv2
  have hBlt : Bs < W2.heap.size := (Array.getElem?_eq_some_iff.1 hv2).1
  have hl2 : l < W2.heap.size := (Array.getElem?_eq_some_iff.1 hL2).1
  have hDlt : D < W2.heap.size := (Array.getElem?_eq_some_iff.1 hK2).1
  have hne : (110 : TypeId) ≠ 91 := by decide
  have ne_of : ∀ {j : Nat} {o : Obj}, W2.heap[j]? = some o → (∀ cur, o ≠ .cells cur (91) (0, 0)) → some j ≠ v.ownBlock := fun hj hno => by
    rcases ownsRow_ne hrow2 hj hno with e | e
    · rw [e]; simp
    · exact fun e' => e e'.symm
  clear hW2
  simp only [enc, placeV]
  unfold apAssign
  gi_wp2_with (rw [Oper.semAt_eq _ _ _ (fun c h => by cases h)]; go_simp; (try go_bits))
  unfold apBody
  gi_wp2_with (first
    | (gi_at_builtin; refine wpListIn_append_own _ rfl _ _ (110) rfl w0.heap.size (91) i0 (.agg #[.string ⟨#[]⟩, .string ⟨#[]⟩]) 2 32 Tryd.underlying110 hi hz0 hz1 hz2 rfl (by decide) _ _ _ rfl (hrow2.alloc _) ⟨W2.heap.size, 0, none⟩ 1 1 [.string x1, .string x2] rfl rfl ?c1 ?c2 ?c3 ?c4 ?c5 ?_
       case c1 => exact cell_two_new _ _ _ _
       case c2 => intro u hu; simp at hu; rcases hu with rfl | rfl <;> rfl
       case c3 => omega
       case c4 => omega
       case c5 => have := hb2.size; simp; omega
       intro v' w3 hown' hg3 hnil3
       have hv3 : w3.heap[Bs]? = some (.cells #[v] (110) (0, 0)) := (hg3.block Bs (by simp; omega) (ne_of hv2 (fun cur e => by first | cases e | exact hne (Obj.cells.inj e).2.1))).trans ((Below.heap_alloc _ _ Bs hBlt).trans hv2)
       obtain ⟨hc3, hf3⟩ := cell_of_box hv3
       obtain ⟨g', cap', cur', rfl, hbase', hgb', hr1, hr2, hr3, hr4⟩ : ∃ g' cap' cur', v' = .slice (some ⟨g', 0, none⟩) (ss.length + 1) cap' ∧ w0.heap.size ≤ g' ∧ w3.heap[g']? = some (.cells cur' (91) (0, 0)) ∧ ss.length + 1 ≤ cap' ∧ cap' ≤ maxLen ∧ cur'.size = cap' * 2 ∧ cur'.toList.take ((ss.length + 1) * 2) = rowOf ss ++ [.string x1, .string x2] := by
         rcases hown'.2 with ⟨_, h0⟩ | h'
         · exact absurd h0 (by omega)
         · exact h'
       go_frame)
    | (rw [Oper.semAt_eq _ _ _ (fun c h => by cases h)]; go_simp; (try go_bits)))
  have hg3' : (W2.alloc (.cells #[.string x1, .string x2] 91)).grownBy w3 v.ownBlock := hg3
  have hL3 : w3.heap[l]? = some (.loop { apRec fn sv Bs D .ready none with state := .busy }) := (hg3'.block l (by simp; omega) (ne_of hL2 (fun cur e => by cases e))).trans ((Below.heap_alloc _ _ l hl2).trans hL2)
  have hK3 : w3.heap[D]? = some (.deferred (some [])) := (hg3'.block D (by simp; omega) (ne_of hK2 (fun cur e => by cases e))).trans ((Below.heap_alloc _ _ D hDlt).trans hK2)
  obtain ⟨w4, hw4⟩ : ∃ w4, w3.setCell ⟨Bs, 0, none⟩ (.slice (some ⟨g', 0, none⟩) (ss.length + 1) cap') = w4 := ⟨_, rfl⟩
  rw [hw4]
  have hg4 : w3.grownBy w4 (some Bs) := by rw [← hw4]; exact grownBy_setCell0 _ _ _
  have hv4 : w4.heap[Bs]? = some (.cells #[.slice (some ⟨g', 0, none⟩) (ss.length + 1) cap'] (110) (0, 0)) := by rw [← hw4]; exact heap_setCell_box _ hv3
  have hL4 : w4.heap[l]? = some (.loop { apRec fn sv Bs D .ready none with state := .busy }) := (hg4.block l (Array.getElem?_eq_some_iff.1 hL3).1 (fun e => hBl (by cases e; rfl))).trans hL3
  have hK4 : w4.heap[D]? = some (.deferred (some [])) := (hg4.block D (Array.getElem?_eq_some_iff.1 hK3).1 (fun e => hDB (by cases e; rfl))).trans hK3
  have hrow4 := hown'.kept hg4 (ownsRow_ne hown' hv3 (fun cur e => by first | cases e | exact hne (Obj.cells.inj e).2.1))
  have hl4 : l < w4.heap.size := (Array.getElem?_eq_some_iff.1 hL4).1
  have hb3 : Below w0.heap.size w0 w3 := (hb2.alloc hb2.size _).grown hg3' (by have := hb2.size; simp; omega) (fun k e => (hrow2.lt k e).1)
  have hb4 : Below w0.heap.size w0 w4 := hb3.grown hg4 hb3.size (fun k e => by cases e; exact h0B)
  have hk4 : KeepsWalks W w4 := ((hk2.trans (KeepsWalks.alloc _ _)).trans (KeepsWalks.of_grownBy hg3' (ownsRow_not_walk (hrow2.alloc _)))).trans (by rw [← hw4]; exact KeepsWalks.setCell _ _ _)
  clear hw4
  refine ⟨_, _, run_endRound none hL4, rfl, ⟨⟨_, (World.putObj_heap_other hBl).trans hv4, ?_, by simp⟩, World.putObj_heap_same hl4, (World.putObj_heap_other hDl).trans hK4, hb4.grown (grownBy_putObj _ _ _) hb4.size (fun k e => by cases e; exact h0l)⟩, hk4.trans (KeepsWalks.putObj _ hL4 rfl)⟩
  have := hrow4.kept (grownBy_putObj w4 l (.loop { { apRec fn sv Bs D .ready none with state := .busy } with state := if (none : Option Code).isNone then .ready else .done, pending := none })) (ownsRow_ne hrow4 hL4 (fun cur e => by cases e))
  rw [rowOf_snoc, List.length_append]
  exact this

set_option maxRecDepth 100000 in
set_option maxHeartbeats 2000000 in
theorem appendSeq_in (F : Fence) (n : Nat) (h11 : F.fn 95) (hro : F.round = none) (hn : 2 ≤ n) (g : Nat) (lb : Array Value) (hFg : F.fn g) (eg : ∀ args w, (callFunc g args).run Tryd.prog w = .ok (.enter g args) w)
    (S : List EK → Prop) (N : Nat) (hN : N ≤ maxLen) (hNb : N * 32 ≤ 140737488355328) (w : World) (hseq : SeqGives F (n - 1) Tryd.prog g lb enc S N w) :
    CallsIn F n Tryd.prog 95 #[.slice none 0 0, .func (.func g) #[] lb] w fun e w' => ∃ (v : Value) (ss : List EK), e = .returned v ∧ S ss ∧ w'.ownsRow w.heap.size (91) 2 v ss.length (rowOf ss) ∧ (v = .slice none 0 0 ↔ ss = []) ∧ Below w.heap.size w w' := by
  have h1 : 1 ≤ n := by omega
  refine callsIn_of_wp_marks Tryd.func95 rfl h11 ?_ hro
  simp only [Tryd.ntmps95, List.size_toArray, List.length_cons, List.length_nil, Nat.reduceAdd, Nat.reduceSub, Array.replicate_succ, Array.replicate_zero, List.push_toArray, List.append_toArray, List.nil_append, List.cons_append]
  gi_wp2
  refine wpIn_rangeFunc ?_
  intro fn hfn
  rw [hro]
  obtain ⟨W0, hW0⟩ : ∃ W0, w.alloc (.cells #[.slice none 0 0] (110)) = W0 := ⟨_, rfl⟩
  have hs0 : W0.heap.size = w.heap.size + 1 := by rw [← hW0]; simp
  have hv0 : W0.heap[w.heap.size]? = some (.cells #[.slice none 0 0] (110) (0, 0)) := by rw [← hW0]; exact World.alloc_heap_new w _
  have hb0 : Below w.heap.size w W0 := by rw [← hW0]; exact (Below.refl _ w).alloc (Nat.le_refl _) _
  rw [hW0]
  obtain ⟨W1, hW1⟩ : ∃ W1, (W0.alloc (.deferred (some []))).alloc (.loop (apRec fn (.func (.func g) #[] lb) w.heap.size W0.heap.size .ready none)) = W1 := ⟨_, rfl⟩
  have hold : ∀ k, k < W0.heap.size → W1.heap[k]? = W0.heap[k]? := fun k hk => by
    rw [← hW1]; exact (Below.heap_alloc _ _ k (by simp; omega)).trans (Below.heap_alloc _ _ k hk)
  have hb1 : Below w.heap.size w W1 := by rw [← hW1]; exact (hb0.alloc hb0.size _).alloc (by have := hb0.size; simp; omega) _
  have hs1 : W1.heap.size = W0.heap.size + 2 := by rw [← hW1]; simp
  have hM : ApAt w fn (.func (.func g) #[] lb) w.heap.size (W0.heap.size + 1) W0.heap.size [] W1 :=
    ⟨⟨_, (hold w.heap.size (by omega)).trans hv0, ⟨rfl, .inl ⟨rfl, rfl⟩⟩, by simp⟩,
     by rw [← hW1]; have := World.alloc_heap_new (W0.alloc (.deferred (some []))) (.loop (apRec fn (.func (.func g) #[] lb) w.heap.size W0.heap.size .ready none)); rwa [World.size_alloc] at this,
     by rw [← hW1]; exact (Below.heap_alloc _ _ _ (by simp)).trans (World.alloc_heap_new W0 _), hb1⟩
  refine ⟨W0.heap.size + 1, [{ target := .collected W0.heap.size, args := #[] }], W1, { target := .fn (.func g) lb, args := #[.func (.yield (W0.heap.size + 1)) #[] #[]] }, W1, g,
    #[.func (.yield (W0.heap.size + 1)) #[] #[]] ++ lb, W1, ?_, ?_, ?_, ?_, fun _ => h1, ?_⟩
  · rw [← hW1]; exact run_enterLoop_outer _ _ _ _ _
  · simp [resolve, go_sem]
  · intro f' hf'; simp [Target.leads] at hf'; subst hf'; exact hFg
  · simp [invoke, go_sem, eg]
  · refine (hseq (W0.heap.size + 1) (ApAt w fn (.func (.func g) #[] lb) w.heap.size (W0.heap.size + 1) W0.heap.size) W1 hb1 (ap_abides _ _ _ _ _ _ _ hb1.size)
      (fun pre x W hJ hl => apYield F (n - 1 - 1) w fn hfn _ w.heap.size (W0.heap.size + 1) W0.heap.size (by omega) (by omega) (by omega) (Nat.le_refl _) (by omega) N hN hNb pre x W hJ hl) hM).mono ?_
    rintro e W2 ⟨⟨v0, rfl⟩, ss, hS, h2⟩
    obtain ⟨v, hv, hrow, hnil⟩ := h2.box
    have hne : (110 : TypeId) ≠ 91 := by decide
    have hend := run_endLoop (P := Tryd.prog) h2.L (by simp [apRec])
    obtain ⟨W3, hW3⟩ : ∃ W3, W2.putObj (W0.heap.size + 1) (.loop { apRec fn (.func (.func g) #[] lb) w.heap.size W0.heap.size .ready none with state := .exhausted }) = W3 := ⟨_, rfl⟩
    rw [hW3] at hend
    have hg3 : W2.grownBy W3 (some (W0.heap.size + 1)) := by rw [← hW3]; exact grownBy_putObj _ _ _
    have hv3 : W3.heap[w.heap.size]? = some (.cells #[v] (110) (0, 0)) := by rw [← hW3]; exact (World.putObj_heap_other (by omega)).trans hv
    have hK3 : W3.heap[W0.heap.size]? = some (.deferred (some [])) := by rw [← hW3]; exact (World.putObj_heap_other (by omega)).trans h2.K
    have hrow3 := hrow.kept hg3 (ownsRow_ne hrow h2.L (fun cur e => by cases e))
    have hb3 : Below w.heap.size w W3 := h2.below.grown hg3 h2.below.size (fun k e => by cases e; omega)
    obtain ⟨hc3, hf3⟩ := cell_of_box hv3
    clear hW3
    refine ⟨none, W3, hend, ?_⟩
    gi_wp2
    rw [← hs0]
    refine ⟨by simp, .inl ⟨_, _, rfl, run_takeDeferred hK3, ?_⟩⟩
    exact ⟨_, results_tmp rfl _ _ _, v, ss, rfl, hS, hrow3.kept (grownBy_putObj _ _ _) (ownsRow_ne hrow3 hK3 (fun cur e => by cases e)), hnil, hb3.grown (grownBy_putObj _ _ _) hb3.size (fun k e => by cases e; omega)⟩

set_option maxHeartbeats 1000000 in
theorem collect_in (F : Fence) (n : Nat) (h8 : F.fn 73) (h11 : F.fn 95) (hro : F.round = none) (hn : 3 ≤ n) (g : Nat) (lb : Array Value) (hFg : F.fn g) (eg : ∀ args w, (callFunc g args).run Tryd.prog w = .ok (.enter g args) w)
    (S : List EK → Prop) (N : Nat) (hN : N ≤ maxLen) (hNb : N * 32 ≤ 140737488355328) (w : World) (hseq : SeqGives F (n - 1 - 1) Tryd.prog g lb enc S N w) :
    CallsIn F n Tryd.prog 73 #[.func (.func g) #[] lb] w fun e w' => ∃ (v : Value) (ss : List EK), e = .returned v ∧ S ss ∧ w'.ownsRow w.heap.size (91) 2 v ss.length (rowOf ss) ∧ (v = .slice none 0 0 ↔ ss = []) ∧ Below w.heap.size w w' := by
  have h1 : 1 ≤ n := by omega
  refine callsIn_of_wp Tryd.func73 rfl h8 ?_ hro
  simp only [Tryd.ntmps73, List.size_toArray, List.length_cons, List.length_nil, Nat.reduceAdd, Nat.reduceSub, Array.replicate_succ, Array.replicate_zero, List.push_toArray, List.append_toArray, List.nil_append, List.cons_append]
  gi_wp2_with (gi_at_call 95; refine (appendSeq_in F (n - 1) h11 hro (by omega) g lb hFg eg S N hN hNb _ hseq).mono ?_; rintro e w' ⟨v, ss, rfl, hS, hrow, hnil, hb⟩)
  go_ret
  exact ⟨v, ss, rfl, hS, hrow, hnil, hb⟩
theorem ownsRow_base {W : World} {base base' : Nat} {e : TypeId} {size : Nat} {v : Value} {k : Nat} {xs : List Value} (h : W.ownsRow base e size v k xs) (hb : base' ≤ base) : W.ownsRow base' e size v k xs := by
  refine ⟨h.1, ?_⟩
  rcases h.2 with hn | ⟨g, cap, cur, hv, hbg, rest⟩
  · exact .inl hn
  · exact .inr ⟨g, cap, cur, hv, Nat.le_trans hb hbg, rest⟩
end Go.Proofs.YtnhpkefjmpgneaaDoor.KeysP
