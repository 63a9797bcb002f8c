import Derived.Test.YtnhpkefjmpgneaaDoorRef09a
import Derived.Deep.RegionLaw
import Derived.Deep.RegionHeld
import Derived.Test.YtnhpkefjmpgneaaDoorDigest1
namespace Go.Proofs.YtnhpkefjmpgneaaDoor
open Go.RowKit

/-! ### the document's layer 9: put -/
def rput {K V : Type} [DecidableEq K] (l : List (K × V)) (k : K) (v : V) : List (K × V) := l.filter (fun x => decide (x.1 ≠ k)) ++ [(k, v)]
theorem flat_at {α β : Type} (row : α → List β) (size : Nat) : ∀ (l : List α), (∀ x ∈ l, (row x).length = size) → ∀ (k : Nat) (x : α) (j : Nat) (u : β), l[k]? = some x → (row x)[j]? = some u → (l.flatMap row)[k * size + j]? = some u
  | [], _, k, x, j, u, hk, _ => by simp at hk
  | y :: r, hr, 0, x, j, u, hk, hj => by
    simp at hk
    subst hk
    have := (List.getElem?_eq_some_iff.1 hj).1
    rw [List.flatMap_cons, Nat.zero_mul, Nat.zero_add, List.getElem?_append_left this]
    exact hj
  | y :: r, hr, k + 1, x, j, u, hk, hj => by
    have h0 := hr y (List.mem_cons_self ..)
    rw [List.flatMap_cons, List.getElem?_append_right (by rw [h0, Nat.succ_mul]; omega), h0, show (k + 1) * size + j - size = k * size + j from by rw [Nat.succ_mul]; omega]
    exact flat_at row size r (fun x hx => hr x (List.mem_cons_of_mem _ hx)) k x j u (by simpa using hk) hj
/-- A row of one's own as elements of several cells. -/
theorem readsN_of_own {α : Type} {row : α → List Value} {w : World} {base : Nat} {e : TypeId} {size : Nat} {v : Value} {n : Nat} {l : List α} (h : w.ownsRow base e size v n (l.flatMap row)) (hr : ∀ x ∈ l, (row x).length = size) (hl : l.length = n) (hs : 0 < size) (hm : n ≤ 9223372036854775807) : ∃ A c, v = .slice A n c ∧ ReadsN w A size (l.map row) := by
  rcases h.2 with ⟨rfl, h0⟩ | ⟨g, cap, cur, rfl, _⟩
  · subst h0
    have : l = [] := List.eq_nil_of_length_eq_zero hl
    subst this
    exact ⟨none, 0, rfl, by simp, fun h => by simp at h⟩
  · refine ⟨_, _, rfl, by simp; omega, fun _ => ⟨_, rfl, fun k cs hk j u hj => ?_⟩⟩
    rw [List.getElem?_map, Option.map_eq_some_iff] at hk
    obtain ⟨x, hx, rfl⟩ := hk
    exact h.cells (g := g) rfl _ _ (flat_at row size l hr k x j u hx hj)
theorem readsN_set {w : World} {A : Option Addr} {size : Nat} {xs : List (List Value)} (h : ReadsN w A size xs) {p : Addr} (hp : ∀ ad, A = some ad → p.block ≠ ad.block) (u : Value) : ReadsN (w.setCell p u) A size xs :=
  ⟨h.1, fun hn => by
    obtain ⟨ad, e, hc⟩ := h.2 hn
    exact ⟨ad, e, fun k cs hk j v hj => (World.cell?_setCell_far w p _ u (by rw [add_block]; exact hp ad e)).trans (hc k cs hk j v hj)⟩⟩
theorem low_grown {w w1 : World} {base : Nat} {e : TypeId} {size n : Nat} {v : Value} {xs : List Value} (h : w.ownsRow base e size v n xs) (hg : w.grownBy w1 v.ownBlock) {k : Nat} {o : Obj} (hk : w.heap[k]? = some o) (hb : k < base) : w1.heap[k]? = some o := by
  rw [hg.block k (Array.getElem?_eq_some_iff.1 hk).1 fun hh => ?_]
  · exact hk
  · have := (own_base h k hh.symm).1
    omega
theorem info_acc : (Tryd.prog.info? 127).map (fun i => (i.zero, i.size, i.bytes)) = some (some (.agg #[.string ⟨#[]⟩, .int .i64 0, .int .i64 0]), 3, 32) := by kernel_rfl
theorem three_new (W : World) (x y z : Value) (T : TypeId) : ∀ j u, [x, y, z][j]? = some u → (W.alloc (.cells #[x, y, z] T)).cell? ((⟨W.heap.size, 0, none⟩ : Addr).add j) = some u :=
  fun j u hj => World.news_of_block (heap_alloc_new W _) j u (by simpa using hj)
theorem flat_snoc {α β : Type} (f : α → List β) (l : List α) (x : α) : (l ++ [x]).flatMap f = l.flatMap f ++ f x := by simp
def PutPost (B : Accs) (vv : Value) (w : World) (e : Ending) (w' : World) : Prop := ∃ A1 c1, e = .returned (.agg #[.slice A1 B.length c1, vv]) ∧ ReadsN w' A1 3 (B.map rowA) ∧ (∀ ad, A1 = some ad → w.heap.size ≤ ad.block) ∧ Below w.heap.size w w'
theorem put_post {w w2 : World} {base g cap : Nat} {e : TypeId} {L B : Accs} {x : ByteArray × (Int × Int)} {vv : Value} (hP : B = L ++ [x]) (hO : w2.ownsRow base e 3 (.slice (some ⟨g, 0, none⟩) (L.length + 1) cap) (L.length + 1) (L.flatMap rowA ++ rowA x)) (hl : L.length ≤ 1000000) (hbs : w.heap.size ≤ base) (hB : Below w.heap.size w w2) : PutPost B vv w (.returned (.agg #[.slice (some ⟨g, 0, none⟩) (L.length + 1) cap, vv])) w2 := by
  have hg := (own_base hO g rfl).1
  rw [← flat_snoc] at hO
  obtain ⟨A1, c1, hv, hR⟩ := readsN_of_own hO (fun y _ => rfl) (by simp) (by decide) (by omega)
  injection hv with h1 h2 h3
  subst h1 h3 hP
  exact ⟨some ⟨g, 0, none⟩, cap, by rw [List.length_append]; rfl, hR, fun ad h => by cases h; exact Nat.le_trans hbs hg, hB⟩
set_option maxHeartbeats 2000000 in
set_option maxRecDepth 100000 in
theorem refPut_any (A : Accs) (A0 : Option Addr) (c : Nat) (B0 : Option Addr) (m d : Nat) (nm : ByteArray) (am no : Int) (hsz : A.length ≤ 1000000) (w : World) (hr : ReadsN w A0 3 (A.map rowA)) :
    Calls Tryd.prog 52 #[.agg #[.slice A0 A.length c, .slice B0 m d], .agg #[.string nm, .int .i64 am, .int .i64 no]] w (PutPost (rput A nm (am, no)) (.slice B0 m d) w) := by
  obtain ⟨i0, hi, hz0, hz1, hz2⟩ := info_parts info_acc
  have HR := Lib.hid hr
  clear hr
  go_enter Tryd.func52, Tryd.ntmps52
  go_wp2
  go_loopw [5, 6] (fun v i wr => ∃ k : Nat, i = .int .i64 k ∧ k ≤ A.length ∧ wr.ownsRow (w.heap.size + 1 + 1 + 1) 127 3 v ((A.take k).filter (fun x => decide (x.1 ≠ nm))).length (((A.take k).filter (fun x => decide (x.1 ≠ nm))).flatMap rowA) ∧ Below w.heap.size w wr ∧ w.heap.size + 1 + 1 + 1 ≤ wr.heap.size ∧ Hid (wr.heap[w.heap.size]? = some (.cells #[.slice A0 A.length c, .slice B0 m d] 50 (0, 0)) ∧ wr.heap[w.heap.size + 1]? = some (.cells #[.string nm, .int .i64 am, .int .i64 no] 127 (0, 0)) ∧ ∃ x y, wr.heap[w.heap.size + 1 + 1]? = some (.cells #[x, y] 50 (0, 0)))) (fun _ i _ => A.length - (intOf i).toNat)
  case atStart =>
    refine ⟨0, rfl, by omega, World.ownsRow_nil _ _ _ _, (((Below.refl _ _).alloc (Nat.le_refl _) _).alloc (by simp) _).alloc (by simp; omega) _, by simp, ?_, ?_, ⟨_, _, by have := heap_new ((w.alloc (.cells #[.slice A0 A.length c, .slice B0 m d] 50)).alloc (.cells #[.string nm, .int .i64 am, .int .i64 no] 127)) (.cells #[.slice none 0 0, .slice none 0 0] 50); simpa using this⟩⟩
    · exact iter_alloc (iter_alloc (heap_new w _) _) _
    · have h1 := iter_alloc (heap_new (w.alloc (.cells #[.slice A0 A.length c, .slice B0 m d] 50)) (.cells #[.string nm, .int .i64 am, .int .i64 no] 127)) (.cells #[.slice none 0 0, .slice none 0 0] 50)
      simpa using h1
  case round =>
    obtain ⟨k, rfl, hk, hown, hB, hz, hH⟩ := hrel
    obtain ⟨h1, h2, x, y, h3⟩ := hH.out
    have c0 : wr.cell? ⟨w.heap.size, 0, none⟩ = some (.slice A0 A.length c) := cell_at h1 0
    have c1 : wr.cell? ⟨w.heap.size, 1, none⟩ = some (.slice B0 m d) := cell_at h1 1
    have d0 : wr.cell? ⟨w.heap.size + 1, 0, none⟩ = some (.string nm) := cell_at h2 0
    have d1 : wr.cell? ⟨w.heap.size + 1, 1, none⟩ = some (.int .i64 am) := cell_at h2 1
    have d2 : wr.cell? ⟨w.heap.size + 1, 2, none⟩ = some (.int .i64 no) := cell_at h2 2
    have e0 : wr.cell? ⟨w.heap.size + 1 + 1, 0, none⟩ = some x := cell_at h3 0
    have e1 : wr.cell? ⟨w.heap.size + 1 + 1, 1, none⟩ = some y := cell_at h3 1
    have f0 := frozen_at h3 0
    have f1 := frozen_at h3 1
    by_cases hlt : k < A.length
    · obtain ⟨n2, a2, o2, hx2⟩ : ∃ nm am no, A[k] = (nm, (am, no)) := ⟨_, _, _, rfl⟩
      obtain ⟨ad, rfl, k0, k1, k2⟩ := rowA_at (readsN_below HR.out hB) hlt hx2
      clear h1 h2 h3
      have htk : A.take (k + 1) = A.take k ++ [(n2, (a2, o2))] := by rw [List.take_succ_eq_append_getElem hlt, hx2]
      by_cases hn : n2 = nm
      · have hF : Hid ((A.take (k + 1)).filter (fun x => decide (x.1 ≠ nm)) = (A.take k).filter (fun x => decide (x.1 ≠ nm))) := by rw [Hid, htk, List.filter_append]; simp [hn]
        have q1 := eq_bytes hn
        clear hn htk hx2
        go_wp2_with fail
        go_quiet (fail)
        go_wp2
        go_roundw
        case rel => exact ⟨k + 1, by go_num, by omega, by rw [hF.out]; exact hown, belowN hB _, hz, hH⟩
        case measure => simp [intOf]; omega
      · have hF : Hid ((A.take (k + 1)).filter (fun x => decide (x.1 ≠ nm)) = (A.take k).filter (fun x => decide (x.1 ≠ nm)) ++ [(n2, (a2, o2))]) := by rw [Hid, htk, List.filter_append]; simp [hn]
        have q1 := ne_bytes hn
        have hlen : ((A.take k).filter (fun x => decide (x.1 ≠ nm))).length ≤ k := Nat.le_trans (List.length_filter_le _ _) (List.length_take_le _ _)
        clear hn htk hx2
        generalize (A.take k).filter (fun x => decide (x.1 ≠ nm)) = L at hF hown hlen
        go_wp2_with fail
        go_quiet (fail)
        go_wp2_with (at_builtin; refine wpList_append_d rfl _ _ 47 rfl (w.heap.size + 1 + 1 + 1) 127 i0 (.agg #[.string ⟨#[]⟩, .int .i64 0, .int .i64 0]) 3 32 Tryd.underlying47 hi hz0 hz1 hz2 rfl (by decide) _ _ _ rfl ((own_drewN hown _).alloc _) ⟨wr.heap.size, 0, none⟩ 1 1 [.string n2, .int .i64 a2, .int .i64 o2] rfl rfl ?c1 ?c2 ?c3 ?c4 ?c5 ?_)
        case c1 => exact three_new _ _ _ _ _
        case c2 => intro u hu; simp at hu; rcases hu with rfl | rfl | rfl <;> rfl
        case c3 => unfold maxLen; omega
        case c4 => omega
        case c5 => simp; omega
        intro v' w2 hown' hgrow hdr
        have hO := (own_drewN hown nq).alloc (.cells #[.string n2, .int .i64 a2, .int .i64 o2] 127)
        have hB2 := below_grown ((belowN hB nq).alloc hB.size (.cells #[.string n2, .int .i64 a2, .int .i64 o2] 127)) (by have := hB.size; simp; omega) hO (by omega) hgrow
        have hz2 : w.heap.size + 1 + 1 + 1 ≤ w2.heap.size := by have := hgrow.size; simp at this; omega
        obtain ⟨h1, h2, x, y, h3⟩ := hH.out
        have H2 : Hid (w2.heap[w.heap.size]? = some (.cells #[.slice (some ad) A.length c, .slice B0 m d] 50 (0, 0)) ∧ w2.heap[w.heap.size + 1]? = some (.cells #[.string nm, .int .i64 am, .int .i64 no] 127 (0, 0)) ∧ ∃ x y, w2.heap[w.heap.size + 1 + 1]? = some (.cells #[x, y] 50 (0, 0))) :=
          ⟨low_grown hO hgrow (iter_alloc (w := wr.drewN nq) h1 _) (by omega), low_grown hO hgrow (iter_alloc (w := wr.drewN nq) h2 _) (by omega), _, _, low_grown hO hgrow (iter_alloc (w := wr.drewN nq) h3 _) (by omega)⟩
        clear h1 h2 h3 hO hgrow hdr
        go_wp2
        go_roundw
        case rel => exact ⟨k + 1, by go_num, by omega, by rw [hF.out, List.length_append, flat_snoc]; exact hown', hB2, hz2, H2⟩
        case measure => simp [intOf]; omega
    · obtain rfl : k = A.length := by omega
      rw [List.take_length] at hown
      have hlen : (A.filter (fun x => decide (x.1 ≠ nm))).length ≤ 1000000 := Nat.le_trans (List.length_filter_le _ _) hsz
      have hP : Hid (rput A nm (am, no) = A.filter (fun x => decide (x.1 ≠ nm)) ++ [(nm, (am, no))]) := rfl
      generalize A.filter (fun x => decide (x.1 ≠ nm)) = L at hP hown hlen
      have hO := (own_drew hown).alloc (.cells #[.string nm, .int .i64 am, .int .i64 no] 127)
      go_wp2_with fail
      have z1 : w.heap.size < wr.heap.size := by omega
      have z2 : w.heap.size + 1 < wr.heap.size := by omega
      have z3 : w.heap.size + 1 + 1 < wr.heap.size := by omega
      have g1 := Lib.hid (three_new wr.drew (.string nm) (.int .i64 am) (.int .i64 no) 127)
      have g2 : Hid (∀ u ∈ [Value.string nm, .int .i64 am, .int .i64 no], u.oneCell' = true) := by intro u hu; simp at hu; rcases hu with rfl | rfl | rfl <;> rfl
      have g3 : L.length + 1 ≤ maxLen := by unfold maxLen; omega
      have g4 : (L.length + 1) * 32 ≤ 140737488355328 := by omega
      have g5 : Hid (w.heap.size + 1 + 1 + 1 ≤ (wr.drew.alloc (.cells #[.string nm, .int .i64 am, .int .i64 no] 127)).heap.size) := by rw [Hid]; simp; omega
      have HO := Lib.hid hO
      clear hO h1 h2 h3
      go_region_law (refine step_append_lies _ rfl (.tmp 31) (.tmp 33) 47 rfl (w.heap.size + 1 + 1 + 1) 127 i0 (.agg #[.string ⟨#[]⟩, .int .i64 0, .int .i64 0]) 3 32 Tryd.underlying47 hi hz0 hz1 hz2 rfl (by decide) _ _ _ (by simp [Act.eval, Act.put]) HO.out ⟨wr.heap.size, 0, none⟩ 1 1 [.string nm, .int .i64 am, .int .i64 no] (by simp [Act.eval, Act.put]) rfl g1.out g2.out (by decide) g3 g4 g5.out _ rfl ?_; intro g cap w2 hown2 hgrow hgg hgl; obtain ⟨h1, h2, x, y, h3⟩ := hH.out; have l1 := low_grown HO.out hgrow (iter_alloc (w := wr.drew) h1 _) (by omega); have l3 := low_grown HO.out hgrow (iter_alloc (w := wr.drew) h3 _) (by omega); have m1 : w2.cell? ⟨w.heap.size, 1, none⟩ = some (.slice B0 m d) := cell_at l1 1; have m2 : w2.cell? ⟨w.heap.size + 1 + 1, 0, none⟩ = some x := cell_at l3 0; have m3 : w2.cell? ⟨w.heap.size + 1 + 1, 1, none⟩ = some y := cell_at l3 1; have m4 := frozen_at l3 0; have m5 := frozen_at l3 1; have hO2 := Lib.hid hown2; have hB2 := Lib.hid (below_grown ((belowN hB 1).alloc hB.size _) (by have := hB.size; simp; omega) HO.out (by omega) hgrow); have hz2 : w.heap.size + 1 + 1 + 1 ≤ w2.heap.size := (by have := hgrow.size; simp at this; omega); clear l1 l3 h1 h2 h3 hown2 hgrow hgg hgl)
      all_goals
        go_wp2
        refine bodyPost_ret (v := .agg #[.slice (some ⟨g, 0, none⟩) (L.length + 1) cap, .slice B0 m d]) (by simp [results, Tryd.results52, go_sem, m2, m3]) rfl ?_
        exact put_post hP.out (ownsRow_setCell_below (ownsRow_setCell_below hO2.out (a := ⟨w.heap.size + 1 + 1, 0, none⟩) (by simp) _) (a := ⟨w.heap.size + 1 + 1, 1, none⟩) (by simp) _) hlen (by omega) ((hB2.out.setCell (p := ⟨w.heap.size + 1 + 1, 0, none⟩) (by simp; omega) _).setCell (p := ⟨w.heap.size + 1 + 1, 1, none⟩) (by simp; omega) _)
end Go.Proofs.YtnhpkefjmpgneaaDoor
