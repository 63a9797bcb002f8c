import Derived.Test.YtnhpkefjmpgneaaDoorName2
import Derived.Test.YtnhpkefjmpgneaaDoorDrawn
namespace Go.Proofs.YtnhpkefjmpgneaaDoor
open Go.RowKit

/-! ### name.runes, name.Less -/
theorem info_rune : (Tryd.prog.info? 21).map (fun i => (i.zero, i.size, i.bytes)) = some (some (.int .i32 0), 1, 4) := by kernel_rfl
def runeVals (l : List (Nat × Int)) : List Value := l.map fun x => .int .i32 x.2
theorem runeVals_snoc (l : List (Nat × Int)) (x : Nat × Int) : runeVals (l ++ [x]) = runeVals l ++ [.int .i32 x.2] := by simp [runeVals]
theorem own_iterAt {w : World} {base : Nat} {e : TypeId} {size : Nat} {v : Value} {n : Nat} {xs : List Value} (h : w.ownsRow base e size v n xs) {k : Nat} {s : ByteArray} {p : Nat} (hk : w.heap[k]? = some (.stringIter s p)) (q : Nat) : (w.iterAt k s q).ownsRow base e size v n xs := by
  obtain ⟨h1, h2⟩ := h
  refine ⟨h1, ?_⟩
  rcases h2 with h2 | ⟨g, cap, cur, a, b, c, d⟩
  · exact .inl h2
  · refine .inr ⟨g, cap, cur, a, b, ?_, d⟩
    rw [Lib.iterAt_other _ _ _ _ _ (fun e => by subst e; rw [hk] at c; cases c)]
    exact c
theorem own_base {w : World} {base : Nat} {e : TypeId} {size n : Nat} {v : Value} {xs : List Value} (h : w.ownsRow base e size v n xs) (k : Nat) (hk : v.ownBlock = some k) : base ≤ k ∧ ∃ c, w.heap[k]? = some (.cells c e (0, 0)) := by
  rcases h.2 with ⟨rfl, _⟩ | ⟨g, cap, cur, rfl, hb, hc, _⟩
  · simp [Value.ownBlock] at hk
  · have : g = k := by simpa [Value.ownBlock] using hk
    subst this
    exact ⟨hb, _, hc⟩
/-- An object that is no row stands where a row is written. -/
theorem obj_grown {w w1 : World} {base : Nat} {e : TypeId} {size n : Nat} {v : Value} {xs : List Value} (h : w.ownsRow base e size v n xs) (hg : w.grownBy w1 v.ownBlock) {k : Nat} {o : Obj} (hk : w.heap[k]? = some o) (ho : ∀ c, o ≠ .cells c e (0, 0)) : w1.heap[k]? = some o := by
  rw [hg.block k (Array.getElem?_eq_some_iff.1 hk).1 fun hh => ?_]
  · exact hk
  · obtain ⟨_, c, hc⟩ := own_base h k hh.symm
    rw [hk] at hc
    exact ho c (Option.some.inj hc)
theorem below_grown {B : Nat} {a w w1 : World} (hB : Below B a w) (hz : B ≤ w.heap.size) {base : Nat} {e : TypeId} {size n : Nat} {v : Value} {xs : List Value} (h : w.ownsRow base e size v n xs) (hb : B ≤ base) (hg : w.grownBy w1 v.ownBlock) : Below B a w1 :=
  hB.grown hg hz fun k hk => Nat.le_trans hb (own_base h k hk).1

set_option maxRecDepth 100000 in
theorem runes_any (s : ByteArray) (hs : s.size ≤ 35184372088831) (w : World) :
    Calls Tryd.prog 93 #[.string s] w fun e w' => ∃ v, e = .returned v ∧ w'.ownsRow w.heap.size 21 1 v (runes s).length (runeVals (runes s)) ∧ Below w.heap.size w w' ∧ w.drawn ≤ w'.drawn := by
  obtain ⟨i0, hi, hz0, hz1, hz2⟩ := info_parts info_rune
  go_enter Tryd.func93, Tryd.ntmps93
  go_wp2
  go_loopw [3] (fun v wr => ∃ (p : Nat) (pre : List (Nat × Int)), wr.ownsRow w.heap.size 21 1 v pre.length (runeVals pre) ∧ Hid (runes s = pre ++ runesAt s p) ∧ Hid (wr.heap[w.heap.size]? = some (.stringIter s p)) ∧ Below w.heap.size w wr ∧ Hid (w.drawn ≤ wr.drawn)) (fun _ wr => s.size - wr.iterPos w.heap.size)
  case atStart => exact ⟨0, [], World.ownsRow_nil _ _ _ _, rfl, World.iter_heap w s 0, (Below.refl _ _).alloc (Nat.le_refl _) _, Nat.le_refl w.drawn⟩
  case round =>
    obtain ⟨p, pre, hown, hr, hi', hB, hD⟩ := hrel
    have hrs : w.heap.size < wr.heap.size := (Array.getElem?_eq_some_iff.1 hi'.out).1
    by_cases hlt : p < s.size
    · obtain ⟨c, q, hnx, hr', hi'', hpq, hlen, hc0, hc1, -, -⟩ := runes_round (P := Tryd.prog) s p w.heap.size pre wr hr.out hi'.out hlt
      have HR := Lib.hid hr'; have HI := Lib.hid hi''; clear hr' hi''
      have hM := Lib.hid (iterPos_of hi'.out)
      have hZ : w.heap.size < (wr.iterAt w.heap.size s q).heap.size := by rw [Lib.iterAt_size]; exact hrs
      have hBI := below_iter hB (Nat.le_refl _) s q
      have hownI := own_iterAt hown hi'.out q
      have hDI : Hid (w.drawn ≤ (wr.iterAt w.heap.size s q).drawn) := hD
      generalize wr.iterAt w.heap.size s q = wi at hnx HI hZ hBI hownI hDI
      go_wp2_with (at_builtin; refine wpList_append_d rfl _ _ 172 rfl w.heap.size 21 i0 (.int .i32 0) 1 4 Tryd.underlying172 hi hz0 hz1 hz2 rfl (by decide) _ _ _ rfl (hownI.alloc _) ⟨wi.heap.size, 0, none⟩ 1 1 [.int .i32 c] rfl rfl ?c1 ?c2 ?c3 ?c4 ?c5 ?_)
      case c1 => exact cell_one_new _ _ _
      case c2 => intro u hu; simp at hu; subst hu; rfl
      case c3 => unfold maxLen; omega
      case c4 => omega
      case c5 => simp; omega
      intro v' w1 hown' hgrow hdr
      have hD1 : Hid (w.drawn ≤ w1.drawn) := Nat.le_trans hDI.out hdr
      clear hdr hDI
      have hI1 := obj_grown (hownI.alloc _) hgrow (iter_alloc HI.out (.cells #[.int .i32 c] 21)) (fun c h => by cases h)
      have hB1 := below_grown (hBI.alloc (Nat.le_of_lt hZ) _) (by simp; omega) (hownI.alloc _) (Nat.le_refl _) hgrow
      clear hgrow
      go_wp2
      go_roundw
      case rel => exact ⟨q, pre ++ [(p, c)], by rw [runeVals_snoc, List.length_append]; exact hown', HR, hI1, hB1, hD1⟩
      case measure => rw [hM.out, iterPos_of hI1]; omega
    · obtain ⟨hnx, hr'⟩ := runes_over (P := Tryd.prog) s p w.heap.size pre wr hr.out hi'.out hlt
      have HE := Lib.hid hr'; clear hr'
      go_wp2
      go_ret
      exact ⟨_, rfl, by rw [HE.out]; exact hown, hB, hD.out⟩
/-- A slice of elements of one cell that reads as xs. -/
def Reads (w : World) (A : Option Addr) (xs : List Value) : Prop := xs.length ≤ 9223372036854775807 ∧ (0 < xs.length → ∃ ad, A = some ad ∧ ∀ j u, xs[j]? = some u → w.cell? (ad.add j) = some u)
theorem reads_of_own {w : World} {base : Nat} {e : TypeId} {n : Nat} {v : Value} {xs : List Value} (h : w.ownsRow base e 1 v n xs) : ∃ A c, v = .slice A n c ∧ Reads w A xs ∧ xs.length = n := by
  have hl : xs.length = n := by have := h.1; omega
  rcases h.2 with ⟨rfl, h0⟩ | ⟨g, cap, cur, rfl, hb, hh, h1, h2, _⟩
  · subst h0
    exact ⟨none, 0, rfl, ⟨by omega, fun h => by omega⟩, hl⟩
  · exact ⟨_, cap, rfl, ⟨by unfold maxLen at h2; omega, fun _ => ⟨_, rfl, h.cells rfl⟩⟩, hl⟩
theorem reads_below {w w' : World} {A : Option Addr} {xs : List Value} (h : Reads w A xs) (hb : Below w.heap.size w w') : Reads w' A xs :=
  ⟨h.1, fun hn => by
    obtain ⟨ad, e, hc⟩ := h.2 hn
    exact ⟨ad, e, fun j u hj => (hb.cell (World.block_lt_of_cell? w _ (hc j u hj))).trans (hc j u hj)⟩⟩
theorem reads_at {w : World} {A : Option Addr} {xs : List Value} (h : Reads w A xs) {k : Nat} {u : Value} (hk : xs[k]? = some u) : ∃ ad, A = some ad ∧ w.cell? (ad.add k) = some u := by
  obtain ⟨ad, e, hc⟩ := h.2 (by have := (List.getElem?_eq_some_iff.1 hk).1; omega)
  exact ⟨ad, e, hc k u hk⟩

/-- Two texts by their runes; the shorter one first. -/
def cmpR : List Int → List Int → Ordering
  | [], [] => .eq
  | [], _ :: _ => .lt
  | _ :: _, [] => .gt
  | c :: x, d :: y => if d < c then .gt else if c < d then .lt else cmpR x y
def rns (s : ByteArray) : List Int := (runes s).map (·.2)
def lessB (a b : ByteArray) : Bool := match cmpR (rns a) (rns b) with | .lt => true | .gt => false | .eq => Op.bytesLess a.toList b.toList
theorem runeVals_at (l : List (Nat × Int)) (k : Nat) (h : k < l.length) : (runeVals l)[k]? = some (.int .i32 ((l.map (·.2)).getD k 0)) := by
  simp [runeVals, h]
theorem cmpR_drop (x y : List Int) (k : Nat) (hx : k < x.length) (hy : k < y.length) (h : x.getD k 0 = y.getD k 0) : cmpR (x.drop k) (y.drop k) = cmpR (x.drop (k + 1)) (y.drop (k + 1)) := by
  simp only [List.getD_eq_getElem?_getD, List.getElem?_eq_getElem hx, List.getElem?_eq_getElem hy, Option.getD_some] at h
  rw [List.drop_eq_getElem_cons hx, List.drop_eq_getElem_cons hy, cmpR, h, if_neg (by omega), if_neg (by omega)]
theorem cmpR_lt (x y : List Int) (k : Nat) (hx : k < x.length) (hy : k < y.length) (h : x.getD k 0 < y.getD k 0) : cmpR (x.drop k) (y.drop k) = .lt := by
  simp only [List.getD_eq_getElem?_getD, List.getElem?_eq_getElem hx, List.getElem?_eq_getElem hy, Option.getD_some] at h
  rw [List.drop_eq_getElem_cons hx, List.drop_eq_getElem_cons hy, cmpR, if_neg (by omega), if_pos h]
theorem cmpR_gt (x y : List Int) (k : Nat) (hx : k < x.length) (hy : k < y.length) (h : y.getD k 0 < x.getD k 0) : cmpR (x.drop k) (y.drop k) = .gt := by
  simp only [List.getD_eq_getElem?_getD, List.getElem?_eq_getElem hx, List.getElem?_eq_getElem hy, Option.getD_some] at h
  rw [List.drop_eq_getElem_cons hx, List.drop_eq_getElem_cons hy, cmpR, if_pos h]
theorem cmpR_over (x y : List Int) (k : Nat) (hx : k < x.length) (hy : y.length = k) : cmpR (x.drop k) (y.drop k) = .gt := by
  rw [List.drop_eq_getElem_cons hx, List.drop_of_length_le (show y.length ≤ k by omega), cmpR]
theorem cmpR_end (x y : List Int) (hy : x.length ≤ y.length) : cmpR (x.drop x.length) (y.drop x.length) = if x.length < y.length then .lt else .eq := by
  rw [List.drop_length]
  by_cases h : x.length < y.length
  · rw [List.drop_eq_getElem_cons h, if_pos h, cmpR]
  · rw [List.drop_of_length_le (show y.length ≤ x.length by omega), if_neg h]; rfl

set_option maxRecDepth 100000 in
theorem less_any (a b : ByteArray) (ha : a.size ≤ 35184372088831) (hb : b.size ≤ 35184372088831) (w : World) : Calls Tryd.prog 71 #[.string a, .string b] w (RetD w (.bool (lessB a b))) := by
  have HL : Hid (lessB a b = match cmpR ((rns a).drop 0) ((rns b).drop 0) with | .lt => true | .gt => false | .eq => Op.bytesLess a.toList b.toList) := rfl
  have hla := runes_length a
  have hlb := runes_length b
  have hra : (rns a).length = (runes a).length := by simp [rns]
  have hrb : (rns b).length = (runes b).length := by simp [rns]
  go_enter Tryd.func71, Tryd.ntmps71
  go_wp2_with (first | (go_at_call 93; with_reducible refine (runes_any a ha _).mono ?_; rintro e w1 ⟨v1, rfl, ho1, hb1, hd1⟩; obtain ⟨A1, c1, rfl, hR1, hn1⟩ := reads_of_own ho1; have HO1 := Lib.hid hn1; clear ho1 hn1) | (go_at_call 93; with_reducible refine (runes_any b hb _).mono ?_; rintro e w2 ⟨v2, rfl, ho2, hb2, hd2⟩; obtain ⟨A2, c2, rfl, hR2, hn2⟩ := reads_of_own ho2; have HO2 := Lib.hid hn2; clear ho2 hn2))
  have HB : Hid (Below w.heap.size w w2 ∧ w.drawn ≤ w2.drawn) := ⟨below_call hb1 hb1.size hb2, Nat.le_trans hd1 hd2⟩
  clear hd1 hd2
  have HR1 := Lib.hid (reads_below hR1 hb2)
  have HR2 := Lib.hid hR2
  clear hR1 hR2 hb1 hb2
  go_loop [15] (fun i => ∃ k : Nat, i = .int .i64 k ∧ k ≤ (runes a).length ∧ k ≤ (runes b).length ∧ Hid (cmpR ((rns a).drop k) ((rns b).drop k) = cmpR ((rns a).drop 0) ((rns b).drop 0))) (fun i => (runes a).length - (intOf i).toNat)
  case atStart => exact ⟨0, rfl, by omega, by omega, rfl⟩
  case round =>
    obtain ⟨k, rfl, hka, hkb, hc⟩ := hrel
    by_cases h1 : k < (runes a).length
    · obtain ⟨ad, rfl, hx⟩ := reads_at HR1.out (runeVals_at (runes a) k h1)
      by_cases h2 : k = (runes b).length
      · have HF : Hid (lessB a b = false) := by rw [Hid, HL.out, ← hc.out, cmpR_over _ _ k (by omega) (by omega)]
        have e2 : ((k : Int) == ((runes b).length : Int)) = true := by simp [h2]
        clear h2
        go_wp2
        go_ret; exact ⟨by rw [HF.out]; rfl, HB.out⟩
      · have h3 : k < (runes b).length := by omega
        have e2 : ((k : Int) == ((runes b).length : Int)) = false := by simp; omega
        clear h2
        obtain ⟨bd, rfl, hy⟩ := reads_at HR2.out (runeVals_at (runes b) k h3)
        obtain ⟨x, hxe⟩ : ∃ x, ((runes a).map (·.2)).getD k 0 = x := ⟨_, rfl⟩
        obtain ⟨y, hye⟩ : ∃ y, ((runes b).map (·.2)).getD k 0 = y := ⟨_, rfl⟩
        rw [hxe] at hx
        rw [hye] at hy
        by_cases h4 : y < x
        · have HF : Hid (lessB a b = false) := by rw [Hid, HL.out, ← hc.out, cmpR_gt _ _ k (by omega) (by omega) (by unfold rns; rw [hxe, hye]; exact h4)]
          clear hxe hye
          go_wp2
          go_ret; exact ⟨by rw [HF.out]; rfl, HB.out⟩
        · by_cases h5 : x < y
          · have HF : Hid (lessB a b = true) := by rw [Hid, HL.out, ← hc.out, cmpR_lt _ _ k (by omega) (by omega) (by unfold rns; rw [hxe, hye]; exact h5)]
            clear hxe hye
            go_wp2
            go_ret; exact ⟨by rw [HF.out]; rfl, HB.out⟩
          · have HF : Hid (cmpR ((rns a).drop (k + 1)) ((rns b).drop (k + 1)) = cmpR ((rns a).drop 0) ((rns b).drop 0)) := by rw [Hid, ← hc.out, cmpR_drop _ _ k (by omega) (by omega) (by unfold rns; rw [hxe, hye]; omega)]
            clear hxe hye
            go_wp2
            go_round
            case rel => exact ⟨k + 1, by go_num, by omega, by omega, HF⟩
            case measure => simp [intOf]; omega
    · obtain rfl : k = (runes a).length := by omega
      have HC : Hid (lessB a b = match (if (runes a).length < (runes b).length then Ordering.lt else Ordering.eq) with | .lt => true | .gt => false | .eq => Op.bytesLess a.toList b.toList) := by
        rw [Hid, HL.out, ← hc.out, ← hra, cmpR_end _ _ (by omega), hra, hrb]
      by_cases h2 : (runes a).length < (runes b).length
      · have HF : Hid (lessB a b = true) := by have := HC.out; rw [if_pos h2] at this; exact this
        go_wp2
        go_ret; exact ⟨by rw [HF.out]; rfl, HB.out⟩
      · have HF : Hid (lessB a b = Op.bytesLess a.toList b.toList) := by have := HC.out; rw [if_neg h2] at this; exact this
        have e2 : (((runes a).length : Int) == ((runes b).length : Int)) = true := by simp; omega
        cases h3 : Op.bytesLess a.toList b.toList
        · go_wp2
          go_ret; exact ⟨by rw [HF.out, h3]; rfl, HB.out⟩
        · go_wp2
          go_ret; exact ⟨by rw [HF.out, h3]; rfl, HB.out⟩
end Go.Proofs.YtnhpkefjmpgneaaDoor
