import Derived.Test.YtnhpkefjmpgneaaDoorSort1
import Derived.Test.YtnhpkefjmpgneaaDoorKeysK
import Derived.Test.YtnhpkefjmpgneaaDoorKeysP
import Derived.Test.YtnhpkefjmpgneaaDoorShelf2
import Derived.Test.YtnhpkefjmpgneaaDoorState3
namespace Go.Proofs.YtnhpkefjmpgneaaDoor
open Go.RowKit Go.Sort

/-! ### slices.SortedFunc(maps.Keys(m), ..) -/
def leB (x y : ByteArray) : Bool := !lessB y x
def leP (x y : Place) : Bool := !lessP y x
def sortB (l : List ByteArray) : List ByteArray := l.mergeSort leB
def sortP (l : List Place) : List Place := l.mergeSort leP
theorem leB_trans (a b c : ByteArray) (h1 : leB a b = true) (h2 : leB b c = true) : leB a c = true := by
  unfold leB at *
  simp only [Bool.not_eq_true'] at *
  have hs : SWO lessB := swo_of_tri lessB_irrefl (fun _ _ _ => lessB_trans) (fun _ _ => lessB_tri)
  exact hs.ntrans _ _ _ h2 h1
theorem leB_total (a b : ByteArray) : (leB a b || leB b a) = true := by
  unfold leB
  cases h1 : lessB b a
  · simp
  · cases h2 : lessB a b
    · simp
    · have := lessB_trans h1 h2
      rw [lessB_irrefl] at this
      cases this
theorem leP_trans (a b c : Place) (h1 : leP a b = true) (h2 : leP b c = true) : leP a c = true := by
  unfold leP at *
  simp only [Bool.not_eq_true'] at *
  have hs : SWO lessP := swo_of_tri lessP_irrefl (fun _ _ _ => lessP_trans) (fun _ _ => lessP_tri)
  exact hs.ntrans _ _ _ h2 h1
theorem leP_total (a b : Place) : (leP a b || leP b a) = true := by
  unfold leP
  cases h1 : lessP b a
  · simp
  · cases h2 : lessP a b
    · simp
    · have := lessP_trans h1 h2
      rw [lessP_irrefl] at this
      cases this
/-- A sorted list of the same elements is THE sorted list. -/
theorem sortB_unique {l m : List ByteArray} (h : m.Perm l) (hs : m.Pairwise fun x y => leB x y = true) : m = sortB l :=
  List.Perm.eq_of_pairwise (le := fun a b => leB a b = true) (fun a b _ _ h1 h2 => lessB_tri (by simpa [leB] using h2) (by simpa [leB] using h1)) hs (List.pairwise_mergeSort leB_trans leB_total l) (h.trans (List.mergeSort_perm l leB).symm)
theorem sortP_unique {l m : List Place} (h : m.Perm l) (hs : m.Pairwise fun x y => leP x y = true) : m = sortP l :=
  List.Perm.eq_of_pairwise (le := fun a b => leP a b = true) (fun a b _ _ h1 h2 => lessP_tri (by simpa [leP] using h2) (by simpa [leP] using h1)) hs (List.pairwise_mergeSort leP_trans leP_total l) (h.trans (List.mergeSort_perm l leP).symm)
theorem sortB_perm {l m : List ByteArray} (h : m.Perm l) : sortB m = sortB l :=
  sortB_unique ((List.mergeSort_perm m leB).trans h) (List.pairwise_mergeSort leB_trans leB_total m)
theorem sortP_perm {l m : List Place} (h : m.Perm l) : sortP m = sortP l :=
  sortP_unique ((List.mergeSort_perm m leP).trans h) (List.pairwise_mergeSort leP_trans leP_total m)
theorem perm_sortB (l : List ByteArray) : (sortB l).Perm l := List.mergeSort_perm l leB
theorem perm_sortP (l : List Place) : (sortP l).Perm l := List.mergeSort_perm l leP

theorem holds_cells {α : Type} [Inhabited α] {enc : α → Value} {w : World} {g : Nat} {cur : Array Value} {e : TypeId} {ss : List α} (hb : w.heap[g]? = some (.cells cur e (0, 0))) (ht : cur.toList.take ss.length = ss.map enc) : Holds enc w g 0 ss.toArray := by
  intro j hj
  have hj' : j < ss.length := by simpa using hj
  refine ⟨?_, by simp [World.frozen?, hb]⟩
  have h1 : (cur.toList.take ss.length)[j]? = (ss.map enc)[j]? := by rw [ht]
  rw [List.getElem?_take_of_lt hj'] at h1
  simp only [World.cell?, hb, Nat.zero_add]
  simp only [Option.isSome_none, Bool.false_eq_true, if_false]
  rw [← Array.getElem?_toList, h1]
  simp [hj']
theorem heap_put {α : Type} [Inhabited α] (enc : α → Value) (w : World) (blk off n : Nat) (dk : Array α) (os : Array Obj) (k : Nat) (hk : k < w.heap.size) (hne : k ≠ blk) : (sortWorld enc w blk off n dk os).heap[k]? = w.heap[k]? := by
  unfold sortWorld
  rw [Go.Sort.heap_grow_old _ _ (by simpa using hk)]
  simp [putRow, mapBlock, Sort.ahead, Array.getElem?_modify, Ne.symm hne]
theorem heap_sort_here {α : Type} [Inhabited α] (enc : α → Value) (w : World) (blk off n : Nat) (dk : Array α) (os : Array Obj) {cur : Array Value} {T : TypeId} {fr : Nat × Nat} (h : w.heap[blk]? = some (.cells cur T fr)) : ∃ cur', (sortWorld enc w blk off n dk os).heap[blk]? = some (.cells cur' T fr) := by
  have hg : blk < w.heap.size := (Array.getElem?_eq_some_iff.1 h).1
  refine ⟨putCells enc off dk cur, ?_⟩
  unfold sortWorld
  rw [Go.Sort.heap_grow_old _ _ (by simpa using hg)]
  simp [putRow, mapBlock, Sort.ahead, Array.getElem?_modify, h, onCells]
theorem below_sort {α : Type} [Inhabited α] (enc : α → Value) (w : World) (B blk off n : Nat) (dk : Array α) (os : Array Obj) (hB : B ≤ blk) (hlt : blk < w.heap.size) : Below B w (sortWorld enc w blk off n dk os) :=
  ⟨rfl, rfl, rfl, by unfold sortWorld; simp [grow, putRow, mapBlock, Sort.ahead], fun k hk => heap_put enc w blk off n dk os k (by omega) (by omega)⟩
theorem below_sortK {α : Type} [Inhabited α] (enc : α → List Value) (k : Nat) (w : World) (B blk off n : Nat) (dk : Array α) (os : Array Obj) (hB : B ≤ blk) (hlt : blk < w.heap.size) : Below B w (sortWorldK enc k w blk off n dk os) :=
  below_sort id w B blk off n (flatK enc k dk) os hB hlt

theorem keyed_map (ss : List ByteArray) (h : ∀ x ∈ ss, x.size ≤ 35184372088831) : ∃ d : List SKey, d.map (·.1) = ss :=
  ⟨ss.pmap Subtype.mk h, by simp [List.map_pmap]⟩
theorem placed_map (ss : List Place) (h : ∀ x ∈ ss, x.1.size ≤ 35184372088831 ∧ x.2.size ≤ 35184372088831) : ∃ d : List SPlace, d.map (·.1) = ss :=
  ⟨ss.pmap Subtype.mk h, by simp [List.map_pmap]⟩
theorem sort_keys (d : List SKey) : (d.mergeSort fun x y => !(ltOf cfK) y x).map (·.1) = sortB (d.map (·.1)) := by
  unfold sortB
  refine List.map_mergeSort fun a _ b _ => ?_
  rw [ltK]
  rfl
theorem sort_places (d : List SPlace) : (d.mergeSort fun x y => !(ltOf cfP) y x).map (·.1) = sortP (d.map (·.1)) := by
  unfold sortP
  refine List.map_mergeSort fun a _ b _ => ?_
  rw [ltP]
  rfl

theorem rowK (ss : List ByteArray) : KeysK.rowOf ss = ss.map Value.string := by
  induction ss with
  | nil => rfl
  | cons a r ih => rw [List.map_cons, ← ih]; rfl

set_option maxHeartbeats 1000000 in
set_option maxRecDepth 100000 in
theorem sortedK_any {V : Type} (ev : V → Value) (Bm b : Nat) (L : List (ByteArray × V)) (w : World) (hN : L.length ≤ 1000000) (hk : ∀ x ∈ L.map (·.1), x.size ≤ 35184372088831) (hBm : Bm < w.heap.size) (hm : w.cell? ⟨Bm, 0, none⟩ = some (.map (some b))) (hown : IsMap Value.string ev w b L) :
    Calls Tryd.prog 39 #[.func (.func 70) #[] #[.pointer (some ⟨Bm, 0, none⟩)], .func (.func 41) #[] #[]] w fun e w' =>
      ∃ A c, e = .returned (.slice A L.length c) ∧ Reads w' A ((sortB (L.map (·.1))).map Value.string) ∧ (∀ ad, A = some ad → ∃ cur, w'.heap[ad.block]? = some (.cells cur 9 (0, 0))) ∧ Below w.heap.size w w' := by
  have hcol := callsIn_wide.1 (KeysK.collect_in Fence.wide 3 trivial trivial rfl (Nat.le_refl _) 70 #[.pointer (some ⟨Bm, 0, none⟩)] trivial (enters_of Tryd.func70 (by kernel_rfl) rfl) _ L.length (by unfold maxLen; omega) (by omega) w
    (KeysK.keys_gives ev Fence.wide 1 trivial rfl (Nat.le_refl _) Bm b L w hBm hm hown))
  have HK := Lib.hid hk
  have HN := Lib.hid hN
  clear hk hN hm hown
  go_enter Tryd.func39, Tryd.ntmps39
  go_wp2_with (first | (go_at_call 68; ((with_reducible refine hcol.mono ?_)); rintro e w1 ⟨v, ss, rfl, hS, hrow, -, hb⟩; have hlen := hS.length_eq; simp only [List.length_map] at hlen; obtain ⟨d, rfl⟩ := keyed_map ss (fun x hx => HK.out x (hS.mem_iff.1 hx)); have HS := Lib.hid (sortB_perm hS); clear hS))
  rw [List.length_map] at hrow hlen
  rcases hrow.2 with ⟨rfl, hz⟩ | ⟨gb, cap, cur, rfl, hbase, hgb, r1, r2, r3, r4⟩
  · have hd : d = [] := List.eq_nil_of_length_eq_zero hz
    subst hd
    have hL : L = [] := List.eq_nil_of_length_eq_zero (by simpa using hlen.symm)
    subst hL
    go_wp2_with (first | (go_at_call 69; ((with_reducible refine (Tryd.slices_SortFunc_none (α := SKey) none 0 _ _).mono ?_)); rintro e w2 ⟨rfl, rfl⟩))
    go_ret
    exact ⟨none, 0, rfl, ⟨by simp [sortB], fun h => by simp [sortB] at h⟩, (fun _ h => by cases h), hb⟩
  · have hgl : gb < w1.heap.size := (Array.getElem?_eq_some_iff.1 hgb).1
    have hH : Holds encK w1 gb 0 d.toArray := holds_cells hgb (by
      rw [Nat.mul_one] at r4
      rw [r4]
      rw [rowK, List.map_map]
      rfl)
    have hso := Tryd.slices_SortFunc_total encK (fun x => rfl) cfK swoK 41 #[] gb 0 cap d.toArray w1 (enters_of Tryd.func41 (by kernel_rfl) rfl) (cmpK _ _ _ _) hH hgl (by simp; have := HN.out; omega) triK
    rw [List.size_toArray] at hso
    go_wp2_with (first | (go_at_call 69; ((with_reducible refine hso.mono ?_)); rintro e w2 ⟨rfl, n, os, rfl⟩))
    go_ret
    have hsl : (sortB (L.map (·.1))).length = L.length := by rw [(perm_sortB _).length_eq, List.length_map]
    have hds : (d.mergeSort fun x y => !(ltOf cfK) y x).length = d.length := (List.mergeSort_perm _ _).length_eq
    refine ⟨some ⟨gb, 0, none⟩, cap, rfl, ⟨by have := HN.out; simp [hsl]; omega, fun _ => ⟨_, rfl, fun j u hj => ?_⟩⟩, fun ad h => by cases h; exact heap_sort_here encK w1 gb 0 n _ os hgb, hb.trans (below_sort encK w1 w.heap.size gb 0 n _ os hbase hgl)⟩
    rw [← HS.out, ← sort_keys, List.map_map, List.getElem?_map, Option.map_eq_some_iff] at hj
    obtain ⟨x, hx, rfl⟩ := hj
    have hjl : j < (d.mergeSort fun x y => !(ltOf cfK) y x).length := (List.getElem?_eq_some_iff.1 hx).1
    have hh := (holds_sortWorld encK w1 gb 0 n d.toArray (d.mergeSort fun x y => !(ltOf cfK) y x).toArray os hgl hH (by simp [hds]) j (by simpa using hjl)).1
    rw [List.getElem?_eq_getElem hjl] at hx
    have e1 : (⟨gb, 0, none⟩ : Addr).add j = ⟨gb, 0 + j, none⟩ := by unfold Addr.add; split <;> simp_all
    rw [e1, hh, getElem!_pos _ j (by simpa using hjl)]
    simp only [List.getElem_toArray]
    rw [Option.some.inj hx]
    rfl
theorem flat_two {α : Type} (g h : α → Value) : ∀ (l : List α) (j : Nat), (l.flatMap fun x => [g x, h x])[2 * j]? = l[j]?.map g ∧ (l.flatMap fun x => [g x, h x])[2 * j + 1]? = l[j]?.map h
  | [], j => by simp
  | x :: r, 0 => by simp
  | x :: r, j + 1 => by
    have := flat_two g h r j
    rw [List.flatMap_cons, show 2 * (j + 1) = 2 * j + 1 + 1 from by omega]
    simpa using this
theorem rowP (d : List SPlace) : KeysP.rowOf (d.map (·.1)) = d.flatMap fun x => [.string x.1.1, .string x.1.2] := by
  induction d with
  | nil => rfl
  | cons a r ih => rw [List.flatMap_cons, ← ih]; rfl
theorem flat_len {α : Type} (g h : α → Value) (l : List α) : (l.flatMap fun x => [g x, h x]).length = l.length * 2 := by
  induction l with
  | nil => rfl
  | cons a r ih => rw [List.flatMap_cons, List.length_append, ih, List.length_cons]; simp; omega
theorem arr_get (F : List Value) (i : Nat) (v : Value) (hv : F[i]? = some v) : id (F.toArray[i]!) = v := by
  obtain ⟨h', e⟩ := List.getElem?_eq_some_iff.1 hv
  rw [id_eq, getElem!_pos F.toArray i (by simpa using h')]
  simpa using e
def plc (p : Place) : List Value := [.string p.1, .string p.2]
set_option maxHeartbeats 1000000 in
set_option maxRecDepth 100000 in
theorem sortedP_any {V : Type} (ev : V → Value) (Bm b : Nat) (L : List (Place × V)) (w : World) (hN : L.length ≤ 1000000) (hk : ∀ x ∈ L.map (·.1), x.1.size ≤ 35184372088831 ∧ x.2.size ≤ 35184372088831) (hBm : Bm < w.heap.size) (hm : w.cell? ⟨Bm, 0, none⟩ = some (.map (some b))) (hown : IsMap placeV ev w b L) :
    Calls Tryd.prog 45 #[.func (.func 75) #[] #[.pointer (some ⟨Bm, 0, none⟩)], .func (.func 44) #[] #[]] w fun e w' =>
      ∃ A c, e = .returned (.slice A L.length c) ∧ ReadsN w' A 2 ((sortP (L.map (·.1))).map plc) ∧ (∀ ad, A = some ad → ∃ cur, w'.heap[ad.block]? = some (.cells cur 91 (0, 0))) ∧ Below w.heap.size w w' := by
  have hcol := callsIn_wide.1 (KeysP.collect_in Fence.wide 3 trivial trivial rfl (Nat.le_refl _) 75 #[.pointer (some ⟨Bm, 0, none⟩)] trivial (enters_of Tryd.func75 (by kernel_rfl) rfl) _ L.length (by unfold maxLen; omega) (by omega) w
    (KeysP.keys_gives ev Fence.wide 1 trivial rfl (Nat.le_refl _) Bm b L w hBm hm hown))
  have HK := Lib.hid hk
  have HN := Lib.hid hN
  clear hk hN hm hown
  have hno : ∀ (p : Option Addr) (cap : Nat) (fv : Value) (w : World), Calls Tryd.prog 74 #[.slice p 0 cap, fv] w fun e w' => e = .returned (.tuple #[]) ∧ w' = w := fun p cap fv w => AnyF.slices_SortFunc_none Tryd.laysSlF06_f74 p cap fv w
  go_enter Tryd.func45, Tryd.ntmps45
  go_wp2_with (first | (go_at_call 73; ((with_reducible refine hcol.mono ?_)); rintro e w1 ⟨v, ss, rfl, hS, hrow, -, hb⟩; have hlen := hS.length_eq; simp only [List.length_map] at hlen; obtain ⟨d, rfl⟩ := placed_map ss (fun x hx => HK.out x (hS.mem_iff.1 hx)); have HS := Lib.hid (sortP_perm hS); clear hS))
  rw [List.length_map] at hrow hlen
  rcases hrow.2 with ⟨rfl, hz⟩ | ⟨gb, cap, cur, rfl, hbase, hgb, r1, r2, r3, r4⟩
  · have hd : d = [] := List.eq_nil_of_length_eq_zero hz
    subst hd
    have hL : L = [] := List.eq_nil_of_length_eq_zero (by simpa using hlen.symm)
    subst hL
    go_wp2_with (first | (go_at_call 74; ((with_reducible refine (hno none 0 _ _).mono ?_)); rintro e w2 ⟨rfl, rfl⟩))
    go_ret
    exact ⟨none, 0, rfl, ⟨by simp [sortP], fun h => by simp [sortP] at h⟩, (fun _ h => by cases h), hb⟩
  · have hgl : gb < w1.heap.size := (Array.getElem?_eq_some_iff.1 hgb).1
    have hfl : ∀ dk : List SPlace, flatK encP 2 dk.toArray = (dk.flatMap fun x => [Value.string x.1.1, Value.string x.1.2]).toArray := fun dk => by
      apply Array.ext_getElem?
      intro t
      by_cases ht : t < dk.length * 2
      · have h1 := get_flatK encP 2 dk.toArray t (by simpa using ht)
        have ht2 : t < (flatK encP 2 dk.toArray).size := by simpa using ht
        rw [Array.getElem?_eq_getElem ht2, ← getElem!_pos _ t ht2, h1]
        have hq : t / 2 < dk.length := by omega
        have hf := flat_two (fun x : SPlace => Value.string x.1.1) (fun x : SPlace => Value.string x.1.2) dk (t / 2)
        rw [List.getElem?_eq_getElem hq] at hf
        rw [List.getElem?_toArray, getElem!_pos dk.toArray (t / 2) (by simpa using hq)]
        have he : t % 2 = 0 ∨ t % 2 = 1 := by omega
        rcases he with he | he
        · rw [he]
          have : t = 2 * (t / 2) := by omega
          conv => rhs; rw [this]
          rw [hf.1]
          rfl
        · rw [he]
          have : t = 2 * (t / 2) + 1 := by omega
          conv => rhs; rw [this]
          rw [hf.2]
          rfl
      · rw [Array.getElem?_eq_none (by simpa using ht), Array.getElem?_eq_none (by rw [List.size_toArray, flat_len]; omega)]
    have hH : HoldsK encP 2 w1 gb 0 d.toArray := by
      unfold HoldsK
      rw [hfl]
      refine holds_cells (enc := id) hgb ?_
      rw [List.map_id, flat_len, ← rowP, ← r4]
    have hso : Calls Tryd.prog 74 #[.slice (some ⟨gb, 0, none⟩) d.toArray.size cap, .func (.func 44) #[] #[]] w1 fun e w' => e = .returned (.tuple #[]) ∧ ∃ n os, w' = sortWorldK encP 2 w1 gb 0 n (d.mergeSort fun x y => !(ltOf cfP) y x).toArray os := AnyQ.slices_SortFunc_total Tryd.laysSlF06_f74 2 Tryd.isAgg91 Tryd.sizeOf91 encP (fun x => rfl) (fun x v hv => by simp [encP] at hv; rcases hv with rfl | rfl <;> rfl) cfP swoP 44 #[] gb 0 cap d.toArray w1 (enters_of Tryd.func44 (by kernel_rfl) rfl) (cmpP _ _ _ _) hH hgl (by simp; have := HN.out; omega) triP
    rw [List.size_toArray] at hso
    go_wp2_with (first | (go_at_call 74; ((with_reducible refine hso.mono ?_)); rintro e w2 ⟨rfl, n, os, rfl⟩))
    go_ret
    have hsl : (sortP (L.map (·.1))).length = L.length := by rw [(perm_sortP _).length_eq, List.length_map]
    have hds : (d.mergeSort fun x y => !(ltOf cfP) y x).length = d.length := (List.mergeSort_perm _ _).length_eq
    refine ⟨some ⟨gb, 0, none⟩, cap, rfl, ⟨by have := HN.out; simp [hsl]; omega, fun _ => ⟨_, rfl, fun k cs hk j u hj => ?_⟩⟩, fun ad h => by cases h; exact heap_sort_here id w1 gb 0 n _ os hgb, hb.trans (below_sortK encP 2 w1 w.heap.size gb 0 n _ os hbase hgl)⟩
    rw [← HS.out, ← sort_places, List.map_map, List.getElem?_map, Option.map_eq_some_iff] at hk
    obtain ⟨x, hx, rfl⟩ := hk
    have hkl : k < (d.mergeSort fun x y => !(ltOf cfP) y x).length := (List.getElem?_eq_some_iff.1 hx).1
    have hHs := holdsK_sortWorldK_c encP 2 w1 gb 0 d.toArray (d.mergeSort fun x y => !(ltOf cfP) y x).toArray n os hH hgl (by simp [hds])
    unfold HoldsK at hHs
    rw [hfl] at hHs
    have hf := flat_two (fun x : SPlace => Value.string x.1.1) (fun x : SPlace => Value.string x.1.2) (d.mergeSort fun x y => !(ltOf cfP) y x) k
    rw [hx] at hf
    have hj2 : j < 2 := by have := (List.getElem?_eq_some_iff.1 hj).1; simpa [plc] using this
    have hlt : k * 2 + j < ((d.mergeSort fun x y => !(ltOf cfP) y x).flatMap fun x => [Value.string x.1.1, Value.string x.1.2]).toArray.size := by
      rw [List.size_toArray, flat_len]
      omega
    have hh := (hHs (k * 2 + j) hlt).1
    have e1 : (⟨gb, 0, none⟩ : Addr).add (k * 2 + j) = ⟨gb, 0 + (k * 2 + j), none⟩ := by unfold Addr.add; split <;> simp_all
    rw [e1, hh]
    refine congrArg some (arr_get _ _ u ?_)
    rw [show k * 2 = 2 * k from by omega]
    match j, hj2, hj with
    | 0, _, hj => rw [Nat.add_zero, hf.1, ← hj]; rfl
    | 1, _, hj => rw [hf.2, ← hj]; rfl
end Go.Proofs.YtnhpkefjmpgneaaDoor
