import Derived.Test.YtnhpkefjmpgneaaDoorBase
import Derived.MapKept
import Derived.Laws.StructEq
namespace Go.Proofs.YtnhpkefjmpgneaaDoor
open Go.RowKit
set_option linter.unusedSectionVars false

/-! ### maps: a block that is a map, as a list of what it holds -/
section
variable {P : Program} {K V : Type} [DecidableEq K]
/-- Where a key stands, and what it has. -/
def entAt (x : K) : List (K × Value) → Nat → Option (Nat × Value)
  | [], _ => none
  | (y, v) :: r, i => if x = y then some (i, v) else entAt x r (i + 1)
/-- What a key has. -/
def aget (l : List (K × V)) (x : K) : Option V :=
  match l with
  | [] => none
  | (y, v) :: r => if x = y then some v else aget r x
/-- With a key's value. -/
def aput (l : List (K × V)) (x : K) (v : V) : List (K × V) :=
  match l with
  | [] => [(x, v)]
  | (y, u) :: r => if x = y then (x, v) :: r else (y, u) :: aput r x v
theorem aget_aput (l : List (K × V)) (x y : K) (v : V) : aget (aput l x v) y = if y = x then some v else aget l y := by
  induction l with
  | nil => simp [aput, aget]
  | cons p r ih =>
    obtain ⟨z, u⟩ := p
    unfold aput
    by_cases h : x = z
    · subst h
      simp only [if_true, aget]
      by_cases h2 : y = x <;> simp [h2]
    · simp only [h, if_false, aget, ih]
      by_cases h2 : y = z
      · subst h2
        simp [Ne.symm h]
      · simp [h2]
theorem aget_none {l : List (K × V)} {x : K} : aget l x = none ↔ x ∉ l.map (·.1) := by
  induction l with
  | nil => simp [aget]
  | cons p r ih =>
    obtain ⟨z, u⟩ := p
    unfold aget
    by_cases h : x = z <;> simp [h, ih]
theorem keys_aput (l : List (K × V)) (x : K) (v : V) : (aput l x v).map (·.1) = if x ∈ l.map (·.1) then l.map (·.1) else l.map (·.1) ++ [x] := by
  induction l with
  | nil => simp [aput]
  | cons p r ih =>
    obtain ⟨z, u⟩ := p
    unfold aput
    by_cases h : x = z
    · subst h; simp
    · simp only [h, if_false, List.map_cons, ih, List.mem_cons, false_or]
      split <;> simp
theorem nodup_aput {l : List (K × V)} (h : (l.map (·.1)).Nodup) (x : K) (v : V) : ((aput l x v).map (·.1)).Nodup := by
  rw [keys_aput]
  split
  · exact h
  · rename_i hx
    exact List.nodup_append.2 ⟨h, by simp, fun a ha b hb => by simp at hb; subst hb; exact fun e => hx (e ▸ ha)⟩
theorem length_aput (l : List (K × V)) (x : K) (v : V) : (aput l x v).length ≤ l.length + 1 := by
  have h := congrArg List.length (keys_aput l x v)
  simp only [List.length_map] at h
  rw [h]
  split <;> simp

/-- A key's type: its values are looked for as they are. -/
structure KeyOk (P : Program) (k : TypeId) (enc : K → Value) : Prop where
  check : ∀ x em (w : World), (Instr.checkKey em 10000 k (enc x)).run P w = .ok () w
  find : ∀ x (es : List MapEntry) (l : List (K × Value)), es.map (fun e => (e.key, e.val)) = l.map (fun p => (enc p.1, p.2)) → ∀ w : World, (Instr.findKey k (enc x) es).run P w = .ok (entAt x l 0) w
  same : ∀ x, Instr.sameBits 10000 (enc x) (enc x) = true

/-- Block b is a map that holds l. -/
structure IsMap (enc : K → Value) (ev : V → Value) (w : World) (b : Nat) (l : List (K × V)) : Prop where
  out : ∃ es clock, w.heap[b]? = some (.map es clock) ∧ es.toList.map (fun e => (e.key, e.val)) = l.map (fun p => (enc p.1, ev p.2)) ∧ (es.toList.map (·.born)).Pairwise (· < ·) ∧ (∀ e ∈ es.toList, e.born < clock)
  nodup : (l.map (·.1)).Nodup
variable {enc : K → Value} {ev : V → Value} {w w' : World} {b : Nat} {l : List (K × V)}
theorem IsMap.lt (h : IsMap enc ev w b l) : b < w.heap.size := by
  obtain ⟨es, clock, hb, _⟩ := h.out
  exact (Array.getElem?_eq_some_iff.1 hb).1
theorem IsMap.keep (h : IsMap enc ev w b l) (hk : w'.heap[b]? = w.heap[b]?) : IsMap enc ev w' b l :=
  ⟨by obtain ⟨es, clock, hb, r⟩ := h.out; exact ⟨es, clock, hk.trans hb, r⟩, h.nodup⟩
theorem IsMap.below (h : IsMap enc ev w b l) (hb : Below w.heap.size w w') : IsMap enc ev w' b l := h.keep (hb.block b h.lt)
theorem heap_new (w : World) (o : Obj) : (w.alloc o).heap[w.heap.size]? = some o := by
  show (w.heap.push o)[w.heap.size]? = _
  simp
theorem isMap_new (w : World) : IsMap enc ev (w.alloc (.map #[] 0)) w.heap.size ([] : List (K × V)) :=
  ⟨⟨#[], 0, heap_new w _, by simp, by simp, by simp⟩, by simp⟩
theorem entAt_aget (l : List (K × V)) (x : K) (i : Nat) : (entAt x (l.map fun p => (p.1, ev p.2)) i).map (·.2) = (aget l x).map ev := by
  induction l generalizing i with
  | nil => rfl
  | cons p r ih =>
    obtain ⟨z, u⟩ := p
    simp only [List.map_cons, entAt, aget]
    by_cases h : x = z <;> simp [h, ih]
/-- A look-up. -/
theorem run_look {t k e : TypeId} (ht : P.underlying t = some (.map k e)) (hK : KeyOk P k enc) {z : Value} (hz : (zeroValue e).run P w = .ok z w) (h : IsMap enc ev w b l) (x : K) (ok : Bool) :
    (Instr.lookup t (.map (some b)) (enc x) ok).run P w = .ok (if ok then .tuple #[((aget l x).map ev).getD z, .bool (aget l x).isSome] else ((aget l x).map ev).getD z) w := by
  obtain ⟨es, clock, hb, hl, _⟩ := h.out
  have hl' : es.toList.map (fun e => (e.key, e.val)) = (l.map fun p => (p.1, ev p.2)).map (fun p => (enc p.1, p.2)) := by rw [hl]; simp
  have hf := hK.find x es.toList _ hl' w
  have hg := entAt_aget (ev := ev) l x 0
  simp only [Instr.lookup, Sem.run_bind, run_underlying ht, Result.andThen_ok, MapKept.run_getObj_map hb, Sem.run_pure, hK.check, hf]
  cases hent : entAt x (l.map fun p => (p.1, ev p.2)) 0 with
  | none =>
    rw [hent] at hg
    have hn : aget l x = none := by simpa using hg.symm
    cases ok <;> simp [hn, hz]
  | some iv =>
    rw [hent] at hg
    obtain ⟨i, v⟩ := iv
    obtain ⟨u, hu, rfl⟩ : ∃ u, aget l x = some u ∧ ev u = v := by
      cases h : aget l x with
      | none => rw [h] at hg; simp at hg
      | some u => rw [h] at hg; simp at hg; exact ⟨u, rfl, hg.symm⟩
    cases ok <;> simp [hu]

/-- A world in which only a block differs. -/
def World.withObj (w : World) (b : Nat) (o : Obj) : World := { w with heap := w.heap.setIfInBounds b o }
theorem entAt_spec (x : K) (l : List (K × Value)) (i : Nat) : match entAt x l i with
    | none => x ∉ l.map (·.1)
    | some (j, v) => i ≤ j ∧ l[j - i]? = some (x, v) := by
  induction l generalizing i with
  | nil => simp [entAt]
  | cons p r ih =>
    obtain ⟨z, u⟩ := p
    unfold entAt
    by_cases h : x = z
    · subst h; simp
    · simp only [h, if_false]
      have := ih (i + 1)
      cases he : entAt x r (i + 1) with
      | none => rw [he] at this; simp [h]; simpa using this
      | some jv =>
        rw [he] at this
        obtain ⟨j, v⟩ := jv
        obtain ⟨h1, h2⟩ := this
        refine ⟨by omega, ?_⟩
        rw [show j - i = (j - (i + 1)) + 1 by omega, List.getElem?_cons_succ]
        exact h2
theorem aput_new {l : List (K × V)} {x : K} (h : x ∉ l.map (·.1)) (v : V) : aput l x v = l ++ [(x, v)] := by
  induction l with
  | nil => rfl
  | cons p r ih =>
    obtain ⟨z, u⟩ := p
    simp only [List.map_cons, List.mem_cons, not_or] at h
    unfold aput
    rw [if_neg h.1, ih h.2, List.cons_append]
theorem aput_at {l : List (K × V)} {x : K} {i : Nat} {u : V} (hn : (l.map (·.1)).Nodup) (h : l[i]? = some (x, u)) (v : V) : aput l x v = l.set i (x, v) := by
  induction l generalizing i with
  | nil => simp at h
  | cons p r ih =>
    obtain ⟨z, y⟩ := p
    unfold aput
    cases i with
    | zero =>
      simp at h
      obtain ⟨rfl, rfl⟩ := h
      simp
    | succ i =>
      simp only [List.getElem?_cons_succ] at h
      simp only [List.map_cons, List.nodup_cons] at hn
      have hx : x ∈ r.map (·.1) := List.mem_map.2 ⟨(x, u), List.mem_of_getElem? h, rfl⟩
      rw [if_neg (fun e => hn.1 (by rw [← e]; exact hx)), ih hn.2 h]
      rfl
/-- A store. -/
theorem run_put {t k e : TypeId} (ht : P.underlying t = some (.map k e)) (hK : KeyOk P k enc) (h : IsMap enc ev w b l) (x : K) (v : V) :
    ∃ o, (Instr.mapUpdate t (.map (some b)) (enc x) (ev v)).run P w = .ok () (World.withObj w b o) ∧ IsMap enc ev (World.withObj w b o) b (aput l x v) := by
  obtain ⟨es, clock, hb, hl, hp, hc⟩ := h.out
  have hbs : b < w.heap.size := h.lt
  have hl' : es.toList.map (fun e => (e.key, e.val)) = (l.map fun p => (p.1, ev p.2)).map (fun p => (enc p.1, p.2)) := by rw [hl]; simp
  have hf := hK.find x es.toList _ hl' w
  have hs := entAt_spec x (l.map fun p => (p.1, ev p.2)) 0
  have hnd := nodup_aput h.nodup x v
  cases hent : entAt x (l.map fun p => (p.1, ev p.2)) 0 with
  | none =>
    rw [hent] at hs hf
    have hs' : x ∉ l.map (·.1) := by simpa using hs
    refine ⟨.map (es.push ⟨enc x, ev v, clock⟩) (clock + 1), ?_, ⟨⟨es.push ⟨enc x, ev v, clock⟩, clock + 1, by simp [World.withObj, hbs], ?_, ?_, ?_⟩, hnd⟩⟩
    · simp only [Instr.mapUpdate, Sem.run_bind, run_underlying ht, Result.andThen_ok, MapKept.run_getObj_map hb, hK.check, hf, MapKept.run_setObj_map _ hb]
      rfl
    · rw [aput_new hs', Array.toList_push, List.map_append, List.map_append, hl]; rfl
    · rw [Array.toList_push, List.map_append]
      refine List.pairwise_append.2 ⟨hp, by simp, ?_⟩
      intro a ha c hc'
      simp at hc'
      subst hc'
      obtain ⟨e, he, rfl⟩ := List.mem_map.1 ha
      exact hc e he
    · intro e he
      simp only [Array.toList_push, List.mem_append, List.mem_singleton] at he
      rcases he with he | rfl
      · have := hc e he; omega
      · show clock < clock + 1; omega
  | some iv =>
    rw [hent] at hs hf
    obtain ⟨i, u⟩ := iv
    obtain ⟨-, hi⟩ := hs
    simp only [Nat.sub_zero] at hi
    have hli : ∃ u', l[i]? = some (x, u') := by
      rw [List.getElem?_map] at hi
      cases h2 : l[i]? with
      | none => rw [h2] at hi; simp at hi
      | some p => obtain ⟨a, c⟩ := p; rw [h2] at hi; simp at hi; exact ⟨c, by rw [hi.1]⟩
    obtain ⟨u', hli⟩ := hli
    have hel : i < es.toList.length := by
      have h1 := congrArg List.length hl
      simp only [List.length_map] at h1
      rw [h1]
      exact (List.getElem?_eq_some_iff.1 hli).1
    have hkey : es.toList[i].key = enc x := by
      have h1 : (es.toList.map (fun e => (e.key, e.val)))[i]? = (l.map (fun p => (enc p.1, ev p.2)))[i]? := by rw [hl]
      rw [List.getElem?_map, List.getElem?_map, hli, List.getElem?_eq_getElem hel] at h1
      simp at h1
      simpa using h1.1
    have hes : i < es.size := by simpa using hel
    have hst : (Instr.keyThatStays (((es[i]?).map (·.key)).getD (enc x)) (enc x)).run P w = .ok (enc x) w := by
      have : ((es[i]?).map (·.key)).getD (enc x) = enc x := by
        rw [Array.getElem?_eq_getElem hes]
        simpa using hkey
      rw [this]
      simp [Instr.keyThatStays, hK.same]
    refine ⟨.map (es.modify i fun e => { e with key := enc x, val := ev v }) clock, ?_, ⟨⟨es.modify i fun e => { e with key := enc x, val := ev v }, clock, by simp [World.withObj, hbs], ?_, ?_, ?_⟩, hnd⟩⟩
    · simp only [Instr.mapUpdate, Sem.run_bind, run_underlying ht, Result.andThen_ok, MapKept.run_getObj_map hb, hK.check, hf, hst, MapKept.run_setObj_map _ hb]
      rfl
    · rw [aput_at h.nodup hli, List.map_set, ← hl, Array.toList_modify]
      apply List.ext_getElem?
      intro j
      simp only [List.getElem?_map, List.getElem?_modify, List.getElem?_set, List.length_map, Option.map_map]
      by_cases hj : i = j
      · subst hj; simp [hes]
      · simp [hj]
    · have : (es.modify i fun e => { e with key := enc x, val := ev v }).toList.map (·.born) = es.toList.map (·.born) := by
        rw [Array.toList_modify]
        apply List.ext_getElem?
        intro j
        simp only [List.getElem?_map, List.getElem?_modify, Option.map_map]
        by_cases hj : i = j
        · subst hj; simp; rfl
        · simp [hj]
      rw [this]; exact hp
    · intro e he
      rw [Array.toList_modify] at he
      obtain ⟨j, hj, rfl⟩ := List.getElem_of_mem he
      rw [List.getElem_modify]
      have hj' : j < es.toList.length := by simpa using hj
      split
      · show (es.toList[j]).born < clock
        exact hc _ (List.getElem_mem hj')
      · exact hc _ (List.getElem_mem hj')
end

theorem beq_bytes (a b : ByteArray) : (a == b) = decide (a = b) := by
  rw [beq_toListBytes, ByteArray.toList_eq, ByteArray.toList_eq]
  obtain ⟨⟨x⟩⟩ := a
  obtain ⟨⟨y⟩⟩ := b
  rw [Bool.eq_iff_iff]
  simp

/-- A key of a string's type. -/
theorem keyOk_string {P : Program} {k : TypeId} (hk : P.underlying k = some .string) : KeyOk P k (Value.string) where
  check x em w := by
    rw [show (10000 : Nat) = 9999 + 1 from rfl, Instr.checkKey]
    simp only [Sem.run_bind, run_underlying hk, Result.andThen_ok]
    rfl
  find x es l h w := by
    have hf : ∀ (es : List MapEntry) (l : List (ByteArray × Value)) (i : Nat), es.map (fun e => (e.key, e.val)) = l.map (fun p => (Value.string p.1, p.2)) → Instr.findNow .string (.string x) es i = some (entAt x l i) := by
      intro es
      induction es with
      | nil => intro l i h; cases l with | nil => rfl | cons p r => simp at h
      | cons e es ih =>
        intro l i h
        cases l with
        | nil => simp at h
        | cons p r =>
          simp only [List.map_cons, List.cons.injEq, Prod.mk.injEq] at h
          obtain ⟨⟨h1, h2⟩, h3⟩ := h
          unfold Instr.findNow entAt
          rw [h1]
          simp only [Instr.sameNow]
          rw [beq_bytes]
          by_cases hx : x = p.1
          · simp [hx, h2]
          · simp only [hx, decide_false, if_false]
            exact ih r (i + 1) h3
    exact MapKept.run_findKey hk (hf es l 0 h)
  same x := by
    rw [show (10000 : Nat) = 9999 + 1 from rfl, Instr.sameBits, beq_bytes]
    simp
end Go.Proofs.YtnhpkefjmpgneaaDoor
namespace Go.Proofs.YtnhpkefjmpgneaaDoor
open Go.RowKit

/-! ### keys that are somebody's key: two texts -/
def placeV (p : ByteArray × ByteArray) : Value := .agg #[.string p.1, .string p.2]
theorem place_check (a b : ByteArray) (em : Bool) (w : World) : (Instr.checkKey em 10000 91 (.agg #[.string a, .string b])).run Tryd.prog w = .ok () w := by kernel_rfl
theorem place_fields : (Tryd.prog.fieldsOf 91).toList.map (fun f => (f.name == "_", f.type, f.offset)) = [(false, 9, 0), (false, 9, 1)] := by kernel_rfl
theorem place_stood : Tryd.prog.stoodInHeld 91 = false := by kernel_rfl
theorem place_part0 (a b : ByteArray) (w : World) : (part 9 #[.string a, .string b] 0).run Tryd.prog w = .ok (.string a) w := by kernel_rfl
theorem place_part1 (a b : ByteArray) (w : World) : (part 9 #[.string a, .string b] 1).run Tryd.prog w = .ok (.string b) w := by kernel_rfl
theorem run_eqFields_two (w : World) (a b c d : ByteArray) (n : Nat) : ∀ fs : List Field, fs.map (fun f => (f.name == "_", f.type, f.offset)) = [(false, 9, 0), (false, 9, 1)] →
    (Op.eqFields (n + 1) #[.string a, .string b] #[.string c, .string d] fs).run Tryd.prog w = .ok (decide (a = c ∧ b = d)) w
  | [], h => by simp at h
  | [_], h => by simp at h
  | _ :: _ :: _ :: _, h => by simp at h
  | [f, g], h => by
    simp only [List.map_cons, List.map_nil, List.cons.injEq, Prod.mk.injEq, and_true] at h
    obtain ⟨⟨h1, h2, h3⟩, h4, h5, h6⟩ := h
    have hn1 : f.name ≠ "_" := by simpa using h1
    have hn2 : g.name ≠ "_" := by simpa using h4
    have hs : ∀ x y : ByteArray, (Op.equalIn (n + 1) 9 (.string x) (.string y)).run Tryd.prog w = .ok (decide (x = y)) w := fun x y => by
      rw [run_equalIn_string w n 9 x y Tryd.underlying9, ← beq_toListBytes, beq_bytes]
    simp only [Op.eqFields, hn1, hn2, h2, h3, h5, h6, if_true, Sem.run_bind, place_part0, place_part1, Result.andThen_ok, hs, ne_eq, not_false_eq_true]
    by_cases ha : a = c <;> by_cases hb : b = d <;> simp [ha, hb, Sem.run_ite, place_part1, hs]
theorem place_eq (w : World) (a b c d : ByteArray) : (Op.equal 91 (.agg #[.string a, .string b]) (.agg #[.string c, .string d])).run Tryd.prog w = .ok (decide (a = c ∧ b = d)) w := by
  unfold Op.equal Op.maxDepth
  rw [show (10000 : Nat) = 9999 + 1 from rfl, run_equalIn_struct w 9999 91 _ _ (by kernel_rfl) place_stood]
  exact run_eqFields_two w a b c d 9998 _ place_fields
theorem keyOk_place : KeyOk Tryd.prog 91 placeV where
  check x em w := place_check x.1 x.2 em w
  find x es l h w := by
    have hask : ∀ (es : List MapEntry) (l : List ((ByteArray × ByteArray) × Value)) (i : Nat), es.map (fun e => (e.key, e.val)) = l.map (fun p => (placeV p.1, p.2)) → (Instr.findAsking 91 (placeV x) es i).run Tryd.prog w = .ok (entAt x l i) w := by
      intro es
      induction es with
      | nil => intro l i h; cases l with | nil => rfl | cons p r => simp at h
      | cons e es ih =>
        intro l i h
        cases l with
        | nil => simp at h
        | cons p r =>
          simp only [List.map_cons, List.cons.injEq, Prod.mk.injEq] at h
          obtain ⟨⟨h1, h2⟩, h3⟩ := h
          unfold Instr.findAsking entAt
          rw [h1]
          simp only [Sem.run_bind]
          unfold placeV
          rw [place_eq]
          simp only [Result.andThen_ok, Sem.run_ite]
          by_cases hx : x = p.1
          · simp [hx, h2]
          · have : ¬ (x.1 = p.1.1 ∧ x.2 = p.1.2) := fun hh => hx (Prod.ext hh.1 hh.2)
            simp only [this, decide_false, hx, if_false, Bool.false_eq_true]
            exact ih r (i + 1) h3
    have hd : ∃ fs, Tryd.prog.underlying 91 = some (.struct fs) := ⟨_, show Tryd.prog.underlying 91 = some (.struct (Tryd.prog.fieldsOf 91)) by kernel_rfl⟩
    obtain ⟨fs, hd⟩ := hd
    cases es with
    | nil =>
      cases l with
      | nil => exact MapKept.run_findKey hd rfl
      | cons p r => simp at h
    | cons e es =>
      have hk : e.key = placeV (l.head (by intro hl; subst hl; simp at h)).1 := by
        cases l with
        | nil => simp at h
        | cons p r => simp only [List.map_cons, List.cons.injEq, Prod.mk.injEq] at h; exact h.1.1
      have hn : Instr.findNow (.struct fs) (placeV x) (e :: es) 0 = none := by
        unfold Instr.findNow
        rw [hk]
        rfl
      simp only [Instr.findKey, Sem.run_bind, run_underlying hd, Result.andThen_ok, hn]
      exact hask _ l 0 h
  same x := by
    show Instr.sameBits 10000 (.agg #[.string x.1, .string x.2]) (.agg #[.string x.1, .string x.2]) = true
    rw [show (10000 : Nat) = 9998 + 1 + 1 from rfl]
    simp [Instr.sameBits, beq_bytes]
end Go.Proofs.YtnhpkefjmpgneaaDoor
