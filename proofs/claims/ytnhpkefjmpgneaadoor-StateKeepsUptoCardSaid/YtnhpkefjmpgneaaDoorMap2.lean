import Derived.Test.YtnhpkefjmpgneaaDoorMap
namespace Go.Proofs.YtnhpkefjmpgneaaDoor
open Go.RowKit

/-! ### keys that are somebody's key: two texts -/
def placeV (p : ByteArray × ByteArray) : Value := .agg #[.string p.1, .string p.2]
theorem place_check (a b : ByteArray) (em : Bool) (w : World) : (Instr.checkKey em 10000 91 (.agg #[.string a, .string b])).run Tryd.prog w = .ok () w := by kernel_rfl
theorem place_fields : (Tryd.prog.fieldsOf 91).toList.map (fun f => (f.name == "_", f.type, f.offset)) = [(false, 9, 0), (false, 9, 1)] := by kernel_rfl
theorem place_stood : Tryd.prog.stoodInHeld 91 = false := by kernel_rfl
theorem place_part0 (a b : ByteArray) (w : World) : (part 9 #[.string a, .string b] 0).run Tryd.prog w = .ok (.string a) w := by kernel_rfl
theorem place_part1 (a b : ByteArray) (w : World) : (part 9 #[.string a, .string b] 1).run Tryd.prog w = .ok (.string b) w := by kernel_rfl
theorem run_eqFields_two (w : World) (a b c d : ByteArray) (n : Nat) : ∀ fs : List Field, fs.map (fun f => (f.name == "_", f.type, f.offset)) = [(false, 9, 0), (false, 9, 1)] →
    (Op.eqFields (n + 1) #[.string a, .string b] #[.string c, .string d] fs).run Tryd.prog w = .ok (decide (a = c ∧ b = d)) w
  | [], h => by simp at h
  | [_], h => by simp at h
  | _ :: _ :: _ :: _, h => by simp at h
  | [f, g], h => by
    simp only [List.map_cons, List.map_nil, List.cons.injEq, Prod.mk.injEq, and_true] at h
    obtain ⟨⟨h1, h2, h3⟩, h4, h5, h6⟩ := h
    have hn1 : f.name ≠ "_" := by simpa using h1
    have hn2 : g.name ≠ "_" := by simpa using h4
    have hs : ∀ x y : ByteArray, (Op.equalIn (n + 1) 9 (.string x) (.string y)).run Tryd.prog w = .ok (decide (x = y)) w := fun x y => by
      rw [run_equalIn_string w n 9 x y Tryd.underlying9, ← beq_toListBytes, beq_bytes]
    simp only [Op.eqFields, hn1, hn2, h2, h3, h5, h6, if_true, Sem.run_bind, place_part0, place_part1, Result.andThen_ok, hs, ne_eq, not_false_eq_true]
    by_cases ha : a = c <;> by_cases hb : b = d <;> simp [ha, hb, Sem.run_ite, place_part1, hs]
theorem place_eq (w : World) (a b c d : ByteArray) : (Op.equal 91 (.agg #[.string a, .string b]) (.agg #[.string c, .string d])).run Tryd.prog w = .ok (decide (a = c ∧ b = d)) w := by
  unfold Op.equal Op.maxDepth
  rw [show (10000 : Nat) = 9999 + 1 from rfl, run_equalIn_struct w 9999 91 _ _ (by kernel_rfl) place_stood]
  exact run_eqFields_two w a b c d 9998 _ place_fields
theorem keyOk_place : KeyOk Tryd.prog 91 placeV where
  check x em w := place_check x.1 x.2 em w
  find x es l h w := by
    have hask : ∀ (es : List MapEntry) (l : List ((ByteArray × ByteArray) × Value)) (i : Nat), es.map (fun e => (e.key, e.val)) = l.map (fun p => (placeV p.1, p.2)) → (Instr.findAsking 91 (placeV x) es i).run Tryd.prog w = .ok (entAt x l i) w := by
      intro es
      induction es with
      | nil => intro l i h; cases l with | nil => rfl | cons p r => simp at h
      | cons e es ih =>
        intro l i h
        cases l with
        | nil => simp at h
        | cons p r =>
          simp only [List.map_cons, List.cons.injEq, Prod.mk.injEq] at h
          obtain ⟨⟨h1, h2⟩, h3⟩ := h
          unfold Instr.findAsking entAt
          rw [h1]
          simp only [Sem.run_bind]
          unfold placeV
          rw [place_eq]
          simp only [Result.andThen_ok, Sem.run_ite]
          by_cases hx : x = p.1
          · simp [hx, h2]
          · have : ¬ (x.1 = p.1.1 ∧ x.2 = p.1.2) := fun hh => hx (Prod.ext hh.1 hh.2)
            simp only [this, decide_false, hx, if_false, Bool.false_eq_true]
            exact ih r (i + 1) h3
    have hd : ∃ fs, Tryd.prog.underlying 91 = some (.struct fs) := ⟨_, show Tryd.prog.underlying 91 = some (.struct (Tryd.prog.fieldsOf 91)) by kernel_rfl⟩
    obtain ⟨fs, hd⟩ := hd
    cases es with
    | nil =>
      cases l with
      | nil => exact MapKept.run_findKey hd rfl
      | cons p r => simp at h
    | cons e es =>
      have hk : e.key = placeV (l.head (by intro hl; subst hl; simp at h)).1 := by
        cases l with
        | nil => simp at h
        | cons p r => simp only [List.map_cons, List.cons.injEq, Prod.mk.injEq] at h; exact h.1.1
      have hn : Instr.findNow (.struct fs) (placeV x) (e :: es) 0 = none := by
        unfold Instr.findNow
        rw [hk]
        rfl
      simp only [Instr.findKey, Sem.run_bind, run_underlying hd, Result.andThen_ok, hn]
      exact hask _ l 0 h
  same x := by
    show Instr.sameBits 10000 (.agg #[.string x.1, .string x.2]) (.agg #[.string x.1, .string x.2]) = true
    rw [show (10000 : Nat) = 9998 + 1 + 1 from rfl]
    simp [Instr.sameBits, beq_bytes]
end Go.Proofs.YtnhpkefjmpgneaaDoor
