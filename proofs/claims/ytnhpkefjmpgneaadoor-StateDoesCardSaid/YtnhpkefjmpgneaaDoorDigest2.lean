import Derived.Test.YtnhpkefjmpgneaaDoorDigest1
import Derived.BigQuiet
namespace Go.Proofs.YtnhpkefjmpgneaaDoor
open Go.RowKit Go.Sort

/-- What Digest asks of a state. -/
structure SmallState (A : Accs) (V : Vals) : Prop where
  lenA : A.length ≤ 1000000
  lenV : V.length ≤ 1000000
  keysA : ∀ x ∈ A.map (·.1), x.size ≤ 35184372088831
  keysV : ∀ x ∈ V.map (·.1), x.1.size ≤ 35184372088831 ∧ x.2.size ≤ 35184372088831
  ints : ∀ s, (-9223372036854775808 ≤ (accOf A s).1 ∧ (accOf A s).1 ≤ 9223372036854775807) ∧ (-9223372036854775808 ≤ (accOf A s).2 ∧ (accOf A s).2 ≤ 9223372036854775807)
  total : (digL A V).length ≤ 140737488355328
theorem take_flat {α β : Type} (f : α → List β) (l : List α) (k : Nat) (h : k < l.length) : (l.take (k + 1)).flatMap f = (l.take k).flatMap f ++ f l[k] := by
  rw [List.take_succ_eq_append_getElem h, List.flatMap_append]
  simp
theorem flat_le {α β : Type} (f : α → List β) (l : List α) (k : Nat) : ((l.take k).flatMap f).length ≤ (l.flatMap f).length := by
  conv => rhs; rw [← List.take_append_drop k l]
  rw [List.flatMap_append, List.length_append]
  omega
theorem cells2 {W w1 : World} {r : Nat} {a b : Value} (hb : Below W.heap.size W w1) (h0 : W.cell? ⟨r, 0, none⟩ = some a) (h1 : W.cell? ⟨r, 1, none⟩ = some b) : w1.cell? ⟨r, 0, none⟩ = some a ∧ w1.cell? ⟨r, 1, none⟩ = some b :=
  ⟨(hb.cell (World.block_lt_of_cell? W _ h0)).trans h0, (hb.cell (World.block_lt_of_cell? W _ h1)).trans h1⟩
theorem addS (a b : ByteArray) (h : (a ++ b).size ≤ 140737488355328) (W : World) : (Op.stringOp .add a b).run Tryd.prog W = .ok (.string (a ++ b)) W :=
  run_string_add_sum W a b (by rw [ByteArray.size_append] at h; omega)
theorem not_empty {v : ByteArray} (h : ¬ v = ⟨#[]⟩) : v.toList.isEmpty = false := by
  cases he : v.toList.isEmpty with
  | false => rfl
  | true =>
    refine absurd (toList_inj ?_) h
    rw [List.isEmpty_iff] at he
    rw [he, ByteArray.toList_eq]
theorem list_size (s : ByteArray) : s.data.toList.length = s.size := by simp
theorem le_left {a b : ByteArray} {n : Nat} (h : (a ++ b).size ≤ n) : a.size ≤ n := by rw [ByteArray.size_append] at h; omega
set_option maxHeartbeats 4000000 in
set_option maxRecDepth 100000 in
theorem digest_any (p ba bv : Nat) (A : Accs) (V : Vals) (w : World) (h : IsState w p ba bv A V) (hsm : SmallState A V) :
    Calls Tryd.prog 15 #[.pointer (some ⟨p, 0, none⟩)] w (Ret w (.string (digB A V))) := by
  have hpz := size_lt_of h.head
  have hSM := hsm
  have HS := Lib.hid h
  have hb0 : Below w.heap.size w (w.alloc (.cells #[.pointer none, .slice none 0 0] 97)) := (Below.refl _ _).alloc (Nat.le_refl _) _
  have hba : w.cell? ⟨p, 0, none⟩ = some (.map (some ba)) := by rw [cell_at h.head]; rfl
  clear h
  go_enter Tryd.func15, Tryd.ntmps15
  go_wp2_with (first
    | (go_at_call 40; ((with_reducible refine (keysK_any _ _).mono ?_)); rintro e w1 ⟨rfl, rfl⟩)
    | (go_at_call 39; ((with_reducible refine (sortedK_any accV (w.heap.size + 1) ba A _ hSM.lenA hSM.keysA (by simp) (by simp) ((HS.out.accs.below (Below.refl _ _)).below (((Below.refl _ _).alloc (Nat.le_refl _) _).alloc (by simp) _))).mono ?_)); rintro e w2 ⟨Ad, c, rfl, hR, hT, hb2⟩))
  have hsl : (sortB (A.map (·.1))).length = A.length := by rw [(perm_sortB _).length_eq, List.length_map]
  have HK : Hid ((sortB (A.map (·.1))).length = A.length) := hsl
  have HD0 : Dig 9 w w2 Ad [] w2 := by
    refine ⟨?_, below_call (hb0.alloc (by simp) _) (by simp; omega) hb2, fun ad e => ?_⟩
    · exact isBuilder_below (isBuilder_below (Lib.fresh_isBuilder BT UT w) ((Below.refl _ _).alloc (Nat.le_refl _) _)) hb2
    · obtain ⟨cur, hc⟩ := hT ad e
      exact ⟨cur, hc, hc⟩
  have HR := Lib.hid hR
  clear hR hT hb2 hb0 hba hsl
  have hlA := hSM.lenA
  go_loopw [20] (fun i wr => ∃ k : Nat, i = .int .i64 k ∧ k ≤ A.length ∧ Dig 9 w w2 Ad (((sortB (A.map (·.1))).take k).flatMap (line1 A)) wr) (fun i _ => A.length - (intOf i).toNat)
  case atStart => exact ⟨0, rfl, by omega, HD0⟩
  case round =>
    obtain ⟨k, rfl, hk, hD⟩ := hrel
    by_cases hlt : k < A.length
    · have hkl : k < (sortB (A.map (·.1))).length := by rw [HK.out]; exact hlt
      obtain ⟨who, hwho⟩ : ∃ who, (sortB (A.map (·.1)))[k] = who := ⟨_, rfl⟩
      have hcell : ((sortB (A.map (·.1))).map Value.string)[k]? = some (.string who) := by rw [List.getElem?_map, List.getElem?_eq_getElem hkl, hwho]; rfl
      obtain ⟨ad, rfl, hc⟩ := reads_at (hD.reads HR.out) hcell
      have hst := hD.state HS.out
      have hm0 : wr.cell? ⟨p, 0, none⟩ = some (.map (some ba)) := by rw [cell_at hst.head]; rfl
      have hlk := look_acc hst.accs who
      have hin := hSM.ints who
      have HT : Hid ((((sortB (A.map (·.1))).take (k + 1)).flatMap (line1 A)) = ((sortB (A.map (·.1))).take k).flatMap (line1 A) ++ line1 A who) := by rw [Hid, take_flat _ _ _ hkl, hwho]
      have HTot : ((((sortB (A.map (·.1))).take (k + 1)).flatMap (line1 A))).length ≤ 140737488355328 := by
        refine Nat.le_trans (flat_le _ _ _) (Nat.le_trans ?_ hSM.total)
        unfold digL
        rw [List.length_append]
        omega
      have HL : Hid (line1 A who = if (accOf A who).1 = 0 ∧ (accOf A who).2 = 0 then [] else (who ++ ⟨#[32]⟩ ++ printB (accOf A who).1 ++ ⟨#[32]⟩ ++ printB (accOf A who).2 ++ ⟨#[10]⟩).data.toList) := rfl
      clear hst hcell hwho
      obtain ⟨a1, ha1⟩ : ∃ a, (accOf A who).1 = a := ⟨_, rfl⟩
      obtain ⟨a2, ha2⟩ : ∃ a, (accOf A who).2 = a := ⟨_, rfl⟩
      rw [ha1, ha2] at hlk hin HL
      clear ha1 ha2
      have hG : Below wr.heap.size wr (wr.alloc (.cells #[.int .i64 a1, .int .i64 a2] 84 (0, 0))) := (Below.refl _ _).alloc (Nat.le_refl _) _
      have hcase : (a1 = 0 ∧ a2 = 0) ∨ (a1 ≠ 0 ∧ True) ∨ (a1 = 0 ∧ a2 ≠ 0) := by by_cases h1 : a1 = 0 <;> by_cases h2 : a2 = 0 <;> simp [h1, h2]
      rcases hcase with ⟨rfl, rfl⟩ | hn | ⟨rfl, hn⟩
      · go_wp2
        go_roundw
        case rel => exact ⟨k + 1, by go_num, by omega, by rw [HT.out, HL.out, if_pos ⟨rfl, rfl⟩, List.append_nil]; exact hD.grow hG⟩
        case measure => simp [intOf]; omega
      · have HF := HL.out
        rw [if_neg (by omega)] at HF
        have HF2 := Lib.hid HF; clear HF
        have hlenS := HTot
        rw [HT.out, HF2.out, List.length_append] at hlenS
        have hn1 : ¬ a1 = 0 := hn.1; clear hn
        have z5 : (who ++ ⟨#[32]⟩ ++ printB a1 ++ ⟨#[32]⟩ ++ printB a2 ++ ⟨#[10]⟩).size ≤ 140737488355328 := by rw [list_size] at hlenS; omega
        have s5 := addS _ _ z5
        have s4 := addS _ _ (le_left z5)
        have s3 := addS _ _ (le_left (le_left z5))
        have s2 := addS _ _ (le_left (le_left (le_left z5)))
        have s1 := addS _ _ (le_left (le_left (le_left (le_left z5))))
        have hlenB : (Lib.byteCells (((sortB (A.map (·.1))).take k).flatMap (line1 A))).length + (who ++ ⟨#[32]⟩ ++ printB a1 ++ ⟨#[32]⟩ ++ printB a2 ++ ⟨#[10]⟩).size ≤ 140737488355328 := by rw [Lib.byteCells_length, ← list_size]; exact hlenS
        clear z5 hlenS
        go_wp2
        obtain ⟨W, hW⟩ : ∃ W, W = wr.alloc (.cells #[.int .i64 a1, .int .i64 a2] 84 (0, 0)) := ⟨_, rfl⟩
        have q0 : W.cell? ⟨wr.heap.size, 0, none⟩ = some (.int .i64 a1) := by rw [hW]; exact cell_at (heap_new _ _) 0
        have q1 : W.cell? ⟨wr.heap.size, 1, none⟩ = some (.int .i64 a2) := by rw [hW]; exact cell_at (heap_new _ _) 1
        rw [← hW] at hG ⊢
        have hDD : Dig 9 w w2 (some ad) (((sortB (A.map (·.1))).take k).flatMap (line1 A)) W.drew := by have := hD.grow hG; exact ⟨this.bld, this.below.drew, this.row⟩
        clear hW hG
        go_region_with (first
          | (go_at_call 43; ((with_reducible refine (print_any a1 hin.1.1 hin.1.2 _).mono ?_)); rintro e v1 ⟨rfl, hv1⟩; (first | have DA := DB.grow hv1 | have DA := hDD.grow hv1); (first | have QA := cells2 hv1 qb0 qb1 | have QA := cells2 (W := W.drew) hv1 q0 q1); obtain ⟨qa0, qa1⟩ := QA)
          | (go_at_call 43; ((with_reducible refine (print_any a2 hin.2.1 hin.2.2 _).mono ?_)); rintro e v2 ⟨rfl, hv2⟩; (first | have DB := DA.grow hv2 | have DB := hDD.grow hv2); (first | have QB := cells2 hv2 qa0 qa1 | have QB := cells2 (W := W.drew) hv2 q0 q1); obtain ⟨qb0, qb1⟩ := QB)
          | (go_at_call 42; (first | ((with_reducible refine (writeString_any w.heap.size w.heap.size _ _ _ DB.bld hlenB DB.below.size).mono ?_)) | ((with_reducible refine (writeString_any w.heap.size w.heap.size _ _ _ DA.bld hlenB DA.below.size).mono ?_))); rintro e v3 ⟨rfl, hB3, hb3, ho3⟩; (first | have DC := DB.write (by decide) (by decide) _ hB3 hb3 ho3 | have DC := DA.write (by decide) (by decide) _ hB3 hb3 ho3))
          )
        all_goals
          go_wp2
          go_roundw
          case rel => exact ⟨k + 1, by go_num, by omega, by rw [HT.out, HF2.out]; exact DC⟩
          case measure => simp [intOf]; omega
      · have HF := HL.out
        rw [if_neg (by omega)] at HF
        have HF2 := Lib.hid HF; clear HF
        have hlenS := HTot
        rw [HT.out, HF2.out, List.length_append] at hlenS
        have hn2 : ¬ a2 = 0 := hn; clear hn
        have z5 : (who ++ ⟨#[32]⟩ ++ printB 0 ++ ⟨#[32]⟩ ++ printB a2 ++ ⟨#[10]⟩).size ≤ 140737488355328 := by rw [list_size] at hlenS; omega
        have s5 := addS _ _ z5
        have s4 := addS _ _ (le_left z5)
        have s3 := addS _ _ (le_left (le_left z5))
        have s2 := addS _ _ (le_left (le_left (le_left z5)))
        have s1 := addS _ _ (le_left (le_left (le_left (le_left z5))))
        have hlenB : (Lib.byteCells (((sortB (A.map (·.1))).take k).flatMap (line1 A))).length + (who ++ ⟨#[32]⟩ ++ printB 0 ++ ⟨#[32]⟩ ++ printB a2 ++ ⟨#[10]⟩).size ≤ 140737488355328 := by rw [Lib.byteCells_length, ← list_size]; exact hlenS
        clear z5 hlenS
        go_wp2
        obtain ⟨W, hW⟩ : ∃ W, W = wr.alloc (.cells #[.int .i64 0, .int .i64 a2] 84 (0, 0)) := ⟨_, rfl⟩
        have q0 : W.cell? ⟨wr.heap.size, 0, none⟩ = some (.int .i64 0) := by rw [hW]; exact cell_at (heap_new _ _) 0
        have q1 : W.cell? ⟨wr.heap.size, 1, none⟩ = some (.int .i64 a2) := by rw [hW]; exact cell_at (heap_new _ _) 1
        rw [← hW] at hG ⊢
        have hDD : Dig 9 w w2 (some ad) (((sortB (A.map (·.1))).take k).flatMap (line1 A)) W.drew := by have := hD.grow hG; exact ⟨this.bld, this.below.drew, this.row⟩
        clear hW hG
        go_region_with (first
          | (go_at_call 43; ((with_reducible refine (print_any 0 hin.1.1 hin.1.2 _).mono ?_)); rintro e v1 ⟨rfl, hv1⟩; (first | have DA := DB.grow hv1 | have DA := hDD.grow hv1); (first | have QA := cells2 hv1 qb0 qb1 | have QA := cells2 (W := W.drew) hv1 q0 q1); obtain ⟨qa0, qa1⟩ := QA)
          | (go_at_call 43; ((with_reducible refine (print_any a2 hin.2.1 hin.2.2 _).mono ?_)); rintro e v2 ⟨rfl, hv2⟩; (first | have DB := DA.grow hv2 | have DB := hDD.grow hv2); (first | have QB := cells2 hv2 qa0 qa1 | have QB := cells2 (W := W.drew) hv2 q0 q1); obtain ⟨qb0, qb1⟩ := QB)
          | (go_at_call 42; (first | ((with_reducible refine (writeString_any w.heap.size w.heap.size _ _ _ DB.bld hlenB DB.below.size).mono ?_)) | ((with_reducible refine (writeString_any w.heap.size w.heap.size _ _ _ DA.bld hlenB DA.below.size).mono ?_))); rintro e v3 ⟨rfl, hB3, hb3, ho3⟩; (first | have DC := DB.write (by decide) (by decide) _ hB3 hb3 ho3 | have DC := DA.write (by decide) (by decide) _ hB3 hb3 ho3))
          )
        all_goals
          go_wp2
          go_roundw
          case rel => exact ⟨k + 1, by go_num, by omega, by rw [HT.out, HF2.out]; exact DC⟩
          case measure => simp [intOf]; omega
    · obtain rfl : k = A.length := by omega
      have hlV := hSM.lenV
      rw [List.take_of_length_le (by rw [HK.out]; exact Nat.le_refl _)] at hD
      obtain ⟨l1, hl1⟩ : ∃ l, (sortB (A.map (·.1))).flatMap (line1 A) = l := ⟨_, rfl⟩
      rw [hl1] at hD
      have HL1 := Lib.hid hl1
      clear hl1 HK HD0 HR
      have hst := Lib.hid (hD.state HS.out)
      have hbv : wr.cell? ⟨p, 1, none⟩ = some (.map (some bv)) := by rw [cell_at hst.out.head]; rfl
      clear hlA
      go_wp2_with (first
        | (go_at_call 46; ((with_reducible refine (keysP_any _ _).mono ?_)); rintro e v1 ⟨rfl, rfl⟩)
        | (go_at_call 45; ((with_reducible refine (sortedP_any entV wr.heap.size bv V _ hSM.lenV hSM.keysV (by simp) (by simp) (hst.out.vals.below ((Below.refl _ _).alloc (Nat.le_refl _) _))).mono ?_)); rintro e w3 ⟨Bd, c3, rfl, hR, hT, hb3⟩))
      have hsl : (sortP (V.map (·.1))).length = V.length := by rw [(perm_sortP _).length_eq, List.length_map]
      have HK : Hid ((sortP (V.map (·.1))).length = V.length) := hsl
      have HD0 : Dig 91 w w3 Bd l1 w3 := by
        have h1 := (hD.grow ((Below.refl _ _).alloc (Nat.le_refl _) _)).grow hb3
        refine ⟨h1.bld, h1.below, fun ad e => ?_⟩
        obtain ⟨cur, hc⟩ := hT ad e
        exact ⟨cur, hc, hc⟩
      have HR := Lib.hid hR
      clear hR hT hb3 hbv hsl hD hst
      go_loopw [55] (fun i wr => ∃ k : Nat, i = .int .i64 k ∧ k ≤ V.length ∧ Dig 91 w w3 Bd (l1 ++ ((sortP (V.map (·.1))).take k).flatMap (line2 V)) wr) (fun i _ => V.length - (intOf i).toNat)
      case atStart => exact ⟨0, rfl, by omega, by simpa using HD0⟩
      case round =>
        obtain ⟨k, rfl, hk, hD⟩ := hrel
        by_cases hlt : k < V.length
        · have hkl : k < (sortP (V.map (·.1))).length := by rw [HK.out]; exact hlt
          obtain ⟨x, y, hxy⟩ : ∃ x y, (sortP (V.map (·.1)))[k] = (x, y) := ⟨_, _, rfl⟩
          have hcell : ((sortP (V.map (·.1))).map plc)[k]? = some (.string x :: [.string y]) := by rw [List.getElem?_map, List.getElem?_eq_getElem hkl, hxy]; rfl
          obtain ⟨ad, rfl, hc0, hc1'⟩ := readsN_at (hD.readsN HR.out) hcell
          have hc1 := hc1' 0 _ rfl
          have hst := hD.state HS.out
          have hm0 : wr.cell? ⟨p, 1, none⟩ = some (.map (some bv)) := by rw [cell_at hst.head]; rfl
          have hG : Below wr.heap.size wr (wr.alloc (.cells #[.string x, .string y] 91 (0, 0))) := (Below.refl _ _).alloc (Nat.le_refl _) _
          have hlk := look_val (hst.vals.below hG).drew x y
          have hm1 := (hG.cell (p := ⟨p, 1, none⟩) (World.block_lt_of_cell? wr _ hm0)).trans hm0
          have hf := ent_field0
          have HT : Hid ((((sortP (V.map (·.1))).take (k + 1)).flatMap (line2 V)) = ((sortP (V.map (·.1))).take k).flatMap (line2 V) ++ line2 V (x, y)) := by rw [Hid, take_flat _ _ _ hkl, hxy]
          have HTot : (l1 ++ (((sortP (V.map (·.1))).take (k + 1)).flatMap (line2 V))).length ≤ 140737488355328 := by
            refine Nat.le_trans ?_ hSM.total
            unfold digL
            rw [HL1.out, List.length_append, List.length_append]
            have := flat_le (line2 V) (sortP (V.map (·.1))) (k + 1)
            omega
          have HL : Hid (line2 V (x, y) = if valOf V (x, y) = ⟨#[]⟩ then [] else (x ++ ⟨#[9]⟩ ++ y ++ ⟨#[9]⟩ ++ valOf V (x, y) ++ ⟨#[10]⟩).data.toList) := rfl
          clear hst hcell hxy hc1'
          generalize valOf V (x, y) = v at hlk HL
          obtain ⟨W, hW⟩ : ∃ W, W = wr.alloc (.cells #[.string x, .string y] 91 (0, 0)) := ⟨_, rfl⟩
          have q0 : W.cell? ⟨wr.heap.size, 0, none⟩ = some (.string x) := by rw [hW]; exact cell_at (heap_new _ _) 0
          have q1 : W.cell? ⟨wr.heap.size, 1, none⟩ = some (.string y) := by rw [hW]; exact cell_at (heap_new _ _) 1
          have hHW := Lib.hid hW
          rw [← hW] at hlk hm1 hG
          have hDD : Dig 91 w w3 (some ad) (l1 ++ ((sortP (V.map (·.1))).take k).flatMap (line2 V)) W.drew := by have := hD.grow hG; exact ⟨this.bld, this.below.drew, this.row⟩
          clear hW hG
          by_cases hv : v = ⟨#[]⟩
          · subst hv
            have HE := HL.out
            rw [if_pos rfl] at HE
            have HE2 := Lib.hid HE; clear HE HL
            go_wp2
            rw [← hHW.out]
            go_region
            all_goals
              go_wp2
              go_roundw
              case rel => exact ⟨k + 1, by go_num, by omega, by rw [HT.out, HE2.out, List.append_nil]; exact hDD⟩
              case measure => simp [intOf]; omega
          · have HF := HL.out
            rw [if_neg hv] at HF
            have HF2 := Lib.hid HF; clear HF
            have hlenS := HTot
            rw [HT.out, HF2.out, ← List.append_assoc, List.length_append] at hlenS
            have z5 : (x ++ ⟨#[9]⟩ ++ y ++ ⟨#[9]⟩ ++ v ++ ⟨#[10]⟩).size ≤ 140737488355328 := by rw [list_size] at hlenS; omega
            have s5 := addS _ _ z5
            have s4 := addS _ _ (le_left z5)
            have s3 := addS _ _ (le_left (le_left z5))
            have s2 := addS _ _ (le_left (le_left (le_left z5)))
            have s1 := addS _ _ (le_left (le_left (le_left (le_left z5))))
            have hlenB : (Lib.byteCells (l1 ++ ((sortP (V.map (·.1))).take k).flatMap (line2 V))).length + (x ++ ⟨#[9]⟩ ++ y ++ ⟨#[9]⟩ ++ v ++ ⟨#[10]⟩).size ≤ 140737488355328 := by rw [Lib.byteCells_length, ← list_size]; exact hlenS
            clear z5 hlenS
            have hvb : v.toList.isEmpty = false := not_empty hv
            go_wp2
            rw [← hHW.out]
            go_region
            all_goals
              go_wp2_with (first | (go_at_call 42; ((with_reducible refine (writeString_any w.heap.size w.heap.size _ _ _ hDD.bld hlenB hDD.below.size).mono ?_)); rintro e v3 ⟨rfl, hB3, hb3, ho3⟩; have DC := hDD.write (by decide) (by decide) _ hB3 hb3 ho3))
              go_roundw
              case rel => exact ⟨k + 1, by go_num, by omega, by rw [HT.out, HF2.out, ← List.append_assoc]; exact DC⟩
              case measure => simp [intOf]; omega
        · obtain rfl : k = V.length := by omega
          rw [List.take_of_length_le (by rw [HK.out]; exact Nat.le_refl _)] at hD
          obtain ⟨l2, hl2⟩ : ∃ l, l1 ++ (sortP (V.map (·.1))).flatMap (line2 V) = l := ⟨_, rfl⟩
          rw [hl2] at hD
          have HF : Hid (digB A V = ⟨l2.toArray⟩) := by unfold Hid digB digL; rw [HL1.out, hl2]
          clear hl2 hlV
          go_wp2_with (first | (go_at_call 47; ((with_reducible refine (Tryd.Builder_String_any w.heap.size w.heap.size l2 _ hD.bld hD.below.size).mono ?_)); rintro e v3 ⟨rfl, hb4⟩))
          go_ret
          exact ⟨by rw [HF.out]; rfl, hD.below.trans hb4⟩
end Go.Proofs.YtnhpkefjmpgneaaDoor
