import Derived.Test.YtnhpkefjmpgneaaDoorRef09g
import Derived.StillTailTactics
import Derived.IntWalk
namespace Go.Proofs.YtnhpkefjmpgneaaDoor
open Go.RowKit

/-! ### the document's Digest -/
/-- In Digest's first loop. -/
structure DigSt (w W : World) (A0 : Option Addr) (nA c : Nat) (B0 : Option Addr) (nV d : Nat) (T : TypeId) (v : Value) (n : Nat) (xs : List Value) : Prop where
  st : W.heap[w.heap.size]? = some (.cells #[.slice A0 nA c, .slice B0 nV d] 50 (0, 0))
  own : W.ownsRow (w.heap.size + 1) T 3 v n xs
  below : Below w.heap.size w W
  lt : w.heap.size < W.heap.size
theorem DigSt.grow {w W W' : World} {A0 B0 : Option Addr} {nA c nV d n : Nat} {T : TypeId} {v : Value} {xs : List Value} (h : DigSt w W A0 nA c B0 nV d T v n xs) (hb : Below W.heap.size W W') : DigSt w W' A0 nA c B0 nV d T v n xs :=
  ⟨iter_call h.st hb, own_below h.own hb, below_call h.below h.below.size hb, Nat.lt_of_lt_of_le h.lt hb.size⟩
theorem DigSt.drewN {w W : World} {A0 B0 : Option Addr} {nA c nV d n : Nat} {T : TypeId} {v : Value} {xs : List Value} (h : DigSt w W A0 nA c B0 nV d T v n xs) (k : Nat) : DigSt w (W.drewN k) A0 nA c B0 nV d T v n xs := h.grow (belowN (Below.refl _ _) k)
theorem DigSt.drew {w W : World} {A0 B0 : Option Addr} {nA c nV d n : Nat} {T : TypeId} {v : Value} {xs : List Value} (h : DigSt w W A0 nA c B0 nV d T v n xs) : DigSt w W.drew A0 nA c B0 nV d T v n xs := ⟨h.st, h.own, h.below.drew, h.lt⟩
def lenV : Value → Nat
  | .slice _ n _ => n
  | _ => 0
theorem own_len {w : World} {base : Nat} {e : TypeId} {size : Nat} {v : Value} {n : Nat} {xs : List Value} (h : w.ownsRow base e size v n xs) : lenV v = n := by
  rcases h.2 with ⟨rfl, rfl⟩ | ⟨g, cap, cur, rfl, _⟩ <;> rfl
theorem bytesA {N : Nat} {A : Accs} {V : Vals} (h : Fit N A V) {x : ByteArray × (Int × Int)} (hx : x ∈ A) : x.1.size ≤ 1000 ∧ I64 x.2.1 ∧ I64 x.2.2 := h.keyA x hx
/-- The row's element k, where the row lies. -/
theorem own_rowA {w : World} {base n cap g : Nat} {T : TypeId} {L : Accs} (h : w.ownsRow base T 3 (.slice (some ⟨g, 0, none⟩) n cap) n (L.flatMap rowA)) (hn : L.length = n) (hl : n ≤ 1000000) {ad : Addr} (ha : ad = ⟨g, 0, none⟩) {k : Nat} (hk : k < L.length) {nm : ByteArray} {am no : Int} (hx : L[k] = (nm, (am, no))) :
    w.cell? (ad.add (k * 3)) = some (.string nm) ∧ w.cell? ⟨(ad.add (k * 3)).block, (ad.add (k * 3)).off + 1, none⟩ = some (.int .i64 am) ∧ w.cell? ⟨(ad.add (k * 3)).block, (ad.add (k * 3)).off + 2, none⟩ = some (.int .i64 no) := by
  obtain ⟨A1, c1, hv, hR⟩ := readsN_of_own h (fun y _ => rfl) hn (by decide) (by omega)
  obtain ⟨ad2, he, h0, h1, h2⟩ := rowA_at hR hk hx
  injection hv with h3 h4 h5
  rw [← h3] at he
  injection he with he
  rw [ha, he]
  exact ⟨h0, h1, h2⟩
theorem own_rowV {w : World} {base n cap g : Nat} {T : TypeId} {L : Vals} (h : w.ownsRow base T 3 (.slice (some ⟨g, 0, none⟩) n cap) n (L.flatMap rowV)) (hn : L.length = n) (hl : n ≤ 1000000) {ad : Addr} (ha : ad = ⟨g, 0, none⟩) {k : Nat} (hk : k < L.length) {a b v : ByteArray} (hx : L[k] = ((a, b), v)) :
    w.cell? (ad.add (k * 3)) = some (.string a) ∧ w.cell? ⟨(ad.add (k * 3)).block, (ad.add (k * 3)).off + 1, none⟩ = some (.string b) ∧ w.cell? ⟨(ad.add (k * 3)).block, (ad.add (k * 3)).off + 2, none⟩ = some (.string v) := by
  obtain ⟨A1, c1, hv, hR⟩ := readsN_of_own h (fun y _ => rfl) hn (by decide) (by omega)
  obtain ⟨ad2, he, h0, h1, h2⟩ := rowV_at hR hk hx
  injection hv with h3 h4 h5
  rw [← h3] at he
  injection he with he
  rw [ha, he]
  exact ⟨h0, h1, h2⟩
theorem rest_cells {α : Type} {row : α → List Value} {W : World} {base n cap g k : Nat} {T : TypeId} {L : List α} {ad : Addr} {A2 : Option Addr} (h : W.ownsRow base T 3 (.slice (some ⟨g, 0, none⟩) n cap) n (L.flatMap row)) (hr : ∀ x ∈ L, (row x).length = 3) (hn : L.length = n) (hc : n ≤ cap) (hk : k < n) (ha : ad = ⟨g, 0, none⟩)
    (hA : (if cap = k + 1 then some ad else some (ad.add ((k + 1) * 3))) = A2) : 0 < n - (k + 1) → ∃ a2, A2 = some a2 ∧ ∀ j u, ((L.drop (k + 1)).flatMap row)[j]? = some u → W.cell? (a2.add j) = some u := by
  intro hp
  rw [if_neg (by omega)] at hA
  exact ⟨_, hA.symm, by rw [ha]; exact (own_part h hr (k + 1) (by omega)).2⟩
theorem left_kept {W W3 : World} {base n cap g : Nat} {T : TypeId} {xs : List Value} (h : W.ownsRow base T 3 (.slice (some ⟨g, 0, none⟩) n cap) n xs) (hg3 : (W.alloc (.cells #[] T)).grownBy W3 (some W.heap.size)) : W3.ownsRow base T 3 (.slice (some ⟨g, 0, none⟩) n cap) n xs := by
  have hl := (h.lt g rfl).2
  refine World.ownsRow.kept (own_below h ((Below.refl _ _).alloc (Nat.le_refl _) _)) hg3 (.inr fun e => ?_)
  have : g = W.heap.size := Option.some.inj e
  omega
/-- What is left when one is taken away: the two appends. -/
theorem removed {w W W3 W4 : World} {A0 B0 : Option Addr} {nA c nV d n cap g m : Nat} {T : TypeId} {xs zs : List Value} {v1 v2 : Value} (h : DigSt w W A0 nA c B0 nV d T (.slice (some ⟨g, 0, none⟩) n cap) n xs) (hO : (W.alloc (.cells #[] T)).ownsRow (w.heap.size + 1) T 3 (.slice (some ⟨W.heap.size, 0, none⟩) 0 0) 0 []) (hg3 : (W.alloc (.cells #[] T)).grownBy W3 (some W.heap.size))
    {m3 : Nat} {ys : List Value} (h3 : W3.ownsRow (w.heap.size + 1) T 3 v1 m3 ys) (hg4 : W3.grownBy W4 v1.ownBlock) (h4 : W4.ownsRow (w.heap.size + 1) T 3 v2 m zs) : DigSt w W4 A0 nA c B0 nV d T v2 m zs :=
  ⟨low_grown h3 hg4 (low_grown hO hg3 (iter_alloc h.st _) (by omega)) (by omega), h4,
    below_grown (below_grown (h.below.alloc h.below.size _) (by have := h.below.size; simp; omega) hO (by omega) hg3) (by have := h.below.size; have := hg3.size; simp at this; omega) h3 (by omega) hg4,
    by have := h.lt; have h5 := hg3.size; have h6 := hg4.size; simp at h5; omega⟩
set_option maxHeartbeats 8000000 in
set_option maxRecDepth 100000 in
theorem refDigest_any (A : Accs) (A0 : Option Addr) (c : Nat) (V : Vals) (B0 : Option Addr) (d : Nat) (N : Nat) (hN : N ≤ 1000) (hF : Fit N A V) (hpos : ∀ x ∈ A, 0 ≤ x.2.1 ∧ 0 ≤ x.2.2) (w : World) (hr : ReadsN w A0 3 (A.map rowA)) (hv : ReadsN w B0 3 (V.map rowV)) :
    Calls Tryd.prog 55 #[.agg #[.slice A0 A.length c, .slice B0 V.length d]] w (Ret w (.string (digB A V))) := by
  obtain ⟨i0, hi, hz0, hz1, hz2⟩ := info_parts info_acc
  have HR := Lib.hid hr
  have HV := Lib.hid hv
  have hlA := hF.lenA
  have hlV := hF.lenV
  have HFIT := Lib.hid hF
  have HPOS := Lib.hid hpos
  have HD := Lib.hid (dig_sel hF.nodA hF.nodV)
  have hfl := Lib.hid (flat_len3 rowA 3 A fun _ _ => rfl)
  have hrow := Lib.hid (fun W (hb : Below w.heap.size w W) => readsN_flat (l := A) (readsN_below HR.out hb) (fun _ _ => rfl) (by decide))
  have HTOT2 : Hid (((sel ltA A).flatMap rline1 ++ (sel ltV V).flatMap rline2).length ≤ 140737488355328) := by
    have h := (hF.small (by omega)).total
    unfold digL at h
    rw [selA_line hF.nodA, selV_line hF.nodV]
    exact h
  have HTOT : Hid (((sel ltA A).flatMap rline1).length ≤ 140737488355328) := by have h := HTOT2.out; rw [List.length_append] at h; rw [Hid]; omega
  clear hr hv hF hpos
  go_enter Tryd.func55, Tryd.ntmps55
  have hO := World.ownsRow_lit (base := w.heap.size + 1) (e := 127) (size := 3) (w.alloc (.cells #[.slice A0 A.length c, .slice B0 V.length d] 50)) #[] 0 (by simp) (by simp) rfl
  rw [World.size_alloc] at hO
  have hb2 := Lib.hid (((Below.refl w.heap.size w).alloc (Nat.le_refl _) (.cells #[.slice A0 A.length c, .slice B0 V.length d] 50)).alloc (by simp) (.cells #[] 127))
  have g3 : 0 + A.length ≤ maxLen := by unfold maxLen; omega
  have g4 : (0 + A.length) * 32 ≤ 140737488355328 := by omega
  have g5 : w.heap.size + 1 ≤ ((w.alloc (.cells #[.slice A0 A.length c, .slice B0 V.length d] 50)).alloc (.cells #[] 127)).heap.size := by simp
  go_wp2_with (at_builtin; refine wpList_append_opt rfl _ _ 47 rfl (w.heap.size + 1) 127 i0 (.agg #[.string ⟨#[]⟩, .int .i64 0, .int .i64 0]) 3 32 Tryd.underlying47 hi hz0 hz1 hz2 rfl (by decide) _ _ _ rfl hO A0 A.length c (A.flatMap rowA) rfl hfl.out (hrow.out _ hb2.out) rowA_one g3 g4 g5 ?_)
  intro v0 w0 hown0 hgrow0
  have S0 : Hid (DigSt w w0 A0 A.length c B0 V.length d 127 v0 A.length (A.flatMap rowA)) :=
    ⟨low_grown hO hgrow0 (iter_alloc (heap_new w _) _) (by omega), by have := hown0; simpa using this, below_grown hb2.out (by simp; omega) hO (by omega) hgrow0, by have := hgrow0.size; simp at this; omega⟩
  clear hO hgrow0 hown0 hb2 hrow hfl
  go_wp2_with fail
  go_loopw [3, 4] (fun ov lv wr => ∃ (L : Accs) (s : List UInt8), ov = .string ⟨s.toArray⟩ ∧ L.length ≤ N ∧ Hid (DigSt w wr A0 A.length c B0 V.length d 127 lv L.length (L.flatMap rowA)) ∧ Hid (s ++ (sel ltA L).flatMap rline1 = (sel ltA A).flatMap rline1) ∧ Hid (∀ x ∈ L, x ∈ A)) (fun _ lv _ => lenV lv)
  case atStart => exact ⟨A, [], rfl, hlA, S0, rfl, fun x hx => hx⟩
  case round =>
    obtain ⟨L, s, rfl, hL, hS, hs, hin⟩ := hrel
    by_cases hpos : 0 < L.length
    · obtain ⟨g, cap, cur, rfl, hgb, hgh, hcap, hcm, hcs, hct⟩ : ∃ g cap cur, u4 = .slice (some ⟨g, 0, none⟩) L.length cap ∧ w.heap.size + 1 ≤ g ∧ wr.heap[g]? = some (.cells cur 127 (0, 0)) ∧ L.length ≤ cap ∧ cap ≤ maxLen ∧ cur.size = cap * 3 ∧ cur.toList.take (L.length * 3) = L.flatMap rowA := by
        rcases hS.out.own.2 with ⟨_, h0⟩ | h
        · omega
        · exact h
      obtain ⟨ad, had⟩ : ∃ ad : Addr, ad = ⟨g, 0, none⟩ := ⟨_, rfl⟩
      have HAD := Lib.hid had
      have HM0 := Lib.hid (minIdx_one ltA L hpos)
      rw [← had]
      clear hgh hcs hct had
      unfold maxLen at hcm
      go_wp2_with fail
      go_loopw [5, 6] (fun kv iv wi => ∃ i k : Nat, kv = .int .i64 k ∧ iv = .int .i64 i ∧ 1 ≤ i ∧ i ≤ L.length ∧ k < L.length ∧ Hid (minIdx ltA L i = k) ∧ Hid (DigSt w wi A0 A.length c B0 V.length d 127 (.slice (some ⟨g, 0, none⟩) L.length cap) L.length (L.flatMap rowA))) (fun _ iv _ => L.length - (intOf iv).toNat)
      case atStart => exact ⟨1, 0, rfl, rfl, by omega, by omega, hpos, HM0, hS⟩
      case round =>
        obtain ⟨i, k, rfl, rfl, hi1, hiL, hkL, hmin, hS2⟩ := hrel
        by_cases hlt : i < L.length
        · obtain ⟨n1, a1, o1, hx1⟩ : ∃ nm am no, L[i] = (nm, (am, no)) := ⟨_, _, _, rfl⟩
          obtain ⟨n2, a2, o2, hx2⟩ : ∃ nm am no, L[k] = (nm, (am, no)) := ⟨_, _, _, rfl⟩
          obtain ⟨p0, p1, p2⟩ := own_rowA hS2.out.own rfl (by omega) HAD.out hlt hx1
          obtain ⟨q0, q1, q2⟩ := own_rowA hS2.out.own rfl (by omega) HAD.out hkL hx2
          have hm := minIdx_step ltA (L := L) (by omega) hlt hmin.out hkL
          rw [hx1, hx2] at hm
          have HM := Lib.hid hm
          have z1 : n1.size ≤ 1000 := by have := (bytesA HFIT.out (hin.out _ (List.getElem_mem hlt))).1; rw [hx1] at this; exact this
          have z2 : n2.size ≤ 1000 := by have := (bytesA HFIT.out (hin.out _ (List.getElem_mem hkL))).1; rw [hx2] at this; exact this
          have y1 : (0 : Int) ≤ (i : Int) := by omega
          have y2 : (i : Int) < (L.length : Int) := by omega
          have y3 : (0 : Int) ≤ (k : Int) := by omega
          have y4 : (k : Int) < (L.length : Int) := by omega
          clear hm hx1 hx2 p1 p2 q1 q2
          go_wp2_with fail
          go_still_tail 10, (by kernel_rfl)
          change wpList _ _ _ _ _ wr.drew
          go_wp2_with fail
          refine (refLess_any n1 n2 (by omega) (by omega) _).mono ?_
          rintro e w1 ⟨rfl, hb⟩
          have S1 := Lib.hid ((hS2.out.drewN 1).grow hb)
          cases hl : lessB n1 n2
          · have HL : Hid (minIdx ltA L (i + 1) = k) := by rw [Hid, HM.out, if_neg (by unfold ltA; rw [hl]; decide)]
            clear hl hb
            go_wp2
            go_roundw
            case rel => exact ⟨i + 1, k, rfl, by go_num, by omega, by omega, hkL, HL, S1⟩
            case measure => simp [intOf]; omega
          · have HL : Hid (minIdx ltA L (i + 1) = i) := by rw [Hid, HM.out, if_pos (by unfold ltA; exact hl)]
            clear hl hb
            go_wp2
            go_roundw
            case rel => exact ⟨i + 1, i, rfl, by go_num, by omega, by omega, hlt, HL, S1⟩
            case measure => simp [intOf]; omega
        · obtain rfl : i = L.length := by omega
          obtain ⟨nm, am, no, hx⟩ : ∃ nm am no, L[k] = (nm, (am, no)) := ⟨_, _, _, rfl⟩
          obtain ⟨p0, p1, p2⟩ := own_rowA hS2.out.own rfl (by omega) HAD.out hkL hx
          have hsel := sel_cons ltA hmin.out hkL
          have hss := hs.out
          rw [hsel, hx, List.flatMap_cons, ← List.append_assoc] at hss
          have HSS := Lib.hid hss
          have y3 : (0 : Int) ≤ (k : Int) := by omega
          have y4 : (k : Int) < (L.length : Int) := by omega
          have y5 : (k : Int) ≤ (cap : Int) := by omega
          have y6 : (k : Int) + 1 ≤ (L.length : Int) := by omega
          have y7 : (L.length : Int) ≤ (cap : Int) := by omega
          have HE := Lib.hid (List.eraseIdx_eq_take_drop_succ (l := L) (i := k))
          have hel : Hid ((L.eraseIdx k).length = L.length - 1) := by rw [Hid, List.length_eraseIdx, if_pos hkL]
          have hX : Hid (L[k] = (nm, (am, no))) := hx
          clear hsel hss hx
          by_cases hzero : am = 0 ∧ no = 0
          · have HR1 : Hid (rline1 (nm, (am, no)) = []) := by unfold Hid rline1; rw [if_pos hzero]
            obtain ⟨rfl, rfl⟩ := hzero
            have hO := World.ownsRow_lit (base := w.heap.size + 1) (e := 127) (size := 3) wr.drew #[] 0 (by have := hS2.out.lt; simp; omega) (by simp) rfl
            have hO1 := Lib.hid hO
            have hp1 : Hid (0 < k → ∃ a, some ad = some a ∧ ∀ j u, ((L.take k).flatMap rowA)[j]? = some u → (wr.drew.alloc (.cells #[] 127)).cell? (a.add j) = some u) := fun _ => ⟨ad, rfl, by rw [HAD.out]; exact (own_part (own_below hS2.out.own ((Below.refl _ _).drew.alloc (by simp) (.cells #[] 127))) (fun _ _ => rfl) k (by omega)).1⟩
            have l1 := Lib.hid (flat_len3 rowA 3 (L.take k) fun _ _ => rfl)
            clear hO
            go_wp2_with fail
            have g1 : Hid (((L.take k).flatMap rowA).length = k * 3) := by rw [Hid, l1.out, List.length_take, Nat.min_eq_left (by omega)]
            have g2 : Hid (((L.drop (k + 1)).flatMap rowA).length = (L.length - (k + 1)) * 3) := by rw [Hid, flat_len3 rowA 3 _ fun _ _ => rfl, List.length_drop]
            have b1 : 0 + k ≤ maxLen := by unfold maxLen; omega
            have b2 : (0 + k) * 32 ≤ 140737488355328 := by omega
            have b3 : 0 + k + (L.length - (k + 1)) ≤ maxLen := by unfold maxLen; omega
            have b4 : (0 + k + (L.length - (k + 1))) * 32 ≤ 140737488355328 := by omega
            have b5 : Hid (w.heap.size + 1 ≤ (wr.drew.alloc (.cells #[] 127)).heap.size) := by have := hS2.out.lt; rw [Hid]; simp; omega
            obtain ⟨A2, hA2⟩ : ∃ A2, (if cap = k + 1 then some ad else some (ad.add ((k + 1) * 3))) = A2 := ⟨_, rfl⟩
            have HA2 := Lib.hid hA2
            have hcL : Hid (L.length ≤ cap) := hcap
            have hkL2 : Hid (k < L.length) := hkL
            have ew3 : (0 : Int) ≤ (k : Int) + 1 := by omega
            have ew2 : ((k : Int) + 1).toNat = k + 1 := by omega
            have ew1 : IntKind.i64.wrap ((k : Int) + 1) = (k : Int) + 1 := IntWalk.i64_in _ (by omega)
            go_region_law (first | (refine step_append_opt rfl (.tmp 75) (.tmp 78) 47 rfl (w.heap.size + 1) 127 i0 (.agg #[.string ⟨#[]⟩, .int .i64 0, .int .i64 0]) 3 32 Tryd.underlying47 hi hz0 hz1 hz2 rfl (by decide) _ _ _ ?_ hO1.out (some ad) k cap ((L.take k).flatMap rowA) ?_ g1.out hp1.out rowA_one b1 b2 b5.out ?_; simp [Act.eval, Act.put]; simp [Act.eval, Act.put]; intro v1 w3 hown3 hgrow3; have HO3 := Lib.hid hown3; have HG3 := Lib.hid hgrow3; have b6 := Lib.hid (Nat.le_trans b5.out hgrow3.size); have HL3 := Lib.hid (left_kept (W := wr.drew) hS2.out.drew.own hgrow3); clear hown3 hgrow3) | (refine step_append_opt rfl (.tmp 79) (.tmp 83) 47 rfl (w.heap.size + 1) 127 i0 (.agg #[.string ⟨#[]⟩, .int .i64 0, .int .i64 0]) 3 32 Tryd.underlying47 hi hz0 hz1 hz2 rfl (by decide) _ _ _ ?_ HO3.out A2 (L.length - (k + 1)) (cap - (k + 1)) ((L.drop (k + 1)).flatMap rowA) ?_ g2.out (rest_cells HL3.out (fun _ _ => rfl) rfl hcL.out hkL2.out HAD.out HA2.out) rowA_one b3 b4 b6.out ?_; simp [Act.eval, Act.put]; simp [Act.eval, Act.put]; intro v2 w4 hown4 hgrow4; have HO4 := Lib.hid hown4; have HG4 := Lib.hid hgrow4; clear hown4 hgrow4))
            all_goals
              have S4 := removed (W := wr.drew) hS2.out.drew hO1.out (show (wr.drew.alloc (.cells #[] 127)).grownBy w3 (some wr.drew.heap.size) from HG3.out) HO3.out HG4.out HO4.out
              clear ew1 ew2 ew3 hA2
              have e1 : 0 + k + (L.length - (k + 1)) = (L.eraseIdx k).length := by have := hel.out; omega
              have e2 : [] ++ (L.take k).flatMap rowA ++ (L.drop (k + 1)).flatMap rowA = (L.eraseIdx k).flatMap rowA := by rw [HE.out, List.flatMap_append, List.nil_append]
              rw [e1, e2] at S4
              have S5 := Lib.hid S4
              have hlen := own_len S4.own
              have hml : (L.eraseIdx k).length < L.length := by have := hel.out; omega
              have HLN := Lib.hid hlen
              clear S4 e1 e2 hlen
              go_simp
              go_wp2
              go_roundw
              case rel => exact ⟨L.eraseIdx k, s, rfl, by omega, S5, by have := HSS.out; rw [HR1.out, List.append_nil] at this; exact this, fun x hx => hin.out x (List.mem_of_mem_eraseIdx hx)⟩
              case measure => rw [HLN.out]; simpa [lenV] using hml
          · have HR1 : Hid (rline1 (nm, (am, no)) = (nm ++ ⟨#[32]⟩ ++ printB am ++ ⟨#[32]⟩ ++ printB no ++ ⟨#[10]⟩).data.toList) := by unfold Hid rline1; rw [if_neg hzero]
            have hmem := hin.out _ (hX.out ▸ List.getElem_mem hkL)
            obtain ⟨z1, z2, z3⟩ := bytesA HFIT.out hmem
            obtain ⟨z4, z5⟩ := HPOS.out _ hmem
            dsimp only at z1 z2 z3 z4 z5
            obtain ⟨an, rfl⟩ : ∃ an : Nat, am = (an : Int) := ⟨am.toNat, by omega⟩
            obtain ⟨on, rfl⟩ : ∃ on : Nat, no = (on : Int) := ⟨no.toNat, by omega⟩
            have hP1 := Lib.hid (fun W => refPrint_nat an (by unfold I64 at z2; omega) W)
            have hP2 := Lib.hid (fun W => refPrint_nat on (by unfold I64 at z3; omega) W)
            have htot := HTOT.out
            rw [← HSS.out, HR1.out, List.length_append, List.length_append] at htot
            have z6 : ((⟨s.toArray⟩ : ByteArray) ++ nm ++ ⟨#[32]⟩ ++ printB (an : Int) ++ ⟨#[32]⟩ ++ printB (on : Int) ++ ⟨#[10]⟩).size ≤ 140737488355328 := by
              rw [list_size] at htot
              simp only [ByteArray.size_append] at htot ⊢
              have h1 : (⟨s.toArray⟩ : ByteArray).size = s.length := rfl
              rw [h1]
              omega
            have HNEW : Hid ((⟨s.toArray⟩ : ByteArray) ++ nm ++ ⟨#[32]⟩ ++ printB (an : Int) ++ ⟨#[32]⟩ ++ printB (on : Int) ++ ⟨#[10]⟩ = ⟨(s ++ rline1 (nm, ((an : Int), (on : Int)))).toArray⟩) := by
              rw [Hid, HR1.out]
              ext1
              simp
            have s6 := addS _ _ z6
            have s5 := addS _ _ (le_left z6)
            have s4 := addS _ _ (le_left (le_left z6))
            have s3 := addS _ _ (le_left (le_left (le_left z6)))
            have s2 := addS _ _ (le_left (le_left (le_left (le_left z6))))
            have s1 := addS _ _ (le_left (le_left (le_left (le_left (le_left z6)))))
            clear htot z6 z1 z2 z3 z4 z5 hmem
            rcases (show an ≠ 0 ∨ (an = 0 ∧ on ≠ 0) by omega) with hq | ⟨hq, hq2⟩
            all_goals
              first
                | (have e1 : ((an : Int) != 0) = true := by simp; omega)
                | (have e1 : ((an : Int) != 0) = false := by simp; omega
                   have e2 : ((on : Int) != 0) = true := by simp; omega)
              try clear hq2
              clear hzero hq
              go_wp2_with fail
              go_region_held3 (fun W => W.cell? (ad.add (k * 3)) = some (.string nm) ∧ W.cell? ⟨(ad.add (k * 3)).block, (ad.add (k * 3)).off + 1, none⟩ = some (.int .i64 (an : Int)) ∧ W.cell? ⟨(ad.add (k * 3)).block, (ad.add (k * 3)).off + 2, none⟩ = some (.int .i64 (on : Int))) (first | (go_keep; done) | exact ⟨r0, r1, r2⟩ | exact ⟨q0, q1, q2⟩) ((first | (go_at_call 85; ((with_reducible refine (hP1.out _).mono ?_)); rintro e x1 ⟨rfl, hb⟩; have T1 := Lib.hid (hS2.out.drew.grow hb); have q0 := (hb.cell (World.block_lt_of_cell? wr _ p0)).trans p0; have q1 := (hb.cell (World.block_lt_of_cell? wr _ p1)).trans p1; have q2 := (hb.cell (World.block_lt_of_cell? wr _ p2)).trans p2; clear hb) | (go_at_call 85; ((with_reducible refine (hP2.out _).mono ?_)); rintro e x2 ⟨rfl, hb⟩; have hS3 := Lib.hid (T1.out.grow hb); have r0 := (hb.cell (World.block_lt_of_cell? x1 _ q0)).trans q0; have r1 := (hb.cell (World.block_lt_of_cell? x1 _ q1)).trans q1; have r2 := (hb.cell (World.block_lt_of_cell? x1 _ q2)).trans q2; clear hb)))
              all_goals
                clear s1 s2 s3 s4 s5 s6 p0 p1 p2 q0 q1 q2 r0 r1 r2 T1
                have hO := World.ownsRow_lit (base := w.heap.size + 1) (e := 127) (size := 3) x2.drew #[] 0 (by have := hS3.out.lt; simp; omega) (by simp) rfl
                have hO1 := Lib.hid hO
                have hp1 : Hid (0 < k → ∃ a, some ad = some a ∧ ∀ j u, ((L.take k).flatMap rowA)[j]? = some u → (x2.drew.alloc (.cells #[] 127)).cell? (a.add j) = some u) := fun _ => ⟨ad, rfl, by rw [HAD.out]; exact (own_part (own_below hS3.out.own ((Below.refl _ _).drew.alloc (by simp) (.cells #[] 127))) (fun _ _ => rfl) k (by omega)).1⟩
                have l1 := Lib.hid (flat_len3 rowA 3 (L.take k) fun _ _ => rfl)
                clear hO
                go_wp2_with fail
                have g1 : Hid (((L.take k).flatMap rowA).length = k * 3) := by rw [Hid, l1.out, List.length_take, Nat.min_eq_left (by omega)]
                have g2 : Hid (((L.drop (k + 1)).flatMap rowA).length = (L.length - (k + 1)) * 3) := by rw [Hid, flat_len3 rowA 3 _ fun _ _ => rfl, List.length_drop]
                have b1 : 0 + k ≤ maxLen := by unfold maxLen; omega
                have b2 : (0 + k) * 32 ≤ 140737488355328 := by omega
                have b3 : 0 + k + (L.length - (k + 1)) ≤ maxLen := by unfold maxLen; omega
                have b4 : (0 + k + (L.length - (k + 1))) * 32 ≤ 140737488355328 := by omega
                have b5 : Hid (w.heap.size + 1 ≤ (x2.drew.alloc (.cells #[] 127)).heap.size) := by have := hS3.out.lt; rw [Hid]; simp; omega
                obtain ⟨A2, hA2⟩ : ∃ A2, (if cap = k + 1 then some ad else some (ad.add ((k + 1) * 3))) = A2 := ⟨_, rfl⟩
                have HA2 := Lib.hid hA2
                have hcL : Hid (L.length ≤ cap) := hcap
                have hkL2 : Hid (k < L.length) := hkL
                have ew3 : (0 : Int) ≤ (k : Int) + 1 := by omega
                have ew2 : ((k : Int) + 1).toNat = k + 1 := by omega
                have ew1 : IntKind.i64.wrap ((k : Int) + 1) = (k : Int) + 1 := IntWalk.i64_in _ (by omega)
                go_region_law (first | (refine step_append_opt rfl (.tmp 75) (.tmp 78) 47 rfl (w.heap.size + 1) 127 i0 (.agg #[.string ⟨#[]⟩, .int .i64 0, .int .i64 0]) 3 32 Tryd.underlying47 hi hz0 hz1 hz2 rfl (by decide) _ _ _ ?_ hO1.out (some ad) k cap ((L.take k).flatMap rowA) ?_ g1.out hp1.out rowA_one b1 b2 b5.out ?_; simp [Act.eval, Act.put]; simp [Act.eval, Act.put]; intro v1 w3 hown3 hgrow3; have HO3 := Lib.hid hown3; have HG3 := Lib.hid hgrow3; have b6 := Lib.hid (Nat.le_trans b5.out hgrow3.size); have HL3 := Lib.hid (left_kept (W := x2.drew) hS3.out.drew.own hgrow3); clear hown3 hgrow3) | (refine step_append_opt rfl (.tmp 79) (.tmp 83) 47 rfl (w.heap.size + 1) 127 i0 (.agg #[.string ⟨#[]⟩, .int .i64 0, .int .i64 0]) 3 32 Tryd.underlying47 hi hz0 hz1 hz2 rfl (by decide) _ _ _ ?_ HO3.out A2 (L.length - (k + 1)) (cap - (k + 1)) ((L.drop (k + 1)).flatMap rowA) ?_ g2.out (rest_cells HL3.out (fun _ _ => rfl) rfl hcL.out hkL2.out HAD.out HA2.out) rowA_one b3 b4 b6.out ?_; simp [Act.eval, Act.put]; simp [Act.eval, Act.put]; intro v2 w4 hown4 hgrow4; have HO4 := Lib.hid hown4; have HG4 := Lib.hid hgrow4; clear hown4 hgrow4))
                all_goals
                  have S4 := removed (W := x2.drew) hS3.out.drew hO1.out (show (x2.drew.alloc (.cells #[] 127)).grownBy w3 (some x2.drew.heap.size) from HG3.out) HO3.out HG4.out HO4.out
                  clear ew1 ew2 ew3 hA2
                  have e1 : 0 + k + (L.length - (k + 1)) = (L.eraseIdx k).length := by have := hel.out; omega
                  have e2 : [] ++ (L.take k).flatMap rowA ++ (L.drop (k + 1)).flatMap rowA = (L.eraseIdx k).flatMap rowA := by rw [HE.out, List.flatMap_append, List.nil_append]
                  rw [e1, e2] at S4
                  have S5 := Lib.hid S4
                  have hlen := own_len S4.own
                  have hml : (L.eraseIdx k).length < L.length := by have := hel.out; omega
                  have HLN := Lib.hid hlen
                  clear S4 e1 e2 hlen
                  go_simp
                  go_wp2
                  go_roundw
                  case rel => exact ⟨L.eraseIdx k, s ++ rline1 (nm, ((an : Int), (on : Int))), by rw [← HNEW.out], by omega, S5, HSS.out, fun x hx => hin.out x (List.mem_of_mem_eraseIdx hx)⟩
                  case measure => rw [HLN.out]; simpa [lenV] using hml
    · have hL0 : L = [] := List.eq_nil_of_length_eq_zero (by omega)
      subst hL0
      have HSA : Hid (s = (sel ltA A).flatMap rline1) := by have := hs.out; rw [sel_nil, List.flatMap_nil, List.append_nil] at this; exact this
      obtain ⟨j0, hj, hy0, hy1, hy2⟩ := info_parts info_val
      have hlen0 : lenV u4 = 0 := own_len hS.out.own
      obtain ⟨A9, c9, hu4⟩ : ∃ A9 c9, u4 = .slice A9 0 c9 := by
        rcases hS.out.own.2 with ⟨rfl, _⟩ | ⟨g, cap, cur, rfl, _⟩
        · exact ⟨none, 0, rfl⟩
        · exact ⟨_, _, rfl⟩
      have hst := hS.out.st
      have hbel := hS.out.below
      have hltw := hS.out.lt
      subst hu4
      clear hS hs hin hpos hlen0 S0
      have c1 : wr.cell? ⟨w.heap.size, 1, none⟩ = some (.slice B0 V.length d) := cell_at hst 1
      have hO := World.ownsRow_lit (base := w.heap.size + 1) (e := 130) (size := 3) wr #[] 0 (by omega) (by simp) rfl
      have hb2 := Lib.hid (hbel.alloc hbel.size (.cells #[] 130))
      have hfl := Lib.hid (flat_len3 rowV 3 V fun _ _ => rfl)
      have hrow := Lib.hid (fun W (hb : Below w.heap.size w W) => readsN_flat (l := V) (readsN_below HV.out hb) (fun _ _ => rfl) (by decide))
      have g6 : 0 + V.length ≤ maxLen := by unfold maxLen; omega
      have g7 : (0 + V.length) * 48 ≤ 140737488355328 := by omega
      have g8 : w.heap.size + 1 ≤ (wr.alloc (.cells #[] 130)).heap.size := by simp; omega
      have HST := Lib.hid hst
      have HBL := Lib.hid hbel
      clear hst hbel
      go_wp2_with (at_builtin; refine wpList_append_opt rfl _ _ 48 rfl (w.heap.size + 1) 130 j0 (.agg #[.string ⟨#[]⟩, .string ⟨#[]⟩, .string ⟨#[]⟩]) 3 48 Tryd.underlying48 hj hy0 hy1 hy2 rfl (by decide) _ _ _ rfl hO B0 V.length d (V.flatMap rowV) rfl hfl.out (hrow.out _ hb2.out) rowV_one g6 g7 g8 ?_)
      intro v0 w1 hown0 hgrow0
      have S0 : Hid (DigSt w w1 A0 A.length c B0 V.length d 130 v0 V.length (V.flatMap rowV)) :=
        ⟨low_grown hO hgrow0 (iter_alloc HST.out _) (by omega), by have := hown0; simpa using this, below_grown hb2.out (by simp; omega) hO (by omega) hgrow0, by have := hgrow0.size; simp at this; omega⟩
      clear hO hgrow0 hown0 hb2 hrow hfl c1 HST HBL hltw
      go_wp2_with fail
      go_loopw [3, 7] (fun ov lv wr => ∃ (L : Vals) (s : List UInt8), ov = .string ⟨s.toArray⟩ ∧ L.length ≤ N ∧ Hid (DigSt w wr A0 A.length c B0 V.length d 130 lv L.length (L.flatMap rowV)) ∧ Hid (s ++ (sel ltV L).flatMap rline2 = (sel ltA A).flatMap rline1 ++ (sel ltV V).flatMap rline2) ∧ Hid (∀ x ∈ L, x ∈ V)) (fun _ lv _ => lenV lv)
      case atStart => exact ⟨V, s, rfl, hlV, S0, by rw [Hid, HSA.out], fun x hx => hx⟩
      case round =>
        obtain ⟨L, s, rfl, hL, hS, hs, hin⟩ := hrel
        by_cases hpos : 0 < L.length
        · obtain ⟨g, cap, cur, rfl, hgb, hgh, hcap, hcm, hcs, hct⟩ : ∃ g cap cur, u7 = .slice (some ⟨g, 0, none⟩) L.length cap ∧ w.heap.size + 1 ≤ g ∧ wr.heap[g]? = some (.cells cur 130 (0, 0)) ∧ L.length ≤ cap ∧ cap ≤ maxLen ∧ cur.size = cap * 3 ∧ cur.toList.take (L.length * 3) = L.flatMap rowV := by
            rcases hS.out.own.2 with ⟨_, h0⟩ | h
            · omega
            · exact h
          obtain ⟨ad, had⟩ : ∃ ad : Addr, ad = ⟨g, 0, none⟩ := ⟨_, rfl⟩
          have HAD := Lib.hid had
          have HM0 := Lib.hid (minIdx_one ltV L hpos)
          rw [← had]
          clear hgh hcs hct had
          unfold maxLen at hcm
          go_wp2_with fail
          go_loopw [8, 9] (fun kv iv wi => ∃ i k : Nat, kv = .int .i64 k ∧ iv = .int .i64 i ∧ 1 ≤ i ∧ i ≤ L.length ∧ k < L.length ∧ Hid (minIdx ltV L i = k) ∧ Hid (DigSt w wi A0 A.length c B0 V.length d 130 (.slice (some ⟨g, 0, none⟩) L.length cap) L.length (L.flatMap rowV))) (fun _ iv _ => L.length - (intOf iv).toNat)
          case atStart => exact ⟨1, 0, rfl, rfl, by omega, by omega, hpos, HM0, hS⟩
          case round =>
            obtain ⟨i, k, rfl, rfl, hi1, hiL, hkL, hmin, hS2⟩ := hrel
            by_cases hlt : i < L.length
            · obtain ⟨n1, m1, v1, hx1⟩ : ∃ a b v, L[i] = ((a, b), v) := ⟨_, _, _, rfl⟩
              obtain ⟨n2, m2, v2, hx2⟩ : ∃ a b v, L[k] = ((a, b), v) := ⟨_, _, _, rfl⟩
              obtain ⟨p0, p1, p2⟩ := own_rowV hS2.out.own rfl (by omega) HAD.out hlt hx1
              obtain ⟨q0, q1, q2⟩ := own_rowV hS2.out.own rfl (by omega) HAD.out hkL hx2
              have hm := minIdx_step ltV (L := L) (by omega) hlt hmin.out hkL
              rw [hx1, hx2] at hm
              have HM := Lib.hid hm
              obtain ⟨z1, z2, -⟩ : n1.size ≤ 1000 ∧ m1.size ≤ 1000 ∧ v1.size ≤ 1000 := by have := HFIT.out.keyV _ (hin.out _ (List.getElem_mem hlt)); rw [hx1] at this; exact this
              obtain ⟨z3, z4, -⟩ : n2.size ≤ 1000 ∧ m2.size ≤ 1000 ∧ v2.size ≤ 1000 := by have := HFIT.out.keyV _ (hin.out _ (List.getElem_mem hkL)); rw [hx2] at this; exact this
              have y1 : (0 : Int) ≤ (i : Int) := by omega
              have y2 : (i : Int) < (L.length : Int) := by omega
              have y3 : (0 : Int) ≤ (k : Int) := by omega
              have y4 : (k : Int) < (L.length : Int) := by omega
              clear hm hx1 hx2
              go_wp2_with fail
              have nn0 := World.new_ne wr _ p0
              have nn1 := World.new_ne wr _ p1
              have nn2 := World.new_ne wr _ p2
              have nn3 := World.new_ne wr _ q0
              have nn4 := World.new_ne wr _ q1
              have nn5 := World.new_ne wr _ q2
              go_region_held3 (fun W => W.cell? (ad.add (i * 3)) = some (.string n1) ∧ W.cell? ⟨(ad.add (i * 3)).block, (ad.add (i * 3)).off + 1, none⟩ = some (.string m1) ∧ W.cell? ⟨(ad.add (i * 3)).block, (ad.add (i * 3)).off + 2, none⟩ = some (.string v1) ∧ W.cell? (ad.add (k * 3)) = some (.string n2) ∧ W.cell? ⟨(ad.add (k * 3)).block, (ad.add (k * 3)).off + 1, none⟩ = some (.string m2) ∧ W.cell? ⟨(ad.add (k * 3)).block, (ad.add (k * 3)).off + 2, none⟩ = some (.string v2)) (go_keep) (fail)
              · have hb0 : Below wr.heap.size wr (((wr.alloc (.cells #[.string n1, .string m1, .string v1] 130)).alloc (.cells #[.string n2, .string m2, .string v2] 130)).drew) := (((Below.refl _ _).alloc (Nat.le_refl _) _).alloc (by simp) _).drew
                obtain ⟨h1, h2⟩ := heap_two wr (.cells #[.string n1, .string m1, .string v1] 130) (.cells #[.string n2, .string m2, .string v2] 130)
                have X0 : Hid ((((wr.alloc (.cells #[.string n1, .string m1, .string v1] 130)).alloc (.cells #[.string n2, .string m2, .string v2] 130)).drew).heap[wr.heap.size]? = some (.cells #[.string n1, .string m1, .string v1] 130)) := h1
                have Y0 : Hid ((((wr.alloc (.cells #[.string n1, .string m1, .string v1] 130)).alloc (.cells #[.string n2, .string m2, .string v2] 130)).drew).heap[wr.heap.size + 1]? = some (.cells #[.string n2, .string m2, .string v2] 130)) := h2
                have SS := Lib.hid (hS2.out.grow hb0)
                have k0 : (((wr.alloc (.cells #[.string n1, .string m1, .string v1] 130)).alloc (.cells #[.string n2, .string m2, .string v2] 130)).drew).cell? ⟨wr.heap.size, 0, none⟩ = some (.string n1) := cell_at X0.out 0
                have k1 : (((wr.alloc (.cells #[.string n1, .string m1, .string v1] 130)).alloc (.cells #[.string n2, .string m2, .string v2] 130)).drew).cell? ⟨wr.heap.size + 1, 0, none⟩ = some (.string n2) := cell_at Y0.out 0
                clear hb0 h1 h2 nn0 nn1 nn2 nn3 nn4 nn5 p0 p1 p2 q0 q1 q2
                by_cases hn : n1 = n2
                · subst hn
                  have HIR := Lib.hid (lessB_irrefl n1)
                  have e1 := eq_bytes (rfl : n1 = n1)
                  cases hl : lessB m1 m2
                  · have HLL := Lib.hid hl
                    have HL : Hid (minIdx ltV L (i + 1) = k) := by rw [Hid, HM.out, if_neg (by unfold ltV lessP; simp [hl])]
                    clear hl
                    go_wp2_with (first | (go_at_call 84; ((with_reducible refine (refLess_any n1 n1 (by omega) (by omega) _).mono ?_)); rintro e x1 ⟨rfl, hb⟩; rw [HIR.out]; have S2 := Lib.hid (SS.out.grow hb); have X1 := Lib.hid (iter_call X0.out hb); have Y1 := Lib.hid (iter_call Y0.out hb); have k0 : x1.cell? ⟨wr.heap.size, 0, none⟩ = some (.string n1) := cell_at X1.out 0; have k1 : x1.cell? ⟨wr.heap.size + 1, 0, none⟩ = some (.string n1) := cell_at Y1.out 0; have k2 : x1.cell? ⟨wr.heap.size, 1, none⟩ = some (.string m1) := cell_at X1.out 1; have k3 : x1.cell? ⟨wr.heap.size + 1, 1, none⟩ = some (.string m2) := cell_at Y1.out 1; clear hb) | (go_at_call 84; ((with_reducible refine (refLess_any m1 m2 (by omega) (by omega) _).mono ?_)); rintro e x2 ⟨rfl, hb⟩; rw [HLL.out]; have S3 := Lib.hid (S2.out.grow hb); clear hb))
                    go_roundw
                    case rel => exact ⟨i + 1, k, rfl, by go_num, by omega, by omega, hkL, HL, S3⟩
                    case measure => simp [intOf]; omega
                  · have HLL := Lib.hid hl
                    have HL : Hid (minIdx ltV L (i + 1) = i) := by rw [Hid, HM.out, if_pos (by unfold ltV lessP; simp [hl])]
                    clear hl
                    go_wp2_with (first | (go_at_call 84; ((with_reducible refine (refLess_any n1 n1 (by omega) (by omega) _).mono ?_)); rintro e x1 ⟨rfl, hb⟩; rw [HIR.out]; have S2 := Lib.hid (SS.out.grow hb); have X1 := Lib.hid (iter_call X0.out hb); have Y1 := Lib.hid (iter_call Y0.out hb); have k0 : x1.cell? ⟨wr.heap.size, 0, none⟩ = some (.string n1) := cell_at X1.out 0; have k1 : x1.cell? ⟨wr.heap.size + 1, 0, none⟩ = some (.string n1) := cell_at Y1.out 0; have k2 : x1.cell? ⟨wr.heap.size, 1, none⟩ = some (.string m1) := cell_at X1.out 1; have k3 : x1.cell? ⟨wr.heap.size + 1, 1, none⟩ = some (.string m2) := cell_at Y1.out 1; clear hb) | (go_at_call 84; ((with_reducible refine (refLess_any m1 m2 (by omega) (by omega) _).mono ?_)); rintro e x2 ⟨rfl, hb⟩; rw [HLL.out]; have S3 := Lib.hid (S2.out.grow hb); clear hb))
                    go_roundw
                    case rel => exact ⟨i + 1, i, rfl, by go_num, by omega, by omega, hlt, HL, S3⟩
                    case measure => simp [intOf]; omega
                · have e1 := ne_bytes hn
                  cases hl : lessB n1 n2
                  · have HIR := Lib.hid hl
                    have HL : Hid (minIdx ltV L (i + 1) = k) := by rw [Hid, HM.out, if_neg (by unfold ltV lessP; simp [hl, hn])]
                    clear hl hn
                    go_wp2_with (first | (go_at_call 84; ((with_reducible refine (refLess_any n1 n2 (by omega) (by omega) _).mono ?_)); rintro e x1 ⟨rfl, hb⟩; rw [HIR.out]; have S2 := Lib.hid (SS.out.grow hb); have X1 := Lib.hid (iter_call X0.out hb); have Y1 := Lib.hid (iter_call Y0.out hb); have k0 : x1.cell? ⟨wr.heap.size, 0, none⟩ = some (.string n1) := cell_at X1.out 0; have k1 : x1.cell? ⟨wr.heap.size + 1, 0, none⟩ = some (.string n2) := cell_at Y1.out 0; have k2 : x1.cell? ⟨wr.heap.size, 1, none⟩ = some (.string m1) := cell_at X1.out 1; have k3 : x1.cell? ⟨wr.heap.size + 1, 1, none⟩ = some (.string m2) := cell_at Y1.out 1; clear hb))
                    go_roundw
                    case rel => exact ⟨i + 1, k, rfl, by go_num, by omega, by omega, hkL, HL, S2⟩
                    case measure => simp [intOf]; omega
                  · have HIR := Lib.hid hl
                    have HL : Hid (minIdx ltV L (i + 1) = i) := by rw [Hid, HM.out, if_pos (by unfold ltV lessP; simp [hl, hn])]
                    clear hl hn
                    go_wp2_with (first | (go_at_call 84; ((with_reducible refine (refLess_any n1 n2 (by omega) (by omega) _).mono ?_)); rintro e x1 ⟨rfl, hb⟩; rw [HIR.out]; have S2 := Lib.hid (SS.out.grow hb); have X1 := Lib.hid (iter_call X0.out hb); have Y1 := Lib.hid (iter_call Y0.out hb); have k0 : x1.cell? ⟨wr.heap.size, 0, none⟩ = some (.string n1) := cell_at X1.out 0; have k1 : x1.cell? ⟨wr.heap.size + 1, 0, none⟩ = some (.string n2) := cell_at Y1.out 0; have k2 : x1.cell? ⟨wr.heap.size, 1, none⟩ = some (.string m1) := cell_at X1.out 1; have k3 : x1.cell? ⟨wr.heap.size + 1, 1, none⟩ = some (.string m2) := cell_at Y1.out 1; clear hb))
                    go_roundw
                    case rel => exact ⟨i + 1, i, rfl, by go_num, by omega, by omega, hlt, HL, S2⟩
                    case measure => simp [intOf]; omega
              · have hb0 : Below wr.heap.size wr (((wr.alloc (.cells #[.string n2, .string m2, .string v2] 130)).alloc (.cells #[.string n1, .string m1, .string v1] 130)).drew) := (((Below.refl _ _).alloc (Nat.le_refl _) _).alloc (by simp) _).drew
                obtain ⟨h1, h2⟩ := heap_two wr (.cells #[.string n2, .string m2, .string v2] 130) (.cells #[.string n1, .string m1, .string v1] 130)
                have X0 : Hid ((((wr.alloc (.cells #[.string n2, .string m2, .string v2] 130)).alloc (.cells #[.string n1, .string m1, .string v1] 130)).drew).heap[wr.heap.size + 1]? = some (.cells #[.string n1, .string m1, .string v1] 130)) := h2
                have Y0 : Hid ((((wr.alloc (.cells #[.string n2, .string m2, .string v2] 130)).alloc (.cells #[.string n1, .string m1, .string v1] 130)).drew).heap[wr.heap.size]? = some (.cells #[.string n2, .string m2, .string v2] 130)) := h1
                have SS := Lib.hid (hS2.out.grow hb0)
                have k0 : (((wr.alloc (.cells #[.string n2, .string m2, .string v2] 130)).alloc (.cells #[.string n1, .string m1, .string v1] 130)).drew).cell? ⟨wr.heap.size + 1, 0, none⟩ = some (.string n1) := cell_at X0.out 0
                have k1 : (((wr.alloc (.cells #[.string n2, .string m2, .string v2] 130)).alloc (.cells #[.string n1, .string m1, .string v1] 130)).drew).cell? ⟨wr.heap.size, 0, none⟩ = some (.string n2) := cell_at Y0.out 0
                clear hb0 h1 h2 nn0 nn1 nn2 nn3 nn4 nn5 p0 p1 p2 q0 q1 q2
                by_cases hn : n1 = n2
                · subst hn
                  have HIR := Lib.hid (lessB_irrefl n1)
                  have e1 := eq_bytes (rfl : n1 = n1)
                  cases hl : lessB m1 m2
                  · have HLL := Lib.hid hl
                    have HL : Hid (minIdx ltV L (i + 1) = k) := by rw [Hid, HM.out, if_neg (by unfold ltV lessP; simp [hl])]
                    clear hl
                    go_wp2_with (first | (go_at_call 84; ((with_reducible refine (refLess_any n1 n1 (by omega) (by omega) _).mono ?_)); rintro e x1 ⟨rfl, hb⟩; rw [HIR.out]; have S2 := Lib.hid (SS.out.grow hb); have X1 := Lib.hid (iter_call X0.out hb); have Y1 := Lib.hid (iter_call Y0.out hb); have k0 : x1.cell? ⟨wr.heap.size + 1, 0, none⟩ = some (.string n1) := cell_at X1.out 0; have k1 : x1.cell? ⟨wr.heap.size, 0, none⟩ = some (.string n1) := cell_at Y1.out 0; have k2 : x1.cell? ⟨wr.heap.size + 1, 1, none⟩ = some (.string m1) := cell_at X1.out 1; have k3 : x1.cell? ⟨wr.heap.size, 1, none⟩ = some (.string m2) := cell_at Y1.out 1; clear hb) | (go_at_call 84; ((with_reducible refine (refLess_any m1 m2 (by omega) (by omega) _).mono ?_)); rintro e x2 ⟨rfl, hb⟩; rw [HLL.out]; have S3 := Lib.hid (S2.out.grow hb); clear hb))
                    go_roundw
                    case rel => exact ⟨i + 1, k, rfl, by go_num, by omega, by omega, hkL, HL, S3⟩
                    case measure => simp [intOf]; omega
                  · have HLL := Lib.hid hl
                    have HL : Hid (minIdx ltV L (i + 1) = i) := by rw [Hid, HM.out, if_pos (by unfold ltV lessP; simp [hl])]
                    clear hl
                    go_wp2_with (first | (go_at_call 84; ((with_reducible refine (refLess_any n1 n1 (by omega) (by omega) _).mono ?_)); rintro e x1 ⟨rfl, hb⟩; rw [HIR.out]; have S2 := Lib.hid (SS.out.grow hb); have X1 := Lib.hid (iter_call X0.out hb); have Y1 := Lib.hid (iter_call Y0.out hb); have k0 : x1.cell? ⟨wr.heap.size + 1, 0, none⟩ = some (.string n1) := cell_at X1.out 0; have k1 : x1.cell? ⟨wr.heap.size, 0, none⟩ = some (.string n1) := cell_at Y1.out 0; have k2 : x1.cell? ⟨wr.heap.size + 1, 1, none⟩ = some (.string m1) := cell_at X1.out 1; have k3 : x1.cell? ⟨wr.heap.size, 1, none⟩ = some (.string m2) := cell_at Y1.out 1; clear hb) | (go_at_call 84; ((with_reducible refine (refLess_any m1 m2 (by omega) (by omega) _).mono ?_)); rintro e x2 ⟨rfl, hb⟩; rw [HLL.out]; have S3 := Lib.hid (S2.out.grow hb); clear hb))
                    go_roundw
                    case rel => exact ⟨i + 1, i, rfl, by go_num, by omega, by omega, hlt, HL, S3⟩
                    case measure => simp [intOf]; omega
                · have e1 := ne_bytes hn
                  cases hl : lessB n1 n2
                  · have HIR := Lib.hid hl
                    have HL : Hid (minIdx ltV L (i + 1) = k) := by rw [Hid, HM.out, if_neg (by unfold ltV lessP; simp [hl, hn])]
                    clear hl hn
                    go_wp2_with (first | (go_at_call 84; ((with_reducible refine (refLess_any n1 n2 (by omega) (by omega) _).mono ?_)); rintro e x1 ⟨rfl, hb⟩; rw [HIR.out]; have S2 := Lib.hid (SS.out.grow hb); have X1 := Lib.hid (iter_call X0.out hb); have Y1 := Lib.hid (iter_call Y0.out hb); have k0 : x1.cell? ⟨wr.heap.size + 1, 0, none⟩ = some (.string n1) := cell_at X1.out 0; have k1 : x1.cell? ⟨wr.heap.size, 0, none⟩ = some (.string n2) := cell_at Y1.out 0; have k2 : x1.cell? ⟨wr.heap.size + 1, 1, none⟩ = some (.string m1) := cell_at X1.out 1; have k3 : x1.cell? ⟨wr.heap.size, 1, none⟩ = some (.string m2) := cell_at Y1.out 1; clear hb))
                    go_roundw
                    case rel => exact ⟨i + 1, k, rfl, by go_num, by omega, by omega, hkL, HL, S2⟩
                    case measure => simp [intOf]; omega
                  · have HIR := Lib.hid hl
                    have HL : Hid (minIdx ltV L (i + 1) = i) := by rw [Hid, HM.out, if_pos (by unfold ltV lessP; simp [hl, hn])]
                    clear hl hn
                    go_wp2_with (first | (go_at_call 84; ((with_reducible refine (refLess_any n1 n2 (by omega) (by omega) _).mono ?_)); rintro e x1 ⟨rfl, hb⟩; rw [HIR.out]; have S2 := Lib.hid (SS.out.grow hb); have X1 := Lib.hid (iter_call X0.out hb); have Y1 := Lib.hid (iter_call Y0.out hb); have k0 : x1.cell? ⟨wr.heap.size + 1, 0, none⟩ = some (.string n1) := cell_at X1.out 0; have k1 : x1.cell? ⟨wr.heap.size, 0, none⟩ = some (.string n2) := cell_at Y1.out 0; have k2 : x1.cell? ⟨wr.heap.size + 1, 1, none⟩ = some (.string m1) := cell_at X1.out 1; have k3 : x1.cell? ⟨wr.heap.size, 1, none⟩ = some (.string m2) := cell_at Y1.out 1; clear hb))
                    go_roundw
                    case rel => exact ⟨i + 1, i, rfl, by go_num, by omega, by omega, hlt, HL, S2⟩
                    case measure => simp [intOf]; omega
            · obtain rfl : i = L.length := by omega
              obtain ⟨n1, m1, u1, hx⟩ : ∃ a b v, L[k] = ((a, b), v) := ⟨_, _, _, rfl⟩
              obtain ⟨p0, p1, p2⟩ := own_rowV hS2.out.own rfl (by omega) HAD.out hkL hx
              have hsel := sel_cons ltV hmin.out hkL
              have hss := hs.out
              rw [hsel, hx, List.flatMap_cons, ← List.append_assoc] at hss
              have HSS := Lib.hid hss
              have y3 : (0 : Int) ≤ (k : Int) := by omega
              have y4 : (k : Int) < (L.length : Int) := by omega
              have y5 : (k : Int) ≤ (cap : Int) := by omega
              have y6 : (k : Int) + 1 ≤ (L.length : Int) := by omega
              have y7 : (L.length : Int) ≤ (cap : Int) := by omega
              have HE := Lib.hid (List.eraseIdx_eq_take_drop_succ (l := L) (i := k))
              have hel : Hid ((L.eraseIdx k).length = L.length - 1) := by rw [Hid, List.length_eraseIdx, if_pos hkL]
              clear hsel hss hx
              by_cases hzero : u1 = ⟨#[]⟩
              · have HR1 : Hid (rline2 ((n1, m1), u1) = []) := by unfold Hid rline2; rw [if_pos hzero]
                subst hzero
                have hO := World.ownsRow_lit (base := w.heap.size + 1) (e := 130) (size := 3) wr.drew #[] 0 (by have := hS2.out.lt; simp; omega) (by simp) rfl
                have hO1 := Lib.hid hO
                have hp1 : Hid (0 < k → ∃ a, some ad = some a ∧ ∀ j u, ((L.take k).flatMap rowV)[j]? = some u → (wr.drew.alloc (.cells #[] 130)).cell? (a.add j) = some u) := fun _ => ⟨ad, rfl, by rw [HAD.out]; exact (own_part (own_below hS2.out.own ((Below.refl _ _).drew.alloc (by simp) (.cells #[] 130))) (fun _ _ => rfl) k (by omega)).1⟩
                have l1 := Lib.hid (flat_len3 rowV 3 (L.take k) fun _ _ => rfl)
                clear hO
                go_wp2_with fail
                have g1 : Hid (((L.take k).flatMap rowV).length = k * 3) := by rw [Hid, l1.out, List.length_take, Nat.min_eq_left (by omega)]
                have g2 : Hid (((L.drop (k + 1)).flatMap rowV).length = (L.length - (k + 1)) * 3) := by rw [Hid, flat_len3 rowV 3 _ fun _ _ => rfl, List.length_drop]
                have b1 : 0 + k ≤ maxLen := by unfold maxLen; omega
                have b2 : (0 + k) * 48 ≤ 140737488355328 := by omega
                have b3 : 0 + k + (L.length - (k + 1)) ≤ maxLen := by unfold maxLen; omega
                have b4 : (0 + k + (L.length - (k + 1))) * 48 ≤ 140737488355328 := by omega
                have b5 : Hid (w.heap.size + 1 ≤ (wr.drew.alloc (.cells #[] 130)).heap.size) := by have := hS2.out.lt; rw [Hid]; simp; omega
                obtain ⟨A2, hA2⟩ : ∃ A2, (if cap = k + 1 then some ad else some (ad.add ((k + 1) * 3))) = A2 := ⟨_, rfl⟩
                have HA2 := Lib.hid hA2
                have hcL : Hid (L.length ≤ cap) := hcap
                have hkL2 : Hid (k < L.length) := hkL
                have ew3 : (0 : Int) ≤ (k : Int) + 1 := by omega
                have ew2 : ((k : Int) + 1).toNat = k + 1 := by omega
                have ew1 : IntKind.i64.wrap ((k : Int) + 1) = (k : Int) + 1 := IntWalk.i64_in _ (by omega)
                go_region_law (first | (refine step_append_opt rfl (.tmp 154) (.tmp 157) 48 rfl (w.heap.size + 1) 130 j0 (.agg #[.string ⟨#[]⟩, .string ⟨#[]⟩, .string ⟨#[]⟩]) 3 48 Tryd.underlying48 hj hy0 hy1 hy2 rfl (by decide) _ _ _ ?_ hO1.out (some ad) k cap ((L.take k).flatMap rowV) ?_ g1.out hp1.out rowV_one b1 b2 b5.out ?_; simp [Act.eval, Act.put]; simp [Act.eval, Act.put]; intro v1 w3 hown3 hgrow3; have HO3 := Lib.hid hown3; have HG3 := Lib.hid hgrow3; have b6 := Lib.hid (Nat.le_trans b5.out hgrow3.size); have HL3 := Lib.hid (left_kept (W := wr.drew) hS2.out.drew.own hgrow3); clear hown3 hgrow3) | (refine step_append_opt rfl (.tmp 158) (.tmp 162) 48 rfl (w.heap.size + 1) 130 j0 (.agg #[.string ⟨#[]⟩, .string ⟨#[]⟩, .string ⟨#[]⟩]) 3 48 Tryd.underlying48 hj hy0 hy1 hy2 rfl (by decide) _ _ _ ?_ HO3.out A2 (L.length - (k + 1)) (cap - (k + 1)) ((L.drop (k + 1)).flatMap rowV) ?_ g2.out (rest_cells HL3.out (fun _ _ => rfl) rfl hcL.out hkL2.out HAD.out HA2.out) rowV_one b3 b4 b6.out ?_; simp [Act.eval, Act.put]; simp [Act.eval, Act.put]; intro v2 w4 hown4 hgrow4; have HO4 := Lib.hid hown4; have HG4 := Lib.hid hgrow4; clear hown4 hgrow4))
                all_goals
                  have S4 := removed (W := wr.drew) hS2.out.drew hO1.out (show (wr.drew.alloc (.cells #[] 130)).grownBy w3 (some wr.drew.heap.size) from HG3.out) HO3.out HG4.out HO4.out
                  clear ew1 ew2 ew3 hA2
                  have e1 : 0 + k + (L.length - (k + 1)) = (L.eraseIdx k).length := by have := hel.out; omega
                  have e2 : [] ++ (L.take k).flatMap rowV ++ (L.drop (k + 1)).flatMap rowV = (L.eraseIdx k).flatMap rowV := by rw [HE.out, List.flatMap_append, List.nil_append]
                  rw [e1, e2] at S4
                  have S5 := Lib.hid S4
                  have hlen := own_len S4.own
                  have hml : (L.eraseIdx k).length < L.length := by have := hel.out; omega
                  have HLN := Lib.hid hlen
                  clear S4 e1 e2 hlen
                  go_simp
                  go_wp2
                  go_roundw
                  case rel => exact ⟨L.eraseIdx k, s, rfl, by omega, S5, by have := HSS.out; rw [HR1.out, List.append_nil] at this; exact this, fun x hx => hin.out x (List.mem_of_mem_eraseIdx hx)⟩
                  case measure => rw [HLN.out]; simpa [lenV] using hml
              · have HR1 : Hid (rline2 ((n1, m1), u1) = (n1 ++ ⟨#[9]⟩ ++ m1 ++ ⟨#[9]⟩ ++ u1 ++ ⟨#[10]⟩).data.toList) := by unfold Hid rline2; rw [if_neg hzero]
                have htot := HTOT2.out
                rw [← HSS.out, HR1.out, List.length_append, List.length_append] at htot
                have z6 : ((⟨s.toArray⟩ : ByteArray) ++ n1 ++ ⟨#[9]⟩ ++ m1 ++ ⟨#[9]⟩ ++ u1 ++ ⟨#[10]⟩).size ≤ 140737488355328 := by
                  rw [list_size] at htot
                  simp only [ByteArray.size_append] at htot ⊢
                  have h1 : (⟨s.toArray⟩ : ByteArray).size = s.length := rfl
                  rw [h1]
                  omega
                have HNEW : Hid ((⟨s.toArray⟩ : ByteArray) ++ n1 ++ ⟨#[9]⟩ ++ m1 ++ ⟨#[9]⟩ ++ u1 ++ ⟨#[10]⟩ = ⟨(s ++ rline2 ((n1, m1), u1)).toArray⟩) := by
                  rw [Hid, HR1.out]
                  ext1
                  simp
                have s6 := addS _ _ z6
                have s5 := addS _ _ (le_left z6)
                have s4 := addS _ _ (le_left (le_left z6))
                have s3 := addS _ _ (le_left (le_left (le_left z6)))
                have s2 := addS _ _ (le_left (le_left (le_left (le_left z6))))
                have s1 := addS _ _ (le_left (le_left (le_left (le_left (le_left z6)))))
                have hvb : u1.toList.isEmpty = false := not_empty hzero
                clear htot z6 hzero
                go_wp2_with fail
                go_quiet (fail)
                have hS3 := Lib.hid (hS2.out.drewN nq)
                generalize wr.drewN nq = x2 at hS3 ⊢
                clear s1 s2 s3 s4 s5 s6 p0 p1 p2 hvb
                have hO := World.ownsRow_lit (base := w.heap.size + 1) (e := 130) (size := 3) x2.drew #[] 0 (by have := hS3.out.lt; simp; omega) (by simp) rfl
                have hO1 := Lib.hid hO
                have hp1 : Hid (0 < k → ∃ a, some ad = some a ∧ ∀ j u, ((L.take k).flatMap rowV)[j]? = some u → (x2.drew.alloc (.cells #[] 130)).cell? (a.add j) = some u) := fun _ => ⟨ad, rfl, by rw [HAD.out]; exact (own_part (own_below hS3.out.own ((Below.refl _ _).drew.alloc (by simp) (.cells #[] 130))) (fun _ _ => rfl) k (by omega)).1⟩
                have l1 := Lib.hid (flat_len3 rowV 3 (L.take k) fun _ _ => rfl)
                clear hO
                go_wp2_with fail
                have g1 : Hid (((L.take k).flatMap rowV).length = k * 3) := by rw [Hid, l1.out, List.length_take, Nat.min_eq_left (by omega)]
                have g2 : Hid (((L.drop (k + 1)).flatMap rowV).length = (L.length - (k + 1)) * 3) := by rw [Hid, flat_len3 rowV 3 _ fun _ _ => rfl, List.length_drop]
                have b1 : 0 + k ≤ maxLen := by unfold maxLen; omega
                have b2 : (0 + k) * 48 ≤ 140737488355328 := by omega
                have b3 : 0 + k + (L.length - (k + 1)) ≤ maxLen := by unfold maxLen; omega
                have b4 : (0 + k + (L.length - (k + 1))) * 48 ≤ 140737488355328 := by omega
                have b5 : Hid (w.heap.size + 1 ≤ (x2.drew.alloc (.cells #[] 130)).heap.size) := by have := hS3.out.lt; rw [Hid]; simp; omega
                obtain ⟨A2, hA2⟩ : ∃ A2, (if cap = k + 1 then some ad else some (ad.add ((k + 1) * 3))) = A2 := ⟨_, rfl⟩
                have HA2 := Lib.hid hA2
                have hcL : Hid (L.length ≤ cap) := hcap
                have hkL2 : Hid (k < L.length) := hkL
                have ew3 : (0 : Int) ≤ (k : Int) + 1 := by omega
                have ew2 : ((k : Int) + 1).toNat = k + 1 := by omega
                have ew1 : IntKind.i64.wrap ((k : Int) + 1) = (k : Int) + 1 := IntWalk.i64_in _ (by omega)
                go_region_law (first | (refine step_append_opt rfl (.tmp 154) (.tmp 157) 48 rfl (w.heap.size + 1) 130 j0 (.agg #[.string ⟨#[]⟩, .string ⟨#[]⟩, .string ⟨#[]⟩]) 3 48 Tryd.underlying48 hj hy0 hy1 hy2 rfl (by decide) _ _ _ ?_ hO1.out (some ad) k cap ((L.take k).flatMap rowV) ?_ g1.out hp1.out rowV_one b1 b2 b5.out ?_; simp [Act.eval, Act.put]; simp [Act.eval, Act.put]; intro v1 w3 hown3 hgrow3; have HO3 := Lib.hid hown3; have HG3 := Lib.hid hgrow3; have b6 := Lib.hid (Nat.le_trans b5.out hgrow3.size); have HL3 := Lib.hid (left_kept (W := x2.drew) hS3.out.drew.own hgrow3); clear hown3 hgrow3) | (refine step_append_opt rfl (.tmp 158) (.tmp 162) 48 rfl (w.heap.size + 1) 130 j0 (.agg #[.string ⟨#[]⟩, .string ⟨#[]⟩, .string ⟨#[]⟩]) 3 48 Tryd.underlying48 hj hy0 hy1 hy2 rfl (by decide) _ _ _ ?_ HO3.out A2 (L.length - (k + 1)) (cap - (k + 1)) ((L.drop (k + 1)).flatMap rowV) ?_ g2.out (rest_cells HL3.out (fun _ _ => rfl) rfl hcL.out hkL2.out HAD.out HA2.out) rowV_one b3 b4 b6.out ?_; simp [Act.eval, Act.put]; simp [Act.eval, Act.put]; intro v2 w4 hown4 hgrow4; have HO4 := Lib.hid hown4; have HG4 := Lib.hid hgrow4; clear hown4 hgrow4))
                all_goals
                  have S4 := removed (W := x2.drew) hS3.out.drew hO1.out (show (x2.drew.alloc (.cells #[] 130)).grownBy w3 (some x2.drew.heap.size) from HG3.out) HO3.out HG4.out HO4.out
                  clear ew1 ew2 ew3 hA2
                  have e1 : 0 + k + (L.length - (k + 1)) = (L.eraseIdx k).length := by have := hel.out; omega
                  have e2 : [] ++ (L.take k).flatMap rowV ++ (L.drop (k + 1)).flatMap rowV = (L.eraseIdx k).flatMap rowV := by rw [HE.out, List.flatMap_append, List.nil_append]
                  rw [e1, e2] at S4
                  have S5 := Lib.hid S4
                  have hlen := own_len S4.own
                  have hml : (L.eraseIdx k).length < L.length := by have := hel.out; omega
                  have HLN := Lib.hid hlen
                  clear S4 e1 e2 hlen
                  go_simp
                  go_wp2
                  go_roundw
                  case rel => exact ⟨L.eraseIdx k, s ++ rline2 ((n1, m1), u1), by rw [← HNEW.out], by omega, S5, HSS.out, fun x hx => hin.out x (List.mem_of_mem_eraseIdx hx)⟩
                  case measure => rw [HLN.out]; simpa [lenV] using hml
        · have hL0 : L = [] := List.eq_nil_of_length_eq_zero (by omega)
          subst hL0
          have HSB : Hid (digB A V = ⟨s.toArray⟩) := by have := hs.out; rw [sel_nil, List.flatMap_nil, List.append_nil] at this; rw [Hid, HD.out, this]
          obtain ⟨A8, c8, hu7⟩ : ∃ A9 c9, u7 = .slice A9 0 c9 := by
            rcases hS.out.own.2 with ⟨rfl, _⟩ | ⟨g, cap, cur, rfl, _⟩
            · exact ⟨none, 0, rfl⟩
            · exact ⟨_, _, rfl⟩
          have hbel := Lib.hid hS.out.below
          subst hu7
          clear hS hs hin hpos
          go_wp2
          go_ret
          exact ret_mk (by rw [HSB.out]; rfl) hbel.out
end Go.Proofs.YtnhpkefjmpgneaaDoor
