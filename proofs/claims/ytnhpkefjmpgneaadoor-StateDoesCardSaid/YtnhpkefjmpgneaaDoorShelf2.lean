/-
  DERIVED: THE SHELF's CONTRACTS AT THIS DUMP, IN PLAIN WORDS (tools/lay-plain.mjs out of 'TrydShelf2.lean', which tools/lay-shelf.mjs wrote): THE SAME DECLARATIONS UNDER THE SAME NAMES: 'import', 'namespace', 'open', 'def', 'theorem' AND NOTHING ELSE: no command of the shelf's: FOR A HAND-IN. Each laying: the table of numbers ('.._ren') and one theorem, a field a fact of the dump's own or the kernel's comparison; each contract: ONE APPLICATION.
-/
import Derived.Shelf.Strings.Builder1
import Derived.Shelf.Strconv.Itoa0
import Derived.Ground.SlsfProg
import Derived.Shelf.SlSortCmp.Whole1
import Derived.Shelf.SlSortCmp.NoneTotal
import Derived.Test.YtnhpkefjmpgneaaDoorProg
namespace Go.Proofs
open Go.Shelf
def Tryd.lays169_ren : Go.Shelf.Ren := ⟨fun | 169 => 47 | n => n, fun | 70 => 94 | 9 => 9 | 0 => 0 | 72 => 97 | 37 => 95 | 127 => 150 | 3 => 3 | 5 => 5 | n => n, fun | n => n⟩
theorem Tryd.lays169 : Go.Proofs.Lays.n169 Tryd.prog Tryd.lays169_ren := {
  mixed := by kernel_rfl
  f169 := Tryd.func47.trans (congrArg some (by kernel_rfl))
  t0 := Tryd.underlying0
  a0 := Tryd.isAgg0
  z0 := Tryd.sizeOf0
  v0 := Tryd.zeroValue0
  t3 := Tryd.underlying3
  a3 := Tryd.isAgg3
  z3 := Tryd.sizeOf3
  v3 := Tryd.zeroValue3
  t9 := Tryd.underlying9
  a9 := Tryd.isAgg9
  z9 := Tryd.sizeOf9
  v9 := Tryd.zeroValue9
  t37 := Tryd.underlying95
  a37 := Tryd.isAgg95
  z37 := Tryd.sizeOf95
  v37 := Tryd.zeroValue95
  t70 := Tryd.underlying94
  a70 := Tryd.isAgg94
  z70 := Tryd.sizeOf94
  v70 := Tryd.zeroValue94
  t72 := Tryd.underlying97
  a72 := Tryd.isAgg97
  z72 := Tryd.sizeOf97
  v72 := Tryd.zeroValue97
  t127 := Tryd.underlying150
  a127 := Tryd.isAgg150
  z127 := Tryd.sizeOf150
  v127 := Tryd.zeroValue150 }
theorem Tryd.Builder_Extra_169 : Builder.Extra Tryd.prog Tryd.lays169_ren := {
  sizeBuilder := by kernel_rfl
  liesBuilder := by kernel_rfl
  t5 := Tryd.underlying5
  a5 := Tryd.isAgg5
  z5 := Tryd.sizeOf5
  v5 := Tryd.zeroValue5
  infoByte := by kernel_rfl
  cellsByte := by kernel_rfl
  sizeByte := by kernel_rfl
  neB5 := by decide }
open Go.RowKit in
/-- (*strings.Builder).String: "String returns the accumulated string.": OF A BUILDER THAT HOLDS AT LEAST ONE BYTE. ✋ THE MODEL FREEZES THOSE BYTES IN THE BUFFER (unsafe.String): a later write INTO them ends the model's run without an answer; a later append BEHIND them goes on. The statement's order of evaluation is drawn: one draw. (LAID: no walk: one application.) -/
theorem Tryd.Builder_String (B b : Nat) (l : List UInt8) (w : World) (h : Lib.IsBuilder 97 5 B b (Lib.byteCells l) w) (h0 : l ≠ []) :
    Calls Tryd.prog 47 #[.pointer (some ⟨b, 0, none⟩)] w fun e w' => e = .returned (.string ⟨l.toArray⟩) ∧ Below B w w' := Any.Builder_String Tryd.lays169 Tryd.Builder_Extra_169 B b l w h h0
open Go.RowKit in
/-- (*strings.Builder).String OF A BUILDER THAT HOLDS NO BYTE: the empty string. (Its buffer is nil, or a row of which it has taken nothing yet; where that row has NO capacity the model lays one new block for unsafe.SliceData's 'some address'.) One draw. (LAID: no walk: one application.) -/
theorem Tryd.Builder_String_empty (B b : Nat) (w : World) (h : Lib.IsBuilder 97 5 B b [] w) (hBw : B ≤ w.heap.size) :
    Calls Tryd.prog 47 #[.pointer (some ⟨b, 0, none⟩)] w fun e w' => e = .returned (.string ⟨#[]⟩) ∧ Below B w w' := Any.Builder_String_empty Tryd.lays169 Tryd.Builder_Extra_169 B b w h hBw
open Go.RowKit in
/-- (*strings.Builder).String: "String returns the accumulated string.": WHATEVER THE BUILDER HOLDS. (LAID: no walk: one application.) -/
theorem Tryd.Builder_String_any (B b : Nat) (l : List UInt8) (w : World) (h : Lib.IsBuilder 97 5 B b (Lib.byteCells l) w) (hBw : B ≤ w.heap.size) :
    Calls Tryd.prog 47 #[.pointer (some ⟨b, 0, none⟩)] w fun e w' => e = .returned (.string ⟨l.toArray⟩) ∧ Below B w w' := Any.Builder_String_any Tryd.lays169 Tryd.Builder_Extra_169 B b l w h hBw
def Tryd.laysSlF6_f69_ren : Go.Shelf.Ren := ⟨fun | 6 => 69 | 15 => 92 | 14 => 91 | 28 => 112 | 29 => 113 | 20 => 104 | 21 => 105 | 22 => 106 | 23 => 107 | 24 => 108 | 25 => 109 | 26 => 110 | 27 => 111 | 46 => 135 | 47 => 136 | 48 => 137 | 49 => 138 | 50 => 139 | 57 => 155 | n => n, fun | 22 => 98 | 24 => 9 | 25 => 103 | 3 => 3 | 39 => 171 | 0 => 0 | 53 => 64 | 55 => 203 | 4 => 4 | 46 => 195 | 45 => 194 | 50 => 199 | 5 => 5 | 9 => 9 | 66 => 231 | 70 => 235 | 76 => 254 | 77 => 255 | n => n, fun | n => n⟩
theorem Tryd.laysSlF6_f69 : Go.Proofs.SlLaysF.n6 Tryd.prog Tryd.laysSlF6_f69_ren := {
  mixed := by kernel_rfl
  f6 := ⟨Tryd.f69.name, by decide, Tryd.func69.trans (congrArg some (by kernel_rfl))⟩
  f14 := ⟨Tryd.f91.name, by decide, Tryd.func91.trans (congrArg some (by kernel_rfl))⟩
  f15 := Tryd.func92.trans (congrArg some (by kernel_rfl))
  f20 := ⟨Tryd.f104.name, by decide, Tryd.func104.trans (congrArg some (by kernel_rfl))⟩
  f21 := ⟨Tryd.f105.name, by decide, Tryd.func105.trans (congrArg some (by kernel_rfl))⟩
  f22 := ⟨Tryd.f106.name, by decide, Tryd.func106.trans (congrArg some (by kernel_rfl))⟩
  f23 := ⟨Tryd.f107.name, by decide, Tryd.func107.trans (congrArg some (by kernel_rfl))⟩
  f24 := ⟨Tryd.f108.name, by decide, Tryd.func108.trans (congrArg some (by kernel_rfl))⟩
  f25 := ⟨Tryd.f109.name, by decide, Tryd.func109.trans (congrArg some (by kernel_rfl))⟩
  f26 := ⟨Tryd.f110.name, by decide, Tryd.func110.trans (congrArg some (by kernel_rfl))⟩
  f27 := ⟨Tryd.f111.name, by decide, Tryd.func111.trans (congrArg some (by kernel_rfl))⟩
  f28 := Tryd.func112.trans (congrArg some (by kernel_rfl))
  f29 := Tryd.func113.trans (congrArg some (by kernel_rfl))
  f46 := ⟨Tryd.f135.name, by decide, Tryd.func135.trans (congrArg some (by kernel_rfl))⟩
  f47 := Tryd.func136.trans (congrArg some (by kernel_rfl))
  f48 := Tryd.func137.trans (congrArg some (by kernel_rfl))
  f49 := ⟨Tryd.f138.name, by decide, Tryd.func138.trans (congrArg some (by kernel_rfl))⟩
  f50 := ⟨Tryd.f139.name, by decide, Tryd.func139.trans (congrArg some (by kernel_rfl))⟩
  f57 := ⟨Tryd.f155.name, by decide, Tryd.func155.trans (congrArg some (by kernel_rfl))⟩
  t0 := Tryd.underlying0
  a0 := Tryd.isAgg0
  z0 := Tryd.sizeOf0
  v0 := Tryd.zeroValue0
  t3 := Tryd.underlying3
  a3 := Tryd.isAgg3
  z3 := Tryd.sizeOf3
  v3 := Tryd.zeroValue3
  t4 := Tryd.underlying4
  a4 := Tryd.isAgg4
  z4 := Tryd.sizeOf4
  v4 := Tryd.zeroValue4
  t5 := Tryd.underlying5
  a5 := Tryd.isAgg5
  z5 := Tryd.sizeOf5
  v5 := Tryd.zeroValue5
  t9 := Tryd.underlying9
  a9 := Tryd.isAgg9
  z9 := Tryd.sizeOf9
  v9 := Tryd.zeroValue9
  t22 := Tryd.underlying98
  a22 := Tryd.isAgg98
  z22 := Tryd.sizeOf98
  v22 := Tryd.zeroValue98
  a24 := Tryd.isAgg9
  z24 := Tryd.sizeOf9
  t25 := Tryd.underlying103
  a25 := Tryd.isAgg103
  z25 := Tryd.sizeOf103
  v25 := Tryd.zeroValue103
  t39 := Tryd.underlying171
  a39 := Tryd.isAgg171
  z39 := Tryd.sizeOf171
  v39 := Tryd.zeroValue171
  t45 := Tryd.underlying194
  a45 := Tryd.isAgg194
  z45 := Tryd.sizeOf194
  v45 := Tryd.zeroValue194
  t46 := Tryd.underlying195
  a46 := Tryd.isAgg195
  z46 := Tryd.sizeOf195
  v46 := Tryd.zeroValue195
  t50 := Tryd.underlying199
  a50 := Tryd.isAgg199
  z50 := Tryd.sizeOf199
  v50 := Tryd.zeroValue199
  t53 := Tryd.underlying64
  a53 := Tryd.isAgg64
  z53 := Tryd.sizeOf64
  v53 := Tryd.zeroValue64
  t55 := Tryd.underlying203
  a55 := Tryd.isAgg203
  z55 := Tryd.sizeOf203
  v55 := Tryd.zeroValue203
  t66 := Tryd.underlying231
  a66 := Tryd.isAgg231
  z66 := Tryd.sizeOf231
  v66 := Tryd.zeroValue231
  t70 := Tryd.underlying235
  a70 := Tryd.isAgg235
  z70 := Tryd.sizeOf235
  v70 := Tryd.zeroValue235
  t76 := Tryd.underlying254
  a76 := Tryd.isAgg254
  z76 := Tryd.sizeOf254
  v76 := Tryd.zeroValue254
  t77 := Tryd.underlying255
  a77 := Tryd.isAgg255
  z77 := Tryd.sizeOf255
  v77 := Tryd.zeroValue255 }
def Tryd.laysSlF06_f69_ren : Go.Shelf.Ren := ⟨fun | 6 => 69 | 15 => 92 | 14 => 91 | 28 => 112 | 29 => 113 | 20 => 104 | 21 => 105 | 22 => 106 | 23 => 107 | 24 => 108 | 25 => 109 | 26 => 110 | 27 => 111 | 46 => 135 | 47 => 136 | 48 => 137 | 49 => 138 | 50 => 139 | 57 => 155 | n => n, fun | 22 => 98 | 24 => 9 | 25 => 103 | 3 => 3 | 39 => 171 | 0 => 0 | 53 => 64 | 55 => 203 | 4 => 4 | 46 => 195 | 45 => 194 | 50 => 199 | 5 => 5 | 9 => 9 | 66 => 231 | 70 => 235 | 76 => 254 | 77 => 255 | n => n, fun | n => n⟩
theorem Tryd.laysSlF06_f69 : Go.Proofs.SlLaysF0.n6 Tryd.prog Tryd.laysSlF06_f69_ren := {
  mixed := by kernel_rfl
  f6 := ⟨Tryd.f69.name, by decide, Tryd.func69.trans (congrArg some (by kernel_rfl))⟩
  f14 := ⟨Tryd.f91.name, by decide, Tryd.func91.trans (congrArg some (by kernel_rfl))⟩
  f15 := Tryd.func92.trans (congrArg some (by kernel_rfl))
  f20 := ⟨Tryd.f104.name, by decide, Tryd.func104.trans (congrArg some (by kernel_rfl))⟩
  f21 := ⟨Tryd.f105.name, by decide, Tryd.func105.trans (congrArg some (by kernel_rfl))⟩
  f22 := ⟨Tryd.f106.name, by decide, Tryd.func106.trans (congrArg some (by kernel_rfl))⟩
  f23 := ⟨Tryd.f107.name, by decide, Tryd.func107.trans (congrArg some (by kernel_rfl))⟩
  f24 := ⟨Tryd.f108.name, by decide, Tryd.func108.trans (congrArg some (by kernel_rfl))⟩
  f25 := ⟨Tryd.f109.name, by decide, Tryd.func109.trans (congrArg some (by kernel_rfl))⟩
  f26 := ⟨Tryd.f110.name, by decide, Tryd.func110.trans (congrArg some (by kernel_rfl))⟩
  f27 := ⟨Tryd.f111.name, by decide, Tryd.func111.trans (congrArg some (by kernel_rfl))⟩
  f28 := Tryd.func112.trans (congrArg some (by kernel_rfl))
  f29 := Tryd.func113.trans (congrArg some (by kernel_rfl))
  f46 := ⟨Tryd.f135.name, by decide, Tryd.func135.trans (congrArg some (by kernel_rfl))⟩
  f47 := Tryd.func136.trans (congrArg some (by kernel_rfl))
  f48 := Tryd.func137.trans (congrArg some (by kernel_rfl))
  f49 := ⟨Tryd.f138.name, by decide, Tryd.func138.trans (congrArg some (by kernel_rfl))⟩
  f50 := ⟨Tryd.f139.name, by decide, Tryd.func139.trans (congrArg some (by kernel_rfl))⟩
  f57 := ⟨Tryd.f155.name, by decide, Tryd.func155.trans (congrArg some (by kernel_rfl))⟩
  t0 := Tryd.underlying0
  a0 := Tryd.isAgg0
  z0 := Tryd.sizeOf0
  v0 := Tryd.zeroValue0
  t3 := Tryd.underlying3
  a3 := Tryd.isAgg3
  z3 := Tryd.sizeOf3
  v3 := Tryd.zeroValue3
  t4 := Tryd.underlying4
  a4 := Tryd.isAgg4
  z4 := Tryd.sizeOf4
  v4 := Tryd.zeroValue4
  t5 := Tryd.underlying5
  a5 := Tryd.isAgg5
  z5 := Tryd.sizeOf5
  v5 := Tryd.zeroValue5
  t9 := Tryd.underlying9
  a9 := Tryd.isAgg9
  z9 := Tryd.sizeOf9
  v9 := Tryd.zeroValue9
  t22 := Tryd.underlying98
  a22 := Tryd.isAgg98
  z22 := Tryd.sizeOf98
  v22 := Tryd.zeroValue98
  t25 := Tryd.underlying103
  a25 := Tryd.isAgg103
  z25 := Tryd.sizeOf103
  v25 := Tryd.zeroValue103
  t39 := Tryd.underlying171
  a39 := Tryd.isAgg171
  z39 := Tryd.sizeOf171
  v39 := Tryd.zeroValue171
  t45 := Tryd.underlying194
  a45 := Tryd.isAgg194
  z45 := Tryd.sizeOf194
  v45 := Tryd.zeroValue194
  t46 := Tryd.underlying195
  a46 := Tryd.isAgg195
  z46 := Tryd.sizeOf195
  v46 := Tryd.zeroValue195
  t50 := Tryd.underlying199
  a50 := Tryd.isAgg199
  z50 := Tryd.sizeOf199
  v50 := Tryd.zeroValue199
  t53 := Tryd.underlying64
  a53 := Tryd.isAgg64
  z53 := Tryd.sizeOf64
  v53 := Tryd.zeroValue64
  t55 := Tryd.underlying203
  a55 := Tryd.isAgg203
  z55 := Tryd.sizeOf203
  v55 := Tryd.zeroValue203
  t66 := Tryd.underlying231
  a66 := Tryd.isAgg231
  z66 := Tryd.sizeOf231
  v66 := Tryd.zeroValue231
  t70 := Tryd.underlying235
  a70 := Tryd.isAgg235
  z70 := Tryd.sizeOf235
  v70 := Tryd.zeroValue235
  t76 := Tryd.underlying254
  a76 := Tryd.isAgg254
  z76 := Tryd.sizeOf254
  v76 := Tryd.zeroValue254
  t77 := Tryd.underlying255
  a77 := Tryd.isAgg255
  z77 := Tryd.sizeOf255
  v77 := Tryd.zeroValue255 }
open Go.RowKit Go.Lib Go.Sort in
/-- **slices.SortFunc AT NO ELEMENT, A nil SLICE TOO: nothing turns.** (LAID AT THE INSTANCE 'slices.SortFunc[[]string,string]': no walk: one application.) -/
theorem Tryd.slices_SortFunc_none {α : Type} [Inhabited α] (p : Option Addr) (cap : Nat) (fv : Value) (w : World) :
    Calls Tryd.prog 69 #[.slice p 0 cap, fv] w fun e w' => e = .returned (.tuple #[]) ∧ w' = w := AnyF.slices_SortFunc_none Tryd.laysSlF06_f69 p cap fv w
open Go.RowKit Go.Lib Go.Sort in
/-- **slices.SortFunc AT ONE CELL, UNDER A 'cmp' THAT PARTS WHATEVER TWO THAT ARE NOT ONE: THE ROW HOLDS core's 'mergeSort'.** (LAID AT THE INSTANCE 'slices.SortFunc[[]string,string]': no walk: one application.) -/
theorem Tryd.slices_SortFunc_total {α : Type} [Inhabited α] (enc : α → Value) (h1 : OneCell enc) (cf : α → α → Int) (hO : SWO (ltOf cf)) (g : Nat) (cb : Array Value) (blk off cap : Nat) (d : Array α) (w : World) (eg : ∀ args w, (callFunc g args).run Tryd.prog w = .ok (.enter g args) w) (hcmp : CmpLays1 Tryd.prog g cb enc cf blk off d.size w) (hH : Holds enc w blk off d) (hblk : blk < w.heap.size) (hsz : d.size < 4611686018427387904) (hT : ∀ x y, (ltOf cf) x y = false → (ltOf cf) y x = false → x = y) :
    Calls Tryd.prog 69 #[.slice (some ⟨blk, off, none⟩) d.size cap, .func (.func g) #[] cb] w fun e w' =>
      e = .returned (.tuple #[]) ∧ ∃ n os, w' = sortWorld enc w blk off n (d.toList.mergeSort fun x y => !(ltOf cf) y x).toArray os := Any.slices_SortFunc_total Tryd.laysSlF6_f69 enc h1 cf hO g cb blk off cap d w eg hcmp hH hblk hsz hT
def Tryd.laysSlF06_f74_ren : Go.Shelf.Ren := ⟨fun | 6 => 74 | 15 => 92 | 14 => 96 | 28 => 112 | 29 => 113 | 20 => 114 | 21 => 115 | 22 => 116 | 23 => 117 | 24 => 118 | 25 => 119 | 26 => 120 | 27 => 121 | 46 => 140 | 47 => 136 | 48 => 137 | 49 => 141 | 50 => 142 | 57 => 156 | n => n, fun | 22 => 110 | 24 => 91 | 25 => 109 | 3 => 3 | 39 => 171 | 0 => 0 | 53 => 64 | 55 => 203 | 4 => 4 | 46 => 195 | 45 => 194 | 50 => 199 | 5 => 5 | 9 => 9 | 66 => 231 | 70 => 235 | 76 => 254 | 77 => 255 | n => n, fun | n => n⟩
theorem Tryd.laysSlF06_f74 : Go.Proofs.SlLaysF0.n6 Tryd.prog Tryd.laysSlF06_f74_ren := {
  mixed := by kernel_rfl
  f6 := ⟨Tryd.f74.name, by decide, Tryd.func74.trans (congrArg some (by kernel_rfl))⟩
  f14 := ⟨Tryd.f96.name, by decide, Tryd.func96.trans (congrArg some (by kernel_rfl))⟩
  f15 := Tryd.func92.trans (congrArg some (by kernel_rfl))
  f20 := ⟨Tryd.f114.name, by decide, Tryd.func114.trans (congrArg some (by kernel_rfl))⟩
  f21 := ⟨Tryd.f115.name, by decide, Tryd.func115.trans (congrArg some (by kernel_rfl))⟩
  f22 := ⟨Tryd.f116.name, by decide, Tryd.func116.trans (congrArg some (by kernel_rfl))⟩
  f23 := ⟨Tryd.f117.name, by decide, Tryd.func117.trans (congrArg some (by kernel_rfl))⟩
  f24 := ⟨Tryd.f118.name, by decide, Tryd.func118.trans (congrArg some (by kernel_rfl))⟩
  f25 := ⟨Tryd.f119.name, by decide, Tryd.func119.trans (congrArg some (by kernel_rfl))⟩
  f26 := ⟨Tryd.f120.name, by decide, Tryd.func120.trans (congrArg some (by kernel_rfl))⟩
  f27 := ⟨Tryd.f121.name, by decide, Tryd.func121.trans (congrArg some (by kernel_rfl))⟩
  f28 := Tryd.func112.trans (congrArg some (by kernel_rfl))
  f29 := Tryd.func113.trans (congrArg some (by kernel_rfl))
  f46 := ⟨Tryd.f140.name, by decide, Tryd.func140.trans (congrArg some (by kernel_rfl))⟩
  f47 := Tryd.func136.trans (congrArg some (by kernel_rfl))
  f48 := Tryd.func137.trans (congrArg some (by kernel_rfl))
  f49 := ⟨Tryd.f141.name, by decide, Tryd.func141.trans (congrArg some (by kernel_rfl))⟩
  f50 := ⟨Tryd.f142.name, by decide, Tryd.func142.trans (congrArg some (by kernel_rfl))⟩
  f57 := ⟨Tryd.f156.name, by decide, Tryd.func156.trans (congrArg some (by kernel_rfl))⟩
  t0 := Tryd.underlying0
  a0 := Tryd.isAgg0
  z0 := Tryd.sizeOf0
  v0 := Tryd.zeroValue0
  t3 := Tryd.underlying3
  a3 := Tryd.isAgg3
  z3 := Tryd.sizeOf3
  v3 := Tryd.zeroValue3
  t4 := Tryd.underlying4
  a4 := Tryd.isAgg4
  z4 := Tryd.sizeOf4
  v4 := Tryd.zeroValue4
  t5 := Tryd.underlying5
  a5 := Tryd.isAgg5
  z5 := Tryd.sizeOf5
  v5 := Tryd.zeroValue5
  t9 := Tryd.underlying9
  a9 := Tryd.isAgg9
  z9 := Tryd.sizeOf9
  v9 := Tryd.zeroValue9
  t22 := Tryd.underlying110
  a22 := Tryd.isAgg110
  z22 := Tryd.sizeOf110
  v22 := Tryd.zeroValue110
  t25 := Tryd.underlying109
  a25 := Tryd.isAgg109
  z25 := Tryd.sizeOf109
  v25 := Tryd.zeroValue109
  t39 := Tryd.underlying171
  a39 := Tryd.isAgg171
  z39 := Tryd.sizeOf171
  v39 := Tryd.zeroValue171
  t45 := Tryd.underlying194
  a45 := Tryd.isAgg194
  z45 := Tryd.sizeOf194
  v45 := Tryd.zeroValue194
  t46 := Tryd.underlying195
  a46 := Tryd.isAgg195
  z46 := Tryd.sizeOf195
  v46 := Tryd.zeroValue195
  t50 := Tryd.underlying199
  a50 := Tryd.isAgg199
  z50 := Tryd.sizeOf199
  v50 := Tryd.zeroValue199
  t53 := Tryd.underlying64
  a53 := Tryd.isAgg64
  z53 := Tryd.sizeOf64
  v53 := Tryd.zeroValue64
  t55 := Tryd.underlying203
  a55 := Tryd.isAgg203
  z55 := Tryd.sizeOf203
  v55 := Tryd.zeroValue203
  t66 := Tryd.underlying231
  a66 := Tryd.isAgg231
  z66 := Tryd.sizeOf231
  v66 := Tryd.zeroValue231
  t70 := Tryd.underlying235
  a70 := Tryd.isAgg235
  z70 := Tryd.sizeOf235
  v70 := Tryd.zeroValue235
  t76 := Tryd.underlying254
  a76 := Tryd.isAgg254
  z76 := Tryd.sizeOf254
  v76 := Tryd.zeroValue254
  t77 := Tryd.underlying255
  a77 := Tryd.isAgg255
  z77 := Tryd.sizeOf255
  v77 := Tryd.zeroValue255 }
end Go.Proofs
