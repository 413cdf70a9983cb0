/-
  The library's contracts that the prints use, laid at this program by the kit's own tool: Trim, Index, Min. Conditions: stated at each.
-/
import Derived.Shelf.Strings.Trim
import Derived.Shelf.Strings.SlTrimAscii
import Derived.Shelf.Slices.Turned
import Derived.Test.YtmhlgnhfbickdaaDoorProg
namespace Go.Proofs
open Go.Shelf
def Tryd.lays160_ren : Go.Shelf.Ren := ⟨fun | 160 => 70 | 232 => 93 | 231 => 92 | 227 => 94 | 234 => 96 | 233 => 95 | 236 => 98 | 235 => 97 | 228 => 105 | 271 => 108 | 151 => 107 | 197 => 106 | 120 => 111 | 152 => 110 | 260 => 109 | 137 => 112 | 119 => 113 | 224 => 114 | 225 => 115 | 217 => 116 | 266 => 117 | n => n, fun | 9 => 9 | 4 => 4 | 3 => 3 | 5 => 5 | 117 => 116 | 116 => 115 | 0 => 0 | 124 => 119 | 21 => 21 | 105 => 126 | 46 => 131 | 119 => 130 | 139 => 134 | 138 => 133 | n => n, fun | 3 => 0 | 4 => 1 | n => n⟩
theorem Tryd.lays160 : Go.Proofs.Lays.n160 Tryd.prog Tryd.lays160_ren := {
  mixed := by kernel_rfl
  f119 := Tryd.func113.trans (congrArg some (by kernel_rfl))
  f120 := Tryd.func111.trans (congrArg some (by kernel_rfl))
  f137 := Tryd.func112.trans (congrArg some (by kernel_rfl))
  f151 := Tryd.func107.trans (congrArg some (by kernel_rfl))
  f152 := Tryd.func110.trans (congrArg some (by kernel_rfl))
  f160 := Tryd.func70.trans (congrArg some (by kernel_rfl))
  f197 := Tryd.func106.trans (congrArg some (by kernel_rfl))
  f217 := Tryd.func116.trans (congrArg some (by kernel_rfl))
  f224 := Tryd.func114.trans (congrArg some (by kernel_rfl))
  f225 := Tryd.func115.trans (congrArg some (by kernel_rfl))
  f227 := Tryd.func94.trans (congrArg some (by kernel_rfl))
  f228 := Tryd.func105.trans (congrArg some (by kernel_rfl))
  f231 := Tryd.func92.trans (congrArg some (by kernel_rfl))
  f232 := Tryd.func93.trans (congrArg some (by kernel_rfl))
  f233 := Tryd.func95.trans (congrArg some (by kernel_rfl))
  f234 := Tryd.func96.trans (congrArg some (by kernel_rfl))
  f235 := Tryd.func97.trans (congrArg some (by kernel_rfl))
  f236 := Tryd.func98.trans (congrArg some (by kernel_rfl))
  f260 := Tryd.func109.trans (congrArg some (by kernel_rfl))
  f266 := Tryd.func117.trans (congrArg some (by kernel_rfl))
  f271 := Tryd.func108.trans (congrArg some (by kernel_rfl))
  t0 := Tryd.underlying0
  a0 := Tryd.isAgg0
  z0 := Tryd.sizeOf0
  v0 := Tryd.zeroValue0
  t3 := Tryd.underlying3
  a3 := Tryd.isAgg3
  z3 := Tryd.sizeOf3
  v3 := Tryd.zeroValue3
  t4 := Tryd.underlying4
  a4 := Tryd.isAgg4
  z4 := Tryd.sizeOf4
  v4 := Tryd.zeroValue4
  t5 := Tryd.underlying5
  a5 := Tryd.isAgg5
  z5 := Tryd.sizeOf5
  v5 := Tryd.zeroValue5
  t9 := Tryd.underlying9
  a9 := Tryd.isAgg9
  z9 := Tryd.sizeOf9
  v9 := Tryd.zeroValue9
  t21 := Tryd.underlying21
  a21 := Tryd.isAgg21
  z21 := Tryd.sizeOf21
  v21 := Tryd.zeroValue21
  t46 := Tryd.underlying131
  a46 := Tryd.isAgg131
  z46 := Tryd.sizeOf131
  v46 := Tryd.zeroValue131
  t105 := Tryd.underlying126
  a105 := Tryd.isAgg126
  z105 := Tryd.sizeOf126
  v105 := Tryd.zeroValue126
  t116 := Tryd.underlying115
  a116 := Tryd.isAgg115
  z116 := Tryd.sizeOf115
  t117 := Tryd.underlying116
  a117 := Tryd.isAgg116
  z117 := Tryd.sizeOf116
  v117 := Tryd.zeroValue116
  t119 := Tryd.underlying130
  a119 := Tryd.isAgg130
  z119 := Tryd.sizeOf130
  t124 := Tryd.underlying119
  a124 := Tryd.isAgg119
  z124 := Tryd.sizeOf119
  v124 := Tryd.zeroValue119
  t138 := Tryd.underlying133
  a138 := Tryd.isAgg133
  z138 := Tryd.sizeOf133
  v138 := Tryd.zeroValue133
  t139 := Tryd.underlying134
  a139 := Tryd.isAgg134
  z139 := Tryd.sizeOf134
  v139 := Tryd.zeroValue134
  g3 := by kernel_rfl
  g4 := by kernel_rfl }
open Go.RowKit in
theorem Tryd.strings_Trim_one (s : ByteArray) (c : UInt8) (hc : c.toNat < 128) (w : World) (hs : s.size ≤ 9223372036854775807) :
    Calls Tryd.prog 70 #[.string s, .string ⟨#[c]⟩] w fun e w' => e = .returned (.string ⟨(Lib.trimB s.data.toList c).toArray⟩) ∧ (w' = w ∨ w' = w.drew) := Any.strings_Trim_one Tryd.lays160 s c hc w hs
def Tryd.lays108_ren : Go.Shelf.Ren := ⟨fun | 108 => 91 | n => n, fun | 28 => 25 | 3 => 3 | 0 => 0 | 4 => 4 | n => n, fun | n => n⟩
theorem Tryd.lays108 : Go.Proofs.Lays.n108 Tryd.prog Tryd.lays108_ren := {
  mixed := by kernel_rfl
  f108 := Tryd.func91.trans (congrArg some (by kernel_rfl))
  t0 := Tryd.underlying0
  a0 := Tryd.isAgg0
  z0 := Tryd.sizeOf0
  v0 := Tryd.zeroValue0
  t3 := Tryd.underlying3
  a3 := Tryd.isAgg3
  z3 := Tryd.sizeOf3
  v3 := Tryd.zeroValue3
  t4 := Tryd.underlying4
  a4 := Tryd.isAgg4
  z4 := Tryd.sizeOf4
  v4 := Tryd.zeroValue4
  t28 := Tryd.underlying25
  a28 := Tryd.isAgg25
  z28 := Tryd.sizeOf25
  v28 := Tryd.zeroValue25 }
open Go.Lib in
theorem Tryd.slices_Index_int (b off n c : Nat) (zs : List Int) (x : Int) (w : World) (hz : n ≤ zs.length) (hbig : n ≤ 9223372036854775807) (hc : ∀ j, j < zs.length → w.cell? ⟨b, off + j, none⟩ = some (.int .i64 (zs.getD j 0))) :
    Calls Tryd.prog 91 #[.slice (some ⟨b, off, none⟩) n c, .int .i64 x] w fun e w' => e = .returned (.int .i64 (Lib.idxOf (zs.take n) x)) ∧ w' = w := Any.slices_Index_int Tryd.lays108 b off n c zs x w hz hbig hc
open Go.Lib in
theorem Tryd.slices_Index_int_empty (a : Option Addr) (c : Nat) (x : Int) (w : World) :
    Calls Tryd.prog 91 #[.slice a 0 c, .int .i64 x] w fun e w' => e = .returned (.int .i64 (Lib.idxOf [] x)) ∧ w' = w := Any.slices_Index_int_empty Tryd.lays108 a c x w
def Tryd.lays114_ren : Go.Shelf.Ren := ⟨fun | 114 => 90 | n => n, fun | 28 => 25 | 3 => 3 | 4 => 4 | 9 => 9 | 20 => 20 | 0 => 0 | n => n, fun | n => n⟩
theorem Tryd.lays114 : Go.Proofs.Lays.n114 Tryd.prog Tryd.lays114_ren := {
  mixed := by kernel_rfl
  f114 := Tryd.func90.trans (congrArg some (by kernel_rfl))
  t0 := Tryd.underlying0
  a0 := Tryd.isAgg0
  z0 := Tryd.sizeOf0
  v0 := Tryd.zeroValue0
  t3 := Tryd.underlying3
  a3 := Tryd.isAgg3
  z3 := Tryd.sizeOf3
  v3 := Tryd.zeroValue3
  t4 := Tryd.underlying4
  a4 := Tryd.isAgg4
  z4 := Tryd.sizeOf4
  v4 := Tryd.zeroValue4
  t9 := Tryd.underlying9
  a9 := Tryd.isAgg9
  z9 := Tryd.sizeOf9
  v9 := Tryd.zeroValue9
  t20 := Tryd.underlying20
  a20 := Tryd.isAgg20
  z20 := Tryd.sizeOf20
  v20 := Tryd.zeroValue20
  t28 := Tryd.underlying25
  a28 := Tryd.isAgg25
  z28 := Tryd.sizeOf25
  v28 := Tryd.zeroValue25 }
open Go.Lib in
theorem Tryd.slices_Min_int (b off n c : Nat) (zs : List Int) (w : World) (hn : 0 < n) (hz : n ≤ zs.length) (hbig : n ≤ 9223372036854775807) (hc : ∀ j, j < zs.length → w.cell? ⟨b, off + j, none⟩ = some (.int .i64 (zs.getD j 0))) :
    Calls Tryd.prog 90 #[.slice (some ⟨b, off, none⟩) n c] w fun e w' => e = .returned (.int .i64 (Lib.minOf (zs.take n))) ∧ w' = w := Any.slices_Min_int Tryd.lays114 b off n c zs w hn hz hbig hc
end Go.Proofs
