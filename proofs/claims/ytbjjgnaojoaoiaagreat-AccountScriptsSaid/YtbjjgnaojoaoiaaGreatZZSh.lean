/- Contracts of library functions at this dump, laid by the kit (lay-shelf, lay-plain). -/
import Derived.Shelf.Small.Bits
import Derived.Shelf.Small.Wraps
import Derived.Shelf.Strconv.Itoa0
import Derived.Shelf.Bits.Mul64
import Derived.Ground.Names2Prog
import Derived.Shelf.Slices.SearchI
import Derived.Ground.SlsfProg
import Derived.Shelf.SlSortCmp.Insertion
import Derived.Shelf.SlSortCmp.SiftDown1
import Derived.Shelf.SlSortCmp.HeapSort1
import Derived.Shelf.SlSortCmp.Insertion1
import Derived.Shelf.SlSortCmp.Median1
import Derived.Shelf.SlSortCmp.Pivot1
import Derived.Shelf.SlSortCmp.ReverseRange1
import Derived.Shelf.SlSortCmp.PartialInsertion1
import Derived.Shelf.SlSortCmp.PartitionEqual1
import Derived.Shelf.SlSortCmp.Partition1
import Derived.Shelf.SlSortCmp.Pdq1
import Derived.Shelf.SlSortCmp.Whole1
import Derived.Shelf.SlSortCmp.NoneTotal
import Derived.Test.YtbjjgnaojoaoiaaGreatProg
namespace Go.Proofs
open Go.Shelf
def Tryz.lays134_ren : Go.Shelf.Ren := ⟨fun | 134 => 197 | 129 => 189 | n => n, fun | 53 => 44 | 3 => 3 | 4 => 4 | 46 => 141 | 5 => 5 | 9 => 9 | n => n, fun | n => n⟩
theorem Tryz.lays134 : Go.Proofs.Lays.n134 Tryz.prog Tryz.lays134_ren := {
  mixed := by kernel_rfl
  f129 := Tryz.func189.trans (congrArg some (by kernel_rfl))
  f134 := Tryz.func197.trans (congrArg some (by kernel_rfl))
  t3 := Tryz.underlying3
  a3 := Tryz.isAgg3
  z3 := Tryz.sizeOf3
  v3 := Tryz.zeroValue3
  t4 := Tryz.underlying4
  a4 := Tryz.isAgg4
  z4 := Tryz.sizeOf4
  v4 := Tryz.zeroValue4
  t5 := Tryz.underlying5
  a5 := Tryz.isAgg5
  z5 := Tryz.sizeOf5
  v5 := Tryz.zeroValue5
  t9 := Tryz.underlying9
  a9 := Tryz.isAgg9
  z9 := Tryz.sizeOf9
  v9 := Tryz.zeroValue9
  t46 := Tryz.underlying141
  a46 := Tryz.isAgg141
  z46 := Tryz.sizeOf141
  v46 := Tryz.zeroValue141
  t53 := Tryz.underlying44
  a53 := Tryz.isAgg44
  z53 := Tryz.sizeOf44
  v53 := Tryz.zeroValue44 }
theorem Tryz.bits_LeadingZeros64 (x : Int) (w : World) (h0 : 0 ≤ x) (h1 : x ≤ 18446744073709551615) :
    Calls Tryz.prog 197 #[.int .u64 x] w fun e w' => e = .returned (.int .i64 (64 - (Lib.bitLen x.toNat : Int))) ∧ w' = w := Any.bits_LeadingZeros64 Tryz.lays134 x w h0 h1
def Tryz.lays264_ren : Go.Shelf.Ren := ⟨fun | 264 => 177 | n => n, fun | 53 => 44 | 46 => 141 | n => n, fun | n => n⟩
theorem Tryz.lays264 : Go.Proofs.Lays.n264 Tryz.prog Tryz.lays264_ren := {
  mixed := by kernel_rfl
  f264 := Tryz.func177.trans (congrArg some (by kernel_rfl))
  t46 := Tryz.underlying141
  a46 := Tryz.isAgg141
  z46 := Tryz.sizeOf141
  v46 := Tryz.zeroValue141
  t53 := Tryz.underlying44
  a53 := Tryz.isAgg44
  z53 := Tryz.sizeOf44
  v53 := Tryz.zeroValue44 }
open Go.RowKit Go.Lib in
theorem Tryz.bits_Mul64 (x y : Nat) (hx : x < 18446744073709551616) (hy : y < 18446744073709551616) (w : World) :
    Calls Tryz.prog 177 #[.int .u64 x, .int .u64 y] w fun e w' => e = .returned (.tuple #[.int .u64 ((x * y / 18446744073709551616 : Nat) : Int), .int .u64 ((x * y % 18446744073709551616 : Nat) : Int)]) ∧ w' = w := Any.bits_Mul64 Tryz.lays264 x y hx hy w
def Tryz.laysSlF6_f101_ren : Go.Shelf.Ren := ⟨fun | 6 => 101 | 15 => 145 | 14 => 144 | 28 => 188 | 29 => 189 | 20 => 180 | 21 => 181 | 22 => 182 | 23 => 183 | 24 => 184 | 25 => 185 | 26 => 186 | 27 => 187 | 46 => 198 | 47 => 199 | 48 => 200 | 49 => 201 | 50 => 202 | 57 => 208 | n => n, fun | 22 => 76 | 24 => 3 | 25 => 147 | 3 => 3 | 39 => 141 | 0 => 0 | 53 => 218 | 55 => 44 | 4 => 4 | 46 => 212 | 45 => 211 | 50 => 94 | 5 => 5 | 9 => 9 | 66 => 226 | 70 => 230 | 76 => 234 | 77 => 235 | n => n, fun | n => n⟩
theorem Tryz.laysSlF6_f101 : Go.Proofs.SlLaysF.n6 Tryz.prog Tryz.laysSlF6_f101_ren := {
  mixed := by kernel_rfl
  f6 := ⟨Tryz.f101.name, by decide, Tryz.func101.trans (congrArg some (by kernel_rfl))⟩
  f14 := ⟨Tryz.f144.name, by decide, Tryz.func144.trans (congrArg some (by kernel_rfl))⟩
  f15 := Tryz.func145.trans (congrArg some (by kernel_rfl))
  f20 := ⟨Tryz.f180.name, by decide, Tryz.func180.trans (congrArg some (by kernel_rfl))⟩
  f21 := ⟨Tryz.f181.name, by decide, Tryz.func181.trans (congrArg some (by kernel_rfl))⟩
  f22 := ⟨Tryz.f182.name, by decide, Tryz.func182.trans (congrArg some (by kernel_rfl))⟩
  f23 := ⟨Tryz.f183.name, by decide, Tryz.func183.trans (congrArg some (by kernel_rfl))⟩
  f24 := ⟨Tryz.f184.name, by decide, Tryz.func184.trans (congrArg some (by kernel_rfl))⟩
  f25 := ⟨Tryz.f185.name, by decide, Tryz.func185.trans (congrArg some (by kernel_rfl))⟩
  f26 := ⟨Tryz.f186.name, by decide, Tryz.func186.trans (congrArg some (by kernel_rfl))⟩
  f27 := ⟨Tryz.f187.name, by decide, Tryz.func187.trans (congrArg some (by kernel_rfl))⟩
  f28 := Tryz.func188.trans (congrArg some (by kernel_rfl))
  f29 := Tryz.func189.trans (congrArg some (by kernel_rfl))
  f46 := ⟨Tryz.f198.name, by decide, Tryz.func198.trans (congrArg some (by kernel_rfl))⟩
  f47 := Tryz.func199.trans (congrArg some (by kernel_rfl))
  f48 := Tryz.func200.trans (congrArg some (by kernel_rfl))
  f49 := ⟨Tryz.f201.name, by decide, Tryz.func201.trans (congrArg some (by kernel_rfl))⟩
  f50 := ⟨Tryz.f202.name, by decide, Tryz.func202.trans (congrArg some (by kernel_rfl))⟩
  f57 := ⟨Tryz.f208.name, by decide, Tryz.func208.trans (congrArg some (by kernel_rfl))⟩
  t0 := Tryz.underlying0
  a0 := Tryz.isAgg0
  z0 := Tryz.sizeOf0
  v0 := Tryz.zeroValue0
  t3 := Tryz.underlying3
  a3 := Tryz.isAgg3
  z3 := Tryz.sizeOf3
  v3 := Tryz.zeroValue3
  t4 := Tryz.underlying4
  a4 := Tryz.isAgg4
  z4 := Tryz.sizeOf4
  v4 := Tryz.zeroValue4
  t5 := Tryz.underlying5
  a5 := Tryz.isAgg5
  z5 := Tryz.sizeOf5
  v5 := Tryz.zeroValue5
  t9 := Tryz.underlying9
  a9 := Tryz.isAgg9
  z9 := Tryz.sizeOf9
  v9 := Tryz.zeroValue9
  t22 := Tryz.underlying76
  a22 := Tryz.isAgg76
  z22 := Tryz.sizeOf76
  v22 := Tryz.zeroValue76
  a24 := Tryz.isAgg3
  z24 := Tryz.sizeOf3
  t25 := Tryz.underlying147
  a25 := Tryz.isAgg147
  z25 := Tryz.sizeOf147
  v25 := Tryz.zeroValue147
  t39 := Tryz.underlying141
  a39 := Tryz.isAgg141
  z39 := Tryz.sizeOf141
  v39 := Tryz.zeroValue141
  t45 := Tryz.underlying211
  a45 := Tryz.isAgg211
  z45 := Tryz.sizeOf211
  v45 := Tryz.zeroValue211
  t46 := Tryz.underlying212
  a46 := Tryz.isAgg212
  z46 := Tryz.sizeOf212
  v46 := Tryz.zeroValue212
  t50 := Tryz.underlying94
  a50 := Tryz.isAgg94
  z50 := Tryz.sizeOf94
  v50 := Tryz.zeroValue94
  t53 := Tryz.underlying218
  a53 := Tryz.isAgg218
  z53 := Tryz.sizeOf218
  v53 := Tryz.zeroValue218
  t55 := Tryz.underlying44
  a55 := Tryz.isAgg44
  z55 := Tryz.sizeOf44
  v55 := Tryz.zeroValue44
  t66 := Tryz.underlying226
  a66 := Tryz.isAgg226
  z66 := Tryz.sizeOf226
  v66 := Tryz.zeroValue226
  t70 := Tryz.underlying230
  a70 := Tryz.isAgg230
  z70 := Tryz.sizeOf230
  v70 := Tryz.zeroValue230
  t76 := Tryz.underlying234
  a76 := Tryz.isAgg234
  z76 := Tryz.sizeOf234
  v76 := Tryz.zeroValue234
  t77 := Tryz.underlying235
  a77 := Tryz.isAgg235
  z77 := Tryz.sizeOf235
  v77 := Tryz.zeroValue235 }
open Go.RowKit Go.Lib Go.Sort in
theorem Tryz.slices_SortFunc {α : Type} [Inhabited α] (enc : α → Value) (h1 : OneCell enc) (cf : α → α → Int) (hO : SWO (ltOf cf)) (g : Nat) (cb : Array Value) (blk off cap : Nat) (d : Array α) (w : World) (eg : ∀ args w, (callFunc g args).run Tryz.prog w = .ok (.enter g args) w) (hcmp : CmpLays1 Tryz.prog g cb enc cf blk off d.size w) (hH : Holds enc w blk off d) (hblk : blk < w.heap.size) (hsz : d.size < 4611686018427387904) :
    Calls Tryz.prog 101 #[.slice (some ⟨blk, off, none⟩) d.size cap, .func (.func g) #[] cb] w fun e w' =>
      e = .returned (.tuple #[]) ∧ ∃ d' n os, PermIn 0 d.size d d' ∧ SortedIn (ltOf cf) 0 d.size d' ∧ w' = sortWorld enc w blk off n d' os := Any.slices_SortFunc Tryz.laysSlF6_f101 enc h1 cf hO g cb blk off cap d w eg hcmp hH hblk hsz
def Tryz.laysSlF06_f101_ren : Go.Shelf.Ren := ⟨fun | 6 => 101 | 15 => 145 | 14 => 144 | 28 => 188 | 29 => 189 | 20 => 180 | 21 => 181 | 22 => 182 | 23 => 183 | 24 => 184 | 25 => 185 | 26 => 186 | 27 => 187 | 46 => 198 | 47 => 199 | 48 => 200 | 49 => 201 | 50 => 202 | 57 => 208 | n => n, fun | 22 => 76 | 24 => 3 | 25 => 147 | 3 => 3 | 39 => 141 | 0 => 0 | 53 => 218 | 55 => 44 | 4 => 4 | 46 => 212 | 45 => 211 | 50 => 94 | 5 => 5 | 9 => 9 | 66 => 226 | 70 => 230 | 76 => 234 | 77 => 235 | n => n, fun | n => n⟩
theorem Tryz.laysSlF06_f101 : Go.Proofs.SlLaysF0.n6 Tryz.prog Tryz.laysSlF06_f101_ren := {
  mixed := by kernel_rfl
  f6 := ⟨Tryz.f101.name, by decide, Tryz.func101.trans (congrArg some (by kernel_rfl))⟩
  f14 := ⟨Tryz.f144.name, by decide, Tryz.func144.trans (congrArg some (by kernel_rfl))⟩
  f15 := Tryz.func145.trans (congrArg some (by kernel_rfl))
  f20 := ⟨Tryz.f180.name, by decide, Tryz.func180.trans (congrArg some (by kernel_rfl))⟩
  f21 := ⟨Tryz.f181.name, by decide, Tryz.func181.trans (congrArg some (by kernel_rfl))⟩
  f22 := ⟨Tryz.f182.name, by decide, Tryz.func182.trans (congrArg some (by kernel_rfl))⟩
  f23 := ⟨Tryz.f183.name, by decide, Tryz.func183.trans (congrArg some (by kernel_rfl))⟩
  f24 := ⟨Tryz.f184.name, by decide, Tryz.func184.trans (congrArg some (by kernel_rfl))⟩
  f25 := ⟨Tryz.f185.name, by decide, Tryz.func185.trans (congrArg some (by kernel_rfl))⟩
  f26 := ⟨Tryz.f186.name, by decide, Tryz.func186.trans (congrArg some (by kernel_rfl))⟩
  f27 := ⟨Tryz.f187.name, by decide, Tryz.func187.trans (congrArg some (by kernel_rfl))⟩
  f28 := Tryz.func188.trans (congrArg some (by kernel_rfl))
  f29 := Tryz.func189.trans (congrArg some (by kernel_rfl))
  f46 := ⟨Tryz.f198.name, by decide, Tryz.func198.trans (congrArg some (by kernel_rfl))⟩
  f47 := Tryz.func199.trans (congrArg some (by kernel_rfl))
  f48 := Tryz.func200.trans (congrArg some (by kernel_rfl))
  f49 := ⟨Tryz.f201.name, by decide, Tryz.func201.trans (congrArg some (by kernel_rfl))⟩
  f50 := ⟨Tryz.f202.name, by decide, Tryz.func202.trans (congrArg some (by kernel_rfl))⟩
  f57 := ⟨Tryz.f208.name, by decide, Tryz.func208.trans (congrArg some (by kernel_rfl))⟩
  t0 := Tryz.underlying0
  a0 := Tryz.isAgg0
  z0 := Tryz.sizeOf0
  v0 := Tryz.zeroValue0
  t3 := Tryz.underlying3
  a3 := Tryz.isAgg3
  z3 := Tryz.sizeOf3
  v3 := Tryz.zeroValue3
  t4 := Tryz.underlying4
  a4 := Tryz.isAgg4
  z4 := Tryz.sizeOf4
  v4 := Tryz.zeroValue4
  t5 := Tryz.underlying5
  a5 := Tryz.isAgg5
  z5 := Tryz.sizeOf5
  v5 := Tryz.zeroValue5
  t9 := Tryz.underlying9
  a9 := Tryz.isAgg9
  z9 := Tryz.sizeOf9
  v9 := Tryz.zeroValue9
  t22 := Tryz.underlying76
  a22 := Tryz.isAgg76
  z22 := Tryz.sizeOf76
  v22 := Tryz.zeroValue76
  t25 := Tryz.underlying147
  a25 := Tryz.isAgg147
  z25 := Tryz.sizeOf147
  v25 := Tryz.zeroValue147
  t39 := Tryz.underlying141
  a39 := Tryz.isAgg141
  z39 := Tryz.sizeOf141
  v39 := Tryz.zeroValue141
  t45 := Tryz.underlying211
  a45 := Tryz.isAgg211
  z45 := Tryz.sizeOf211
  v45 := Tryz.zeroValue211
  t46 := Tryz.underlying212
  a46 := Tryz.isAgg212
  z46 := Tryz.sizeOf212
  v46 := Tryz.zeroValue212
  t50 := Tryz.underlying94
  a50 := Tryz.isAgg94
  z50 := Tryz.sizeOf94
  v50 := Tryz.zeroValue94
  t53 := Tryz.underlying218
  a53 := Tryz.isAgg218
  z53 := Tryz.sizeOf218
  v53 := Tryz.zeroValue218
  t55 := Tryz.underlying44
  a55 := Tryz.isAgg44
  z55 := Tryz.sizeOf44
  v55 := Tryz.zeroValue44
  t66 := Tryz.underlying226
  a66 := Tryz.isAgg226
  z66 := Tryz.sizeOf226
  v66 := Tryz.zeroValue226
  t70 := Tryz.underlying230
  a70 := Tryz.isAgg230
  z70 := Tryz.sizeOf230
  v70 := Tryz.zeroValue230
  t76 := Tryz.underlying234
  a76 := Tryz.isAgg234
  z76 := Tryz.sizeOf234
  v76 := Tryz.zeroValue234
  t77 := Tryz.underlying235
  a77 := Tryz.isAgg235
  z77 := Tryz.sizeOf235
  v77 := Tryz.zeroValue235 }
open Go.RowKit Go.Lib Go.Sort in
theorem Tryz.slices_SortFunc_none {α : Type} [Inhabited α] (p : Option Addr) (cap : Nat) (fv : Value) (w : World) :
    Calls Tryz.prog 101 #[.slice p 0 cap, fv] w fun e w' => e = .returned (.tuple #[]) ∧ w' = w := AnyF.slices_SortFunc_none Tryz.laysSlF06_f101 p cap fv w
end Go.Proofs
