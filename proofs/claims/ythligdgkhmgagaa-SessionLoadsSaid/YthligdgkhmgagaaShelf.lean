/-
  DERIVED: THE SHELF's CONTRACTS AT THIS DUMP, IN PLAIN WORDS (tools/lay-plain.mjs out of 'TryShelf.lean', which tools/lay-shelf.mjs wrote): THE SAME DECLARATIONS UNDER THE SAME NAMES: 'import', 'namespace', 'open', 'def', 'theorem' AND NOTHING ELSE: no command of the shelf's: FOR A HAND-IN. Each laying: the table of numbers ('.._ren') and one theorem, a field a fact of the dump's own or the kernel's comparison; each contract: ONE APPLICATION.
-/
import Derived.Shelf.Small.Bits
import Derived.Shelf.Strconv.Itoa0
import Derived.Ground.SlbCloneProg
import Derived.Shelf.Bytes.SlClone
import Derived.Shelf.SlIterI.Nil
import Derived.Shelf.SlIterI.Sorted
import Derived.Shelf.SortM.Plain
import Derived.Shelf.SortM.SortNone
import Derived.Ground.GgzProg
import Derived.Ground.SlgmProg
import Derived.Shelf.SlGeneric
import Derived.Test.YthligdgkhmgagaaProg
namespace Go.Proofs
open Go.Shelf
def Try.lays128_ren : Go.Shelf.Ren := ⟨fun | 128 => 92 | n => n, fun | 51 => 142 | 3 => 3 | 4 => 4 | 46 => 124 | 5 => 5 | 9 => 9 | n => n, fun | n => n⟩
theorem Try.lays128 : Go.Proofs.Lays.n128 Try.prog Try.lays128_ren := {
  mixed := by kernel_rfl
  f128 := Try.func92.trans (congrArg some (by kernel_rfl))
  t3 := Try.underlying3
  a3 := Try.isAgg3
  z3 := Try.sizeOf3
  v3 := Try.zeroValue3
  t4 := Try.underlying4
  a4 := Try.isAgg4
  z4 := Try.sizeOf4
  v4 := Try.zeroValue4
  t5 := Try.underlying5
  a5 := Try.isAgg5
  z5 := Try.sizeOf5
  v5 := Try.zeroValue5
  t9 := Try.underlying9
  a9 := Try.isAgg9
  z9 := Try.sizeOf9
  v9 := Try.zeroValue9
  t46 := Try.underlying124
  a46 := Try.isAgg124
  z46 := Try.sizeOf124
  v46 := Try.zeroValue124
  t51 := Try.underlying142
  a51 := Try.isAgg142
  z51 := Try.sizeOf142
  v51 := Try.zeroValue142 }
/-- bits.Len32: "Len32 returns the minimum number of bits required to represent x; the result is 0 for x == 0.": IT RETURNS 'Lib.bitLen x'; the world is as it was. ('h0', 'h1': x is a uint32.) (LAID: no walk: one application.) -/
theorem Try.bits_Len32 (x : Int) (w : World) (h0 : 0 ≤ x) (h1 : x ≤ 4294967295) :
    Calls Try.prog 92 #[.int .u32 x] w fun e w' => e = .returned (.int .i64 (Lib.bitLen x.toNat)) ∧ w' = w := Any.bits_Len32 Try.lays128 x w h0 h1
def Try.lays125_ren : Go.Shelf.Ren := ⟨fun | 125 => 79 | 128 => 92 | 129 => 81 | n => n, fun | 46 => 124 | 3 => 3 | 51 => 142 | 53 => 100 | 4 => 4 | 5 => 5 | 9 => 9 | n => n, fun | n => n⟩
theorem Try.lays125 : Go.Proofs.Lays.n125 Try.prog Try.lays125_ren := {
  mixed := by kernel_rfl
  f125 := Try.func79.trans (congrArg some (by kernel_rfl))
  f128 := Try.func92.trans (congrArg some (by kernel_rfl))
  f129 := Try.func81.trans (congrArg some (by kernel_rfl))
  t3 := Try.underlying3
  a3 := Try.isAgg3
  z3 := Try.sizeOf3
  v3 := Try.zeroValue3
  t4 := Try.underlying4
  a4 := Try.isAgg4
  z4 := Try.sizeOf4
  v4 := Try.zeroValue4
  t5 := Try.underlying5
  a5 := Try.isAgg5
  z5 := Try.sizeOf5
  v5 := Try.zeroValue5
  t9 := Try.underlying9
  a9 := Try.isAgg9
  z9 := Try.sizeOf9
  v9 := Try.zeroValue9
  t46 := Try.underlying124
  a46 := Try.isAgg124
  z46 := Try.sizeOf124
  v46 := Try.zeroValue124
  t51 := Try.underlying142
  a51 := Try.isAgg142
  z51 := Try.sizeOf142
  v51 := Try.zeroValue142
  t53 := Try.underlying100
  a53 := Try.isAgg100
  z53 := Try.sizeOf100
  v53 := Try.zeroValue100 }
/-- bits.Len: "Len returns the minimum number of bits required to represent x; the result is 0 for x == 0.": IT RETURNS 'Lib.bitLen x'; the world is as it was. (A uint has 64 bits in the model.) ITS CALLEE bits.Len64 IS MET BY ITS OWN CONTRACT OFF THE SHELF (lay that first). (LAID: no walk: one application.) -/
theorem Try.bits_Len (x : Int) (w : World) (h0 : 0 ≤ x) (h1 : x ≤ 18446744073709551615) :
    Calls Try.prog 79 #[.int .u64 x] w fun e w' => e = .returned (.int .i64 (Lib.bitLen x.toNat)) ∧ w' = w := Any.bits_Len Try.lays125 x w h0 h1
def Try.lays129_ren : Go.Shelf.Ren := ⟨fun | 129 => 81 | n => n, fun | 53 => 100 | 3 => 3 | 4 => 4 | 46 => 124 | 5 => 5 | 9 => 9 | n => n, fun | n => n⟩
theorem Try.lays129 : Go.Proofs.Lays.n129 Try.prog Try.lays129_ren := {
  mixed := by kernel_rfl
  f129 := Try.func81.trans (congrArg some (by kernel_rfl))
  t3 := Try.underlying3
  a3 := Try.isAgg3
  z3 := Try.sizeOf3
  v3 := Try.zeroValue3
  t4 := Try.underlying4
  a4 := Try.isAgg4
  z4 := Try.sizeOf4
  v4 := Try.zeroValue4
  t5 := Try.underlying5
  a5 := Try.isAgg5
  z5 := Try.sizeOf5
  v5 := Try.zeroValue5
  t9 := Try.underlying9
  a9 := Try.isAgg9
  z9 := Try.sizeOf9
  v9 := Try.zeroValue9
  t46 := Try.underlying124
  a46 := Try.isAgg124
  z46 := Try.sizeOf124
  v46 := Try.zeroValue124
  t53 := Try.underlying100
  a53 := Try.isAgg100
  z53 := Try.sizeOf100
  v53 := Try.zeroValue100 }
/-- bits.Len64: "Len64 returns the minimum number of bits required to represent x; the result is 0 for x == 0.": IT RETURNS 'Lib.bitLen x'; the world is as it was. ('h0', 'h1': x is a uint64.) (LAID: no walk: one application.) -/
theorem Try.bits_Len64 (x : Int) (w : World) (h0 : 0 ≤ x) (h1 : x ≤ 18446744073709551615) :
    Calls Try.prog 81 #[.int .u64 x] w fun e w' => e = .returned (.int .i64 (Lib.bitLen x.toNat)) ∧ w' = w := Any.bits_Len64 Try.lays129 x w h0 h1
def Try.laysSlK4_ren : Go.Shelf.Ren := ⟨fun | 4 => 65 | n => n, fun | 22 => 80 | 4 => 4 | 5 => 5 | n => n, fun | n => n⟩
theorem Try.laysSlK4 : Go.Proofs.SlLaysK.n4 Try.prog Try.laysSlK4_ren := {
  mixed := by kernel_rfl
  f4 := Try.func65.trans (congrArg some (by kernel_rfl))
  t4 := Try.underlying4
  a4 := Try.isAgg4
  z4 := Try.sizeOf4
  v4 := Try.zeroValue4
  t22 := Try.underlying80
  a22 := Try.isAgg80
  z22 := Try.sizeOf80
  v22 := Try.zeroValue80
  t5 := Try.underlying5
  i5 := by kernel_rfl }
open Go.RowKit Go.Lib in
/-- bytes.Clone: "Clone returns a copy of b[:len(b)]. The result may have additional unused capacity.": OF A SLICE THAT IS NOT nil IT RETURNS A SLICE THAT IS NOT nil, OF THE SAME BYTES, IN MEMORY OF THE CALL's OWN: in the how-to's words (6f): 'w'.ownsRow B e 1 v' n cells' · 'Below B w w'', B the heap's size at the call. b AT WHATEVER ADDRESS, its cells as 'open_ints' hands them ('a.add i'; the numbers 'xs'). No byte: no cell is asked for. (LAID: no walk: one application.) -/
theorem Try.bytes_Clone_at (a : Addr) (n c : Nat) (xs : List Int) (w : World) (hx : xs.length = n) (hbig : n ≤ 140737488355328) (hc : ∀ i, i < n → w.cell? (a.add i) = some (.int .u8 (xs.getD i 0))) :
    Calls Try.prog 65 #[.slice (some a) n c] w fun e w' => ∃ v', e = .returned v' ∧ w'.ownsRow w.heap.size 5 1 v' n (xs.map (Value.int .u8)) ∧ v' ≠ .slice none 0 0 ∧ Below w.heap.size w w' := Any.bytes_Clone_at Try.laysSlK4 a n c xs w hx hbig hc
open Go.RowKit Go.Lib in
/-- "Clone(nil) returns nil.": the world is as it was. (LAID: no walk: one application.) -/
theorem Try.bytes_Clone_nil (n c : Nat) (w : World) :
    Calls Try.prog 65 #[.slice none n c] w fun e w' => e = .returned (.slice none 0 0) ∧ w' = w := Any.bytes_Clone_nil Try.laysSlK4 n c w
def Try.keys26_ren : Go.Shelf.Ren := ⟨fun | 7 => 26 | 10 => 58 | n => n, fun | 23 => 57 | 26 => 3 | 3 => 63 | 28 => 66 | 0 => 0 | 27 => 65 | 33 => 110 | 4 => 4 | n => n, fun | n => n⟩
theorem Try.keys26 : Go.Proofs.SlLaysZI.n7 Try.prog Try.keys26_ren := {
  mixed := by kernel_rfl
  f7 := ⟨Try.f26.name, by decide, Try.func26.trans (congrArg some (by kernel_rfl))⟩
  f10 := ⟨Try.f58.name, by decide, Try.func58.trans (congrArg some (by kernel_rfl))⟩
  t0 := Try.underlying0
  a0 := Try.isAgg0
  z0 := Try.sizeOf0
  v0 := Try.zeroValue0
  t4 := Try.underlying4
  a4 := Try.isAgg4
  z4 := Try.sizeOf4
  v4 := Try.zeroValue4
  t23 := Try.underlying57
  a23 := Try.isAgg57
  z23 := Try.sizeOf57
  v23 := Try.zeroValue57
  t26 := Try.underlying3
  a26 := Try.isAgg3
  z26 := Try.sizeOf3
  v26 := Try.zeroValue3
  t27 := Try.underlying65
  a27 := Try.isAgg65
  z27 := Try.sizeOf65
  v27 := Try.zeroValue65
  t28 := Try.underlying66
  a28 := Try.isAgg66
  z28 := Try.sizeOf66
  v28 := Try.zeroValue66
  t33 := Try.underlying110
  a33 := Try.isAgg110
  z33 := Try.sizeOf110
  v33 := Try.zeroValue110 }
def Try.keys74_ren : Go.Shelf.Ren := ⟨fun | 7 => 74 | 10 => 82 | n => n, fun | 23 => 58 | 26 => 3 | 3 => 28 | 28 => 66 | 0 => 0 | 27 => 65 | 33 => 110 | 4 => 4 | n => n, fun | n => n⟩
theorem Try.keys74 : Go.Proofs.SlLaysZI.n7 Try.prog Try.keys74_ren := {
  mixed := by kernel_rfl
  f7 := ⟨Try.f74.name, by decide, Try.func74.trans (congrArg some (by kernel_rfl))⟩
  f10 := ⟨Try.f82.name, by decide, Try.func82.trans (congrArg some (by kernel_rfl))⟩
  t0 := Try.underlying0
  a0 := Try.isAgg0
  z0 := Try.sizeOf0
  v0 := Try.zeroValue0
  t4 := Try.underlying4
  a4 := Try.isAgg4
  z4 := Try.sizeOf4
  v4 := Try.zeroValue4
  t23 := Try.underlying58
  a23 := Try.isAgg58
  z23 := Try.sizeOf58
  v23 := Try.zeroValue58
  t26 := Try.underlying3
  a26 := Try.isAgg3
  z26 := Try.sizeOf3
  v26 := Try.zeroValue3
  t27 := Try.underlying65
  a27 := Try.isAgg65
  z27 := Try.sizeOf65
  v27 := Try.zeroValue65
  t28 := Try.underlying66
  a28 := Try.isAgg66
  z28 := Try.sizeOf66
  v28 := Try.zeroValue66
  t33 := Try.underlying110
  a33 := Try.isAgg110
  z33 := Try.sizeOf110
  v33 := Try.zeroValue110 }
def Try.sorted25_ren : Go.Shelf.Ren := ⟨fun | 6 => 25 | 8 => 56 | 9 => 57 | 11 => 77 | 13 => 79 | 12 => 78 | 23 => 92 | 24 => 81 | 14 => 83 | 15 => 84 | 16 => 85 | 17 => 86 | 18 => 87 | 19 => 88 | 20 => 89 | 21 => 90 | 22 => 91 | 25 => 93 | 26 => 94 | 27 => 95 | 28 => 96 | 29 => 97 | 30 => 98 | 31 => 99 | n => n, fun | 26 => 3 | 28 => 66 | 24 => 32 | 0 => 0 | 3 => 3 | 37 => 124 | 48 => 142 | 50 => 100 | 4 => 4 | 40 => 135 | 39 => 134 | 45 => 111 | 5 => 5 | 9 => 9 | 51 => 143 | 55 => 146 | 57 => 148 | 58 => 149 | 33 => 110 | n => n, fun | n => n⟩
theorem Try.sorted25 : Go.Proofs.SlLaysZI.n6 Try.prog Try.sorted25_ren := {
  mixed := by kernel_rfl
  f6 := ⟨Try.f25.name, by decide, Try.func25.trans (congrArg some (by kernel_rfl))⟩
  f8 := ⟨Try.f56.name, by decide, Try.func56.trans (congrArg some (by kernel_rfl))⟩
  f11 := ⟨Try.f77.name, by decide, Try.func77.trans (congrArg some (by kernel_rfl))⟩
  t0 := Try.underlying0
  a0 := Try.isAgg0
  z0 := Try.sizeOf0
  v0 := Try.zeroValue0
  t24 := Try.underlying32
  a24 := Try.isAgg32
  z24 := Try.sizeOf32
  v24 := Try.zeroValue32
  t26 := Try.underlying3
  a26 := Try.isAgg3
  z26 := Try.sizeOf3
  v26 := Try.zeroValue3
  t28 := Try.underlying66
  a28 := Try.isAgg66
  z28 := Try.sizeOf66
  v28 := Try.zeroValue66
  i26 := by kernel_rfl }
def Try.sort57_ren : Go.Shelf.Ren := ⟨fun | 5 => 57 | 8 => 79 | 7 => 78 | 19 => 92 | 20 => 81 | 10 => 83 | 11 => 84 | 12 => 85 | 13 => 86 | 14 => 87 | 15 => 88 | 16 => 89 | 17 => 90 | 18 => 91 | 30 => 93 | 31 => 94 | 32 => 95 | 33 => 96 | 34 => 97 | 35 => 98 | 40 => 99 | n => n, fun | 23 => 32 | 25 => 3 | 3 => 3 | 32 => 124 | 22 => 32 | 0 => 0 | 44 => 142 | 46 => 100 | 4 => 4 | 36 => 135 | 35 => 134 | 41 => 111 | 5 => 5 | 9 => 9 | 53 => 143 | 57 => 146 | 63 => 148 | 64 => 149 | n => n, fun | n => n⟩
theorem Try.sort57 : Go.Proofs.SlLaysM.n5 Try.prog Try.sort57_ren := {
  mixed := by kernel_rfl
  f5 := ⟨Try.f57.name, by decide, Try.func57.trans (congrArg some (by kernel_rfl))⟩
  f7 := ⟨Try.f78.name, by decide, Try.func78.trans (congrArg some (by kernel_rfl))⟩
  f8 := Try.func79.trans (congrArg some (by kernel_rfl))
  f10 := ⟨Try.f83.name, by decide, Try.func83.trans (congrArg some (by kernel_rfl))⟩
  f11 := ⟨Try.f84.name, by decide, Try.func84.trans (congrArg some (by kernel_rfl))⟩
  f12 := ⟨Try.f85.name, by decide, Try.func85.trans (congrArg some (by kernel_rfl))⟩
  f13 := ⟨Try.f86.name, by decide, Try.func86.trans (congrArg some (by kernel_rfl))⟩
  f14 := ⟨Try.f87.name, by decide, Try.func87.trans (congrArg some (by kernel_rfl))⟩
  f15 := ⟨Try.f88.name, by decide, Try.func88.trans (congrArg some (by kernel_rfl))⟩
  f16 := ⟨Try.f89.name, by decide, Try.func89.trans (congrArg some (by kernel_rfl))⟩
  f17 := ⟨Try.f90.name, by decide, Try.func90.trans (congrArg some (by kernel_rfl))⟩
  f18 := ⟨Try.f91.name, by decide, Try.func91.trans (congrArg some (by kernel_rfl))⟩
  f19 := Try.func92.trans (congrArg some (by kernel_rfl))
  f20 := Try.func81.trans (congrArg some (by kernel_rfl))
  f30 := ⟨Try.f93.name, by decide, Try.func93.trans (congrArg some (by kernel_rfl))⟩
  f31 := Try.func94.trans (congrArg some (by kernel_rfl))
  f32 := Try.func95.trans (congrArg some (by kernel_rfl))
  f33 := ⟨Try.f96.name, by decide, Try.func96.trans (congrArg some (by kernel_rfl))⟩
  f34 := ⟨Try.f97.name, by decide, Try.func97.trans (congrArg some (by kernel_rfl))⟩
  f35 := ⟨Try.f98.name, by decide, Try.func98.trans (congrArg some (by kernel_rfl))⟩
  f40 := ⟨Try.f99.name, by decide, Try.func99.trans (congrArg some (by kernel_rfl))⟩
  t0 := Try.underlying0
  a0 := Try.isAgg0
  z0 := Try.sizeOf0
  v0 := Try.zeroValue0
  t3 := Try.underlying3
  a3 := Try.isAgg3
  z3 := Try.sizeOf3
  v3 := Try.zeroValue3
  t4 := Try.underlying4
  a4 := Try.isAgg4
  z4 := Try.sizeOf4
  v4 := Try.zeroValue4
  t5 := Try.underlying5
  a5 := Try.isAgg5
  z5 := Try.sizeOf5
  v5 := Try.zeroValue5
  t9 := Try.underlying9
  a9 := Try.isAgg9
  z9 := Try.sizeOf9
  v9 := Try.zeroValue9
  t22 := Try.underlying32
  a22 := Try.isAgg32
  z22 := Try.sizeOf32
  v22 := Try.zeroValue32
  t23 := Try.underlying32
  a23 := Try.isAgg32
  z23 := Try.sizeOf32
  v23 := Try.zeroValue32
  t25 := Try.underlying3
  a25 := Try.isAgg3
  z25 := Try.sizeOf3
  v25 := Try.zeroValue3
  t32 := Try.underlying124
  a32 := Try.isAgg124
  z32 := Try.sizeOf124
  v32 := Try.zeroValue124
  t35 := Try.underlying134
  a35 := Try.isAgg134
  z35 := Try.sizeOf134
  v35 := Try.zeroValue134
  t36 := Try.underlying135
  a36 := Try.isAgg135
  z36 := Try.sizeOf135
  v36 := Try.zeroValue135
  t41 := Try.underlying111
  a41 := Try.isAgg111
  z41 := Try.sizeOf111
  v41 := Try.zeroValue111
  t44 := Try.underlying142
  a44 := Try.isAgg142
  z44 := Try.sizeOf142
  v44 := Try.zeroValue142
  t46 := Try.underlying100
  a46 := Try.isAgg100
  z46 := Try.sizeOf100
  v46 := Try.zeroValue100
  t53 := Try.underlying143
  a53 := Try.isAgg143
  z53 := Try.sizeOf143
  v53 := Try.zeroValue143
  t57 := Try.underlying146
  a57 := Try.isAgg146
  z57 := Try.sizeOf146
  v57 := Try.zeroValue146
  t63 := Try.underlying148
  a63 := Try.isAgg148
  z63 := Try.sizeOf148
  v63 := Try.zeroValue148
  t64 := Try.underlying149
  a64 := Try.isAgg149
  z64 := Try.sizeOf149
  v64 := Try.zeroValue149 }
end Go.Proofs
