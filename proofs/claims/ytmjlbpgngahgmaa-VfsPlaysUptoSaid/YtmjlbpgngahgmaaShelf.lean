/-
  DERIVED: THE SHELF's CONTRACTS AT THIS DUMP, IN PLAIN WORDS (tools/lay-plain.mjs out of 'YtmjlbpgngahgmaaShelf0.lean', which tools/lay-shelf.mjs wrote): THE SAME DECLARATIONS UNDER THE SAME NAMES: 'import', 'namespace', 'open', 'def', 'theorem' AND NOTHING ELSE: no command of the shelf's: FOR A HAND-IN. Each laying: the table of numbers ('.._ren') and one theorem, a field a fact of the dump's own or the kernel's comparison; each contract: ONE APPLICATION.
-/
import Derived.Shelf.SlIter.Nil
import Derived.Ground.GgzProg
import Derived.Shelf.SortM.Plain
import Derived.Shelf.SortM.SortNone
import Derived.Ground.SlgmProg
import Derived.Shelf.SlMaps.Clone
import Derived.Ground.SlmcProg
import Derived.Shelf.SlMaps.Copy
import Derived.Ground.SlmpProg
import Derived.Test.YtmjlbpgngahgmaaProg
namespace Go.Proofs
open Go.Shelf
def Try.keysS_ren : Go.Shelf.Ren := ⟨fun | 7 => 42 | 10 => 57 | n => n, fun | 23 => 40 | 26 => 9 | 3 => 3 | 28 => 72 | 0 => 0 | 27 => 71 | 33 => 61 | 4 => 4 | n => n, fun | n => n⟩
theorem Try.keysS : Go.Proofs.SlLaysZ.n7 Try.prog Try.keysS_ren := {
  mixed := by kernel_rfl
  f7 := ⟨Try.f42.name, by decide, Try.func42.trans (congrArg some (by kernel_rfl))⟩
  f10 := ⟨Try.f57.name, by decide, Try.func57.trans (congrArg some (by kernel_rfl))⟩
  t0 := Try.underlying0
  a0 := Try.isAgg0
  z0 := Try.sizeOf0
  v0 := Try.zeroValue0
  t4 := Try.underlying4
  a4 := Try.isAgg4
  z4 := Try.sizeOf4
  v4 := Try.zeroValue4
  t23 := Try.underlying40
  a23 := Try.isAgg40
  z23 := Try.sizeOf40
  v23 := Try.zeroValue40
  t26 := Try.underlying9
  a26 := Try.isAgg9
  z26 := Try.sizeOf9
  v26 := Try.zeroValue9
  t27 := Try.underlying71
  a27 := Try.isAgg71
  z27 := Try.sizeOf71
  v27 := Try.zeroValue71
  t28 := Try.underlying72
  a28 := Try.isAgg72
  z28 := Try.sizeOf72
  v28 := Try.zeroValue72
  t33 := Try.underlying61
  a33 := Try.isAgg61
  z33 := Try.sizeOf61
  v33 := Try.zeroValue61 }
def Try.sortedS_ren : Go.Shelf.Ren := ⟨fun | 6 => 41 | 8 => 55 | 9 => 56 | 11 => 59 | 13 => 61 | 12 => 60 | 23 => 71 | 24 => 72 | 14 => 62 | 15 => 63 | 16 => 64 | 17 => 65 | 18 => 66 | 19 => 67 | 20 => 68 | 21 => 69 | 22 => 70 | 25 => 73 | 26 => 74 | 27 => 75 | 28 => 76 | 29 => 77 | 30 => 78 | 31 => 79 | n => n, fun | 26 => 9 | 28 => 72 | 24 => 50 | 0 => 0 | 3 => 3 | 37 => 90 | 48 => 103 | 50 => 82 | 4 => 4 | 40 => 96 | 39 => 95 | 45 => 69 | 5 => 5 | 9 => 9 | 51 => 105 | 55 => 108 | 57 => 110 | 58 => 111 | 33 => 61 | n => n, fun | n => n⟩
theorem Try.sortedS : Go.Proofs.SlLaysZ.n6 Try.prog Try.sortedS_ren := {
  mixed := by kernel_rfl
  f6 := ⟨Try.f41.name, by decide, Try.func41.trans (congrArg some (by kernel_rfl))⟩
  f8 := ⟨Try.f55.name, by decide, Try.func55.trans (congrArg some (by kernel_rfl))⟩
  f11 := ⟨Try.f59.name, by decide, Try.func59.trans (congrArg some (by kernel_rfl))⟩
  t0 := Try.underlying0
  a0 := Try.isAgg0
  z0 := Try.sizeOf0
  v0 := Try.zeroValue0
  t24 := Try.underlying50
  a24 := Try.isAgg50
  z24 := Try.sizeOf50
  v24 := Try.zeroValue50
  t26 := Try.underlying9
  a26 := Try.isAgg9
  z26 := Try.sizeOf9
  v26 := Try.zeroValue9
  t28 := Try.underlying72
  a28 := Try.isAgg72
  z28 := Try.sizeOf72
  v28 := Try.zeroValue72
  i26 := by kernel_rfl }
def Try.sortS_ren : Go.Shelf.Ren := ⟨fun | 6 => 56 | 8 => 61 | 9 => 60 | 19 => 71 | 20 => 72 | 21 => 62 | 22 => 63 | 23 => 64 | 24 => 65 | 25 => 66 | 26 => 67 | 27 => 68 | 28 => 69 | 29 => 70 | 36 => 73 | 31 => 74 | 32 => 75 | 37 => 76 | 38 => 77 | 39 => 78 | 41 => 79 | n => n, fun | 27 => 50 | 29 => 9 | 3 => 3 | 32 => 90 | 26 => 50 | 0 => 0 | 44 => 103 | 46 => 82 | 4 => 4 | 36 => 96 | 35 => 95 | 41 => 69 | 5 => 5 | 9 => 9 | 53 => 105 | 57 => 108 | 63 => 110 | 64 => 111 | n => n, fun | n => n⟩
theorem Try.sortS : Go.Proofs.SlLaysM.n6 Try.prog Try.sortS_ren := {
  mixed := by kernel_rfl
  f6 := ⟨Try.f56.name, by decide, Try.func56.trans (congrArg some (by kernel_rfl))⟩
  f8 := Try.func61.trans (congrArg some (by kernel_rfl))
  f9 := ⟨Try.f60.name, by decide, Try.func60.trans (congrArg some (by kernel_rfl))⟩
  f19 := Try.func71.trans (congrArg some (by kernel_rfl))
  f20 := Try.func72.trans (congrArg some (by kernel_rfl))
  f21 := ⟨Try.f62.name, by decide, Try.func62.trans (congrArg some (by kernel_rfl))⟩
  f22 := ⟨Try.f63.name, by decide, Try.func63.trans (congrArg some (by kernel_rfl))⟩
  f23 := ⟨Try.f64.name, by decide, Try.func64.trans (congrArg some (by kernel_rfl))⟩
  f24 := ⟨Try.f65.name, by decide, Try.func65.trans (congrArg some (by kernel_rfl))⟩
  f25 := ⟨Try.f66.name, by decide, Try.func66.trans (congrArg some (by kernel_rfl))⟩
  f26 := ⟨Try.f67.name, by decide, Try.func67.trans (congrArg some (by kernel_rfl))⟩
  f27 := ⟨Try.f68.name, by decide, Try.func68.trans (congrArg some (by kernel_rfl))⟩
  f28 := ⟨Try.f69.name, by decide, Try.func69.trans (congrArg some (by kernel_rfl))⟩
  f29 := ⟨Try.f70.name, by decide, Try.func70.trans (congrArg some (by kernel_rfl))⟩
  f31 := Try.func74.trans (congrArg some (by kernel_rfl))
  f32 := Try.func75.trans (congrArg some (by kernel_rfl))
  f36 := ⟨Try.f73.name, by decide, Try.func73.trans (congrArg some (by kernel_rfl))⟩
  f37 := ⟨Try.f76.name, by decide, Try.func76.trans (congrArg some (by kernel_rfl))⟩
  f38 := ⟨Try.f77.name, by decide, Try.func77.trans (congrArg some (by kernel_rfl))⟩
  f39 := ⟨Try.f78.name, by decide, Try.func78.trans (congrArg some (by kernel_rfl))⟩
  f41 := ⟨Try.f79.name, by decide, Try.func79.trans (congrArg some (by kernel_rfl))⟩
  t0 := Try.underlying0
  a0 := Try.isAgg0
  z0 := Try.sizeOf0
  v0 := Try.zeroValue0
  t3 := Try.underlying3
  a3 := Try.isAgg3
  z3 := Try.sizeOf3
  v3 := Try.zeroValue3
  t4 := Try.underlying4
  a4 := Try.isAgg4
  z4 := Try.sizeOf4
  v4 := Try.zeroValue4
  t5 := Try.underlying5
  a5 := Try.isAgg5
  z5 := Try.sizeOf5
  v5 := Try.zeroValue5
  t9 := Try.underlying9
  a9 := Try.isAgg9
  z9 := Try.sizeOf9
  v9 := Try.zeroValue9
  t26 := Try.underlying50
  a26 := Try.isAgg50
  z26 := Try.sizeOf50
  v26 := Try.zeroValue50
  t27 := Try.underlying50
  a27 := Try.isAgg50
  z27 := Try.sizeOf50
  v27 := Try.zeroValue50
  t29 := Try.underlying9
  a29 := Try.isAgg9
  z29 := Try.sizeOf9
  v29 := Try.zeroValue9
  t32 := Try.underlying90
  a32 := Try.isAgg90
  z32 := Try.sizeOf90
  v32 := Try.zeroValue90
  t35 := Try.underlying95
  a35 := Try.isAgg95
  z35 := Try.sizeOf95
  v35 := Try.zeroValue95
  t36 := Try.underlying96
  a36 := Try.isAgg96
  z36 := Try.sizeOf96
  v36 := Try.zeroValue96
  t41 := Try.underlying69
  a41 := Try.isAgg69
  z41 := Try.sizeOf69
  v41 := Try.zeroValue69
  t44 := Try.underlying103
  a44 := Try.isAgg103
  z44 := Try.sizeOf103
  v44 := Try.zeroValue103
  t46 := Try.underlying82
  a46 := Try.isAgg82
  z46 := Try.sizeOf82
  v46 := Try.zeroValue82
  t53 := Try.underlying105
  a53 := Try.isAgg105
  z53 := Try.sizeOf105
  v53 := Try.zeroValue105
  t57 := Try.underlying108
  a57 := Try.isAgg108
  z57 := Try.sizeOf108
  v57 := Try.zeroValue108
  t63 := Try.underlying110
  a63 := Try.isAgg110
  z63 := Try.sizeOf110
  v63 := Try.zeroValue110
  t64 := Try.underlying111
  a64 := Try.isAgg111
  z64 := Try.sizeOf111
  v64 := Try.zeroValue111 }
def Try.cloneS_ren : Go.Shelf.Ren := ⟨fun | 5 => 49 | 7 => 58 | n => n, fun | 23 => 40 | 25 => 9 | 3 => 3 | 4 => 4 | 20 => 20 | n => n, fun | n => n⟩
theorem Try.cloneS : Go.Proofs.SlLaysW.n5 Try.prog Try.cloneS_ren := {
  mixed := by kernel_rfl
  f5 := ⟨Try.f49.name, by decide, Try.func49.trans (congrArg some (by kernel_rfl))⟩
  f7 := Try.func58.trans (congrArg some (by kernel_rfl))
  t4 := Try.underlying4
  a4 := Try.isAgg4
  z4 := Try.sizeOf4
  v4 := Try.zeroValue4
  t20 := Try.underlying20
  a20 := Try.isAgg20
  z20 := Try.sizeOf20
  v20 := Try.zeroValue20
  t23 := Try.underlying40
  a23 := Try.isAgg40
  z23 := Try.sizeOf40
  v23 := Try.zeroValue40 }
def Try.copyS_ren : Go.Shelf.Ren := ⟨fun | 5 => 50 | n => n, fun | 23 => 40 | 24 => 40 | 26 => 9 | 27 => 3 | 0 => 0 | 4 => 4 | n => n, fun | n => n⟩
theorem Try.copyS : Go.Proofs.SlLaysX.n5 Try.prog Try.copyS_ren := {
  mixed := by kernel_rfl
  f5 := ⟨Try.f50.name, by decide, Try.func50.trans (congrArg some (by kernel_rfl))⟩
  t0 := Try.underlying0
  a0 := Try.isAgg0
  z0 := Try.sizeOf0
  v0 := Try.zeroValue0
  t4 := Try.underlying4
  a4 := Try.isAgg4
  z4 := Try.sizeOf4
  v4 := Try.zeroValue4
  t23 := Try.underlying40
  a23 := Try.isAgg40
  z23 := Try.sizeOf40
  v23 := Try.zeroValue40
  t24 := Try.underlying40
  a24 := Try.isAgg40
  z24 := Try.sizeOf40
  v24 := Try.zeroValue40
  a26 := Try.isAgg9
  z26 := Try.sizeOf9
  a27 := Try.isAgg3
  z27 := Try.sizeOf3 }
end Go.Proofs
