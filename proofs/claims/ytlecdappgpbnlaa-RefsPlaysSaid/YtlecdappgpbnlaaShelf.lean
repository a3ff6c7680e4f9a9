/-
  DERIVED: THE SHELF's CONTRACTS AT THIS DUMP, IN PLAIN WORDS (tools/lay-plain.mjs out of 'TryShelf.lean', which tools/lay-shelf.mjs wrote): THE SAME DECLARATIONS UNDER THE SAME NAMES: 'import', 'namespace', 'open', 'def', 'theorem' AND NOTHING ELSE: no command of the shelf's: FOR A HAND-IN. Each laying: the table of numbers ('.._ren') and one theorem, a field a fact of the dump's own or the kernel's comparison; each contract: ONE APPLICATION.
-/
import Derived.Shelf.SlIterI.Nil
import Derived.Shelf.SortM.Plain
import Derived.Shelf.SortM.SortNone
import Derived.Shelf.SlMaps.Equal
import Derived.Shelf.SlMaps.Clone
import Derived.Ground.GgzProg
import Derived.Ground.SlgmProg
import Derived.Ground.SlmeProg
import Derived.Ground.SlmcProg
import Derived.Test.YtlecdappgpbnlaaProg
namespace Go.Proofs
open Go.Shelf
def Try.keysA_ren : Go.Shelf.Ren := ⟨fun | 7 => 28 | 10 => 42 | n => n, fun | 23 => 51 | 26 => 3 | 3 => 3 | 28 => 58 | 0 => 0 | 27 => 57 | 33 => 55 | 4 => 4 | n => n, fun | n => n⟩
theorem Try.keysA : Go.Proofs.SlLaysZI.n7 Try.prog Try.keysA_ren := {
  mixed := by kernel_rfl
  f7 := ⟨Try.f28.name, by decide, Try.func28.trans (congrArg some (by kernel_rfl))⟩
  f10 := ⟨Try.f42.name, by decide, Try.func42.trans (congrArg some (by kernel_rfl))⟩
  t0 := Try.underlying0
  a0 := Try.isAgg0
  z0 := Try.sizeOf0
  v0 := Try.zeroValue0
  t4 := Try.underlying4
  a4 := Try.isAgg4
  z4 := Try.sizeOf4
  v4 := Try.zeroValue4
  t23 := Try.underlying51
  a23 := Try.isAgg51
  z23 := Try.sizeOf51
  v23 := Try.zeroValue51
  t26 := Try.underlying3
  a26 := Try.isAgg3
  z26 := Try.sizeOf3
  v26 := Try.zeroValue3
  t27 := Try.underlying57
  a27 := Try.isAgg57
  z27 := Try.sizeOf57
  v27 := Try.zeroValue57
  t28 := Try.underlying58
  a28 := Try.isAgg58
  z28 := Try.sizeOf58
  v28 := Try.zeroValue58
  t33 := Try.underlying55
  a33 := Try.isAgg55
  z33 := Try.sizeOf55
  v33 := Try.zeroValue55 }
def Try.sortedA_ren : Go.Shelf.Ren := ⟨fun | 6 => 27 | 8 => 40 | 9 => 41 | 11 => 46 | 13 => 48 | 12 => 47 | 23 => 58 | 24 => 59 | 14 => 49 | 15 => 50 | 16 => 51 | 17 => 52 | 18 => 53 | 19 => 54 | 20 => 55 | 21 => 56 | 22 => 57 | 25 => 60 | 26 => 61 | 27 => 62 | 28 => 63 | 29 => 64 | 30 => 65 | 31 => 66 | n => n, fun | 26 => 3 | 28 => 58 | 24 => 22 | 0 => 0 | 3 => 3 | 37 => 74 | 48 => 84 | 50 => 86 | 4 => 4 | 40 => 77 | 39 => 76 | 45 => 26 | 5 => 5 | 9 => 9 | 51 => 87 | 55 => 91 | 57 => 93 | 58 => 94 | 33 => 55 | n => n, fun | n => n⟩
theorem Try.sortedA : Go.Proofs.SlLaysZI.n6 Try.prog Try.sortedA_ren := {
  mixed := by kernel_rfl
  f6 := ⟨Try.f27.name, by decide, Try.func27.trans (congrArg some (by kernel_rfl))⟩
  f8 := ⟨Try.f40.name, by decide, Try.func40.trans (congrArg some (by kernel_rfl))⟩
  f11 := ⟨Try.f46.name, by decide, Try.func46.trans (congrArg some (by kernel_rfl))⟩
  t0 := Try.underlying0
  a0 := Try.isAgg0
  z0 := Try.sizeOf0
  v0 := Try.zeroValue0
  t24 := Try.underlying22
  a24 := Try.isAgg22
  z24 := Try.sizeOf22
  v24 := Try.zeroValue22
  t26 := Try.underlying3
  a26 := Try.isAgg3
  z26 := Try.sizeOf3
  v26 := Try.zeroValue3
  t28 := Try.underlying58
  a28 := Try.isAgg58
  z28 := Try.sizeOf58
  v28 := Try.zeroValue58
  i26 := by kernel_rfl }
def Try.sortA_ren : Go.Shelf.Ren := ⟨fun | 5 => 41 | 8 => 48 | 7 => 47 | 19 => 58 | 20 => 59 | 10 => 49 | 11 => 50 | 12 => 51 | 13 => 52 | 14 => 53 | 15 => 54 | 16 => 55 | 17 => 56 | 18 => 57 | 30 => 60 | 31 => 61 | 32 => 62 | 33 => 63 | 34 => 64 | 35 => 65 | 40 => 66 | n => n, fun | 23 => 22 | 25 => 3 | 3 => 3 | 32 => 74 | 22 => 22 | 0 => 0 | 44 => 84 | 46 => 86 | 4 => 4 | 36 => 77 | 35 => 76 | 41 => 26 | 5 => 5 | 9 => 9 | 53 => 87 | 57 => 91 | 63 => 93 | 64 => 94 | n => n, fun | n => n⟩
theorem Try.sortA : Go.Proofs.SlLaysM.n5 Try.prog Try.sortA_ren := {
  mixed := by kernel_rfl
  f5 := ⟨Try.f41.name, by decide, Try.func41.trans (congrArg some (by kernel_rfl))⟩
  f7 := ⟨Try.f47.name, by decide, Try.func47.trans (congrArg some (by kernel_rfl))⟩
  f8 := Try.func48.trans (congrArg some (by kernel_rfl))
  f10 := ⟨Try.f49.name, by decide, Try.func49.trans (congrArg some (by kernel_rfl))⟩
  f11 := ⟨Try.f50.name, by decide, Try.func50.trans (congrArg some (by kernel_rfl))⟩
  f12 := ⟨Try.f51.name, by decide, Try.func51.trans (congrArg some (by kernel_rfl))⟩
  f13 := ⟨Try.f52.name, by decide, Try.func52.trans (congrArg some (by kernel_rfl))⟩
  f14 := ⟨Try.f53.name, by decide, Try.func53.trans (congrArg some (by kernel_rfl))⟩
  f15 := ⟨Try.f54.name, by decide, Try.func54.trans (congrArg some (by kernel_rfl))⟩
  f16 := ⟨Try.f55.name, by decide, Try.func55.trans (congrArg some (by kernel_rfl))⟩
  f17 := ⟨Try.f56.name, by decide, Try.func56.trans (congrArg some (by kernel_rfl))⟩
  f18 := ⟨Try.f57.name, by decide, Try.func57.trans (congrArg some (by kernel_rfl))⟩
  f19 := Try.func58.trans (congrArg some (by kernel_rfl))
  f20 := Try.func59.trans (congrArg some (by kernel_rfl))
  f30 := ⟨Try.f60.name, by decide, Try.func60.trans (congrArg some (by kernel_rfl))⟩
  f31 := Try.func61.trans (congrArg some (by kernel_rfl))
  f32 := Try.func62.trans (congrArg some (by kernel_rfl))
  f33 := ⟨Try.f63.name, by decide, Try.func63.trans (congrArg some (by kernel_rfl))⟩
  f34 := ⟨Try.f64.name, by decide, Try.func64.trans (congrArg some (by kernel_rfl))⟩
  f35 := ⟨Try.f65.name, by decide, Try.func65.trans (congrArg some (by kernel_rfl))⟩
  f40 := ⟨Try.f66.name, by decide, Try.func66.trans (congrArg some (by kernel_rfl))⟩
  t0 := Try.underlying0
  a0 := Try.isAgg0
  z0 := Try.sizeOf0
  v0 := Try.zeroValue0
  t3 := Try.underlying3
  a3 := Try.isAgg3
  z3 := Try.sizeOf3
  v3 := Try.zeroValue3
  t4 := Try.underlying4
  a4 := Try.isAgg4
  z4 := Try.sizeOf4
  v4 := Try.zeroValue4
  t5 := Try.underlying5
  a5 := Try.isAgg5
  z5 := Try.sizeOf5
  v5 := Try.zeroValue5
  t9 := Try.underlying9
  a9 := Try.isAgg9
  z9 := Try.sizeOf9
  v9 := Try.zeroValue9
  t22 := Try.underlying22
  a22 := Try.isAgg22
  z22 := Try.sizeOf22
  v22 := Try.zeroValue22
  t23 := Try.underlying22
  a23 := Try.isAgg22
  z23 := Try.sizeOf22
  v23 := Try.zeroValue22
  t25 := Try.underlying3
  a25 := Try.isAgg3
  z25 := Try.sizeOf3
  v25 := Try.zeroValue3
  t32 := Try.underlying74
  a32 := Try.isAgg74
  z32 := Try.sizeOf74
  v32 := Try.zeroValue74
  t35 := Try.underlying76
  a35 := Try.isAgg76
  z35 := Try.sizeOf76
  v35 := Try.zeroValue76
  t36 := Try.underlying77
  a36 := Try.isAgg77
  z36 := Try.sizeOf77
  v36 := Try.zeroValue77
  t41 := Try.underlying26
  a41 := Try.isAgg26
  z41 := Try.sizeOf26
  v41 := Try.zeroValue26
  t44 := Try.underlying84
  a44 := Try.isAgg84
  z44 := Try.sizeOf84
  v44 := Try.zeroValue84
  t46 := Try.underlying86
  a46 := Try.isAgg86
  z46 := Try.sizeOf86
  v46 := Try.zeroValue86
  t53 := Try.underlying87
  a53 := Try.isAgg87
  z53 := Try.sizeOf87
  v53 := Try.zeroValue87
  t57 := Try.underlying91
  a57 := Try.isAgg91
  z57 := Try.sizeOf91
  v57 := Try.zeroValue91
  t63 := Try.underlying93
  a63 := Try.isAgg93
  z63 := Try.sizeOf93
  v63 := Try.zeroValue93
  t64 := Try.underlying94
  a64 := Try.isAgg94
  z64 := Try.sizeOf94
  v64 := Try.zeroValue94 }
def Try.eqA_ren : Go.Shelf.Ren := ⟨fun | 6 => 30 | n => n, fun | 23 => 51 | 24 => 51 | 26 => 3 | 27 => 3 | 4 => 4 | 3 => 3 | 0 => 0 | 36 => 26 | n => n, fun | n => n⟩
theorem Try.eqA : Go.Proofs.SlLaysEq.n6 Try.prog Try.eqA_ren := {
  mixed := by kernel_rfl
  f6 := ⟨Try.f30.name, by decide, Try.func30.trans (congrArg some (by kernel_rfl))⟩
  t0 := Try.underlying0
  a0 := Try.isAgg0
  z0 := Try.sizeOf0
  v0 := Try.zeroValue0
  t3 := Try.underlying3
  a3 := Try.isAgg3
  z3 := Try.sizeOf3
  v3 := Try.zeroValue3
  t4 := Try.underlying4
  a4 := Try.isAgg4
  z4 := Try.sizeOf4
  v4 := Try.zeroValue4
  t23 := Try.underlying51
  a23 := Try.isAgg51
  z23 := Try.sizeOf51
  v23 := Try.zeroValue51
  t24 := Try.underlying51
  a24 := Try.isAgg51
  z24 := Try.sizeOf51
  v24 := Try.zeroValue51
  a26 := Try.isAgg3
  z26 := Try.sizeOf3
  a27 := Try.isAgg3
  z27 := Try.sizeOf3
  t36 := Try.underlying26
  a36 := Try.isAgg26
  z36 := Try.sizeOf26 }
def Try.cloneA_ren : Go.Shelf.Ren := ⟨fun | 5 => 31 | 7 => 43 | n => n, fun | 23 => 51 | 25 => 3 | 3 => 3 | 4 => 4 | 20 => 20 | n => n, fun | n => n⟩
theorem Try.cloneA : Go.Proofs.SlLaysW.n5 Try.prog Try.cloneA_ren := {
  mixed := by kernel_rfl
  f5 := ⟨Try.f31.name, by decide, Try.func31.trans (congrArg some (by kernel_rfl))⟩
  f7 := Try.func43.trans (congrArg some (by kernel_rfl))
  t4 := Try.underlying4
  a4 := Try.isAgg4
  z4 := Try.sizeOf4
  v4 := Try.zeroValue4
  t20 := Try.underlying20
  a20 := Try.isAgg20
  z20 := Try.sizeOf20
  v20 := Try.zeroValue20
  t23 := Try.underlying51
  a23 := Try.isAgg51
  z23 := Try.sizeOf51
  v23 := Try.zeroValue51 }
end Go.Proofs
