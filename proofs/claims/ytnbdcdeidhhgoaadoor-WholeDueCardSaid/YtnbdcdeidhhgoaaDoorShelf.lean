/- The shelf's contracts at this seat, in plain words (written by the kit's tools; trimmed). -/
import Derived.Shelf.Strings.Search1
import Derived.Shelf.Strings.Search2
import Derived.Shelf.Strings.Search3
import Derived.Shelf.Strings.Cut
import Derived.Shelf.Strings.Count
import Derived.Shelf.Strings.Split
import Derived.Shelf.SlSortCmp.WholeK
import Derived.Shelf.SlSortCmp.NoneTotal
import Derived.Test.YtnbdcdeidhhgoaaDoorProg
namespace Go.Proofs
set_option maxRecDepth 4000
set_option linter.unusedVariables false
set_option linter.unusedSimpArgs false
open Go.Shelf
def Tryd.lays145_ren : Go.Shelf.Ren := ⟨fun | 145 => 53 | 220 => 65 | 219 => 64 | 217 => 68 | 225 => 69 | 224 => 70 | 267 => 71 | 266 => 72 | 314 => 73 | n => n, fun | 9 => 9 | 4 => 4 | 59 => 111 | 3 => 3 | 5 => 5 | 46 => 92 | 146 => 132 | 51 => 106 | n => n, fun | 1 => 0 | n => n⟩
theorem Tryd.lays145 : Go.Proofs.Lays.n145 Tryd.prog Tryd.lays145_ren := {
  mixed := by kernel_rfl
  f145 := Tryd.func53.trans (congrArg some (by kernel_rfl))
  f217 := Tryd.func68.trans (congrArg some (by kernel_rfl))
  f219 := Tryd.func64.trans (congrArg some (by kernel_rfl))
  f220 := Tryd.func65.trans (congrArg some (by kernel_rfl))
  f224 := Tryd.func70.trans (congrArg some (by kernel_rfl))
  f225 := Tryd.func69.trans (congrArg some (by kernel_rfl))
  f266 := Tryd.func72.trans (congrArg some (by kernel_rfl))
  f267 := Tryd.func71.trans (congrArg some (by kernel_rfl))
  f314 := Tryd.func73.trans (congrArg some (by kernel_rfl))
  t3 := Tryd.underlying3
  a3 := Tryd.isAgg3
  z3 := Tryd.sizeOf3
  v3 := Tryd.zeroValue3
  t4 := Tryd.underlying4
  a4 := Tryd.isAgg4
  z4 := Tryd.sizeOf4
  v4 := Tryd.zeroValue4
  t5 := Tryd.underlying5
  a5 := Tryd.isAgg5
  z5 := Tryd.sizeOf5
  v5 := Tryd.zeroValue5
  t9 := Tryd.underlying9
  a9 := Tryd.isAgg9
  z9 := Tryd.sizeOf9
  v9 := Tryd.zeroValue9
  t46 := Tryd.underlying92
  a46 := Tryd.isAgg92
  z46 := Tryd.sizeOf92
  v46 := Tryd.zeroValue92
  t51 := Tryd.underlying106
  a51 := Tryd.isAgg106
  z51 := Tryd.sizeOf106
  v51 := Tryd.zeroValue106
  t59 := Tryd.underlying111
  a59 := Tryd.isAgg111
  z59 := Tryd.sizeOf111
  v59 := Tryd.zeroValue111
  t146 := Tryd.underlying132
  a146 := Tryd.isAgg132
  z146 := Tryd.sizeOf132
  v146 := Tryd.zeroValue132
  g1 := by kernel_rfl }
open Go.RowKit Go.Lib in
/-- strings.Cut: "Cut slices s around the first instance of sep, returning the text before and after sep. The found result reports whether sep appears in s. If sep does not appear in s, cut returns s, "", false.": IT RETURNS 'Lib.cut s sep'; the world is as it was but for the count of draws. (LAID: no walk: one application.) -/
theorem Tryd.strings_Cut (s sep : ByteArray) (m : Int) (w : World) (hs : s.size < 4294967281) (hm : w.cell? ⟨0, 0, none⟩ = some (.int .i64 m)) :
    Calls Tryd.prog 53 #[.string s, .string sep] w fun e w' => e = .returned (.tuple #[.string ⟨(Lib.cut s.data.toList sep.data.toList).1.toArray⟩, .string ⟨(Lib.cut s.data.toList sep.data.toList).2.1.toArray⟩, .bool (Lib.cut s.data.toList sep.data.toList).2.2]) ∧ ∃ n, w' = w.drewN n := Any.strings_Cut Tryd.lays145 s sep m w hs hm
def Tryd.lays146_ren : Go.Shelf.Ren := ⟨fun | 146 => 19 | 221 => 32 | 268 => 50 | 138 => 51 | 143 => 52 | 195 => 61 | 197 => 62 | 218 => 63 | 219 => 64 | 260 => 67 | 217 => 68 | 225 => 69 | 224 => 70 | 267 => 71 | 266 => 72 | 314 => 73 | n => n, fun | 9 => 9 | 31 => 68 | 3 => 3 | 4 => 4 | 0 => 0 | 105 => 122 | 21 => 21 | 5 => 5 | 46 => 92 | 119 => 128 | 139 => 131 | 138 => 130 | 146 => 132 | 51 => 106 | n => n, fun | 1 => 0 | 3 => 1 | 4 => 2 | n => n⟩
theorem Tryd.lays146 : Go.Proofs.Lays.n146 Tryd.prog Tryd.lays146_ren := {
  mixed := by kernel_rfl
  f138 := Tryd.func51.trans (congrArg some (by kernel_rfl))
  f143 := Tryd.func52.trans (congrArg some (by kernel_rfl))
  f146 := Tryd.func19.trans (congrArg some (by kernel_rfl))
  f195 := Tryd.func61.trans (congrArg some (by kernel_rfl))
  f197 := Tryd.func62.trans (congrArg some (by kernel_rfl))
  f217 := Tryd.func68.trans (congrArg some (by kernel_rfl))
  f218 := Tryd.func63.trans (congrArg some (by kernel_rfl))
  f219 := Tryd.func64.trans (congrArg some (by kernel_rfl))
  f221 := Tryd.func32.trans (congrArg some (by kernel_rfl))
  f224 := Tryd.func70.trans (congrArg some (by kernel_rfl))
  f225 := Tryd.func69.trans (congrArg some (by kernel_rfl))
  f260 := Tryd.func67.trans (congrArg some (by kernel_rfl))
  f266 := Tryd.func72.trans (congrArg some (by kernel_rfl))
  f267 := Tryd.func71.trans (congrArg some (by kernel_rfl))
  f268 := Tryd.func50.trans (congrArg some (by kernel_rfl))
  f314 := Tryd.func73.trans (congrArg some (by kernel_rfl))
  t0 := Tryd.underlying0
  a0 := Tryd.isAgg0
  z0 := Tryd.sizeOf0
  v0 := Tryd.zeroValue0
  t3 := Tryd.underlying3
  a3 := Tryd.isAgg3
  z3 := Tryd.sizeOf3
  v3 := Tryd.zeroValue3
  t4 := Tryd.underlying4
  a4 := Tryd.isAgg4
  z4 := Tryd.sizeOf4
  v4 := Tryd.zeroValue4
  t5 := Tryd.underlying5
  a5 := Tryd.isAgg5
  z5 := Tryd.sizeOf5
  v5 := Tryd.zeroValue5
  t9 := Tryd.underlying9
  a9 := Tryd.isAgg9
  z9 := Tryd.sizeOf9
  v9 := Tryd.zeroValue9
  t21 := Tryd.underlying21
  a21 := Tryd.isAgg21
  z21 := Tryd.sizeOf21
  v21 := Tryd.zeroValue21
  t31 := Tryd.underlying68
  a31 := Tryd.isAgg68
  z31 := Tryd.sizeOf68
  v31 := Tryd.zeroValue68
  t46 := Tryd.underlying92
  a46 := Tryd.isAgg92
  z46 := Tryd.sizeOf92
  v46 := Tryd.zeroValue92
  t51 := Tryd.underlying106
  a51 := Tryd.isAgg106
  z51 := Tryd.sizeOf106
  v51 := Tryd.zeroValue106
  t105 := Tryd.underlying122
  a105 := Tryd.isAgg122
  z105 := Tryd.sizeOf122
  v105 := Tryd.zeroValue122
  t119 := Tryd.underlying128
  a119 := Tryd.isAgg128
  z119 := Tryd.sizeOf128
  t138 := Tryd.underlying130
  a138 := Tryd.isAgg130
  z138 := Tryd.sizeOf130
  v138 := Tryd.zeroValue130
  t139 := Tryd.underlying131
  a139 := Tryd.isAgg131
  z139 := Tryd.sizeOf131
  v139 := Tryd.zeroValue131
  t146 := Tryd.underlying132
  a146 := Tryd.isAgg132
  z146 := Tryd.sizeOf132
  v146 := Tryd.zeroValue132
  g1 := by kernel_rfl
  g3 := by kernel_rfl
  g4 := by kernel_rfl }
open Go.RowKit Go.Lib in
/-- strings.Split. (LAID: no walk: one application.) -/
theorem Tryd.strings_Split (s sep : ByteArray) (m : Int) (w : World) (hs : s.size < 4294967281) (hm : w.cell? ⟨0, 0, none⟩ = some (.int .i64 m)) (h1 : 1 ≤ sep.size) :
    Calls Tryd.prog 19 #[.string s, .string sep] w fun e w' =>
      e = .returned (.slice (some ⟨w.heap.size, 0, none⟩) (Lib.countB s sep + 1) (Lib.countB s sep + 1)) ∧ w' = w.alloc (.cells ((Lib.splitB sep 0 (Lib.countB s sep) s).map Value.string).toArray 9) := Any.strings_Split Tryd.lays146 (by kernel_rfl) s sep m w hs hm h1
def Tryd.sortIt_ren : Go.Shelf.Ren := ⟨fun | 6 => 16 | 15 => 28 | 14 => 27 | 28 => 46 | 29 => 47 | 20 => 38 | 21 => 39 | 22 => 40 | 23 => 41 | 24 => 42 | 25 => 43 | 26 => 44 | 27 => 45 | 46 => 56 | 47 => 57 | 48 => 58 | 49 => 59 | 50 => 60 | 57 => 66 | n => n, fun | 22 => 23 | 24 => 51 | 25 => 63 | 3 => 3 | 39 => 92 | 0 => 0 | 53 => 106 | 55 => 25 | 4 => 4 | 46 => 100 | 45 => 99 | 50 => 66 | 5 => 5 | 9 => 9 | 66 => 115 | 70 => 119 | 76 => 125 | 77 => 126 | n => n, fun | n => n⟩
theorem Tryd.sortIt : Go.Proofs.SlLaysF0.n6 Tryd.prog Tryd.sortIt_ren := {
  mixed := by kernel_rfl
  f6 := ⟨Tryd.f16.name, by decide, Tryd.func16.trans (congrArg some (by kernel_rfl))⟩
  f14 := ⟨Tryd.f27.name, by decide, Tryd.func27.trans (congrArg some (by kernel_rfl))⟩
  f15 := Tryd.func28.trans (congrArg some (by kernel_rfl))
  f20 := ⟨Tryd.f38.name, by decide, Tryd.func38.trans (congrArg some (by kernel_rfl))⟩
  f21 := ⟨Tryd.f39.name, by decide, Tryd.func39.trans (congrArg some (by kernel_rfl))⟩
  f22 := ⟨Tryd.f40.name, by decide, Tryd.func40.trans (congrArg some (by kernel_rfl))⟩
  f23 := ⟨Tryd.f41.name, by decide, Tryd.func41.trans (congrArg some (by kernel_rfl))⟩
  f24 := ⟨Tryd.f42.name, by decide, Tryd.func42.trans (congrArg some (by kernel_rfl))⟩
  f25 := ⟨Tryd.f43.name, by decide, Tryd.func43.trans (congrArg some (by kernel_rfl))⟩
  f26 := ⟨Tryd.f44.name, by decide, Tryd.func44.trans (congrArg some (by kernel_rfl))⟩
  f27 := ⟨Tryd.f45.name, by decide, Tryd.func45.trans (congrArg some (by kernel_rfl))⟩
  f28 := Tryd.func46.trans (congrArg some (by kernel_rfl))
  f29 := Tryd.func47.trans (congrArg some (by kernel_rfl))
  f46 := ⟨Tryd.f56.name, by decide, Tryd.func56.trans (congrArg some (by kernel_rfl))⟩
  f47 := Tryd.func57.trans (congrArg some (by kernel_rfl))
  f48 := Tryd.func58.trans (congrArg some (by kernel_rfl))
  f49 := ⟨Tryd.f59.name, by decide, Tryd.func59.trans (congrArg some (by kernel_rfl))⟩
  f50 := ⟨Tryd.f60.name, by decide, Tryd.func60.trans (congrArg some (by kernel_rfl))⟩
  f57 := ⟨Tryd.f66.name, by decide, Tryd.func66.trans (congrArg some (by kernel_rfl))⟩
  t0 := Tryd.underlying0
  a0 := Tryd.isAgg0
  z0 := Tryd.sizeOf0
  v0 := Tryd.zeroValue0
  t3 := Tryd.underlying3
  a3 := Tryd.isAgg3
  z3 := Tryd.sizeOf3
  v3 := Tryd.zeroValue3
  t4 := Tryd.underlying4
  a4 := Tryd.isAgg4
  z4 := Tryd.sizeOf4
  v4 := Tryd.zeroValue4
  t5 := Tryd.underlying5
  a5 := Tryd.isAgg5
  z5 := Tryd.sizeOf5
  v5 := Tryd.zeroValue5
  t9 := Tryd.underlying9
  a9 := Tryd.isAgg9
  z9 := Tryd.sizeOf9
  v9 := Tryd.zeroValue9
  t22 := Tryd.underlying23
  a22 := Tryd.isAgg23
  z22 := Tryd.sizeOf23
  v22 := Tryd.zeroValue23
  t25 := Tryd.underlying63
  a25 := Tryd.isAgg63
  z25 := Tryd.sizeOf63
  v25 := Tryd.zeroValue63
  t39 := Tryd.underlying92
  a39 := Tryd.isAgg92
  z39 := Tryd.sizeOf92
  v39 := Tryd.zeroValue92
  t45 := Tryd.underlying99
  a45 := Tryd.isAgg99
  z45 := Tryd.sizeOf99
  v45 := Tryd.zeroValue99
  t46 := Tryd.underlying100
  a46 := Tryd.isAgg100
  z46 := Tryd.sizeOf100
  v46 := Tryd.zeroValue100
  t50 := Tryd.underlying66
  a50 := Tryd.isAgg66
  z50 := Tryd.sizeOf66
  v50 := Tryd.zeroValue66
  t53 := Tryd.underlying106
  a53 := Tryd.isAgg106
  z53 := Tryd.sizeOf106
  v53 := Tryd.zeroValue106
  t55 := Tryd.underlying25
  a55 := Tryd.isAgg25
  z55 := Tryd.sizeOf25
  v55 := Tryd.zeroValue25
  t66 := Tryd.underlying115
  a66 := Tryd.isAgg115
  z66 := Tryd.sizeOf115
  v66 := Tryd.zeroValue115
  t70 := Tryd.underlying119
  a70 := Tryd.isAgg119
  z70 := Tryd.sizeOf119
  v70 := Tryd.zeroValue119
  t76 := Tryd.underlying125
  a76 := Tryd.isAgg125
  z76 := Tryd.sizeOf125
  v76 := Tryd.zeroValue125
  t77 := Tryd.underlying126
  a77 := Tryd.isAgg126
  z77 := Tryd.sizeOf126
  v77 := Tryd.zeroValue126 }
end Go.Proofs
