/- The library's contracts, laid at this translation. -/
import Derived.Test.YtmlbkcpmgcjblaaProg
import Derived.Shelf.SlGeneric
import Derived.Shelf.SlSortCmp.NoneTotal
import Derived.Ground.SlsfProg
import Derived.KernelRfl
namespace Go.Proofs.Ytmlbkcpmgcjblaa
open Go.RowKit Go.Shelf

def laysSortS_ren : Go.Shelf.Ren := ⟨fun | 6 => 65 | 15 => 102 | 14 => 101 | 28 => 130 | 29 => 131 | 20 => 122 | 21 => 123 | 22 => 124 | 23 => 125 | 24 => 126 | 25 => 127 | 26 => 128 | 27 => 129 | 46 => 137 | 47 => 138 | 48 => 139 | 49 => 140 | 50 => 141 | 57 => 142 | n => n, fun | 22 => 24 | 24 => 34 | 25 => 91 | 3 => 3 | 39 => 112 | 0 => 0 | 53 => 115 | 55 => 38 | 4 => 4 | 46 => 159 | 45 => 158 | 50 => 135 | 5 => 5 | 9 => 9 | 66 => 168 | 70 => 172 | 76 => 174 | 77 => 175 | n => n, fun | n => n⟩
theorem laysSortS : Go.Proofs.SlLaysF0.n6 Try.prog laysSortS_ren := {
  mixed := by kernel_rfl
  f6 := ⟨Try.f65.name, by decide, Try.func65.trans (congrArg some (by kernel_rfl))⟩
  f14 := ⟨Try.f101.name, by decide, Try.func101.trans (congrArg some (by kernel_rfl))⟩
  f15 := Try.func102.trans (congrArg some (by kernel_rfl))
  f20 := ⟨Try.f122.name, by decide, Try.func122.trans (congrArg some (by kernel_rfl))⟩
  f21 := ⟨Try.f123.name, by decide, Try.func123.trans (congrArg some (by kernel_rfl))⟩
  f22 := ⟨Try.f124.name, by decide, Try.func124.trans (congrArg some (by kernel_rfl))⟩
  f23 := ⟨Try.f125.name, by decide, Try.func125.trans (congrArg some (by kernel_rfl))⟩
  f24 := ⟨Try.f126.name, by decide, Try.func126.trans (congrArg some (by kernel_rfl))⟩
  f25 := ⟨Try.f127.name, by decide, Try.func127.trans (congrArg some (by kernel_rfl))⟩
  f26 := ⟨Try.f128.name, by decide, Try.func128.trans (congrArg some (by kernel_rfl))⟩
  f27 := ⟨Try.f129.name, by decide, Try.func129.trans (congrArg some (by kernel_rfl))⟩
  f28 := Try.func130.trans (congrArg some (by kernel_rfl))
  f29 := Try.func131.trans (congrArg some (by kernel_rfl))
  f46 := ⟨Try.f137.name, by decide, Try.func137.trans (congrArg some (by kernel_rfl))⟩
  f47 := Try.func138.trans (congrArg some (by kernel_rfl))
  f48 := Try.func139.trans (congrArg some (by kernel_rfl))
  f49 := ⟨Try.f140.name, by decide, Try.func140.trans (congrArg some (by kernel_rfl))⟩
  f50 := ⟨Try.f141.name, by decide, Try.func141.trans (congrArg some (by kernel_rfl))⟩
  f57 := ⟨Try.f142.name, by decide, Try.func142.trans (congrArg some (by kernel_rfl))⟩
  t0 := Try.underlying0
  a0 := Try.isAgg0
  z0 := Try.sizeOf0
  v0 := Try.zeroValue0
  t3 := Try.underlying3
  a3 := Try.isAgg3
  z3 := Try.sizeOf3
  v3 := Try.zeroValue3
  t4 := Try.underlying4
  a4 := Try.isAgg4
  z4 := Try.sizeOf4
  v4 := Try.zeroValue4
  t5 := Try.underlying5
  a5 := Try.isAgg5
  z5 := Try.sizeOf5
  v5 := Try.zeroValue5
  t9 := Try.underlying9
  a9 := Try.isAgg9
  z9 := Try.sizeOf9
  v9 := Try.zeroValue9
  t22 := Try.underlying24
  a22 := Try.isAgg24
  z22 := Try.sizeOf24
  v22 := Try.zeroValue24
  t25 := Try.underlying91
  a25 := Try.isAgg91
  z25 := Try.sizeOf91
  v25 := Try.zeroValue91
  t39 := Try.underlying112
  a39 := Try.isAgg112
  z39 := Try.sizeOf112
  v39 := Try.zeroValue112
  t45 := Try.underlying158
  a45 := Try.isAgg158
  z45 := Try.sizeOf158
  v45 := Try.zeroValue158
  t46 := Try.underlying159
  a46 := Try.isAgg159
  z46 := Try.sizeOf159
  v46 := Try.zeroValue159
  t50 := Try.underlying135
  a50 := Try.isAgg135
  z50 := Try.sizeOf135
  v50 := Try.zeroValue135
  t53 := Try.underlying115
  a53 := Try.isAgg115
  z53 := Try.sizeOf115
  v53 := Try.zeroValue115
  t55 := Try.underlying38
  a55 := Try.isAgg38
  z55 := Try.sizeOf38
  v55 := Try.zeroValue38
  t66 := Try.underlying168
  a66 := Try.isAgg168
  z66 := Try.sizeOf168
  v66 := Try.zeroValue168
  t70 := Try.underlying172
  a70 := Try.isAgg172
  z70 := Try.sizeOf172
  v70 := Try.zeroValue172
  t76 := Try.underlying174
  a76 := Try.isAgg174
  z76 := Try.sizeOf174
  v76 := Try.zeroValue174
  t77 := Try.underlying175
  a77 := Try.isAgg175
  z77 := Try.sizeOf175
  v77 := Try.zeroValue175 }
end Go.Proofs.Ytmlbkcpmgcjblaa
