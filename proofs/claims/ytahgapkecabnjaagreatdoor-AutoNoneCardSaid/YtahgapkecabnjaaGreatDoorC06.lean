/- Contracts of Go's library that this seat's proofs use, laid at this translation by the kit's own tools (lay-shelf, lay-plain), and nothing else. -/
import Derived.Shelf.SlGeneric
import Derived.Shelf.SlLaysF0
import Derived.Shelf.SlLaysH0
import Derived.Shelf.SlLaysE0
import Derived.Ground.SlsfProg
import Derived.Ground.SlgfProg
import Derived.Ground.SlgnProg
import Derived.Shelf.Strings.Builder1
import Derived.Shelf.Strings.Builder2
import Derived.Shelf.Strings.OnBuilder
import Derived.Shelf.Small.Bits
import Derived.Shelf.Strconv.Itoa0
import Derived.Shelf.Strconv.Itoa1
import Derived.Shelf.LaysM
import Derived.Shelf.Strconv.Itoa2
import Derived.Shelf.Strconv.Itoa3
import Derived.Test.YtahgapkecabnjaaGreatDoorProg
import Derived.Test.YtahgapkecabnjaaGreatDoorC05
import Derived.Lib.AppendIntMem
import Derived.Test.YtahgapkecabnjaaGreatDoorC03
import Derived.Maps.AppendAt
import Derived.Below
import Derived.Deep.OwnRows
import Derived.OwnWalk
import Derived.WalkKit
import Derived.Deep.Draws
import Derived.Shelf.GgClosure.StringsIndexFunc
namespace Go.Proofs
open Go.Shelf
def Tryz.lays156_ren : Go.Shelf.Ren := ⟨fun | 156 => 135 | 165 => 143 | 166 => 144 | 169 => 145 | 240 => 148 | 241 => 149 | 276 => 154 | 277 => 155 | n => n, fun | 31 => 179 | 9 => 9 | 3 => 3 | 4 => 4 | 0 => 0 | 20 => 20 | 72 => 191 | 76 => 194 | 70 => 188 | 37 => 189 | 75 => 193 | 127 => 200 | 164 => 205 | 5 => 5 | 80 => 196 | n => n, fun | n => n⟩
theorem Tryz.lays156 : Go.Proofs.Lays.n156 Tryz.prog Tryz.lays156_ren := {
  mixed := by kernel_rfl
  f156 := Tryz.func135.trans (congrArg some (by kernel_rfl))
  f165 := Tryz.func143.trans (congrArg some (by kernel_rfl))
  f166 := Tryz.func144.trans (congrArg some (by kernel_rfl))
  f169 := Tryz.func145.trans (congrArg some (by kernel_rfl))
  f240 := Tryz.func148.trans (congrArg some (by kernel_rfl))
  f241 := Tryz.func149.trans (congrArg some (by kernel_rfl))
  f276 := Tryz.func154.trans (congrArg some (by kernel_rfl))
  f277 := Tryz.func155.trans (congrArg some (by kernel_rfl))
  t0 := Tryz.underlying0
  a0 := Tryz.isAgg0
  z0 := Tryz.sizeOf0
  v0 := Tryz.zeroValue0
  t3 := Tryz.underlying3
  a3 := Tryz.isAgg3
  z3 := Tryz.sizeOf3
  v3 := Tryz.zeroValue3
  t4 := Tryz.underlying4
  a4 := Tryz.isAgg4
  z4 := Tryz.sizeOf4
  v4 := Tryz.zeroValue4
  t9 := Tryz.underlying9
  a9 := Tryz.isAgg9
  z9 := Tryz.sizeOf9
  v9 := Tryz.zeroValue9
  t20 := Tryz.underlying20
  a20 := Tryz.isAgg20
  z20 := Tryz.sizeOf20
  v20 := Tryz.zeroValue20
  t31 := Tryz.underlying179
  a31 := Tryz.isAgg179
  z31 := Tryz.sizeOf179
  v31 := Tryz.zeroValue179
  t37 := Tryz.underlying189
  a37 := Tryz.isAgg189
  z37 := Tryz.sizeOf189
  v37 := Tryz.zeroValue189
  t70 := Tryz.underlying188
  a70 := Tryz.isAgg188
  z70 := Tryz.sizeOf188
  v70 := Tryz.zeroValue188
  t72 := Tryz.underlying191
  a72 := Tryz.isAgg191
  z72 := Tryz.sizeOf191
  v72 := Tryz.zeroValue191
  t75 := Tryz.underlying193
  a75 := Tryz.isAgg193
  z75 := Tryz.sizeOf193
  v75 := Tryz.zeroValue193
  t76 := Tryz.underlying194
  a76 := Tryz.isAgg194
  z76 := Tryz.sizeOf194
  v76 := Tryz.zeroValue194
  t127 := Tryz.underlying200
  a127 := Tryz.isAgg200
  z127 := Tryz.sizeOf200
  v127 := Tryz.zeroValue200
  t164 := Tryz.underlying205
  a164 := Tryz.isAgg205
  z164 := Tryz.sizeOf205
  v164 := Tryz.zeroValue205 }
theorem Tryz.Builder_Extra_156 : Builder.Extra Tryz.prog Tryz.lays156_ren := {
  sizeBuilder := by kernel_rfl
  liesBuilder := by kernel_rfl
  t5 := Tryz.underlying5
  a5 := Tryz.isAgg5
  z5 := Tryz.sizeOf5
  v5 := Tryz.zeroValue5
  infoByte := by kernel_rfl
  cellsByte := by kernel_rfl
  sizeByte := by kernel_rfl
  neB5 := by decide }
open Go.RowKit in
/-- strings.Join: "Join concatenates the elements of its first argument to create a single string. The separator string sep is placed between elements in the resulting string.": HOWEVER MANY ELEMENTS. Below the heap's end the world is as it was. (LAID: no walk: one application.) -/
theorem Tryz.strings_Join (bk o c : Nat) (xs : List ByteArray) (sep : ByteArray) (w : World) (hcells : ∀ (j : Nat) x, xs[j]? = some x → w.cell? ⟨bk, o + j, none⟩ = some (.string x)) (hbk : bk < w.heap.size) (hN : xs.length ≤ 140737488355328) (hcap : xs.length ≤ c) (hlen : (Lib.join (xs.map (·.data.toList)) sep.data.toList).length ≤ 140737488355328) :
    Calls Tryz.prog 135 #[.slice (some ⟨bk, o, none⟩) xs.length c, .string sep] w fun e w' => e = .returned (.string ⟨(Lib.join (xs.map (·.data.toList)) sep.data.toList).toArray⟩) ∧ Below w.heap.size w w' := Any.strings_Join Tryz.lays156 Tryz.Builder_Extra_156 bk o c xs sep w hcells hbk hN hcap hlen
def Tryz.laysM171_ren : Go.Shelf.Ren := ⟨fun | 171 => 118 | 243 => 136 | 246 => 146 | 283 => 150 | 284 => 151 | 285 => 152 | 286 => 153 | 129 => 131 | 317 => 156 | 318 => 157 | 319 => 158 | 320 => 159 | 337 => 160 | 338 => 161 | n => n, fun | 3 => 3 | 9 => 9 | 2 => 2 | 4 => 4 | 171 => 201 | 0 => 0 | 53 => 53 | 37 => 189 | 5 => 5 | 173 => 203 | 212 => 210 | 51 => 38 | 20 => 20 | 213 => 211 | 46 => 153 | 232 => 212 | 233 => 213 | n => n, fun | 17 => 0 | 18 => 2 | 19 => 3 | n => n⟩
theorem Tryz.laysM171 : Go.Proofs.LaysM.n171 Tryz.prog Tryz.laysM171_ren := {
  mixed := by kernel_rfl
  f129 := Tryz.func131.trans (congrArg some (by kernel_rfl))
  f171 := Tryz.func118.trans (congrArg some (by kernel_rfl))
  f243 := Tryz.func136.trans (congrArg some (by kernel_rfl))
  f246 := Tryz.func146.trans (congrArg some (by kernel_rfl))
  f283 := Tryz.func150.trans (congrArg some (by kernel_rfl))
  f284 := Tryz.func151.trans (congrArg some (by kernel_rfl))
  f285 := Tryz.func152.trans (congrArg some (by kernel_rfl))
  f286 := Tryz.func153.trans (congrArg some (by kernel_rfl))
  f317 := Tryz.func156.trans (congrArg some (by kernel_rfl))
  f318 := Tryz.func157.trans (congrArg some (by kernel_rfl))
  f319 := Tryz.func158.trans (congrArg some (by kernel_rfl))
  f320 := Tryz.func159.trans (congrArg some (by kernel_rfl))
  f337 := Tryz.func160.trans (congrArg some (by kernel_rfl))
  f338 := Tryz.func161.trans (congrArg some (by kernel_rfl))
  t0 := Tryz.underlying0
  a0 := Tryz.isAgg0
  z0 := Tryz.sizeOf0
  v0 := Tryz.zeroValue0
  t2 := Tryz.underlying2
  a2 := Tryz.isAgg2
  z2 := Tryz.sizeOf2
  v2 := Tryz.zeroValue2
  t3 := Tryz.underlying3
  a3 := Tryz.isAgg3
  z3 := Tryz.sizeOf3
  v3 := Tryz.zeroValue3
  t4 := Tryz.underlying4
  a4 := Tryz.isAgg4
  z4 := Tryz.sizeOf4
  v4 := Tryz.zeroValue4
  t5 := Tryz.underlying5
  a5 := Tryz.isAgg5
  z5 := Tryz.sizeOf5
  v5 := Tryz.zeroValue5
  t9 := Tryz.underlying9
  a9 := Tryz.isAgg9
  z9 := Tryz.sizeOf9
  v9 := Tryz.zeroValue9
  t20 := Tryz.underlying20
  a20 := Tryz.isAgg20
  z20 := Tryz.sizeOf20
  v20 := Tryz.zeroValue20
  t37 := Tryz.underlying189
  a37 := Tryz.isAgg189
  z37 := Tryz.sizeOf189
  v37 := Tryz.zeroValue189
  t46 := Tryz.underlying153
  a46 := Tryz.isAgg153
  z46 := Tryz.sizeOf153
  v46 := Tryz.zeroValue153
  t51 := Tryz.underlying38
  a51 := Tryz.isAgg38
  z51 := Tryz.sizeOf38
  v51 := Tryz.zeroValue38
  t53 := Tryz.underlying53
  a53 := Tryz.isAgg53
  z53 := Tryz.sizeOf53
  v53 := Tryz.zeroValue53
  t171 := Tryz.underlying201
  a171 := Tryz.isAgg201
  z171 := Tryz.sizeOf201
  v171 := Tryz.zeroValue201
  t173 := Tryz.underlying203
  a173 := Tryz.isAgg203
  z173 := Tryz.sizeOf203
  v173 := Tryz.zeroValue203
  t212 := Tryz.underlying210
  a212 := Tryz.isAgg210
  z212 := Tryz.sizeOf210
  v212 := Tryz.zeroValue210
  t213 := Tryz.underlying211
  a213 := Tryz.isAgg211
  z213 := Tryz.sizeOf211
  t232 := Tryz.underlying212
  a232 := Tryz.isAgg212
  z232 := Tryz.sizeOf212
  v232 := Tryz.zeroValue212
  t233 := Tryz.underlying213
  a233 := Tryz.isAgg213
  z233 := Tryz.sizeOf213
  v233 := Tryz.zeroValue213
  g17 := by kernel_rfl
  g18 := by kernel_rfl
  g19 := by kernel_rfl
  i0 := by kernel_rfl
  i2 := by kernel_rfl
  i3 := by kernel_rfl
  i4 := by kernel_rfl
  i5 := by kernel_rfl
  i9 := by kernel_rfl
  i20 := by kernel_rfl
  i37 := by kernel_rfl
  i46 := by kernel_rfl
  i51 := by kernel_rfl
  i53 := by kernel_rfl
  i171 := by kernel_rfl
  i173 := by kernel_rfl
  i212 := by kernel_rfl
  i232 := by kernel_rfl
  i233 := by kernel_rfl
  m17 := by kernel_rfl
  m18 := by kernel_rfl
  m19 := by kernel_rfl }
open Go.RowKit Go.Sort Go.Lib in
/-- strconv.Itoa: "Itoa is equivalent to FormatInt(int64(i), 10).": i's DECIMAL NUMERAL ('Lib.itoa': a '-' where i is negative, then the digits), FOR EVERY int. The world behind the call: the world before it, new blocks behind the heap (the library's 'var a [24]byte'), draws. (LAID: no walk: one application.) -/
theorem Tryz.strconv_Itoa (n : Int) (h0 : -9223372036854775808 ≤ n) (h1 : n ≤ 9223372036854775807) (w : World) (htab : Lib.TabIs Tryz.prog w "internal/strconv.uint64pow10" .u64 Lib.pow10Tab) :
    Calls Tryz.prog 118 #[.int .i64 n] w fun e w' => e = .returned (.string ⟨(Lib.itoa n).toArray⟩) ∧ ∃ k os, w' = grow (w.drewN k) os := Any.strconv_Itoa Tryz.laysM171 n h0 h1 w htab
def Tryz.sortK_ren : Go.Shelf.Ren := ⟨fun | 6 => 82 | 15 => 107 | 14 => 106 | 28 => 130 | 29 => 131 | 20 => 122 | 21 => 123 | 22 => 124 | 23 => 125 | 24 => 126 | 25 => 127 | 26 => 128 | 27 => 129 | 46 => 138 | 47 => 139 | 48 => 140 | 49 => 141 | 50 => 142 | 57 => 147 | n => n, fun | 22 => 60 | 24 => 45 | 25 => 113 | 3 => 3 | 39 => 153 | 0 => 0 | 53 => 38 | 55 => 53 | 4 => 4 | 46 => 169 | 45 => 168 | 50 => 115 | 5 => 5 | 9 => 9 | 66 => 182 | 70 => 186 | 76 => 198 | 77 => 92 | n => n, fun | n => n⟩
theorem Tryz.sortK : Go.Proofs.SlLaysF0.n6 Tryz.prog Tryz.sortK_ren := {
  mixed := by kernel_rfl
  f6 := ⟨Tryz.f82.name, by decide, Tryz.func82.trans (congrArg some (by kernel_rfl))⟩
  f14 := ⟨Tryz.f106.name, by decide, Tryz.func106.trans (congrArg some (by kernel_rfl))⟩
  f15 := Tryz.func107.trans (congrArg some (by kernel_rfl))
  f20 := ⟨Tryz.f122.name, by decide, Tryz.func122.trans (congrArg some (by kernel_rfl))⟩
  f21 := ⟨Tryz.f123.name, by decide, Tryz.func123.trans (congrArg some (by kernel_rfl))⟩
  f22 := ⟨Tryz.f124.name, by decide, Tryz.func124.trans (congrArg some (by kernel_rfl))⟩
  f23 := ⟨Tryz.f125.name, by decide, Tryz.func125.trans (congrArg some (by kernel_rfl))⟩
  f24 := ⟨Tryz.f126.name, by decide, Tryz.func126.trans (congrArg some (by kernel_rfl))⟩
  f25 := ⟨Tryz.f127.name, by decide, Tryz.func127.trans (congrArg some (by kernel_rfl))⟩
  f26 := ⟨Tryz.f128.name, by decide, Tryz.func128.trans (congrArg some (by kernel_rfl))⟩
  f27 := ⟨Tryz.f129.name, by decide, Tryz.func129.trans (congrArg some (by kernel_rfl))⟩
  f28 := Tryz.func130.trans (congrArg some (by kernel_rfl))
  f29 := Tryz.func131.trans (congrArg some (by kernel_rfl))
  f46 := ⟨Tryz.f138.name, by decide, Tryz.func138.trans (congrArg some (by kernel_rfl))⟩
  f47 := Tryz.func139.trans (congrArg some (by kernel_rfl))
  f48 := Tryz.func140.trans (congrArg some (by kernel_rfl))
  f49 := ⟨Tryz.f141.name, by decide, Tryz.func141.trans (congrArg some (by kernel_rfl))⟩
  f50 := ⟨Tryz.f142.name, by decide, Tryz.func142.trans (congrArg some (by kernel_rfl))⟩
  f57 := ⟨Tryz.f147.name, by decide, Tryz.func147.trans (congrArg some (by kernel_rfl))⟩
  t0 := Tryz.underlying0
  a0 := Tryz.isAgg0
  z0 := Tryz.sizeOf0
  v0 := Tryz.zeroValue0
  t3 := Tryz.underlying3
  a3 := Tryz.isAgg3
  z3 := Tryz.sizeOf3
  v3 := Tryz.zeroValue3
  t4 := Tryz.underlying4
  a4 := Tryz.isAgg4
  z4 := Tryz.sizeOf4
  v4 := Tryz.zeroValue4
  t5 := Tryz.underlying5
  a5 := Tryz.isAgg5
  z5 := Tryz.sizeOf5
  v5 := Tryz.zeroValue5
  t9 := Tryz.underlying9
  a9 := Tryz.isAgg9
  z9 := Tryz.sizeOf9
  v9 := Tryz.zeroValue9
  t22 := Tryz.underlying60
  a22 := Tryz.isAgg60
  z22 := Tryz.sizeOf60
  v22 := Tryz.zeroValue60
  t25 := Tryz.underlying113
  a25 := Tryz.isAgg113
  z25 := Tryz.sizeOf113
  v25 := Tryz.zeroValue113
  t39 := Tryz.underlying153
  a39 := Tryz.isAgg153
  z39 := Tryz.sizeOf153
  v39 := Tryz.zeroValue153
  t45 := Tryz.underlying168
  a45 := Tryz.isAgg168
  z45 := Tryz.sizeOf168
  v45 := Tryz.zeroValue168
  t46 := Tryz.underlying169
  a46 := Tryz.isAgg169
  z46 := Tryz.sizeOf169
  v46 := Tryz.zeroValue169
  t50 := Tryz.underlying115
  a50 := Tryz.isAgg115
  z50 := Tryz.sizeOf115
  v50 := Tryz.zeroValue115
  t53 := Tryz.underlying38
  a53 := Tryz.isAgg38
  z53 := Tryz.sizeOf38
  v53 := Tryz.zeroValue38
  t55 := Tryz.underlying53
  a55 := Tryz.isAgg53
  z55 := Tryz.sizeOf53
  v55 := Tryz.zeroValue53
  t66 := Tryz.underlying182
  a66 := Tryz.isAgg182
  z66 := Tryz.sizeOf182
  v66 := Tryz.zeroValue182
  t70 := Tryz.underlying186
  a70 := Tryz.isAgg186
  z70 := Tryz.sizeOf186
  v70 := Tryz.zeroValue186
  t76 := Tryz.underlying198
  a76 := Tryz.isAgg198
  z76 := Tryz.sizeOf198
  v76 := Tryz.zeroValue198
  t77 := Tryz.underlying92
  a77 := Tryz.isAgg92
  z77 := Tryz.sizeOf92
  v77 := Tryz.zeroValue92 }
def Tryz.idxF_ren : Go.Shelf.Ren := ⟨fun | 6 => 93 | n => n, fun | 22 => 25 | 23 => 79 | 25 => 124 | 3 => 3 | 0 => 0 | 4 => 4 | n => n, fun | n => n⟩
theorem Tryz.idxF : Go.Proofs.SlLaysH0.n6 Tryz.prog Tryz.idxF_ren := {
  mixed := by kernel_rfl
  f6 := ⟨Tryz.f93.name, by decide, Tryz.func93.trans (congrArg some (by kernel_rfl))⟩
  t0 := Tryz.underlying0
  a0 := Tryz.isAgg0
  z0 := Tryz.sizeOf0
  v0 := Tryz.zeroValue0
  t3 := Tryz.underlying3
  a3 := Tryz.isAgg3
  z3 := Tryz.sizeOf3
  v3 := Tryz.zeroValue3
  t4 := Tryz.underlying4
  a4 := Tryz.isAgg4
  z4 := Tryz.sizeOf4
  v4 := Tryz.zeroValue4
  t22 := Tryz.underlying25
  a22 := Tryz.isAgg25
  z22 := Tryz.sizeOf25
  v22 := Tryz.zeroValue25
  t25 := Tryz.underlying124
  a25 := Tryz.isAgg124
  z25 := Tryz.sizeOf124
  v25 := Tryz.zeroValue124 }
def Tryz.conF_ren : Go.Shelf.Ren := ⟨fun | 8 => 62 | 6 => 93 | n => n, fun | 22 => 25 | 23 => 79 | 25 => 124 | 4 => 4 | 3 => 3 | 0 => 0 | n => n, fun | n => n⟩
theorem Tryz.conF : Go.Proofs.SlLaysH0.n8 Tryz.prog Tryz.conF_ren := {
  mixed := by kernel_rfl
  f6 := ⟨Tryz.f93.name, by decide, Tryz.func93.trans (congrArg some (by kernel_rfl))⟩
  f8 := ⟨Tryz.f62.name, by decide, Tryz.func62.trans (congrArg some (by kernel_rfl))⟩
  t0 := Tryz.underlying0
  a0 := Tryz.isAgg0
  z0 := Tryz.sizeOf0
  v0 := Tryz.zeroValue0
  t3 := Tryz.underlying3
  a3 := Tryz.isAgg3
  z3 := Tryz.sizeOf3
  v3 := Tryz.zeroValue3
  t4 := Tryz.underlying4
  a4 := Tryz.isAgg4
  z4 := Tryz.sizeOf4
  v4 := Tryz.zeroValue4
  t22 := Tryz.underlying25
  a22 := Tryz.isAgg25
  z22 := Tryz.sizeOf25
  v22 := Tryz.zeroValue25
  t25 := Tryz.underlying124
  a25 := Tryz.isAgg124
  z25 := Tryz.sizeOf124
  v25 := Tryz.zeroValue124 }
def Tryz.cloneR_ren : Go.Shelf.Ren := ⟨fun | 41 => 28 | n => n, fun | 22 => 25 | 23 => 79 | 4 => 4 | n => n, fun | n => n⟩
theorem Tryz.cloneR : Go.Proofs.SlLaysE0.n41 Tryz.prog Tryz.cloneR_ren := {
  mixed := by kernel_rfl
  f41 := ⟨Tryz.f28.name, by decide, Tryz.func28.trans (congrArg some (by kernel_rfl))⟩
  t4 := Tryz.underlying4
  a4 := Tryz.isAgg4
  z4 := Tryz.sizeOf4
  v4 := Tryz.zeroValue4
  t22 := Tryz.underlying25
  a22 := Tryz.isAgg25
  z22 := Tryz.sizeOf25
  v22 := Tryz.zeroValue25 }
end Go.Proofs
/- What the library's tables hold; the walks of addr's number, Parse, Print, Show, Net. -/
namespace Go.Proofs.YtahgapkecabnjaaGreatDoor
set_option linter.unusedSimpArgs false
set_option linter.unusedVariables false
open Go Go.RowKit

theorem var_keep {P : Program} {w w' : World} {n : String} {cs : Array Value} (h : w.var? P n = some cs) (hb : Below w.heap.size w w') : w'.var? P n = some cs := by
  unfold World.var? at *
  cases hg : P.globalNamed n with
  | none => rw [hg] at h; simp at h
  | some g =>
    rw [hg] at h
    simp only [Option.bind_some] at h ⊢
    have hlt : g < w.heap.size := by
      by_cases hl : g < w.heap.size
      · exact hl
      · rw [Array.getElem?_eq_none (by omega)] at h; simp at h
    rw [hb.block g hlt]
    exact h

/-- The package-level variables of the library that are read. -/
structure Tabs (w : World) : Prop where
  pow : Lib.TabIs Tryz.prog w "internal/strconv.uint64pow10" .u64 Lib.pow10Tab
  syn : ∀ g, Tryz.prog.globalNamed "strconv.ErrSyntax" = some g → ∃ tp p, w.var? Tryz.prog "strconv.ErrSyntax" = some #[.iface tp p]
  rng : ∀ g, Tryz.prog.globalNamed "strconv.ErrRange" = some g → ∃ tp p, w.var? Tryz.prog "strconv.ErrRange" = some #[.iface tp p]
  len : ∃ m, w.cell? ⟨1, 0, none⟩ = some (.int .i64 m)
theorem Tabs.below {w w' : World} (h : Tabs w) (hb : Below w.heap.size w w') : Tabs w' := by
  obtain ⟨h1, h2, h3, m, h4⟩ := h
  exact ⟨var_keep h1 hb, fun g hg => let ⟨t2, p2, h2⟩ := h2 g hg; ⟨t2, p2, var_keep h2 hb⟩, fun g hg => let ⟨t3, p3, h3⟩ := h3 g hg; ⟨t3, p3, var_keep h3 hb⟩, m, (hb.cell (p := ⟨_, 0, none⟩) (World.block_lt_of_cell? w _ h4)).trans h4⟩

theorem itoa_any (n : Int) (w : World) (h0 : -9223372036854775808 ≤ n) (h1 : n ≤ 9223372036854775807) (hT : Tabs w) :
    Calls Tryz.prog 118 #[.int .i64 n] w fun e w' => e = .returned (str (Lib.itoa n)) ∧ Below w.heap.size w w' :=
  (Tryz.strconv_Itoa n h0 h1 w hT.pow).mono fun e w' ⟨he, k, os, hw⟩ => ⟨he, by
    subst hw
    exact Lib.below_grow _ _ (Nat.le_refl _) _ _⟩

/-- The number beside Atoi's error. -/
def atoiV (l : List UInt8) : Int := match Lib.atoiAll l with | .ok v => v | .syntax => 0 | .range => Lib.atoiSat l

def NumPost (n : Int) (b : Bool) (w : World) (e : Ending) (w' : World) : Prop := e = .returned (.tuple #[.int .i64 n, .bool b]) ∧ Below w.heap.size w w'
theorem num_end {n m : Int} {b c : Bool} {w w' : World} (h1 : n = m) (h2 : b = c) (hb : Below w.heap.size w w') : NumPost n b w (.returned (.tuple #[.int .i64 m, .bool c])) w' := by
  subst h1 h2; exact ⟨rfl, hb⟩

end Go.Proofs.YtahgapkecabnjaaGreatDoor
/- The walks of the two Numbers of layer 11, and of the law TextNumbers. -/
namespace Go.Proofs.YtahgapkecabnjaaGreatDoor
set_option linter.unusedSimpArgs false
set_option linter.unusedVariables false
open Go Go.RowKit

/-- 2^62. -/
def big62 : Nat := 4611686018427387904
def numT (l : List UInt8) : Int := if isNum l big62 then valOf l else 0

theorem isNum_bad {l : List UInt8} {c : UInt8} {m : Nat} (hc : c ∈ l) (h : ¬ digit c) : isNum l m = false := by
  unfold isNum
  rw [decide_eq_false]
  rintro ⟨e, _⟩
  exact h (dec_digits (valOf l) c (by rw [e]; exact hc))
theorem isNum_long {l : List UInt8} (h : 19 < l.length) : isNum l big62 = false := by
  unfold isNum
  rw [decide_eq_false]
  rintro ⟨e, h2⟩
  have := dec_len_le 19 (valOf l) (by unfold big62 at h2; omega) (by omega)
  rw [e] at this; omega

/-- The walk of the law TextNumbers needs the fixed fact; it stands in a later text. -/
theorem numT_bounds (l : List UInt8) : 0 ≤ numT l ∧ numT l ≤ 4611686018427387904 := by
  unfold numT
  split
  · rename_i h
    have := (isNum_atoi (by decide) h).2.1
    unfold big62 at this
    omega
  · omega
end Go.Proofs.YtahgapkecabnjaaGreatDoor
/- What a call may change of memory: footprints; rows of a call's own under them. -/
namespace Go.Proofs.YtahgapkecabnjaaGreatDoor
set_option linter.unusedSimpArgs false
set_option linter.unusedVariables false
open Go Go.RowKit

/-- Of what was there only blocks of F may have changed. -/
structure Turn (F : Nat → Prop) (w w' : World) : Prop where
  os : w'.os = w.os
  tape : w'.tape = w.tape
  output : w'.output = w.output
  size : w.heap.size ≤ w'.heap.size
  block : ∀ i, i < w.heap.size → ¬ F i → w'.heap[i]? = w.heap[i]?

theorem Turn.refl (F : Nat → Prop) (w : World) : Turn F w w := ⟨rfl, rfl, rfl, Nat.le_refl _, fun _ _ _ => rfl⟩
theorem Turn.trans {F G : Nat → Prop} {w w1 w2 : World} (h : Turn F w w1) (k : Turn G w1 w2) (hG : ∀ i, G i → F i ∨ w.heap.size ≤ i) : Turn F w w2 :=
  ⟨k.os.trans h.os, k.tape.trans h.tape, k.output.trans h.output, Nat.le_trans h.size k.size, fun i hi hf => (k.block i (Nat.lt_of_lt_of_le hi h.size) (fun hg => (hG i hg).elim hf (fun hle => by omega))).trans (h.block i hi hf)⟩
theorem Turn.mono {F G : Nat → Prop} {w w' : World} (h : Turn F w w') (hG : ∀ i, F i → G i) : Turn G w w' := ⟨h.os, h.tape, h.output, h.size, fun i hi hg => h.block i hi (fun hf => hg (hG i hf))⟩
theorem Turn.of_below {F : Nat → Prop} {w w' : World} (h : Below w.heap.size w w') : Turn F w w' := ⟨h.os, h.tape, h.output, h.size, fun i hi _ => h.block i hi⟩
theorem Turn.below {F : Nat → Prop} {w w' : World} {B : Nat} (h : Turn F w w') (hB : B ≤ w.heap.size) (hF : ∀ i, F i → B ≤ i) : Below B w w' :=
  ⟨h.os, h.tape, h.output, h.size, fun i hi => h.block i (by omega) (fun hf => by have := hF i hf; omega)⟩
theorem Turn.grown {F : Nat → Prop} {w w1 w2 : World} {row : Option Nat} (h : Turn F w w1) (k : w1.grownBy w2 row) (hr : ∀ b, row = some b → F b ∨ w.heap.size ≤ b) : Turn F w w2 :=
  ⟨k.os.trans h.os, k.tape.trans h.tape, k.output.trans h.output, Nat.le_trans h.size k.size, fun i hi hf => (k.block i (Nat.lt_of_lt_of_le hi h.size) (fun e => (hr i e.symm).elim hf (fun hle => by omega))).trans (h.block i hi hf)⟩
theorem Turn.alloc {F : Nat → Prop} {w w1 : World} (h : Turn F w w1) (o : Obj) : Turn F w (w1.alloc o) :=
  h.grown (World.grownBy_alloc w1 o none) (fun b e => by cases e)
theorem Turn.setCell {F : Nat → Prop} {w w1 : World} (h : Turn F w w1) (a : Addr) (v : Value) (ha : F a.block ∨ w.heap.size ≤ a.block) : Turn F w (w1.setCell a v) :=
  ⟨h.os, h.tape, h.output, by simpa [World.setCell] using h.size, fun i hi hf => by
    rw [Below.heap_setCell _ _ _ _ (fun e => by subst e; exact ha.elim hf (fun hle => by omega))]; exact h.block i hi hf⟩
theorem Turn.drew {F : Nat → Prop} {w w1 : World} (h : Turn F w w1) : Turn F w w1.drew := ⟨h.os, h.tape, h.output, h.size, h.block⟩
theorem Turn.drewN {F : Nat → Prop} {w w1 : World} (h : Turn F w w1) (n : Nat) : Turn F w (w1.drewN n) := ⟨h.os, h.tape, h.output, h.size, h.block⟩
theorem Turn.cell {F : Nat → Prop} {w w' : World} (h : Turn F w w') {a : Addr} {v : Value} (hc : w.cell? a = some v) (hf : ¬ F a.block) : w'.cell? a = some v :=
  (World.cell?_of_block (w := w) (h.block a.block (World.block_lt_of_cell? w a hc) hf)).trans hc

/-- A footprint that has grown by new blocks alone. -/
def Ext (w : World) (F F' : Nat → Prop) : Prop := ∀ i, F' i → F i ∨ w.heap.size ≤ i
def Sep (F G : Nat → Prop) : Prop := ∀ i, F i → ¬ G i
theorem Ext.refl (w : World) (F : Nat → Prop) : Ext w F F := fun _ h => .inl h
theorem Ext.trans {w w1 : World} {F G K : Nat → Prop} (h : Ext w F G) (k : Ext w1 G K) (hs : w.heap.size ≤ w1.heap.size) : Ext w F K := fun i hi => (k i hi).elim (h i) (fun hle => .inr (by omega))
theorem Sep.symm {F G : Nat → Prop} (h : Sep F G) : Sep G F := fun i hg hf => h i hf hg
theorem Sep.ext {w : World} {F F' G : Nat → Prop} (h : Sep F G) (k : Ext w F F') (hG : ∀ i, G i → i < w.heap.size) : Sep F' G := fun i hi hg => (k i hi).elim (fun hf => h i hf hg) (fun hle => by have := hG i hg; omega)
theorem Ext.base {w : World} {F F' : Nat → Prop} {B : Nat} (k : Ext w F F') (hB : B ≤ w.heap.size) (hF : ∀ i, F i → B ≤ i) : ∀ i, F' i → B ≤ i := fun i hi => (k i hi).elim (hF i) (fun hle => by omega)

/-! ### Rows -/
/-- Slice value v owns, in a block of its own, just the cells xs: n elements of type e, of 'size' cells. -/
abbrev Row (w : World) (e : TypeId) (size : Nat) (v : Value) (n : Nat) (xs : List Value) : Prop := w.ownsRow 0 e size v n xs

def rowFoot (v : Value) : Nat → Prop := fun i => v.ownBlock = some i

theorem row_of_block {w w' : World} {e : TypeId} {size n : Nat} {v : Value} {xs : List Value} (h : Row w e size v n xs) (hb : ∀ b, v.ownBlock = some b → w'.heap[b]? = w.heap[b]?) : Row w' e size v n xs := by
  refine ⟨h.1, ?_⟩
  rcases h.2 with h1 | ⟨g, cap, cur, rfl, h2, h3, h4⟩
  · exact .inl h1
  · exact .inr ⟨g, cap, cur, rfl, h2, (hb g rfl).trans h3, h4⟩
theorem row_lt {w : World} {e : TypeId} {size n : Nat} {v : Value} {xs : List Value} (h : Row w e size v n xs) {b : Nat} (hb : v.ownBlock = some b) : b < w.heap.size := by
  rcases h.2 with ⟨rfl, _⟩ | ⟨g, cap, cur, rfl, h2, h3, h4⟩
  · cases hb
  · cases hb
    exact (Array.getElem?_eq_some_iff.1 h3).1
theorem row_turn {F : Nat → Prop} {w w' : World} {e : TypeId} {size n : Nat} {v : Value} {xs : List Value} (h : Row w e size v n xs) (t : Turn F w w') (hF : ∀ b, v.ownBlock = some b → ¬ F b) : Row w' e size v n xs :=
  row_of_block h fun b hb => t.block b (row_lt h hb) (hF b hb)
theorem row_nil (w : World) (e : TypeId) (size : Nat) : Row w e size (.slice none 0 0) 0 [] := ⟨by simp, .inl ⟨rfl, rfl⟩⟩
theorem row_type {w : World} {e : TypeId} {size n : Nat} {v : Value} {xs : List Value} (h : Row w e size v n xs) {b : Nat} (hb : v.ownBlock = some b) : ∃ cur, w.heap[b]? = some (.cells cur e (0, 0)) := by
  rcases h.2 with ⟨rfl, _⟩ | ⟨g, cap, cur, rfl, h2, h3, h4⟩
  · cases hb
  · cases hb; exact ⟨cur, h3⟩
theorem row_len {w : World} {e : TypeId} {size n : Nat} {v : Value} {xs : List Value} (h : Row w e size v n xs) : n ≤ maxLen := by
  rcases h.2 with ⟨_, rfl⟩ | ⟨g, cap, cur, rfl, h2, h3, h4, h5, _⟩
  · exact Nat.zero_le _
  · omega
/-- The shape of the slice: what its cells hold. -/
theorem row_form {w : World} {e : TypeId} {size n : Nat} {v : Value} {xs : List Value} (h : Row w e size v n xs) : ∃ a c, v = .slice a n c ∧ (∀ j x, xs[j]? = some x → ∃ g, a = some ⟨g, 0, none⟩ ∧ w.cell? ⟨g, j, none⟩ = some x ∧ w.frozen? ⟨g, j, none⟩ = false) := by
  rcases h.2 with ⟨rfl, rfl⟩ | ⟨g, cap, cur, rfl, h2, h3, h4, h5, h6, h7⟩
  · refine ⟨none, 0, rfl, fun j x hj => ?_⟩
    have : xs = [] := List.eq_nil_of_length_eq_zero (by rw [h.1]; omega)
    subst this
    simp at hj
  · refine ⟨_, cap, rfl, fun j x hj => ⟨g, rfl, ?_, ?_⟩⟩
    · rw [← h7, List.getElem?_take] at hj
      split at hj
      · simp [World.cell?, h3]; simpa using hj
      · cases hj
    · simp [World.frozen?, h3]
/-- One cell of the row is written. -/
theorem row_set {w : World} {e : TypeId} {size n : Nat} {v : Value} {xs : List Value} (h : Row w e size v n xs) {g : Nat} (hg : v.ownBlock = some g) (j : Nat) (x : Value) (hj : j < xs.length) : Row (w.setCell ⟨g, j, none⟩ x) e size v n (xs.set j x) := by
  refine ⟨by rw [List.length_set]; exact h.1, ?_⟩
  rcases h.2 with ⟨rfl, _⟩ | ⟨g', cap, cur, rfl, h2, h3, h4, h5, h6, h7⟩
  · cases hg
  · cases hg
    refine .inr ⟨g', cap, cur.setIfInBounds j x, rfl, h2, ?_, h4, h5, by simpa using h6, ?_⟩
    · show (w.heap.modify g' _)[g']? = _
      rw [Array.getElem?_modify, if_pos rfl, h3]; rfl
    · rw [← h7, Array.toList_setIfInBounds, List.take_set]
/-- The cells of a new block, as the laws on append ask for them. -/
theorem cells_new (w : World) (l : List Value) (t : TypeId) : ∀ j u, l[j]? = some u → (w.alloc (.cells l.toArray t)).cell? ((⟨w.heap.size, 0, none⟩ : Addr).add j) = some u := by
  intro j u hj
  have e : (⟨w.heap.size, 0, none⟩ : Addr).add j = ⟨w.heap.size, j, none⟩ := by unfold Addr.add; split <;> simp_all
  rw [e]
  simp [hj]
theorem set_heap_row {w : World} {g o : Nat} {cs : Array Value} {T : TypeId} {fr : Nat × Nat} (h : w.heap[g]? = some (.cells cs T fr)) (v : Value) : (w.setCell ⟨g, o, none⟩ v).heap[g]? = some (.cells (cs.setIfInBounds o v) T fr) := by
  show (w.heap.modify g _)[g]? = _
  rw [Array.getElem?_modify, if_pos rfl, h]; rfl
end Go.Proofs.YtahgapkecabnjaaGreatDoor
/- The walks of addr's Print and Show. -/
namespace Go.Proofs.YtahgapkecabnjaaGreatDoor
set_option linter.unusedSimpArgs false
set_option linter.unusedVariables false
open Go Go.RowKit

theorem owns_below {w w1 : World} {base : Nat} {e : TypeId} {size n : Nat} {v : Value} {xs : List Value} (h : w.ownsRow base e size v n xs) (hb : Below w.heap.size w w1) : w1.ownsRow base e size v n xs := by
  refine ⟨h.1, ?_⟩
  rcases h.2 with h1 | ⟨g, cap, cur, rfl, h2, h3, h4⟩
  · exact .inl h1
  · refine .inr ⟨g, cap, cur, rfl, h2, ?_, h4⟩
    have hl : g < w.heap.size := by
      by_cases hl : g < w.heap.size
      · exact hl
      · rw [Array.getElem?_eq_none (by omega)] at h3; cases h3
    rw [hb.block g hl]; exact h3
theorem owns_block {w : World} {base : Nat} {e : TypeId} {size n : Nat} {v : Value} {xs : List Value} (h : w.ownsRow base e size v n xs) : ∀ b, v.ownBlock = some b → base ≤ b := by
  rcases h.2 with ⟨rfl, _⟩ | ⟨g, cap, cur, rfl, h2, _⟩
  · intro b hb; cases hb
  · intro b hb; cases hb; exact h2

theorem Row_of_owns {w : World} {base : Nat} {e : TypeId} {size n : Nat} {v : Value} {xs : List Value} (h : w.ownsRow base e size v n xs) : Row w e size v n xs := by
  refine ⟨h.1, ?_⟩
  rcases h.2 with h1 | ⟨g, cap, cur, rfl, h2, h3⟩
  · exact .inl h1
  · exact .inr ⟨g, cap, cur, rfl, Nat.zero_le _, h3⟩
theorem owns_cap {w : World} {base : Nat} {e : TypeId} {size n c : Nat} {a : Option Addr} {xs : List Value} (h : w.ownsRow base e size (.slice a n c) n xs) : n ≤ c := by
  rcases h.2 with ⟨h1, h2⟩ | ⟨g, cap, cur, h1, h2, h3, h4, _⟩
  · omega
  · cases h1; exact h4
theorem infoStr : (Tryz.prog.info? 9).map (fun i => (i.zero, i.size, i.bytes)) = some (some (.string ByteArray.empty), 1, 16) := by kernel_rfl

/-- The four parts of an address's text. -/
def parts4 (a : Nat) : List (List UInt8) := [Lib.decDigits (byteAt a 3), Lib.decDigits (byteAt a 2), Lib.decDigits (byteAt a 1), Lib.decDigits (byteAt a 0)]
theorem itoa_byte (n : Int) (m : Nat) (h : n = m) : Lib.itoa n = Lib.decDigits m := by subst h; rw [Lib.itoa, if_neg (by omega), Int.toNat_natCast]

set_option maxHeartbeats 2000000 in
set_option maxRecDepth 100000 in
theorem print_any (a : Nat) (w : World) (ha : a < 4294967296) (hT : Tabs w) :
    Calls Tryz.prog 117 #[.int .u32 a] w fun e w' => e = .returned (str (showAddr a)) ∧ Below w.heap.size w w' := by
  obtain ⟨i0, hi, hz0, hz1, hz2⟩ := info_parts infoStr
  have HT := Lib.hid hT
  have HA := Lib.hid ha
  clear hT ha
  go_enter Tryz.func117, Tryz.ntmps117
  go_wp2_with fail
  go_loopw [3, 4] (fun v sh wr => ∃ k : Nat, k ≤ 4 ∧ sh = .int .i64 (24 - 8 * k) ∧ wr.ownsRow w.heap.size 9 1 v k (((parts4 a).take k).map str) ∧ Below w.heap.size w wr) (fun _ sh _ => (intOf sh + 8).toNat)
  case atStart => exact ⟨0, by omega, rfl, ⟨rfl, .inl ⟨rfl, rfl⟩⟩, Below.refl _ _⟩
  case round =>
    obtain ⟨k, hk, rfl, hown, hb⟩ := hrel
    have HO := Lib.hid hown
    have HBB := Lib.hid hb
    clear hown hb
    obtain rfl | rfl | rfl | rfl | rfl : k = 0 ∨ k = 1 ∨ k = 2 ∨ k = 3 ∨ k = 4 := by omega
    · have HI := Lib.hid (fun W (hT : Tabs W) => itoa_any ((a : Int) / 16777216 % 256) W (by omega) (by omega) hT)
      go_wp2_with fail
      refine (HI.out _ (HT.out.below HBB.out)).mono ?_
      rintro e w1 ⟨rfl, h1⟩
      have hown := owns_below HO.out h1
      have HB1 := Lib.hid (HBB.out.trans (h1.mono HBB.out.size))
      have hsz : w.heap.size ≤ w1.heap.size := HB1.out.size
      clear h1
      go_wp2_with (at_builtin; refine wpList_append_own _ rfl _ _ 179 rfl w.heap.size 9 i0 (.string ByteArray.empty) 1 16 Tryz.underlying179 hi hz0 hz1 hz2 rfl (by decide) _ _ _ rfl (owns_below hown ((Below.refl _ _).alloc (Nat.le_refl _) _)) ⟨w1.heap.size, 0, none⟩ 1 1 [str (Lib.itoa ((a : Int) / 16777216 % 256))] rfl rfl (cells_new _ [str (Lib.itoa ((a : Int) / 16777216 % 256))] _) (by intro u hu; simp at hu; subst hu; rfl) (by unfold maxLen; omega) (by omega) (by simp; omega) ?_; intro v' w2 hown2 hgrow2 _)
      have HB2 := Lib.hid (((HB1.out.alloc (by omega) (.cells #[str (Lib.itoa ((a : Int) / 16777216 % 256))] 9))).grown hgrow2 (by simp; omega) (owns_block hown))
      clear hgrow2 hown
      have HO2 := Lib.hid hown2
      clear hown2
      go_wp2_with fail
      go_roundw
      case rel =>
        refine ⟨1, by omega, by first | rfl | go_num, ?_, HB2.out⟩
        have := HO2.out
        rw [itoa_byte _ (byteAt a 3) (by have := HA.out; unfold byteAt; omega)] at this
        exact this
      case measure => simp [intOf]
    · have HI := Lib.hid (fun W (hT : Tabs W) => itoa_any ((a : Int) / 65536 % 256) W (by omega) (by omega) hT)
      go_wp2_with fail
      refine (HI.out _ (HT.out.below HBB.out)).mono ?_
      rintro e w1 ⟨rfl, h1⟩
      have hown := owns_below HO.out h1
      have HB1 := Lib.hid (HBB.out.trans (h1.mono HBB.out.size))
      have hsz : w.heap.size ≤ w1.heap.size := HB1.out.size
      clear h1
      go_wp2_with (at_builtin; refine wpList_append_own _ rfl _ _ 179 rfl w.heap.size 9 i0 (.string ByteArray.empty) 1 16 Tryz.underlying179 hi hz0 hz1 hz2 rfl (by decide) _ _ _ rfl (owns_below hown ((Below.refl _ _).alloc (Nat.le_refl _) _)) ⟨w1.heap.size, 0, none⟩ 1 1 [str (Lib.itoa ((a : Int) / 65536 % 256))] rfl rfl (cells_new _ [str (Lib.itoa ((a : Int) / 65536 % 256))] _) (by intro u hu; simp at hu; subst hu; rfl) (by unfold maxLen; omega) (by omega) (by simp; omega) ?_; intro v' w2 hown2 hgrow2 _)
      have HB2 := Lib.hid (((HB1.out.alloc (by omega) (.cells #[str (Lib.itoa ((a : Int) / 65536 % 256))] 9))).grown hgrow2 (by simp; omega) (owns_block hown))
      clear hgrow2 hown
      have HO2 := Lib.hid hown2
      clear hown2
      go_wp2_with fail
      go_roundw
      case rel =>
        refine ⟨2, by omega, by first | rfl | go_num, ?_, HB2.out⟩
        have := HO2.out
        rw [itoa_byte _ (byteAt a 2) (by have := HA.out; unfold byteAt; omega)] at this
        exact this
      case measure => simp [intOf]
    · have HI := Lib.hid (fun W (hT : Tabs W) => itoa_any ((a : Int) / 256 % 256) W (by omega) (by omega) hT)
      go_wp2_with fail
      refine (HI.out _ (HT.out.below HBB.out)).mono ?_
      rintro e w1 ⟨rfl, h1⟩
      have hown := owns_below HO.out h1
      have HB1 := Lib.hid (HBB.out.trans (h1.mono HBB.out.size))
      have hsz : w.heap.size ≤ w1.heap.size := HB1.out.size
      clear h1
      go_wp2_with (at_builtin; refine wpList_append_own _ rfl _ _ 179 rfl w.heap.size 9 i0 (.string ByteArray.empty) 1 16 Tryz.underlying179 hi hz0 hz1 hz2 rfl (by decide) _ _ _ rfl (owns_below hown ((Below.refl _ _).alloc (Nat.le_refl _) _)) ⟨w1.heap.size, 0, none⟩ 1 1 [str (Lib.itoa ((a : Int) / 256 % 256))] rfl rfl (cells_new _ [str (Lib.itoa ((a : Int) / 256 % 256))] _) (by intro u hu; simp at hu; subst hu; rfl) (by unfold maxLen; omega) (by omega) (by simp; omega) ?_; intro v' w2 hown2 hgrow2 _)
      have HB2 := Lib.hid (((HB1.out.alloc (by omega) (.cells #[str (Lib.itoa ((a : Int) / 256 % 256))] 9))).grown hgrow2 (by simp; omega) (owns_block hown))
      clear hgrow2 hown
      have HO2 := Lib.hid hown2
      clear hown2
      go_wp2_with fail
      go_roundw
      case rel =>
        refine ⟨3, by omega, by first | rfl | go_num, ?_, HB2.out⟩
        have := HO2.out
        rw [itoa_byte _ (byteAt a 1) (by have := HA.out; unfold byteAt; omega)] at this
        exact this
      case measure => simp [intOf]
    · have HI := Lib.hid (fun W (hT : Tabs W) => itoa_any ((a : Int) % 256) W (by omega) (by omega) hT)
      go_wp2_with fail
      refine (HI.out _ (HT.out.below HBB.out)).mono ?_
      rintro e w1 ⟨rfl, h1⟩
      have hown := owns_below HO.out h1
      have HB1 := Lib.hid (HBB.out.trans (h1.mono HBB.out.size))
      have hsz : w.heap.size ≤ w1.heap.size := HB1.out.size
      clear h1
      go_wp2_with (at_builtin; refine wpList_append_own _ rfl _ _ 179 rfl w.heap.size 9 i0 (.string ByteArray.empty) 1 16 Tryz.underlying179 hi hz0 hz1 hz2 rfl (by decide) _ _ _ rfl (owns_below hown ((Below.refl _ _).alloc (Nat.le_refl _) _)) ⟨w1.heap.size, 0, none⟩ 1 1 [str (Lib.itoa ((a : Int) % 256))] rfl rfl (cells_new _ [str (Lib.itoa ((a : Int) % 256))] _) (by intro u hu; simp at hu; subst hu; rfl) (by unfold maxLen; omega) (by omega) (by simp; omega) ?_; intro v' w2 hown2 hgrow2 _)
      have HB2 := Lib.hid (((HB1.out.alloc (by omega) (.cells #[str (Lib.itoa ((a : Int) % 256))] 9))).grown hgrow2 (by simp; omega) (owns_block hown))
      clear hgrow2 hown
      have HO2 := Lib.hid hown2
      clear hown2
      go_wp2_with fail
      go_roundw
      case rel =>
        refine ⟨4, by omega, by first | rfl | go_num, ?_, HB2.out⟩
        have := HO2.out
        rw [itoa_byte _ (byteAt a 0) (by have := HA.out; unfold byteAt; omega)] at this
        exact this
      case measure => simp [intOf]
    · obtain ⟨v0, c0, rfl, hcells⟩ := row_form (Row_of_owns HO.out)
      obtain ⟨g, rfl, _⟩ := hcells 0 _ rfl
      have hj : ∀ (j : Nat) x, ((parts4 a).map fun l => (⟨l.toArray⟩ : ByteArray))[j]? = some x → wr.cell? ⟨g, 0 + j, none⟩ = some (.string x) := fun j x hx => by
        obtain ⟨g', e1, e2, _⟩ := hcells j (.string x) (by
          rw [show (parts4 a).take 4 = parts4 a from rfl]
          rw [List.getElem?_map] at hx ⊢
          cases hp : (parts4 a)[j]? with
          | none => rw [hp] at hx; simp at hx
          | some l => rw [hp] at hx; simp at hx; subst hx; rfl)
        cases e1
        rw [Nat.zero_add]; exact e2
      have hjl : Lib.join (((parts4 a).map fun l => (⟨l.toArray⟩ : ByteArray)).map (·.data.toList)) [46] = showAddr a := by simp [parts4, showAddr]
      have HJL := Lib.hid hjl
      have hg : g < wr.heap.size := World.block_lt_of_cell? wr ⟨g, 0 + 0, none⟩ (hj 0 _ rfl)
      have HJ := Lib.hid (Tryz.strings_Join g 0 c0 ((parts4 a).map fun l => (⟨l.toArray⟩ : ByteArray)) ⟨#[46]⟩ wr hj hg (by simp [parts4]) (by have := owns_cap HO.out; simpa [parts4] using this) (by have := show_len a; rw [← hjl] at this; exact Nat.le_trans this (by omega)))
      clear hj hcells hjl
      go_wp2_with fail
      refine HJ.out.mono ?_
      rintro e w1 ⟨rfl, h1⟩
      go_wp2_with fail
      go_ret
      exact retB (congrArg (fun l : List UInt8 => Value.string ⟨l.toArray⟩) HJL.out) (HBB.out.trans (h1.mono HBB.out.size))

theorem itoa_nat (n : Nat) (w : World) (h1 : n ≤ 9223372036854775807) (hT : Tabs w) :
    Calls Tryz.prog 118 #[.int .i64 n] w fun e w' => e = .returned (str (Lib.decDigits n)) ∧ Below w.heap.size w w' := by
  rw [← itoa_byte (n : Int) n rfl]; exact itoa_any n w (by omega) (by omega) hT

set_option maxHeartbeats 2000000 in
set_option maxRecDepth 100000 in
theorem show_any (a : Nat) (n : Int) (w : World) (ha : a < 4294967296) (hT : Tabs w) :
    Calls Tryz.prog 94 #[.agg #[.int .u32 a, .int .i64 n]] w (StrPost (showF a n) w) := by
  have B0 : Below w.heap.size w (w.alloc (.cells #[.int .u32 a, .int .i64 n] 75)) := (Below.refl _ _).alloc (Nat.le_refl _) _
  have N0 := NetAt.new w a n 75
  have HT0 := Lib.hid (hT.below B0)
  cases hm : mayNet a n with
  | false =>
    have hv : Hid (showF a n = ([], 1)) := Lib.hid (by unfold showF showNet; rw [hm]; simp)
    have HM := Lib.hid hm
    clear hm
    go_enter Tryz.func94, Tryz.ntmps94
    go_wp2_with fail
    refine (may_val a n false _ ha HM.out).mono ?_
    rintro e w1 ⟨rfl, h1⟩
    generalize w.alloc (.cells #[.int .u32 a, .int .i64 n] 75) = w0 at *
    have HB0 := Lib.hid B0
    clear B0
    go_wp2_with fail
    go_ret2
    exact str_end (by rw [hv.out]) (by rw [hv.out]) (below_then HB0.out h1)
  | true =>
    have hr := may_range hm
    have HM := Lib.hid hm
    by_cases h0 : n = 0
    · have hv : Hid (showF a n = (anyL, 0)) := Lib.hid (by unfold showF showNet; rw [if_pos hm, if_pos h0])
      have e0 : (n == 0) = true := by rw [h0]; rfl
      clear hm h0
      go_enter Tryz.func94, Tryz.ntmps94
      go_wp2_with fail
      refine (may_val a n true _ ha HM.out).mono ?_
      rintro e w1 ⟨rfl, h1⟩
      generalize w.alloc (.cells #[.int .u32 a, .int .i64 n] 75) = w0 at *
      have HB0 := Lib.hid B0
      have HB1 := Lib.hid (below_then B0 h1)
      obtain ⟨c0, c1⟩ := N0.below h1
      clear B0 h1
      go_wp2_with fail
      go_ret2
      exact str_end (by rw [hv.out]; rfl) (by rw [hv.out]) HB1.out
    · have hv : Hid (showF a n = (showAddr a ++ 47 :: Lib.decDigits n.toNat, 0)) := Lib.hid (by unfold showF showNet; rw [if_pos hm, if_neg h0])
      have e0 : (n == 0) = false := beq_eq_false_iff_ne.2 h0
      have ls := show_len a
      have ld := dec_len_le 2 n.toNat (by omega) (by omega)
      have CP := Lib.hid (fun v (hT : Tabs v) => print_any a v ha hT)
      have CN := Lib.hid (fun v (hT : Tabs v) => (by have := itoa_nat n.toNat v (by omega) hT; rwa [Int.toNat_of_nonneg hr.1] at this : Calls Tryz.prog 118 #[.int .i64 n] v fun e w' => e = .returned (str (Lib.decDigits n.toNat)) ∧ Below v.heap.size v w'))
      generalize showAddr a = la at *
      generalize Lib.decDigits n.toNat = ln at *
      clear hm h0
      go_enter Tryz.func94, Tryz.ntmps94
      go_wp2_with fail
      refine (may_val a n true _ ha HM.out).mono ?_
      rintro e w1 ⟨rfl, h1⟩
      generalize w.alloc (.cells #[.int .u32 a, .int .i64 n] 75) = w0 at *
      have HB0 := Lib.hid B0
      have HB1 := Lib.hid (below_then B0 h1)
      have HT1 := Lib.hid (HT0.out.below h1)
      obtain ⟨c0, c1⟩ := N0.below h1
      clear B0 h1
      go_wp2_with fail
      refine WQ.enter w1 (Since.refl _) (by kernel_rfl) (by kernel_rfl) ?_
      refine WQ.val (by rfl) (fun v hv => by have k0 := hv.cell c0; have k1 := hv.cell c1; go_simp; first | done | with_reducible rfl | (rw [if_neg (by omega)])) ?_; simp only [Act.put, List.setIfInBounds_toArray, List.set_cons_zero, List.set_cons_succ]
      refine WQ.val (by rfl) (fun v hv => by have k0 := hv.cell c0; have k1 := hv.cell c1; go_simp; first | done | with_reducible rfl | (rw [if_neg (by omega)])) ?_; simp only [Act.put, List.setIfInBounds_toArray, List.set_cons_zero, List.set_cons_succ]
      refine WQ.call (f := 117) (args := #[.int .u32 a]) (by rfl) (fun v hv => by go_simp) (fun v hv => (CP.out v (HT1.out.below hv)).mono (fun e v' ⟨he, hb⟩ => ⟨he, hv.step hb⟩)) ?_; simp only [Act.put, List.setIfInBounds_toArray, List.set_cons_zero, List.set_cons_succ]
      refine WQ.val (by rfl) (fun v hv => by have k0 := hv.cell c0; have k1 := hv.cell c1; go_simp; first | done | with_reducible rfl | (rw [if_neg (by omega)])) ?_; simp only [Act.put, List.setIfInBounds_toArray, List.set_cons_zero, List.set_cons_succ]
      refine WQ.val (by rfl) (fun v hv => by have k0 := hv.cell c0; have k1 := hv.cell c1; go_simp; first | done | with_reducible rfl | (rw [if_neg (by omega)])) ?_; simp only [Act.put, List.setIfInBounds_toArray, List.set_cons_zero, List.set_cons_succ]
      refine WQ.val (by rfl) (fun v hv => by have k0 := hv.cell c0; have k1 := hv.cell c1; go_simp; first | done | with_reducible rfl | (rw [if_neg (by omega)])) ?_; simp only [Act.put, List.setIfInBounds_toArray, List.set_cons_zero, List.set_cons_succ]
      refine WQ.call (f := 118) (args := #[.int .i64 n]) (by rfl) (fun v hv => by go_simp) (fun v hv => (CN.out v (HT1.out.below hv)).mono (fun e v' ⟨he, hb⟩ => ⟨he, hv.step hb⟩)) ?_; simp only [Act.put, List.setIfInBounds_toArray, List.set_cons_zero, List.set_cons_succ]
      refine WQ.val (by rfl) (fun v hv => by have k0 := hv.cell c0; have k1 := hv.cell c1; go_simp; first | done | with_reducible rfl | (rw [if_neg (by omega)])) ?_; simp only [Act.put, List.setIfInBounds_toArray, List.set_cons_zero, List.set_cons_succ]
      refine WQ.val (by rfl) (fun v hv => by have k0 := hv.cell c0; have k1 := hv.cell c1; go_simp; first | done | with_reducible rfl | (rw [if_neg (by omega)])) ?_; simp only [Act.put, List.setIfInBounds_toArray, List.set_cons_zero, List.set_cons_succ]
      refine WQ.val (by rfl) (fun v hv => by have k0 := hv.cell c0; have k1 := hv.cell c1; go_simp; first | done | with_reducible rfl | (rw [if_neg (by omega)])) ?_; simp only [Act.put, List.setIfInBounds_toArray, List.set_cons_zero, List.set_cons_succ]
      refine WQ.done ?_
      intro w5 hw5
      have HB5 := Lib.hid (below_then HB1.out hw5)
      clear hw5 c0 c1
      go_wp2_with fail
      go_ret2
      exact str_end (by rw [hv.out]; simp) (by rw [hv.out]) HB5.out
end Go.Proofs.YtahgapkecabnjaaGreatDoor
/- Words and lines in memory; the walks of slices.Clip, text.bad. -/
namespace Go.Proofs.YtahgapkecabnjaaGreatDoor
set_option linter.unusedSimpArgs false
set_option linter.unusedVariables false
open Go Go.RowKit

/-- Words in memory, in a block of P. -/
def WordsIn (P : Nat → Prop) (w : World) (v : Value) (ws : List (List UInt8)) : Prop :=
  ∃ a c, v = .slice a ws.length c ∧ ws.length ≤ c ∧ ∀ j x, ws[j]? = some x → ∃ b o, a = some ⟨b, o, none⟩ ∧ P b ∧ w.cell? ⟨b, o + j, none⟩ = some (str x)
theorem WordsIn.mono {P Q : Nat → Prop} {w w' : World} {v : Value} {ws : List (List UInt8)} (h : WordsIn P w v ws) (hP : ∀ b, b < w.heap.size → P b → Q b ∧ ∀ o x, w.cell? ⟨b, o, none⟩ = some x → w'.cell? ⟨b, o, none⟩ = some x) : WordsIn Q w' v ws := by
  obtain ⟨a, c, h1, h2, h3⟩ := h
  refine ⟨a, c, h1, h2, fun j x hj => ?_⟩
  obtain ⟨b, o, e, hb, hc⟩ := h3 j x hj
  obtain ⟨q1, q2⟩ := hP b (World.block_lt_of_cell? w ⟨b, o + j, none⟩ hc) hb
  exact ⟨b, o, e, q1, q2 _ _ hc⟩
abbrev Words (w : World) (v : Value) (ws : List (List UInt8)) : Prop := WordsIn (fun _ => True) w v ws
theorem Words.below {w w' : World} {v : Value} {ws : List (List UInt8)} (h : Words w v ws) (hb : Below w.heap.size w w') : Words w' v ws :=
  h.mono fun b hl _ => ⟨trivial, fun o x hx => (hb.cell (p := ⟨b, o, none⟩) hl).trans hx⟩

/-- Lines in memory. -/
def Lines (w : World) (v : Value) (ls : List Ln) : Prop :=
  ∃ a c, v = .slice a ls.length c ∧ ls.length ≤ c ∧ ∀ i l, ls[i]? = some l → ∃ b o wv, a = some ⟨b, o, none⟩ ∧ w.cell? ⟨b, o + 2 * i, none⟩ = some (.int .i64 l.1) ∧ w.cell? ⟨b, o + 2 * i + 1, none⟩ = some wv ∧ Words w wv l.2
theorem Lines.below {w w' : World} {v : Value} {ls : List Ln} (h : Lines w v ls) (hb : Below w.heap.size w w') : Lines w' v ls := by
  obtain ⟨a, c, h1, h2, h3⟩ := h
  refine ⟨a, c, h1, h2, fun i l hi => ?_⟩
  obtain ⟨b, o, wv, e, k1, k2, k3⟩ := h3 i l hi
  exact ⟨b, o, wv, e, (hb.cell (p := ⟨b, _, none⟩) (World.block_lt_of_cell? w _ k1)).trans k1, (hb.cell (p := ⟨b, _, none⟩) (World.block_lt_of_cell? w _ k2)).trans k2, k3.below hb⟩

/-! ### Lines that are being put together -/
def flat : List Ln → List Value → List Value
  | l :: ls, c :: cs => .int .i64 l.1 :: c :: flat ls cs
  | _, _ => []
theorem flat_append : ∀ (ls : List Ln) (cs : List Value) (l : Ln) (c : Value), ls.length = cs.length → flat (ls ++ [l]) (cs ++ [c]) = flat ls cs ++ [.int .i64 l.1, c]
  | [], [], l, c, _ => rfl
  | a :: ls, b :: cs, l, c, h => by simp only [List.cons_append, flat]; rw [flat_append ls cs l c (by simpa using h)]
  | [], _ :: _, _, _, h => by simp at h
  | _ :: _, [], _, _, h => by simp at h
theorem flat_get : ∀ (ls : List Ln) (cs : List Value) (i : Nat) (l : Ln), ls.length = cs.length → ls[i]? = some l → ∃ c, cs[i]? = some c ∧ (flat ls cs)[2 * i]? = some (.int .i64 l.1) ∧ (flat ls cs)[2 * i + 1]? = some c
  | [], [], i, l, _, hi => by simp at hi
  | a :: ls, b :: cs, 0, l, h, hi => by simp at hi; subst hi; exact ⟨b, rfl, rfl, rfl⟩
  | a :: ls, b :: cs, i + 1, l, h, hi => by
    obtain ⟨c, h1, h2, h3⟩ := flat_get ls cs i l (by simpa using h) (by simpa using hi)
    refine ⟨c, by simpa using h1, ?_, ?_⟩
    · rw [show 2 * (i + 1) = (2 * i) + 1 + 1 by omega]; simpa [flat] using h2
    · rw [show 2 * (i + 1) + 1 = (2 * i + 1) + 1 + 1 by omega]; simpa [flat] using h3
  | [], _ :: _, _, _, h, _ => by simp at h
  | _ :: _, [], _, _, h, _ => by simp at h

theorem owns_lt {w : World} {base : Nat} {e : TypeId} {size n : Nat} {v : Value} {xs : List Value} (h : w.ownsRow base e size v n xs) : ∀ b, v.ownBlock = some b → b < w.heap.size := by
  rcases h.2 with ⟨rfl, _⟩ | ⟨g, cap, cur, rfl, h2, h3, _⟩
  · intro b hb; cases hb
  · intro b hb; cases hb; exact (Array.getElem?_eq_some_iff.1 h3).1
def badZ (r : Int) : Bool := (r != 10) && (decide (r < 32) || decide (126 < r))
theorem get_at (s : ByteArray) (i : Nat) (h : i < s.size) : s.get! (i + 0) = s[i] := by
  show s.data[i]! = s.data[i]
  rw [getElem!_pos s.data i h]
theorem decode_lo (s : ByteArray) (i : Nat) (h : i < s.size) (hb : s[i].toNat < 128) : Utf8.decode s i = (s[i].toNat, 1) := by
  unfold Utf8.decode
  simp only [get_at s i h]
  rw [if_pos hb]
theorem decode_hi (s : ByteArray) (i : Nat) (h : i < s.size) (hb : ¬ s[i].toNat < 128) : 128 ≤ (Utf8.decode s i).1 := by
  unfold Utf8.decode
  simp only [get_at s i h]
  rw [if_neg hb]
  have he : 128 ≤ Utf8.runeError := by decide
  split
  · split
    · rename_i hc; exact hc
    · exact he
  · split
    · split
      · rename_i hc
        simp only [Bool.and_eq_true, decide_eq_true_iff] at hc
        show 128 ≤ _
        have := hc.1
        omega
      · exact he
    · split
      · split
        · rename_i hc
          simp only [Bool.and_eq_true, decide_eq_true_iff] at hc
          show 128 ≤ _
          have := hc.1
          omega
        · exact he
      · exact he
theorem badZ_byte {b : UInt8} (h : b.toNat < 128) : badZ (b.toNat : Nat) = badB b := by
  unfold badZ badB
  have e : (((b.toNat : Nat) : Int) != 10) = (b != 10) := by
    rw [Bool.eq_iff_iff, bne_iff_ne, bne_iff_ne]
    constructor
    · intro h e; subst e; exact h rfl
    · intro h e; exact h (UInt8.toNat_inj.1 (by have : (10 : UInt8).toNat = 10 := rfl; omega))
  have e1 : decide (((b.toNat : Nat) : Int) < 32) = decide (b.toNat < 32) := by rw [Bool.eq_iff_iff, decide_eq_true_iff, decide_eq_true_iff]; omega
  have e2 : decide (126 < ((b.toNat : Nat) : Int)) = decide (126 < b.toNat) := by rw [Bool.eq_iff_iff, decide_eq_true_iff, decide_eq_true_iff]; omega
  rw [e, e1, e2]
theorem badZ_high {n : Nat} (h : 128 ≤ n) : badZ (n : Int) = true := by
  unfold badZ
  have e : ((n : Int) != 10) = true := by rw [bne_iff_ne]; omega
  rw [e, decide_eq_true (by omega : (126 : Int) < n)]; simp
theorem badB_high {b : UInt8} (h : 128 ≤ b.toNat) : badB b = true := by
  unfold badB
  have e : (b != 10) = true := by rw [bne_iff_ne]; rintro rfl; exact absurd h (by decide)
  rw [e, decide_eq_true (by omega : 126 < b.toNat)]; simp
theorem idx_from (s : ByteArray) : ∀ (f pos : Nat), s.size ≤ pos + f → Lib.idxFuncFrom (fun r => badZ r) true s f pos = match firstBad (s.data.toList.drop pos) with | some i => ((pos + i : Nat) : Int) | none => -1
  | 0, pos, h => by
    rw [List.drop_of_length_le (by simp; omega)]; rfl
  | f + 1, pos, h => by
    rw [Lib.idxFuncFrom]
    by_cases hlt : pos < s.size
    · rw [if_pos hlt]
      have hd : s.data.toList.drop pos = s[pos] :: s.data.toList.drop (pos + 1) := by
        rw [List.drop_eq_getElem_cons (by simpa using hlt)]; simp; rfl
      rw [hd, firstBad]
      by_cases h128 : s[pos].toNat < 128
      · rw [decode_lo s pos hlt h128]
        simp only
        rw [badZ_byte h128]
        cases hb : badB s[pos]
        · simp only [Bool.false_eq_true, if_false]
          rw [idx_from s f (pos + 1) (by omega)]
          cases firstBad (s.data.toList.drop (pos + 1)) with
          | none => rfl
          | some j => simp only [Option.map_some]; congr 1; omega
        · simp
      · have := decode_hi s pos hlt h128
        rw [if_pos (badZ_high this), badB_high (by omega)]
        simp
    · rw [if_neg hlt, List.drop_of_length_le (by simp; omega)]; rfl
/-- The first byte that may not stand, by runes. -/
theorem idx_bad (s : ByteArray) : Lib.idxFunc (fun r => badZ r) true s = match firstBad s.data.toList with | some i => (i : Int) | none => -1 := by
  unfold Lib.idxFunc
  rw [idx_from s s.size 0 (by omega), List.drop_zero]
  cases firstBad s.data.toList <;> simp
end Go.Proofs.YtahgapkecabnjaaGreatDoor
/- The walks of addr's Parse and Net. -/
namespace Go.Proofs.YtahgapkecabnjaaGreatDoor
set_option linter.unusedSimpArgs false
set_option linter.unusedVariables false
open Go Go.RowKit

theorem pieces_count (c : UInt8) : ∀ (n : Nat) (l : List UInt8), l.length ≤ n → (pieces c l).length = Lib.count l [c] + 1
  | n, l, hl => by
    rcases first_of c l with h | ⟨p, r, rfl, hp⟩
    · rw [Lib.count_miss (index_one_none h), pieces_none h]; rfl
    · have hi := index_one_at r hp
      have hc := Lib.count_hit (s := p ++ c :: r) (sub := [c]) (by simp) hi
      simp only [List.length_singleton] at hc
      rw [show (p ++ c :: r).drop (p.length + 1) = r by simp [← List.drop_drop]] at hc
      cases n with
      | zero => simp at hl
      | succ n =>
        have ih := pieces_count c n r (by simp at hl; omega)
        rw [pieces_at _ hp, hc, List.length_cons, ih]; omega
theorem pieces_len (c : UInt8) : ∀ (l : List UInt8), ∀ q ∈ pieces c l, q.length ≤ l.length
  | [], q, hq => by simp [pieces] at hq; subst hq; simp
  | x :: r, q, hq => by
    rw [pieces] at hq
    split at hq
    · rw [List.mem_cons] at hq
      rcases hq with rfl | hq
      · simp
      · have := pieces_len c r q hq; simp; omega
    · split at hq
      · simp at hq; subst hq; simp
      · rename_i p0 t he
        rw [List.mem_cons] at hq
        rcases hq with rfl | hq
        · have := pieces_len c r p0 (by rw [he]; simp); simp; omega
        · have := pieces_len c r q (by rw [he]; simp [hq]); simp; omega
theorem below_drewN (w : World) (n : Nat) : Below w.heap.size w (w.drewN n) := ⟨rfl, rfl, rfl, Nat.le_refl _, fun _ _ => rfl⟩
theorem bor_low (a v : Nat) (ha : a < 4294967296) (hv : v < 256) : bits .or .u32 ((a : Int) * 256 % 4294967296) (v : Int) = (((a * 256 + v) % 4294967296 : Nat) : Int) := by
  have e1 : ((a : Int) * 256 % 4294967296) = ((a * 256 % 4294967296 : Nat) : Int) := by omega
  rw [e1, u32_or_nat _ _ (by omega) (by omega)]
  congr 1
  have e2 : a * 256 % 4294967296 = 2 ^ 8 * (a * 256 % 4294967296 / 256) := by omega
  rw [e2, ← Nat.two_pow_add_eq_or_of_lt (by omega : v < 2 ^ 8)]
  omega

theorem atoiV_num {l : List UInt8} {most : Nat} (hm : most < 9223372036854775808) (h : isNum l most = true) : atoiV l = valOf l := by
  unfold atoiV; rw [(isNum_atoi hm h).1]

theorem cut_len (l : List UInt8) (c : UInt8) : (Lib.cut l [c]).1.length ≤ l.length ∧ (Lib.cut l [c]).2.1.length ≤ l.length := by
  rcases first_of c l with h | ⟨p, r, rfl, hp⟩
  · rw [cut_none h]; simp
  · rw [cut_at hp]; simp; omega

end Go.Proofs.YtahgapkecabnjaaGreatDoor
/- The walk of text.Lines. -/
namespace Go.Proofs.YtahgapkecabnjaaGreatDoor
set_option linter.unusedSimpArgs false
set_option linter.unusedVariables false
open Go Go.RowKit

/-- The tables that Lines reads. -/
structure TabsT (w : World) : Prop where
  tabs : Tabs w
  sp : Lib.TabIs Tryz.prog w "strings.asciiSpace" .u8 Lib.asciiSpaceTab
theorem TabsT.below {w w' : World} (h : TabsT w) (hb : Below w.heap.size w w') : TabsT w' := ⟨h.tabs.below hb, var_keep h.sp hb⟩

def LinesPost (q : List Ln × Nat × Int) (w : World) (e : Ending) (w' : World) : Prop := ∃ v, e = .returned (.tuple #[v, .int .i64 q.2.1, .int .i64 q.2.2]) ∧ Lines w' v q.1 ∧ Below w.heap.size w w'
theorem lines_end {q : List Ln × Nat × Int} {w w' : World} {v : Value} {a b : Int} (h1 : (q.2.1 : Int) = a) (h2 : q.2.2 = b) (hl : Lines w' v q.1) (hb : Below w.heap.size w w') : LinesPost q w (.returned (.tuple #[v, .int .i64 a, .int .i64 b])) w' := by
  subst h1 h2; exact ⟨v, rfl, hl, hb⟩
theorem lines_nil (w : World) : Lines w (.slice none 0 0) [] := ⟨none, 0, rfl, Nat.le_refl _, fun i l hi => by simp at hi⟩

theorem linesGo_snoc : ∀ (ps : List (List UInt8)) (n : Nat) (p : List UInt8), linesGo n (ps ++ [p]) = linesGo n ps ++ (if wordsOf p = [] then [] else [(n + ps.length, wordsOf p)])
  | [], n, p => by simp [linesGo]
  | q :: r, n, p => by
    rw [List.cons_append, linesGo, linesGo, linesGo_snoc r (n + 1) p]
    split <;> simp [show n + 1 + r.length = n + (r.length + 1) by omega]
theorem linesGo_len : ∀ (ps : List (List UInt8)) (n : Nat), (linesGo n ps).length ≤ ps.length
  | [], n => by simp [linesGo]
  | q :: r, n => by
    have := linesGo_len r (n + 1)
    rw [linesGo]; split <;> simp <;> omega
theorem wordsOf_count {p : List UInt8} (h : ∀ b ∈ p, okB b) (h10 : (10 : UInt8) ∉ p) : (wordsOf p).length ≤ p.length := by
  have h1 := wordsOf_len p
  have h2 := wordsOf_ok h h10
  have : ∀ ws : List (List UInt8), (∀ w ∈ ws, okW w) → ws.length ≤ (Lib.join ws [32]).length := by
    intro ws
    induction ws with
    | nil => intro _; simp
    | cons w r ih =>
      intro hw
      have hw1 := (hw w (by simp)).1
      have hl : 1 ≤ w.length := by cases w with | nil => exact absurd rfl hw1 | cons => simp
      have := ih (fun x hx => hw x (by simp [hx]))
      rw [Lib.join_cons]
      cases r with
      | nil => simp [Lib.joinTail]; omega
      | cons v t =>
        rw [Lib.join_cons] at this
        simp [Lib.joinTail] at this ⊢
        omega
  have := this _ h2
  omega
theorem pieces_ok {l : List UInt8} (h : firstBad l = none) : ∀ p ∈ pieces 10 l, (∀ b ∈ p, okB b) ∧ (10 : UInt8) ∉ p := by
  intro p hp
  refine ⟨fun b hb => firstBad_none.1 h b ?_, pieces_clean p hp⟩
  have : ∀ (l : List UInt8) (p : List UInt8), p ∈ pieces 10 l → ∀ b ∈ p, b ∈ l := by
    intro l
    induction l with
    | nil => intro p hp b hb; simp [pieces] at hp; subst hp; simp at hb
    | cons x r ih =>
      intro p hp b hb
      rw [pieces] at hp
      split at hp
      · rw [List.mem_cons] at hp
        rcases hp with rfl | hp
        · simp at hb
        · simp [ih p hp b hb]
      · split at hp
        · simp at hp; subst hp; simp at hb; simp [hb]
        · rename_i q t he
          rw [List.mem_cons] at hp
          rcases hp with rfl | hp
          · rw [List.mem_cons] at hb
            rcases hb with rfl | hb
            · simp
            · simp [ih q (by rw [he]; simp) b hb]
          · simp [ih p (by rw [he]; simp [hp]) b hb]
  exact this l p hp b hb

end Go.Proofs.YtahgapkecabnjaaGreatDoor
