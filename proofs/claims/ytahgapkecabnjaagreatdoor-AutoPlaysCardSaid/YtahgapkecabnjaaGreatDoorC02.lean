/- Contracts of Go's library that this seat's proofs use, laid at this translation by the kit's own tools (lay-shelf, lay-plain), and nothing else. -/
import Derived.Shelf.SlGeneric
import Derived.Shelf.SlLaysF0
import Derived.Shelf.SlLaysH0
import Derived.Shelf.SlLaysE0
import Derived.Ground.SlsfProg
import Derived.Ground.SlgfProg
import Derived.Ground.SlgnProg
import Derived.Shelf.Strings.Builder1
import Derived.Shelf.Strings.Builder2
import Derived.Shelf.Strings.OnBuilder
import Derived.Shelf.Small.Bits
import Derived.Shelf.Strconv.Itoa0
import Derived.Shelf.Strconv.Itoa1
import Derived.Shelf.LaysM
import Derived.Shelf.Strconv.Itoa2
import Derived.Shelf.Strconv.Itoa3
import Derived.Test.YtahgapkecabnjaaGreatDoorProg
import Derived.Test.YtahgapkecabnjaaGreatDoorC01
import Derived.Lib.AppendIntMem
import Derived.ProofKit
import Derived.OpenShut
import Derived.Deep.Slices
import Derived.WalkKit
import Derived.KernelRfl
import Derived.OwnWalk
import Derived.Outline
import Derived.Deep.Light
namespace Go.Proofs
open Go.Shelf
def Tryz.lays156_ren : Go.Shelf.Ren := ⟨fun | 156 => 135 | 165 => 143 | 166 => 144 | 169 => 145 | 240 => 148 | 241 => 149 | 276 => 154 | 277 => 155 | n => n, fun | 31 => 179 | 9 => 9 | 3 => 3 | 4 => 4 | 0 => 0 | 20 => 20 | 72 => 191 | 76 => 194 | 70 => 188 | 37 => 189 | 75 => 193 | 127 => 200 | 164 => 205 | 5 => 5 | 80 => 196 | n => n, fun | n => n⟩
theorem Tryz.lays156 : Go.Proofs.Lays.n156 Tryz.prog Tryz.lays156_ren := {
  mixed := by kernel_rfl
  f156 := Tryz.func135.trans (congrArg some (by kernel_rfl))
  f165 := Tryz.func143.trans (congrArg some (by kernel_rfl))
  f166 := Tryz.func144.trans (congrArg some (by kernel_rfl))
  f169 := Tryz.func145.trans (congrArg some (by kernel_rfl))
  f240 := Tryz.func148.trans (congrArg some (by kernel_rfl))
  f241 := Tryz.func149.trans (congrArg some (by kernel_rfl))
  f276 := Tryz.func154.trans (congrArg some (by kernel_rfl))
  f277 := Tryz.func155.trans (congrArg some (by kernel_rfl))
  t0 := Tryz.underlying0
  a0 := Tryz.isAgg0
  z0 := Tryz.sizeOf0
  v0 := Tryz.zeroValue0
  t3 := Tryz.underlying3
  a3 := Tryz.isAgg3
  z3 := Tryz.sizeOf3
  v3 := Tryz.zeroValue3
  t4 := Tryz.underlying4
  a4 := Tryz.isAgg4
  z4 := Tryz.sizeOf4
  v4 := Tryz.zeroValue4
  t9 := Tryz.underlying9
  a9 := Tryz.isAgg9
  z9 := Tryz.sizeOf9
  v9 := Tryz.zeroValue9
  t20 := Tryz.underlying20
  a20 := Tryz.isAgg20
  z20 := Tryz.sizeOf20
  v20 := Tryz.zeroValue20
  t31 := Tryz.underlying179
  a31 := Tryz.isAgg179
  z31 := Tryz.sizeOf179
  v31 := Tryz.zeroValue179
  t37 := Tryz.underlying189
  a37 := Tryz.isAgg189
  z37 := Tryz.sizeOf189
  v37 := Tryz.zeroValue189
  t70 := Tryz.underlying188
  a70 := Tryz.isAgg188
  z70 := Tryz.sizeOf188
  v70 := Tryz.zeroValue188
  t72 := Tryz.underlying191
  a72 := Tryz.isAgg191
  z72 := Tryz.sizeOf191
  v72 := Tryz.zeroValue191
  t75 := Tryz.underlying193
  a75 := Tryz.isAgg193
  z75 := Tryz.sizeOf193
  v75 := Tryz.zeroValue193
  t76 := Tryz.underlying194
  a76 := Tryz.isAgg194
  z76 := Tryz.sizeOf194
  v76 := Tryz.zeroValue194
  t127 := Tryz.underlying200
  a127 := Tryz.isAgg200
  z127 := Tryz.sizeOf200
  v127 := Tryz.zeroValue200
  t164 := Tryz.underlying205
  a164 := Tryz.isAgg205
  z164 := Tryz.sizeOf205
  v164 := Tryz.zeroValue205 }
theorem Tryz.Builder_Extra_156 : Builder.Extra Tryz.prog Tryz.lays156_ren := {
  sizeBuilder := by kernel_rfl
  liesBuilder := by kernel_rfl
  t5 := Tryz.underlying5
  a5 := Tryz.isAgg5
  z5 := Tryz.sizeOf5
  v5 := Tryz.zeroValue5
  infoByte := by kernel_rfl
  cellsByte := by kernel_rfl
  sizeByte := by kernel_rfl
  neB5 := by decide }
open Go.RowKit in
/-- strings.Join: "Join concatenates the elements of its first argument to create a single string. The separator string sep is placed between elements in the resulting string.": HOWEVER MANY ELEMENTS. Below the heap's end the world is as it was. (LAID: no walk: one application.) -/
theorem Tryz.strings_Join (bk o c : Nat) (xs : List ByteArray) (sep : ByteArray) (w : World) (hcells : ∀ (j : Nat) x, xs[j]? = some x → w.cell? ⟨bk, o + j, none⟩ = some (.string x)) (hbk : bk < w.heap.size) (hN : xs.length ≤ 140737488355328) (hcap : xs.length ≤ c) (hlen : (Lib.join (xs.map (·.data.toList)) sep.data.toList).length ≤ 140737488355328) :
    Calls Tryz.prog 135 #[.slice (some ⟨bk, o, none⟩) xs.length c, .string sep] w fun e w' => e = .returned (.string ⟨(Lib.join (xs.map (·.data.toList)) sep.data.toList).toArray⟩) ∧ Below w.heap.size w w' := Any.strings_Join Tryz.lays156 Tryz.Builder_Extra_156 bk o c xs sep w hcells hbk hN hcap hlen
def Tryz.laysM171_ren : Go.Shelf.Ren := ⟨fun | 171 => 118 | 243 => 136 | 246 => 146 | 283 => 150 | 284 => 151 | 285 => 152 | 286 => 153 | 129 => 131 | 317 => 156 | 318 => 157 | 319 => 158 | 320 => 159 | 337 => 160 | 338 => 161 | n => n, fun | 3 => 3 | 9 => 9 | 2 => 2 | 4 => 4 | 171 => 201 | 0 => 0 | 53 => 53 | 37 => 189 | 5 => 5 | 173 => 203 | 212 => 210 | 51 => 38 | 20 => 20 | 213 => 211 | 46 => 153 | 232 => 212 | 233 => 213 | n => n, fun | 17 => 0 | 18 => 2 | 19 => 3 | n => n⟩
theorem Tryz.laysM171 : Go.Proofs.LaysM.n171 Tryz.prog Tryz.laysM171_ren := {
  mixed := by kernel_rfl
  f129 := Tryz.func131.trans (congrArg some (by kernel_rfl))
  f171 := Tryz.func118.trans (congrArg some (by kernel_rfl))
  f243 := Tryz.func136.trans (congrArg some (by kernel_rfl))
  f246 := Tryz.func146.trans (congrArg some (by kernel_rfl))
  f283 := Tryz.func150.trans (congrArg some (by kernel_rfl))
  f284 := Tryz.func151.trans (congrArg some (by kernel_rfl))
  f285 := Tryz.func152.trans (congrArg some (by kernel_rfl))
  f286 := Tryz.func153.trans (congrArg some (by kernel_rfl))
  f317 := Tryz.func156.trans (congrArg some (by kernel_rfl))
  f318 := Tryz.func157.trans (congrArg some (by kernel_rfl))
  f319 := Tryz.func158.trans (congrArg some (by kernel_rfl))
  f320 := Tryz.func159.trans (congrArg some (by kernel_rfl))
  f337 := Tryz.func160.trans (congrArg some (by kernel_rfl))
  f338 := Tryz.func161.trans (congrArg some (by kernel_rfl))
  t0 := Tryz.underlying0
  a0 := Tryz.isAgg0
  z0 := Tryz.sizeOf0
  v0 := Tryz.zeroValue0
  t2 := Tryz.underlying2
  a2 := Tryz.isAgg2
  z2 := Tryz.sizeOf2
  v2 := Tryz.zeroValue2
  t3 := Tryz.underlying3
  a3 := Tryz.isAgg3
  z3 := Tryz.sizeOf3
  v3 := Tryz.zeroValue3
  t4 := Tryz.underlying4
  a4 := Tryz.isAgg4
  z4 := Tryz.sizeOf4
  v4 := Tryz.zeroValue4
  t5 := Tryz.underlying5
  a5 := Tryz.isAgg5
  z5 := Tryz.sizeOf5
  v5 := Tryz.zeroValue5
  t9 := Tryz.underlying9
  a9 := Tryz.isAgg9
  z9 := Tryz.sizeOf9
  v9 := Tryz.zeroValue9
  t20 := Tryz.underlying20
  a20 := Tryz.isAgg20
  z20 := Tryz.sizeOf20
  v20 := Tryz.zeroValue20
  t37 := Tryz.underlying189
  a37 := Tryz.isAgg189
  z37 := Tryz.sizeOf189
  v37 := Tryz.zeroValue189
  t46 := Tryz.underlying153
  a46 := Tryz.isAgg153
  z46 := Tryz.sizeOf153
  v46 := Tryz.zeroValue153
  t51 := Tryz.underlying38
  a51 := Tryz.isAgg38
  z51 := Tryz.sizeOf38
  v51 := Tryz.zeroValue38
  t53 := Tryz.underlying53
  a53 := Tryz.isAgg53
  z53 := Tryz.sizeOf53
  v53 := Tryz.zeroValue53
  t171 := Tryz.underlying201
  a171 := Tryz.isAgg201
  z171 := Tryz.sizeOf201
  v171 := Tryz.zeroValue201
  t173 := Tryz.underlying203
  a173 := Tryz.isAgg203
  z173 := Tryz.sizeOf203
  v173 := Tryz.zeroValue203
  t212 := Tryz.underlying210
  a212 := Tryz.isAgg210
  z212 := Tryz.sizeOf210
  v212 := Tryz.zeroValue210
  t213 := Tryz.underlying211
  a213 := Tryz.isAgg211
  z213 := Tryz.sizeOf211
  t232 := Tryz.underlying212
  a232 := Tryz.isAgg212
  z232 := Tryz.sizeOf212
  v232 := Tryz.zeroValue212
  t233 := Tryz.underlying213
  a233 := Tryz.isAgg213
  z233 := Tryz.sizeOf213
  v233 := Tryz.zeroValue213
  g17 := by kernel_rfl
  g18 := by kernel_rfl
  g19 := by kernel_rfl
  i0 := by kernel_rfl
  i2 := by kernel_rfl
  i3 := by kernel_rfl
  i4 := by kernel_rfl
  i5 := by kernel_rfl
  i9 := by kernel_rfl
  i20 := by kernel_rfl
  i37 := by kernel_rfl
  i46 := by kernel_rfl
  i51 := by kernel_rfl
  i53 := by kernel_rfl
  i171 := by kernel_rfl
  i173 := by kernel_rfl
  i212 := by kernel_rfl
  i232 := by kernel_rfl
  i233 := by kernel_rfl
  m17 := by kernel_rfl
  m18 := by kernel_rfl
  m19 := by kernel_rfl }
open Go.RowKit Go.Sort Go.Lib in
/-- strconv.Itoa: "Itoa is equivalent to FormatInt(int64(i), 10).": i's DECIMAL NUMERAL ('Lib.itoa': a '-' where i is negative, then the digits), FOR EVERY int. The world behind the call: the world before it, new blocks behind the heap (the library's 'var a [24]byte'), draws. (LAID: no walk: one application.) -/
theorem Tryz.strconv_Itoa (n : Int) (h0 : -9223372036854775808 ≤ n) (h1 : n ≤ 9223372036854775807) (w : World) (htab : Lib.TabIs Tryz.prog w "internal/strconv.uint64pow10" .u64 Lib.pow10Tab) :
    Calls Tryz.prog 118 #[.int .i64 n] w fun e w' => e = .returned (.string ⟨(Lib.itoa n).toArray⟩) ∧ ∃ k os, w' = grow (w.drewN k) os := Any.strconv_Itoa Tryz.laysM171 n h0 h1 w htab
def Tryz.sortK_ren : Go.Shelf.Ren := ⟨fun | 6 => 82 | 15 => 107 | 14 => 106 | 28 => 130 | 29 => 131 | 20 => 122 | 21 => 123 | 22 => 124 | 23 => 125 | 24 => 126 | 25 => 127 | 26 => 128 | 27 => 129 | 46 => 138 | 47 => 139 | 48 => 140 | 49 => 141 | 50 => 142 | 57 => 147 | n => n, fun | 22 => 60 | 24 => 45 | 25 => 113 | 3 => 3 | 39 => 153 | 0 => 0 | 53 => 38 | 55 => 53 | 4 => 4 | 46 => 169 | 45 => 168 | 50 => 115 | 5 => 5 | 9 => 9 | 66 => 182 | 70 => 186 | 76 => 198 | 77 => 92 | n => n, fun | n => n⟩
theorem Tryz.sortK : Go.Proofs.SlLaysF0.n6 Tryz.prog Tryz.sortK_ren := {
  mixed := by kernel_rfl
  f6 := ⟨Tryz.f82.name, by decide, Tryz.func82.trans (congrArg some (by kernel_rfl))⟩
  f14 := ⟨Tryz.f106.name, by decide, Tryz.func106.trans (congrArg some (by kernel_rfl))⟩
  f15 := Tryz.func107.trans (congrArg some (by kernel_rfl))
  f20 := ⟨Tryz.f122.name, by decide, Tryz.func122.trans (congrArg some (by kernel_rfl))⟩
  f21 := ⟨Tryz.f123.name, by decide, Tryz.func123.trans (congrArg some (by kernel_rfl))⟩
  f22 := ⟨Tryz.f124.name, by decide, Tryz.func124.trans (congrArg some (by kernel_rfl))⟩
  f23 := ⟨Tryz.f125.name, by decide, Tryz.func125.trans (congrArg some (by kernel_rfl))⟩
  f24 := ⟨Tryz.f126.name, by decide, Tryz.func126.trans (congrArg some (by kernel_rfl))⟩
  f25 := ⟨Tryz.f127.name, by decide, Tryz.func127.trans (congrArg some (by kernel_rfl))⟩
  f26 := ⟨Tryz.f128.name, by decide, Tryz.func128.trans (congrArg some (by kernel_rfl))⟩
  f27 := ⟨Tryz.f129.name, by decide, Tryz.func129.trans (congrArg some (by kernel_rfl))⟩
  f28 := Tryz.func130.trans (congrArg some (by kernel_rfl))
  f29 := Tryz.func131.trans (congrArg some (by kernel_rfl))
  f46 := ⟨Tryz.f138.name, by decide, Tryz.func138.trans (congrArg some (by kernel_rfl))⟩
  f47 := Tryz.func139.trans (congrArg some (by kernel_rfl))
  f48 := Tryz.func140.trans (congrArg some (by kernel_rfl))
  f49 := ⟨Tryz.f141.name, by decide, Tryz.func141.trans (congrArg some (by kernel_rfl))⟩
  f50 := ⟨Tryz.f142.name, by decide, Tryz.func142.trans (congrArg some (by kernel_rfl))⟩
  f57 := ⟨Tryz.f147.name, by decide, Tryz.func147.trans (congrArg some (by kernel_rfl))⟩
  t0 := Tryz.underlying0
  a0 := Tryz.isAgg0
  z0 := Tryz.sizeOf0
  v0 := Tryz.zeroValue0
  t3 := Tryz.underlying3
  a3 := Tryz.isAgg3
  z3 := Tryz.sizeOf3
  v3 := Tryz.zeroValue3
  t4 := Tryz.underlying4
  a4 := Tryz.isAgg4
  z4 := Tryz.sizeOf4
  v4 := Tryz.zeroValue4
  t5 := Tryz.underlying5
  a5 := Tryz.isAgg5
  z5 := Tryz.sizeOf5
  v5 := Tryz.zeroValue5
  t9 := Tryz.underlying9
  a9 := Tryz.isAgg9
  z9 := Tryz.sizeOf9
  v9 := Tryz.zeroValue9
  t22 := Tryz.underlying60
  a22 := Tryz.isAgg60
  z22 := Tryz.sizeOf60
  v22 := Tryz.zeroValue60
  t25 := Tryz.underlying113
  a25 := Tryz.isAgg113
  z25 := Tryz.sizeOf113
  v25 := Tryz.zeroValue113
  t39 := Tryz.underlying153
  a39 := Tryz.isAgg153
  z39 := Tryz.sizeOf153
  v39 := Tryz.zeroValue153
  t45 := Tryz.underlying168
  a45 := Tryz.isAgg168
  z45 := Tryz.sizeOf168
  v45 := Tryz.zeroValue168
  t46 := Tryz.underlying169
  a46 := Tryz.isAgg169
  z46 := Tryz.sizeOf169
  v46 := Tryz.zeroValue169
  t50 := Tryz.underlying115
  a50 := Tryz.isAgg115
  z50 := Tryz.sizeOf115
  v50 := Tryz.zeroValue115
  t53 := Tryz.underlying38
  a53 := Tryz.isAgg38
  z53 := Tryz.sizeOf38
  v53 := Tryz.zeroValue38
  t55 := Tryz.underlying53
  a55 := Tryz.isAgg53
  z55 := Tryz.sizeOf53
  v55 := Tryz.zeroValue53
  t66 := Tryz.underlying182
  a66 := Tryz.isAgg182
  z66 := Tryz.sizeOf182
  v66 := Tryz.zeroValue182
  t70 := Tryz.underlying186
  a70 := Tryz.isAgg186
  z70 := Tryz.sizeOf186
  v70 := Tryz.zeroValue186
  t76 := Tryz.underlying198
  a76 := Tryz.isAgg198
  z76 := Tryz.sizeOf198
  v76 := Tryz.zeroValue198
  t77 := Tryz.underlying92
  a77 := Tryz.isAgg92
  z77 := Tryz.sizeOf92
  v77 := Tryz.zeroValue92 }
def Tryz.idxF_ren : Go.Shelf.Ren := ⟨fun | 6 => 93 | n => n, fun | 22 => 25 | 23 => 79 | 25 => 124 | 3 => 3 | 0 => 0 | 4 => 4 | n => n, fun | n => n⟩
theorem Tryz.idxF : Go.Proofs.SlLaysH0.n6 Tryz.prog Tryz.idxF_ren := {
  mixed := by kernel_rfl
  f6 := ⟨Tryz.f93.name, by decide, Tryz.func93.trans (congrArg some (by kernel_rfl))⟩
  t0 := Tryz.underlying0
  a0 := Tryz.isAgg0
  z0 := Tryz.sizeOf0
  v0 := Tryz.zeroValue0
  t3 := Tryz.underlying3
  a3 := Tryz.isAgg3
  z3 := Tryz.sizeOf3
  v3 := Tryz.zeroValue3
  t4 := Tryz.underlying4
  a4 := Tryz.isAgg4
  z4 := Tryz.sizeOf4
  v4 := Tryz.zeroValue4
  t22 := Tryz.underlying25
  a22 := Tryz.isAgg25
  z22 := Tryz.sizeOf25
  v22 := Tryz.zeroValue25
  t25 := Tryz.underlying124
  a25 := Tryz.isAgg124
  z25 := Tryz.sizeOf124
  v25 := Tryz.zeroValue124 }
def Tryz.conF_ren : Go.Shelf.Ren := ⟨fun | 8 => 62 | 6 => 93 | n => n, fun | 22 => 25 | 23 => 79 | 25 => 124 | 4 => 4 | 3 => 3 | 0 => 0 | n => n, fun | n => n⟩
theorem Tryz.conF : Go.Proofs.SlLaysH0.n8 Tryz.prog Tryz.conF_ren := {
  mixed := by kernel_rfl
  f6 := ⟨Tryz.f93.name, by decide, Tryz.func93.trans (congrArg some (by kernel_rfl))⟩
  f8 := ⟨Tryz.f62.name, by decide, Tryz.func62.trans (congrArg some (by kernel_rfl))⟩
  t0 := Tryz.underlying0
  a0 := Tryz.isAgg0
  z0 := Tryz.sizeOf0
  v0 := Tryz.zeroValue0
  t3 := Tryz.underlying3
  a3 := Tryz.isAgg3
  z3 := Tryz.sizeOf3
  v3 := Tryz.zeroValue3
  t4 := Tryz.underlying4
  a4 := Tryz.isAgg4
  z4 := Tryz.sizeOf4
  v4 := Tryz.zeroValue4
  t22 := Tryz.underlying25
  a22 := Tryz.isAgg25
  z22 := Tryz.sizeOf25
  v22 := Tryz.zeroValue25
  t25 := Tryz.underlying124
  a25 := Tryz.isAgg124
  z25 := Tryz.sizeOf124
  v25 := Tryz.zeroValue124 }
def Tryz.cloneR_ren : Go.Shelf.Ren := ⟨fun | 41 => 28 | n => n, fun | 22 => 25 | 23 => 79 | 4 => 4 | n => n, fun | n => n⟩
theorem Tryz.cloneR : Go.Proofs.SlLaysE0.n41 Tryz.prog Tryz.cloneR_ren := {
  mixed := by kernel_rfl
  f41 := ⟨Tryz.f28.name, by decide, Tryz.func28.trans (congrArg some (by kernel_rfl))⟩
  t4 := Tryz.underlying4
  a4 := Tryz.isAgg4
  z4 := Tryz.sizeOf4
  v4 := Tryz.zeroValue4
  t22 := Tryz.underlying25
  a22 := Tryz.isAgg25
  z22 := Tryz.sizeOf25
  v22 := Tryz.zeroValue25 }
end Go.Proofs
/- What the library's tables hold; the walks of addr's number, Parse, Print, Show, Net. -/
namespace Go.Proofs.YtahgapkecabnjaaGreatDoor
set_option linter.unusedSimpArgs false
set_option linter.unusedVariables false
open Go Go.RowKit

theorem var_keep {P : Program} {w w' : World} {n : String} {cs : Array Value} (h : w.var? P n = some cs) (hb : Below w.heap.size w w') : w'.var? P n = some cs := by
  unfold World.var? at *
  cases hg : P.globalNamed n with
  | none => rw [hg] at h; simp at h
  | some g =>
    rw [hg] at h
    simp only [Option.bind_some] at h ⊢
    have hlt : g < w.heap.size := by
      by_cases hl : g < w.heap.size
      · exact hl
      · rw [Array.getElem?_eq_none (by omega)] at h; simp at h
    rw [hb.block g hlt]
    exact h

/-- The package-level variables of the library that are read. -/
structure Tabs (w : World) : Prop where
  pow : Lib.TabIs Tryz.prog w "internal/strconv.uint64pow10" .u64 Lib.pow10Tab
  syn : ∀ g, Tryz.prog.globalNamed "strconv.ErrSyntax" = some g → ∃ tp p, w.var? Tryz.prog "strconv.ErrSyntax" = some #[.iface tp p]
  rng : ∀ g, Tryz.prog.globalNamed "strconv.ErrRange" = some g → ∃ tp p, w.var? Tryz.prog "strconv.ErrRange" = some #[.iface tp p]
  len : ∃ m, w.cell? ⟨1, 0, none⟩ = some (.int .i64 m)
theorem Tabs.below {w w' : World} (h : Tabs w) (hb : Below w.heap.size w w') : Tabs w' := by
  obtain ⟨h1, h2, h3, m, h4⟩ := h
  exact ⟨var_keep h1 hb, fun g hg => let ⟨t2, p2, h2⟩ := h2 g hg; ⟨t2, p2, var_keep h2 hb⟩, fun g hg => let ⟨t3, p3, h3⟩ := h3 g hg; ⟨t3, p3, var_keep h3 hb⟩, m, (hb.cell (p := ⟨_, 0, none⟩) (World.block_lt_of_cell? w _ h4)).trans h4⟩

theorem itoa_any (n : Int) (w : World) (h0 : -9223372036854775808 ≤ n) (h1 : n ≤ 9223372036854775807) (hT : Tabs w) :
    Calls Tryz.prog 118 #[.int .i64 n] w fun e w' => e = .returned (str (Lib.itoa n)) ∧ Below w.heap.size w w' :=
  (Tryz.strconv_Itoa n h0 h1 w hT.pow).mono fun e w' ⟨he, k, os, hw⟩ => ⟨he, by
    subst hw
    exact Lib.below_grow _ _ (Nat.le_refl _) _ _⟩

/-- The number beside Atoi's error. -/
def atoiV (l : List UInt8) : Int := match Lib.atoiAll l with | .ok v => v | .syntax => 0 | .range => Lib.atoiSat l

def NumPost (n : Int) (b : Bool) (w : World) (e : Ending) (w' : World) : Prop := e = .returned (.tuple #[.int .i64 n, .bool b]) ∧ Below w.heap.size w w'
theorem num_end {n m : Int} {b c : Bool} {w w' : World} (h1 : n = m) (h2 : b = c) (hb : Below w.heap.size w w') : NumPost n b w (.returned (.tuple #[.int .i64 m, .bool c])) w' := by
  subst h1 h2; exact ⟨rfl, hb⟩

end Go.Proofs.YtahgapkecabnjaaGreatDoor
/- Arguments that are structs or arrays, of whatever depth, read leaf by leaf. -/
namespace Go.Proofs.YtahgapkecabnjaaGreatDoor
set_option linter.unusedSimpArgs false
set_option linter.unusedVariables false
open Go Go.RowKit Go.ChangeShapes Go.WideShapes

/-- A struct's type or an array's. -/
def rowType (P : Program) (t : TypeId) : Bool := match P.underlying t with | some (.struct _) => true | some (.array _ _) => true | _ => false

/-- The types of a type's cells, in order, struct by struct and array by array. -/
def fieldLeafs (P : Program) (rec : TypeId → Option (List TypeId)) : List Field → Nat → Option (List TypeId)
  | [], _ => some []
  | f :: r, off => if f.offset = off then (rec f.type).bind fun l => if P.cellsOf f.type = l.length then (fieldLeafs P rec r (off + l.length)).map (l ++ ·) else none else none
def leafs (P : Program) : Nat → TypeId → Option (List TypeId)
  | 0, _ => none
  | d + 1, t =>
    match P.underlying t with
    | some (.struct fs) => fieldLeafs P (leafs P d) fs.toList 0
    | some (.array n e) => (leafs P d e).bind fun l => if P.cellsOf e = l.length then some (List.replicate n l).flatten else none
    | _ => some [t]

section
variable {H : Type} {enc : TypeId × Value → H} {P : Program} {w : World} {base : Nat} {sp : Nat → Bool} {held : Bool}

/-- A cell that reads as a value of its type. -/
def Leaf (enc : TypeId × Value → H) (P : Program) (w : World) (base : Nat) (sp : Nat → Bool) (held : Bool) (t : TypeId) (v : Value) : Prop := ∃ fuel y, DataW.trod enc P w base sp held fuel t [v] = some y

/-- Each cell reads as its leaf. -/
def Leafs (enc : TypeId × Value → H) (P : Program) (w : World) (base : Nat) (sp : Nat → Bool) (held : Bool) : List TypeId → List Value → Prop
  | [], [] => True
  | t :: ts, v :: vs => Leaf enc P w base sp held t v ∧ Leafs enc P w base sp held ts vs
  | _, _ => False

theorem Leafs.append : ∀ {ts : List TypeId} {vs : List Value} {ts' : List TypeId} {vs' : List Value}, Leafs enc P w base sp held ts vs → Leafs enc P w base sp held ts' vs' → Leafs enc P w base sp held (ts ++ ts') (vs ++ vs')
  | [], [], _, _, _, h => h
  | t :: ts, v :: vs, _, _, h, h' => ⟨h.1, Leafs.append h.2 h'⟩
  | [], _ :: _, _, _, h, _ => h.elim
  | _ :: _, [], _, _, h, _ => h.elim

theorem leafs_fields {rec : TypeId → Option (List TypeId)} {m : Nat} {cs : List Value}
    (hrec : ∀ t ts cs, rec t = some ts → cs.length = ts.length → (∃ x, DataW.trod enc P w base sp held m t cs = some x) → Leafs enc P w base sp held ts cs) :
    ∀ (fs : List Field) (off : Nat) (ts : List TypeId), fieldLeafs P rec fs off = some ts → off + ts.length ≤ cs.length →
      (∀ f ∈ fs, ∃ x, DataW.trod enc P w base sp held m f.type ((cs.drop f.offset).take (P.cellsOf f.type)) = some x) → Leafs enc P w base sp held ts ((cs.drop off).take ts.length)
  | [], off, ts, h, _, _ => by
    simp only [fieldLeafs, Option.some.injEq] at h
    subst h
    simp [Leafs]
  | f :: r, off, ts, h, hl, hf => by
    simp only [fieldLeafs] at h
    split at h
    · rename_i hoff
      obtain ⟨l, h1, h2⟩ := Option.bind_eq_some_iff.1 h
      split at h2
      · rename_i hc
        obtain ⟨l2, h3, rfl⟩ := Option.map_eq_some_iff.1 h2
        rw [List.length_append] at hl
        have e1 := leafs_fields hrec r (off + l.length) l2 h3 (by omega) (fun f' hf' => hf f' (by simp [hf']))
        have e0 : Leafs enc P w base sp held l ((cs.drop off).take l.length) := by
          have := hf f (by simp)
          rw [hoff, hc] at this
          exact hrec f.type l _ h1 (by simp; omega) this
        have : (cs.drop off).take (l ++ l2).length = (cs.drop off).take l.length ++ (cs.drop (off + l.length)).take l2.length := by
          rw [List.length_append, List.take_add, List.drop_drop]
        rw [this]
        exact e0.append e1
      · cases h2
    · cases h

theorem leafs_elems {l : List TypeId} {cs : List Value} : ∀ (n o : Nat), o + n * l.length ≤ cs.length → (∀ i, i < n → Leafs enc P w base sp held l ((cs.drop (o + i * l.length)).take l.length)) →
    Leafs enc P w base sp held (List.replicate n l).flatten ((cs.drop o).take (n * l.length))
  | 0, o, _, _ => by simp [Leafs]
  | n + 1, o, hl, h => by
    rw [List.replicate_succ, List.flatten_cons]
    have e0 := h 0 (by omega)
    rw [Nat.zero_mul, Nat.add_zero] at e0
    have hmul : (n + 1) * l.length = l.length + n * l.length := by rw [Nat.add_mul, Nat.one_mul, Nat.add_comm]
    have e1 := leafs_elems (l := l) (cs := cs) n (o + l.length) (by omega) (fun i hi => by
      have := h (i + 1) (by omega)
      have hm2 : o + (i + 1) * l.length = o + l.length + i * l.length := by rw [Nat.add_mul, Nat.one_mul]; omega
      rwa [hm2] at this)
    rw [hmul, List.take_add, List.drop_drop]
    exact e0.append e1

theorem leafs_of_trod : ∀ (d : Nat) (t : TypeId) (ts : List TypeId) (cs : List Value) (fuel : Nat), leafs P d t = some ts → cs.length = ts.length → (∃ x, DataW.trod enc P w base sp held fuel t cs = some x) → Leafs enc P w base sp held ts cs
  | 0, _, _, _, _, h, _, _ => by simp [leafs] at h
  | d + 1, t, ts, cs, fuel, h, hl, ⟨x, hx⟩ => by
    unfold leafs at h
    split at h
    · rename_i fs hu
      obtain ⟨xs, m, rfl, _, hlen, hxs, hf⟩ := DataW.trod_struct hu hx
      have := leafs_fields (cs := cs) (m := m) (fun t ts cs h1 h2 h3 => leafs_of_trod d t ts cs m h1 h2 h3) fs.toList 0 ts h (by omega) (fun f hfm => by
        obtain ⟨i, hi, rfl⟩ := List.getElem_of_mem hfm
        have := hf i fs.toList[i] (by simp at hi ⊢)
        have hi2 : i < xs.length := by rw [hxs]; simpa using hi
        exact ⟨xs[i], by rw [this, List.getElem?_eq_getElem hi2]⟩)
      rw [List.drop_zero, ← hl, List.take_length] at this
      exact this
    · rename_i n e hu
      obtain ⟨l, h1, h2⟩ := Option.bind_eq_some_iff.1 h
      split at h2
      · rename_i hc
        cases h2
        obtain ⟨xs, m, rfl, _, hlen, hxs, hf⟩ := DataW.trod_array hu hx
        have htl : (List.replicate n l).flatten.length = n * l.length := by simp
        rw [htl] at hl
        have := leafs_elems (cs := cs) (l := l) n 0 (by omega) (fun i hi => by
          have h4 := hf i hi
          rw [hc] at h4
          have hi2 : i < xs.length := by omega
          rw [List.getElem?_eq_getElem hi2] at h4
          rw [Nat.zero_add]
          refine leafs_of_trod d e l _ m h1 ?_ ⟨_, h4⟩
          have : (i + 1) * l.length ≤ n * l.length := Nat.mul_le_mul_right _ (by omega)
          rw [Nat.add_mul, Nat.one_mul] at this
          simp; omega)
        rw [List.drop_zero, ← hl, List.take_length] at this
        exact this
      · cases h2
    · cases h
      match cs, hl with
      | [v], _ => exact ⟨⟨fuel, x, hx⟩, trivial⟩

theorem Leaf.int {t : TypeId} {k : IntKind} {v : Value} (h : Leaf enc P w base sp held t v) (ht : P.underlying t = some (.int k)) : ∃ n, v = .int k n ∧ (Lit.int k n).wf = true := by
  obtain ⟨fuel, y, hy⟩ := h
  cases fuel with
  | zero => simp [DataW.trod] at hy
  | succ m =>
    unfold DataW.trod at hy
    rw [ht] at hy
    cases v <;> simp at hy
    obtain ⟨⟨rfl, hw⟩, _⟩ := hy
    exact ⟨_, rfl, hw⟩
theorem Leaf.bool {t : TypeId} {v : Value} (h : Leaf enc P w base sp held t v) (ht : P.underlying t = some .bool) : ∃ b, v = .bool b := by
  obtain ⟨fuel, y, hy⟩ := h
  cases fuel with
  | zero => simp [DataW.trod] at hy
  | succ m =>
    unfold DataW.trod at hy
    rw [ht] at hy
    cases v <;> simp at hy
    exact ⟨_, rfl⟩

theorem open_leafs {d : Nat} {t : TypeId} {ts : List TypeId} {v : Value} {r : Reach} {b : Nat} {x : DataW H} {ps : List MemPlace} (hrow : rowType P t = true)
    (hl : leafs P d t = some ts) (hc : P.cellsOf t = ts.length) (hv : Value.okWide P w r b t v) (h : DataW.Trod enc P w base sp held t v x ps) : ∃ cs : Array Value, v = .agg cs ∧ Leafs enc P w base sp held ts cs.toList := by
  have : ∃ cs, v = .agg cs ∧ cs.size = P.cellsOf t := by
    unfold Value.okWide at hv
    split at hv
    · obtain ⟨cs, h1, h2, _⟩ := hv; exact ⟨cs, h1, h2⟩
    · obtain ⟨cs, h1, h2, _⟩ := hv; exact ⟨cs, h1, h2⟩
    · rename_i h3 h4
      exfalso
      unfold rowType at hrow
      split at hrow
      · exact h3 _ ‹_›
      · exact h4 _ _ ‹_›
      · cases hrow
  obtain ⟨cs, rfl, hs⟩ := this
  obtain ⟨fuel, hf⟩ := h
  exact ⟨cs, rfl, leafs_of_trod d t ts cs.toList fuel hl (by rw [Array.length_toList, hs, hc]) ⟨_, hf⟩⟩
end
end Go.Proofs.YtahgapkecabnjaaGreatDoor
/- Plain law: keys of flows, their order, and lists of flows in that order. No program in sight. -/
namespace Go.Proofs.YtahgapkecabnjaaGreatDoor
set_option linter.unusedSimpArgs false
set_option linter.unusedVariables false

/-- A flow's key. -/
structure Ky where
  a0 : Nat
  a1 : Nat
  p0 : Nat
  p1 : Nat
  pr : Nat
theorem Ky.same {x y : Ky} : x = y ↔ x.a0 = y.a0 ∧ x.a1 = y.a1 ∧ x.p0 = y.p0 ∧ x.p1 = y.p1 ∧ x.pr = y.pr := by
  constructor
  · rintro rfl; exact ⟨rfl, rfl, rfl, rfl, rfl⟩
  · rintro ⟨h1, h2, h3, h4, h5⟩
    cases x; cases y; simp only at h1 h2 h3 h4 h5
    subst h1 h2 h3 h4 h5; rfl
instance : DecidableEq Ky := fun x y => decidable_of_iff _ (Ky.same (x := x) (y := y)).symm
instance : Inhabited Ky := ⟨⟨0, 0, 0, 0, 0⟩⟩
structure Ky.In (k : Ky) : Prop where
  a0 : k.a0 < 4294967296
  a1 : k.a1 < 4294967296
  p0 : k.p0 < 65536
  p1 : k.p1 < 65536
  pr : k.pr < 256
/-- The order of keys. -/
def ltK (x y : Ky) : Prop := x.pr < y.pr ∨ x.pr = y.pr ∧ (x.a0 < y.a0 ∨ x.a0 = y.a0 ∧ (x.p0 < y.p0 ∨ x.p0 = y.p0 ∧ (x.a1 < y.a1 ∨ x.a1 = y.a1 ∧ x.p1 < y.p1)))
instance (x y : Ky) : Decidable (ltK x y) := by unfold ltK; infer_instance
def lessK (x y : Ky) : Bool := decide (ltK x y)
theorem lessK_iff {x y : Ky} : lessK x y = true ↔ ltK x y := by unfold lessK; rw [decide_eq_true_iff]
theorem lessK_not {x y : Ky} : lessK x y = false ↔ ¬ ltK x y := by unfold lessK; rw [decide_eq_false_iff_not]
theorem ltK_irrefl (x : Ky) : ¬ ltK x x := by unfold ltK; omega
theorem ltK_trans {x y z : Ky} (h : ltK x y) (k : ltK y z) : ltK x z := by unfold ltK at *; omega
theorem ltK_asymm {x y : Ky} (h : ltK x y) : ¬ ltK y x := by unfold ltK at *; omega
theorem ltK_total {x y : Ky} (h : x ≠ y) : ltK x y ∨ ltK y x := by
  rw [Ne, Ky.same] at h
  unfold ltK; omega
theorem ltK_ntrans {x y z : Ky} (h : ¬ ltK x y) (k : ¬ ltK y z) : ¬ ltK x z := by unfold ltK at *; omega
theorem ltK_ne {x y : Ky} (h : ltK x y) : x ≠ y := fun e => by subst e; exact ltK_irrefl _ h
def endN (a p : Nat) : Nat := a * 65536 + p
/-- The order as the reference tells it. -/
theorem lessK_ends {x y : Ky} (hx : x.In) (hy : y.In) : lessK x y = if x.pr ≠ y.pr then decide (x.pr < y.pr) else
    if endN x.a0 x.p0 ≠ endN y.a0 y.p0 then decide (endN x.a0 x.p0 < endN y.a0 y.p0) else decide (endN x.a1 x.p1 < endN y.a1 y.p1) := by
  obtain ⟨_, _, h1, h2, _⟩ := hx
  obtain ⟨_, _, h3, h4, _⟩ := hy
  rw [Bool.eq_iff_iff, lessK_iff]
  unfold ltK endN
  split
  · rw [decide_eq_true_iff]; omega
  · split
    · rw [decide_eq_true_iff]; omega
    · rw [decide_eq_true_iff]; omega

/-! ### Lists in order -/
/-- Each ahead of all that follow. -/
def Rises (l : List Ky) : Prop := l.Pairwise ltK
theorem Rises.nodup {l : List Ky} (h : Rises l) : l.Nodup := List.Pairwise.imp (fun h => ltK_ne h) h
/-- Of a set of keys there is one list in order. -/
theorem rises_one : ∀ {l m : List Ky}, Rises l → Rises m → (∀ x, x ∈ l ↔ x ∈ m) → l = m
  | [], [], _, _, _ => rfl
  | [], y :: m, _, _, h => by have := (h y).2 (by simp); cases this
  | x :: l, [], _, _, h => by have := (h x).1 (by simp); cases this
  | x :: l, y :: m, hl, hm, h => by
    obtain ⟨h1, h2⟩ := List.pairwise_cons.1 hl
    obtain ⟨k1, k2⟩ := List.pairwise_cons.1 hm
    have e : x = y := by
      rcases List.mem_cons.1 ((h x).1 (by simp)) with e | hx
      · exact e
      · rcases List.mem_cons.1 ((h y).2 (by simp)) with e | hy
        · exact e.symm
        · exact absurd (h1 y hy) (ltK_asymm (k1 x hx))
    subst e
    rw [rises_one h2 k2 fun z => ?_]
    constructor
    · intro hz
      rcases List.mem_cons.1 ((h z).1 (by simp [hz])) with e | hz'
      · subst e; exact absurd (h1 z hz) (ltK_irrefl z)
      · exact hz'
    · intro hz
      rcases List.mem_cons.1 ((h z).2 (by simp [hz])) with e | hz'
      · subst e; exact absurd (k1 z hz) (ltK_irrefl z)
      · exact hz'
/-- What is sorted by 'not ahead of what precedes' and names no key twice rises. -/
theorem rises_of_sorted {l : List Ky} (h : l.Pairwise fun x y => ¬ ltK y x) (hn : l.Nodup) : Rises l := by
  refine List.Pairwise.imp₂ (R := fun x y => ¬ ltK y x) (S := fun x y => x ≠ y) (fun x y h1 h2 => ?_) h hn
  rcases ltK_total h2 with h3 | h3
  · exact h3
  · exact absurd h3 h1

/-! ### Flows in order, of whatever sort -/
section
variable {α : Type}
/-- Keys with what they stand for, in order. -/
abbrev Kl (α : Type) := List (Ky × α)
def keysL (l : Kl α) : List Ky := l.map (·.1)
def getL (l : Kl α) (k : Ky) : Option α := (l.find? fun p => decide (p.1 = k)).map (·.2)
def hasL (l : Kl α) (k : Ky) : Bool := (getL l k).isSome
def delL (l : Kl α) (k : Ky) : Kl α := l.filter fun p => decide (p.1 ≠ k)
def putL (l : Kl α) (k : Ky) (x : α) : Kl α := (l.filter fun p => lessK p.1 k) ++ (k, x) :: l.filter fun p => lessK k p.1
theorem getL_nil (k : Ky) : getL ([] : Kl α) k = none := rfl
theorem getL_cons (p : Ky × α) (l : Kl α) (k : Ky) : getL (p :: l) k = if p.1 = k then some p.2 else getL l k := by
  unfold getL
  rw [List.find?_cons]
  by_cases h : p.1 = k
  · simp [h]
  · simp [h]
theorem getL_mem {l : Kl α} {k : Ky} {x : α} (h : getL l k = some x) : (k, x) ∈ l := by
  induction l with
  | nil => cases h
  | cons p l ih =>
    rw [getL_cons] at h
    split at h
    · rename_i e; cases h; subst e; simp
    · simp [ih h]
theorem getL_of_mem {l : Kl α} (hr : Rises (keysL l)) {k : Ky} {x : α} (h : (k, x) ∈ l) : getL l k = some x := by
  induction l with
  | nil => cases h
  | cons p l ih =>
    obtain ⟨h1, h2⟩ := List.pairwise_cons.1 (show (p.1 :: keysL l).Pairwise ltK from hr)
    rw [getL_cons]
    rcases List.mem_cons.1 h with e | h'
    · subst e; simp
    · rw [if_neg, ih h2 h']
      intro e
      have := h1 k (List.mem_map.2 ⟨(k, x), h', rfl⟩)
      rw [e] at this
      exact ltK_irrefl _ this
theorem getL_none {l : Kl α} {k : Ky} : getL l k = none ↔ k ∉ keysL l := by
  induction l with
  | nil => simp [keysL, getL_nil]
  | cons p l ih =>
    rw [getL_cons]
    show _ ↔ k ∉ p.1 :: keysL l
    by_cases h : p.1 = k
    · simp [h]
    · rw [if_neg h, ih, List.mem_cons]
      constructor
      · rintro h1 (h2 | h2)
        · exact h h2.symm
        · exact h1 h2
      · exact fun h1 h2 => h1 (.inr h2)
theorem keysL_del (l : Kl α) (k : Ky) : keysL (delL l k) = (keysL l).filter fun x => decide (x ≠ k) := by
  unfold keysL delL; rw [List.filter_map]; rfl
theorem rises_del {l : Kl α} (h : Rises (keysL l)) (k : Ky) : Rises (keysL (delL l k)) := by
  rw [keysL_del]; exact List.Pairwise.filter _ h
theorem keysL_put (l : Kl α) (k : Ky) (x : α) : keysL (putL l k x) = ((keysL l).filter fun y => lessK y k) ++ k :: (keysL l).filter fun y => lessK k y := by
  unfold keysL putL; rw [List.map_append, List.map_cons, List.filter_map, List.filter_map]; rfl
theorem rises_put {l : Kl α} (h : Rises (keysL l)) (k : Ky) (x : α) : Rises (keysL (putL l k x)) := by
  rw [keysL_put]
  unfold Rises
  rw [List.pairwise_append, List.pairwise_cons]
  refine ⟨List.Pairwise.filter _ h, ⟨fun y hy => lessK_iff.1 (List.mem_filter.1 hy).2, List.Pairwise.filter _ h⟩, fun y hy z hz => ?_⟩
  have h1 := lessK_iff.1 (List.mem_filter.1 hy).2
  rcases List.mem_cons.1 hz with e | hz'
  · subst e; exact h1
  · exact ltK_trans h1 (lessK_iff.1 (List.mem_filter.1 hz').2)
theorem getL_filter (l : Kl α) (f : Ky → Bool) (k : Ky) : getL (l.filter fun p => f p.1) k = if f k = true then getL l k else none := by
  induction l with
  | nil => simp [getL_nil]
  | cons p l ih =>
    rw [List.filter_cons, getL_cons]
    by_cases hf : f p.1 = true
    · rw [if_pos hf, getL_cons]
      by_cases e : p.1 = k
      · subst e; simp [hf]
      · rw [if_neg e, if_neg e, ih]
    · rw [if_neg hf, ih]
      by_cases e : p.1 = k
      · subst e; simp [hf]
      · rw [if_neg e]
theorem getL_append (l m : Kl α) (k : Ky) : getL (l ++ m) k = (getL l k).or (getL m k) := by
  induction l with
  | nil => simp [getL_nil]
  | cons p l ih =>
    rw [List.cons_append, getL_cons, getL_cons, ih]
    split <;> simp
theorem getL_del (l : Kl α) (k y : Ky) : getL (delL l k) y = if y = k then none else getL l y := by
  unfold delL
  rw [getL_filter l (fun z => decide (z ≠ k)) y]
  by_cases h : y = k <;> simp [h]
theorem getL_put (l : Kl α) (k : Ky) (x : α) (y : Ky) : getL (putL l k x) y = if y = k then some x else getL l y := by
  unfold putL
  rw [getL_append, getL_cons, getL_filter l (fun z => lessK z k) y, getL_filter l (fun z => lessK k z) y]
  by_cases h : y = k
  · subst h
    have : lessK y y = false := lessK_not.2 (ltK_irrefl y)
    simp [this]
  · have h' : k ≠ y := fun e => h e.symm
    rcases ltK_total h with h1 | h1
    · have h2 := lessK_not.2 (ltK_asymm h1)
      simp [lessK_iff.2 h1, h2, h, h']
    · have h2 := lessK_not.2 (ltK_asymm h1)
      simp [lessK_iff.2 h1, h2, h, h']
theorem length_del {l : Kl α} (h : Rises (keysL l)) {k : Ky} {x : α} (hk : getL l k = some x) : (delL l k).length + 1 = l.length := by
  have hm := getL_mem hk
  induction l with
  | nil => cases hm
  | cons p l ih =>
    obtain ⟨h1, h2⟩ := List.pairwise_cons.1 (show (p.1 :: keysL l).Pairwise ltK from h)
    unfold delL
    rw [List.filter_cons]
    by_cases e : p.1 = k
    · have : (l.filter fun p => decide (p.1 ≠ k)) = l := by
        rw [List.filter_eq_self]
        intro q hq
        have := h1 q.1 (List.mem_map.2 ⟨q, hq, rfl⟩)
        rw [e] at this
        exact decide_eq_true (fun e' => by rw [e'] at this; exact ltK_irrefl _ this)
      rw [this, if_neg (by simp [e])]; simp
    · rw [if_pos (by simp [e])]
      rw [getL_cons, if_neg e] at hk
      have := ih h2 hk (getL_mem hk)
      unfold delL at this
      simp only [List.length_cons]; omega
theorem del_none {l : Kl α} {k : Ky} (hk : getL l k = none) : delL l k = l := by
  unfold delL
  rw [List.filter_eq_self]
  intro q hq
  have := getL_none.1 hk
  exact decide_eq_true (fun e => this (List.mem_map.2 ⟨q, hq, e⟩))
theorem parts_length (l : Kl α) (k : Ky) : (l.filter fun p => lessK p.1 k).length + (l.filter fun p => lessK k p.1).length = (delL l k).length := by
  induction l with
  | nil => rfl
  | cons p l ih =>
    unfold delL at ih ⊢
    rw [List.filter_cons, List.filter_cons, List.filter_cons]
    by_cases e : p.1 = k
    · have : lessK p.1 k = false := lessK_not.2 (by rw [e]; exact ltK_irrefl _)
      have h2 : lessK k p.1 = false := lessK_not.2 (by rw [e]; exact ltK_irrefl _)
      rw [this, h2]; simp [e]; simpa using ih
    · rcases ltK_total e with h1 | h1
      · rw [lessK_iff.2 h1, lessK_not.2 (ltK_asymm h1)]; simp [e]; simp at ih; omega
      · rw [lessK_iff.2 h1, lessK_not.2 (ltK_asymm h1)]; simp [e]; simp at ih; omega
theorem length_put_new {l : Kl α} {k : Ky} (hk : getL l k = none) (x : α) : (putL l k x).length = l.length + 1 := by
  have h1 := parts_length l k
  rw [del_none hk] at h1
  unfold putL
  simp only [List.length_append, List.length_cons]; omega
theorem length_put_old {l : Kl α} (h : Rises (keysL l)) {k : Ky} {y : α} (hk : getL l k = some y) (x : α) : (putL l k x).length = l.length := by
  have h1 := parts_length l k
  have h2 := length_del h hk
  unfold putL
  simp only [List.length_append, List.length_cons]; omega
/-- Two lists in order that answer alike are one. -/
theorem kl_one {l m : Kl α} (hl : Rises (keysL l)) (hm : Rises (keysL m)) (h : ∀ k, getL l k = getL m k) : l = m := by
  have hk : keysL l = keysL m := rises_one hl hm fun x => by
    have := h x
    constructor
    · intro hx
      have h1 : getL l x ≠ none := fun e => getL_none.1 e hx
      rw [this] at h1
      exact Classical.byContradiction fun h2 => h1 (getL_none.2 h2)
    · intro hx
      have h1 : getL m x ≠ none := fun e => getL_none.1 e hx
      rw [← this] at h1
      exact Classical.byContradiction fun h2 => h1 (getL_none.2 h2)
  have hlen : l.length = m.length := by have := congrArg List.length hk; simpa [keysL] using this
  refine List.ext_getElem hlen fun i h1 h2 => ?_
  have e1 : l[i].1 = m[i].1 := by
    have h3 : (keysL l)[i]? = (keysL m)[i]? := by rw [hk]
    unfold keysL at h3
    rw [List.getElem?_map, List.getElem?_map, List.getElem?_eq_getElem h1, List.getElem?_eq_getElem h2] at h3
    simpa using h3
  have g1 := getL_of_mem hl (k := l[i].1) (x := l[i].2) (List.getElem_mem h1)
  have g2 := getL_of_mem hm (k := m[i].1) (x := m[i].2) (List.getElem_mem h2)
  rw [h, e1, g2] at g1
  exact Prod.ext e1 (Option.some.inj g1).symm
end
end Go.Proofs.YtahgapkecabnjaaGreatDoor
/- Walks of the small functions of package trace and of its reference. -/
namespace Go.Proofs.YtahgapkecabnjaaGreatDoor
set_option linter.unusedSimpArgs false
set_option linter.unusedVariables false
open Go.RowKit

/-- A walk's end with one result. -/
theorem ret1 {v u : Value} {w w' : World} (h : v = u) (hw : w = w') : Ending.returned v = Ending.returned u ∧ w = w' := ⟨by rw [h], hw⟩

def kindF (f : Int) : Int :=
  if (Go.bits .and .u8 f 23 == 16) = true then 1 else if (Go.bits .and .u8 f 23 == 2) = true then 2 else if (Go.bits .and .u8 f 23 == 18) = true then 3
  else if (Go.bits .and .u8 f 23 == 17) = true then 4 else if (Go.bits .and .u8 f 23 == 4) = true then 5 else if (Go.bits .and .u8 f 23 == 20) = true then 5 else 0

set_option maxHeartbeats 400000 in
theorem kind_any (f : Int) (w : World) :
    Calls Tryz.prog 113 #[.int .u8 f] w fun e w' => e = .returned (.int .i64 (kindF f)) ∧ w' = w := by
  go_enter Tryz.func113, Tryz.ntmps113
  go_wp2
  all_goals
    go_ret
    exact ret1 (by simp [kindF, *]) rfl

def hasF (f g : Int) : Bool := (f / g) % 2 == 1

set_option maxHeartbeats 400000 in
theorem thas_any (f g : Int) (w : World) (hf : 0 ≤ f) (hf' : f ≤ 255) (hg : 1 ≤ g) :
    Calls Tryz.prog 120 #[.int .u8 f, .int .u8 g] w fun e w' => e = .returned (.bool (hasF f g)) ∧ w' = w := by
  have hq : 0 ≤ f / g := Int.ediv_nonneg hf (by omega)
  go_enter Tryz.func120, Tryz.ntmps120
  go_wp2
  go_ret
  exact ret1 (by simp [hasF]) rfl

def openF (f : Int) : Int × Bool := if (kindF f == 2) = true then (1, true) else (0, false)

set_option maxHeartbeats 400000 in
theorem open_any (f : Int) (w : World) :
    Calls Tryz.prog 111 #[.int .u8 f] w fun e w' => e = .returned (.tuple #[.int .i64 (openF f).1, .bool (openF f).2]) ∧ w' = w := by
  go_enter Tryz.func111, Tryz.ntmps111
  go_wp2_with (go_at_call 113; refine (kind_any _ _).mono ?_; rintro e w' ⟨rfl, rfl⟩)
  all_goals
    go_ret2
    exact ret1 (by simp [openF, *]) rfl

def refOpenF (f : Int) : Int × Bool := if hasF f 2 = true then if (!hasF f 16) = true then if (!hasF f 1) = true then if (!hasF f 4) = true then (1, true) else (0, false) else (0, false) else (0, false) else (0, false)

set_option maxHeartbeats 1000000 in
theorem refOpen_any (f : Int) (w : World) (hf : 0 ≤ f) (hf' : f ≤ 255) :
    Calls Tryz.prog 102 #[.int .u8 f] w fun e w' => e = .returned (.tuple #[.int .i64 (refOpenF f).1, .bool (refOpenF f).2]) ∧ w' = w := by
  go_enter Tryz.func102, Tryz.ntmps102
  go_wp2_with (go_at_call 120; refine (thas_any _ _ _ hf hf' (by omega)).mono ?_; rintro e w' ⟨rfl, rfl⟩)
  all_goals
    go_ret2
    exact ret1 (by simp [refOpenF, *]) rfl

def refNextF (state : Int) (reply : Bool) (f : Int) : Int × Bool :=
  if state < 1 ∨ 7 < state then (0, false)
  else if hasF f 4 = true then if hasF f 2 = true ∨ hasF f 1 = true then (0, false) else (7, true)
  else if hasF f 2 = true ∧ hasF f 1 = true ∨ state = 7 then (0, false)
  else if hasF f 2 = true then
    if 2 < state ∨ hasF f 16 ≠ reply then (0, false) else if hasF f 16 = true then (2, true) else (state, true)
  else if hasF f 16 = false ∨ state = 1 ∨ state = 2 ∧ reply = true then (0, false)
  else if hasF f 1 = false then if state = 2 then (3, true) else (state, true)
  else if state = 6 ∨ state = 4 ∧ reply = true ∨ state = 5 ∧ reply = false then (6, true)
  else if reply = true then (5, true) else (4, true)

set_option maxHeartbeats 4000000 in
theorem refNext_any (state : Int) (reply : Bool) (f : Int) (w : World) (hf : 0 ≤ f) (hf' : f ≤ 255) :
    Calls Tryz.prog 98 #[.int .i64 state, .bool reply, .int .u8 f] w fun e w' => e = .returned (.tuple #[.int .i64 (refNextF state reply f).1, .bool (refNextF state reply f).2]) ∧ w' = w := by
  go_enter Tryz.func98, Tryz.ntmps98
  go_wp2_with (go_at_call 120; refine (thas_any _ _ _ hf hf' (by omega)).mono ?_; rintro e w' ⟨rfl, rfl⟩)
  all_goals
    go_ret2
    refine ret1 ?_ rfl
    go_light
    simp only [Bool.not_eq_true, beq_iff_eq, beq_eq_false_iff_ne, ne_eq] at *
    unfold refNextF
    repeat' split
    all_goals first | rfl | (exfalso; simp_all; done) | (exfalso; simp_all; omega) | (simp_all; done)
end Go.Proofs.YtahgapkecabnjaaGreatDoor
