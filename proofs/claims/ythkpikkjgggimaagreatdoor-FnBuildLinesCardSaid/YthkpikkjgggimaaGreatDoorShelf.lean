/-
  Contracts of Go's library, laid by the kit's shelf at this program. No claim stands here.
-/
import Derived.Shelf.Strconv.Itoa0
import Derived.Shelf.Strconv.Itoa1
import Derived.Shelf.LaysM
import Derived.Shelf.Strconv.Itoa2
import Derived.Shelf.Strconv.Itoa3
import Derived.Shelf.Strings.Search1
import Derived.Shelf.Strings.Search2
import Derived.Shelf.Strings.Cut
import Derived.Shelf.Strings.Shaped
import Derived.Ground.Names2Prog
import Derived.Shelf.Slices.Clone
import Derived.Ground.SlgnProg
import Derived.Shelf.SlicesE.Clone
import Derived.Test.YthkpikkjgggimaaGreatDoorProg
namespace Go.Proofs
open Go.Shelf
def Tryz.laysM171_ren : Go.Shelf.Ren := ⟨fun | 171 => 45 | 243 => 98 | 246 => 131 | 283 => 145 | 284 => 146 | 285 => 147 | 286 => 148 | 129 => 155 | 317 => 154 | 318 => 156 | 319 => 157 | 320 => 158 | 337 => 161 | 338 => 162 | n => n, fun | 3 => 3 | 9 => 9 | 2 => 2 | 4 => 4 | 171 => 143 | 0 => 0 | 53 => 144 | 37 => 22 | 5 => 5 | 173 => 147 | 212 => 152 | 51 => 153 | 20 => 20 | 213 => 154 | 46 => 150 | 232 => 159 | 233 => 160 | n => n, fun | 17 => 1 | 18 => 2 | 19 => 3 | n => n⟩
theorem Tryz.laysM171 : Go.Proofs.LaysM.n171 Tryz.prog Tryz.laysM171_ren := {
  mixed := by kernel_rfl
  f129 := Tryz.func155.trans (congrArg some (by kernel_rfl))
  f171 := Tryz.func45.trans (congrArg some (by kernel_rfl))
  f243 := Tryz.func98.trans (congrArg some (by kernel_rfl))
  f246 := Tryz.func131.trans (congrArg some (by kernel_rfl))
  f283 := Tryz.func145.trans (congrArg some (by kernel_rfl))
  f284 := Tryz.func146.trans (congrArg some (by kernel_rfl))
  f285 := Tryz.func147.trans (congrArg some (by kernel_rfl))
  f286 := Tryz.func148.trans (congrArg some (by kernel_rfl))
  f317 := Tryz.func154.trans (congrArg some (by kernel_rfl))
  f318 := Tryz.func156.trans (congrArg some (by kernel_rfl))
  f319 := Tryz.func157.trans (congrArg some (by kernel_rfl))
  f320 := Tryz.func158.trans (congrArg some (by kernel_rfl))
  f337 := Tryz.func161.trans (congrArg some (by kernel_rfl))
  f338 := Tryz.func162.trans (congrArg some (by kernel_rfl))
  t0 := Tryz.underlying0
  a0 := Tryz.isAgg0
  z0 := Tryz.sizeOf0
  v0 := Tryz.zeroValue0
  t2 := Tryz.underlying2
  a2 := Tryz.isAgg2
  z2 := Tryz.sizeOf2
  v2 := Tryz.zeroValue2
  t3 := Tryz.underlying3
  a3 := Tryz.isAgg3
  z3 := Tryz.sizeOf3
  v3 := Tryz.zeroValue3
  t4 := Tryz.underlying4
  a4 := Tryz.isAgg4
  z4 := Tryz.sizeOf4
  v4 := Tryz.zeroValue4
  t5 := Tryz.underlying5
  a5 := Tryz.isAgg5
  z5 := Tryz.sizeOf5
  v5 := Tryz.zeroValue5
  t9 := Tryz.underlying9
  a9 := Tryz.isAgg9
  z9 := Tryz.sizeOf9
  v9 := Tryz.zeroValue9
  t20 := Tryz.underlying20
  a20 := Tryz.isAgg20
  z20 := Tryz.sizeOf20
  v20 := Tryz.zeroValue20
  t37 := Tryz.underlying22
  a37 := Tryz.isAgg22
  z37 := Tryz.sizeOf22
  v37 := Tryz.zeroValue22
  t46 := Tryz.underlying150
  a46 := Tryz.isAgg150
  z46 := Tryz.sizeOf150
  v46 := Tryz.zeroValue150
  t51 := Tryz.underlying153
  a51 := Tryz.isAgg153
  z51 := Tryz.sizeOf153
  v51 := Tryz.zeroValue153
  t53 := Tryz.underlying144
  a53 := Tryz.isAgg144
  z53 := Tryz.sizeOf144
  v53 := Tryz.zeroValue144
  t171 := Tryz.underlying143
  a171 := Tryz.isAgg143
  z171 := Tryz.sizeOf143
  v171 := Tryz.zeroValue143
  t173 := Tryz.underlying147
  a173 := Tryz.isAgg147
  z173 := Tryz.sizeOf147
  v173 := Tryz.zeroValue147
  t212 := Tryz.underlying152
  a212 := Tryz.isAgg152
  z212 := Tryz.sizeOf152
  v212 := Tryz.zeroValue152
  t213 := Tryz.underlying154
  a213 := Tryz.isAgg154
  z213 := Tryz.sizeOf154
  t232 := Tryz.underlying159
  a232 := Tryz.isAgg159
  z232 := Tryz.sizeOf159
  v232 := Tryz.zeroValue159
  t233 := Tryz.underlying160
  a233 := Tryz.isAgg160
  z233 := Tryz.sizeOf160
  v233 := Tryz.zeroValue160
  g17 := by kernel_rfl
  g18 := by kernel_rfl
  g19 := by kernel_rfl
  i0 := by kernel_rfl
  i2 := by kernel_rfl
  i3 := by kernel_rfl
  i4 := by kernel_rfl
  i5 := by kernel_rfl
  i9 := by kernel_rfl
  i20 := by kernel_rfl
  i37 := by kernel_rfl
  i46 := by kernel_rfl
  i51 := by kernel_rfl
  i53 := by kernel_rfl
  i171 := by kernel_rfl
  i173 := by kernel_rfl
  i212 := by kernel_rfl
  i232 := by kernel_rfl
  i233 := by kernel_rfl
  m17 := by kernel_rfl
  m18 := by kernel_rfl
  m19 := by kernel_rfl }
open Go.RowKit Go.Sort Go.Lib in
theorem Tryz.strconv_Itoa (n : Int) (h0 : -9223372036854775808 ≤ n) (h1 : n ≤ 9223372036854775807) (w : World) (htab : Lib.TabIs Tryz.prog w "internal/strconv.uint64pow10" .u64 Lib.pow10Tab) :
    Calls Tryz.prog 45 #[.int .i64 n] w fun e w' => e = .returned (.string ⟨(Lib.itoa n).toArray⟩) ∧ ∃ k os, w' = grow (w.drewN k) os := Any.strconv_Itoa Tryz.laysM171 n h0 h1 w htab
def Tryz.lays171_ren : Go.Shelf.Ren := ⟨fun | 171 => 45 | 243 => 98 | 246 => 131 | 283 => 145 | 284 => 146 | 285 => 147 | 286 => 148 | 129 => 155 | 317 => 154 | 318 => 156 | 319 => 157 | 320 => 158 | 337 => 161 | 338 => 162 | n => n, fun | 3 => 3 | 9 => 9 | 2 => 2 | 4 => 4 | 171 => 143 | 0 => 0 | 53 => 144 | 37 => 22 | 5 => 5 | 173 => 147 | 212 => 152 | 51 => 153 | 20 => 20 | 213 => 154 | 46 => 150 | 232 => 159 | 233 => 160 | n => n, fun | 17 => 1 | 18 => 2 | 19 => 3 | n => n⟩
theorem Tryz.lays171 : Go.Proofs.Lays.n171 Tryz.prog Tryz.lays171_ren := {
  mixed := by kernel_rfl
  f129 := Tryz.func155.trans (congrArg some (by kernel_rfl))
  f171 := Tryz.func45.trans (congrArg some (by kernel_rfl))
  f243 := Tryz.func98.trans (congrArg some (by kernel_rfl))
  f246 := Tryz.func131.trans (congrArg some (by kernel_rfl))
  f283 := Tryz.func145.trans (congrArg some (by kernel_rfl))
  f284 := Tryz.func146.trans (congrArg some (by kernel_rfl))
  f285 := Tryz.func147.trans (congrArg some (by kernel_rfl))
  f286 := Tryz.func148.trans (congrArg some (by kernel_rfl))
  f317 := Tryz.func154.trans (congrArg some (by kernel_rfl))
  f318 := Tryz.func156.trans (congrArg some (by kernel_rfl))
  f319 := Tryz.func157.trans (congrArg some (by kernel_rfl))
  f320 := Tryz.func158.trans (congrArg some (by kernel_rfl))
  f337 := Tryz.func161.trans (congrArg some (by kernel_rfl))
  f338 := Tryz.func162.trans (congrArg some (by kernel_rfl))
  t0 := Tryz.underlying0
  a0 := Tryz.isAgg0
  z0 := Tryz.sizeOf0
  v0 := Tryz.zeroValue0
  t2 := Tryz.underlying2
  a2 := Tryz.isAgg2
  z2 := Tryz.sizeOf2
  v2 := Tryz.zeroValue2
  t3 := Tryz.underlying3
  a3 := Tryz.isAgg3
  z3 := Tryz.sizeOf3
  v3 := Tryz.zeroValue3
  t4 := Tryz.underlying4
  a4 := Tryz.isAgg4
  z4 := Tryz.sizeOf4
  v4 := Tryz.zeroValue4
  t5 := Tryz.underlying5
  a5 := Tryz.isAgg5
  z5 := Tryz.sizeOf5
  v5 := Tryz.zeroValue5
  t9 := Tryz.underlying9
  a9 := Tryz.isAgg9
  z9 := Tryz.sizeOf9
  v9 := Tryz.zeroValue9
  t20 := Tryz.underlying20
  a20 := Tryz.isAgg20
  z20 := Tryz.sizeOf20
  v20 := Tryz.zeroValue20
  t37 := Tryz.underlying22
  a37 := Tryz.isAgg22
  z37 := Tryz.sizeOf22
  v37 := Tryz.zeroValue22
  t46 := Tryz.underlying150
  a46 := Tryz.isAgg150
  z46 := Tryz.sizeOf150
  v46 := Tryz.zeroValue150
  t51 := Tryz.underlying153
  a51 := Tryz.isAgg153
  z51 := Tryz.sizeOf153
  v51 := Tryz.zeroValue153
  t53 := Tryz.underlying144
  a53 := Tryz.isAgg144
  z53 := Tryz.sizeOf144
  v53 := Tryz.zeroValue144
  t171 := Tryz.underlying143
  a171 := Tryz.isAgg143
  z171 := Tryz.sizeOf143
  v171 := Tryz.zeroValue143
  t173 := Tryz.underlying147
  a173 := Tryz.isAgg147
  z173 := Tryz.sizeOf147
  v173 := Tryz.zeroValue147
  t212 := Tryz.underlying152
  a212 := Tryz.isAgg152
  z212 := Tryz.sizeOf152
  v212 := Tryz.zeroValue152
  t213 := Tryz.underlying154
  a213 := Tryz.isAgg154
  z213 := Tryz.sizeOf154
  t232 := Tryz.underlying159
  a232 := Tryz.isAgg159
  z232 := Tryz.sizeOf159
  v232 := Tryz.zeroValue159
  t233 := Tryz.underlying160
  a233 := Tryz.isAgg160
  z233 := Tryz.sizeOf160
  v233 := Tryz.zeroValue160
  g17 := by kernel_rfl
  g18 := by kernel_rfl
  g19 := by kernel_rfl }
open Go.RowKit Go.Sort Go.Lib in
theorem Tryz.strconv_Itoa_small (i : Nat) (hi : i < 100) (w : World) :
    Calls Tryz.prog 45 #[.int .i64 i] w fun e w' => e = .returned (.string ⟨(Lib.decDigits i).toArray⟩) ∧ w' = w := Any.strconv_Itoa_small Tryz.lays171 i hi w
def Tryz.laysM145_ren : Go.Shelf.Ren := ⟨fun | 145 => 47 | 220 => 99 | 219 => 132 | 217 => 149 | 225 => 150 | 224 => 151 | 267 => 152 | 266 => 159 | 314 => 160 | n => n, fun | 9 => 9 | 4 => 4 | 59 => 80 | 3 => 3 | 5 => 5 | 46 => 150 | 146 => 156 | 51 => 153 | n => n, fun | 1 => 0 | n => n⟩
theorem Tryz.laysM145 : Go.Proofs.LaysM.n145 Tryz.prog Tryz.laysM145_ren := {
  mixed := by kernel_rfl
  f145 := Tryz.func47.trans (congrArg some (by kernel_rfl))
  f217 := Tryz.func149.trans (congrArg some (by kernel_rfl))
  f219 := Tryz.func132.trans (congrArg some (by kernel_rfl))
  f220 := Tryz.func99.trans (congrArg some (by kernel_rfl))
  f224 := Tryz.func151.trans (congrArg some (by kernel_rfl))
  f225 := Tryz.func150.trans (congrArg some (by kernel_rfl))
  f266 := Tryz.func159.trans (congrArg some (by kernel_rfl))
  f267 := Tryz.func152.trans (congrArg some (by kernel_rfl))
  f314 := Tryz.func160.trans (congrArg some (by kernel_rfl))
  t3 := Tryz.underlying3
  a3 := Tryz.isAgg3
  z3 := Tryz.sizeOf3
  v3 := Tryz.zeroValue3
  t4 := Tryz.underlying4
  a4 := Tryz.isAgg4
  z4 := Tryz.sizeOf4
  v4 := Tryz.zeroValue4
  t5 := Tryz.underlying5
  a5 := Tryz.isAgg5
  z5 := Tryz.sizeOf5
  v5 := Tryz.zeroValue5
  t9 := Tryz.underlying9
  a9 := Tryz.isAgg9
  z9 := Tryz.sizeOf9
  v9 := Tryz.zeroValue9
  t46 := Tryz.underlying150
  a46 := Tryz.isAgg150
  z46 := Tryz.sizeOf150
  v46 := Tryz.zeroValue150
  t51 := Tryz.underlying153
  a51 := Tryz.isAgg153
  z51 := Tryz.sizeOf153
  v51 := Tryz.zeroValue153
  t59 := Tryz.underlying80
  a59 := Tryz.isAgg80
  z59 := Tryz.sizeOf80
  v59 := Tryz.zeroValue80
  t146 := Tryz.underlying156
  a146 := Tryz.isAgg156
  z146 := Tryz.sizeOf156
  v146 := Tryz.zeroValue156
  g1 := by kernel_rfl
  i3 := by kernel_rfl
  i4 := by kernel_rfl
  i5 := by kernel_rfl
  i9 := by kernel_rfl
  i46 := by kernel_rfl
  i51 := by kernel_rfl
  i59 := by kernel_rfl
  i146 := by kernel_rfl
  m1 := by kernel_rfl
  s1_3 := fun w h => Go.Proofs.cell_of_shapedOpen_int (zero := #[.int .i64 0]) (t := 3) h (of_decide_eq_true (by kernel_rfl)) (by kernel_rfl) rfl (by kernel_rfl) (by kernel_rfl) Tryz.underlying3 }
open Go.RowKit Go.Lib in
theorem Tryz.strings_Cut_shaped (s sep : ByteArray) (w : World) (h : w.ShapedOpen Tryz.prog) (hs : s.size < 4294967281) :
    Calls Tryz.prog 47 #[.string s, .string sep] w fun e w' => e = .returned (.tuple #[.string ⟨(Lib.cut s.data.toList sep.data.toList).1.toArray⟩, .string ⟨(Lib.cut s.data.toList sep.data.toList).2.1.toArray⟩, .bool (Lib.cut s.data.toList sep.data.toList).2.2]) ∧ ∃ n, w' = w.drewN n := Any.strings_Cut_shaped Tryz.laysM145 s sep w h hs
end Go.Proofs
