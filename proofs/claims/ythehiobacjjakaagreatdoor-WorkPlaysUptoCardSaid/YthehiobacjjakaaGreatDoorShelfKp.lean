/- DERIVED: THE SHELF's CONTRACTS AT THIS DUMP,IN PLAIN WORDS (tools/lay-plain.mjs out of 'TryzShelf.lean',which tools/lay-shelf.mjs wrote): THE SAME DECLARATIONS UNDER THE SAME NAMES: 'import','namespace','open','def','theorem' AND NOTHING ELSE: no command of the shelf's: FOR A HAND-IN. Each laying: the table of numbers ('.._ren') and one theorem,a field a fact of the dump's own or the kernel's comparison;each contract: ONE APPLICATION. -/
import Derived.Shelf.Small.Utf8
import Derived.Shelf.Small.Bits
import Derived.Shelf.Small.Strs
import Derived.Shelf.Small.Wraps
import Derived.Shelf.Strconv.Itoa0
import Derived.Shelf.Strconv.Itoa1
import Derived.Shelf.LaysM
import Derived.Shelf.Strconv.Itoa2
import Derived.Shelf.Strconv.Itoa3
import Derived.Shelf.Strconv.Itoa4
import Derived.Shelf.Strings.Search1
import Derived.Shelf.Strings.Search2
import Derived.Shelf.Strings.Search3
import Derived.Shelf.Strings.Count
import Derived.Shelf.Strings.Shaped
import Derived.Shelf.Strings.Split
import Derived.Shelf.Strings.Runes
import Derived.Shelf.Strings.IndexAny
import Derived.Shelf.Strings.AsciiSet
import Derived.Shelf.Strings.IndexAnyAll
import Derived.Shelf.Unicode.DecodeSlow
import Derived.Test.YthehiobacjjakaaGreatDoorProg
set_option linter.unusedVariables false
set_option linter.unusedSimpArgs false
namespace Go.Proofs
open Go.Shelf
def Tryz.lays119_ren:Go.Shelf.Ren:=⟨fun | 119=>160 | n=>n,fun | 21=>21 | 4=>4 | n=>n,fun | n=>n⟩
theorem Tryz.lays119:Go.Proofs.Lays.n119 Tryz.prog Tryz.lays119_ren:={
 mixed:=by kernel_rfl
 f119:=Tryz.func160.trans (congrArg some (by kernel_rfl))
 t4:=Tryz.underlying4
 a4:=Tryz.isAgg4
 z4:=Tryz.sizeOf4
 v4:=Tryz.zeroValue4
 t21:=Tryz.underlying21
 a21:=Tryz.isAgg21
 z21:=Tryz.sizeOf21
 v21:=Tryz.zeroValue21 }
theorem Tryz.utf8_ValidRune (r:Int) (w:World) :
  Calls Tryz.prog 160 #[.int .i32 r] w fun e w'=>e = .returned (.bool (Lib.validRune r)) ∧ w' = w:=Any.utf8_ValidRune Tryz.lays119 r w
def Tryz.lays128_ren:Go.Shelf.Ren:=⟨fun | 128=>106 | n=>n,fun | 51=>145 | 3=>3 | 4=>4 | 46=>117 | 5=>5 | 9=>9 | n=>n,fun | n=>n⟩
theorem Tryz.lays128:Go.Proofs.Lays.n128 Tryz.prog Tryz.lays128_ren:={
 mixed:=by kernel_rfl
 f128:=Tryz.func106.trans (congrArg some (by kernel_rfl))
 t3:=Tryz.underlying3
 a3:=Tryz.isAgg3
 z3:=Tryz.sizeOf3
 v3:=Tryz.zeroValue3
 t4:=Tryz.underlying4
 a4:=Tryz.isAgg4
 z4:=Tryz.sizeOf4
 v4:=Tryz.zeroValue4
 t5:=Tryz.underlying5
 a5:=Tryz.isAgg5
 z5:=Tryz.sizeOf5
 v5:=Tryz.zeroValue5
 t9:=Tryz.underlying9
 a9:=Tryz.isAgg9
 z9:=Tryz.sizeOf9
 v9:=Tryz.zeroValue9
 t46:=Tryz.underlying117
 a46:=Tryz.isAgg117
 z46:=Tryz.sizeOf117
 v46:=Tryz.zeroValue117
 t51:=Tryz.underlying145
 a51:=Tryz.isAgg145
 z51:=Tryz.sizeOf145
 v51:=Tryz.zeroValue145 }
theorem Tryz.bits_Len32 (x:Int) (w:World) (h0:0 ≤ x) (h1:x ≤ 4294967295) :
  Calls Tryz.prog 106 #[.int .u32 x] w fun e w'=>e = .returned (.int .i64 (Lib.bitLen x.toNat)) ∧ w' = w:=Any.bits_Len32 Tryz.lays128 x w h0 h1
def Tryz.lays125_ren:Go.Shelf.Ren:=⟨fun | 125=>74 | 128=>106 | 129=>107 | n=>n,fun | 46=>117 | 3=>3 | 51=>145 | 53=>147 | 4=>4 | 5=>5 | 9=>9 | n=>n,fun | n=>n⟩
theorem Tryz.lays125:Go.Proofs.Lays.n125 Tryz.prog Tryz.lays125_ren:={
 mixed:=by kernel_rfl
 f125:=Tryz.func74.trans (congrArg some (by kernel_rfl))
 f128:=Tryz.func106.trans (congrArg some (by kernel_rfl))
 f129:=Tryz.func107.trans (congrArg some (by kernel_rfl))
 t3:=Tryz.underlying3
 a3:=Tryz.isAgg3
 z3:=Tryz.sizeOf3
 v3:=Tryz.zeroValue3
 t4:=Tryz.underlying4
 a4:=Tryz.isAgg4
 z4:=Tryz.sizeOf4
 v4:=Tryz.zeroValue4
 t5:=Tryz.underlying5
 a5:=Tryz.isAgg5
 z5:=Tryz.sizeOf5
 v5:=Tryz.zeroValue5
 t9:=Tryz.underlying9
 a9:=Tryz.isAgg9
 z9:=Tryz.sizeOf9
 v9:=Tryz.zeroValue9
 t46:=Tryz.underlying117
 a46:=Tryz.isAgg117
 z46:=Tryz.sizeOf117
 v46:=Tryz.zeroValue117
 t51:=Tryz.underlying145
 a51:=Tryz.isAgg145
 z51:=Tryz.sizeOf145
 v51:=Tryz.zeroValue145
 t53:=Tryz.underlying147
 a53:=Tryz.isAgg147
 z53:=Tryz.sizeOf147
 v53:=Tryz.zeroValue147 }
theorem Tryz.bits_Len (x:Int) (w:World) (h0:0 ≤ x) (h1:x ≤ 18446744073709551615) :
  Calls Tryz.prog 74 #[.int .u64 x] w fun e w'=>e = .returned (.int .i64 (Lib.bitLen x.toNat)) ∧ w' = w:=Any.bits_Len Tryz.lays125 x w h0 h1
def Tryz.lays137_ren:Go.Shelf.Ren:=⟨fun | 137=>159 | 217=>129 | 266=>152 | n=>n,fun | 9=>9 | 5=>5 | 3=>3 | n=>n,fun | n=>n⟩
theorem Tryz.lays137:Go.Proofs.Lays.n137 Tryz.prog Tryz.lays137_ren:={
 mixed:=by kernel_rfl
 f137:=Tryz.func159.trans (congrArg some (by kernel_rfl))
 f217:=Tryz.func129.trans (congrArg some (by kernel_rfl))
 f266:=Tryz.func152.trans (congrArg some (by kernel_rfl))
 t3:=Tryz.underlying3
 a3:=Tryz.isAgg3
 z3:=Tryz.sizeOf3
 v3:=Tryz.zeroValue3
 t5:=Tryz.underlying5
 a5:=Tryz.isAgg5
 z5:=Tryz.sizeOf5
 v5:=Tryz.zeroValue5
 t9:=Tryz.underlying9
 a9:=Tryz.isAgg9
 z9:=Tryz.sizeOf9
 v9:=Tryz.zeroValue9 }
open Go.RowKit in
theorem Tryz.strings_IndexByte (s:ByteArray) (c:Int) (w:World) :
  Calls Tryz.prog 159 #[.string s,.int .u8 c] w fun e w'=>e = .returned (.int .i64 (Lib.indexByte s.data.toList c.toNat.toUInt8)) ∧ w' = w:=Any.strings_IndexByte Tryz.lays137 s c w
def Tryz.lays215_ren:Go.Shelf.Ren:=⟨fun | 215=>109 | n=>n,fun | 3=>3 | 4=>4 | n=>n,fun | n=>n⟩
theorem Tryz.lays215:Go.Proofs.Lays.n215 Tryz.prog Tryz.lays215_ren:={
 mixed:=by kernel_rfl
 f215:=Tryz.func109.trans (congrArg some (by kernel_rfl))
 t3:=Tryz.underlying3
 a3:=Tryz.isAgg3
 z3:=Tryz.sizeOf3
 v3:=Tryz.zeroValue3
 t4:=Tryz.underlying4
 a4:=Tryz.isAgg4
 z4:=Tryz.sizeOf4
 v4:=Tryz.zeroValue4 }
open Go.RowKit in
theorem Tryz.cmp_isNaN_int (x:Int) (w:World) :
  Calls Tryz.prog 109 #[.int .i64 x] w fun e w'=>e = .returned (.bool false) ∧ w' = w:=Any.cmp_isNaN_int Tryz.lays215 x w
def Tryz.lays122_ren:Go.Shelf.Ren:=⟨fun | 122=>77 | 215=>109 | n=>n,fun | 3=>3 | 4=>4 | n=>n,fun | n=>n⟩
theorem Tryz.lays122:Go.Proofs.Lays.n122 Tryz.prog Tryz.lays122_ren:={
 mixed:=by kernel_rfl
 f122:=Tryz.func77.trans (congrArg some (by kernel_rfl))
 f215:=Tryz.func109.trans (congrArg some (by kernel_rfl))
 t3:=Tryz.underlying3
 a3:=Tryz.isAgg3
 z3:=Tryz.sizeOf3
 v3:=Tryz.zeroValue3
 t4:=Tryz.underlying4
 a4:=Tryz.isAgg4
 z4:=Tryz.sizeOf4
 v4:=Tryz.zeroValue4 }
open Go.RowKit in
theorem Tryz.cmp_Compare_int (x y:Int) (w:World) :
  Calls Tryz.prog 77 #[.int .i64 x,.int .i64 y] w fun e w'=>e = .returned (.int .i64 (Lib.compareInt x y)) ∧ w' = w:=Any.cmp_Compare_int Tryz.lays122 x y w
def Tryz.lays129_ren:Go.Shelf.Ren:=⟨fun | 129=>107 | n=>n,fun | 53=>147 | 3=>3 | 4=>4 | 46=>117 | 5=>5 | 9=>9 | n=>n,fun | n=>n⟩
theorem Tryz.lays129:Go.Proofs.Lays.n129 Tryz.prog Tryz.lays129_ren:={
 mixed:=by kernel_rfl
 f129:=Tryz.func107.trans (congrArg some (by kernel_rfl))
 t3:=Tryz.underlying3
 a3:=Tryz.isAgg3
 z3:=Tryz.sizeOf3
 v3:=Tryz.zeroValue3
 t4:=Tryz.underlying4
 a4:=Tryz.isAgg4
 z4:=Tryz.sizeOf4
 v4:=Tryz.zeroValue4
 t5:=Tryz.underlying5
 a5:=Tryz.isAgg5
 z5:=Tryz.sizeOf5
 v5:=Tryz.zeroValue5
 t9:=Tryz.underlying9
 a9:=Tryz.isAgg9
 z9:=Tryz.sizeOf9
 v9:=Tryz.zeroValue9
 t46:=Tryz.underlying117
 a46:=Tryz.isAgg117
 z46:=Tryz.sizeOf117
 v46:=Tryz.zeroValue117
 t53:=Tryz.underlying147
 a53:=Tryz.isAgg147
 z53:=Tryz.sizeOf147
 v53:=Tryz.zeroValue147 }
theorem Tryz.bits_Len64 (x:Int) (w:World) (h0:0 ≤ x) (h1:x ≤ 18446744073709551615) :
  Calls Tryz.prog 107 #[.int .u64 x] w fun e w'=>e = .returned (.int .i64 (Lib.bitLen x.toNat)) ∧ w' = w:=Any.bits_Len64 Tryz.lays129 x w h0 h1
def Tryz.lays317_ren:Go.Shelf.Ren:=⟨fun | 317=>161 | n=>n,fun | 3=>3 | 46=>117 | n=>n,fun | n=>n⟩
theorem Tryz.lays317:Go.Proofs.Lays.n317 Tryz.prog Tryz.lays317_ren:={
 mixed:=by kernel_rfl
 f317:=Tryz.func161.trans (congrArg some (by kernel_rfl))
 t3:=Tryz.underlying3
 a3:=Tryz.isAgg3
 z3:=Tryz.sizeOf3
 v3:=Tryz.zeroValue3
 t46:=Tryz.underlying117
 a46:=Tryz.isAgg117
 z46:=Tryz.sizeOf117
 v46:=Tryz.zeroValue117 }
open Go.Lib in
theorem Tryz.internal_strconv_log10Pow2 (x:Nat) (h:x ≤ 64) (w:World) :
  Calls Tryz.prog 161 #[.int .i64 x] w fun e w'=>e = .returned (.int .i64 (Lib.l10 x)) ∧ w' = w:=Any.internal_strconv_log10Pow2 Tryz.lays317 x h w
def Tryz.lays318_ren:Go.Shelf.Ren:=⟨fun | 318=>162 | n=>n,fun | 3=>3 | 4=>4 | n=>n,fun | n=>n⟩
theorem Tryz.lays318:Go.Proofs.Lays.n318 Tryz.prog Tryz.lays318_ren:={
 mixed:=by kernel_rfl
 f318:=Tryz.func162.trans (congrArg some (by kernel_rfl))
 t3:=Tryz.underlying3
 a3:=Tryz.isAgg3
 z3:=Tryz.sizeOf3
 v3:=Tryz.zeroValue3
 t4:=Tryz.underlying4
 a4:=Tryz.isAgg4
 z4:=Tryz.sizeOf4
 v4:=Tryz.zeroValue4 }
open Go.Lib in
theorem Tryz.internal_strconv_bool2_int (b:Bool) (w:World) :
  Calls Tryz.prog 162 #[.bool b] w fun e w'=>e = .returned (.int .i64 (if b then 1 else 0)) ∧ w' = w:=Any.internal_strconv_bool2_int Tryz.lays318 b w
def Tryz.lays283_ren:Go.Shelf.Ren:=⟨fun | 283=>147 | n=>n,fun | 3=>3 | 9=>9 | 4=>4 | n=>n,fun | n=>n⟩
theorem Tryz.lays283:Go.Proofs.Lays.n283 Tryz.prog Tryz.lays283_ren:={
 mixed:=by kernel_rfl
 f283:=Tryz.func147.trans (congrArg some (by kernel_rfl))
 t3:=Tryz.underlying3
 a3:=Tryz.isAgg3
 z3:=Tryz.sizeOf3
 v3:=Tryz.zeroValue3
 t4:=Tryz.underlying4
 a4:=Tryz.isAgg4
 z4:=Tryz.sizeOf4
 v4:=Tryz.zeroValue4
 t9:=Tryz.underlying9
 a9:=Tryz.isAgg9
 z9:=Tryz.sizeOf9
 v9:=Tryz.zeroValue9 }
open Go.Lib in
theorem Tryz.internal_strconv_small (i:Nat) (h:i < 100) (w:World) :
  Calls Tryz.prog 147 #[.int .i64 i] w fun e w'=>e = .returned (.string ⟨(Lib.decDigits i).toArray⟩) ∧ w' = w:=Any.internal_strconv_small Tryz.lays283 i h w
def Tryz.laysM284_ren:Go.Shelf.Ren:=⟨fun | 284=>148 | 129=>107 | 317=>161 | 318=>162 | n=>n,fun | 53=>147 | 3=>3 | 212=>193 | 0=>0 | 4=>4 | 46=>117 | 5=>5 | 9=>9 | n=>n,fun | 17=>1 | n=>n⟩
theorem Tryz.laysM284:Go.Proofs.LaysM.n284 Tryz.prog Tryz.laysM284_ren:={
 mixed:=by kernel_rfl
 f129:=Tryz.func107.trans (congrArg some (by kernel_rfl))
 f284:=Tryz.func148.trans (congrArg some (by kernel_rfl))
 f317:=Tryz.func161.trans (congrArg some (by kernel_rfl))
 f318:=Tryz.func162.trans (congrArg some (by kernel_rfl))
 t0:=Tryz.underlying0
 a0:=Tryz.isAgg0
 z0:=Tryz.sizeOf0
 v0:=Tryz.zeroValue0
 t3:=Tryz.underlying3
 a3:=Tryz.isAgg3
 z3:=Tryz.sizeOf3
 v3:=Tryz.zeroValue3
 t4:=Tryz.underlying4
 a4:=Tryz.isAgg4
 z4:=Tryz.sizeOf4
 v4:=Tryz.zeroValue4
 t5:=Tryz.underlying5
 a5:=Tryz.isAgg5
 z5:=Tryz.sizeOf5
 v5:=Tryz.zeroValue5
 t9:=Tryz.underlying9
 a9:=Tryz.isAgg9
 z9:=Tryz.sizeOf9
 v9:=Tryz.zeroValue9
 t46:=Tryz.underlying117
 a46:=Tryz.isAgg117
 z46:=Tryz.sizeOf117
 v46:=Tryz.zeroValue117
 t53:=Tryz.underlying147
 a53:=Tryz.isAgg147
 z53:=Tryz.sizeOf147
 v53:=Tryz.zeroValue147
 t212:=Tryz.underlying193
 a212:=Tryz.isAgg193
 z212:=Tryz.sizeOf193
 v212:=Tryz.zeroValue193
 g17:=by kernel_rfl
 i0:=by kernel_rfl
 i3:=by kernel_rfl
 i4:=by kernel_rfl
 i5:=by kernel_rfl
 i9:=by kernel_rfl
 i46:=by kernel_rfl
 i53:=by kernel_rfl
 i212:=by kernel_rfl
 m17:=by kernel_rfl }
open Go.Lib in
theorem Tryz.internal_strconv_numDigits (u : Nat) (h1 : 1 ≤ u) (h2 : u < 18446744073709551616) (w : World) (htab : Lib.TabIs Tryz.prog w "internal/strconv.uint64pow10" .u64 Lib.pow10Tab) :
  Calls Tryz.prog 148 #[.int .u64 u] w fun e w'=>e = .returned (.int .i64 (Lib.nDigits u)) ∧ w' = w:=Any.internal_strconv_numDigits Tryz.laysM284 u h1 h2 w htab
def Tryz.lays285_ren:Go.Shelf.Ren:=⟨fun | 285=>149 | n=>n,fun | 37=>129 | 53=>147 | 3=>3 | 4=>4 | 51=>145 | 9=>9 | 5=>5 | 0=>0 | n=>n,fun | n=>n⟩
theorem Tryz.lays285:Go.Proofs.Lays.n285 Tryz.prog Tryz.lays285_ren:={
 mixed:=by kernel_rfl
 f285:=Tryz.func149.trans (congrArg some (by kernel_rfl))
 t0:=Tryz.underlying0
 a0:=Tryz.isAgg0
 z0:=Tryz.sizeOf0
 v0:=Tryz.zeroValue0
 t3:=Tryz.underlying3
 a3:=Tryz.isAgg3
 z3:=Tryz.sizeOf3
 v3:=Tryz.zeroValue3
 t4:=Tryz.underlying4
 a4:=Tryz.isAgg4
 z4:=Tryz.sizeOf4
 v4:=Tryz.zeroValue4
 t5:=Tryz.underlying5
 a5:=Tryz.isAgg5
 z5:=Tryz.sizeOf5
 v5:=Tryz.zeroValue5
 t9:=Tryz.underlying9
 a9:=Tryz.isAgg9
 z9:=Tryz.sizeOf9
 v9:=Tryz.zeroValue9
 t37:=Tryz.underlying129
 a37:=Tryz.isAgg129
 z37:=Tryz.sizeOf129
 v37:=Tryz.zeroValue129
 t51:=Tryz.underlying145
 a51:=Tryz.isAgg145
 z51:=Tryz.sizeOf145
 v51:=Tryz.zeroValue145
 t53:=Tryz.underlying147
 a53:=Tryz.isAgg147
 z53:=Tryz.sizeOf147
 v53:=Tryz.zeroValue147 }
open Go.RowKit Go.Sort Go.Lib in
theorem Tryz.internal_strconv_formatBase10 (blk off cap:Nat) (u:Nat) (d:Array UInt8) (w:World) (hH:Holds (fun (b:UInt8)=>Value.int .u8 (b.toNat:Int)) w blk off d) (hu:u < 10 ^ d.size) (hu64:u < 18446744073709551616) (hsz:d.size < 4611686018427387904) :
  Calls Tryz.prog 149 #[.slice (some ⟨blk,off,none⟩) d.size cap,.int .u64 u] w fun e w' =>
   e = .returned (.tuple #[]) ∧ ∃ (n v':Nat) (dk:Array UInt8),w' = (putRow (fun (b:UInt8)=>Value.int .u8 (b.toNat:Int)) w blk off dk).drewN n ∧ FmtInv d.size u 0 v' dk:=Any.internal_strconv_formatBase10 Tryz.lays285 blk off cap u d w hH hu hu64 hsz
def Tryz.laysM246_ren:Go.Shelf.Ren:=⟨fun | 246=>122 | 283=>147 | 284=>148 | 285=>149 | 286=>150 | 129=>107 | 317=>161 | 318=>162 | 319=>163 | 320=>164 | 337=>165 | 338=>166 | n=>n,fun | 2=>2 | 3=>3 | 9=>9 | 4=>4 | 171=>177 | 0=>0 | 53=>147 | 37=>129 | 5=>5 | 173=>179 | 212=>193 | 51=>145 | 20=>20 | 213=>194 | 46=>117 | 232=>32 | 233=>199 | n=>n,fun | 17=>1 | 18=>4 | 19=>5 | n=>n⟩
theorem Tryz.laysM246:Go.Proofs.LaysM.n246 Tryz.prog Tryz.laysM246_ren:={
 mixed:=by kernel_rfl
 f129:=Tryz.func107.trans (congrArg some (by kernel_rfl))
 f246:=Tryz.func122.trans (congrArg some (by kernel_rfl))
 f283:=Tryz.func147.trans (congrArg some (by kernel_rfl))
 f284:=Tryz.func148.trans (congrArg some (by kernel_rfl))
 f285:=Tryz.func149.trans (congrArg some (by kernel_rfl))
 f286:=Tryz.func150.trans (congrArg some (by kernel_rfl))
 f317:=Tryz.func161.trans (congrArg some (by kernel_rfl))
 f318:=Tryz.func162.trans (congrArg some (by kernel_rfl))
 f319:=Tryz.func163.trans (congrArg some (by kernel_rfl))
 f320:=Tryz.func164.trans (congrArg some (by kernel_rfl))
 f337:=Tryz.func165.trans (congrArg some (by kernel_rfl))
 f338:=Tryz.func166.trans (congrArg some (by kernel_rfl))
 t0:=Tryz.underlying0
 a0:=Tryz.isAgg0
 z0:=Tryz.sizeOf0
 v0:=Tryz.zeroValue0
 t2:=Tryz.underlying2
 a2:=Tryz.isAgg2
 z2:=Tryz.sizeOf2
 v2:=Tryz.zeroValue2
 t3:=Tryz.underlying3
 a3:=Tryz.isAgg3
 z3:=Tryz.sizeOf3
 v3:=Tryz.zeroValue3
 t4:=Tryz.underlying4
 a4:=Tryz.isAgg4
 z4:=Tryz.sizeOf4
 v4:=Tryz.zeroValue4
 t5:=Tryz.underlying5
 a5:=Tryz.isAgg5
 z5:=Tryz.sizeOf5
 v5:=Tryz.zeroValue5
 t9:=Tryz.underlying9
 a9:=Tryz.isAgg9
 z9:=Tryz.sizeOf9
 v9:=Tryz.zeroValue9
 t20:=Tryz.underlying20
 a20:=Tryz.isAgg20
 z20:=Tryz.sizeOf20
 v20:=Tryz.zeroValue20
 t37:=Tryz.underlying129
 a37:=Tryz.isAgg129
 z37:=Tryz.sizeOf129
 v37:=Tryz.zeroValue129
 t46:=Tryz.underlying117
 a46:=Tryz.isAgg117
 z46:=Tryz.sizeOf117
 v46:=Tryz.zeroValue117
 t51:=Tryz.underlying145
 a51:=Tryz.isAgg145
 z51:=Tryz.sizeOf145
 v51:=Tryz.zeroValue145
 t53:=Tryz.underlying147
 a53:=Tryz.isAgg147
 z53:=Tryz.sizeOf147
 v53:=Tryz.zeroValue147
 t171:=Tryz.underlying177
 a171:=Tryz.isAgg177
 z171:=Tryz.sizeOf177
 v171:=Tryz.zeroValue177
 t173:=Tryz.underlying179
 a173:=Tryz.isAgg179
 z173:=Tryz.sizeOf179
 v173:=Tryz.zeroValue179
 t212:=Tryz.underlying193
 a212:=Tryz.isAgg193
 z212:=Tryz.sizeOf193
 v212:=Tryz.zeroValue193
 t213:=Tryz.underlying194
 a213:=Tryz.isAgg194
 z213:=Tryz.sizeOf194
 t232:=Tryz.underlying32
 a232:=Tryz.isAgg32
 z232:=Tryz.sizeOf32
 v232:=Tryz.zeroValue32
 t233:=Tryz.underlying199
 a233:=Tryz.isAgg199
 z233:=Tryz.sizeOf199
 v233:=Tryz.zeroValue199
 g17:=by kernel_rfl
 g18:=by kernel_rfl
 g19:=by kernel_rfl
 i0:=by kernel_rfl
 i2:=by kernel_rfl
 i3:=by kernel_rfl
 i4:=by kernel_rfl
 i5:=by kernel_rfl
 i9:=by kernel_rfl
 i20:=by kernel_rfl
 i37:=by kernel_rfl
 i46:=by kernel_rfl
 i51:=by kernel_rfl
 i53:=by kernel_rfl
 i171:=by kernel_rfl
 i173:=by kernel_rfl
 i212:=by kernel_rfl
 i232:=by kernel_rfl
 i233:=by kernel_rfl
 m17:=by kernel_rfl
 m18:=by kernel_rfl
 m19:=by kernel_rfl }
open Go.RowKit Go.Sort Go.Lib in
theorem Tryz.internal_strconv_FormatInt_10 (n : Int) (h0 : -9223372036854775808 ≤ n) (h1 : n ≤ 9223372036854775807) (w : World) (htab : Lib.TabIs Tryz.prog w "internal/strconv.uint64pow10" .u64 Lib.pow10Tab) :
  Calls Tryz.prog 122 #[.int .i64 n,.int .i64 10] w fun e w'=>e = .returned (.string ⟨(Lib.itoa n).toArray⟩) ∧ ∃ k os,w' = grow (w.drewN k) os:=Any.internal_strconv_FormatInt_10 Tryz.laysM246 n h0 h1 w htab
def Tryz.lays246_ren:Go.Shelf.Ren:=⟨fun | 246=>122 | 283=>147 | 284=>148 | 285=>149 | 286=>150 | 129=>107 | 317=>161 | 318=>162 | 319=>163 | 320=>164 | 337=>165 | 338=>166 | n=>n,fun | 2=>2 | 3=>3 | 9=>9 | 4=>4 | 171=>177 | 0=>0 | 53=>147 | 37=>129 | 5=>5 | 173=>179 | 212=>193 | 51=>145 | 20=>20 | 213=>194 | 46=>117 | 232=>32 | 233=>199 | n=>n,fun | 17=>1 | 18=>4 | 19=>5 | n=>n⟩
theorem Tryz.lays246:Go.Proofs.Lays.n246 Tryz.prog Tryz.lays246_ren:={
 mixed:=by kernel_rfl
 f129:=Tryz.func107.trans (congrArg some (by kernel_rfl))
 f246:=Tryz.func122.trans (congrArg some (by kernel_rfl))
 f283:=Tryz.func147.trans (congrArg some (by kernel_rfl))
 f284:=Tryz.func148.trans (congrArg some (by kernel_rfl))
 f285:=Tryz.func149.trans (congrArg some (by kernel_rfl))
 f286:=Tryz.func150.trans (congrArg some (by kernel_rfl))
 f317:=Tryz.func161.trans (congrArg some (by kernel_rfl))
 f318:=Tryz.func162.trans (congrArg some (by kernel_rfl))
 f319:=Tryz.func163.trans (congrArg some (by kernel_rfl))
 f320:=Tryz.func164.trans (congrArg some (by kernel_rfl))
 f337:=Tryz.func165.trans (congrArg some (by kernel_rfl))
 f338:=Tryz.func166.trans (congrArg some (by kernel_rfl))
 t0:=Tryz.underlying0
 a0:=Tryz.isAgg0
 z0:=Tryz.sizeOf0
 v0:=Tryz.zeroValue0
 t2:=Tryz.underlying2
 a2:=Tryz.isAgg2
 z2:=Tryz.sizeOf2
 v2:=Tryz.zeroValue2
 t3:=Tryz.underlying3
 a3:=Tryz.isAgg3
 z3:=Tryz.sizeOf3
 v3:=Tryz.zeroValue3
 t4:=Tryz.underlying4
 a4:=Tryz.isAgg4
 z4:=Tryz.sizeOf4
 v4:=Tryz.zeroValue4
 t5:=Tryz.underlying5
 a5:=Tryz.isAgg5
 z5:=Tryz.sizeOf5
 v5:=Tryz.zeroValue5
 t9:=Tryz.underlying9
 a9:=Tryz.isAgg9
 z9:=Tryz.sizeOf9
 v9:=Tryz.zeroValue9
 t20:=Tryz.underlying20
 a20:=Tryz.isAgg20
 z20:=Tryz.sizeOf20
 v20:=Tryz.zeroValue20
 t37:=Tryz.underlying129
 a37:=Tryz.isAgg129
 z37:=Tryz.sizeOf129
 v37:=Tryz.zeroValue129
 t46:=Tryz.underlying117
 a46:=Tryz.isAgg117
 z46:=Tryz.sizeOf117
 v46:=Tryz.zeroValue117
 t51:=Tryz.underlying145
 a51:=Tryz.isAgg145
 z51:=Tryz.sizeOf145
 v51:=Tryz.zeroValue145
 t53:=Tryz.underlying147
 a53:=Tryz.isAgg147
 z53:=Tryz.sizeOf147
 v53:=Tryz.zeroValue147
 t171:=Tryz.underlying177
 a171:=Tryz.isAgg177
 z171:=Tryz.sizeOf177
 v171:=Tryz.zeroValue177
 t173:=Tryz.underlying179
 a173:=Tryz.isAgg179
 z173:=Tryz.sizeOf179
 v173:=Tryz.zeroValue179
 t212:=Tryz.underlying193
 a212:=Tryz.isAgg193
 z212:=Tryz.sizeOf193
 v212:=Tryz.zeroValue193
 t213:=Tryz.underlying194
 a213:=Tryz.isAgg194
 z213:=Tryz.sizeOf194
 t232:=Tryz.underlying32
 a232:=Tryz.isAgg32
 z232:=Tryz.sizeOf32
 v232:=Tryz.zeroValue32
 t233:=Tryz.underlying199
 a233:=Tryz.isAgg199
 z233:=Tryz.sizeOf199
 v233:=Tryz.zeroValue199
 g17:=by kernel_rfl
 g18:=by kernel_rfl
 g19:=by kernel_rfl }
open Go.RowKit Go.Sort Go.Lib in
theorem Tryz.internal_strconv_FormatInt_10_small (i:Nat) (hi:i < 100) (w:World) :
  Calls Tryz.prog 122 #[.int .i64 i,.int .i64 10] w fun e w'=>e = .returned (.string ⟨(Lib.decDigits i).toArray⟩) ∧ w' = w:=Any.internal_strconv_FormatInt_10_small Tryz.lays246 i hi w
def Tryz.laysM243_ren:Go.Shelf.Ren:=⟨fun | 243=>123 | 246=>122 | 283=>147 | 284=>148 | 285=>149 | 286=>150 | 129=>107 | 317=>161 | 318=>162 | 319=>163 | 320=>164 | 337=>165 | 338=>166 | n=>n,fun | 3=>3 | 9=>9 | 2=>2 | 4=>4 | 171=>177 | 0=>0 | 53=>147 | 37=>129 | 5=>5 | 173=>179 | 212=>193 | 51=>145 | 20=>20 | 213=>194 | 46=>117 | 232=>32 | 233=>199 | n=>n,fun | 17=>1 | 18=>4 | 19=>5 | n=>n⟩
theorem Tryz.laysM243:Go.Proofs.LaysM.n243 Tryz.prog Tryz.laysM243_ren:={
 mixed:=by kernel_rfl
 f129:=Tryz.func107.trans (congrArg some (by kernel_rfl))
 f243:=Tryz.func123.trans (congrArg some (by kernel_rfl))
 f246:=Tryz.func122.trans (congrArg some (by kernel_rfl))
 f283:=Tryz.func147.trans (congrArg some (by kernel_rfl))
 f284:=Tryz.func148.trans (congrArg some (by kernel_rfl))
 f285:=Tryz.func149.trans (congrArg some (by kernel_rfl))
 f286:=Tryz.func150.trans (congrArg some (by kernel_rfl))
 f317:=Tryz.func161.trans (congrArg some (by kernel_rfl))
 f318:=Tryz.func162.trans (congrArg some (by kernel_rfl))
 f319:=Tryz.func163.trans (congrArg some (by kernel_rfl))
 f320:=Tryz.func164.trans (congrArg some (by kernel_rfl))
 f337:=Tryz.func165.trans (congrArg some (by kernel_rfl))
 f338:=Tryz.func166.trans (congrArg some (by kernel_rfl))
 t0:=Tryz.underlying0
 a0:=Tryz.isAgg0
 z0:=Tryz.sizeOf0
 v0:=Tryz.zeroValue0
 t2:=Tryz.underlying2
 a2:=Tryz.isAgg2
 z2:=Tryz.sizeOf2
 v2:=Tryz.zeroValue2
 t3:=Tryz.underlying3
 a3:=Tryz.isAgg3
 z3:=Tryz.sizeOf3
 v3:=Tryz.zeroValue3
 t4:=Tryz.underlying4
 a4:=Tryz.isAgg4
 z4:=Tryz.sizeOf4
 v4:=Tryz.zeroValue4
 t5:=Tryz.underlying5
 a5:=Tryz.isAgg5
 z5:=Tryz.sizeOf5
 v5:=Tryz.zeroValue5
 t9:=Tryz.underlying9
 a9:=Tryz.isAgg9
 z9:=Tryz.sizeOf9
 v9:=Tryz.zeroValue9
 t20:=Tryz.underlying20
 a20:=Tryz.isAgg20
 z20:=Tryz.sizeOf20
 v20:=Tryz.zeroValue20
 t37:=Tryz.underlying129
 a37:=Tryz.isAgg129
 z37:=Tryz.sizeOf129
 v37:=Tryz.zeroValue129
 t46:=Tryz.underlying117
 a46:=Tryz.isAgg117
 z46:=Tryz.sizeOf117
 v46:=Tryz.zeroValue117
 t51:=Tryz.underlying145
 a51:=Tryz.isAgg145
 z51:=Tryz.sizeOf145
 v51:=Tryz.zeroValue145
 t53:=Tryz.underlying147
 a53:=Tryz.isAgg147
 z53:=Tryz.sizeOf147
 v53:=Tryz.zeroValue147
 t171:=Tryz.underlying177
 a171:=Tryz.isAgg177
 z171:=Tryz.sizeOf177
 v171:=Tryz.zeroValue177
 t173:=Tryz.underlying179
 a173:=Tryz.isAgg179
 z173:=Tryz.sizeOf179
 v173:=Tryz.zeroValue179
 t212:=Tryz.underlying193
 a212:=Tryz.isAgg193
 z212:=Tryz.sizeOf193
 v212:=Tryz.zeroValue193
 t213:=Tryz.underlying194
 a213:=Tryz.isAgg194
 z213:=Tryz.sizeOf194
 t232:=Tryz.underlying32
 a232:=Tryz.isAgg32
 z232:=Tryz.sizeOf32
 v232:=Tryz.zeroValue32
 t233:=Tryz.underlying199
 a233:=Tryz.isAgg199
 z233:=Tryz.sizeOf199
 v233:=Tryz.zeroValue199
 g17:=by kernel_rfl
 g18:=by kernel_rfl
 g19:=by kernel_rfl
 i0:=by kernel_rfl
 i2:=by kernel_rfl
 i3:=by kernel_rfl
 i4:=by kernel_rfl
 i5:=by kernel_rfl
 i9:=by kernel_rfl
 i20:=by kernel_rfl
 i37:=by kernel_rfl
 i46:=by kernel_rfl
 i51:=by kernel_rfl
 i53:=by kernel_rfl
 i171:=by kernel_rfl
 i173:=by kernel_rfl
 i212:=by kernel_rfl
 i232:=by kernel_rfl
 i233:=by kernel_rfl
 m17:=by kernel_rfl
 m18:=by kernel_rfl
 m19:=by kernel_rfl }
open Go.RowKit Go.Sort Go.Lib in
theorem Tryz.internal_strconv_Itoa (n : Int) (h0 : -9223372036854775808 ≤ n) (h1 : n ≤ 9223372036854775807) (w : World) (htab : Lib.TabIs Tryz.prog w "internal/strconv.uint64pow10" .u64 Lib.pow10Tab) :
  Calls Tryz.prog 123 #[.int .i64 n] w fun e w'=>e = .returned (.string ⟨(Lib.itoa n).toArray⟩) ∧ ∃ k os,w' = grow (w.drewN k) os:=Any.internal_strconv_Itoa Tryz.laysM243 n h0 h1 w htab
def Tryz.lays243_ren:Go.Shelf.Ren:=⟨fun | 243=>123 | 246=>122 | 283=>147 | 284=>148 | 285=>149 | 286=>150 | 129=>107 | 317=>161 | 318=>162 | 319=>163 | 320=>164 | 337=>165 | 338=>166 | n=>n,fun | 3=>3 | 9=>9 | 2=>2 | 4=>4 | 171=>177 | 0=>0 | 53=>147 | 37=>129 | 5=>5 | 173=>179 | 212=>193 | 51=>145 | 20=>20 | 213=>194 | 46=>117 | 232=>32 | 233=>199 | n=>n,fun | 17=>1 | 18=>4 | 19=>5 | n=>n⟩
theorem Tryz.lays243:Go.Proofs.Lays.n243 Tryz.prog Tryz.lays243_ren:={
 mixed:=by kernel_rfl
 f129:=Tryz.func107.trans (congrArg some (by kernel_rfl))
 f243:=Tryz.func123.trans (congrArg some (by kernel_rfl))
 f246:=Tryz.func122.trans (congrArg some (by kernel_rfl))
 f283:=Tryz.func147.trans (congrArg some (by kernel_rfl))
 f284:=Tryz.func148.trans (congrArg some (by kernel_rfl))
 f285:=Tryz.func149.trans (congrArg some (by kernel_rfl))
 f286:=Tryz.func150.trans (congrArg some (by kernel_rfl))
 f317:=Tryz.func161.trans (congrArg some (by kernel_rfl))
 f318:=Tryz.func162.trans (congrArg some (by kernel_rfl))
 f319:=Tryz.func163.trans (congrArg some (by kernel_rfl))
 f320:=Tryz.func164.trans (congrArg some (by kernel_rfl))
 f337:=Tryz.func165.trans (congrArg some (by kernel_rfl))
 f338:=Tryz.func166.trans (congrArg some (by kernel_rfl))
 t0:=Tryz.underlying0
 a0:=Tryz.isAgg0
 z0:=Tryz.sizeOf0
 v0:=Tryz.zeroValue0
 t2:=Tryz.underlying2
 a2:=Tryz.isAgg2
 z2:=Tryz.sizeOf2
 v2:=Tryz.zeroValue2
 t3:=Tryz.underlying3
 a3:=Tryz.isAgg3
 z3:=Tryz.sizeOf3
 v3:=Tryz.zeroValue3
 t4:=Tryz.underlying4
 a4:=Tryz.isAgg4
 z4:=Tryz.sizeOf4
 v4:=Tryz.zeroValue4
 t5:=Tryz.underlying5
 a5:=Tryz.isAgg5
 z5:=Tryz.sizeOf5
 v5:=Tryz.zeroValue5
 t9:=Tryz.underlying9
 a9:=Tryz.isAgg9
 z9:=Tryz.sizeOf9
 v9:=Tryz.zeroValue9
 t20:=Tryz.underlying20
 a20:=Tryz.isAgg20
 z20:=Tryz.sizeOf20
 v20:=Tryz.zeroValue20
 t37:=Tryz.underlying129
 a37:=Tryz.isAgg129
 z37:=Tryz.sizeOf129
 v37:=Tryz.zeroValue129
 t46:=Tryz.underlying117
 a46:=Tryz.isAgg117
 z46:=Tryz.sizeOf117
 v46:=Tryz.zeroValue117
 t51:=Tryz.underlying145
 a51:=Tryz.isAgg145
 z51:=Tryz.sizeOf145
 v51:=Tryz.zeroValue145
 t53:=Tryz.underlying147
 a53:=Tryz.isAgg147
 z53:=Tryz.sizeOf147
 v53:=Tryz.zeroValue147
 t171:=Tryz.underlying177
 a171:=Tryz.isAgg177
 z171:=Tryz.sizeOf177
 v171:=Tryz.zeroValue177
 t173:=Tryz.underlying179
 a173:=Tryz.isAgg179
 z173:=Tryz.sizeOf179
 v173:=Tryz.zeroValue179
 t212:=Tryz.underlying193
 a212:=Tryz.isAgg193
 z212:=Tryz.sizeOf193
 v212:=Tryz.zeroValue193
 t213:=Tryz.underlying194
 a213:=Tryz.isAgg194
 z213:=Tryz.sizeOf194
 t232:=Tryz.underlying32
 a232:=Tryz.isAgg32
 z232:=Tryz.sizeOf32
 v232:=Tryz.zeroValue32
 t233:=Tryz.underlying199
 a233:=Tryz.isAgg199
 z233:=Tryz.sizeOf199
 v233:=Tryz.zeroValue199
 g17:=by kernel_rfl
 g18:=by kernel_rfl
 g19:=by kernel_rfl }
open Go.RowKit Go.Sort Go.Lib in
theorem Tryz.internal_strconv_Itoa_small (i:Nat) (hi:i < 100) (w:World) :
  Calls Tryz.prog 123 #[.int .i64 i] w fun e w'=>e = .returned (.string ⟨(Lib.decDigits i).toArray⟩) ∧ w' = w:=Any.internal_strconv_Itoa_small Tryz.lays243 i hi w
def Tryz.laysM171_ren:Go.Shelf.Ren:=⟨fun | 171=>97 | 243=>123 | 246=>122 | 283=>147 | 284=>148 | 285=>149 | 286=>150 | 129=>107 | 317=>161 | 318=>162 | 319=>163 | 320=>164 | 337=>165 | 338=>166 | n=>n,fun | 3=>3 | 9=>9 | 2=>2 | 4=>4 | 171=>177 | 0=>0 | 53=>147 | 37=>129 | 5=>5 | 173=>179 | 212=>193 | 51=>145 | 20=>20 | 213=>194 | 46=>117 | 232=>32 | 233=>199 | n=>n,fun | 17=>1 | 18=>4 | 19=>5 | n=>n⟩
theorem Tryz.laysM171:Go.Proofs.LaysM.n171 Tryz.prog Tryz.laysM171_ren:={
 mixed:=by kernel_rfl
 f129:=Tryz.func107.trans (congrArg some (by kernel_rfl))
 f171:=Tryz.func97.trans (congrArg some (by kernel_rfl))
 f243:=Tryz.func123.trans (congrArg some (by kernel_rfl))
 f246:=Tryz.func122.trans (congrArg some (by kernel_rfl))
 f283:=Tryz.func147.trans (congrArg some (by kernel_rfl))
 f284:=Tryz.func148.trans (congrArg some (by kernel_rfl))
 f285:=Tryz.func149.trans (congrArg some (by kernel_rfl))
 f286:=Tryz.func150.trans (congrArg some (by kernel_rfl))
 f317:=Tryz.func161.trans (congrArg some (by kernel_rfl))
 f318:=Tryz.func162.trans (congrArg some (by kernel_rfl))
 f319:=Tryz.func163.trans (congrArg some (by kernel_rfl))
 f320:=Tryz.func164.trans (congrArg some (by kernel_rfl))
 f337:=Tryz.func165.trans (congrArg some (by kernel_rfl))
 f338:=Tryz.func166.trans (congrArg some (by kernel_rfl))
 t0:=Tryz.underlying0
 a0:=Tryz.isAgg0
 z0:=Tryz.sizeOf0
 v0:=Tryz.zeroValue0
 t2:=Tryz.underlying2
 a2:=Tryz.isAgg2
 z2:=Tryz.sizeOf2
 v2:=Tryz.zeroValue2
 t3:=Tryz.underlying3
 a3:=Tryz.isAgg3
 z3:=Tryz.sizeOf3
 v3:=Tryz.zeroValue3
 t4:=Tryz.underlying4
 a4:=Tryz.isAgg4
 z4:=Tryz.sizeOf4
 v4:=Tryz.zeroValue4
 t5:=Tryz.underlying5
 a5:=Tryz.isAgg5
 z5:=Tryz.sizeOf5
 v5:=Tryz.zeroValue5
 t9:=Tryz.underlying9
 a9:=Tryz.isAgg9
 z9:=Tryz.sizeOf9
 v9:=Tryz.zeroValue9
 t20:=Tryz.underlying20
 a20:=Tryz.isAgg20
 z20:=Tryz.sizeOf20
 v20:=Tryz.zeroValue20
 t37:=Tryz.underlying129
 a37:=Tryz.isAgg129
 z37:=Tryz.sizeOf129
 v37:=Tryz.zeroValue129
 t46:=Tryz.underlying117
 a46:=Tryz.isAgg117
 z46:=Tryz.sizeOf117
 v46:=Tryz.zeroValue117
 t51:=Tryz.underlying145
 a51:=Tryz.isAgg145
 z51:=Tryz.sizeOf145
 v51:=Tryz.zeroValue145
 t53:=Tryz.underlying147
 a53:=Tryz.isAgg147
 z53:=Tryz.sizeOf147
 v53:=Tryz.zeroValue147
 t171:=Tryz.underlying177
 a171:=Tryz.isAgg177
 z171:=Tryz.sizeOf177
 v171:=Tryz.zeroValue177
 t173:=Tryz.underlying179
 a173:=Tryz.isAgg179
 z173:=Tryz.sizeOf179
 v173:=Tryz.zeroValue179
 t212:=Tryz.underlying193
 a212:=Tryz.isAgg193
 z212:=Tryz.sizeOf193
 v212:=Tryz.zeroValue193
 t213:=Tryz.underlying194
 a213:=Tryz.isAgg194
 z213:=Tryz.sizeOf194
 t232:=Tryz.underlying32
 a232:=Tryz.isAgg32
 z232:=Tryz.sizeOf32
 v232:=Tryz.zeroValue32
 t233:=Tryz.underlying199
 a233:=Tryz.isAgg199
 z233:=Tryz.sizeOf199
 v233:=Tryz.zeroValue199
 g17:=by kernel_rfl
 g18:=by kernel_rfl
 g19:=by kernel_rfl
 i0:=by kernel_rfl
 i2:=by kernel_rfl
 i3:=by kernel_rfl
 i4:=by kernel_rfl
 i5:=by kernel_rfl
 i9:=by kernel_rfl
 i20:=by kernel_rfl
 i37:=by kernel_rfl
 i46:=by kernel_rfl
 i51:=by kernel_rfl
 i53:=by kernel_rfl
 i171:=by kernel_rfl
 i173:=by kernel_rfl
 i212:=by kernel_rfl
 i232:=by kernel_rfl
 i233:=by kernel_rfl
 m17:=by kernel_rfl
 m18:=by kernel_rfl
 m19:=by kernel_rfl }
open Go.RowKit Go.Sort Go.Lib in
theorem Tryz.strconv_Itoa (n : Int) (h0 : -9223372036854775808 ≤ n) (h1 : n ≤ 9223372036854775807) (w : World) (htab : Lib.TabIs Tryz.prog w "internal/strconv.uint64pow10" .u64 Lib.pow10Tab) :
  Calls Tryz.prog 97 #[.int .i64 n] w fun e w'=>e = .returned (.string ⟨(Lib.itoa n).toArray⟩) ∧ ∃ k os,w' = grow (w.drewN k) os:=Any.strconv_Itoa Tryz.laysM171 n h0 h1 w htab
def Tryz.lays171_ren:Go.Shelf.Ren:=⟨fun | 171=>97 | 243=>123 | 246=>122 | 283=>147 | 284=>148 | 285=>149 | 286=>150 | 129=>107 | 317=>161 | 318=>162 | 319=>163 | 320=>164 | 337=>165 | 338=>166 | n=>n,fun | 3=>3 | 9=>9 | 2=>2 | 4=>4 | 171=>177 | 0=>0 | 53=>147 | 37=>129 | 5=>5 | 173=>179 | 212=>193 | 51=>145 | 20=>20 | 213=>194 | 46=>117 | 232=>32 | 233=>199 | n=>n,fun | 17=>1 | 18=>4 | 19=>5 | n=>n⟩
theorem Tryz.lays171:Go.Proofs.Lays.n171 Tryz.prog Tryz.lays171_ren:={
 mixed:=by kernel_rfl
 f129:=Tryz.func107.trans (congrArg some (by kernel_rfl))
 f171:=Tryz.func97.trans (congrArg some (by kernel_rfl))
 f243:=Tryz.func123.trans (congrArg some (by kernel_rfl))
 f246:=Tryz.func122.trans (congrArg some (by kernel_rfl))
 f283:=Tryz.func147.trans (congrArg some (by kernel_rfl))
 f284:=Tryz.func148.trans (congrArg some (by kernel_rfl))
 f285:=Tryz.func149.trans (congrArg some (by kernel_rfl))
 f286:=Tryz.func150.trans (congrArg some (by kernel_rfl))
 f317:=Tryz.func161.trans (congrArg some (by kernel_rfl))
 f318:=Tryz.func162.trans (congrArg some (by kernel_rfl))
 f319:=Tryz.func163.trans (congrArg some (by kernel_rfl))
 f320:=Tryz.func164.trans (congrArg some (by kernel_rfl))
 f337:=Tryz.func165.trans (congrArg some (by kernel_rfl))
 f338:=Tryz.func166.trans (congrArg some (by kernel_rfl))
 t0:=Tryz.underlying0
 a0:=Tryz.isAgg0
 z0:=Tryz.sizeOf0
 v0:=Tryz.zeroValue0
 t2:=Tryz.underlying2
 a2:=Tryz.isAgg2
 z2:=Tryz.sizeOf2
 v2:=Tryz.zeroValue2
 t3:=Tryz.underlying3
 a3:=Tryz.isAgg3
 z3:=Tryz.sizeOf3
 v3:=Tryz.zeroValue3
 t4:=Tryz.underlying4
 a4:=Tryz.isAgg4
 z4:=Tryz.sizeOf4
 v4:=Tryz.zeroValue4
 t5:=Tryz.underlying5
 a5:=Tryz.isAgg5
 z5:=Tryz.sizeOf5
 v5:=Tryz.zeroValue5
 t9:=Tryz.underlying9
 a9:=Tryz.isAgg9
 z9:=Tryz.sizeOf9
 v9:=Tryz.zeroValue9
 t20:=Tryz.underlying20
 a20:=Tryz.isAgg20
 z20:=Tryz.sizeOf20
 v20:=Tryz.zeroValue20
 t37:=Tryz.underlying129
 a37:=Tryz.isAgg129
 z37:=Tryz.sizeOf129
 v37:=Tryz.zeroValue129
 t46:=Tryz.underlying117
 a46:=Tryz.isAgg117
 z46:=Tryz.sizeOf117
 v46:=Tryz.zeroValue117
 t51:=Tryz.underlying145
 a51:=Tryz.isAgg145
 z51:=Tryz.sizeOf145
 v51:=Tryz.zeroValue145
 t53:=Tryz.underlying147
 a53:=Tryz.isAgg147
 z53:=Tryz.sizeOf147
 v53:=Tryz.zeroValue147
 t171:=Tryz.underlying177
 a171:=Tryz.isAgg177
 z171:=Tryz.sizeOf177
 v171:=Tryz.zeroValue177
 t173:=Tryz.underlying179
 a173:=Tryz.isAgg179
 z173:=Tryz.sizeOf179
 v173:=Tryz.zeroValue179
 t212:=Tryz.underlying193
 a212:=Tryz.isAgg193
 z212:=Tryz.sizeOf193
 v212:=Tryz.zeroValue193
 t213:=Tryz.underlying194
 a213:=Tryz.isAgg194
 z213:=Tryz.sizeOf194
 t232:=Tryz.underlying32
 a232:=Tryz.isAgg32
 z232:=Tryz.sizeOf32
 v232:=Tryz.zeroValue32
 t233:=Tryz.underlying199
 a233:=Tryz.isAgg199
 z233:=Tryz.sizeOf199
 v233:=Tryz.zeroValue199
 g17:=by kernel_rfl
 g18:=by kernel_rfl
 g19:=by kernel_rfl }
open Go.RowKit Go.Sort Go.Lib in
theorem Tryz.strconv_Itoa_small (i:Nat) (hi:i < 100) (w:World) :
  Calls Tryz.prog 97 #[.int .i64 i] w fun e w'=>e = .returned (.string ⟨(Lib.decDigits i).toArray⟩) ∧ w' = w:=Any.strconv_Itoa_small Tryz.lays171 i hi w
def Tryz.laysM173_ren:Go.Shelf.Ren:=⟨fun | 173=>96 | 246=>122 | 283=>147 | 284=>148 | 285=>149 | 286=>150 | 129=>107 | 317=>161 | 318=>162 | 319=>163 | 320=>164 | 337=>165 | 338=>166 | n=>n,fun | 2=>2 | 3=>3 | 9=>9 | 4=>4 | 171=>177 | 0=>0 | 53=>147 | 37=>129 | 5=>5 | 173=>179 | 212=>193 | 51=>145 | 20=>20 | 213=>194 | 46=>117 | 232=>32 | 233=>199 | n=>n,fun | 17=>1 | 18=>4 | 19=>5 | n=>n⟩
theorem Tryz.laysM173:Go.Proofs.LaysM.n173 Tryz.prog Tryz.laysM173_ren:={
 mixed:=by kernel_rfl
 f129:=Tryz.func107.trans (congrArg some (by kernel_rfl))
 f173:=Tryz.func96.trans (congrArg some (by kernel_rfl))
 f246:=Tryz.func122.trans (congrArg some (by kernel_rfl))
 f283:=Tryz.func147.trans (congrArg some (by kernel_rfl))
 f284:=Tryz.func148.trans (congrArg some (by kernel_rfl))
 f285:=Tryz.func149.trans (congrArg some (by kernel_rfl))
 f286:=Tryz.func150.trans (congrArg some (by kernel_rfl))
 f317:=Tryz.func161.trans (congrArg some (by kernel_rfl))
 f318:=Tryz.func162.trans (congrArg some (by kernel_rfl))
 f319:=Tryz.func163.trans (congrArg some (by kernel_rfl))
 f320:=Tryz.func164.trans (congrArg some (by kernel_rfl))
 f337:=Tryz.func165.trans (congrArg some (by kernel_rfl))
 f338:=Tryz.func166.trans (congrArg some (by kernel_rfl))
 t0:=Tryz.underlying0
 a0:=Tryz.isAgg0
 z0:=Tryz.sizeOf0
 v0:=Tryz.zeroValue0
 t2:=Tryz.underlying2
 a2:=Tryz.isAgg2
 z2:=Tryz.sizeOf2
 v2:=Tryz.zeroValue2
 t3:=Tryz.underlying3
 a3:=Tryz.isAgg3
 z3:=Tryz.sizeOf3
 v3:=Tryz.zeroValue3
 t4:=Tryz.underlying4
 a4:=Tryz.isAgg4
 z4:=Tryz.sizeOf4
 v4:=Tryz.zeroValue4
 t5:=Tryz.underlying5
 a5:=Tryz.isAgg5
 z5:=Tryz.sizeOf5
 v5:=Tryz.zeroValue5
 t9:=Tryz.underlying9
 a9:=Tryz.isAgg9
 z9:=Tryz.sizeOf9
 v9:=Tryz.zeroValue9
 t20:=Tryz.underlying20
 a20:=Tryz.isAgg20
 z20:=Tryz.sizeOf20
 v20:=Tryz.zeroValue20
 t37:=Tryz.underlying129
 a37:=Tryz.isAgg129
 z37:=Tryz.sizeOf129
 v37:=Tryz.zeroValue129
 t46:=Tryz.underlying117
 a46:=Tryz.isAgg117
 z46:=Tryz.sizeOf117
 v46:=Tryz.zeroValue117
 t51:=Tryz.underlying145
 a51:=Tryz.isAgg145
 z51:=Tryz.sizeOf145
 v51:=Tryz.zeroValue145
 t53:=Tryz.underlying147
 a53:=Tryz.isAgg147
 z53:=Tryz.sizeOf147
 v53:=Tryz.zeroValue147
 t171:=Tryz.underlying177
 a171:=Tryz.isAgg177
 z171:=Tryz.sizeOf177
 v171:=Tryz.zeroValue177
 t173:=Tryz.underlying179
 a173:=Tryz.isAgg179
 z173:=Tryz.sizeOf179
 v173:=Tryz.zeroValue179
 t212:=Tryz.underlying193
 a212:=Tryz.isAgg193
 z212:=Tryz.sizeOf193
 v212:=Tryz.zeroValue193
 t213:=Tryz.underlying194
 a213:=Tryz.isAgg194
 z213:=Tryz.sizeOf194
 t232:=Tryz.underlying32
 a232:=Tryz.isAgg32
 z232:=Tryz.sizeOf32
 v232:=Tryz.zeroValue32
 t233:=Tryz.underlying199
 a233:=Tryz.isAgg199
 z233:=Tryz.sizeOf199
 v233:=Tryz.zeroValue199
 g17:=by kernel_rfl
 g18:=by kernel_rfl
 g19:=by kernel_rfl
 i0:=by kernel_rfl
 i2:=by kernel_rfl
 i3:=by kernel_rfl
 i4:=by kernel_rfl
 i5:=by kernel_rfl
 i9:=by kernel_rfl
 i20:=by kernel_rfl
 i37:=by kernel_rfl
 i46:=by kernel_rfl
 i51:=by kernel_rfl
 i53:=by kernel_rfl
 i171:=by kernel_rfl
 i173:=by kernel_rfl
 i212:=by kernel_rfl
 i232:=by kernel_rfl
 i233:=by kernel_rfl
 m17:=by kernel_rfl
 m18:=by kernel_rfl
 m19:=by kernel_rfl }
open Go.RowKit Go.Sort Go.Lib in
theorem Tryz.strconv_FormatInt_10 (n : Int) (h0 : -9223372036854775808 ≤ n) (h1 : n ≤ 9223372036854775807) (w : World) (htab : Lib.TabIs Tryz.prog w "internal/strconv.uint64pow10" .u64 Lib.pow10Tab) :
  Calls Tryz.prog 96 #[.int .i64 n,.int .i64 10] w fun e w'=>e = .returned (.string ⟨(Lib.itoa n).toArray⟩) ∧ ∃ k os,w' = grow (w.drewN k) os:=Any.strconv_FormatInt_10 Tryz.laysM173 n h0 h1 w htab
def Tryz.lays173_ren:Go.Shelf.Ren:=⟨fun | 173=>96 | 246=>122 | 283=>147 | 284=>148 | 285=>149 | 286=>150 | 129=>107 | 317=>161 | 318=>162 | 319=>163 | 320=>164 | 337=>165 | 338=>166 | n=>n,fun | 2=>2 | 3=>3 | 9=>9 | 4=>4 | 171=>177 | 0=>0 | 53=>147 | 37=>129 | 5=>5 | 173=>179 | 212=>193 | 51=>145 | 20=>20 | 213=>194 | 46=>117 | 232=>32 | 233=>199 | n=>n,fun | 17=>1 | 18=>4 | 19=>5 | n=>n⟩
theorem Tryz.lays173:Go.Proofs.Lays.n173 Tryz.prog Tryz.lays173_ren:={
 mixed:=by kernel_rfl
 f129:=Tryz.func107.trans (congrArg some (by kernel_rfl))
 f173:=Tryz.func96.trans (congrArg some (by kernel_rfl))
 f246:=Tryz.func122.trans (congrArg some (by kernel_rfl))
 f283:=Tryz.func147.trans (congrArg some (by kernel_rfl))
 f284:=Tryz.func148.trans (congrArg some (by kernel_rfl))
 f285:=Tryz.func149.trans (congrArg some (by kernel_rfl))
 f286:=Tryz.func150.trans (congrArg some (by kernel_rfl))
 f317:=Tryz.func161.trans (congrArg some (by kernel_rfl))
 f318:=Tryz.func162.trans (congrArg some (by kernel_rfl))
 f319:=Tryz.func163.trans (congrArg some (by kernel_rfl))
 f320:=Tryz.func164.trans (congrArg some (by kernel_rfl))
 f337:=Tryz.func165.trans (congrArg some (by kernel_rfl))
 f338:=Tryz.func166.trans (congrArg some (by kernel_rfl))
 t0:=Tryz.underlying0
 a0:=Tryz.isAgg0
 z0:=Tryz.sizeOf0
 v0:=Tryz.zeroValue0
 t2:=Tryz.underlying2
 a2:=Tryz.isAgg2
 z2:=Tryz.sizeOf2
 v2:=Tryz.zeroValue2
 t3:=Tryz.underlying3
 a3:=Tryz.isAgg3
 z3:=Tryz.sizeOf3
 v3:=Tryz.zeroValue3
 t4:=Tryz.underlying4
 a4:=Tryz.isAgg4
 z4:=Tryz.sizeOf4
 v4:=Tryz.zeroValue4
 t5:=Tryz.underlying5
 a5:=Tryz.isAgg5
 z5:=Tryz.sizeOf5
 v5:=Tryz.zeroValue5
 t9:=Tryz.underlying9
 a9:=Tryz.isAgg9
 z9:=Tryz.sizeOf9
 v9:=Tryz.zeroValue9
 t20:=Tryz.underlying20
 a20:=Tryz.isAgg20
 z20:=Tryz.sizeOf20
 v20:=Tryz.zeroValue20
 t37:=Tryz.underlying129
 a37:=Tryz.isAgg129
 z37:=Tryz.sizeOf129
 v37:=Tryz.zeroValue129
 t46:=Tryz.underlying117
 a46:=Tryz.isAgg117
 z46:=Tryz.sizeOf117
 v46:=Tryz.zeroValue117
 t51:=Tryz.underlying145
 a51:=Tryz.isAgg145
 z51:=Tryz.sizeOf145
 v51:=Tryz.zeroValue145
 t53:=Tryz.underlying147
 a53:=Tryz.isAgg147
 z53:=Tryz.sizeOf147
 v53:=Tryz.zeroValue147
 t171:=Tryz.underlying177
 a171:=Tryz.isAgg177
 z171:=Tryz.sizeOf177
 v171:=Tryz.zeroValue177
 t173:=Tryz.underlying179
 a173:=Tryz.isAgg179
 z173:=Tryz.sizeOf179
 v173:=Tryz.zeroValue179
 t212:=Tryz.underlying193
 a212:=Tryz.isAgg193
 z212:=Tryz.sizeOf193
 v212:=Tryz.zeroValue193
 t213:=Tryz.underlying194
 a213:=Tryz.isAgg194
 z213:=Tryz.sizeOf194
 t232:=Tryz.underlying32
 a232:=Tryz.isAgg32
 z232:=Tryz.sizeOf32
 v232:=Tryz.zeroValue32
 t233:=Tryz.underlying199
 a233:=Tryz.isAgg199
 z233:=Tryz.sizeOf199
 v233:=Tryz.zeroValue199
 g17:=by kernel_rfl
 g18:=by kernel_rfl
 g19:=by kernel_rfl }
open Go.RowKit Go.Sort Go.Lib in
theorem Tryz.strconv_FormatInt_10_small (i:Nat) (hi:i < 100) (w:World) :
  Calls Tryz.prog 96 #[.int .i64 i,.int .i64 10] w fun e w'=>e = .returned (.string ⟨(Lib.decDigits i).toArray⟩) ∧ w' = w:=Any.strconv_FormatInt_10_small Tryz.lays173 i hi w
def Tryz.lays217_ren:Go.Shelf.Ren:=⟨fun | 217=>129 | 266=>152 | n=>n,fun | 9=>9 | 5=>5 | 3=>3 | n=>n,fun | n=>n⟩
theorem Tryz.lays217:Go.Proofs.Lays.n217 Tryz.prog Tryz.lays217_ren:={
 mixed:=by kernel_rfl
 f217:=Tryz.func129.trans (congrArg some (by kernel_rfl))
 f266:=Tryz.func152.trans (congrArg some (by kernel_rfl))
 t3:=Tryz.underlying3
 a3:=Tryz.isAgg3
 z3:=Tryz.sizeOf3
 v3:=Tryz.zeroValue3
 t5:=Tryz.underlying5
 a5:=Tryz.isAgg5
 z5:=Tryz.sizeOf5
 v5:=Tryz.zeroValue5
 t9:=Tryz.underlying9
 a9:=Tryz.isAgg9
 z9:=Tryz.sizeOf9
 v9:=Tryz.zeroValue9 }
open Go.RowKit Go.Lib in
theorem Tryz.stringslite_IndexByte (s:ByteArray) (c:Int) (w:World) :
  Calls Tryz.prog 129 #[.string s,.int .u8 c] w fun e w'=>e = .returned (.int .i64 (Lib.indexByte s.data.toList c.toNat.toUInt8)) ∧ w' = w:=Any.stringslite_IndexByte Tryz.lays217 s c w
def Tryz.lays224_ren:Go.Shelf.Ren:=⟨fun | 224=>131 | n=>n,fun | 3=>3 | n=>n,fun | n=>n⟩
theorem Tryz.lays224:Go.Proofs.Lays.n224 Tryz.prog Tryz.lays224_ren:={
 mixed:=by kernel_rfl
 f224:=Tryz.func131.trans (congrArg some (by kernel_rfl))
 t3:=Tryz.underlying3
 a3:=Tryz.isAgg3
 z3:=Tryz.sizeOf3
 v3:=Tryz.zeroValue3 }
open Go.RowKit Go.Lib in
theorem Tryz.bytealg_Cutover (n:Int) (h0:0 ≤ n) (h1:n < 4611686018427387904) (w:World) :
  Calls Tryz.prog 131 #[.int .i64 n] w fun e w'=>e = .returned (.int .i64 ((n + 16) / 8)) ∧ w' = w:=Any.bytealg_Cutover Tryz.lays224 n h0 h1 w
def Tryz.lays314_ren:Go.Shelf.Ren:=⟨fun | 314=>153 | n=>n,fun | 9=>9 | 51=>145 | 3=>3 | 4=>4 | 5=>5 | 46=>117 | n=>n,fun | n=>n⟩
theorem Tryz.lays314:Go.Proofs.Lays.n314 Tryz.prog Tryz.lays314_ren:={
 mixed:=by kernel_rfl
 f314:=Tryz.func153.trans (congrArg some (by kernel_rfl))
 t3:=Tryz.underlying3
 a3:=Tryz.isAgg3
 z3:=Tryz.sizeOf3
 v3:=Tryz.zeroValue3
 t4:=Tryz.underlying4
 a4:=Tryz.isAgg4
 z4:=Tryz.sizeOf4
 v4:=Tryz.zeroValue4
 t5:=Tryz.underlying5
 a5:=Tryz.isAgg5
 z5:=Tryz.sizeOf5
 v5:=Tryz.zeroValue5
 t9:=Tryz.underlying9
 a9:=Tryz.isAgg9
 z9:=Tryz.sizeOf9
 v9:=Tryz.zeroValue9
 t46:=Tryz.underlying117
 a46:=Tryz.isAgg117
 z46:=Tryz.sizeOf117
 v46:=Tryz.zeroValue117
 t51:=Tryz.underlying145
 a51:=Tryz.isAgg145
 z51:=Tryz.sizeOf145
 v51:=Tryz.zeroValue145 }
open Go.RowKit Go.Lib in
theorem Tryz.bytealg_hashStr (sep:ByteArray) (hs:sep.size < 4294967281) (w:World) :
  Calls Tryz.prog 153 #[.string sep] w fun e w'=>e = .returned (.tuple #[.int .u32 (RK.H sep.data.toList % 4294967296),.int .u32 (16777619 ^ sep.size % 4294967296)]) ∧ w' = w:=Any.bytealg_hashStr Tryz.lays314 sep hs w
def Tryz.lays267_ren:Go.Shelf.Ren:=⟨fun | 267=>132 | 314=>153 | n=>n,fun | 9=>9 | 3=>3 | 146=>184 | 51=>145 | 4=>4 | 5=>5 | 46=>117 | n=>n,fun | n=>n⟩
theorem Tryz.lays267:Go.Proofs.Lays.n267 Tryz.prog Tryz.lays267_ren:={
 mixed:=by kernel_rfl
 f267:=Tryz.func132.trans (congrArg some (by kernel_rfl))
 f314:=Tryz.func153.trans (congrArg some (by kernel_rfl))
 t3:=Tryz.underlying3
 a3:=Tryz.isAgg3
 z3:=Tryz.sizeOf3
 v3:=Tryz.zeroValue3
 t4:=Tryz.underlying4
 a4:=Tryz.isAgg4
 z4:=Tryz.sizeOf4
 v4:=Tryz.zeroValue4
 t5:=Tryz.underlying5
 a5:=Tryz.isAgg5
 z5:=Tryz.sizeOf5
 v5:=Tryz.zeroValue5
 t9:=Tryz.underlying9
 a9:=Tryz.isAgg9
 z9:=Tryz.sizeOf9
 v9:=Tryz.zeroValue9
 t46:=Tryz.underlying117
 a46:=Tryz.isAgg117
 z46:=Tryz.sizeOf117
 v46:=Tryz.zeroValue117
 t51:=Tryz.underlying145
 a51:=Tryz.isAgg145
 z51:=Tryz.sizeOf145
 v51:=Tryz.zeroValue145
 t146:=Tryz.underlying184
 a146:=Tryz.isAgg184
 z146:=Tryz.sizeOf184
 v146:=Tryz.zeroValue184 }
open Go.RowKit Go.Lib in
theorem Tryz.bytealg_IndexRabinKarp (s sep:ByteArray) (h1:1 ≤ sep.size) (h2:sep.size ≤ s.size) (hs:s.size < 4294967281) (w:World) :
  Calls Tryz.prog 132 #[.string s,.string sep] w fun e w'=>e = .returned (.int .i64 (Lib.index s.data.toList sep.data.toList)) ∧ w' = w:=Any.bytealg_IndexRabinKarp Tryz.lays267 s sep h1 h2 hs w
def Tryz.lays219_ren:Go.Shelf.Ren:=⟨fun | 219=>111 | 217=>129 | 225=>130 | 224=>131 | 267=>132 | 266=>152 | 314=>153 | n=>n,fun | 9=>9 | 3=>3 | 4=>4 | 5=>5 | 46=>117 | 146=>184 | 51=>145 | n=>n,fun | 1=>0 | n=>n⟩
theorem Tryz.lays219:Go.Proofs.Lays.n219 Tryz.prog Tryz.lays219_ren:={
 mixed:=by kernel_rfl
 f217:=Tryz.func129.trans (congrArg some (by kernel_rfl))
 f219:=Tryz.func111.trans (congrArg some (by kernel_rfl))
 f224:=Tryz.func131.trans (congrArg some (by kernel_rfl))
 f225:=Tryz.func130.trans (congrArg some (by kernel_rfl))
 f266:=Tryz.func152.trans (congrArg some (by kernel_rfl))
 f267:=Tryz.func132.trans (congrArg some (by kernel_rfl))
 f314:=Tryz.func153.trans (congrArg some (by kernel_rfl))
 t3:=Tryz.underlying3
 a3:=Tryz.isAgg3
 z3:=Tryz.sizeOf3
 v3:=Tryz.zeroValue3
 t4:=Tryz.underlying4
 a4:=Tryz.isAgg4
 z4:=Tryz.sizeOf4
 v4:=Tryz.zeroValue4
 t5:=Tryz.underlying5
 a5:=Tryz.isAgg5
 z5:=Tryz.sizeOf5
 v5:=Tryz.zeroValue5
 t9:=Tryz.underlying9
 a9:=Tryz.isAgg9
 z9:=Tryz.sizeOf9
 v9:=Tryz.zeroValue9
 t46:=Tryz.underlying117
 a46:=Tryz.isAgg117
 z46:=Tryz.sizeOf117
 v46:=Tryz.zeroValue117
 t51:=Tryz.underlying145
 a51:=Tryz.isAgg145
 z51:=Tryz.sizeOf145
 v51:=Tryz.zeroValue145
 t146:=Tryz.underlying184
 a146:=Tryz.isAgg184
 z146:=Tryz.sizeOf184
 v146:=Tryz.zeroValue184
 g1:=by kernel_rfl }
open Go.RowKit Go.Lib in
theorem Tryz.stringslite_Index_one (s:ByteArray) (c:UInt8) (w:World) :
  Calls Tryz.prog 111 #[.string s,.string ⟨#[c]⟩] w fun e w'=>e = .returned (.int .i64 (Lib.indexByte s.data.toList c)) ∧ w' = w:=Any.stringslite_Index_one Tryz.lays219 s c w
open Go.RowKit Go.Lib in
theorem Tryz.stringslite_Index (s sub:ByteArray) (m:Int) (w:World) (hs:s.size < 4294967281) (hm:w.cell? ⟨0,0,none⟩ = some (.int .i64 m)) :
  Calls Tryz.prog 111 #[.string s,.string sub] w fun e w'=>e = .returned (.int .i64 (Lib.index s.data.toList sub.data.toList)) ∧ w' = w:=Any.stringslite_Index Tryz.lays219 s sub m w hs hm
def Tryz.lays143_ren:Go.Shelf.Ren:=⟨fun | 143=>80 | 219=>111 | 217=>129 | 225=>130 | 224=>131 | 267=>132 | 266=>152 | 314=>153 | n=>n,fun | 9=>9 | 3=>3 | 4=>4 | 5=>5 | 46=>117 | 146=>184 | 51=>145 | n=>n,fun | 1=>0 | n=>n⟩
theorem Tryz.lays143:Go.Proofs.Lays.n143 Tryz.prog Tryz.lays143_ren:={
 mixed:=by kernel_rfl
 f143:=Tryz.func80.trans (congrArg some (by kernel_rfl))
 f217:=Tryz.func129.trans (congrArg some (by kernel_rfl))
 f219:=Tryz.func111.trans (congrArg some (by kernel_rfl))
 f224:=Tryz.func131.trans (congrArg some (by kernel_rfl))
 f225:=Tryz.func130.trans (congrArg some (by kernel_rfl))
 f266:=Tryz.func152.trans (congrArg some (by kernel_rfl))
 f267:=Tryz.func132.trans (congrArg some (by kernel_rfl))
 f314:=Tryz.func153.trans (congrArg some (by kernel_rfl))
 t3:=Tryz.underlying3
 a3:=Tryz.isAgg3
 z3:=Tryz.sizeOf3
 v3:=Tryz.zeroValue3
 t4:=Tryz.underlying4
 a4:=Tryz.isAgg4
 z4:=Tryz.sizeOf4
 v4:=Tryz.zeroValue4
 t5:=Tryz.underlying5
 a5:=Tryz.isAgg5
 z5:=Tryz.sizeOf5
 v5:=Tryz.zeroValue5
 t9:=Tryz.underlying9
 a9:=Tryz.isAgg9
 z9:=Tryz.sizeOf9
 v9:=Tryz.zeroValue9
 t46:=Tryz.underlying117
 a46:=Tryz.isAgg117
 z46:=Tryz.sizeOf117
 v46:=Tryz.zeroValue117
 t51:=Tryz.underlying145
 a51:=Tryz.isAgg145
 z51:=Tryz.sizeOf145
 v51:=Tryz.zeroValue145
 t146:=Tryz.underlying184
 a146:=Tryz.isAgg184
 z146:=Tryz.sizeOf184
 v146:=Tryz.zeroValue184
 g1:=by kernel_rfl }
open Go.RowKit Go.Lib in
theorem Tryz.strings_Index_one (s:ByteArray) (c:UInt8) (w:World) :
  Calls Tryz.prog 80 #[.string s,.string ⟨#[c]⟩] w fun e w'=>e = .returned (.int .i64 (Lib.indexByte s.data.toList c)) ∧ w' = w:=Any.strings_Index_one Tryz.lays143 s c w
open Go.RowKit Go.Lib in
theorem Tryz.strings_Index (s sub:ByteArray) (m:Int) (w:World) (hs:s.size < 4294967281) (hm:w.cell? ⟨0,0,none⟩ = some (.int .i64 m)) :
  Calls Tryz.prog 80 #[.string s,.string sub] w fun e w'=>e = .returned (.int .i64 (Lib.index s.data.toList sub.data.toList)) ∧ w' = w:=Any.strings_Index Tryz.lays143 s sub m w hs hm
def Tryz.lays144_ren:Go.Shelf.Ren:=⟨fun | 144=>53 | 143=>80 | 219=>111 | 217=>129 | 225=>130 | 224=>131 | 267=>132 | 266=>152 | 314=>153 | n=>n,fun | 9=>9 | 4=>4 | 3=>3 | 5=>5 | 46=>117 | 146=>184 | 51=>145 | n=>n,fun | 1=>0 | n=>n⟩
theorem Tryz.lays144:Go.Proofs.Lays.n144 Tryz.prog Tryz.lays144_ren:={
 mixed:=by kernel_rfl
 f143:=Tryz.func80.trans (congrArg some (by kernel_rfl))
 f144:=Tryz.func53.trans (congrArg some (by kernel_rfl))
 f217:=Tryz.func129.trans (congrArg some (by kernel_rfl))
 f219:=Tryz.func111.trans (congrArg some (by kernel_rfl))
 f224:=Tryz.func131.trans (congrArg some (by kernel_rfl))
 f225:=Tryz.func130.trans (congrArg some (by kernel_rfl))
 f266:=Tryz.func152.trans (congrArg some (by kernel_rfl))
 f267:=Tryz.func132.trans (congrArg some (by kernel_rfl))
 f314:=Tryz.func153.trans (congrArg some (by kernel_rfl))
 t3:=Tryz.underlying3
 a3:=Tryz.isAgg3
 z3:=Tryz.sizeOf3
 v3:=Tryz.zeroValue3
 t4:=Tryz.underlying4
 a4:=Tryz.isAgg4
 z4:=Tryz.sizeOf4
 v4:=Tryz.zeroValue4
 t5:=Tryz.underlying5
 a5:=Tryz.isAgg5
 z5:=Tryz.sizeOf5
 v5:=Tryz.zeroValue5
 t9:=Tryz.underlying9
 a9:=Tryz.isAgg9
 z9:=Tryz.sizeOf9
 v9:=Tryz.zeroValue9
 t46:=Tryz.underlying117
 a46:=Tryz.isAgg117
 z46:=Tryz.sizeOf117
 v46:=Tryz.zeroValue117
 t51:=Tryz.underlying145
 a51:=Tryz.isAgg145
 z51:=Tryz.sizeOf145
 v51:=Tryz.zeroValue145
 t146:=Tryz.underlying184
 a146:=Tryz.isAgg184
 z146:=Tryz.sizeOf184
 v146:=Tryz.zeroValue184
 g1:=by kernel_rfl }
open Go.RowKit Go.Lib in
theorem Tryz.strings_Contains_one (s:ByteArray) (c:UInt8) (w:World) :
  Calls Tryz.prog 53 #[.string s,.string ⟨#[c]⟩] w fun e w'=>e = .returned (.bool (decide (0 ≤ Lib.indexByte s.data.toList c))) ∧ w' = w:=Any.strings_Contains_one Tryz.lays144 s c w
open Go.RowKit Go.Lib in
theorem Tryz.strings_Contains (s sub:ByteArray) (m:Int) (w:World) (hs:s.size < 4294967281) (hm:w.cell? ⟨0,0,none⟩ = some (.int .i64 m)) :
  Calls Tryz.prog 53 #[.string s,.string sub] w fun e w'=>e = .returned (.bool (Lib.contains s.data.toList sub.data.toList)) ∧ w' = w:=Any.strings_Contains Tryz.lays144 s sub m w hs hm
def Tryz.lays138_ren:Go.Shelf.Ren:=⟨fun | 138=>120 | 195=>140 | 218=>142 | 143=>80 | 219=>111 | 217=>129 | 225=>130 | 224=>131 | 267=>132 | 266=>152 | 314=>153 | n=>n,fun | 9=>9 | 3=>3 | 4=>4 | 5=>5 | 0=>0 | 46=>117 | 146=>184 | 51=>145 | n=>n,fun | 1=>0 | n=>n⟩
theorem Tryz.lays138:Go.Proofs.Lays.n138 Tryz.prog Tryz.lays138_ren:={
 mixed:=by kernel_rfl
 f138:=Tryz.func120.trans (congrArg some (by kernel_rfl))
 f143:=Tryz.func80.trans (congrArg some (by kernel_rfl))
 f195:=Tryz.func140.trans (congrArg some (by kernel_rfl))
 f217:=Tryz.func129.trans (congrArg some (by kernel_rfl))
 f218:=Tryz.func142.trans (congrArg some (by kernel_rfl))
 f219:=Tryz.func111.trans (congrArg some (by kernel_rfl))
 f224:=Tryz.func131.trans (congrArg some (by kernel_rfl))
 f225:=Tryz.func130.trans (congrArg some (by kernel_rfl))
 f266:=Tryz.func152.trans (congrArg some (by kernel_rfl))
 f267:=Tryz.func132.trans (congrArg some (by kernel_rfl))
 f314:=Tryz.func153.trans (congrArg some (by kernel_rfl))
 t0:=Tryz.underlying0
 a0:=Tryz.isAgg0
 z0:=Tryz.sizeOf0
 v0:=Tryz.zeroValue0
 t3:=Tryz.underlying3
 a3:=Tryz.isAgg3
 z3:=Tryz.sizeOf3
 v3:=Tryz.zeroValue3
 t4:=Tryz.underlying4
 a4:=Tryz.isAgg4
 z4:=Tryz.sizeOf4
 v4:=Tryz.zeroValue4
 t5:=Tryz.underlying5
 a5:=Tryz.isAgg5
 z5:=Tryz.sizeOf5
 v5:=Tryz.zeroValue5
 t9:=Tryz.underlying9
 a9:=Tryz.isAgg9
 z9:=Tryz.sizeOf9
 v9:=Tryz.zeroValue9
 t46:=Tryz.underlying117
 a46:=Tryz.isAgg117
 z46:=Tryz.sizeOf117
 v46:=Tryz.zeroValue117
 t51:=Tryz.underlying145
 a51:=Tryz.isAgg145
 z51:=Tryz.sizeOf145
 v51:=Tryz.zeroValue145
 t146:=Tryz.underlying184
 a146:=Tryz.isAgg184
 z146:=Tryz.sizeOf184
 v146:=Tryz.zeroValue184
 g1:=by kernel_rfl }
open Go.RowKit Go.Lib in
theorem Tryz.strings_Count_one (s:ByteArray) (c:UInt8) (w:World) :
  Calls Tryz.prog 120 #[.string s,.string ⟨#[c]⟩] w fun e w'=>e = .returned (.int .i64 (Lib.countByte s.data.toList c)) ∧ w' = w:=Any.strings_Count_one Tryz.lays138 s c w
open Go.RowKit Go.Lib in
theorem Tryz.strings_Count (s sub:ByteArray) (m:Int) (w:World) (hs:s.size < 4294967281) (hm:w.cell? ⟨0,0,none⟩ = some (.int .i64 m)) (h2:2 ≤ sub.size) :
  Calls Tryz.prog 120 #[.string s,.string sub] w fun e w'=>e = .returned (.int .i64 (Lib.countB s sub)) ∧ w' = w:=Any.strings_Count Tryz.lays138 s sub m w hs hm h2
def Tryz.laysM219_ren:Go.Shelf.Ren:=⟨fun | 219=>111 | 217=>129 | 225=>130 | 224=>131 | 267=>132 | 266=>152 | 314=>153 | n=>n,fun | 9=>9 | 3=>3 | 4=>4 | 5=>5 | 46=>117 | 146=>184 | 51=>145 | n=>n,fun | 1=>0 | n=>n⟩
theorem Tryz.laysM219:Go.Proofs.LaysM.n219 Tryz.prog Tryz.laysM219_ren:={
 mixed:=by kernel_rfl
 f217:=Tryz.func129.trans (congrArg some (by kernel_rfl))
 f219:=Tryz.func111.trans (congrArg some (by kernel_rfl))
 f224:=Tryz.func131.trans (congrArg some (by kernel_rfl))
 f225:=Tryz.func130.trans (congrArg some (by kernel_rfl))
 f266:=Tryz.func152.trans (congrArg some (by kernel_rfl))
 f267:=Tryz.func132.trans (congrArg some (by kernel_rfl))
 f314:=Tryz.func153.trans (congrArg some (by kernel_rfl))
 t3:=Tryz.underlying3
 a3:=Tryz.isAgg3
 z3:=Tryz.sizeOf3
 v3:=Tryz.zeroValue3
 t4:=Tryz.underlying4
 a4:=Tryz.isAgg4
 z4:=Tryz.sizeOf4
 v4:=Tryz.zeroValue4
 t5:=Tryz.underlying5
 a5:=Tryz.isAgg5
 z5:=Tryz.sizeOf5
 v5:=Tryz.zeroValue5
 t9:=Tryz.underlying9
 a9:=Tryz.isAgg9
 z9:=Tryz.sizeOf9
 v9:=Tryz.zeroValue9
 t46:=Tryz.underlying117
 a46:=Tryz.isAgg117
 z46:=Tryz.sizeOf117
 v46:=Tryz.zeroValue117
 t51:=Tryz.underlying145
 a51:=Tryz.isAgg145
 z51:=Tryz.sizeOf145
 v51:=Tryz.zeroValue145
 t146:=Tryz.underlying184
 a146:=Tryz.isAgg184
 z146:=Tryz.sizeOf184
 v146:=Tryz.zeroValue184
 g1:=by kernel_rfl
 i3:=by kernel_rfl
 i4:=by kernel_rfl
 i5:=by kernel_rfl
 i9:=by kernel_rfl
 i46:=by kernel_rfl
 i51:=by kernel_rfl
 i146:=by kernel_rfl
 m1:=by kernel_rfl
 s1_3:=fun w h=>Go.Proofs.cell_of_shapedOpen_int (zero:=#[.int .i64 0]) (t:=3) h (of_decide_eq_true (by kernel_rfl)) (by kernel_rfl) rfl (by kernel_rfl) (by kernel_rfl) Tryz.underlying3 }
open Go.RowKit Go.Lib in
theorem Tryz.stringslite_Index_shaped (s sub:ByteArray) (w:World) (h:w.ShapedOpen Tryz.prog) (hs:s.size < 4294967281) :
  Calls Tryz.prog 111 #[.string s,.string sub] w fun e w'=>e = .returned (.int .i64 (Lib.index s.data.toList sub.data.toList)) ∧ w' = w:=Any.stringslite_Index_shaped Tryz.laysM219 s sub w h hs
def Tryz.laysM143_ren:Go.Shelf.Ren:=⟨fun | 143=>80 | 219=>111 | 217=>129 | 225=>130 | 224=>131 | 267=>132 | 266=>152 | 314=>153 | n=>n,fun | 9=>9 | 3=>3 | 4=>4 | 5=>5 | 46=>117 | 146=>184 | 51=>145 | n=>n,fun | 1=>0 | n=>n⟩
theorem Tryz.laysM143:Go.Proofs.LaysM.n143 Tryz.prog Tryz.laysM143_ren:={
 mixed:=by kernel_rfl
 f143:=Tryz.func80.trans (congrArg some (by kernel_rfl))
 f217:=Tryz.func129.trans (congrArg some (by kernel_rfl))
 f219:=Tryz.func111.trans (congrArg some (by kernel_rfl))
 f224:=Tryz.func131.trans (congrArg some (by kernel_rfl))
 f225:=Tryz.func130.trans (congrArg some (by kernel_rfl))
 f266:=Tryz.func152.trans (congrArg some (by kernel_rfl))
 f267:=Tryz.func132.trans (congrArg some (by kernel_rfl))
 f314:=Tryz.func153.trans (congrArg some (by kernel_rfl))
 t3:=Tryz.underlying3
 a3:=Tryz.isAgg3
 z3:=Tryz.sizeOf3
 v3:=Tryz.zeroValue3
 t4:=Tryz.underlying4
 a4:=Tryz.isAgg4
 z4:=Tryz.sizeOf4
 v4:=Tryz.zeroValue4
 t5:=Tryz.underlying5
 a5:=Tryz.isAgg5
 z5:=Tryz.sizeOf5
 v5:=Tryz.zeroValue5
 t9:=Tryz.underlying9
 a9:=Tryz.isAgg9
 z9:=Tryz.sizeOf9
 v9:=Tryz.zeroValue9
 t46:=Tryz.underlying117
 a46:=Tryz.isAgg117
 z46:=Tryz.sizeOf117
 v46:=Tryz.zeroValue117
 t51:=Tryz.underlying145
 a51:=Tryz.isAgg145
 z51:=Tryz.sizeOf145
 v51:=Tryz.zeroValue145
 t146:=Tryz.underlying184
 a146:=Tryz.isAgg184
 z146:=Tryz.sizeOf184
 v146:=Tryz.zeroValue184
 g1:=by kernel_rfl
 i3:=by kernel_rfl
 i4:=by kernel_rfl
 i5:=by kernel_rfl
 i9:=by kernel_rfl
 i46:=by kernel_rfl
 i51:=by kernel_rfl
 i146:=by kernel_rfl
 m1:=by kernel_rfl
 s1_3:=fun w h=>Go.Proofs.cell_of_shapedOpen_int (zero:=#[.int .i64 0]) (t:=3) h (of_decide_eq_true (by kernel_rfl)) (by kernel_rfl) rfl (by kernel_rfl) (by kernel_rfl) Tryz.underlying3 }
open Go.RowKit Go.Lib in
theorem Tryz.strings_Index_shaped (s sub:ByteArray) (w:World) (h:w.ShapedOpen Tryz.prog) (hs:s.size < 4294967281) :
  Calls Tryz.prog 80 #[.string s,.string sub] w fun e w'=>e = .returned (.int .i64 (Lib.index s.data.toList sub.data.toList)) ∧ w' = w:=Any.strings_Index_shaped Tryz.laysM143 s sub w h hs
def Tryz.laysM144_ren:Go.Shelf.Ren:=⟨fun | 144=>53 | 143=>80 | 219=>111 | 217=>129 | 225=>130 | 224=>131 | 267=>132 | 266=>152 | 314=>153 | n=>n,fun | 9=>9 | 4=>4 | 3=>3 | 5=>5 | 46=>117 | 146=>184 | 51=>145 | n=>n,fun | 1=>0 | n=>n⟩
theorem Tryz.laysM144:Go.Proofs.LaysM.n144 Tryz.prog Tryz.laysM144_ren:={
 mixed:=by kernel_rfl
 f143:=Tryz.func80.trans (congrArg some (by kernel_rfl))
 f144:=Tryz.func53.trans (congrArg some (by kernel_rfl))
 f217:=Tryz.func129.trans (congrArg some (by kernel_rfl))
 f219:=Tryz.func111.trans (congrArg some (by kernel_rfl))
 f224:=Tryz.func131.trans (congrArg some (by kernel_rfl))
 f225:=Tryz.func130.trans (congrArg some (by kernel_rfl))
 f266:=Tryz.func152.trans (congrArg some (by kernel_rfl))
 f267:=Tryz.func132.trans (congrArg some (by kernel_rfl))
 f314:=Tryz.func153.trans (congrArg some (by kernel_rfl))
 t3:=Tryz.underlying3
 a3:=Tryz.isAgg3
 z3:=Tryz.sizeOf3
 v3:=Tryz.zeroValue3
 t4:=Tryz.underlying4
 a4:=Tryz.isAgg4
 z4:=Tryz.sizeOf4
 v4:=Tryz.zeroValue4
 t5:=Tryz.underlying5
 a5:=Tryz.isAgg5
 z5:=Tryz.sizeOf5
 v5:=Tryz.zeroValue5
 t9:=Tryz.underlying9
 a9:=Tryz.isAgg9
 z9:=Tryz.sizeOf9
 v9:=Tryz.zeroValue9
 t46:=Tryz.underlying117
 a46:=Tryz.isAgg117
 z46:=Tryz.sizeOf117
 v46:=Tryz.zeroValue117
 t51:=Tryz.underlying145
 a51:=Tryz.isAgg145
 z51:=Tryz.sizeOf145
 v51:=Tryz.zeroValue145
 t146:=Tryz.underlying184
 a146:=Tryz.isAgg184
 z146:=Tryz.sizeOf184
 v146:=Tryz.zeroValue184
 g1:=by kernel_rfl
 i3:=by kernel_rfl
 i4:=by kernel_rfl
 i5:=by kernel_rfl
 i9:=by kernel_rfl
 i46:=by kernel_rfl
 i51:=by kernel_rfl
 i146:=by kernel_rfl
 m1:=by kernel_rfl
 s1_3:=fun w h=>Go.Proofs.cell_of_shapedOpen_int (zero:=#[.int .i64 0]) (t:=3) h (of_decide_eq_true (by kernel_rfl)) (by kernel_rfl) rfl (by kernel_rfl) (by kernel_rfl) Tryz.underlying3 }
open Go.RowKit Go.Lib in
theorem Tryz.strings_Contains_shaped (s sub:ByteArray) (w:World) (h:w.ShapedOpen Tryz.prog) (hs:s.size < 4294967281) :
  Calls Tryz.prog 53 #[.string s,.string sub] w fun e w'=>e = .returned (.bool (Lib.contains s.data.toList sub.data.toList)) ∧ w' = w:=Any.strings_Contains_shaped Tryz.laysM144 s sub w h hs
def Tryz.laysM138_ren:Go.Shelf.Ren:=⟨fun | 138=>120 | 195=>140 | 218=>142 | 143=>80 | 219=>111 | 217=>129 | 225=>130 | 224=>131 | 267=>132 | 266=>152 | 314=>153 | n=>n,fun | 9=>9 | 3=>3 | 4=>4 | 5=>5 | 0=>0 | 46=>117 | 146=>184 | 51=>145 | n=>n,fun | 1=>0 | n=>n⟩
theorem Tryz.laysM138:Go.Proofs.LaysM.n138 Tryz.prog Tryz.laysM138_ren:={
 mixed:=by kernel_rfl
 f138:=Tryz.func120.trans (congrArg some (by kernel_rfl))
 f143:=Tryz.func80.trans (congrArg some (by kernel_rfl))
 f195:=Tryz.func140.trans (congrArg some (by kernel_rfl))
 f217:=Tryz.func129.trans (congrArg some (by kernel_rfl))
 f218:=Tryz.func142.trans (congrArg some (by kernel_rfl))
 f219:=Tryz.func111.trans (congrArg some (by kernel_rfl))
 f224:=Tryz.func131.trans (congrArg some (by kernel_rfl))
 f225:=Tryz.func130.trans (congrArg some (by kernel_rfl))
 f266:=Tryz.func152.trans (congrArg some (by kernel_rfl))
 f267:=Tryz.func132.trans (congrArg some (by kernel_rfl))
 f314:=Tryz.func153.trans (congrArg some (by kernel_rfl))
 t0:=Tryz.underlying0
 a0:=Tryz.isAgg0
 z0:=Tryz.sizeOf0
 v0:=Tryz.zeroValue0
 t3:=Tryz.underlying3
 a3:=Tryz.isAgg3
 z3:=Tryz.sizeOf3
 v3:=Tryz.zeroValue3
 t4:=Tryz.underlying4
 a4:=Tryz.isAgg4
 z4:=Tryz.sizeOf4
 v4:=Tryz.zeroValue4
 t5:=Tryz.underlying5
 a5:=Tryz.isAgg5
 z5:=Tryz.sizeOf5
 v5:=Tryz.zeroValue5
 t9:=Tryz.underlying9
 a9:=Tryz.isAgg9
 z9:=Tryz.sizeOf9
 v9:=Tryz.zeroValue9
 t46:=Tryz.underlying117
 a46:=Tryz.isAgg117
 z46:=Tryz.sizeOf117
 v46:=Tryz.zeroValue117
 t51:=Tryz.underlying145
 a51:=Tryz.isAgg145
 z51:=Tryz.sizeOf145
 v51:=Tryz.zeroValue145
 t146:=Tryz.underlying184
 a146:=Tryz.isAgg184
 z146:=Tryz.sizeOf184
 v146:=Tryz.zeroValue184
 g1:=by kernel_rfl
 i0:=by kernel_rfl
 i3:=by kernel_rfl
 i4:=by kernel_rfl
 i5:=by kernel_rfl
 i9:=by kernel_rfl
 i46:=by kernel_rfl
 i51:=by kernel_rfl
 i146:=by kernel_rfl
 m1:=by kernel_rfl
 s1_3:=fun w h=>Go.Proofs.cell_of_shapedOpen_int (zero:=#[.int .i64 0]) (t:=3) h (of_decide_eq_true (by kernel_rfl)) (by kernel_rfl) rfl (by kernel_rfl) (by kernel_rfl) Tryz.underlying3 }
open Go.RowKit Go.Lib in
theorem Tryz.strings_Count_shaped (s sub:ByteArray) (w:World) (h:w.ShapedOpen Tryz.prog) (hs:s.size < 4294967281) (h2:2 ≤ sub.size) :
  Calls Tryz.prog 120 #[.string s,.string sub] w fun e w'=>e = .returned (.int .i64 (Lib.countB s sub)) ∧ w' = w:=Any.strings_Count_shaped Tryz.laysM138 s sub w h hs h2
open Go.RowKit Go.Lib in
theorem Tryz.strings_Count_any (s sep:ByteArray) (m:Int) (w:World) (hs:s.size < 4294967281) (hm:w.cell? ⟨0,0,none⟩ = some (.int .i64 m)) (h1:1 ≤ sep.size) :
  Calls Tryz.prog 120 #[.string s,.string sep] w fun e w'=>e = .returned (.int .i64 (Lib.countB s sep)) ∧ w' = w:=Any.strings_Count_any Tryz.lays138 s sep m w hs hm h1
def Tryz.lays221_ren:Go.Shelf.Ren:=⟨fun | 221=>93 | 268=>119 | 138=>120 | 143=>80 | 195=>140 | 197=>141 | 218=>142 | 219=>111 | 260=>158 | 217=>129 | 225=>130 | 224=>131 | 267=>132 | 266=>152 | 314=>153 | n=>n,fun | 9=>9 | 3=>3 | 31=>69 | 4=>4 | 0=>0 | 105=>169 | 21=>21 | 5=>5 | 46=>117 | 119=>195 | 139=>198 | 138=>197 | 146=>184 | 51=>145 | n=>n,fun | 1=>0 | 3=>2 | 4=>3 | n=>n⟩
theorem Tryz.lays221:Go.Proofs.Lays.n221 Tryz.prog Tryz.lays221_ren:={
 mixed:=by kernel_rfl
 f138:=Tryz.func120.trans (congrArg some (by kernel_rfl))
 f143:=Tryz.func80.trans (congrArg some (by kernel_rfl))
 f195:=Tryz.func140.trans (congrArg some (by kernel_rfl))
 f197:=Tryz.func141.trans (congrArg some (by kernel_rfl))
 f217:=Tryz.func129.trans (congrArg some (by kernel_rfl))
 f218:=Tryz.func142.trans (congrArg some (by kernel_rfl))
 f219:=Tryz.func111.trans (congrArg some (by kernel_rfl))
 f221:=Tryz.func93.trans (congrArg some (by kernel_rfl))
 f224:=Tryz.func131.trans (congrArg some (by kernel_rfl))
 f225:=Tryz.func130.trans (congrArg some (by kernel_rfl))
 f260:=Tryz.func158.trans (congrArg some (by kernel_rfl))
 f266:=Tryz.func152.trans (congrArg some (by kernel_rfl))
 f267:=Tryz.func132.trans (congrArg some (by kernel_rfl))
 f268:=Tryz.func119.trans (congrArg some (by kernel_rfl))
 f314:=Tryz.func153.trans (congrArg some (by kernel_rfl))
 t0:=Tryz.underlying0
 a0:=Tryz.isAgg0
 z0:=Tryz.sizeOf0
 v0:=Tryz.zeroValue0
 t3:=Tryz.underlying3
 a3:=Tryz.isAgg3
 z3:=Tryz.sizeOf3
 v3:=Tryz.zeroValue3
 t4:=Tryz.underlying4
 a4:=Tryz.isAgg4
 z4:=Tryz.sizeOf4
 v4:=Tryz.zeroValue4
 t5:=Tryz.underlying5
 a5:=Tryz.isAgg5
 z5:=Tryz.sizeOf5
 v5:=Tryz.zeroValue5
 t9:=Tryz.underlying9
 a9:=Tryz.isAgg9
 z9:=Tryz.sizeOf9
 v9:=Tryz.zeroValue9
 t21:=Tryz.underlying21
 a21:=Tryz.isAgg21
 z21:=Tryz.sizeOf21
 v21:=Tryz.zeroValue21
 t31:=Tryz.underlying69
 a31:=Tryz.isAgg69
 z31:=Tryz.sizeOf69
 v31:=Tryz.zeroValue69
 t46:=Tryz.underlying117
 a46:=Tryz.isAgg117
 z46:=Tryz.sizeOf117
 v46:=Tryz.zeroValue117
 t51:=Tryz.underlying145
 a51:=Tryz.isAgg145
 z51:=Tryz.sizeOf145
 v51:=Tryz.zeroValue145
 t105:=Tryz.underlying169
 a105:=Tryz.isAgg169
 z105:=Tryz.sizeOf169
 v105:=Tryz.zeroValue169
 t119:=Tryz.underlying195
 a119:=Tryz.isAgg195
 z119:=Tryz.sizeOf195
 t138:=Tryz.underlying197
 a138:=Tryz.isAgg197
 z138:=Tryz.sizeOf197
 v138:=Tryz.zeroValue197
 t139:=Tryz.underlying198
 a139:=Tryz.isAgg198
 z139:=Tryz.sizeOf198
 v139:=Tryz.zeroValue198
 t146:=Tryz.underlying184
 a146:=Tryz.isAgg184
 z146:=Tryz.sizeOf184
 v146:=Tryz.zeroValue184
 g1:=by kernel_rfl
 g3:=by kernel_rfl
 g4:=by kernel_rfl }
open Go.RowKit Go.Lib in
theorem Tryz.strings_genSplit (s sep:ByteArray) (sv:Nat) (n:Int) (N:Nat) (m:Int) (w:World) (hs:s.size < 4294967281) (hm:w.cell? ⟨0,0,none⟩ = some (.int .i64 m)) (h1:1 ≤ sep.size) (hsv:sv ≤ sep.size) (hn0:n ≠ 0) (hn63:n ≤ 9223372036854775807) (hN:(N:Int) = min (if n < 0 then (Lib.countB s sep:Int) + 1 else n) ((s.size:Int) + 1)) :
  Calls Tryz.prog 93 #[.string s,.string sep,.int .i64 sv,.int .i64 n] w fun e w' =>
   e = .returned (.slice (some ⟨w.heap.size,0,none⟩) (Lib.splitB sep sv (N - 1) s).length N) ∧ w' = w.alloc (.cells (Lib.cellsOf (Lib.splitB sep sv (N - 1) s) N) 9):=Any.strings_genSplit Tryz.lays221 (by kernel_rfl) s sep sv n N m w hs hm h1 hsv hn0 hn63 hN
def Tryz.lays146_ren:Go.Shelf.Ren:=⟨fun | 146=>68 | 221=>93 | 268=>119 | 138=>120 | 143=>80 | 195=>140 | 197=>141 | 218=>142 | 219=>111 | 260=>158 | 217=>129 | 225=>130 | 224=>131 | 267=>132 | 266=>152 | 314=>153 | n=>n,fun | 9=>9 | 31=>69 | 3=>3 | 4=>4 | 0=>0 | 105=>169 | 21=>21 | 5=>5 | 46=>117 | 119=>195 | 139=>198 | 138=>197 | 146=>184 | 51=>145 | n=>n,fun | 1=>0 | 3=>2 | 4=>3 | n=>n⟩
theorem Tryz.lays146:Go.Proofs.Lays.n146 Tryz.prog Tryz.lays146_ren:={
 mixed:=by kernel_rfl
 f138:=Tryz.func120.trans (congrArg some (by kernel_rfl))
 f143:=Tryz.func80.trans (congrArg some (by kernel_rfl))
 f146:=Tryz.func68.trans (congrArg some (by kernel_rfl))
 f195:=Tryz.func140.trans (congrArg some (by kernel_rfl))
 f197:=Tryz.func141.trans (congrArg some (by kernel_rfl))
 f217:=Tryz.func129.trans (congrArg some (by kernel_rfl))
 f218:=Tryz.func142.trans (congrArg some (by kernel_rfl))
 f219:=Tryz.func111.trans (congrArg some (by kernel_rfl))
 f221:=Tryz.func93.trans (congrArg some (by kernel_rfl))
 f224:=Tryz.func131.trans (congrArg some (by kernel_rfl))
 f225:=Tryz.func130.trans (congrArg some (by kernel_rfl))
 f260:=Tryz.func158.trans (congrArg some (by kernel_rfl))
 f266:=Tryz.func152.trans (congrArg some (by kernel_rfl))
 f267:=Tryz.func132.trans (congrArg some (by kernel_rfl))
 f268:=Tryz.func119.trans (congrArg some (by kernel_rfl))
 f314:=Tryz.func153.trans (congrArg some (by kernel_rfl))
 t0:=Tryz.underlying0
 a0:=Tryz.isAgg0
 z0:=Tryz.sizeOf0
 v0:=Tryz.zeroValue0
 t3:=Tryz.underlying3
 a3:=Tryz.isAgg3
 z3:=Tryz.sizeOf3
 v3:=Tryz.zeroValue3
 t4:=Tryz.underlying4
 a4:=Tryz.isAgg4
 z4:=Tryz.sizeOf4
 v4:=Tryz.zeroValue4
 t5:=Tryz.underlying5
 a5:=Tryz.isAgg5
 z5:=Tryz.sizeOf5
 v5:=Tryz.zeroValue5
 t9:=Tryz.underlying9
 a9:=Tryz.isAgg9
 z9:=Tryz.sizeOf9
 v9:=Tryz.zeroValue9
 t21:=Tryz.underlying21
 a21:=Tryz.isAgg21
 z21:=Tryz.sizeOf21
 v21:=Tryz.zeroValue21
 t31:=Tryz.underlying69
 a31:=Tryz.isAgg69
 z31:=Tryz.sizeOf69
 v31:=Tryz.zeroValue69
 t46:=Tryz.underlying117
 a46:=Tryz.isAgg117
 z46:=Tryz.sizeOf117
 v46:=Tryz.zeroValue117
 t51:=Tryz.underlying145
 a51:=Tryz.isAgg145
 z51:=Tryz.sizeOf145
 v51:=Tryz.zeroValue145
 t105:=Tryz.underlying169
 a105:=Tryz.isAgg169
 z105:=Tryz.sizeOf169
 v105:=Tryz.zeroValue169
 t119:=Tryz.underlying195
 a119:=Tryz.isAgg195
 z119:=Tryz.sizeOf195
 t138:=Tryz.underlying197
 a138:=Tryz.isAgg197
 z138:=Tryz.sizeOf197
 v138:=Tryz.zeroValue197
 t139:=Tryz.underlying198
 a139:=Tryz.isAgg198
 z139:=Tryz.sizeOf198
 v139:=Tryz.zeroValue198
 t146:=Tryz.underlying184
 a146:=Tryz.isAgg184
 z146:=Tryz.sizeOf184
 v146:=Tryz.zeroValue184
 g1:=by kernel_rfl
 g3:=by kernel_rfl
 g4:=by kernel_rfl }
open Go.RowKit Go.Lib in
theorem Tryz.strings_Split (s sep:ByteArray) (m:Int) (w:World) (hs:s.size < 4294967281) (hm:w.cell? ⟨0,0,none⟩ = some (.int .i64 m)) (h1:1 ≤ sep.size) :
  Calls Tryz.prog 68 #[.string s,.string sep] w fun e w' =>
   e = .returned (.slice (some ⟨w.heap.size,0,none⟩) (Lib.countB s sep + 1) (Lib.countB s sep + 1)) ∧ w' = w.alloc (.cells ((Lib.splitB sep 0 (Lib.countB s sep) s).map Value.string).toArray 9):=Any.strings_Split Tryz.lays146 (by kernel_rfl) s sep m w hs hm h1
def Tryz.lays152_ren:Go.Shelf.Ren:=⟨fun | 152=>143 | 137=>159 | 119=>160 | 224=>131 | 225=>130 | 217=>129 | 266=>152 | n=>n,fun | 9=>9 | 21=>21 | 3=>3 | 4=>4 | 5=>5 | 0=>0 | 46=>117 | n=>n,fun | n=>n⟩
theorem Tryz.lays152:Go.Proofs.Lays.n152 Tryz.prog Tryz.lays152_ren:={
 mixed:=by kernel_rfl
 f119:=Tryz.func160.trans (congrArg some (by kernel_rfl))
 f137:=Tryz.func159.trans (congrArg some (by kernel_rfl))
 f152:=Tryz.func143.trans (congrArg some (by kernel_rfl))
 f217:=Tryz.func129.trans (congrArg some (by kernel_rfl))
 f224:=Tryz.func131.trans (congrArg some (by kernel_rfl))
 f225:=Tryz.func130.trans (congrArg some (by kernel_rfl))
 f266:=Tryz.func152.trans (congrArg some (by kernel_rfl))
 t0:=Tryz.underlying0
 a0:=Tryz.isAgg0
 z0:=Tryz.sizeOf0
 v0:=Tryz.zeroValue0
 t3:=Tryz.underlying3
 a3:=Tryz.isAgg3
 z3:=Tryz.sizeOf3
 v3:=Tryz.zeroValue3
 t4:=Tryz.underlying4
 a4:=Tryz.isAgg4
 z4:=Tryz.sizeOf4
 v4:=Tryz.zeroValue4
 t5:=Tryz.underlying5
 a5:=Tryz.isAgg5
 z5:=Tryz.sizeOf5
 v5:=Tryz.zeroValue5
 t9:=Tryz.underlying9
 a9:=Tryz.isAgg9
 z9:=Tryz.sizeOf9
 v9:=Tryz.zeroValue9
 t21:=Tryz.underlying21
 a21:=Tryz.isAgg21
 z21:=Tryz.sizeOf21
 v21:=Tryz.zeroValue21
 t46:=Tryz.underlying117
 a46:=Tryz.isAgg117
 z46:=Tryz.sizeOf117
 v46:=Tryz.zeroValue117 }
open Go.RowKit Go.Lib in
theorem Tryz.strings_IndexRune_ascii (s:ByteArray) (r:Int) (w:World) (h0:0 ≤ r) (h1:r < 128) :
  Calls Tryz.prog 143 #[.string s,.int .i32 r] w fun e w'=>e = .returned (.int .i64 (Lib.indexByte s.data.toList r.toNat.toUInt8)) ∧ w' = w:=Any.strings_IndexRune_ascii Tryz.lays152 s r w h0 h1
def Tryz.lays226_ren:Go.Shelf.Ren:=⟨fun | 226=>144 | n=>n,fun | 3=>3 | 4=>4 | n=>n,fun | n=>n⟩
theorem Tryz.lays226:Go.Proofs.Lays.n226 Tryz.prog Tryz.lays226_ren:={
 mixed:=by kernel_rfl
 f226:=Tryz.func144.trans (congrArg some (by kernel_rfl))
 t3:=Tryz.underlying3
 a3:=Tryz.isAgg3
 z3:=Tryz.sizeOf3
 v3:=Tryz.zeroValue3
 t4:=Tryz.underlying4
 a4:=Tryz.isAgg4
 z4:=Tryz.sizeOf4
 v4:=Tryz.zeroValue4 }
open Go.RowKit Go.Lib in
theorem Tryz.strings_shouldUseASCIISet (n:Int) (w:World) :
  Calls Tryz.prog 144 #[.int .i64 n] w fun e w'=>e = .returned (.bool (decide (8 < n))) ∧ w' = w:=Any.strings_shouldUseASCIISet Tryz.lays226 n w
def Tryz.lays153_ren:Go.Shelf.Ren:=⟨fun | 153=>121 | 152=>143 | 226=>144 | 227=>145 | 228=>146 | 137=>159 | 119=>160 | 224=>131 | 225=>130 | 217=>129 | 266=>152 | n=>n,fun | 9=>9 | 3=>3 | 4=>4 | 5=>5 | 21=>21 | 117=>174 | 116=>173 | 0=>0 | 46=>117 | 124=>191 | n=>n,fun | n=>n⟩
theorem Tryz.lays153:Go.Proofs.Lays.n153 Tryz.prog Tryz.lays153_ren:={
 mixed:=by kernel_rfl
 f119:=Tryz.func160.trans (congrArg some (by kernel_rfl))
 f137:=Tryz.func159.trans (congrArg some (by kernel_rfl))
 f152:=Tryz.func143.trans (congrArg some (by kernel_rfl))
 f153:=Tryz.func121.trans (congrArg some (by kernel_rfl))
 f217:=Tryz.func129.trans (congrArg some (by kernel_rfl))
 f224:=Tryz.func131.trans (congrArg some (by kernel_rfl))
 f225:=Tryz.func130.trans (congrArg some (by kernel_rfl))
 f226:=Tryz.func144.trans (congrArg some (by kernel_rfl))
 f227:=Tryz.func145.trans (congrArg some (by kernel_rfl))
 f228:=Tryz.func146.trans (congrArg some (by kernel_rfl))
 f266:=Tryz.func152.trans (congrArg some (by kernel_rfl))
 t0:=Tryz.underlying0
 a0:=Tryz.isAgg0
 z0:=Tryz.sizeOf0
 v0:=Tryz.zeroValue0
 t3:=Tryz.underlying3
 a3:=Tryz.isAgg3
 z3:=Tryz.sizeOf3
 v3:=Tryz.zeroValue3
 t4:=Tryz.underlying4
 a4:=Tryz.isAgg4
 z4:=Tryz.sizeOf4
 v4:=Tryz.zeroValue4
 t5:=Tryz.underlying5
 a5:=Tryz.isAgg5
 z5:=Tryz.sizeOf5
 v5:=Tryz.zeroValue5
 t9:=Tryz.underlying9
 a9:=Tryz.isAgg9
 z9:=Tryz.sizeOf9
 v9:=Tryz.zeroValue9
 t21:=Tryz.underlying21
 a21:=Tryz.isAgg21
 z21:=Tryz.sizeOf21
 v21:=Tryz.zeroValue21
 t46:=Tryz.underlying117
 a46:=Tryz.isAgg117
 z46:=Tryz.sizeOf117
 v46:=Tryz.zeroValue117
 t116:=Tryz.underlying173
 a116:=Tryz.isAgg173
 z116:=Tryz.sizeOf173
 t117:=Tryz.underlying174
 a117:=Tryz.isAgg174
 z117:=Tryz.sizeOf174
 v117:=Tryz.zeroValue174
 t124:=Tryz.underlying191
 a124:=Tryz.isAgg191
 z124:=Tryz.sizeOf191
 v124:=Tryz.zeroValue191 }
open Go.RowKit Go.Lib in
theorem Tryz.strings_IndexAny_none (s chars:ByteArray) (w:World) (h0:chars.size = 0) :
  Calls Tryz.prog 121 #[.string s,.string chars] w fun e w'=>e = .returned (.int .i64 (Lib.indexAny s.data.toList chars.data.toList)) ∧ w' = w:=Any.strings_IndexAny_none Tryz.lays153 s chars w h0
open Go.RowKit Go.Lib in
theorem Tryz.strings_IndexAny_one (s chars:ByteArray) (w:World) (h1:chars.size = 1) (hascii:∀ (j:Nat) b,chars.data.toList[j]? = some b → b.toNat < 128) :
  Calls Tryz.prog 121 #[.string s,.string chars] w fun e w'=>e = .returned (.int .i64 (Lib.indexAny s.data.toList chars.data.toList)) ∧ w' = w:=Any.strings_IndexAny_one Tryz.lays153 s chars w h1 hascii
open Go.RowKit Go.Lib in
theorem Tryz.strings_IndexAny_short (s chars:ByteArray) (w:World) (h2:2 ≤ chars.size) (h8:s.size ≤ 8) (hascii:∀ (j:Nat) b,s.data.toList[j]? = some b → b.toNat < 128) :
  Calls Tryz.prog 121 #[.string s,.string chars] w fun e w'=>e = .returned (.int .i64 (Lib.indexAny s.data.toList chars.data.toList)) ∧ ∃ pos,w' = w.iter s pos:=Any.strings_IndexAny_short Tryz.lays153 s chars w h2 h8 hascii
def Tryz.lays227_ren:Go.Shelf.Ren:=⟨fun | 227=>145 | n=>n,fun | 9=>9 | 116=>173 | 4=>4 | 0=>0 | 3=>3 | 5=>5 | n=>n,fun | n=>n⟩
theorem Tryz.lays227:Go.Proofs.Lays.n227 Tryz.prog Tryz.lays227_ren:={
 mixed:=by kernel_rfl
 f227:=Tryz.func145.trans (congrArg some (by kernel_rfl))
 t0:=Tryz.underlying0
 a0:=Tryz.isAgg0
 z0:=Tryz.sizeOf0
 v0:=Tryz.zeroValue0
 t3:=Tryz.underlying3
 a3:=Tryz.isAgg3
 z3:=Tryz.sizeOf3
 v3:=Tryz.zeroValue3
 t4:=Tryz.underlying4
 a4:=Tryz.isAgg4
 z4:=Tryz.sizeOf4
 v4:=Tryz.zeroValue4
 t5:=Tryz.underlying5
 a5:=Tryz.isAgg5
 z5:=Tryz.sizeOf5
 v5:=Tryz.zeroValue5
 t9:=Tryz.underlying9
 a9:=Tryz.isAgg9
 z9:=Tryz.sizeOf9
 v9:=Tryz.zeroValue9
 t116:=Tryz.underlying173
 a116:=Tryz.isAgg173
 z116:=Tryz.sizeOf173 }
open Go.RowKit Go.Lib in
theorem Tryz.strings_makeASCIISet (hv116:∀ w,(zeroValue 173).run Tryz.prog w = .ok (.agg (Array.replicate 256 (.bool false))) w) (chars:ByteArray) (w:World) (hs:chars.size < 4294967281) (hascii:∀ (j:Nat) b,chars.data.toList[j]? = some b → b.toNat < 128) :
  Calls Tryz.prog 145 #[.string chars] w fun e w'=>e = .returned (.tuple #[.agg (Lib.setCells chars.data.toList),.bool true]) ∧ w' = w.alloc (.cells (Lib.setCells chars.data.toList) 173):=Any.strings_makeASCIISet Tryz.lays227 hv116 (by kernel_rfl) chars w hs hascii
def Tryz.lays228_ren:Go.Shelf.Ren:=⟨fun | 228=>146 | n=>n,fun | 124=>191 | 5=>5 | 4=>4 | 0=>0 | 116=>173 | n=>n,fun | n=>n⟩
theorem Tryz.lays228:Go.Proofs.Lays.n228 Tryz.prog Tryz.lays228_ren:={
 mixed:=by kernel_rfl
 f228:=Tryz.func146.trans (congrArg some (by kernel_rfl))
 t0:=Tryz.underlying0
 a0:=Tryz.isAgg0
 z0:=Tryz.sizeOf0
 v0:=Tryz.zeroValue0
 t4:=Tryz.underlying4
 a4:=Tryz.isAgg4
 z4:=Tryz.sizeOf4
 v4:=Tryz.zeroValue4
 t5:=Tryz.underlying5
 a5:=Tryz.isAgg5
 z5:=Tryz.sizeOf5
 v5:=Tryz.zeroValue5
 t116:=Tryz.underlying173
 a116:=Tryz.isAgg173
 z116:=Tryz.sizeOf173
 t124:=Tryz.underlying191
 a124:=Tryz.isAgg191
 z124:=Tryz.sizeOf191
 v124:=Tryz.zeroValue191 }
open Go.RowKit Go.Lib in
theorem Tryz.asciiSet_contains (b:Nat) (x:UInt8) (v:Bool) (w:World) (hc:w.cell? ⟨b,x.toNat,none⟩ = some (.bool v)) :
  Calls Tryz.prog 146 #[.pointer (some ⟨b,0,none⟩),.int .u8 x.toNat] w fun e w'=>e = .returned (.bool v) ∧ w' = w:=Any.asciiSet_contains Tryz.lays228 b x v w hc
open Go.RowKit Go.Lib in
theorem Tryz.strings_IndexAny_long (hv116:∀ w,(zeroValue 173).run Tryz.prog w = .ok (.agg (Array.replicate 256 (.bool false))) w) (s chars:ByteArray) (w:World) (h2:2 ≤ chars.size) (h8:8 < s.size) (hs:s.size < 4294967281) (hcs:chars.size < 4294967281) (hascii:∀ (j:Nat) b,chars.data.toList[j]? = some b → b.toNat < 128) :
  Calls Tryz.prog 121 #[.string s,.string chars] w fun e w'=>e = .returned (.int .i64 (Lib.indexAny s.data.toList chars.data.toList)) ∧ w' = ((w.alloc (.cells (Lib.setCells chars.data.toList) 173)).alloc (.cells (Lib.setCells chars.data.toList) 173)):=Any.strings_IndexAny_long Tryz.lays153 hv116 (by kernel_rfl) s chars w h2 h8 hs hcs hascii
open Go.RowKit Go.Lib in
theorem Tryz.strings_IndexAny (hv116:∀ w,(zeroValue 173).run Tryz.prog w = .ok (.agg (Array.replicate 256 (.bool false))) w) (s chars:ByteArray) (w:World) (hs:s.size < 4294967281) (hcs:chars.size < 4294967281) (has:∀ (j:Nat) b,s.data.toList[j]? = some b → b.toNat < 128) (hac:∀ (j:Nat) b,chars.data.toList[j]? = some b → b.toNat < 128) :
  Calls Tryz.prog 121 #[.string s,.string chars] w fun e w'=>e = .returned (.int .i64 (Lib.indexAny s.data.toList chars.data.toList)) ∧ Below w.heap.size w w':=Any.strings_IndexAny Tryz.lays153 hv116 (by kernel_rfl) s chars w hs hcs has hac
def Tryz.lays150_ren:Go.Shelf.Ren:=⟨fun | 150=>94 | 153=>121 | 152=>143 | 226=>144 | 227=>145 | 228=>146 | 137=>159 | 119=>160 | 224=>131 | 225=>130 | 217=>129 | 266=>152 | n=>n,fun | 9=>9 | 4=>4 | 3=>3 | 5=>5 | 21=>21 | 117=>174 | 116=>173 | 0=>0 | 46=>117 | 124=>191 | n=>n,fun | n=>n⟩
theorem Tryz.lays150:Go.Proofs.Lays.n150 Tryz.prog Tryz.lays150_ren:={
 mixed:=by kernel_rfl
 f119:=Tryz.func160.trans (congrArg some (by kernel_rfl))
 f137:=Tryz.func159.trans (congrArg some (by kernel_rfl))
 f150:=Tryz.func94.trans (congrArg some (by kernel_rfl))
 f152:=Tryz.func143.trans (congrArg some (by kernel_rfl))
 f153:=Tryz.func121.trans (congrArg some (by kernel_rfl))
 f217:=Tryz.func129.trans (congrArg some (by kernel_rfl))
 f224:=Tryz.func131.trans (congrArg some (by kernel_rfl))
 f225:=Tryz.func130.trans (congrArg some (by kernel_rfl))
 f226:=Tryz.func144.trans (congrArg some (by kernel_rfl))
 f227:=Tryz.func145.trans (congrArg some (by kernel_rfl))
 f228:=Tryz.func146.trans (congrArg some (by kernel_rfl))
 f266:=Tryz.func152.trans (congrArg some (by kernel_rfl))
 t0:=Tryz.underlying0
 a0:=Tryz.isAgg0
 z0:=Tryz.sizeOf0
 v0:=Tryz.zeroValue0
 t3:=Tryz.underlying3
 a3:=Tryz.isAgg3
 z3:=Tryz.sizeOf3
 v3:=Tryz.zeroValue3
 t4:=Tryz.underlying4
 a4:=Tryz.isAgg4
 z4:=Tryz.sizeOf4
 v4:=Tryz.zeroValue4
 t5:=Tryz.underlying5
 a5:=Tryz.isAgg5
 z5:=Tryz.sizeOf5
 v5:=Tryz.zeroValue5
 t9:=Tryz.underlying9
 a9:=Tryz.isAgg9
 z9:=Tryz.sizeOf9
 v9:=Tryz.zeroValue9
 t21:=Tryz.underlying21
 a21:=Tryz.isAgg21
 z21:=Tryz.sizeOf21
 v21:=Tryz.zeroValue21
 t46:=Tryz.underlying117
 a46:=Tryz.isAgg117
 z46:=Tryz.sizeOf117
 v46:=Tryz.zeroValue117
 t116:=Tryz.underlying173
 a116:=Tryz.isAgg173
 z116:=Tryz.sizeOf173
 t117:=Tryz.underlying174
 a117:=Tryz.isAgg174
 z117:=Tryz.sizeOf174
 v117:=Tryz.zeroValue174
 t124:=Tryz.underlying191
 a124:=Tryz.isAgg191
 z124:=Tryz.sizeOf191
 v124:=Tryz.zeroValue191 }
open Go.RowKit Go.Lib in
theorem Tryz.strings_ContainsAny (hv116:∀ w,(zeroValue 173).run Tryz.prog w = .ok (.agg (Array.replicate 256 (.bool false))) w) (s chars:ByteArray) (w:World) (hs:s.size < 4294967281) (hcs:chars.size < 4294967281) (has:∀ (j:Nat) b,s.data.toList[j]? = some b → b.toNat < 128) (hac:∀ (j:Nat) b,chars.data.toList[j]? = some b → b.toNat < 128) :
  Calls Tryz.prog 94 #[.string s,.string chars] w fun e w'=>e = .returned (.bool (Lib.containsAny s.data.toList chars.data.toList)) ∧ Below w.heap.size w w':=Any.strings_ContainsAny Tryz.lays150 hv116 (by kernel_rfl) s chars w hs hcs has hac
open Go.RowKit Go.Lib in
theorem Tryz.strings_IndexAny_laid (s chars:ByteArray) (w:World) (hs:s.size < 4294967281) (hcs:chars.size < 4294967281) (has:∀ (j:Nat) b,s.data.toList[j]? = some b → b.toNat < 128) (hac:∀ (j:Nat) b,chars.data.toList[j]? = some b → b.toNat < 128) :
  Calls Tryz.prog 121 #[.string s,.string chars] w fun e w'=>e = .returned (.int .i64 (Lib.indexAny s.data.toList chars.data.toList)) ∧ Below w.heap.size w w':=Any.strings_IndexAny_laid Tryz.lays153 (by kernel_rfl) s chars w hs hcs has hac
open Go.RowKit Go.Lib in
theorem Tryz.strings_ContainsAny_laid (s chars:ByteArray) (w:World) (hs:s.size < 4294967281) (hcs:chars.size < 4294967281) (has:∀ (j:Nat) b,s.data.toList[j]? = some b → b.toNat < 128) (hac:∀ (j:Nat) b,chars.data.toList[j]? = some b → b.toNat < 128) :
  Calls Tryz.prog 94 #[.string s,.string chars] w fun e w'=>e = .returned (.bool (Lib.containsAny s.data.toList chars.data.toList)) ∧ Below w.heap.size w w':=Any.strings_ContainsAny_laid Tryz.lays150 (by kernel_rfl) s chars w hs hcs has hac
def Tryz.lays260_ren:Go.Shelf.Ren:=⟨fun | 260=>158 | n=>n,fun | 9=>9 | 21=>21 | 3=>3 | 4=>4 | 5=>5 | 119=>195 | 0=>0 | 46=>117 | 139=>198 | 138=>197 | n=>n,fun | 3=>2 | 4=>3 | n=>n⟩
theorem Tryz.lays260:Go.Proofs.Lays.n260 Tryz.prog Tryz.lays260_ren:={
 mixed:=by kernel_rfl
 f260:=Tryz.func158.trans (congrArg some (by kernel_rfl))
 t0:=Tryz.underlying0
 a0:=Tryz.isAgg0
 z0:=Tryz.sizeOf0
 v0:=Tryz.zeroValue0
 t3:=Tryz.underlying3
 a3:=Tryz.isAgg3
 z3:=Tryz.sizeOf3
 v3:=Tryz.zeroValue3
 t4:=Tryz.underlying4
 a4:=Tryz.isAgg4
 z4:=Tryz.sizeOf4
 v4:=Tryz.zeroValue4
 t5:=Tryz.underlying5
 a5:=Tryz.isAgg5
 z5:=Tryz.sizeOf5
 v5:=Tryz.zeroValue5
 t9:=Tryz.underlying9
 a9:=Tryz.isAgg9
 z9:=Tryz.sizeOf9
 v9:=Tryz.zeroValue9
 t21:=Tryz.underlying21
 a21:=Tryz.isAgg21
 z21:=Tryz.sizeOf21
 v21:=Tryz.zeroValue21
 t46:=Tryz.underlying117
 a46:=Tryz.isAgg117
 z46:=Tryz.sizeOf117
 v46:=Tryz.zeroValue117
 t119:=Tryz.underlying195
 a119:=Tryz.isAgg195
 z119:=Tryz.sizeOf195
 t138:=Tryz.underlying197
 a138:=Tryz.isAgg197
 z138:=Tryz.sizeOf197
 v138:=Tryz.zeroValue197
 t139:=Tryz.underlying198
 a139:=Tryz.isAgg198
 z139:=Tryz.sizeOf198
 v139:=Tryz.zeroValue198
 g3:=by kernel_rfl
 g4:=by kernel_rfl }
open Go.RowKit Go.Lib in
theorem Tryz.utf8_decodeRuneInStringSlow (s:ByteArray) (w:World) (hT:Lib.Utf8Tabs 2 3 w) :
  Calls Tryz.prog 158 #[.string s] w fun e w'=>e = .returned (.tuple #[.int .i32 (Lib.decodeGo s).1,.int .i64 (Lib.decodeGo s).2]) ∧ Below w.heap.size w w':=Any.utf8_decodeRuneInStringSlow Tryz.lays260 s w hT
end Go.Proofs
