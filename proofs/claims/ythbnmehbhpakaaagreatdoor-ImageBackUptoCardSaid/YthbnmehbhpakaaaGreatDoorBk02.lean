/- DERIVED: THE SHELF's CONTRACTS AT THIS DUMP, IN PLAIN WORDS (tools/lay-plain.mjs out of 'TryzShelf.lean', which tools/lay-shelf.mjs wrote): THE SAME DECLARATIONS UNDER THE SAME NAMES: 'import', 'namespace', 'open', 'def', 'theorem' AND NOTHING ELSE: no command of the shelf's: FOR A HAND-IN. Each laying: the table of numbers ('.._ren') and one theorem, a field a fact of the dump's own or the kernel's comparison; each contract: ONE APPLICATION. -/
import Derived.Shelf.Strings.SlTrimAscii
import Derived.Shelf.Strings.Builder1
import Derived.Shelf.Strings.Builder2
import Derived.Shelf.Strings.OnBuilder
import Derived.Shelf.Strings.Trim
import Derived.Shelf.Small.Utf8
import Derived.Shelf.Small.Bits
import Derived.Shelf.Small.Strs
import Derived.Shelf.Small.Wraps
import Derived.Shelf.Strings.BuilderF
import Derived.Shelf.Strings.BuilderK
import Derived.Shelf.Utf8.RuneCount
import Derived.Shelf.Strings.Builder2Cap
import Derived.Shelf.Strconv.Itoa0
import Derived.Shelf.Strconv.Itoa1
import Derived.Shelf.LaysM
import Derived.Shelf.Strconv.Itoa2
import Derived.Shelf.Strconv.Itoa3
import Derived.Shelf.Strings.Search1
import Derived.Shelf.Strings.Search2
import Derived.Shelf.Strings.Search3
import Derived.Shelf.Strings.Count
import Derived.Shelf.Strings.Shaped
import Derived.Shelf.Strings.LastIndex
import Derived.Shelf.Strings.Prefix
import Derived.Shelf.Strings.Split
import Derived.Shelf.Strings.SplitShaped
import Derived.Shelf.Unicode.Decode
import Derived.Shelf.Strings.Runes
import Derived.Shelf.Strings.RuneCount
import Derived.Shelf.Strings.AsciiSet
import Derived.Shelf.Strings.Explode
import Derived.Shelf.Unicode.DecodeSlow
import Derived.Shelf.Unicode.DecodeAny
import Derived.Shelf.Unicode.DecodeLast
import Derived.Shelf.Slices.Equal
import Derived.Ground.Names2Prog
import Derived.Shelf.Slices.SearchI
import Derived.Shelf.Slices.Empties2
import Derived.Ground.SlsfProg
import Derived.Shelf.SlSortCmp.Insertion
import Derived.Shelf.SlSortCmp.SiftDown1
import Derived.Shelf.SlSortCmp.HeapSort1
import Derived.Shelf.SlSortCmp.Insertion1
import Derived.Shelf.SlSortCmp.Median1
import Derived.Shelf.SlSortCmp.Pivot1
import Derived.Shelf.SlSortCmp.ReverseRange1
import Derived.Shelf.SlSortCmp.PartialInsertion1
import Derived.Shelf.SlSortCmp.PartitionEqual1
import Derived.Shelf.SlSortCmp.Partition1
import Derived.Shelf.SlSortCmp.Pdq1
import Derived.Shelf.SlSortCmp.Whole1
import Derived.Test.YthbnmehbhpakaaaGreatDoorProg
import Derived.Test.YthbnmehbhpakaaaGreatDoorRows
import Derived.Below
import Derived.ProofKit
import Derived.LaidMore
import Derived.Stop.LaidErr
import Derived.Lib.LaidTab
import Derived.Lib.ItoaNum
import Derived.KernelRfl
import Derived.Test.YthbnmehbhpakaaaGreatDoorBkA
import Derived.Lib.AppendIntMem
import Derived.Laws.Strings
import Derived.WalkKit
import Derived.Test.YthbnmehbhpakaaaGreatDoorBkC
import Derived.Test.YthbnmehbhpakaaaGreatDoorBk01
import Derived.Laws.Concat
import Derived.Laws.StructEq
import Derived.WalkSpells
import Derived.WalkLawsBesides
import Derived.Deep.RegionHeld3
import Derived.IntWalk
import Derived.Lib.Hide
import Derived.Test.YthbnmehbhpakaaaGreatDoorAl
set_option linter.all false
set_option maxHeartbeats 800000
set_option maxRecDepth 100000
namespace Go.Proofs
open Go.Shelf
def Tryz.lays169_ren:Go.Shelf.Ren:=⟨fun|169=>63|n=>n,fun|70=>119|9=>9|0=>0|72=>122|37=>120|127=>180|3=>3|5=>5|n=>n,fun|n=>n⟩
theorem Tryz.lays169:Go.Proofs.Lays.n169 Tryz.prog Tryz.lays169_ren:={
 mixed:=by kernel_rfl
 f169:=Tryz.func63.trans (congrArg some (by kernel_rfl))
 t0:=Tryz.underlying0
 a0:=Tryz.isAgg0
 z0:=Tryz.sizeOf0
 v0:=Tryz.zeroValue0
 t3:=Tryz.underlying3
 a3:=Tryz.isAgg3
 z3:=Tryz.sizeOf3
 v3:=Tryz.zeroValue3
 t9:=Tryz.underlying9
 a9:=Tryz.isAgg9
 z9:=Tryz.sizeOf9
 v9:=Tryz.zeroValue9
 t37:=Tryz.underlying120
 a37:=Tryz.isAgg120
 z37:=Tryz.sizeOf120
 v37:=Tryz.zeroValue120
 t70:=Tryz.underlying119
 a70:=Tryz.isAgg119
 z70:=Tryz.sizeOf119
 v70:=Tryz.zeroValue119
 t72:=Tryz.underlying122
 a72:=Tryz.isAgg122
 z72:=Tryz.sizeOf122
 v72:=Tryz.zeroValue122
 t127:=Tryz.underlying180
 a127:=Tryz.isAgg180
 z127:=Tryz.sizeOf180
 v127:=Tryz.zeroValue180}
theorem Tryz.Builder_Extra_169:Builder.Extra Tryz.prog Tryz.lays169_ren:={
 sizeBuilder:=by kernel_rfl
 liesBuilder:=by kernel_rfl
 t5:=Tryz.underlying5
 a5:=Tryz.isAgg5
 z5:=Tryz.sizeOf5
 v5:=Tryz.zeroValue5
 infoByte:=by kernel_rfl
 cellsByte:=by kernel_rfl
 sizeByte:=by kernel_rfl
 neB5:=by decide}
open Go.RowKit in
theorem Tryz.Builder_String_any (B b:Nat) (l:List UInt8) (w:World) (h:Lib.IsBuilder 122 5 B b (Lib.byteCells l) w) (hBw:B≤w.heap.size) :
 Calls Tryz.prog 63 #[.pointer (some ⟨b,0,none⟩)] w fun e w'=>e=.returned (.string ⟨l.toArray⟩)∧Below B w w':=Any.Builder_String_any Tryz.lays169 Tryz.Builder_Extra_169 B b l w h hBw
def Tryz.lays156_ren:Go.Shelf.Ren:=⟨fun|156=>96|165=>161|166=>62|169=>63|240=>124|241=>222|276=>185|277=>261|n=>n,fun|31=>53|9=>9|3=>3|4=>4|0=>0|20=>20|72=>122|76=>125|70=>119|37=>120|75=>124|127=>180|164=>236|5=>5|80=>127|n=>n,fun|n=>n⟩
theorem Tryz.lays156:Go.Proofs.Lays.n156 Tryz.prog Tryz.lays156_ren:={
 mixed:=by kernel_rfl
 f156:=Tryz.func96.trans (congrArg some (by kernel_rfl))
 f165:=Tryz.func161.trans (congrArg some (by kernel_rfl))
 f166:=Tryz.func62.trans (congrArg some (by kernel_rfl))
 f169:=Tryz.func63.trans (congrArg some (by kernel_rfl))
 f240:=Tryz.func124.trans (congrArg some (by kernel_rfl))
 f241:=Tryz.func222.trans (congrArg some (by kernel_rfl))
 f276:=Tryz.func185.trans (congrArg some (by kernel_rfl))
 f277:=Tryz.func261.trans (congrArg some (by kernel_rfl))
 t0:=Tryz.underlying0
 a0:=Tryz.isAgg0
 z0:=Tryz.sizeOf0
 v0:=Tryz.zeroValue0
 t3:=Tryz.underlying3
 a3:=Tryz.isAgg3
 z3:=Tryz.sizeOf3
 v3:=Tryz.zeroValue3
 t4:=Tryz.underlying4
 a4:=Tryz.isAgg4
 z4:=Tryz.sizeOf4
 v4:=Tryz.zeroValue4
 t9:=Tryz.underlying9
 a9:=Tryz.isAgg9
 z9:=Tryz.sizeOf9
 v9:=Tryz.zeroValue9
 t20:=Tryz.underlying20
 a20:=Tryz.isAgg20
 z20:=Tryz.sizeOf20
 v20:=Tryz.zeroValue20
 t31:=Tryz.underlying53
 a31:=Tryz.isAgg53
 z31:=Tryz.sizeOf53
 v31:=Tryz.zeroValue53
 t37:=Tryz.underlying120
 a37:=Tryz.isAgg120
 z37:=Tryz.sizeOf120
 v37:=Tryz.zeroValue120
 t70:=Tryz.underlying119
 a70:=Tryz.isAgg119
 z70:=Tryz.sizeOf119
 v70:=Tryz.zeroValue119
 t72:=Tryz.underlying122
 a72:=Tryz.isAgg122
 z72:=Tryz.sizeOf122
 v72:=Tryz.zeroValue122
 t75:=Tryz.underlying124
 a75:=Tryz.isAgg124
 z75:=Tryz.sizeOf124
 v75:=Tryz.zeroValue124
 t76:=Tryz.underlying125
 a76:=Tryz.isAgg125
 z76:=Tryz.sizeOf125
 v76:=Tryz.zeroValue125
 t127:=Tryz.underlying180
 a127:=Tryz.isAgg180
 z127:=Tryz.sizeOf180
 v127:=Tryz.zeroValue180
 t164:=Tryz.underlying236
 a164:=Tryz.isAgg236
 z164:=Tryz.sizeOf236
 v164:=Tryz.zeroValue236}
theorem Tryz.Builder_Extra_156:Builder.Extra Tryz.prog Tryz.lays156_ren:={
 sizeBuilder:=by kernel_rfl
 liesBuilder:=by kernel_rfl
 t5:=Tryz.underlying5
 a5:=Tryz.isAgg5
 z5:=Tryz.sizeOf5
 v5:=Tryz.zeroValue5
 infoByte:=by kernel_rfl
 cellsByte:=by kernel_rfl
 sizeByte:=by kernel_rfl
 neB5:=by decide}
open Go.RowKit in
theorem Tryz.strings_Join (bk o c:Nat) (xs:List ByteArray) (sep:ByteArray) (w:World) (hcells:∀ (j:Nat) x,xs[j]?=some x→w.cell? ⟨bk,o+j,none⟩=some (.string x)) (hbk:bk<w.heap.size) (hN:xs.length≤140737488355328) (hcap:xs.length≤c) (hlen:(Lib.join (xs.map (·.data.toList)) sep.data.toList).length≤140737488355328) :
 Calls Tryz.prog 96 #[.slice (some ⟨bk,o,none⟩) xs.length c,.string sep] w fun e w'=>e=.returned (.string ⟨(Lib.join (xs.map (·.data.toList)) sep.data.toList).toArray⟩)∧Below w.heap.size w w':=Any.strings_Join Tryz.lays156 Tryz.Builder_Extra_156 bk o c xs sep w hcells hbk hN hcap hlen
def Tryz.lays106_ren:Go.Shelf.Ren:=⟨fun|106=>80|213=>137|265=>205|n=>n,fun|9=>9|3=>3|n=>n,fun|n=>n⟩
theorem Tryz.lays106:Go.Proofs.Lays.n106 Tryz.prog Tryz.lays106_ren:={
 mixed:=by kernel_rfl
 f106:=Tryz.func80.trans (congrArg some (by kernel_rfl))
 f213:=Tryz.func137.trans (congrArg some (by kernel_rfl))
 f265:=Tryz.func205.trans (congrArg some (by kernel_rfl))
 t3:=Tryz.underlying3
 a3:=Tryz.isAgg3
 z3:=Tryz.sizeOf3
 v3:=Tryz.zeroValue3
 t9:=Tryz.underlying9
 a9:=Tryz.isAgg9
 z9:=Tryz.sizeOf9
 v9:=Tryz.zeroValue9}
open Go.RowKit in
theorem Tryz.strings_Compare (a b:ByteArray) (w:World) :
 Calls Tryz.prog 80 #[.string a,.string b] w fun e w'=>e=.returned (.int .i64 (Lib.compareBytes a.data.toList b.data.toList))∧w'=w:=Any.strings_Compare Tryz.lays106 a b w
def Tryz.lays104_ren:Go.Shelf.Ren:=⟨fun|104=>99|211=>163|207=>225|n=>n,fun|9=>9|4=>4|24=>67|3=>3|n=>n,fun|n=>n⟩
theorem Tryz.lays104:Go.Proofs.Lays.n104 Tryz.prog Tryz.lays104_ren:={
 mixed:=by kernel_rfl
 f104:=Tryz.func99.trans (congrArg some (by kernel_rfl))
 f207:=Tryz.func225.trans (congrArg some (by kernel_rfl))
 f211:=Tryz.func163.trans (congrArg some (by kernel_rfl))
 t3:=Tryz.underlying3
 a3:=Tryz.isAgg3
 z3:=Tryz.sizeOf3
 v3:=Tryz.zeroValue3
 t4:=Tryz.underlying4
 a4:=Tryz.isAgg4
 z4:=Tryz.sizeOf4
 v4:=Tryz.zeroValue4
 t9:=Tryz.underlying9
 a9:=Tryz.isAgg9
 z9:=Tryz.sizeOf9
 v9:=Tryz.zeroValue9
 t24:=Tryz.underlying67
 a24:=Tryz.isAgg67
 z24:=Tryz.sizeOf67
 v24:=Tryz.zeroValue67}
open Go.RowKit in
theorem Tryz.strings_CutSuffix (s p:ByteArray) (w:World) (hs:s.size≤9223372036854775807) :
 Calls Tryz.prog 99 #[.string s,.string p] w fun e w'=>e=.returned (.tuple #[.string ⟨(Lib.trimSuffix s.data.toList p.data.toList).toArray⟩,.bool (Lib.hasSuffix s.data.toList p.data.toList)])∧w'=w:=Any.strings_CutSuffix Tryz.lays104 s p w hs
def Tryz.lays122_ren:Go.Shelf.Ren:=⟨fun|122=>81|215=>138|n=>n,fun|3=>3|4=>4|n=>n,fun|n=>n⟩
theorem Tryz.lays122:Go.Proofs.Lays.n122 Tryz.prog Tryz.lays122_ren:={
 mixed:=by kernel_rfl
 f122:=Tryz.func81.trans (congrArg some (by kernel_rfl))
 f215:=Tryz.func138.trans (congrArg some (by kernel_rfl))
 t3:=Tryz.underlying3
 a3:=Tryz.isAgg3
 z3:=Tryz.sizeOf3
 v3:=Tryz.zeroValue3
 t4:=Tryz.underlying4
 a4:=Tryz.isAgg4
 z4:=Tryz.sizeOf4
 v4:=Tryz.zeroValue4}
open Go.RowKit in
theorem Tryz.cmp_Compare_int (x y:Int) (w:World) :
 Calls Tryz.prog 81 #[.int .i64 x,.int .i64 y] w fun e w'=>e=.returned (.int .i64 (Lib.compareInt x y))∧w'=w:=Any.cmp_Compare_int Tryz.lays122 x y w
def Tryz.laysM171_ren:Go.Shelf.Ren:=⟨fun|171=>71|243=>131|246=>195|283=>245|284=>246|285=>247|286=>248|129=>148|317=>289|318=>290|319=>291|320=>292|337=>316|338=>317|n=>n,fun|3=>3|9=>9|2=>2|4=>4|171=>279|0=>0|53=>202|37=>120|5=>5|173=>281|212=>316|51=>200|20=>20|213=>317|46=>143|232=>352|233=>353|n=>n,fun|17=>1|18=>6|19=>7|n=>n⟩
theorem Tryz.laysM171:Go.Proofs.LaysM.n171 Tryz.prog Tryz.laysM171_ren:={
 mixed:=by kernel_rfl
 f129:=Tryz.func148.trans (congrArg some (by kernel_rfl))
 f171:=Tryz.func71.trans (congrArg some (by kernel_rfl))
 f243:=Tryz.func131.trans (congrArg some (by kernel_rfl))
 f246:=Tryz.func195.trans (congrArg some (by kernel_rfl))
 f283:=Tryz.func245.trans (congrArg some (by kernel_rfl))
 f284:=Tryz.func246.trans (congrArg some (by kernel_rfl))
 f285:=Tryz.func247.trans (congrArg some (by kernel_rfl))
 f286:=Tryz.func248.trans (congrArg some (by kernel_rfl))
 f317:=Tryz.func289.trans (congrArg some (by kernel_rfl))
 f318:=Tryz.func290.trans (congrArg some (by kernel_rfl))
 f319:=Tryz.func291.trans (congrArg some (by kernel_rfl))
 f320:=Tryz.func292.trans (congrArg some (by kernel_rfl))
 f337:=Tryz.func316.trans (congrArg some (by kernel_rfl))
 f338:=Tryz.func317.trans (congrArg some (by kernel_rfl))
 t0:=Tryz.underlying0
 a0:=Tryz.isAgg0
 z0:=Tryz.sizeOf0
 v0:=Tryz.zeroValue0
 t2:=Tryz.underlying2
 a2:=Tryz.isAgg2
 z2:=Tryz.sizeOf2
 v2:=Tryz.zeroValue2
 t3:=Tryz.underlying3
 a3:=Tryz.isAgg3
 z3:=Tryz.sizeOf3
 v3:=Tryz.zeroValue3
 t4:=Tryz.underlying4
 a4:=Tryz.isAgg4
 z4:=Tryz.sizeOf4
 v4:=Tryz.zeroValue4
 t5:=Tryz.underlying5
 a5:=Tryz.isAgg5
 z5:=Tryz.sizeOf5
 v5:=Tryz.zeroValue5
 t9:=Tryz.underlying9
 a9:=Tryz.isAgg9
 z9:=Tryz.sizeOf9
 v9:=Tryz.zeroValue9
 t20:=Tryz.underlying20
 a20:=Tryz.isAgg20
 z20:=Tryz.sizeOf20
 v20:=Tryz.zeroValue20
 t37:=Tryz.underlying120
 a37:=Tryz.isAgg120
 z37:=Tryz.sizeOf120
 v37:=Tryz.zeroValue120
 t46:=Tryz.underlying143
 a46:=Tryz.isAgg143
 z46:=Tryz.sizeOf143
 v46:=Tryz.zeroValue143
 t51:=Tryz.underlying200
 a51:=Tryz.isAgg200
 z51:=Tryz.sizeOf200
 v51:=Tryz.zeroValue200
 t53:=Tryz.underlying202
 a53:=Tryz.isAgg202
 z53:=Tryz.sizeOf202
 v53:=Tryz.zeroValue202
 t171:=Tryz.underlying279
 a171:=Tryz.isAgg279
 z171:=Tryz.sizeOf279
 v171:=Tryz.zeroValue279
 t173:=Tryz.underlying281
 a173:=Tryz.isAgg281
 z173:=Tryz.sizeOf281
 v173:=Tryz.zeroValue281
 t212:=Tryz.underlying316
 a212:=Tryz.isAgg316
 z212:=Tryz.sizeOf316
 v212:=Tryz.zeroValue316
 t213:=Tryz.underlying317
 a213:=Tryz.isAgg317
 z213:=Tryz.sizeOf317
 t232:=Tryz.underlying352
 a232:=Tryz.isAgg352
 z232:=Tryz.sizeOf352
 v232:=Tryz.zeroValue352
 t233:=Tryz.underlying353
 a233:=Tryz.isAgg353
 z233:=Tryz.sizeOf353
 v233:=Tryz.zeroValue353
 g17:=by kernel_rfl
 g18:=by kernel_rfl
 g19:=by kernel_rfl
 i0:=by kernel_rfl
 i2:=by kernel_rfl
 i3:=by kernel_rfl
 i4:=by kernel_rfl
 i5:=by kernel_rfl
 i9:=by kernel_rfl
 i20:=by kernel_rfl
 i37:=by kernel_rfl
 i46:=by kernel_rfl
 i51:=by kernel_rfl
 i53:=by kernel_rfl
 i171:=by kernel_rfl
 i173:=by kernel_rfl
 i212:=by kernel_rfl
 i232:=by kernel_rfl
 i233:=by kernel_rfl
 m17:=by kernel_rfl
 m18:=by kernel_rfl
 m19:=by kernel_rfl}
open Go.RowKit Go.Sort Go.Lib in
theorem Tryz.strconv_Itoa (n:Int) (h0:-9223372036854775808≤n) (h1:n≤9223372036854775807) (w:World) (htab:Lib.TabIs Tryz.prog w "internal/strconv.uint64pow10" .u64 Lib.pow10Tab) :
 Calls Tryz.prog 71 #[.int .i64 n] w fun e w'=>e=.returned (.string ⟨(Lib.itoa n).toArray⟩)∧∃ k os,w'=grow (w.drewN k) os:=Any.strconv_Itoa Tryz.laysM171 n h0 h1 w htab
def Tryz.lays143_ren:Go.Shelf.Ren:=⟨fun|143=>239|219=>277|217=>307|225=>308|224=>309|267=>310|266=>330|314=>331|n=>n,fun|9=>9|3=>3|4=>4|5=>5|46=>143|146=>349|51=>200|n=>n,fun|1=>0|n=>n⟩
theorem Tryz.lays143:Go.Proofs.Lays.n143 Tryz.prog Tryz.lays143_ren:={
 mixed:=by kernel_rfl
 f143:=Tryz.func239.trans (congrArg some (by kernel_rfl))
 f217:=Tryz.func307.trans (congrArg some (by kernel_rfl))
 f219:=Tryz.func277.trans (congrArg some (by kernel_rfl))
 f224:=Tryz.func309.trans (congrArg some (by kernel_rfl))
 f225:=Tryz.func308.trans (congrArg some (by kernel_rfl))
 f266:=Tryz.func330.trans (congrArg some (by kernel_rfl))
 f267:=Tryz.func310.trans (congrArg some (by kernel_rfl))
 f314:=Tryz.func331.trans (congrArg some (by kernel_rfl))
 t3:=Tryz.underlying3
 a3:=Tryz.isAgg3
 z3:=Tryz.sizeOf3
 v3:=Tryz.zeroValue3
 t4:=Tryz.underlying4
 a4:=Tryz.isAgg4
 z4:=Tryz.sizeOf4
 v4:=Tryz.zeroValue4
 t5:=Tryz.underlying5
 a5:=Tryz.isAgg5
 z5:=Tryz.sizeOf5
 v5:=Tryz.zeroValue5
 t9:=Tryz.underlying9
 a9:=Tryz.isAgg9
 z9:=Tryz.sizeOf9
 v9:=Tryz.zeroValue9
 t46:=Tryz.underlying143
 a46:=Tryz.isAgg143
 z46:=Tryz.sizeOf143
 v46:=Tryz.zeroValue143
 t51:=Tryz.underlying200
 a51:=Tryz.isAgg200
 z51:=Tryz.sizeOf200
 v51:=Tryz.zeroValue200
 t146:=Tryz.underlying349
 a146:=Tryz.isAgg349
 z146:=Tryz.sizeOf349
 v146:=Tryz.zeroValue349
 g1:=by kernel_rfl}
open Go.RowKit Go.Lib in
theorem Tryz.strings_Index (s sub:ByteArray) (m:Int) (w:World) (hs:s.size<4294967281) (hm:w.cell? ⟨0,0,none⟩=some (.int .i64 m)) :
 Calls Tryz.prog 239 #[.string s,.string sub] w fun e w'=>e=.returned (.int .i64 (Lib.index s.data.toList sub.data.toList))∧w'=w:=Any.strings_Index Tryz.lays143 s sub m w hs hm
def Tryz.lays149_ren:Go.Shelf.Ren:=⟨fun|149=>121|222=>177|n=>n,fun|9=>9|5=>5|3=>3|4=>4|n=>n,fun|n=>n⟩
theorem Tryz.lays149:Go.Proofs.Lays.n149 Tryz.prog Tryz.lays149_ren:={
 mixed:=by kernel_rfl
 f149:=Tryz.func121.trans (congrArg some (by kernel_rfl))
 f222:=Tryz.func177.trans (congrArg some (by kernel_rfl))
 t3:=Tryz.underlying3
 a3:=Tryz.isAgg3
 z3:=Tryz.sizeOf3
 v3:=Tryz.zeroValue3
 t4:=Tryz.underlying4
 a4:=Tryz.isAgg4
 z4:=Tryz.sizeOf4
 v4:=Tryz.zeroValue4
 t5:=Tryz.underlying5
 a5:=Tryz.isAgg5
 z5:=Tryz.sizeOf5
 v5:=Tryz.zeroValue5
 t9:=Tryz.underlying9
 a9:=Tryz.isAgg9
 z9:=Tryz.sizeOf9
 v9:=Tryz.zeroValue9}
open Go.RowKit Go.Lib in
theorem Tryz.strings_LastIndexByte (s:ByteArray) (c:Int) (hs:s.size<4611686018427387904) (w:World) :
 Calls Tryz.prog 121 #[.string s,.int .u8 c] w fun e w'=>e=.returned (.int .i64 (Lib.lastIndexByte s c))∧w'=w:=Any.strings_LastIndexByte Tryz.lays149 s c hs w
def Tryz.lays99_ren:Go.Shelf.Ren:=⟨fun|99=>118|206=>175|n=>n,fun|9=>9|4=>4|3=>3|n=>n,fun|n=>n⟩
theorem Tryz.lays99:Go.Proofs.Lays.n99 Tryz.prog Tryz.lays99_ren:={
 mixed:=by kernel_rfl
 f99:=Tryz.func118.trans (congrArg some (by kernel_rfl))
 f206:=Tryz.func175.trans (congrArg some (by kernel_rfl))
 t3:=Tryz.underlying3
 a3:=Tryz.isAgg3
 z3:=Tryz.sizeOf3
 v3:=Tryz.zeroValue3
 t4:=Tryz.underlying4
 a4:=Tryz.isAgg4
 z4:=Tryz.sizeOf4
 v4:=Tryz.zeroValue4
 t9:=Tryz.underlying9
 a9:=Tryz.isAgg9
 z9:=Tryz.sizeOf9
 v9:=Tryz.zeroValue9}
open Go.RowKit Go.Lib in
theorem Tryz.strings_HasPrefix (s p:ByteArray) (w:World) :
 Calls Tryz.prog 118 #[.string s,.string p] w fun e w'=>e=.returned (.bool (Lib.hasPrefix s.data.toList p.data.toList))∧w'=w:=Any.strings_HasPrefix Tryz.lays99 s p w
def Tryz.lays146_ren:Go.Shelf.Ren:=⟨fun|146=>119|221=>176|268=>237|138=>238|143=>239|195=>275|197=>241|218=>276|219=>277|260=>278|217=>307|225=>308|224=>309|267=>310|266=>330|314=>331|n=>n,fun|9=>9|31=>53|3=>3|4=>4|0=>0|105=>275|21=>21|5=>5|46=>143|119=>332|139=>335|138=>334|146=>349|51=>200|n=>n,fun|1=>0|3=>4|4=>5|n=>n⟩
theorem Tryz.lays146:Go.Proofs.Lays.n146 Tryz.prog Tryz.lays146_ren:={
 mixed:=by kernel_rfl
 f138:=Tryz.func238.trans (congrArg some (by kernel_rfl))
 f143:=Tryz.func239.trans (congrArg some (by kernel_rfl))
 f146:=Tryz.func119.trans (congrArg some (by kernel_rfl))
 f195:=Tryz.func275.trans (congrArg some (by kernel_rfl))
 f197:=Tryz.func241.trans (congrArg some (by kernel_rfl))
 f217:=Tryz.func307.trans (congrArg some (by kernel_rfl))
 f218:=Tryz.func276.trans (congrArg some (by kernel_rfl))
 f219:=Tryz.func277.trans (congrArg some (by kernel_rfl))
 f221:=Tryz.func176.trans (congrArg some (by kernel_rfl))
 f224:=Tryz.func309.trans (congrArg some (by kernel_rfl))
 f225:=Tryz.func308.trans (congrArg some (by kernel_rfl))
 f260:=Tryz.func278.trans (congrArg some (by kernel_rfl))
 f266:=Tryz.func330.trans (congrArg some (by kernel_rfl))
 f267:=Tryz.func310.trans (congrArg some (by kernel_rfl))
 f268:=Tryz.func237.trans (congrArg some (by kernel_rfl))
 f314:=Tryz.func331.trans (congrArg some (by kernel_rfl))
 t0:=Tryz.underlying0
 a0:=Tryz.isAgg0
 z0:=Tryz.sizeOf0
 v0:=Tryz.zeroValue0
 t3:=Tryz.underlying3
 a3:=Tryz.isAgg3
 z3:=Tryz.sizeOf3
 v3:=Tryz.zeroValue3
 t4:=Tryz.underlying4
 a4:=Tryz.isAgg4
 z4:=Tryz.sizeOf4
 v4:=Tryz.zeroValue4
 t5:=Tryz.underlying5
 a5:=Tryz.isAgg5
 z5:=Tryz.sizeOf5
 v5:=Tryz.zeroValue5
 t9:=Tryz.underlying9
 a9:=Tryz.isAgg9
 z9:=Tryz.sizeOf9
 v9:=Tryz.zeroValue9
 t21:=Tryz.underlying21
 a21:=Tryz.isAgg21
 z21:=Tryz.sizeOf21
 v21:=Tryz.zeroValue21
 t31:=Tryz.underlying53
 a31:=Tryz.isAgg53
 z31:=Tryz.sizeOf53
 v31:=Tryz.zeroValue53
 t46:=Tryz.underlying143
 a46:=Tryz.isAgg143
 z46:=Tryz.sizeOf143
 v46:=Tryz.zeroValue143
 t51:=Tryz.underlying200
 a51:=Tryz.isAgg200
 z51:=Tryz.sizeOf200
 v51:=Tryz.zeroValue200
 t105:=Tryz.underlying275
 a105:=Tryz.isAgg275
 z105:=Tryz.sizeOf275
 v105:=Tryz.zeroValue275
 t119:=Tryz.underlying332
 a119:=Tryz.isAgg332
 z119:=Tryz.sizeOf332
 t138:=Tryz.underlying334
 a138:=Tryz.isAgg334
 z138:=Tryz.sizeOf334
 v138:=Tryz.zeroValue334
 t139:=Tryz.underlying335
 a139:=Tryz.isAgg335
 z139:=Tryz.sizeOf335
 v139:=Tryz.zeroValue335
 t146:=Tryz.underlying349
 a146:=Tryz.isAgg349
 z146:=Tryz.sizeOf349
 v146:=Tryz.zeroValue349
 g1:=by kernel_rfl
 g3:=by kernel_rfl
 g4:=by kernel_rfl}
open Go.RowKit Go.Lib in
theorem Tryz.strings_Split (s sep:ByteArray) (m:Int) (w:World) (hs:s.size<4294967281) (hm:w.cell? ⟨0,0,none⟩=some (.int .i64 m)) (h1:1≤sep.size) :
 Calls Tryz.prog 119 #[.string s,.string sep] w fun e w'=>
  e=.returned (.slice (some ⟨w.heap.size,0,none⟩) (Lib.countB s sep+1) (Lib.countB s sep+1))∧w'=w.alloc (.cells ((Lib.splitB sep 0 (Lib.countB s sep) s).map Value.string).toArray 9):=Any.strings_Split Tryz.lays146 (by kernel_rfl) s sep m w hs hm h1
def Tryz.laysM146_ren:Go.Shelf.Ren:=⟨fun|146=>119|221=>176|268=>237|138=>238|143=>239|195=>275|197=>241|218=>276|219=>277|260=>278|217=>307|225=>308|224=>309|267=>310|266=>330|314=>331|n=>n,fun|9=>9|31=>53|3=>3|4=>4|0=>0|105=>275|21=>21|5=>5|46=>143|119=>332|139=>335|138=>334|146=>349|51=>200|n=>n,fun|1=>0|3=>4|4=>5|n=>n⟩
theorem Tryz.laysM146:Go.Proofs.LaysM.n146 Tryz.prog Tryz.laysM146_ren:={
 mixed:=by kernel_rfl
 f138:=Tryz.func238.trans (congrArg some (by kernel_rfl))
 f143:=Tryz.func239.trans (congrArg some (by kernel_rfl))
 f146:=Tryz.func119.trans (congrArg some (by kernel_rfl))
 f195:=Tryz.func275.trans (congrArg some (by kernel_rfl))
 f197:=Tryz.func241.trans (congrArg some (by kernel_rfl))
 f217:=Tryz.func307.trans (congrArg some (by kernel_rfl))
 f218:=Tryz.func276.trans (congrArg some (by kernel_rfl))
 f219:=Tryz.func277.trans (congrArg some (by kernel_rfl))
 f221:=Tryz.func176.trans (congrArg some (by kernel_rfl))
 f224:=Tryz.func309.trans (congrArg some (by kernel_rfl))
 f225:=Tryz.func308.trans (congrArg some (by kernel_rfl))
 f260:=Tryz.func278.trans (congrArg some (by kernel_rfl))
 f266:=Tryz.func330.trans (congrArg some (by kernel_rfl))
 f267:=Tryz.func310.trans (congrArg some (by kernel_rfl))
 f268:=Tryz.func237.trans (congrArg some (by kernel_rfl))
 f314:=Tryz.func331.trans (congrArg some (by kernel_rfl))
 t0:=Tryz.underlying0
 a0:=Tryz.isAgg0
 z0:=Tryz.sizeOf0
 v0:=Tryz.zeroValue0
 t3:=Tryz.underlying3
 a3:=Tryz.isAgg3
 z3:=Tryz.sizeOf3
 v3:=Tryz.zeroValue3
 t4:=Tryz.underlying4
 a4:=Tryz.isAgg4
 z4:=Tryz.sizeOf4
 v4:=Tryz.zeroValue4
 t5:=Tryz.underlying5
 a5:=Tryz.isAgg5
 z5:=Tryz.sizeOf5
 v5:=Tryz.zeroValue5
 t9:=Tryz.underlying9
 a9:=Tryz.isAgg9
 z9:=Tryz.sizeOf9
 v9:=Tryz.zeroValue9
 t21:=Tryz.underlying21
 a21:=Tryz.isAgg21
 z21:=Tryz.sizeOf21
 v21:=Tryz.zeroValue21
 t31:=Tryz.underlying53
 a31:=Tryz.isAgg53
 z31:=Tryz.sizeOf53
 v31:=Tryz.zeroValue53
 t46:=Tryz.underlying143
 a46:=Tryz.isAgg143
 z46:=Tryz.sizeOf143
 v46:=Tryz.zeroValue143
 t51:=Tryz.underlying200
 a51:=Tryz.isAgg200
 z51:=Tryz.sizeOf200
 v51:=Tryz.zeroValue200
 t105:=Tryz.underlying275
 a105:=Tryz.isAgg275
 z105:=Tryz.sizeOf275
 v105:=Tryz.zeroValue275
 t119:=Tryz.underlying332
 a119:=Tryz.isAgg332
 z119:=Tryz.sizeOf332
 t138:=Tryz.underlying334
 a138:=Tryz.isAgg334
 z138:=Tryz.sizeOf334
 v138:=Tryz.zeroValue334
 t139:=Tryz.underlying335
 a139:=Tryz.isAgg335
 z139:=Tryz.sizeOf335
 v139:=Tryz.zeroValue335
 t146:=Tryz.underlying349
 a146:=Tryz.isAgg349
 z146:=Tryz.sizeOf349
 v146:=Tryz.zeroValue349
 g1:=by kernel_rfl
 g3:=by kernel_rfl
 g4:=by kernel_rfl
 i0:=by kernel_rfl
 i3:=by kernel_rfl
 i4:=by kernel_rfl
 i5:=by kernel_rfl
 i9:=by kernel_rfl
 i21:=by kernel_rfl
 i31:=by kernel_rfl
 i46:=by kernel_rfl
 i51:=by kernel_rfl
 i105:=by kernel_rfl
 i138:=by kernel_rfl
 i139:=by kernel_rfl
 i146:=by kernel_rfl
 m1:=by kernel_rfl
 s1_3:=fun w h=>Go.Proofs.cell_of_shapedOpen_int (zero:=#[.int .i64 0]) (t:=3) h (of_decide_eq_true (by kernel_rfl)) (by kernel_rfl) rfl (by kernel_rfl) (by kernel_rfl) Tryz.underlying3
 m3:=by kernel_rfl
 m4:=by kernel_rfl}
def Tryz.lays193_ren:Go.Shelf.Ren:=⟨fun|193=>75|n=>n,fun|31=>53|9=>9|4=>4|3=>3|0=>0|n=>n,fun|n=>n⟩
theorem Tryz.lays193:Go.Proofs.Lays.n193 Tryz.prog Tryz.lays193_ren:={
 mixed:=by kernel_rfl
 f193:=Tryz.func75.trans (congrArg some (by kernel_rfl))
 t0:=Tryz.underlying0
 a0:=Tryz.isAgg0
 z0:=Tryz.sizeOf0
 v0:=Tryz.zeroValue0
 t3:=Tryz.underlying3
 a3:=Tryz.isAgg3
 z3:=Tryz.sizeOf3
 v3:=Tryz.zeroValue3
 t4:=Tryz.underlying4
 a4:=Tryz.isAgg4
 z4:=Tryz.sizeOf4
 v4:=Tryz.zeroValue4
 t9:=Tryz.underlying9
 a9:=Tryz.isAgg9
 z9:=Tryz.sizeOf9
 v9:=Tryz.zeroValue9
 t31:=Tryz.underlying53
 a31:=Tryz.isAgg53
 z31:=Tryz.sizeOf53
 v31:=Tryz.zeroValue53}
open Go.RowKit Go.Lib in
theorem Tryz.slices_Equal_string (b1 o1 n c b2 o2 m d:Nat) (xs ys:List ByteArray) (w:World) (hx:n≤xs.length) (hy:m≤ys.length) (hbig:n≤9223372036854775807) (hbig2:m≤9223372036854775807) (hc1:∀ j,j<xs.length→w.cell? ⟨b1,o1+j,none⟩=some (.string (xs.getD j ByteArray.empty))) (hc2:∀ j,j<ys.length→w.cell? ⟨b2,o2+j,none⟩=some (.string (ys.getD j ByteArray.empty))) :
 Calls Tryz.prog 75 #[.slice (some ⟨b1,o1,none⟩) n c,.slice (some ⟨b2,o2,none⟩) m d] w fun e w'=>e=.returned (.bool (decide (xs.take n=ys.take m)))∧∃ q,w'=w.drewN q:=Any.slices_Equal_string Tryz.lays193 b1 o1 n c b2 o2 m d xs ys w hx hy hbig hbig2 hc1 hc2
open Go.RowKit Go.Lib in
theorem Tryz.slices_Equal_string_empty (a1 a2:Option Addr) (c m d:Nat) (w:World) (hbig2:m≤9223372036854775807) :
 Calls Tryz.prog 75 #[.slice a1 0 c,.slice a2 m d] w fun e w'=>e=.returned (.bool (decide (m=0)))∧w'=w:=Any.slices_Equal_string_empty Tryz.lays193 a1 a2 c m d w hbig2
open Go.RowKit Go.Lib in
theorem Tryz.slices_Equal_string_lens (a1 a2:Option Addr) (n c m d:Nat) (w:World) (hnm:n≠m) :
 Calls Tryz.prog 75 #[.slice a1 n c,.slice a2 m d] w fun e w'=>e=.returned (.bool false)∧w'=w:=Any.slices_Equal_string_lens Tryz.lays193 a1 a2 n c m d w hnm
def Tryz.laysSlF6_f77_ren:Go.Shelf.Ren:=⟨fun|6=>77|15=>83|14=>136|28=>147|29=>148|20=>197|21=>198|22=>199|23=>200|24=>201|25=>202|26=>203|27=>204|46=>252|47=>207|48=>208|49=>253|50=>254|57=>293|n=>n,fun|22=>75|24=>3|25=>140|3=>3|39=>143|0=>0|53=>200|55=>202|4=>4|46=>194|45=>193|50=>165|5=>5|9=>9|66=>252|70=>256|76=>287|77=>288|n=>n,fun|n=>n⟩
theorem Tryz.laysSlF6_f77:Go.Proofs.SlLaysF.n6 Tryz.prog Tryz.laysSlF6_f77_ren:={
 mixed:=by kernel_rfl
 f6:=⟨Tryz.f77.name,by decide,Tryz.func77.trans (congrArg some (by kernel_rfl))⟩
 f14:=⟨Tryz.f136.name,by decide,Tryz.func136.trans (congrArg some (by kernel_rfl))⟩
 f15:=Tryz.func83.trans (congrArg some (by kernel_rfl))
 f20:=⟨Tryz.f197.name,by decide,Tryz.func197.trans (congrArg some (by kernel_rfl))⟩
 f21:=⟨Tryz.f198.name,by decide,Tryz.func198.trans (congrArg some (by kernel_rfl))⟩
 f22:=⟨Tryz.f199.name,by decide,Tryz.func199.trans (congrArg some (by kernel_rfl))⟩
 f23:=⟨Tryz.f200.name,by decide,Tryz.func200.trans (congrArg some (by kernel_rfl))⟩
 f24:=⟨Tryz.f201.name,by decide,Tryz.func201.trans (congrArg some (by kernel_rfl))⟩
 f25:=⟨Tryz.f202.name,by decide,Tryz.func202.trans (congrArg some (by kernel_rfl))⟩
 f26:=⟨Tryz.f203.name,by decide,Tryz.func203.trans (congrArg some (by kernel_rfl))⟩
 f27:=⟨Tryz.f204.name,by decide,Tryz.func204.trans (congrArg some (by kernel_rfl))⟩
 f28:=Tryz.func147.trans (congrArg some (by kernel_rfl))
 f29:=Tryz.func148.trans (congrArg some (by kernel_rfl))
 f46:=⟨Tryz.f252.name,by decide,Tryz.func252.trans (congrArg some (by kernel_rfl))⟩
 f47:=Tryz.func207.trans (congrArg some (by kernel_rfl))
 f48:=Tryz.func208.trans (congrArg some (by kernel_rfl))
 f49:=⟨Tryz.f253.name,by decide,Tryz.func253.trans (congrArg some (by kernel_rfl))⟩
 f50:=⟨Tryz.f254.name,by decide,Tryz.func254.trans (congrArg some (by kernel_rfl))⟩
 f57:=⟨Tryz.f293.name,by decide,Tryz.func293.trans (congrArg some (by kernel_rfl))⟩
 t0:=Tryz.underlying0
 a0:=Tryz.isAgg0
 z0:=Tryz.sizeOf0
 v0:=Tryz.zeroValue0
 t3:=Tryz.underlying3
 a3:=Tryz.isAgg3
 z3:=Tryz.sizeOf3
 v3:=Tryz.zeroValue3
 t4:=Tryz.underlying4
 a4:=Tryz.isAgg4
 z4:=Tryz.sizeOf4
 v4:=Tryz.zeroValue4
 t5:=Tryz.underlying5
 a5:=Tryz.isAgg5
 z5:=Tryz.sizeOf5
 v5:=Tryz.zeroValue5
 t9:=Tryz.underlying9
 a9:=Tryz.isAgg9
 z9:=Tryz.sizeOf9
 v9:=Tryz.zeroValue9
 t22:=Tryz.underlying75
 a22:=Tryz.isAgg75
 z22:=Tryz.sizeOf75
 v22:=Tryz.zeroValue75
 a24:=Tryz.isAgg3
 z24:=Tryz.sizeOf3
 t25:=Tryz.underlying140
 a25:=Tryz.isAgg140
 z25:=Tryz.sizeOf140
 v25:=Tryz.zeroValue140
 t39:=Tryz.underlying143
 a39:=Tryz.isAgg143
 z39:=Tryz.sizeOf143
 v39:=Tryz.zeroValue143
 t45:=Tryz.underlying193
 a45:=Tryz.isAgg193
 z45:=Tryz.sizeOf193
 v45:=Tryz.zeroValue193
 t46:=Tryz.underlying194
 a46:=Tryz.isAgg194
 z46:=Tryz.sizeOf194
 v46:=Tryz.zeroValue194
 t50:=Tryz.underlying165
 a50:=Tryz.isAgg165
 z50:=Tryz.sizeOf165
 v50:=Tryz.zeroValue165
 t53:=Tryz.underlying200
 a53:=Tryz.isAgg200
 z53:=Tryz.sizeOf200
 v53:=Tryz.zeroValue200
 t55:=Tryz.underlying202
 a55:=Tryz.isAgg202
 z55:=Tryz.sizeOf202
 v55:=Tryz.zeroValue202
 t66:=Tryz.underlying252
 a66:=Tryz.isAgg252
 z66:=Tryz.sizeOf252
 v66:=Tryz.zeroValue252
 t70:=Tryz.underlying256
 a70:=Tryz.isAgg256
 z70:=Tryz.sizeOf256
 v70:=Tryz.zeroValue256
 t76:=Tryz.underlying287
 a76:=Tryz.isAgg287
 z76:=Tryz.sizeOf287
 v76:=Tryz.zeroValue287
 t77:=Tryz.underlying288
 a77:=Tryz.isAgg288
 z77:=Tryz.sizeOf288
 v77:=Tryz.zeroValue288}
open Go.RowKit Go.Lib Go.Sort in
theorem Tryz.slices_SortFunc {α:Type} [Inhabited α] (enc:α→Value) (h1:OneCell enc) (cf:α→α→Int) (hO:SWO (ltOf cf)) (g:Nat) (cb:Array Value) (blk off cap:Nat) (d:Array α) (w:World) (eg:∀ args w,(callFunc g args).run Tryz.prog w=.ok (.enter g args) w) (hcmp:CmpLays1 Tryz.prog g cb enc cf blk off d.size w) (hH:Holds enc w blk off d) (hblk:blk<w.heap.size) (hsz:d.size<4611686018427387904) :
 Calls Tryz.prog 77 #[.slice (some ⟨blk,off,none⟩) d.size cap,.func (.func g) #[] cb] w fun e w'=>
  e=.returned (.tuple #[])∧∃ d' n os,PermIn 0 d.size d d'∧SortedIn (ltOf cf) 0 d.size d'∧w'=sortWorld enc w blk off n d' os:=Any.slices_SortFunc Tryz.laysSlF6_f77 enc h1 cf hO g cb blk off cap d w eg hcmp hH hblk hsz
def Tryz.laysTrim_ren:Go.Shelf.Ren:=⟨fun|160=>123|232=>182|231=>178|227=>179|234=>183|233=>180|236=>184|235=>181|228=>240|271=>243|151=>242|197=>241|120=>280|152=>279|260=>278|137=>311|119=>312|224=>309|225=>308|217=>307|266=>330|n=>n,fun|9=>9|4=>4|3=>3|5=>5|117=>232|116=>231|0=>0|124=>235|21=>21|105=>275|46=>143|119=>332|139=>335|138=>334|n=>n,fun|3=>4|4=>5|n=>n⟩
theorem Tryz.laysTrim:Go.Proofs.Lays.n160 Tryz.prog Tryz.laysTrim_ren:={
 mixed:=by kernel_rfl
 f119:=Tryz.func312.trans (congrArg some (by kernel_rfl))
 f120:=Tryz.func280.trans (congrArg some (by kernel_rfl))
 f137:=Tryz.func311.trans (congrArg some (by kernel_rfl))
 f151:=Tryz.func242.trans (congrArg some (by kernel_rfl))
 f152:=Tryz.func279.trans (congrArg some (by kernel_rfl))
 f160:=Tryz.func123.trans (congrArg some (by kernel_rfl))
 f197:=Tryz.func241.trans (congrArg some (by kernel_rfl))
 f217:=Tryz.func307.trans (congrArg some (by kernel_rfl))
 f224:=Tryz.func309.trans (congrArg some (by kernel_rfl))
 f225:=Tryz.func308.trans (congrArg some (by kernel_rfl))
 f227:=Tryz.func179.trans (congrArg some (by kernel_rfl))
 f228:=Tryz.func240.trans (congrArg some (by kernel_rfl))
 f231:=Tryz.func178.trans (congrArg some (by kernel_rfl))
 f232:=Tryz.func182.trans (congrArg some (by kernel_rfl))
 f233:=Tryz.func180.trans (congrArg some (by kernel_rfl))
 f234:=Tryz.func183.trans (congrArg some (by kernel_rfl))
 f235:=Tryz.func181.trans (congrArg some (by kernel_rfl))
 f236:=Tryz.func184.trans (congrArg some (by kernel_rfl))
 f260:=Tryz.func278.trans (congrArg some (by kernel_rfl))
 f266:=Tryz.func330.trans (congrArg some (by kernel_rfl))
 f271:=Tryz.func243.trans (congrArg some (by kernel_rfl))
 t0:=Tryz.underlying0
 a0:=Tryz.isAgg0
 z0:=Tryz.sizeOf0
 v0:=Tryz.zeroValue0
 t3:=Tryz.underlying3
 a3:=Tryz.isAgg3
 z3:=Tryz.sizeOf3
 v3:=Tryz.zeroValue3
 t4:=Tryz.underlying4
 a4:=Tryz.isAgg4
 z4:=Tryz.sizeOf4
 v4:=Tryz.zeroValue4
 t5:=Tryz.underlying5
 a5:=Tryz.isAgg5
 z5:=Tryz.sizeOf5
 v5:=Tryz.zeroValue5
 t9:=Tryz.underlying9
 a9:=Tryz.isAgg9
 z9:=Tryz.sizeOf9
 v9:=Tryz.zeroValue9
 t21:=Tryz.underlying21
 a21:=Tryz.isAgg21
 z21:=Tryz.sizeOf21
 v21:=Tryz.zeroValue21
 t46:=Tryz.underlying143
 a46:=Tryz.isAgg143
 z46:=Tryz.sizeOf143
 v46:=Tryz.zeroValue143
 t105:=Tryz.underlying275
 a105:=Tryz.isAgg275
 z105:=Tryz.sizeOf275
 v105:=Tryz.zeroValue275
 t116:=Tryz.underlying231
 a116:=Tryz.isAgg231
 z116:=Tryz.sizeOf231
 t117:=Tryz.underlying232
 a117:=Tryz.isAgg232
 z117:=Tryz.sizeOf232
 v117:=Tryz.zeroValue232
 t119:=Tryz.underlying332
 a119:=Tryz.isAgg332
 z119:=Tryz.sizeOf332
 t124:=Tryz.underlying235
 a124:=Tryz.isAgg235
 z124:=Tryz.sizeOf235
 v124:=Tryz.zeroValue235
 t138:=Tryz.underlying334
 a138:=Tryz.isAgg334
 z138:=Tryz.sizeOf334
 v138:=Tryz.zeroValue334
 t139:=Tryz.underlying335
 a139:=Tryz.isAgg335
 z139:=Tryz.sizeOf335
 v139:=Tryz.zeroValue335
 g3:=by kernel_rfl
 g4:=by kernel_rfl}
def Tryz.laysTrimLeft_ren:Go.Shelf.Ren:=⟨fun|161=>122|231=>178|227=>179|233=>180|235=>181|228=>240|197=>241|151=>242|260=>278|152=>279|137=>311|119=>312|224=>309|225=>308|217=>307|266=>330|n=>n,fun|9=>9|4=>4|3=>3|5=>5|117=>232|116=>231|0=>0|124=>235|105=>275|21=>21|119=>332|46=>143|139=>335|138=>334|n=>n,fun|3=>4|4=>5|n=>n⟩
theorem Tryz.laysTrimLeft:Go.Proofs.Lays.n161 Tryz.prog Tryz.laysTrimLeft_ren:={
 mixed:=by kernel_rfl
 f119:=Tryz.func312.trans (congrArg some (by kernel_rfl))
 f137:=Tryz.func311.trans (congrArg some (by kernel_rfl))
 f151:=Tryz.func242.trans (congrArg some (by kernel_rfl))
 f152:=Tryz.func279.trans (congrArg some (by kernel_rfl))
 f161:=Tryz.func122.trans (congrArg some (by kernel_rfl))
 f197:=Tryz.func241.trans (congrArg some (by kernel_rfl))
 f217:=Tryz.func307.trans (congrArg some (by kernel_rfl))
 f224:=Tryz.func309.trans (congrArg some (by kernel_rfl))
 f225:=Tryz.func308.trans (congrArg some (by kernel_rfl))
 f227:=Tryz.func179.trans (congrArg some (by kernel_rfl))
 f228:=Tryz.func240.trans (congrArg some (by kernel_rfl))
 f231:=Tryz.func178.trans (congrArg some (by kernel_rfl))
 f233:=Tryz.func180.trans (congrArg some (by kernel_rfl))
 f235:=Tryz.func181.trans (congrArg some (by kernel_rfl))
 f260:=Tryz.func278.trans (congrArg some (by kernel_rfl))
 f266:=Tryz.func330.trans (congrArg some (by kernel_rfl))
 t0:=Tryz.underlying0
 a0:=Tryz.isAgg0
 z0:=Tryz.sizeOf0
 v0:=Tryz.zeroValue0
 t3:=Tryz.underlying3
 a3:=Tryz.isAgg3
 z3:=Tryz.sizeOf3
 v3:=Tryz.zeroValue3
 t4:=Tryz.underlying4
 a4:=Tryz.isAgg4
 z4:=Tryz.sizeOf4
 v4:=Tryz.zeroValue4
 t5:=Tryz.underlying5
 a5:=Tryz.isAgg5
 z5:=Tryz.sizeOf5
 v5:=Tryz.zeroValue5
 t9:=Tryz.underlying9
 a9:=Tryz.isAgg9
 z9:=Tryz.sizeOf9
 v9:=Tryz.zeroValue9
 t21:=Tryz.underlying21
 a21:=Tryz.isAgg21
 z21:=Tryz.sizeOf21
 v21:=Tryz.zeroValue21
 t46:=Tryz.underlying143
 a46:=Tryz.isAgg143
 z46:=Tryz.sizeOf143
 v46:=Tryz.zeroValue143
 t105:=Tryz.underlying275
 a105:=Tryz.isAgg275
 z105:=Tryz.sizeOf275
 v105:=Tryz.zeroValue275
 t116:=Tryz.underlying231
 a116:=Tryz.isAgg231
 z116:=Tryz.sizeOf231
 t117:=Tryz.underlying232
 a117:=Tryz.isAgg232
 z117:=Tryz.sizeOf232
 v117:=Tryz.zeroValue232
 t119:=Tryz.underlying332
 a119:=Tryz.isAgg332
 z119:=Tryz.sizeOf332
 t124:=Tryz.underlying235
 a124:=Tryz.isAgg235
 z124:=Tryz.sizeOf235
 v124:=Tryz.zeroValue235
 t138:=Tryz.underlying334
 a138:=Tryz.isAgg334
 z138:=Tryz.sizeOf334
 v138:=Tryz.zeroValue334
 t139:=Tryz.underlying335
 a139:=Tryz.isAgg335
 z139:=Tryz.sizeOf335
 v139:=Tryz.zeroValue335
 g3:=by kernel_rfl
 g4:=by kernel_rfl}
end Go.Proofs
namespace Go.Proofs.YthbnmehbhpakaaaGreatDoor
open Go.RowKit
def flat1:DataW Unit→List Value
 | .lit (.int k n)=>[.int k n]
 | _=>[]
def flat2:DataW Unit→List Value
 | .agg l=>(l.map flat1).flatten
 | d=>flat1 d
def flat3:DataW Unit→List Value
 | .agg l=>(l.map flat2).flatten
 | d=>flat2 d
abbrev Tab (W:World):Prop:=Lib.TabIs Tryz.prog W "internal/strconv.uint64pow10" .u64 Lib.pow10Tab
theorem zAG {w W:World} (h:Tab w) (hb:Below w.heap.size w W):Tab W:=by
 unfold Tab Lib.TabIs World.var? at *
 cases hg:Tryz.prog.globalNamed "internal/strconv.uint64pow10" with
 | none=>rw[hg] at h;exact h
 | some g=>
   rw[hg] at h
   simp only[Option.bind_some] at *
   have hlt:g<w.heap.size:=by
    rcases Nat.lt_or_ge g w.heap.size with h'|h'
    ·exact h'
    ·rw[Array.getElem?_eq_none h'] at h;cases h
   rw[hb.block g hlt]
   exact h
end Go.Proofs.YthbnmehbhpakaaaGreatDoor
namespace Go.Proofs.YthbnmehbhpakaaaGreatDoor
def itoaB (n:Int):ByteArray:=⟨(Lib.itoa n).toArray⟩
end Go.Proofs.YthbnmehbhpakaaaGreatDoor
namespace Go.Proofs.YthbnmehbhpakaaaGreatDoor
open Go.Rows Go.RowKit Go.Shelf Go.Sort
theorem zEO (n:Int) (hn:I64 n) (W:World) (ht:Tab W):Calls Tryz.prog 71 #[.int .i64 n] W fun e w'=>e=.returned (.string (itoaB n))∧Below W.heap.size W w':=
 (Tryz.strconv_Itoa n hn.1 hn.2 W ht).mono fun e w' ⟨he,k,os,hw⟩=>⟨he,by rw[hw];exact Lib.below_grow _ _ (nR _) _ _⟩
end Go.Proofs.YthbnmehbhpakaaaGreatDoor
namespace Go.Proofs.YthbnmehbhpakaaaGreatDoor
theorem zP1 {a b:ByteArray} (h:a.toList=b.toList):a=b:=by
 rw[Go.ByteArray.toList_eq,Go.ByteArray.toList_eq] at h
 obtain ⟨⟨l⟩⟩:=a
 obtain ⟨⟨k⟩⟩:=b
 have:l=k:=h
 rw[this]
theorem zPc (a b:ByteArray):(a.toList==b.toList)=decide (a=b):=by
 by_cases h:a=b
 ·subst h;simp
 ·have:¬a.toList=b.toList:=fun e=>h (zP1 e)
  simp[h,this]
theorem zB9 {α:Type} {xs ys:List α} {k:Nat} (h:xs.take k=ys.take k) (hx:k<xs.length) (hy:k<ys.length) (he:xs[k]=ys[k]):xs.take (k+1)=ys.take (k+1):=by
 rw[List.take_succ_eq_append_getElem hx,List.take_succ_eq_append_getElem hy,h,he]
theorem ne_at {α:Type} {xs ys:List α} {k:Nat} (hx:k<xs.length) (hy:k<ys.length) (he:xs[k]≠ys[k]):xs≠ys:=by
 rintro rfl
 exact he rfl
theorem zBH {α:Type} {xs ys:List α} {k:Nat} (h:xs.take k=ys.take k) (hx:xs.length≤k) (hy:ys.length≤k):xs=ys:=by
 rwa [List.take_of_length_le hx,List.take_of_length_le hy] at h
theorem zAB {a b:Bool} (h:a=b):Ending.returned (.bool a)=.returned (.bool b):=by rw[h]
theorem zBZ {k:IntKind} {a b:Int} (h:a=b):Ending.returned (.int k a)=.returned (.int k b):=by rw[h]
theorem zEp {a b:ByteArray} (h:a=b):Ending.returned (.string a)=.returned (.string b):=by rw[h]
def partB (n:Int):Bool:=decide (0≤n)&&decide (n≤999)
def verB (a b c:Int):Bool:=partB a&&(partB b&&partB c)
def rankI (a b c:Int):Int:=(a * 1000+b) * 1000+c
def rankR (a b c:Int):Int:=if verB a b c then rankI a b c else 0
theorem zPf {n:Int}:partB n=true↔0≤n∧n≤999:=by simp[partB]
theorem zA0 {a b c:Int}:verB a b c=true↔(0≤a∧a≤999)∧(0≤b∧b≤999)∧0≤c∧c≤999:=by simp[verB,zPf]
theorem zDf {a b c:Int} (h:verB a b c=true):0≤rankI a b c∧rankI a b c≤999999999:=by
 have:=zA0.1 h;unfold rankI;omega
theorem zBu (a b c:Int):0≤rankR a b c∧rankR a b c≤999999999:=by
 unfold rankR;split
 ·rename_i h;exact zDf h
 ·omega
theorem zII {a b c:Int} (h:verB a b c=true):rankI a b c / 1000 / 1000=a:=by
 have:=zA0.1 h;unfold rankI;omega
theorem zIh {a b c:Int} (h:verB a b c=true):rankI a b c / 1000 % 1000=b:=by
 have:=zA0.1 h;unfold rankI;omega
theorem zIU {a b c:Int} (h:verB a b c=true):rankI a b c % 1000=c:=by
 have:=zA0.1 h;unfold rankI;omega
def Ver.ok (v:Ver):Bool:=verB v.major v.minor v.patch
def Ver.rank (v:Ver):Int:=rankR v.major v.minor v.patch
def dotB:ByteArray:=⟨#[46]⟩
def zAj (a b c:Int):ByteArray:=if verB a b c then itoaB a++dotB++itoaB b++dotB++itoaB c else ⟨#[]⟩
def zCb:Int→List Spn→Bool
 | _,[]=>true
 | least,s::l=>(s.lo.ok&&s.hi.ok&&decide (least≤s.lo.rank)&&decide (s.lo.rank≤s.hi.rank))&&zCb (s.hi.rank+2) l
def zAp (l:List Spn):Bool:=decide (l.length≤64)&&zCb 0 l
end Go.Proofs.YthbnmehbhpakaaaGreatDoor
namespace Go.Proofs.YthbnmehbhpakaaaGreatDoor
open Go.Rows Go.RowKit Go.Shelf Go.Sort
theorem zCF (a b c:Int) (w:World) :
  Calls Tryz.prog 129 #[.agg #[.int .i64 a,.int .i64 b,.int .i64 c]] w fun e w'=>e=.returned (.bool (verB a b c))∧Below w.heap.size w w':=by
 have i0:∀ w,(Instr.index 217 (.agg #[.int .i64 a,.int .i64 b,.int .i64 c]) (.int .i64 0)).run Tryz.prog w=.ok (.int .i64 a) w:=fun _=>by kernel_rfl
 have i1:∀ w,(Instr.index 217 (.agg #[.int .i64 a,.int .i64 b,.int .i64 c]) (.int .i64 1)).run Tryz.prog w=.ok (.int .i64 b) w:=fun _=>by kernel_rfl
 have i2:∀ w,(Instr.index 217 (.agg #[.int .i64 a,.int .i64 b,.int .i64 c]) (.int .i64 2)).run Tryz.prog w=.ok (.int .i64 c) w:=fun _=>by kernel_rfl
 have Hno:Hid (∀ x,(x=a∨x=b∨x=c)→(x<0∨999<x)→verB a b c=false):=by
  intro x hx h
  rcases hx with rfl|rfl|rfl<;>(simp[verB,partB];omega)
 have Hyes:Hid ((0≤a∧a≤999)→(0≤b∧b≤999)→(0≤c∧c≤999)→verB a b c=true):=fun h1 h2 h3=>zA0.2 ⟨h1,h2,h3⟩
 generalize hv:verB a b c=v at *
 clear hv
 go_enter Tryz.func129,Tryz.ntmps129
 go_wp2_with fail
 go_loop [12] (fun i=>(i=.int .i64 0)∨(i=.int .i64 1∧Hid (0≤a∧a≤999))∨(i=.int .i64 2∧Hid (0≤a∧a≤999)∧Hid (0≤b∧b≤999))∨(i=.int .i64 3∧Hid (0≤a∧a≤999)∧Hid (0≤b∧b≤999)∧Hid (0≤c∧c≤999))) (fun i=>3 - (intOf i).toNat)
 case atStart=>exact .inl rfl
 case round=>
  rcases hrel with rfl|⟨rfl,h1⟩|⟨rfl,h1,h2⟩|⟨rfl,h1,h2,h3⟩
  ·by_cases g1:a<0
   ·go_wp2_with fail
    go_ret
    exact ⟨zAB (Hno.out a (.inl rfl) (.inl g1)).symm,bal (bR _ _) _⟩
   ·by_cases g2:999<a
    ·go_wp2_with fail
     go_ret
     exact ⟨zAB (Hno.out a (.inl rfl) (.inr g2)).symm,bal (bR _ _) _⟩
    ·go_wp2_with fail
     go_round
     case rel=>exact .inr (.inl ⟨rfl,⟨by omega,by omega⟩⟩)
     case measure=>simp[intOf]
  ·by_cases g1:b<0
   ·go_wp2_with fail
    go_ret
    exact ⟨zAB (Hno.out b (.inr (.inl rfl)) (.inl g1)).symm,bal (bR _ _) _⟩
   ·by_cases g2:999<b
    ·go_wp2_with fail
     go_ret
     exact ⟨zAB (Hno.out b (.inr (.inl rfl)) (.inr g2)).symm,bal (bR _ _) _⟩
    ·go_wp2_with fail
     go_round
     case rel=>exact .inr (.inr (.inl ⟨rfl,h1,⟨by omega,by omega⟩⟩))
     case measure=>simp[intOf]
  ·by_cases g1:c<0
   ·go_wp2_with fail
    go_ret
    exact ⟨zAB (Hno.out c (.inr (.inr rfl)) (.inl g1)).symm,bal (bR _ _) _⟩
   ·by_cases g2:999<c
    ·go_wp2_with fail
     go_ret
     exact ⟨zAB (Hno.out c (.inr (.inr rfl)) (.inr g2)).symm,bal (bR _ _) _⟩
    ·go_wp2_with fail
     go_round
     case rel=>exact .inr (.inr (.inr ⟨rfl,h1,h2,⟨by omega,by omega⟩⟩))
     case measure=>simp[intOf]
  ·go_wp2_with fail
   go_ret
   exact ⟨zAB (Hyes.out h1.out h2.out h3.out).symm,bal (bR _ _) _⟩
theorem zCO (a b c:Int) (w:World) :
  Calls Tryz.prog 217 #[.agg #[.int .i64 a,.int .i64 b,.int .i64 c]] w fun e w'=>e=.returned (.tuple #[.int .i64 (rankR a b c),.bool (verB a b c)])∧Below w.heap.size w w':=by
 have Hm:Hid (∀ W,Calls Tryz.prog 129 #[.agg #[.int .i64 a,.int .i64 b,.int .i64 c]] W fun e w'=>e=.returned (.bool (verB a b c))∧Below W.heap.size W w'):=fun W=>zCF a b c W
 cases hv:verB a b c
 ·have Hr:Hid (rankR a b c=0):=by unfold Hid rankR;rw[hv];rfl
  rw[hv] at Hm
  clear hv
  generalize rankR a b c=r at *
  go_enter Tryz.func217,Tryz.ntmps217
  go_wp2_with fail
  refine (Hm.out _).mono ?_
  rintro e w1 ⟨rfl,hb1⟩
  have B:=bnew hb1
  clear hb1
  go_wp2_with fail
  go_ret2
  exact ⟨by rw[Hr.out];rfl,B⟩
 ·have Hr:Hid (rankR a b c=(a * 1000+b) * 1000+c):=by unfold Hid rankR;rw[hv];rfl
  rw[hv] at Hm
  obtain ⟨⟨h1,h2⟩,⟨h3,h4⟩,h5,h6⟩:=zA0.1 hv
  clear hv
  generalize rankR a b c=r at *
  go_enter Tryz.func217,Tryz.ntmps217
  go_wp2_with fail
  refine (Hm.out _).mono ?_
  rintro e w1 ⟨rfl,hb1⟩
  have e0:=hb1.cell (p:=⟨w.heap.size,0,none⟩) (by simp)
  have e1:=hb1.cell (p:=⟨w.heap.size,1,none⟩) (by simp)
  have e2:=hb1.cell (p:=⟨w.heap.size,2,none⟩) (by simp)
  simp[go_sem] at e0 e1 e2
  have B:=bnew hb1
  clear hb1
  go_wp2_with fail
  go_ret2
  exact ⟨by rw[Hr.out];rfl,B⟩
theorem zES (n:Int) (h0:0≤n) (h1:n≤999999999) (w:World) :
  Calls Tryz.prog 191 #[.int .i64 n] w fun e w'=>e=.returned (.tuple #[.agg #[.int .i64 (n / 1000 / 1000),.int .i64 (n / 1000 % 1000),.int .i64 (n % 1000)],.bool true])∧Below w.heap.size w w':=by
 have h2:¬n<0:=by omega
 have h3:n<1000000000:=by omega
 have q0:0≤n / 1000:=by omega
 go_enter Tryz.func191,Tryz.ntmps191
 go_wp2_with fail
 refine bodyPost_ret (v:=.tuple #[.agg #[.int .i64 (n / 1000 / 1000),.int .i64 (n / 1000 % 1000),.int .i64 (n % 1000)],.bool true]) (by simp[results,Tryz.results191,go_sem]) rfl ⟨rfl,?_⟩
 exact bal (bR _ _) _
theorem zKp {a b c:Int} (h:verB a b c=true):(itoaB a).size≤3∧(itoaB b).size≤3∧(itoaB c).size≤3:=by
 have key:∀ n:Int,0≤n→n≤999→(itoaB n).size≤3:=by
  intro n h0 h1
  have:n.toNat<1000:=by omega
  have e:itoaB n=⟨(Lib.decDigits n.toNat).toArray⟩:=by unfold itoaB Lib.itoa;rw[if_neg (by omega)]
  rw[e]
  show (Lib.decDigits n.toNat).toArray.size≤3
  simp only[List.size_toArray]
  have hd:∀ k:Fin 1000,(Lib.decDigits k.val).length≤3:=by decide +kernel
  exact hd ⟨n.toNat,this⟩
 have:=zA0.1 h
 exact ⟨key _ (by omega) (by omega),key _ (by omega) (by omega),key _ (by omega) (by omega)⟩
theorem zBy (a b c:Int) (w:World) (ht:Tab w) :
  Calls Tryz.prog 70 #[.agg #[.int .i64 a,.int .i64 b,.int .i64 c]] w fun e w'=>e=.returned (.string (zAj a b c))∧Below w.heap.size w w':=by
 have Hm:Hid (∀ W,Calls Tryz.prog 129 #[.agg #[.int .i64 a,.int .i64 b,.int .i64 c]] W fun e w'=>e=.returned (.bool (verB a b c))∧Below W.heap.size W w'):=fun W=>zCF a b c W
 cases hv:verB a b c
 ·have Hr:Hid (zAj a b c=⟨#[]⟩):=by unfold Hid zAj;rw[hv];rfl
  rw[hv] at Hm
  clear hv
  generalize zAj a b c=r at *
  go_enter Tryz.func70,Tryz.ntmps70
  go_wp2_with fail
  refine (Hm.out _).mono ?_
  rintro e w1 ⟨rfl,hb1⟩
  go_wp2_with fail
  go_ret
  exact ⟨zEp Hr.out.symm,bnew hb1⟩
 ·have Hr:Hid (zAj a b c=itoaB a++dotB++itoaB b++dotB++itoaB c):=by unfold Hid zAj;rw[hv];rfl
  rw[hv] at Hm
  obtain ⟨s1,s2,s3⟩:=zKp hv
  obtain ⟨⟨h1,h2⟩,⟨h3,h4⟩,h5,h6⟩:=zA0.1 hv
  have Ht:=cH ht
  have z:dotB.size=1:=rfl
  clear hv ht
  generalize zAj a b c=r at *
  have A1:∀ W:World,(Op.stringOp .add (itoaB a) ⟨#[46]⟩).run Tryz.prog W=.ok (.string (itoaB a++dotB)) W:=fun W=>run_string_add_sum W _ dotB (by omega)
  have A2:∀ W:World,(Op.stringOp .add (itoaB a++dotB) (itoaB b)).run Tryz.prog W=.ok (.string (itoaB a++dotB++itoaB b)) W:=fun W=>run_string_add_sum W _ _ (by simp only[ByteArray.size_append];omega)
  have A3:∀ W:World,(Op.stringOp .add (itoaB a++dotB++itoaB b) ⟨#[46]⟩).run Tryz.prog W=.ok (.string (itoaB a++dotB++itoaB b++dotB)) W:=fun W=>run_string_add_sum W _ dotB (by simp only[ByteArray.size_append];omega)
  have A4:∀ W:World,(Op.stringOp .add (itoaB a++dotB++itoaB b++dotB) (itoaB c)).run Tryz.prog W=.ok (.string r) W:=fun W=>by rw[Hr.out];exact run_string_add_sum W _ _ (by simp only[ByteArray.size_append];omega)
  clear z
  go_enter Tryz.func70,Tryz.ntmps70
  go_wp2_with fail
  refine (Hm.out _).mono ?_
  rintro e w1 ⟨rfl,hb1⟩
  have e0:=hb1.cell (p:=⟨w.heap.size,0,none⟩) (by simp)
  have e1:=hb1.cell (p:=⟨w.heap.size,1,none⟩) (by simp)
  have e2:=hb1.cell (p:=⟨w.heap.size,2,none⟩) (by simp)
  simp[go_sem] at e0 e1 e2
  have B:=bnew hb1
  have Ht1:Hid (Tab w1):=zAG Ht.out B
  have Hc0:=cH (qcall (w:=w1) (fun W hW=>zEO a ⟨by omega,by omega⟩ W (zAG Ht1.out hW)))
  have Hc1:=cH (qcall (w:=w1) (fun W hW=>zEO b ⟨by omega,by omega⟩ W (zAG Ht1.out hW)))
  have Hc2:=cH (qcall (w:=w1) (fun W hW=>zEO c ⟨by omega,by omega⟩ W (zAG Ht1.out hW)))
  clear hb1
  have r_e0:=cR e0
  have r_e1:=cR e1
  have r_e2:=cR e2
  go_wp2_with fail
  refine wQ ?_
  repeat (go_big_quiet_step (first|(with_reducible exact Hc0.out _ _)|(with_reducible exact Hc1.out _ _)|(with_reducible exact Hc2.out _ _)))
  refine wpQuiet_nil fun w2 B2=>?_
  go_wp2_with fail
  go_ret
  exact ⟨rfl,bot B B2⟩
