import Derived.Shelf.Strings.Builder1
import Derived.Shelf.Small.Bits
import Derived.Shelf.Strings.BuilderF
import Derived.Shelf.Strings.BuilderK
import Derived.Shelf.Strings.BuilderRune
import Derived.Shelf.Strconv.Itoa0
import Derived.Shelf.Strings.Search1
import Derived.Shelf.Strings.Search2
import Derived.Shelf.Strings.Search3
import Derived.Shelf.Strings.Cut
import Derived.Shelf.LaysM
import Derived.Shelf.Strings.Shaped
import Derived.Shelf.Unicode.Decode
import Derived.Shelf.Unicode.DecodeSlow
import Derived.Shelf.Unicode.DecodeAny
import Derived.Ground.SlgnProg
import Derived.Shelf.SlicesE.Clone
import Derived.Ground.SlgmProg
import Derived.Shelf.SortM.Plain
import Derived.Shelf.SortM.SortNone
import Derived.Test.YtfcnedcahoifoaaGreatDoorProg
import Derived.Shelf.Strings.Builder2
import Derived.Shelf.Strings.OnBuilder
import Derived.Shelf.SlGeneric
import Derived.Shelf.SlIterI.Nil
import Derived.Test.YtfcnedcahoifoaaGreatDoorRows
import Derived.WalkKit
import Derived.Lib.Hide
import Derived.Deep.QuietTactic
import Derived.BigQuiet
import Derived.OpenShut
import Derived.Maps.AppendAt
import Derived.Deep.AppendLies
import Derived.Laws.OwnMore
import Derived.Laws.CopyOwn
import Derived.OwnWalkIn
import Derived.RangeFuncOwn
import Derived.RangeFuncNested
import Derived.RangeFuncBound
import Derived.RangeFuncCalls
import Derived.RangeFuncLeaves
import Derived.RangeFuncBox
import Derived.Deep.RegionHeld3
import Derived.OrdersIn
import Derived.Deep.RegionHeld
import Derived.Lib.DecodeNEq
import Derived.Lib.Strings
import Derived.Lib.OthersKept
import Derived.WalkLawsBesides
import Derived.Shelf.Abstract
import Derived.Shelf.RegionOpen
import Derived.TacticsInMore
import Derived.LoopNIn
import Derived.LoopIn
namespace Go.Proofs
open Go.Shelf
def Tryz.lays219_ren:Go.Shelf.Ren:=⟨fun | 219=>194 | 217=>228 | 225=>229 | 224=>230 | 267=>231 | 266=>253 | 314=>254 | n=>n,fun | 9=>9 | 3=>3 | 4=>4 | 5=>5 | 46=>152 | 146=>409 | 51=>365 | n=>n,fun | 1=>0 | n=>n⟩
theorem Tryz.lays219:Go.Proofs.Lays.n219 Tryz.prog Tryz.lays219_ren:={
 mixed:=by kernel_rfl
 f217:=Tryz.func228.trans (congrArg some (by kernel_rfl))
 f219:=Tryz.func194.trans (congrArg some (by kernel_rfl))
 f224:=Tryz.func230.trans (congrArg some (by kernel_rfl))
 f225:=Tryz.func229.trans (congrArg some (by kernel_rfl))
 f266:=Tryz.func253.trans (congrArg some (by kernel_rfl))
 f267:=Tryz.func231.trans (congrArg some (by kernel_rfl))
 f314:=Tryz.func254.trans (congrArg some (by kernel_rfl))
 t3:=Tryz.underlying3
 a3:=Tryz.isAgg3
 z3:=Tryz.sizeOf3
 v3:=Tryz.zeroValue3
 t4:=Tryz.underlying4
 a4:=Tryz.isAgg4
 z4:=Tryz.sizeOf4
 v4:=Tryz.zeroValue4
 t5:=Tryz.underlying5
 a5:=Tryz.isAgg5
 z5:=Tryz.sizeOf5
 v5:=Tryz.zeroValue5
 t9:=Tryz.underlying9
 a9:=Tryz.isAgg9
 z9:=Tryz.sizeOf9
 v9:=Tryz.zeroValue9
 t46:=Tryz.underlying152
 a46:=Tryz.isAgg152
 z46:=Tryz.sizeOf152
 v46:=Tryz.zeroValue152
 t51:=Tryz.underlying365
 a51:=Tryz.isAgg365
 z51:=Tryz.sizeOf365
 v51:=Tryz.zeroValue365
 t146:=Tryz.underlying409
 a146:=Tryz.isAgg409
 z146:=Tryz.sizeOf409
 v146:=Tryz.zeroValue409
 g1:=by kernel_rfl}
open Go.RowKit Go.Lib in
theorem Tryz.stringslite_Index_one (s:ByteArray) (c:UInt8) (w:World):
 Calls Tryz.prog 194 #[.string s,.string ⟨#[c]⟩] w fun e w'=>e=.returned (.int .i64 (Lib.indexByte s.data.toList c))∧w'=w:=Any.stringslite_Index_one Tryz.lays219 s c w
def Tryz.lays143_ren:Go.Shelf.Ren:=⟨fun | 143=>193 | 219=>194 | 217=>228 | 225=>229 | 224=>230 | 267=>231 | 266=>253 | 314=>254 | n=>n,fun | 9=>9 | 3=>3 | 4=>4 | 5=>5 | 46=>152 | 146=>409 | 51=>365 | n=>n,fun | 1=>0 | n=>n⟩
theorem Tryz.lays143:Go.Proofs.Lays.n143 Tryz.prog Tryz.lays143_ren:={
 mixed:=by kernel_rfl
 f143:=Tryz.func193.trans (congrArg some (by kernel_rfl))
 f217:=Tryz.func228.trans (congrArg some (by kernel_rfl))
 f219:=Tryz.func194.trans (congrArg some (by kernel_rfl))
 f224:=Tryz.func230.trans (congrArg some (by kernel_rfl))
 f225:=Tryz.func229.trans (congrArg some (by kernel_rfl))
 f266:=Tryz.func253.trans (congrArg some (by kernel_rfl))
 f267:=Tryz.func231.trans (congrArg some (by kernel_rfl))
 f314:=Tryz.func254.trans (congrArg some (by kernel_rfl))
 t3:=Tryz.underlying3
 a3:=Tryz.isAgg3
 z3:=Tryz.sizeOf3
 v3:=Tryz.zeroValue3
 t4:=Tryz.underlying4
 a4:=Tryz.isAgg4
 z4:=Tryz.sizeOf4
 v4:=Tryz.zeroValue4
 t5:=Tryz.underlying5
 a5:=Tryz.isAgg5
 z5:=Tryz.sizeOf5
 v5:=Tryz.zeroValue5
 t9:=Tryz.underlying9
 a9:=Tryz.isAgg9
 z9:=Tryz.sizeOf9
 v9:=Tryz.zeroValue9
 t46:=Tryz.underlying152
 a46:=Tryz.isAgg152
 z46:=Tryz.sizeOf152
 v46:=Tryz.zeroValue152
 t51:=Tryz.underlying365
 a51:=Tryz.isAgg365
 z51:=Tryz.sizeOf365
 v51:=Tryz.zeroValue365
 t146:=Tryz.underlying409
 a146:=Tryz.isAgg409
 z146:=Tryz.sizeOf409
 v146:=Tryz.zeroValue409
 g1:=by kernel_rfl}
open Go.RowKit Go.Lib in
theorem Tryz.strings_Index_one (s:ByteArray) (c:UInt8) (w:World):
 Calls Tryz.prog 193 #[.string s,.string ⟨#[c]⟩] w fun e w'=>e=.returned (.int .i64 (Lib.indexByte s.data.toList c))∧w'=w:=Any.strings_Index_one Tryz.lays143 s c w
def Tryz.lays197_ren:Go.Shelf.Ren:=⟨fun | 197=>192 | 260=>227 | n=>n,fun | 9=>9 | 21=>21 | 3=>3 | 4=>4 | 5=>5 | 105=>337 | 119=>405 | 0=>0 | 46=>152 | 139=>408 | 138=>407 | n=>n,fun | 3=>2 | 4=>3 | n=>n⟩
theorem Tryz.lays197:Go.Proofs.Lays.n197 Tryz.prog Tryz.lays197_ren:={
 mixed:=by kernel_rfl
 f197:=Tryz.func192.trans (congrArg some (by kernel_rfl))
 f260:=Tryz.func227.trans (congrArg some (by kernel_rfl))
 t0:=Tryz.underlying0
 a0:=Tryz.isAgg0
 z0:=Tryz.sizeOf0
 v0:=Tryz.zeroValue0
 t3:=Tryz.underlying3
 a3:=Tryz.isAgg3
 z3:=Tryz.sizeOf3
 v3:=Tryz.zeroValue3
 t4:=Tryz.underlying4
 a4:=Tryz.isAgg4
 z4:=Tryz.sizeOf4
 v4:=Tryz.zeroValue4
 t5:=Tryz.underlying5
 a5:=Tryz.isAgg5
 z5:=Tryz.sizeOf5
 v5:=Tryz.zeroValue5
 t9:=Tryz.underlying9
 a9:=Tryz.isAgg9
 z9:=Tryz.sizeOf9
 v9:=Tryz.zeroValue9
 t21:=Tryz.underlying21
 a21:=Tryz.isAgg21
 z21:=Tryz.sizeOf21
 v21:=Tryz.zeroValue21
 t46:=Tryz.underlying152
 a46:=Tryz.isAgg152
 z46:=Tryz.sizeOf152
 v46:=Tryz.zeroValue152
 t105:=Tryz.underlying337
 a105:=Tryz.isAgg337
 z105:=Tryz.sizeOf337
 v105:=Tryz.zeroValue337
 t119:=Tryz.underlying405
 a119:=Tryz.isAgg405
 z119:=Tryz.sizeOf405
 t138:=Tryz.underlying407
 a138:=Tryz.isAgg407
 z138:=Tryz.sizeOf407
 v138:=Tryz.zeroValue407
 t139:=Tryz.underlying408
 a139:=Tryz.isAgg408
 z139:=Tryz.sizeOf408
 v139:=Tryz.zeroValue408
 g3:=by kernel_rfl
 g4:=by kernel_rfl}
open Go.RowKit Go.Lib in
theorem Tryz.utf8_DecodeRuneInString (s:ByteArray) (w:World) (hT:Lib.Utf8Tabs 2 3 w):
 Calls Tryz.prog 192 #[.string s] w fun e w'=>e=.returned (.tuple #[.int .i32 (Lib.decodeGo s).1,.int .i64 (Lib.decodeGo s).2])∧Below w.heap.size w w':=Any.utf8_DecodeRuneInString Tryz.lays197 s w hT
def Tryz.laysSlE041_f163_ren:Go.Shelf.Ren:=⟨fun | 41=>163 | n=>n,fun | 22=>33 | 23=>22 | 4=>4 | n=>n,fun | n=>n⟩
theorem Tryz.laysSlE041_f163:Go.Proofs.SlLaysE0.n41 Tryz.prog Tryz.laysSlE041_f163_ren:={
 mixed:=by kernel_rfl
 f41:=⟨Tryz.f163.name,by decide,Tryz.func163.trans (congrArg some (by kernel_rfl))⟩
 t4:=Tryz.underlying4
 a4:=Tryz.isAgg4
 z4:=Tryz.sizeOf4
 v4:=Tryz.zeroValue4
 t22:=Tryz.underlying33
 a22:=Tryz.isAgg33
 z22:=Tryz.sizeOf33
 v22:=Tryz.zeroValue33}
open Go.RowKit Go.Lib in
theorem Tryz.slices_Clone (i0:TypeInfo) (z:Value) (size bytes:Nat) (hi:Tryz.prog.info? 22=some i0) (hz0:i0.zero=some z) (hz1:i0.size=size) (hz2:i0.bytes=bytes) (hzs:z.cells.size=size) (hsz:0<size) (z23: ∀ w,(Go.sizeOf 22).run Tryz.prog w=.ok size w) (b off n c:Nat) (news:List Value) (w:World) (hl:news.length=n*size) (hn:n≤maxLen) (hbig:n*bytes≤140737488355328) (hc: ∀ j u,news[j]? =some u→w.cell? ⟨b,off+j,none⟩=some u) (h1: ∀ u∈news,u.oneCell'=true):
 Calls Tryz.prog 163 #[.slice (some ⟨b,off,none⟩) n c] w fun e w'=> ∃ v',e=.returned v'∧w'.ownsRow w.heap.size 22 size v' n news∧v'≠.slice none 0 0∧Below w.heap.size w w':=AnyE.slices_Clone Tryz.laysSlE041_f163 i0 z size bytes hi hz0 hz1 hz2 hzs hsz z23 b off n c news w hl hn hbig hc h1
open Go.RowKit Go.Lib in
theorem Tryz.slices_Clone_nil (n c:Nat) (w:World):
 Calls Tryz.prog 163 #[.slice none n c] w fun e w'=>e=.returned (.slice none 0 0)∧w'=w:=AnyE.slices_Clone_nil Tryz.laysSlE041_f163 n c w
end Go.Proofs
namespace Go.Proofs
open Go.Shelf
def Tryz.lays156_ren:Go.Shelf.Ren:=⟨fun | 156=>147 | 165=>189 | 166=>171 | 169=>172 | 240=>206 | 241=>224 | 276=>243 | 277=>250 | n=>n,fun | 31=>66 | 9=>9 | 3=>3 | 4=>4 | 0=>0 | 20=>20 | 72=>312 | 76=>313 | 70=>310 | 37=>151 | 75=>171 | 127=>355 | 164=>372 | 5=>5 | 80=>315 | n=>n,fun | n=>n⟩
theorem Tryz.lays156:Go.Proofs.Lays.n156 Tryz.prog Tryz.lays156_ren:={
 mixed:=by kernel_rfl
 f156:=Tryz.func147.trans (congrArg some (by kernel_rfl))
 f165:=Tryz.func189.trans (congrArg some (by kernel_rfl))
 f166:=Tryz.func171.trans (congrArg some (by kernel_rfl))
 f169:=Tryz.func172.trans (congrArg some (by kernel_rfl))
 f240:=Tryz.func206.trans (congrArg some (by kernel_rfl))
 f241:=Tryz.func224.trans (congrArg some (by kernel_rfl))
 f276:=Tryz.func243.trans (congrArg some (by kernel_rfl))
 f277:=Tryz.func250.trans (congrArg some (by kernel_rfl))
 t0:=Tryz.underlying0
 a0:=Tryz.isAgg0
 z0:=Tryz.sizeOf0
 v0:=Tryz.zeroValue0
 t3:=Tryz.underlying3
 a3:=Tryz.isAgg3
 z3:=Tryz.sizeOf3
 v3:=Tryz.zeroValue3
 t4:=Tryz.underlying4
 a4:=Tryz.isAgg4
 z4:=Tryz.sizeOf4
 v4:=Tryz.zeroValue4
 t9:=Tryz.underlying9
 a9:=Tryz.isAgg9
 z9:=Tryz.sizeOf9
 v9:=Tryz.zeroValue9
 t20:=Tryz.underlying20
 a20:=Tryz.isAgg20
 z20:=Tryz.sizeOf20
 v20:=Tryz.zeroValue20
 t31:=Tryz.underlying66
 a31:=Tryz.isAgg66
 z31:=Tryz.sizeOf66
 v31:=Tryz.zeroValue66
 t37:=Tryz.underlying151
 a37:=Tryz.isAgg151
 z37:=Tryz.sizeOf151
 v37:=Tryz.zeroValue151
 t70:=Tryz.underlying310
 a70:=Tryz.isAgg310
 z70:=Tryz.sizeOf310
 v70:=Tryz.zeroValue310
 t72:=Tryz.underlying312
 a72:=Tryz.isAgg312
 z72:=Tryz.sizeOf312
 v72:=Tryz.zeroValue312
 t75:=Tryz.underlying171
 a75:=Tryz.isAgg171
 z75:=Tryz.sizeOf171
 v75:=Tryz.zeroValue171
 t76:=Tryz.underlying313
 a76:=Tryz.isAgg313
 z76:=Tryz.sizeOf313
 v76:=Tryz.zeroValue313
 t127:=Tryz.underlying355
 a127:=Tryz.isAgg355
 z127:=Tryz.sizeOf355
 v127:=Tryz.zeroValue355
 t164:=Tryz.underlying372
 a164:=Tryz.isAgg372
 z164:=Tryz.sizeOf372
 v164:=Tryz.zeroValue372}
theorem Tryz.Builder_Extra_156:Builder.Extra Tryz.prog Tryz.lays156_ren:={
 sizeBuilder:=by kernel_rfl
 liesBuilder:=by kernel_rfl
 t5:=Tryz.underlying5
 a5:=Tryz.isAgg5
 z5:=Tryz.sizeOf5
 v5:=Tryz.zeroValue5
 infoByte:=by kernel_rfl
 cellsByte:=by kernel_rfl
 sizeByte:=by kernel_rfl
 neB5:=by decide}
open Go.RowKit in
theorem Tryz.strings_Join_none (a:Option Addr) (c:Nat) (sep:ByteArray) (w:World):
 Calls Tryz.prog 147 #[.slice a 0 c,.string sep] w fun e w'=>e=.returned (.string ⟨#[]⟩)∧w'=w:=Any.strings_Join_none Tryz.lays156 Tryz.Builder_Extra_156 a c sep w
open Go.RowKit in
theorem Tryz.strings_Join (bk o c:Nat) (xs:List ByteArray) (sep:ByteArray) (w:World) (hcells: ∀ (j:Nat) x,xs[j]? =some x→w.cell? ⟨bk,o+j,none⟩=some (.string x)) (hbk:bk<w.heap.size) (hN:xs.length≤140737488355328) (hcap:xs.length≤c) (hlen:(Lib.join (xs.map (·.data.toList)) sep.data.toList).length≤140737488355328):
 Calls Tryz.prog 147 #[.slice (some ⟨bk,o,none⟩) xs.length c,.string sep] w fun e w'=>e=.returned (.string ⟨(Lib.join (xs.map (·.data.toList)) sep.data.toList).toArray⟩)∧Below w.heap.size w w':=Any.strings_Join Tryz.lays156 Tryz.Builder_Extra_156 bk o c xs sep w hcells hbk hN hcap hlen
def Tryz.lays125_ren:Go.Shelf.Ren:=⟨fun | 125=>178 | 128=>219 | 129=>67 | n=>n,fun | 46=>152 | 3=>3 | 51=>365 | 53=>22 | 4=>4 | 5=>5 | 9=>9 | n=>n,fun | n=>n⟩
theorem Tryz.lays125:Go.Proofs.Lays.n125 Tryz.prog Tryz.lays125_ren:={
 mixed:=by kernel_rfl
 f125:=Tryz.func178.trans (congrArg some (by kernel_rfl))
 f128:=Tryz.func219.trans (congrArg some (by kernel_rfl))
 f129:=Tryz.func67.trans (congrArg some (by kernel_rfl))
 t3:=Tryz.underlying3
 a3:=Tryz.isAgg3
 z3:=Tryz.sizeOf3
 v3:=Tryz.zeroValue3
 t4:=Tryz.underlying4
 a4:=Tryz.isAgg4
 z4:=Tryz.sizeOf4
 v4:=Tryz.zeroValue4
 t5:=Tryz.underlying5
 a5:=Tryz.isAgg5
 z5:=Tryz.sizeOf5
 v5:=Tryz.zeroValue5
 t9:=Tryz.underlying9
 a9:=Tryz.isAgg9
 z9:=Tryz.sizeOf9
 v9:=Tryz.zeroValue9
 t46:=Tryz.underlying152
 a46:=Tryz.isAgg152
 z46:=Tryz.sizeOf152
 v46:=Tryz.zeroValue152
 t51:=Tryz.underlying365
 a51:=Tryz.isAgg365
 z51:=Tryz.sizeOf365
 v51:=Tryz.zeroValue365
 t53:=Tryz.underlying22
 a53:=Tryz.isAgg22
 z53:=Tryz.sizeOf22
 v53:=Tryz.zeroValue22}
theorem Tryz.bits_Len (x:Int) (w:World) (h0:0≤x) (h1:x≤18446744073709551615):
 Calls Tryz.prog 178 #[.int .u64 x] w fun e w'=>e=.returned (.int .i64 (Lib.bitLen x.toNat))∧w'=w:=Any.bits_Len Tryz.lays125 x w h0 h1
end Go.Proofs
namespace Go.Proofs
open Go.Shelf
def Tryz.keysA_ren:Go.Shelf.Ren:=⟨fun | 7=>359 | 10=>363 | n=>n,fun | 23=>498 | 26=>3 | 3=>22 | 28=>385 | 0=>0 | 27=>384 | 33=>145 | 4=>4 | n=>n,fun | n=>n⟩
theorem Tryz.keysA:Go.Proofs.SlLaysZI.n7 Tryz.prog Tryz.keysA_ren:={
 mixed:=by kernel_rfl
 f7:=⟨Tryz.f359.name,by decide,Tryz.func359.trans (congrArg some (by kernel_rfl))⟩
 f10:=⟨Tryz.f363.name,by decide,Tryz.func363.trans (congrArg some (by kernel_rfl))⟩
 t0:=Tryz.underlying0
 a0:=Tryz.isAgg0
 z0:=Tryz.sizeOf0
 v0:=Tryz.zeroValue0
 t4:=Tryz.underlying4
 a4:=Tryz.isAgg4
 z4:=Tryz.sizeOf4
 v4:=Tryz.zeroValue4
 t23:=Tryz.underlying498
 a23:=Tryz.isAgg498
 z23:=Tryz.sizeOf498
 v23:=Tryz.zeroValue498
 t26:=Tryz.underlying3
 a26:=Tryz.isAgg3
 z26:=Tryz.sizeOf3
 v26:=Tryz.zeroValue3
 t27:=Tryz.underlying384
 a27:=Tryz.isAgg384
 z27:=Tryz.sizeOf384
 v27:=Tryz.zeroValue384
 t28:=Tryz.underlying385
 a28:=Tryz.isAgg385
 z28:=Tryz.sizeOf385
 v28:=Tryz.zeroValue385
 t33:=Tryz.underlying145
 a33:=Tryz.isAgg145
 z33:=Tryz.sizeOf145
 v33:=Tryz.zeroValue145}
def Tryz.sortedA_ren:Go.Shelf.Ren:=⟨fun | 6=>358 | 8=>361 | 9=>362 | 11=>364 | 13=>178 | 12=>365 | 23=>219 | 24=>67 | 14=>366 | 15=>367 | 16=>368 | 17=>369 | 18=>370 | 19=>371 | 20=>372 | 21=>373 | 22=>374 | 25=>375 | 26=>245 | 27=>246 | 28=>376 | 29=>377 | 30=>378 | 31=>379 | n=>n,fun | 26=>3 | 28=>385 | 24=>52 | 0=>0 | 3=>3 | 37=>152 | 48=>365 | 50=>22 | 4=>4 | 40=>359 | 39=>358 | 45=>99 | 5=>5 | 9=>9 | 51=>393 | 55=>397 | 57=>425 | 58=>426 | 33=>145 | n=>n,fun | n=>n⟩
theorem Tryz.sortedA:Go.Proofs.SlLaysZI.n6 Tryz.prog Tryz.sortedA_ren:={
 mixed:=by kernel_rfl
 f6:=⟨Tryz.f358.name,by decide,Tryz.func358.trans (congrArg some (by kernel_rfl))⟩
 f8:=⟨Tryz.f361.name,by decide,Tryz.func361.trans (congrArg some (by kernel_rfl))⟩
 f11:=⟨Tryz.f364.name,by decide,Tryz.func364.trans (congrArg some (by kernel_rfl))⟩
 t0:=Tryz.underlying0
 a0:=Tryz.isAgg0
 z0:=Tryz.sizeOf0
 v0:=Tryz.zeroValue0
 t24:=Tryz.underlying52
 a24:=Tryz.isAgg52
 z24:=Tryz.sizeOf52
 v24:=Tryz.zeroValue52
 t26:=Tryz.underlying3
 a26:=Tryz.isAgg3
 z26:=Tryz.sizeOf3
 v26:=Tryz.zeroValue3
 t28:=Tryz.underlying385
 a28:=Tryz.isAgg385
 z28:=Tryz.sizeOf385
 v28:=Tryz.zeroValue385
 i26:=by kernel_rfl}
def Tryz.sortA_ren:Go.Shelf.Ren:=⟨fun | 5=>362 | 8=>178 | 7=>365 | 19=>219 | 20=>67 | 10=>366 | 11=>367 | 12=>368 | 13=>369 | 14=>370 | 15=>371 | 16=>372 | 17=>373 | 18=>374 | 30=>375 | 31=>245 | 32=>246 | 33=>376 | 34=>377 | 35=>378 | 40=>379 | n=>n,fun | 23=>52 | 25=>3 | 3=>3 | 32=>152 | 22=>52 | 0=>0 | 44=>365 | 46=>22 | 4=>4 | 36=>359 | 35=>358 | 41=>99 | 5=>5 | 9=>9 | 53=>393 | 57=>397 | 63=>425 | 64=>426 | n=>n,fun | n=>n⟩
theorem Tryz.sortA:Go.Proofs.SlLaysM.n5 Tryz.prog Tryz.sortA_ren:={
 mixed:=by kernel_rfl
 f5:=⟨Tryz.f362.name,by decide,Tryz.func362.trans (congrArg some (by kernel_rfl))⟩
 f7:=⟨Tryz.f365.name,by decide,Tryz.func365.trans (congrArg some (by kernel_rfl))⟩
 f8:=Tryz.func178.trans (congrArg some (by kernel_rfl))
 f10:=⟨Tryz.f366.name,by decide,Tryz.func366.trans (congrArg some (by kernel_rfl))⟩
 f11:=⟨Tryz.f367.name,by decide,Tryz.func367.trans (congrArg some (by kernel_rfl))⟩
 f12:=⟨Tryz.f368.name,by decide,Tryz.func368.trans (congrArg some (by kernel_rfl))⟩
 f13:=⟨Tryz.f369.name,by decide,Tryz.func369.trans (congrArg some (by kernel_rfl))⟩
 f14:=⟨Tryz.f370.name,by decide,Tryz.func370.trans (congrArg some (by kernel_rfl))⟩
 f15:=⟨Tryz.f371.name,by decide,Tryz.func371.trans (congrArg some (by kernel_rfl))⟩
 f16:=⟨Tryz.f372.name,by decide,Tryz.func372.trans (congrArg some (by kernel_rfl))⟩
 f17:=⟨Tryz.f373.name,by decide,Tryz.func373.trans (congrArg some (by kernel_rfl))⟩
 f18:=⟨Tryz.f374.name,by decide,Tryz.func374.trans (congrArg some (by kernel_rfl))⟩
 f19:=Tryz.func219.trans (congrArg some (by kernel_rfl))
 f20:=Tryz.func67.trans (congrArg some (by kernel_rfl))
 f30:=⟨Tryz.f375.name,by decide,Tryz.func375.trans (congrArg some (by kernel_rfl))⟩
 f31:=Tryz.func245.trans (congrArg some (by kernel_rfl))
 f32:=Tryz.func246.trans (congrArg some (by kernel_rfl))
 f33:=⟨Tryz.f376.name,by decide,Tryz.func376.trans (congrArg some (by kernel_rfl))⟩
 f34:=⟨Tryz.f377.name,by decide,Tryz.func377.trans (congrArg some (by kernel_rfl))⟩
 f35:=⟨Tryz.f378.name,by decide,Tryz.func378.trans (congrArg some (by kernel_rfl))⟩
 f40:=⟨Tryz.f379.name,by decide,Tryz.func379.trans (congrArg some (by kernel_rfl))⟩
 t0:=Tryz.underlying0
 a0:=Tryz.isAgg0
 z0:=Tryz.sizeOf0
 v0:=Tryz.zeroValue0
 t3:=Tryz.underlying3
 a3:=Tryz.isAgg3
 z3:=Tryz.sizeOf3
 v3:=Tryz.zeroValue3
 t4:=Tryz.underlying4
 a4:=Tryz.isAgg4
 z4:=Tryz.sizeOf4
 v4:=Tryz.zeroValue4
 t5:=Tryz.underlying5
 a5:=Tryz.isAgg5
 z5:=Tryz.sizeOf5
 v5:=Tryz.zeroValue5
 t9:=Tryz.underlying9
 a9:=Tryz.isAgg9
 z9:=Tryz.sizeOf9
 v9:=Tryz.zeroValue9
 t22:=Tryz.underlying52
 a22:=Tryz.isAgg52
 z22:=Tryz.sizeOf52
 v22:=Tryz.zeroValue52
 t23:=Tryz.underlying52
 a23:=Tryz.isAgg52
 z23:=Tryz.sizeOf52
 v23:=Tryz.zeroValue52
 t25:=Tryz.underlying3
 a25:=Tryz.isAgg3
 z25:=Tryz.sizeOf3
 v25:=Tryz.zeroValue3
 t32:=Tryz.underlying152
 a32:=Tryz.isAgg152
 z32:=Tryz.sizeOf152
 v32:=Tryz.zeroValue152
 t35:=Tryz.underlying358
 a35:=Tryz.isAgg358
 z35:=Tryz.sizeOf358
 v35:=Tryz.zeroValue358
 t36:=Tryz.underlying359
 a36:=Tryz.isAgg359
 z36:=Tryz.sizeOf359
 v36:=Tryz.zeroValue359
 t41:=Tryz.underlying99
 a41:=Tryz.isAgg99
 z41:=Tryz.sizeOf99
 v41:=Tryz.zeroValue99
 t44:=Tryz.underlying365
 a44:=Tryz.isAgg365
 z44:=Tryz.sizeOf365
 v44:=Tryz.zeroValue365
 t46:=Tryz.underlying22
 a46:=Tryz.isAgg22
 z46:=Tryz.sizeOf22
 v46:=Tryz.zeroValue22
 t53:=Tryz.underlying393
 a53:=Tryz.isAgg393
 z53:=Tryz.sizeOf393
 v53:=Tryz.zeroValue393
 t57:=Tryz.underlying397
 a57:=Tryz.isAgg397
 z57:=Tryz.sizeOf397
 v57:=Tryz.zeroValue397
 t63:=Tryz.underlying425
 a63:=Tryz.isAgg425
 z63:=Tryz.sizeOf425
 v63:=Tryz.zeroValue425
 t64:=Tryz.underlying426
 a64:=Tryz.isAgg426
 z64:=Tryz.sizeOf426
 v64:=Tryz.zeroValue426}
end Go.Proofs
namespace Go.Proofs.YtfcnedcahoifoaaGreatDoor
open Go.RowKit
open _root_.Array renaming getElem?_eq_none→fH,getElem?_eq_some_iff→aw,getElem?_modify→g_,length_toList→iA,mem_of_getElem?→h_,replicate→fF
open _root_.Bool renaming and_eq_true→ba,eq_iff_iff→gU,not_eq_true'→jp,or_eq_true→ft,true_and→eF
open _root_.ByteArray renaming mk→jf,size→iG
open _root_.Go renaming Addr→jG,CallsIn→bj2,Calls→jE,Code→bk9,Ending→bi6,Exit→bk7,FuncId→bl9,KeepsOthers→bj4,Operand→bl7,Oper→bk0,OwnFrom→bj3,Program→bi3,SeqStopsK→bl1,TypeId→jH,Value→jD,World→jC,YieldAt→bl4,belowK_b→bj6,bodyPost_ret→jF,callsIn_of_wp_marks→bi7,callsIn_of_wp→bj1,callsIn_wide→jI,getD_set_ne→bk6,ready_mono→bl8,results_none→bj7,run_takeDeferred→bi2,run_underlying→bi8,wpAnyH_take→bk5,wpIn_wide→bi4
open _root_.Go.Act renaming put→gL
open _root_.Go.Addr renaming add→iU
open _root_.Go.Builtin renaming append_→ja
open _root_.Go.CallsIn renaming inRound→d_
open _root_.Go.Code renaming region→jo
open _root_.Go.Ending renaming returned→ff
open _root_.Go.Exit renaming noGoto_ret→cf
open _root_.Go.Fence renaming wide→cz
open _root_.Go.Instr renaming next→fw
open _root_.Go.KeepsOthers renaming refl→gq,setCell→b7
open _root_.Go.Lib renaming below_iterAt→iq,decodeN→iW,hid→ai,iterAt_heap→iC,run_next_any_at→fp,run_next_end_at→fq
open _root_.Go.Op renaming bytesLess→dW,stringOp→fK
open _root_.Go.Oper renaming semAt_some→db,wp→je
open _root_.Go.Region renaming Mode→fD,binds→gK,free→iV,noSelect→gS,ready→eE,wanted→eQ
open _root_.Go.Result renaming andThen_ok→iF,andThen→dw
open _root_.Go.RowKit renaming intOf→av
open _root_.Go.Sem renaming run_bind→eT,run_pure→fX
open _root_.Go.Value renaming int→br
open _root_.Go.World renaming alloc_heap_new→du,cell?_alloc_lt→dt,cell?_of_block→co,cell?→fJ,frozen?→ju,iterPos→eR,putObj_heap_other→dx,putObj_heap_same→gN,setCell→bj,size_alloc→b_
open _root_.Int renaming natCast_mul→eG,toNat_natCast→dM
open _root_.List renaming all_append→gT,all_eq_true→dZ,append_assoc→eH,append_nil→eB,cons_append→dj,drop_drop→gp,drop_eq_getElem_cons→dN,drop_eq_nil_of_le→ei,eq_nil_of_length_eq_zero→da,flatMap_cons→dg,getElem?_append_left→eL,getElem?_append_right→d7,getElem?_cons_succ→bo,getElem?_drop→fL,getElem?_eq_getElem→an,getElem?_eq_some_iff→ci,getElem?_map→eD,getElem?_set_self→gM,getElem?_set→jq,getElem?_take→gJ,getElem?_toArray→bh,getElem_cons_succ→ej,getElem_cons_zero→dQ,getElem_mem→ar,getElem_of_mem→dR,getElem_set_self→fP,getElem_set→eW,getElem_toArray→eK,getLast?_cons_cons→fj,length_append→cd,length_cons→c_,length_drop→dr,length_map→ax,length_nil→dp,length_range→fo,length_set→eq,length→ez,map_cons→df,map_nil→jA,map_take→iR,mem_cons_of_mem→dS,mem_cons_self→di,mem_cons→cw,mem_map→dq,mem_of_getElem?→cm,mem_range→dh,mem_singleton→eM,nil_append→dz,pairwise_cons→b6,pairwise_iff_getElem→cj,range→bu,setIfInBounds_toArray→bd,set_cons_succ→am,set_cons_zero→ak,set_getElem_self→ie,take_append_drop→fQ,take_of_length_le→cl,take_prefix→eS,take_set_of_le→gm,take_succ_eq_append_getElem→aj
open _root_.Nat renaming add_assoc→gW,add_zero→ip,eq_zero_or_pos→fM,le_refl→ay,le_succ→dU,le_trans→a_,lt_of_lt_of_le→cn,lt_or_ge→fB,lt_or_gt_of_ne→iD,lt_succ_self→fA,reduceAdd→ao,reduceSub→dk,zero_add→au,zero_le→be
open _root_.Option renaming map_some→jb
open _root_.Or renaming inl→ge
open _root_.Bool renaming false→u?,true→t?
open _root_.Go.Ending renaming returned→a?
open _root_.Go.IntKind renaming i32→q?,i64→o?,u64→n?
open _root_.Go.Obj renaming cells→m?
open _root_.Go.Value renaming agg→g?,bool→h?,func→k?,int→c?,pointer→e?,slice→b?,string→f?,tuple→d?
open _root_.Option renaming none→Z,some→M
open _root_.Or renaming inl→r?,inr→s?
open _root_ renaming Array→x?,Bool→z?,ByteArray→v?,Int→I,List→E,Nat→O,Option→w?,UInt8→y?,absurd→H?,and_true→I?,beq_eq_false_iff_ne→G?,congrArg→C?,decide_eq_false→E?,decide_eq_true_eq→D?,decide_eq_true→F?,if_neg→A?,if_pos→B?
set_option maxRecDepth 100000
set_option maxHeartbeats 16000000
set_option linter.unusedVariables false
set_option linter.unusedSimpArgs false
set_option linter.defProp false
instance{α:Type}:CoeOut (E α) O:=⟨λl=>l.length⟩
variable{P:Prop}
def jS(h:P:=by omega):P:=h
def oo(h:P:=by kernel_rfl):P:=h
def B8(h:P:=by decide):P:=h
def lV(h:P:=by simp):P:=h
def mO(h:P:=by simp;omega):P:=h
def O1(h:P:=by rw[beq_eq_false_iff_ne];omega):P:=h
def TQ(h:P:=by rw[beq_iff_eq];omega):P:=h
def O0(h:P:=by unfold maxLen;omega):P:=h
def ZO(h:P:=by simp[Value.oneCell']):P:=h
def TO(h:P:=by decide+kernel):P:=h
def CJ(h:P:=by go_num):P:=h
def No(h:P:=by simp[RowKit.intOf];omega):P:=h
def LS(h:P:=by cases e):P:=h
def qch(h:P:=by cases h):P:=h
def qhs(h:P:=by have:=HB.size;simp at this⊢;omega):P:=h
def LR(h:P:=by injection e with e;omega):P:=h
def qhf(h:P:=by have:=(hf1 ad e).1;simp at this;omega):P:=h
def TP(h:P:=by cases e;omega):P:=h
def VV(h:P:=by rw[beq_eq_false_iff_ne];exact hp):P:=h
def YV(h:P:=by have:=hb.size;simp at this;omega):P:=h
def qhc(h:P:=by have:=hb.2;omega):P:=h
def WY(h:P:=by simp at h):P:=h
def S6(h:P:=by simpa using h):P:=h
def qes(h:P:=by have:=HB.size;omega):P:=h
def qus(h:P:=by unfold Hi.I64;dsimp only;omega):P:=h
def qlt(h:P:=by rw[List.length_take];omega):P:=h
def qlm(h:P:=by rw[List.length_map];omega):P:=h
def qhz(h:P:=by have:=H.size;omega):P:=h
variable{α:Type}
def xb:(∀l:E α,l.toArray.size=l.length)/\(∀(a:α)(l:E α),(a::l).length=l.length+1)/\([]:E α).length=0/\(∀(n:O)(a:α),Array.replicate (n+1) a=(Array.replicate n a).push a)/\(∀a:α,Array.replicate 0 a=#[])/\(∀(l:E α)(a:α),l.toArray.push a=(l++[a]).toArray)/\(∀l m:E α,l.toArray++m.toArray=(l++m).toArray)/\(∀l:E α,[]++l=l)/\(∀(a:α)(l m:E α),a::l++m=a::(l++m)):=⟨λ_=>List.size_toArray,λ_ _=>rfl,rfl,λ_ _=>Array.replicate_succ,λ_=>Array.replicate_zero,λ_ _=>List.push_toArray _ _,λ_ _=>List.append_toArray _ _,λ_=>rfl,λ_ _ _=>rfl⟩
def jU{a b:z?}(h:a=b):ff (h? a)=a? (h? b):=by rw[h]
def mL{k:IntKind}{a b:I}(h:a=b):ff (c? k a)=a? (c? k b):=by rw[h]
variable{B:O}{w:jC}
def below_drewN{a:jC}(h:Below B a w)(n:O):Below B a (w.drewN n):=⟨h.os,h.tape,h.output,h.size,h.block⟩
variable{W:jC}
def Below.two{a b:jC}(h:Below W.heap.size W a)(k:Below a.heap.size a b):Below W.heap.size W b:=h.trans (k.mono h.size)
def kx{a:jC}{o:Obj}(h:Below (w.alloc o).heap.size (w.alloc o) a):Below w.heap.size w a:=Below.two ((Below.refl _ _).alloc (ay _) o) h
variable{w':jC}
def jP(h:Below w.heap.size w w')(o:Obj):Below w.heap.size w (w'.alloc o):=h.alloc h.size o
def jQ(w:jC):Below w.heap.size w w:=Below.refl _ _
def Sq{a:jC}(c:Below W.heap.size W a):(∀b o,b<W.heap.size->a.cell? ⟨b,o,Z⟩=W.cell? ⟨b,o,Z⟩)/\(∀b o,b<W.heap.size->a.frozen? ⟨b,o,Z⟩=W.frozen? ⟨b,o,Z⟩):=
 ⟨λb o h=>c.cell (p:=⟨b,o,Z⟩) h,λb o h=>c.frozen (p:=⟨b,o,Z⟩) h⟩
def addr_add(b off j:O):(⟨b,off,Z⟩:jG).add j=⟨b,off+j,Z⟩:=by
 unfold iU;split
 .subst j;rfl
 rfl
def Rd(w:jC)(B:O)(A:w? jG)(xs:E jD):Prop:=
 xs≠[]->∃b a,A=M ⟨b,a,Z⟩/\b<B/\∀j u,xs[j]? =M u->w.cell? ⟨b,a+j,Z⟩=M u
section
variable{w w':jC}{B B':O}{A:w? jG}{xs:E jD}
def Rd.none_:Rd w B A []:=λh=>H? rfl h
def Rd.at_(h:Rd w B A xs)(c:0<xs.length):∃b a,A=M ⟨b,a,Z⟩/\b<B/\∀j u,xs[j]? =M u->w.cell? ⟨b,a+j,Z⟩=M u:=
 h (by rintro rfl;simp at c)
def Rd.keep(h:Rd w B A xs)(k:∀b o,b<B->w'.cell? ⟨b,o,Z⟩=w.cell? ⟨b,o,Z⟩):Rd w' B A xs:=λg=>by
 obtain⟨b,a,e,c,d⟩:=h g;exact⟨b,a,e,c,λj u f=>(k b _ c).trans (d j u f)⟩
def Rd.more(h:Rd w B A xs)(g:B<=B'):Rd w B' A xs:=λd=>by
 obtain⟨b,a,e,f,c⟩:=h d;exact⟨b,a,e,jS,c⟩
def Rd.below(h:Rd w B A xs)(c:Below B w w'):Rd w' B A xs:=h.keep λb o a=>c.cell (p:=⟨b,o,Z⟩) a
def Rd.alloc(h:Rd w B A xs)(d:B<=w.heap.size)(o:Obj):Rd (w.alloc o) B A xs:=h.keep λb c a=>dt w o _ (by show b<_;omega)
def Rd.adds(h:Rd w B A xs):∀a,A=M a->∀j u,xs[j]? =M u->w.cell? (a.add j)=M u:=λa e j u c=>by
 obtain⟨b,f,rfl,_,d⟩:=h (by rintro rfl;simp at c)
 cases e
 rw[addr_add];exact d j u c
def Rd.take(h:Rd w B A xs)(n:O):Rd w B A (xs.take n):=λf=>by
 obtain⟨b,c,e,g,d⟩:=h (by rintro rfl;simp at f);refine⟨b,c,e,g,λj u a=>d j u ?_⟩;rw[gJ]at a;split at a
 .exact a
 cases a
def Rd.cut(h:Rd w B A xs)(k cap:O)(l:xs.length<=cap):Rd w B (if cap=k then A else A.map (·.add k)) (xs.drop k):=λe=>by
 have f:k<xs.length:=by
  apply Classical.byContradiction;intro m;exact e (ei jS)
 obtain⟨b,c,rfl,g,a⟩:=h (by rintro rfl;simp at f);rw[A? jS];refine⟨b,c+k,by simp[addr_add],g,λj u d=>?_⟩;rw[gW];exact a _ u (by rw[<-d,fL])
variable{n:O}
def Rd.own{base:O}{e:jH}{size c:O}(h:w.ownsRow base e size (b? A n c) n xs):Rd w w.heap.size A xs:=λm=>by
 rcases h.2 with⟨_,k⟩|⟨g,cap,p,l,_,b,q,_,o,f⟩
 .exact H? (da (by rw[h.1,k];simp)) m
 have d:A=M ⟨g,0,Z⟩:=by injection l
 subst d;refine⟨g,0,rfl,(aw.1 b).1,λj u a=>?_⟩;rw[<-f,gJ]at a;split at a
 .rw[au];simpa[fJ,b]using a
 cases a
end
section
variable{P:bi3}(w:jC)
def vX(base:Nat)(t f e:jH)(i:TypeInfo)(size:Nat)(d:P.underlying t=some (.slice e))(hi:P.info? e=some i)(v:jD) (n:Nat) (xs:List jD) (a:w.ownsRow base e size v n xs) (c:Nat):(ja #[t,t] f #[v,.slice none 0 c]).run P w=.ok v w:=by
 rcases a.2 with⟨rfl,rfl⟩|⟨g,cap,h,rfl,_,_,b,_⟩
 .simp[ja,bi8 d,sizeOf,typeInfo,hi,Builtin.lenOf,Builtin.firstCells]
 simp[ja,bi8 d,sizeOf,typeInfo,hi,Builtin.lenOf,Builtin.firstCells,b,storeCells]
def rg(base:Nat)(t s e:jH)(i:TypeInfo)(z:jD)(size bytes:Nat)(J:P.underlying t=some (.slice e))(hi:P.info? e=some i)(Q:i.zero=some z)(k:i.size=size) (C:i.bytes=bytes) (y:z.cells.size=size) (o:0<size)(v:jD) (n:Nat) (xs:List jD) (a:w.ownsRow base e size v n xs)(B:Nat) (A:Option jG) (m c:Nat) (news:List jD) (L:news.length=m*size) (H:Rd w B A news) (T:∀u∈news,u.oneCell'=true)(D:n+m<=maxLen) (d:(n+m)*bytes<=140737488355328) (g:base<=w.heap.size):∃l w',(ja #[t,t] s #[v,.slice A m c]).run P w=.ok l w'/\w'.ownsRow base e size l (n+m) (xs++news)/\w.grownBy w' v.ownBlock/\ (l.ownBlock=v.ownBlock\/l.ownBlock=some w.heap.size):=by
 rcases A with _|K
 .have Y:news=[]:=by
   cases news with
   |nil=>rfl
   |cons x r=>obtain⟨_,_,h,_⟩:=H lV;cases h
  subst Y
  have q:m=0:=by
   rcases fM m with F|F
   .exact F
   have:=Nat.mul_pos F o;simp at L;omega
  subst q
  exact⟨v,w,vX w base t s e i size J hi v n xs a c,by simpa using a,World.grownBy.refl w _,.inl rfl⟩
 have f:∀j u,news[j]? =some u->w.cell? (K.add j)=some u:=by
  intro j u G;obtain⟨b,R,h,_,N⟩:=H (by rintro rfl;simp at G);injection h with h;subst h;rw[addr_add];exact N j u G
 obtain⟨l,w',p,W,V,_,X⟩:=run_append_own_at (P:=P) w base t s e i z size bytes J hi Q k C y o v n xs a K m c news L f T D d g;exact⟨l,w',p,W,V,X⟩
variable{ops:x? bk0}{rest:E bk0}{o:bk0}{Q:bk7->Act->jC->Prop}
def kr{a:Act}(l:o.guard=none)(s x:bl7)(t:jH)(D:o.op=.call {callee:=.builtin .append,args:=#[s,x],argTypes:=#[t,t]})(base:Nat) (e:jH) (i:TypeInfo) (z:jD) (size bytes:Nat) (R:P.underlying t=some (.slice e)) (hi:P.info? e=some i) (C:i.zero=some z)(f:i.size=size) (r:i.bytes=bytes) (q:z.cells.size=size) (p:0<size)(v:jD) (n:Nat) (xs:List jD) (hs:a.eval s=v) (k:w.ownsRow base e size v n xs)(B:Nat) (A:Option jG) (m c:Nat) (news:List jD) (K:a.eval x=.slice A m c) (T:news.length=m*size) (N:Rd w B A news) (G:∀u∈news,u.oneCell'=true)(y:n+m<=maxLen) (b:(n+m)*bytes<=140737488355328) (d:base<=w.heap.size)(h:∀g w',w'.ownsRow base e size g (n+m) (xs++news)->w.grownBy w' v.ownBlock->(g.ownBlock=v.ownBlock\/g.ownBlock=some w.heap.size)->wpList P ops Q rest (a.put o.dst g) w'):wpList P ops Q (o::rest) a w:=
 wpList_plain l λ_ H=>by
  obtain⟨g,w',j,L,J,F⟩:=rg (P:=P) w base t o.type e i z size bytes R hi C f r q p v n xs k B A m c news T N G y b d;unfold je execOp;simp only[D,resolve,invoke,builtin,eT,fX,iF,List.map_toArray,df,jA,hs,K,j];exact H _ _ (h g w' L J F)
end
def m7(w:jC)(v:jD)(t:jH)(b:O)(c:b=w.heap.size):∀j u,[v][j]? =M u->(w.alloc (m? #[v] t)).cell? ((⟨b,0,Z⟩:jG).add j)=M u:=by
 subst c;intro j u a
 cases j with
 |zero=>rw[addr_add,World.cell?_alloc_new];simpa using a
 |succ j=>simp at a
variable{P:bi3}
def vW(w:jC)(o y s a:jH)(z:P.underlying o=some (.slice a))(n:(P.info? a).map (·.size)=some 1)(g m c d:Nat)(x:Option jG)(f:Array jD) (t:jH) (q:w.heap[g]? =some (.cells f t (0,0))) (l:f.size=m) (cs:List jD) (p:cs.length=m) (B:Nat) (H:Rd w B x cs) (F:∀v∈cs,v.oneCell'=true):∃w',(Builtin.copy_ #[o,y] s #[.slice (some ⟨g,0,none⟩) m c,.slice x m d]).run P w=.ok (goInt m) w'/\w'.heap[g]? =some (.cells cs.toArray t (0,0))/\w.grownBy w' (some g)/\w'.heap.size=w.heap.size:=by
 by_cases J:m=0
 .subst J;obtain rfl:cs=[]:=da p;obtain rfl:f=#[]:=Array.eq_empty_of_size_eq_zero l;exact⟨w,run_copy_none (P:=P) w o y s a _ x 0 c 0 d z n (by simp),q,World.grownBy.refl w _,rfl⟩
 obtain⟨b,r,rfl,_,A⟩:=H (by rintro rfl;simp at p;omega);have h:=run_copy_row (P:=P) w o y s a g 0 m c ⟨b,r,none⟩ m d f t cs z n q (by rw[p];exact(Nat.min_self _).symm) (λj v D=>by rw[addr_add];exact A j v D) (by omega) F;rw[p]at h;refine⟨_,h,?_,?_,by simp[World.setRow]⟩
 .have C:f.toList.drop (0+m)=[]:=ei (by simp;omega);rw[setRow_heap w g _ _ t _ q,C];simp
 exact⟨rfl,rfl,rfl,by simp[World.setRow],λk _ G=>setRow_other w g k _ (λe=>G (by rw[e]))⟩
variable{ops:x? bk0}{rest:E bk0}{o:bk0}{Q:bk7->Act->jC->Prop}
def sM{a:Act}(l:o.guard=none)(d s:bl7)(p r:jH)(z:o.op=.call {callee:=.builtin .copy,args:=#[d,s],argTypes:=#[p,r]}) (b:jH) (F:P.underlying p=some (.slice b)) (n:(P.info? b).map (·.size)=some 1)(g m c e:Nat) (q:Option jG) (y:a.eval d=.slice (some ⟨g,0,none⟩) m c) (hs:a.eval s=.slice q m e)(f:Array jD) (t:jH) (x:w.heap[g]? =some (.cells f t (0,0))) (j:f.size=m) (cs:List jD) (L:cs.length=m) (B:Nat) (J:Rd w B q cs) (C:∀v∈cs,v.oneCell'=true)(h:∀w',w'.heap[g]? =some (.cells cs.toArray t (0,0))->w.grownBy w' (some g)->w'.heap.size=w.heap.size->wpList P ops Q rest (a.put o.dst (goInt m)) w'):wpList P ops Q (o::rest) a w:=by
 refine wpList_plain l λK D=>?_;obtain⟨w',k,G,H,A⟩:=vW (P:=P) w p r o.type b F n g m c e q f t x j cs L B J C;unfold je;simp[execOp,z,resolve,invoke,builtin,y,hs,k,dw];exact D _ _ (h w' G H A)
def vo(t e:jH)(i:TypeInfo)(z:jD)(l:P.underlying t=some (.slice e))(hi:P.info? e=some i)(j:i.zero=some z)(b:i.size=1)(d f:IntKind) (n c:Nat) (m:n<=c) (a:i.bytes*c<=281474976710656) (o:c<=9223372036854775807) (w:jC):(Instr.makeSlice t (.int d (n:Int)) (.int f (c:Int))).run P w=.ok (.slice (some ⟨w.heap.size,0,none⟩) n c) (w.alloc (.cells (madeCells z.cells c) e)):=by
 have k:(i.bytes:Int)*(c:Int)<=281474976710656:=by
  have h:((i.bytes*c:Nat):Int)<=281474976710656:=jS;rwa[eG]at h
 have g:=run_make (P:=P) w t e i z l hi j d f n c jS jS k jS;simp only[dM,b,Nat.mul_one]at g;exact g
def oV(w:jC)(base:O)(A:w? jG):Prop:=∀a,A=M a->base<=a.block/\∃cs t,w.heap[a.block]? =M (m? cs t (0,0))
def oh{b:O}{o:Obj}(h:w.heap[b]? =M o):b<w.heap.size:=(aw.1 h).1
variable{A:w? jG}
def oV.later{base:O}(h:oV w base A)(d:Below w.heap.size w w'):oV w' base A:=λb e=>by
 obtain⟨c,cs,t,a⟩:=h b e;exact⟨c,cs,t,(d.block _ (oh a)).trans a⟩
def oV.from{base a:O}(h:oV w base A)(c:a<=base):oV w a A:=λb e=>⟨a_ c (h b e).1,(h b e).2⟩
def oV.set{base:O}(h:oV w base A)(p:jG)(v:jD):oV (w.setCell p v) base A:=λb e=>by
 obtain⟨d,cs,t,a⟩:=h b e;refine⟨d,?_⟩;by_cases c:b.block=p.block
 .rw[c]at a⊢;simp only[bj,g_,if_true,a,jb];exact⟨_,_,rfl⟩
 exact⟨cs,t,(Below.heap_setCell w p v b.block c).trans a⟩
variable{row:w? O}
def oV.kept{base:O}(h:oV w base A)(d:w.grownBy w' row)(f:∀r,row=M r->∃o:Obj,w.heap[r]? =M o/\o.isCells=u?):oV w' base A:=λj e=>by
 obtain⟨k,cs,t,a⟩:=h j e;refine⟨k,cs,t,(d.block _ (oh a) (λg=>?_)).trans a⟩;obtain⟨o,b,c⟩:=f _ g.symm;rw[a]at b;cases b;cases c
variable{n:O}{v:jD}{xs:E jD}
def lB{base:O}{e:jH}{size:O}(h:w.ownsRow base e size v n xs):∃A c,v=b? A n c/\n<=c/\Rd w w.heap.size A xs/\oV w base A:=by
 have d:=h;rcases h.2 with⟨rfl,rfl⟩|⟨g,cap,a,rfl,f,j,b,_⟩
 .exact⟨Z,0,rfl,ay _,Rd.own d,λ_ e=>LS⟩
 exact⟨_,cap,rfl,b,Rd.own d,λ_ k=>by cases k;exact⟨f,a,e,j⟩⟩
def U(x:I):Prop:=0<=x/\x<=18446744073709551615
def Us(l:E I):Prop:=∀x∈l,U x
def nth(l:E I)(k:O):I:=(l[k]?).getD 0
def Sl(w:jC)(B:O)(A:w? jG)(l:E I):Prop:=Rd w B A (l.map (br n?))
section
variable{w w':jC}{B B':O}{A:w? jG}{l:E I}
def Sl.nil:Sl w B A []:=Rd.none_
variable{j:O}
def T8(h:j<l.length):l[j]? =M (nth l j):=by simp[nth,h]
def Sl.at_(h:Sl w B A l)(f:0<l.length):∃b a,A=M ⟨b,a,Z⟩/\b<B/\∀j,j<l.length->w.cell? ⟨b,a+j,Z⟩=M (c? n? (nth l j)):=by
 obtain⟨b,a,e,g,c⟩:=Rd.at_ h (by simpa using f);exact⟨b,a,e,g,λj d=>c j _ (by rw[eD,T8 d];rfl)⟩
def Sl.more(h:Sl w B A l)(a:B<=B'):Sl w B' A l:=Rd.more h a
def Sl.keep(h:Sl w B A l)(a:∀b o,b<B->w'.cell? ⟨b,o,Z⟩=w.cell? ⟨b,o,Z⟩):Sl w' B A l:=Rd.keep h a
def Sl.below(h:Sl w B A l)(a:Below B w w'):Sl w' B A l:=Rd.below h a
def Sl.later(h:Sl w w.heap.size A l)(a:Below w.heap.size w w'):Sl w' w'.heap.size A l:=(Sl.below h a).more a.size
def Sl.alloc(h:Sl w B A l)(a:B<=w.heap.size)(o:Obj):Sl (w.alloc o) B A l:=Rd.alloc h a o
def Sl.al(h:Sl w w.heap.size A l)(a:Below w.heap.size w w'):Sl w' w.heap.size A l:=Sl.below h a
def PG(w:jC)(x:I)(t:jH)(b:O)(c:b=w.heap.size):Sl (w.alloc (m? #[c? n? x] t)) (w.alloc (m? #[c? n? x] t)).heap.size (M ⟨b,0,Z⟩) [x]:=λ_=>by
 subst c;exact⟨w.heap.size,0,rfl,lV,λj u a=>by have:=m7 w (c? n? x) t _ rfl j u a;rwa[addr_add]at this⟩
def Sl.take(h:Sl w B A l)(n:O):Sl w B A (l.take n):=by
 have:=Rd.take h n;rwa[<-iR]at this
def Sl.cut(h:Sl w B A l)(k cap:O)(a:l.length<=cap):Sl w B (if cap=k then A else A.map (·.add k)) (l.drop k):=by
 have:=Rd.cut h k cap (by simpa using a);rwa[<-List.map_drop]at this
end
variable{l:E I}
def rI(h:Us l)(j:O):0<=nth l j/\nth l j<=18446744073709551615:=by
 unfold nth
 cases e:l[j]? with
 |none=>simp
 |some x=>exact h x (cm e)
def Ed:∀u∈l.map (br n?),u.oneCell'=t?:=by
 intro u a;obtain⟨x,_,rfl⟩:=dq.1 a;rfl
def Held(w:jC)(base:O)(v:jD)(l:E I):Prop:=
 ∃A c,v=b? A l.length c/\l.length<=c/\(A=Z->c=0)/\Sl w w.heap.size A l/\oV w base A
def Held.later{base:O}(h:Held w base v l)(a:Below w.heap.size w w'):Held w' base v l:=by
 obtain⟨A,c,e,b,f,g,d⟩:=h;exact⟨A,c,e,b,f,g.later a,d.later a⟩
def rN(w:jC)(base:O):Held w base (b? Z 0 0) []:=⟨Z,0,rfl,ay _,λ_=>rfl,Sl.nil,λ_ e=>LS⟩
def Sl.to(h:Sl w w.heap.size A l)(hs:w.heap.size<=w'.heap.size)(g:∀b o v,w.cell? ⟨b,o,Z⟩=M v->w'.cell? ⟨b,o,Z⟩=M v):Sl w' w'.heap.size A l:=λf=>by
 obtain⟨b,a,e,k,c⟩:=h f;exact⟨b,a,e,jS,λj u d=>g b _ u (c j u d)⟩
def jR(w:jC)(g:O)(t:jH)(cs:x? jD):Prop:=w.heap[g]? =M (m? cs t (0,0))
section
variable{w w':jC}{g:O}{t:jH}{cs:x? jD}
def jR.lt(h:jR w g t cs):g<w.heap.size:=oh h
def jR.cell(h:jR w g t cs)(i:O):w.cell? ⟨g,i,Z⟩=cs[i]? :=by
 unfold jR at h;simp[fJ,h]
def jR.at_(h:jR w g t cs)(i:O)(a:cs[i]? =M v):w.cell? ⟨g,i,Z⟩=M v:=(h.cell i).trans a
variable{a b c:jD}
def jR.c0(h:jR w g t #[a,b,c]):w.cell? ⟨g,0,Z⟩=M a:=h.cell 0
def jR.c1(h:jR w g t #[a,b,c]):w.cell? ⟨g,1,Z⟩=M b:=h.cell 1
def jR.c2(h:jR w g t #[a,b,c]):w.cell? ⟨g,2,Z⟩=M c:=h.cell 2
def jR.one(h:jR w g t #[a]):w.cell? ⟨g,0,Z⟩=M a:=h.cell 0
def jR.zS{x y z:jD}(h:jR w g t #[a,b,c]):jR (((w.setCell ⟨g,0,Z⟩ x).setCell ⟨g,1,Z⟩ y).setCell ⟨g,2,Z⟩ z) g t #[x,y,z]:=by
 unfold jR at h⊢;simp[bj,g_,h]
def jR.frozen(h:jR w g t cs)(i:O):w.frozen? ⟨g,i,Z⟩=u?:=by
 unfold jR at h;simp[ju,h]
def jR.new(w:jC)(t:jH)(cs:x? jD):jR (w.alloc (m? cs t)) w.heap.size t cs:=du w _
def jR.drew(h:jR w g t cs):jR w.drew g t cs:=h
def jR.alloc(h:jR w g t cs)(o:Obj):jR (w.alloc o) g t cs:=(Below.heap_alloc w o g h.lt).trans h
def jR.kY(h:jR w g t cs)(i:O)(u:jD):jR (w.setCell ⟨g,i,Z⟩ u) g t (cs.setIfInBounds i u):=by
 unfold jR at h⊢;simp[bj,g_,h]
def jR.far(h:jR w g t cs){p:jG}(a:g≠p.block)(u:jD):jR (w.setCell p u) g t cs:=(Below.heap_setCell w p u g a).trans h
def jR.below(h:jR w g t cs)(b:Below B w w')(a:g<B):jR w' g t cs:=(b.block g a).trans h
def jR.later(h:jR w g t cs)(a:Below w.heap.size w w'):jR w' g t cs:=(a.block g h.lt).trans h
def jR.grown(h:jR w g t cs)(b:w.grownBy w' row)(a:M g≠row):jR w' g t cs:=(b.block g h.lt a).trans h
def jR.kept(h:jR w g t cs)(d:w.grownBy w' row)(c:∀r,row=M r->∃o:Obj,w.heap[r]? =M o/\o.isCells=u?):jR w' g t cs:=
 h.grown d (λe=>by obtain⟨o,a,b⟩:=c _ e.symm;rw[show w.heap[g]? =_ from h]at a;cases a;cases b)
def jR.sl(h:jR w g t (l.map (br n?)).toArray):Sl w w.heap.size (M ⟨g,0,Z⟩) l:=λ_=>
 ⟨g,0,rfl,h.lt,λj u a=>by rw[au,h.cell];simpa using a⟩
variable{b:O}
def Jo{off:O}(h:Sl w B A l)(m:jR w g t cs)(o:∀v∈cs,∀n,v≠br n? n)(a:l≠[])(k:A=M ⟨b,off,Z⟩):b≠g:=by
 rintro rfl;obtain⟨q,d,e,p,j⟩:=h (by simpa using a);rw[k]at e
 cases e
 have f:0<(l.map (br n?)).length:=by
  cases l with
  |nil=>exact H? rfl a
  |cons x r=>simp
 have c:=j 0 _ (an f);obtain⟨n,_,e⟩:=dq.1 (ar f);rw[<-e,m.cell]at c;exact o _ (h_ c) n rfl
def Nd(h:Sl w w.heap.size A l)(r:jR w g t cs)(p:∀v∈cs,∀n,v≠br n? n)(f:w.grownBy w' (M g)):Sl w' w'.heap.size A l:=λk=>by
 have c:l≠[]:=by rintro rfl;exact k rfl
 obtain⟨b,d,e,m,o⟩:=h k;have a:=Jo h r p c e;exact⟨b,d,e,cn m f.size,λj v q=>(co (f.block b m (λe=>a (by injection e)))).trans (o j v q)⟩
end
variable{g:O}{t:jH}
def jR.held{base:O}(h:jR w g t (l.map (br n?)).toArray)(a:base<=g):Held w base (b? (M ⟨g,0,Z⟩) l.length l.length) l:=
 ⟨_,_,rfl,ay _,(λe=>LS),h.sl,(λb e=>by cases e;exact⟨a,_,_,h⟩)⟩
variable{b:O}{cs:x? jD}
def G9{base:O}{d:x? jD}(h:Held w base v l)(y:jR w b t cs)(B:∀v∈cs,∀n,v≠br n? n)(f:w.grownBy w' (M b))(a:jR w' b t d):Held w' base v l:=by
 obtain⟨A,c,e,m,p,q,r⟩:=h;refine⟨A,c,e,m,p,Nd q y B f,λk z=>?_⟩;obtain⟨x,o,s,g⟩:=r k z;refine⟨x,?_⟩;by_cases j:k.block=b
 .rw[j];exact⟨_,_,a⟩
 exact⟨o,s,(f.block _ (oh g) (λe=>j (by injection e))).trans g⟩
def Di(w:jC)(g:O)(x y z:jD):w.grownBy (((w.setCell ⟨g,0,Z⟩ x).setCell ⟨g,1,Z⟩ y).setCell ⟨g,2,Z⟩ z) (M g):=by
 have j:∀(w:jC)(o:O)(u:jD),w.grownBy (w.setCell ⟨g,o,Z⟩ u) (M g):=λw o u=>⟨rfl,rfl,rfl,by simp[bj],λi f d=>Below.heap_setCell w ⟨g,o,Z⟩ u i (λe=>d (by rw[e]))⟩;have l:∀{a b c:jC},a.grownBy b (M g)->b.grownBy c (M g)->a.grownBy c (M g):=λh k=>⟨k.os.trans h.os,k.tape.trans h.tape,k.output.trans h.output,a_ h.size k.size,λi f m=>(k.block i (cn f h.size) m).trans (h.block i f m)⟩;exact l (l (j w 0 x) (j _ 1 y)) (j _ 2 z)
def N7(w:jC)(row:w? O):w.grownBy w row:=World.grownBy.refl w row
def k6(w:jC)(g o:O)(u:jD):w.grownBy (w.setCell ⟨g,o,Z⟩ u) (M g):=
 ⟨rfl,rfl,rfl,by simp[bj],λi b a=>Below.heap_setCell w ⟨g,o,Z⟩ u i (λe=>a (by rw[e]))⟩
variable{a:jC}
def jW{b c:jC}(h:a.grownBy b row)(k:b.grownBy c row):a.grownBy c row:=
 ⟨k.os.trans h.os,k.tape.trans h.tape,k.output.trans h.output,a_ h.size k.size,λi e d=>(k.block i (cn e h.size) d).trans (h.block i e d)⟩
def kH(h:Below a.heap.size a w)(row:w? O):a.grownBy w row:=⟨h.os,h.tape,h.output,h.size,λi b _=>h.block i b⟩
def Co(h:a.grownBy w row)(c:B<=a.heap.size)(b:∀g,row=M g->B<=g):Below B a w:=
 ⟨h.os,h.tape,h.output,h.size,λi d=>h.block i jS (λe=>by have:=b i e.symm;omega)⟩
def ly(h:Below a.heap.size a w)(b:w.grownBy w' (M g))(c:a.heap.size<=g):Below a.heap.size a w':=h.grown b h.size (λk e=>by cases e;exact c)
abbrev At(N:O):={p:O // p<N}
variable{N:O}
def mH:∀(a:E O),(∀p∈a,p<N)->∃b:E (At N),b.map (·.1)=a
 |[],_=>⟨[],rfl⟩
 |p::a,h=>by
  obtain⟨b,c⟩:=mH a (λq d=>h q (dS _ d));exact⟨⟨p,h p (di ..)⟩::b,by simp[c]⟩
def kZ(n₀ g:O)(A B:jC):Prop:=A.heap.size<=B.heap.size/\∀i,i<n₀->i≠g->B.heap[i]? =A.heap[i]?
def og(n₀ g:O)(A:jC):kZ n₀ g A A:=⟨ay _,λ_ _ _=>rfl⟩
variable{n₀:O}{B:jC}
def l_{A C:jC}(h:kZ n₀ g A B)(k:kZ n₀ g B C):kZ n₀ g A C:=⟨a_ h.1 k.1,λi b a=>(k.2 i b a).trans (h.2 i b a)⟩
def qf(c:n₀<=w.heap.size)(W:jC)(l:O)(o b:Obj)(e:w.heap.size<=l)(h:W.heap[l]? =M o)(_:o.isCells=u?)(_:o.isWalk=u?):kZ n₀ g W (W.putObj l b):=by
 have a:=bj6 c W l o b e h ‹_› ‹_›;exact⟨a.size,λi d _=>a.block i d⟩
def pD{A:jC}(a:n₀<=A.heap.size)(h:Below A.heap.size A B):kZ n₀ g A B:=⟨h.size,λi b _=>h.block i jS⟩
def p8{A:jC}(b:n₀<=A.heap.size)(h:A.grownBy B (M g)):kZ n₀ g A B:=⟨h.size,λi c a=>h.block i jS (λe=>a (by injection e))⟩
def jR.but{A:jC}(h:jR A b t cs)(a:kZ n₀ g A B)(d:b<n₀)(c:b≠g):jR B b t cs:=(a.2 b d c).trans h
variable{W':jC}
def sF{β:Type}{J:β->jC->Prop}(h:AbidesFrom n J){s:β}(hs:J s W)(a:Below W.heap.size W W'):J s W':=
 h s W W' Z hs ⟨a.os,a.tape,a.output,a.size,λi b _=>a.block i b⟩ (λr e=>LS)
def zE{A B:jC->Prop}:∀(e:bi6)(W':jC),(e=a? (h? t?)/\A W'\/e=a? (h? u?)/\B W')->∃b,e=a? (h? b)/\(bif b then A W' else B W')
 |_,_,r? ⟨rfl,h⟩=>⟨t?,rfl,h⟩
 |_,_,s? ⟨rfl,h⟩=>⟨u?,rfl,h⟩
def ky(h:Below W.heap.size W W'):bj4 W W':=
 ⟨h.size,λk o a _=>(h.block k (oh a)).trans a⟩
def Jp{X:jC}{m:E I}(h:Sl X X.heap.size A m)(f:kZ X.heap.size g X W)(a:∀d,A=M d->d.block≠g):Sl W W.heap.size A m:=λo=>by
 obtain⟨b,c,e,k,l⟩:=h o;exact⟨b,c,e,cn k f.1,λj u n=>(co (f.2 b k (a _ e))).trans (l j u n)⟩
structure After(W:jC):Type where
 at_:jC
 is:Below W.heap.size W at_
def After.cell{o:O}(h:W.cell? ⟨b,o,Z⟩=M v)(a:b<W.heap.size):∀x:After W,x.at_.cell? ⟨b,o,Z⟩=M v:=λx=>(x.is.cell (p:=⟨b,o,Z⟩) a).trans h
theorem After.some(W:jC):Nonempty (After W):=⟨⟨W,Below.refl _ _⟩⟩
variable{a:Act}
def yU{id:O}{l:E bk0}(b:P.follows .mixedOrders=t?)(c:Region.lexB .any l.toArray=t?)(h:wpQuiet P l.toArray (λw'=>∃x:After w,w'=x.at_) (λa'=>∀w',(∃x:After w,w'=x.at_)->Q .normal a' w') l a):(jo id l.toArray t?).wp P Q a w:=
 wp_region_quiet (C:=λw'=>∃x:After w,w'=x.at_) b c ⟨⟨_,(Below.refl w.heap.size w).drew⟩,rfl⟩ S6
variable{args:x? jD}
def na{f:bl9}{x:After W}(h:jE P f args x.at_ λe w'=>e=a? v/\Below x.at_.heap.size x.at_ w'):jE P f args x.at_ λe a=>e=a? v/\∃y:After W,a=y.at_:=h.mono λ_ a⟨b,c⟩=>⟨b,⟨a,Below.two x.is c⟩,rfl⟩
section
variable{P:bi3}{ops:x? bk0}{Q:bk7->Act->jC->Prop}{md:fD}{S:jC->Prop}{s:O}
def mh(P:bi3)(md:fD)(ops:x? bk0)(Q:bk7->Act->jC->Prop)(S:jC->Prop)(s:O):O->x? z?->Act->jC->Prop
 |0,listed,a,w=>eE md ops listed=[]/\Q .normal a w
 |fuel+1,listed,a,w=>
  (eE md ops listed=[]->Q .normal a w)/\
  ∀i∈eE md ops listed,wpOp P ops Q i (λa' w'=>((listed.setIfInBounds i t?).getD s t?=u?->S w')/\mh P md ops Q S s fuel (listed.setIfInBounds i t?) a' w') a w
def vh:∀(fuel:O)(listed:x? z?)(a:Act)(w:jC),mh P md ops Q S s fuel listed a w->wpAny P md ops Q fuel listed a w
 |0,_,_,_,h=>h
 |fuel+1,_,_,_,h=>⟨h.1,λi c=>wpOp_mono (λa' w' b=>vh fuel _ a' w' b.2) (h.2 i c)⟩
def waits(md:fD)(ops:x? bk0)(s i:O):z?:=match ops[s]? with
 |some o=>o.after.any λe=>gK md e&&e.on==i
 |none=>u?
variable{j:O}
def I9{i:O}{c:bk0}(h:waits md ops s i=t?)(d:ops[j]? =M c)(b:∀e∈c.after,gK md e=t?->e.on≠i):j≠s:=by
 rintro rfl;unfold waits at h;rw[d]at h;simp only[Array.any_eq_true']at h;obtain⟨e,f,a⟩:=h;simp only[ba,beq_iff_eq]at a;exact b e f a.1 a.2
variable{oi:bk0}
def DJ{i:O}(hi:ops[i]? =M oi)(m:∀(j:O)(o:bk0) cs b,ops[j]? =M o->o.op≠.select cs b)(Y:∀c a w,Q (.panic c) (a.put oi.dst v) w->Q (.panic c) a w) (N:waits md ops s i=t?) (L:i≠s):∀(fuel:O)(listed:x? z?)(a:Act)(w:jC),(∀j r,ops[j]? =M r->j≠i->listed.getD j t?=u?->(∀e∈r.after,gK md e=t?->e.on≠i)->oi.apart ops r=t?)->i∈eE md ops listed->YieldsIf P ops S oi v a->listed.getD s t?=u?->S w->mh P md ops Q S s fuel (listed.setIfInBounds i t?) (a.put oi.dst v) w->mh P md ops Q S s (fuel+1) listed a w:=by
 intro fuel;induction fuel with
 |zero=>
  intro listed a w _ t F R C H;refine⟨λh=>(by rw[h]at t;cases t),λj D=>?_⟩;by_cases d:j=i
  .subst d;exact F.wpOp hi C ⟨λ_=>C,H⟩
  have:=bl8 D d;rw[H.1]at this
  cases this
 |succ fuel ih=>
  intro listed a w f t F R C H;refine⟨λh=>(by rw[h]at t;cases t),λj D=>?_⟩;by_cases d:j=i
  .subst d;exact F.wpOp hi C ⟨λ_=>C,H⟩
  have q:=H.2 j (bl8 D d);obtain⟨n,r,g,y⟩:=mem_ready.1 D;have p:∀e∈r.after,gK md e=t?->e.on≠i:=λe he hb V=>by
   have q:=y e he hb;have X:=(mem_ready.1 t).1;rw[V]at q;rcases fB i listed.size with T|T
   .simp[T]at X q;rw[X]at q;cases q
   simp[fH T]at q
  have x:=I9 N g p;have h2:=wpOp_putIf g (f j r g d n p) (λcs b=>m i oi cs b hi) (λcs b=>m j r cs b g) Y F q;have l:∀k ok,ops[k]? =M ok->k≠i->(listed.setIfInBounds j t?).getD k t?=u?->
   (∀e∈ok.after,gK md e=t?->e.on≠i)->oi.apart ops ok=t?:=λk ok hk J B W=>by
   refine f k ok hk J ?_ W
   by_cases A:j=k
   .subst A;exact n
   rw[bk6 t? A]at B;exact B
  have K:(listed.setIfInBounds j t?).getD s t?=u?:=by rw[bk6 t? x];exact R
  have z:((listed.setIfInBounds i t?).setIfInBounds j t?).getD s t?=u?:=by rw[bk6 t? x,bk6 t? L];exact R
  refine wpOp_mono (λa' w' G=>⟨λ_=>G.2.1 z,ih (listed.setIfInBounds j t?) a' w' l (bl8 t (Ne.symm d)) G.1 K (G.2.1 z) ?_⟩) h2;rw[Array.setIfInBounds_comm _ _ d];exact G.2.2
def Cg(l:x? z?)(j:O):(l.setIfInBounds j t?).getD j t?=t?:=by
 rw[Array.getD_eq_getD_getElem?];rcases fB j l.size with h|h
 .simp[h]
 simp[h]
def BP{i:O}(hi:ops[i]? =M oi)(l:∀(j:O)(o:bk0) cs b,ops[j]? =M o->o.op≠.select cs b)(W:∀c a w,Q (.panic c) (a.put oi.dst v) w->Q (.panic c) a w) (q:i≠s):∀(fuel:O)(listed:x? z?)(a:Act)(w:jC),(∀j x,ops[j]? =M x->j≠i->listed.getD j t?=u?->(∀e∈x.after,gK md e=t?->e.on≠i)->oi.apart ops x=t?)->i∈eE md ops listed->YieldsIf P ops (λ_=>True) oi v a->(listed.getD s t?=u?->S w)->mh P md ops Q S s fuel (listed.setIfInBounds i t?) (a.put oi.dst v) w->mh P md ops Q S s (fuel+1) listed a w:=by
 intro fuel;induction fuel with
 |zero=>
  intro listed a w _ y G N H;refine⟨λh=>(by rw[h]at y;cases y),λj F=>?_⟩;by_cases d:j=i
  .subst d;exact G.wpOp hi trivial ⟨λt=>N (by rwa[bk6 t? q]at t),H⟩
  have:=bl8 F d;rw[H.1]at this
  cases this
 |succ fuel X=>
  intro listed a w f y G N H;refine⟨λh=>(by rw[h]at y;cases y),λj F=>?_⟩;by_cases d:j=i
  .subst d;exact G.wpOp hi trivial ⟨λt=>N (by rwa[bk6 t? q]at t),H⟩
  have p:=H.2 j (bl8 F d);obtain⟨m,x,r,z⟩:=mem_ready.1 F;have D:∀e∈x.after,gK md e=t?->e.on≠i:=λe Y hb R=>by
   have p:=z e Y hb;have V:=(mem_ready.1 y).1;rw[R]at p;rcases fB i listed.size with L|L
   .simp[L]at V p;rw[V]at p;cases p
   simp[fH L]at p
  have h2:=wpOp_putIf r (f j x r d m D) (λcs b=>l i oi cs b hi) (λcs b=>l j x cs b r) W G p;have g:∀k ok,ops[k]? =M ok->k≠i->(listed.setIfInBounds j t?).getD k t?=u?->
   (∀e∈ok.after,gK md e=t?->e.on≠i)->oi.apart ops ok=t?:=λk ok hk J B T=>by
   refine f k ok hk J ?_ T
   by_cases A:j=k
   .subst A;exact m
   rw[bk6 t? A]at B;exact B
  refine wpOp_mono (λa' w' K=>?_) h2;have C:(listed.setIfInBounds j t?).getD s t?=u?->S w':=λt=>K.2.1 (by
   by_cases n:j=s
   .subst n;rw[Cg]at t;cases t
   rw[bk6 t? n,bk6 t? q];rwa[bk6 t? n]at t)
  refine⟨C,X (listed.setIfInBounds j t?) a' w' g (bl8 y (Ne.symm d)) K.1 C ?_⟩;rw[Array.setIfInBounds_comm _ _ d];exact K.2.2
variable{fuel:O}{listed:x? z?}
def ye{i:O}(hi:ops[i]? =M oi)(hs:gS ops=t?) (l:iV md ops listed i=t?) (e:(eE md ops listed).contains i=t?) (d:waits md ops s i=t?) (b:i≠s) (g:listed.getD s t?=u?)(f:∀c a w,Q (.panic c) (a.put oi.dst v) w->Q (.panic c) a w) (k:YieldsIf P ops S oi v a) (j:S w)(h:mh P md ops Q S s fuel (listed.setIfInBounds i t?) (a.put oi.dst v) w):mh P md ops Q S s (fuel+1) listed a w:=
 DJ hi (Region.noSelect_spec hs) f d b fuel listed a w (Region.free_spec hi l) (by simpa using e) k g j h
def nc{i:O}(hi:ops[i]? =M oi)(hs:gS ops=t?) (j:iV md ops listed i=t?) (d:(eE md ops listed).contains i=t?) (b:i≠s)(e:∀c a w,Q (.panic c) (a.put oi.dst v) w->Q (.panic c) a w) (g:YieldsIf P ops (λ_=>True) oi v a) (f:listed.getD s t?=u?->S w)(h:mh P md ops Q S s fuel (listed.setIfInBounds i t?) (a.put oi.dst v) w):mh P md ops Q S s (fuel+1) listed a w:=
 BP hi (Region.noSelect_spec hs) e b fuel listed a w (Region.free_spec hi j) (by simpa using d) g f h
def I7{i:O}(c:eE md ops listed=[i])(l:ops[i]? =M o)(h:∀b:Act->jC->Prop,Shut (∀a w,((listed.setIfInBounds i t?).getD s t?=u?->S w)->mh P md ops Q S s fuel (listed.setIfInBounds i t?) a w->b a w)->if eQ o (yielded ops a.tmps)=t? then je P o a w b Q else b (a.put o.dst undef) w):mh P md ops Q S s (fuel+1) listed a w:=
 ⟨λe=>(by rw[c]at e;cases e),λj d=>by
  rw[c]at d;obtain rfl:=eM.1 d;exact wpOp_step l (λb k=>h b (λa w g f=>k a w ⟨g,f⟩))⟩
def Fq(b:eE md ops listed=[])(h:Q .normal a w):
 ∀fuel,mh P md ops Q S s fuel listed a w
 |0=>⟨b,h⟩
 |_+1=>⟨λ_=>h,by rw[b];simp⟩
def kG{id:O}(b:P.follows .mixedOrders=t?)(h:mh P .any ops Q S s ops.size (fF ops.size u?) a w.drew):(jo id ops t?).wp P Q a w:=
 wp_region_any b (vh _ _ _ _ h)
end
section
variable{P:bi3}{md:fD}{ops:x? bk0}{Q:bk7->Act->jC->Prop}{l n:O}
variable{K:Act->jC->Prop}
def JP{k:Act->jC->Prop}(m:∀c,o.op≠.defer c)(g:∀a w,K a w->k a w) (h:o.wp P a w K Q):o.wpIn (Fence.wide.inRound l) n P a w k Q:=by
 refine⟨λ_ _=>trivial,?_⟩;rw[Oper.semAt_eq _ _ _ m];unfold je at h;generalize(execOp a.eval o).run P w=r at h
 cases r with
 |ok x w'=>
  cases x with
  |value v=>exact g _ _ h
  |skip=>exact g _ _ h
  |defer d=>exact g _ _ h
  |enter f args=>
   refine⟨(λe=>LS),d_ l (jI.2 (h.mono ?_))⟩;intro e b j
   cases e with
   |returned v=>exact g _ _ j
   |panicked c=>exact j
   |outgrown=>exact j
  |row s args=>exact⟨(λe=>LS),λc cs _=>let⟨v,b,r,p⟩:=h c cs;⟨v,b,g _ _ r,stepsIn_wide.2 p⟩⟩
  |_=>exact h.elim
 |halt x w'=>
  cases x with
  |panic v=>exact h
  |_=>exact h.elim
def rS(d:∀(i:O)(o:bk0),ops[i]? =M o->∀c,o.op≠.defer c)(e:¬LetsOut Q):∀(fuel:O)(listed:x? z?)(a:Act)(w:jC),wpAny P md ops Q fuel listed a w->wpAnyIn (Fence.wide.inRound l) n P md ops Q fuel listed a w
 |0,_,_,_,h=>h
 |fuel+1,listed,a,w,h=>⟨h.1,λi j=>by
  have b:=h.2 i j;unfold wpOp at b;unfold wpOpIn
  cases g:ops[i]? with
  |none=>rw[g]at b;exact rS d e fuel _ _ _ b
  |some o=>
   rw[g]at b;simp only at b⊢;split
   .rename_i f;rw[B? f]at b;rcases b with b|⟨_,b⟩
    .exact JP (d i o g) (λa w h=>rS d e fuel _ a w h) b
    exact H? b e
   rename_i f;rw[A? f]at b;exact⟨λ_ _=>trivial,rS d e fuel _ _ _ b⟩⟩
def qQ{S:jC->Prop}{id:O}(f:P.follows .mixedOrders=t?)(b:ops.toList.all (λo:bk0=>match o.op with|.defer _=>u?|_=>t?)=t?)(d:¬LetsOut Q)(j:S w.drew)(h:S w.drew->wpAnyH P .any ops Q S ops.size (fF ops.size u?) a w.drew):(jo id ops t?).wpIn (Fence.wide.inRound l) n P Q a w:=by
 refine wpIn_region_any f (rS (λi o g c e=>?_) d _ _ _ _ (wpAny_of_held _ _ _ _ (h j)));have:=dZ.1 b o (by simpa using h_ g);rw[e]at this
 cases this
end
def kz(w:jC)(g:O):O->E jD->Prop
 |_,[]=>True
 |i,v::a=>w.cell? ⟨g,i,Z⟩=M v/\kz w g (i+1) a
def qG{cs:E jD}(h:jR w g t cs.toArray):∀(a:E jD)(i:O),(∀j u,a[j]? =M u->cs[i+j]? =M u)->kz w g i a
 |[],_,_=>trivial
 |v::a,i,b=>⟨by rw[h.cell,bh];exact b 0 v rfl,qG h a (i+1) λj u c=>by rw[show i+1+j=i+(j+1) by omega];exact b (j+1) u c⟩
structure Hold(w0 w:jC)(bs:E (O×jH×E jD)):Prop where
 below:Below w0.heap.size w0 w
 blk:∀b∈bs,w0.heap.size<=b.1/\jR w b.1 b.2.1 b.2.2.toArray
 apart:bs.Pairwise λa b=>a.1≠b.1
def Facts(w:jC):E (O×jH×E jD)->Prop
 |[]=>True
 |b::bs=>b.1<w.heap.size/\(∀i,w.frozen? ⟨b.1,i,Z⟩=u?)/\kz w b.1 0 b.2.2/\Facts w bs
section
variable{w0 w w':jC}{bs:E (O×jH×E jD)}
def Hs:∀{bs:E (O×jH×E jD)},(∀b∈bs,w0.heap.size<=b.1/\jR w b.1 b.2.1 b.2.2.toArray)->Facts w bs
 |[],_=>trivial
 |b::bs,h=>have a:=(h b (di ..)).2;⟨a.lt,a.frozen,qG a _ 0 (λj u e=>by rw[au];exact e),Hs λc d=>h c (dS _ d)⟩
def Hold.facts(h:Hold w0 w bs):Facts w bs:=Hs h.blk
variable{cs:E Value}
def Hold.at_(h:Hold w0 w bs)(k:O){t:TypeId}(e:bs[k]? =M (g,t,cs):=by rfl):kz w g 0 cs:=qG (h.blk _ (List.mem_of_getElem? e)).2 cs 0 λj u a=>by rw[Nat.zero_add];exact a
def Hold.nil(w:jC):Hold w w []:=⟨jQ w,λ_ h=>qch,List.Pairwise.nil⟩
def Hold.size(h:Hold w0 w bs):w0.heap.size<=w.heap.size:=h.below.size
def Hold.call(h:Hold w0 w bs)(a:Below w.heap.size w w'):Hold w0 w' bs:=⟨h.below.trans (a.mono h.size),λb c=>⟨(h.blk b c).1,(h.blk b c).2.later a⟩,h.apart⟩
def Hold.drew(h:Hold w0 w bs):Hold w0 w.drew bs:=⟨h.below.drew,h.blk,h.apart⟩
def Hold.al(h:Hold w0 w bs)(o:Obj):Hold w0 (w.alloc o) bs:=⟨h.below.alloc h.size o,λb a=>⟨(h.blk b a).1,(h.blk b a).2.alloc o⟩,h.apart⟩
def Hold.alloc(h:Hold w0 w bs)(g:O)(t:TypeId)(cs:E Value)(c:g=w.heap.size:=by simp):Hold w0 (w.alloc (m? cs.toArray t)) ((g,t,cs)::bs):=by
 subst c;refine⟨h.below.alloc h.size _,λb a=>?_,b6.2 ⟨λb a=>Nat.ne_of_gt (h.blk b a).2.lt,h.apart⟩⟩;rcases cw.1 a with rfl|a
 .exact⟨h.size,jR.new w _ _⟩
 exact⟨(h.blk b a).1,(h.blk b a).2.alloc _⟩
def Hold.tail{b:O×jH×E jD}(h:Hold w0 w (b::bs)):Hold w0 w bs:=⟨h.below,λc a=>h.blk c (dS _ a),(b6.1 h.apart).2⟩
def Hold.put(h:Hold w0 w bs)(k i:O)(v:Value){t:TypeId}(e:bs[k]? =M (g,t,cs):=by rfl):Hold w0 (w.setCell ⟨g,i,Z⟩ v) (bs.set k (g,t,cs.set i v)):=by
 obtain⟨z,o⟩:=ci.1 e;have r:=o▸ar z;have c:=cj.1 h.apart;refine⟨h.below.setCell (p:=⟨g,i,Z⟩) (h.blk _ r).1 v,λb m=>?_,cj.2 λx y F D n=>?_⟩
 .obtain⟨j,l,rfl⟩:=dR m;rw[eW];by_cases e:k=j
  .rw[B? e];refine⟨(h.blk _ r).1,?_⟩;have:=(h.blk _ r).2.kY i v;simpa using this
  rw[A? e];have a:j<bs.length:=by simpa using l
  have m:=h.blk _ (ar a);refine⟨m.1,m.2.far (p:=⟨g,i,Z⟩) (λB=>?_) v⟩;have A:bs[k].1=g:=by rw[o]
  rcases iD e with s|s
  .exact c _ _ z a s (A.trans B.symm)
  exact c _ _ a z s (B.trans A.symm)
 have f:x<bs.length:=by simpa using F
 have d:y<bs.length:=by simpa using D
 have q:=c x y f d n;have C:∀(j:O)(l:j<bs.length),((bs.set k (g,t,cs.set i v))[j]'(by simpa using l)).1=bs[j].1:=λj l=>by
  rw[eW];split
  .subst_vars;rw[o]
  rfl
 rw[C x f,C y d];exact q
def Hold.grown(h:Hold w0 w bs)(d:w.grownBy w' row)(c:∀g,row=M g->w0.heap.size<=g/\∀b∈bs,b.1≠g):Hold w0 w' bs:=
 ⟨h.below.grown d h.size λg e=>(c g e).1,λb a=>⟨(h.blk b a).1,(h.blk b a).2.grown d λe=>(c _ e.symm).2 b a rfl⟩,h.apart⟩
end
section
variable{P:bi3}{md:fD}{ops:x? bk0}{Q:bk7->Act->jC->Prop}{S:jC->Prop}
end
section
variable{w0 W:jC}{bs:E (O×jH×E jD)}{P:bi3}{a:Act}
def oN{c:bk9}(F:jC->Prop)(H:Hold w0 W bs)(h:F W)(k:∀V,Hid (Hold w0 V bs)->F V->c.wp P Q a V):c.wp P Q a W:=k W (ai H) h
variable{R:bi6->jC->Prop}
def kw{b:Func}{x:bk7}(F:jC->Prop)(H:Hold w0 W bs)(h:F W)(k:∀V,Hid (Hold w0 V bs)->F V->bodyPost P b R x a V):bodyPost P b R x a W:=k W (ai H) h
def kf{f:bl9}(F:jC->Prop)(H:Hold w0 W bs)(h:F W)(k:∀V,Hid (Hold w0 V bs)->F V->jE P f args V R):jE P f args W R:=k W (ai H) h
end
def lp(w:jC)(g:O):O->E jD->jC
 |_,[]=>w
 |i,v::a=>lp (w.setCell ⟨g,i,Z⟩ v) g (i+1) a
def Hold.fill{w0:jC}{bs:E (O×jH×E jD)}:∀(a:E jD){w:jC}{cs:E jD}(i:O),Hold w0 w bs->∀k:O,bs[k]? =M (g,t,cs)->i+a.length=cs.length->Hold w0 (lp w g i a) (bs.set k (g,t,cs.take i++a))
 |[],w,cs,i,h,k,e,b=>by
  obtain⟨d,f⟩:=ci.1 e;have c:cs.take i++([]:E jD)=cs:=by rw[eB,cl (by simp at b;omega)]
  rw[c,<-f,ie];exact h
 |v::a,w,cs,i,h,k,e,b=>by
  have d:=(ci.1 e).1;have:=Hold.fill a (i+1) (h.put k i v e) k (by rw[gM d]) (by simp at b⊢;omega);rw[List.set_set]at this;have c:(cs.set i v).take (i+1)++a=cs.take i++v::a:=by
   have j:i<cs.length:=by simp at b;omega
   rw[aj (by simpa using j),fP,gm (ay _),eH];rfl
  rw[c]at this;exact this
def qj:∀(a:E jD)(w:jC)(g i:O),(lp w g i a).heap.size=w.heap.size
 |[],_,_,_=>rfl
 |v::a,w,g,i=>by rw[lp,qj a];simp
def mi{o:O}{u:jD}(h:Rd w w.heap.size A xs)(a:∀d,A=M d->d.block≠g):Rd (w.setCell ⟨g,o,Z⟩ u) (w.setCell ⟨g,o,Z⟩ u).heap.size A xs:=λl=>by
 obtain⟨b,c,rfl,m,f⟩:=h l;exact⟨b,c,rfl,by simpa using m,λj v k=>by rw[World.cell?_setCell_far _ _ _ _ (by intro e;exact a _ rfl e.symm)];exact f j v k⟩
def xr(a:∀c,A=M c->c.block≠g):∀(b:E jD){w:jC}(i:O),Rd w w.heap.size A xs->Rd (lp w g i b) (lp w g i b).heap.size A xs
 |[],_,_,h=>h
 |v::b,_,i,h=>xr a b (i+1) (mi h a)
variable{cs:E Value}
def Hold.all{w0 w:World}{bs:E (O×TypeId×E Value)}(h:Hold w0 w bs)(k:O)(a:E Value){t:TypeId}(e:bs[k]? =M (g,t,cs):=by rfl)(b:a.length=cs.length:=by rfl):Hold w0 (lp w g 0 a) (bs.set k (g,t,a)):=by
 have:=Hold.fill a 0 h k e jS;simpa using this
variable{p:Prop}
def ah(h:p):Hid p:=h
def aa:n<=n:=ay n
def ab{a:α}{l:E α}:a∈a::l:=di ..
def ac(i:O){a:α}{l:E α}(h:l[i]? =M a:=by rfl):a∈l:=List.mem_of_getElem? h
def ae[Decidable p](h:p:=by omega):decide p=t?:=F? h
def ag[Decidable p](h:¬p:=by omega):decide p=u?:=E? h
def aS{A B:Prop}(h:A)(e:A=B:=by(simp only[lp,Nat.zero_add,Nat.reduceAdd,List.set_cons_zero,List.set_cons_succ];rfl)):B:=e▸h
def aT{A B:Prop}(h:A)(e:A=B:=by(simp only[List.set_cons_zero,List.set_cons_succ];rfl)):B:=e▸h
def ce{w:World}{t:TypeId}{cs:x? Value}(h:Hid (jR w g t cs))(i:O){v:w? Value}(e:cs[i]? =v:=by(simp only[List.getElem?_toArray,List.getElem?_cons_zero,List.getElem?_cons_succ];rfl)):w.cell? ⟨g,i,Z⟩=v:=(h.out.cell i).trans e
instance:Coe jC O:=⟨λw=>w.heap.size⟩
structure Vi(x:I) where
def jJ(x:I):Vi x:=⟨⟩
instance(x:I):CoeOut (Vi x) jD:=⟨λ_=>c? o? x⟩
structure Vu(x:I) where
def jK(x:I):Vu x:=⟨⟩
instance(x:I):CoeOut (Vu x) jD:=⟨λ_=>c? n? x⟩
structure Vs(x:v?) where
def jL(x:v?):Vs x:=⟨⟩
instance(x:v?):CoeOut (Vs x) jD:=⟨λ_=>f? x⟩
structure Vn where
def jM:Vn:=⟨⟩
instance:CoeOut Vn jD:=⟨λ_=>b? Z 0 0⟩
structure Vl{α:Type}(A:w? jG)(l:E α)(c:O) where
def jN(A:w? jG)(l:E α)(c:O):Vl A l c:=⟨⟩
instance{α:Type}(A:w? jG)(l:E α)(c:O):CoeOut (Vl A l c) jD:=⟨λ_=>b? A l.length c⟩
structure Vp(g:O) where
def jO(g:O):Vp g:=⟨⟩
instance(g:O):CoeOut (Vp g) jD:=⟨λ_=>e? (M ⟨g,0,Z⟩)⟩
section
variable{P:bi3}{ops:x? bk0}{Q:bk7->Act->jC->Prop}{md:fD}{S:jC->Prop}{s:O}
def tkb:Op->z?
 |.call c=>match c.callee with|.builtin .len|.builtin .cap=>t?|_=>u?
 |.alloc .. |.box .. |.store .. |.makeMap .. |.makeSlice .. |.makeChan .. |.buildSlice .. |.insert .. =>u?
 |_=>t?
def ZH(md:fD)(ops:x? bk0)(l:x? z?)(i:O):z?:=
 (match ops[i]? with|some o=>tkb o.op|none=>u?)&&gS ops&&iV md ops l i&&(eE md ops l).contains i
variable{l:x? z?}
def rY{i:O}(h:ZH md ops l i=t?):gS ops=t?/\iV md ops l i=t?/\(eE md ops l).contains i=t?:=by
 unfold ZH at h;simp only[ba]at h;exact⟨h.1.1.2,h.1.2,h.2⟩
variable{oi:bk0}{fuel:O}{a':Act}
def tk1(i:O)(d:S w)(h:wpAnyH P md ops Q S fuel (l.setIfInBounds i t?) a' w)(b:ZH md ops l i=t?:=by decide+kernel)(hi:ops[i]? =M oi:=by exact rfl)(hQ:∀c a w,Q (.panic c) (a.put oi.dst v) w->Q (.panic c) a w:=by first|exact λ_ _ _ h=>h|exact λ_ _ _ h=>by cases h.1)(hy:eQ oi (yielded ops a.tmps)=t?/\∀w,S w->(execOp a.eval oi).run P w=.ok (.value v) w:=by(refine⟨by rfl,?_⟩;intro w hSw;(try dsimp only at hSw);(repeat obtain⟨_,hSw⟩:=hSw);go_simp<;>with_reducible rfl))(ea:a.put oi.dst v=a':=by((try simp only[gL,eK,ej,dQ,bd,ak,am]);rfl)):wpAnyH P md ops Q S (fuel+1) l a w:=by
 subst ea;exact bk5 hi (rY b).1 (rY b).2.1 (rY b).2.2 hQ (ge hy) d h
def tk2(i:O)(d:S w)(h:wpAnyH P md ops Q S fuel (l.setIfInBounds i t?) a' w)(b:(gS ops&&iV md ops l i&&(eE md ops l).contains i)=t?:=by decide+kernel)(hi:ops[i]? =M oi:=by exact rfl)(hQ:∀c a w,Q (.panic c) (a.put oi.dst undef) w->Q (.panic c) a w:=by first|exact λ_ _ _ h=>h|exact λ_ _ _ h=>by cases h.1)(hy:eQ oi (yielded ops a.tmps)=u?:=by rfl)(ea:a.put oi.dst undef=a':=by((try simp only[gL,eK,ej,dQ,bd,ak,am]);rfl)):wpAnyH P md ops Q S (fuel+1) l a w:=by
 subst ea;simp only[ba]at b;exact bk5 hi b.1.1 b.1.2 b.2 hQ (Or.inr ⟨hy,rfl⟩) d h
variable{q:Prop}
def re(b:S w)(h:q)(e:S w->q->wpAnyH P md ops Q S fuel l a w:=by
 (
  intro hs hq
  (try refine tk1 0 hs ?_);(try refine tk1 1 hs ?_);(try refine tk1 2 hs ?_);(try refine tk1 3 hs ?_);(try refine tk1 4 hs ?_);(try refine tk1 5 hs ?_);(try refine tk1 6 hs ?_);(try refine tk1 7 hs ?_);(try refine tk1 8 hs ?_);(try refine tk1 9 hs ?_)
  (try refine tk1 10 hs ?_);(try refine tk1 11 hs ?_);(try refine tk1 12 hs ?_);(try refine tk1 13 hs ?_);(try refine tk1 14 hs ?_);(try refine tk1 15 hs ?_);(try refine tk1 16 hs ?_);(try refine tk1 17 hs ?_);(try refine tk1 18 hs ?_);(try refine tk1 19 hs ?_)
  (try refine tk1 20 hs ?_);(try refine tk1 21 hs ?_);(try refine tk1 22 hs ?_);(try refine tk1 23 hs ?_);(try refine tk1 24 hs ?_);(try refine tk1 25 hs ?_);(try refine tk1 26 hs ?_);(try refine tk1 27 hs ?_);(try refine tk1 28 hs ?_);(try refine tk1 29 hs ?_);(try refine tk1 30 hs ?_);(try refine tk1 31 hs ?_);(try refine tk1 32 hs ?_);(try refine tk1 33 hs ?_)
  exact hq)):wpAnyH P md ops Q S fuel l a w:=e b h
def tkn(b:S w)(h:q)(e:S w->q->wpAnyH P md ops Q S fuel l a w:=by
 (
  intro hs hq
  (try refine tk2 0 hs ?_);(try refine tk2 1 hs ?_);(try refine tk2 2 hs ?_);(try refine tk2 3 hs ?_);(try refine tk2 4 hs ?_);(try refine tk2 5 hs ?_);(try refine tk2 6 hs ?_);(try refine tk2 7 hs ?_);(try refine tk2 8 hs ?_);(try refine tk2 9 hs ?_)
  (try refine tk2 10 hs ?_);(try refine tk2 11 hs ?_);(try refine tk2 12 hs ?_);(try refine tk2 13 hs ?_);(try refine tk2 14 hs ?_);(try refine tk2 15 hs ?_);(try refine tk2 16 hs ?_);(try refine tk2 17 hs ?_);(try refine tk2 18 hs ?_);(try refine tk2 19 hs ?_)
  exact hq)):wpAnyH P md ops Q S fuel l a w:=e b h
def uh(i:O)(f:S w)(h:mh P md ops Q S s fuel (l.setIfInBounds i t?) a' w)(e:(ZH md ops l i&&waits md ops s i&&i !=s&& !l.getD s t?)=t?:=by decide+kernel)(hi:ops[i]? =M oi:=by exact rfl)(hQ:∀c a w,Q (.panic c) (a.put oi.dst v) w->Q (.panic c) a w:=by first|exact λ_ _ _ h=>h|exact λ_ _ _ h=>by cases h.1)(hy:eQ oi (yielded ops a.tmps)=t?/\∀w,S w->(execOp a.eval oi).run P w=.ok (.value v) w:=by(refine⟨by rfl,?_⟩;intro w hSw;(try dsimp only at hSw);(repeat obtain⟨_,hSw⟩:=hSw);go_simp<;>with_reducible rfl))(ea:a.put oi.dst v=a':=by((try simp only[gL,eK,ej,dQ,bd,ak,am]);rfl)):mh P md ops Q S s (fuel+1) l a w:=by
 subst ea;simp only[ba,bne_iff_ne,jp]at e;obtain⟨⟨⟨g,d⟩,b⟩,j⟩:=e;exact ye hi (rY g).1 (rY g).2.1 (rY g).2.2 d b j hQ (ge hy) f h
def om(i:O)(d:l.getD s t?=u?->S w)(h:mh P md ops Q S s fuel (l.setIfInBounds i t?) a' w)(b:(ZH md ops l i&&i !=s)=t?:=by decide+kernel)(hi:ops[i]? =M oi:=by exact rfl)(hQ:∀c a w,Q (.panic c) (a.put oi.dst v) w->Q (.panic c) a w:=by first|exact λ_ _ _ h=>h|exact λ_ _ _ h=>by cases h.1)(hy:eQ oi (yielded ops a.tmps)=t?/\∀w,True->(execOp a.eval oi).run P w=.ok (.value v) w:=by(refine⟨by rfl,?_⟩;intro w hSw;go_simp<;>with_reducible rfl))(ea:a.put oi.dst v=a':=by((try simp only[gL,eK,ej,dQ,bd,ak,am]);rfl)):mh P md ops Q S s (fuel+1) l a w:=by
 subst ea;simp only[ba,bne_iff_ne]at b;exact nc hi (rY b.1).1 (rY b.1).2.1 (rY b.1).2.2 b.2 hQ (ge hy) d h
def sU(b:S w)(h:q)(e:S w->q->mh P md ops Q S s fuel l a w:=by
 (
  intro hs hq
  (try first|refine uh 0 hs ?_|refine om 0 (λ_=>hs) ?_);(try first|refine uh 1 hs ?_|refine om 1 (λ_=>hs) ?_);(try first|refine uh 2 hs ?_|refine om 2 (λ_=>hs) ?_);(try first|refine uh 3 hs ?_|refine om 3 (λ_=>hs) ?_);(try first|refine uh 4 hs ?_|refine om 4 (λ_=>hs) ?_)
  (try first|refine uh 5 hs ?_|refine om 5 (λ_=>hs) ?_);(try first|refine uh 6 hs ?_|refine om 6 (λ_=>hs) ?_);(try first|refine uh 7 hs ?_|refine om 7 (λ_=>hs) ?_);(try first|refine uh 8 hs ?_|refine om 8 (λ_=>hs) ?_);(try first|refine uh 9 hs ?_|refine om 9 (λ_=>hs) ?_)
  (try first|refine uh 10 hs ?_|refine om 10 (λ_=>hs) ?_);(try first|refine uh 11 hs ?_|refine om 11 (λ_=>hs) ?_);(try first|refine uh 12 hs ?_|refine om 12 (λ_=>hs) ?_);(try first|refine uh 13 hs ?_|refine om 13 (λ_=>hs) ?_);(try first|refine uh 14 hs ?_|refine om 14 (λ_=>hs) ?_)
  (try first|refine uh 15 hs ?_|refine om 15 (λ_=>hs) ?_);(try first|refine uh 16 hs ?_|refine om 16 (λ_=>hs) ?_);(try first|refine uh 17 hs ?_|refine om 17 (λ_=>hs) ?_);(try first|refine uh 18 hs ?_|refine om 18 (λ_=>hs) ?_);(try first|refine uh 19 hs ?_|refine om 19 (λ_=>hs) ?_)
  (try first|refine uh 20 hs ?_|refine om 20 (λ_=>hs) ?_);(try first|refine uh 21 hs ?_|refine om 21 (λ_=>hs) ?_);(try first|refine uh 22 hs ?_|refine om 22 (λ_=>hs) ?_);(try first|refine uh 23 hs ?_|refine om 23 (λ_=>hs) ?_);(try first|refine uh 24 hs ?_|refine om 24 (λ_=>hs) ?_);(try first|refine uh 25 hs ?_|refine om 25 (λ_=>hs) ?_);(try first|refine uh 26 hs ?_|refine om 26 (λ_=>hs) ?_);(try first|refine uh 27 hs ?_|refine om 27 (λ_=>hs) ?_);(try first|refine uh 28 hs ?_|refine om 28 (λ_=>hs) ?_);(try first|refine uh 29 hs ?_|refine om 29 (λ_=>hs) ?_);(try first|refine uh 30 hs ?_|refine om 30 (λ_=>hs) ?_);(try first|refine uh 31 hs ?_|refine om 31 (λ_=>hs) ?_);(try first|refine uh 32 hs ?_|refine om 32 (λ_=>hs) ?_);(try first|refine uh 33 hs ?_|refine om 33 (λ_=>hs) ?_)
  exact hq)):mh P md ops Q S s fuel l a w:=e b h
def MZ(h:q)(e:q->p:=by
 (
  intro hq
  (try refine om 0 (λh=>by cases h) ?_);(try refine om 1 (λh=>by cases h) ?_);(try refine om 2 (λh=>by cases h) ?_);(try refine om 3 (λh=>by cases h) ?_);(try refine om 4 (λh=>by cases h) ?_);(try refine om 5 (λh=>by cases h) ?_);(try refine om 6 (λh=>by cases h) ?_);(try refine om 7 (λh=>by cases h) ?_);(try refine om 8 (λh=>by cases h) ?_);(try refine om 9 (λh=>by cases h) ?_)
  (try refine om 10 (λh=>by cases h) ?_);(try refine om 11 (λh=>by cases h) ?_);(try refine om 12 (λh=>by cases h) ?_);(try refine om 13 (λh=>by cases h) ?_);(try refine om 14 (λh=>by cases h) ?_);(try refine om 15 (λh=>by cases h) ?_);(try refine om 16 (λh=>by cases h) ?_);(try refine om 17 (λh=>by cases h) ?_);(try refine om 18 (λh=>by cases h) ?_);(try refine om 19 (λh=>by cases h) ?_)
  (try refine om 20 (λh=>by cases h) ?_);(try refine om 21 (λh=>by cases h) ?_);(try refine om 22 (λh=>by cases h) ?_);(try refine om 23 (λh=>by cases h) ?_);(try refine om 24 (λh=>by cases h) ?_);(try refine om 25 (λh=>by cases h) ?_);(try refine om 26 (λh=>by cases h) ?_);(try refine om 27 (λh=>by cases h) ?_);(try refine om 28 (λh=>by cases h) ?_);(try refine om 29 (λh=>by cases h) ?_);(try refine om 30 (λh=>by cases h) ?_);(try refine om 31 (λh=>by cases h) ?_);(try refine om 32 (λh=>by cases h) ?_);(try refine om 33 (λh=>by cases h) ?_)
  exact hq)):p:=e h
def fk{A B:Prop}(h:A)(e:A=B:=by(simp only[Facts,kz,Nat.zero_add,Nat.reduceAdd,and_true];rfl)):B:=e▸h
def az(h:q)(e:p=q:=by((try simp only[Act.put,List.getElem_toArray,List.getElem_cons_succ,List.getElem_cons_zero,List.setIfInBounds_toArray,List.set_cons_zero,List.set_cons_succ]);rfl)):p:=e▸h
def hdn{w:World}(h:Q .normal a w)(b:Region.ready md ops l=[]:=by kernel_rfl):wpAnyH P md ops Q S fuel l a w:=wpAnyH_done b h _
def yi{w:World}(h:Q .normal a w)(b:Region.ready md ops l=[]:=by kernel_rfl):mh P md ops Q S s fuel l a w:=Fq b h _
def oY(i:O)(h:∀b:Act->jC->Prop,Shut (∀a w,((l.setIfInBounds i t?).getD s t?=u?->S w)->mh P md ops Q S s fuel (l.setIfInBounds i t?) a w->b a w)->if eQ o (yielded ops a.tmps)=t? then je P o a w b Q else b (a.put o.dst undef) w)(c:eE md ops l=[i]:=by kernel_rfl) (ho:ops[i]? =M o:=by exact rfl):mh P md ops Q S s (fuel+1) l a w:=I7 c ho h
def pL(i:O)(h:∀b:Act->jC->Prop,Shut (∀a w,S w->(S w->wpAnyH P md ops Q S fuel (l.setIfInBounds i t?) a w)->b a w)->if eQ o (yielded ops a.tmps)=t? then je P o a w b Q else b (a.put o.dst undef) w)(c:eE md ops l=[i]:=by kernel_rfl) (ho:ops[i]? =M o:=by exact rfl):wpAnyH P md ops Q S (fuel+1) l a w:=wpAnyH_ready c lV (.cons ho h .nil)
def rdy(rs:E O)(h:AllReadyH P md ops Q S fuel l a w rs)(b:eE md ops l=rs:=by kernel_rfl) (hne:rs≠[]:=by simp):wpAnyH P md ops Q S (fuel+1) l a w:=wpAnyH_ready b hne h
def rgb{id:O}{l:E bk0}(h:wpQuiet P l.toArray (λw'=>∃x:After w,w'=x.at_) (λa'=>∀w',(∃x:After w,w'=x.at_)->Q .normal a' w') l a)(b:P.follows .mixedOrders=t?:=by kernel_rfl) (hB:Region.lexB .any l.toArray=t?:=by kernel_rfl):(jo id l.toArray t?).wp P Q a w:=yU b hB h
end
structure Cp(k:O) where
def rO(k:O):Cp k:=⟨⟩
structure sH{A0:Type}(k:O)(x0:A0) where
variable{A0:Type}
def lz(k:O)(a:A0):sH k a:=⟨⟩
structure wU{A0:Type}{A1:Type}(k:O)(x0:A0)(x1:A1) where
variable{A1:Type}
def lI(k:O)(b:A0)(a:A1):wU k b a:=⟨⟩
structure IP{A0:Type}{A1:Type}{A2:Type}(k:O)(x0:A0)(x1:A1)(x2:A2) where
variable{A2:Type}
def oZ(k:O)(c:A0)(b:A1)(a:A2):IP k c b a:=⟨⟩
structure IN{A0:Type}{A1:Type}{A2:Type}{A3:Type}(k:O)(x0:A0)(x1:A1)(x2:A2)(x3:A3) where
variable{A3:Type}
def rU(k:O)(c:A0)(a:A1)(d:A2)(b:A3):IN k c a d b:=⟨⟩
structure Yi{A0:Type}{A1:Type}{A2:Type}{A3:Type}{A4:Type}(k:O)(x0:A0)(x1:A1)(x2:A2)(x3:A3)(x4:A4) where
variable{A4:Type}
def Fg(k:O)(c:A0)(a:A1)(d:A2)(b:A3)(e:A4):Yi k c a d b e:=⟨⟩
structure ag9{A0:Type}{A1:Type}{A2:Type}{A3:Type}{A4:Type}{A5:Type}{A6:Type}(k:O)(x0:A0)(x1:A1)(x2:A2)(x3:A3)(x4:A4)(x5:A5)(x6:A6) where
variable{A5 A6:Type}
def gG7(k:O)(b:A0)(g:A1)(d:A2)(a:A3)(f:A4)(c:A5)(e:A6):ag9 k b g d a f c e:=⟨⟩
structure ag8{A0:Type}{A1:Type}{A2:Type}{A3:Type}{A4:Type}{A5:Type}{A6:Type}{A7:Type}{A8:Type}(k:O)(x0:A0)(x1:A1)(x2:A2)(x3:A3)(x4:A4)(x5:A5)(x6:A6)(x7:A7)(x8:A8) where
def XM{m:Type}{f:Type}(k:O)(b:A0)(h:A1)(d:A2)(a:A3)(g:A4)(c:A5)(e:A6)(l:m)(j:f):ag8 k b h d a g c e l j:=⟨⟩
structure Wn{A0:Type}{A1:Type}{A2:Type}{A3:Type}{A4:Type}{A5:Type}{A6:Type}{A7:Type}{A8:Type}{A9:Type}{A10:Type}{A11:Type}{Tk:Type}{Tj:Type}(k:O)(x0:A0)(x1:A1)(x2:A2)(x3:A3)(x4:A4)(x5:A5)(x6:A6)(x7:A7)(x8:A8)(x9:A9)(x10:A10)(x11:A11)(x12:Tk)(ZF:Tj) where
def ad8{o:Type}{s:Type}{m:Type}{e:Type}{d:Type}{j:Type}{p:Type}(k:O)(f:A0)(x:A1)(h:A2)(q:A3)(t:A4)(g:A5)(r:A6)(n:o)(l:s)(v:m)(c:e)(b:d)(a:j)(w:p):Wn k f x h q t g r n l v c b a w:=⟨⟩
structure SaC(x0:O) where
def aC(a:O):SaC a:=⟨⟩
instance(x0:O):CoeOut (SaC x0) (w? jG):=⟨λ_=>(M ⟨x0,0,Z⟩)⟩
structure SaE(x0:jC) where
def aE(a:jC):SaE a:=⟨⟩
instance(x0:jC):CoeOut (SaE x0) jG:=⟨λ_=>⟨x0.heap.size+1,0,Z⟩⟩
structure SaF where
def aF:SaF:=⟨⟩
instance:CoeOut SaF jD:=⟨λ_=>f? ⟨#[]⟩⟩
structure SaH(x0:jC)(x1:O) where
def aH(b:jC)(a:O):SaH b a:=⟨⟩
instance(x0:jC)(x1:O):CoeOut (SaH x0 x1) Prop:=⟨λ_=>∃o:Obj,x0.heap[x1]? =M o/\o.isCells=u?⟩
instance(x0:jC)(x1:O):CoeSort (SaH x0 x1) Prop:=⟨λ_=>∃o:Obj,x0.heap[x1]? =M o/\o.isCells=u?⟩
structure SaJ(x0:O) where
def aJ(a:O):SaJ a:=⟨⟩
instance(x0:O):CoeOut (SaJ x0) jD:=⟨λ_=>c? o? (x0:I)⟩
structure SaM(x0:jC) where
def aM(a:jC):SaM a:=⟨⟩
instance(x0:jC):CoeOut (SaM x0) (w? jG):=⟨λ_=>(M ⟨x0,0,Z⟩)⟩
structure SaN(x0:jC) where
def aN(a:jC):SaN a:=⟨⟩
instance(x0:jC):CoeOut (SaN x0) O:=⟨λ_=>(x0.heap.size+1+1)⟩
structure SaV(x0:jC) where
def aV(a:jC):SaV a:=⟨⟩
instance(x0:jC):CoeOut (SaV x0) jD:=⟨λ_=>e? (M ⟨x0.heap.size,0,Z⟩)⟩
structure SaY where
def aY:SaY:=⟨⟩
instance:CoeOut SaY Obj:=⟨λ_=>.deferred (M [])⟩
structure SbB(x0:jC)(x1:jC) where
def bB(b:jC)(a:jC):SbB b a:=⟨⟩
instance(x0:jC)(x1:jC):CoeOut (SbB x0 x1) Prop:=⟨λ_=>Hid (Below x0 x0 x1)⟩
instance(x0:jC)(x1:jC):CoeSort (SbB x0 x1) Prop:=⟨λ_=>Hid (Below x0 x0 x1)⟩
structure SbH(x0:O)(x1:O) where
def bH(b:O)(a:O):SbH b a:=⟨⟩
instance(x0:O)(x1:O):CoeOut (SbH x0 x1) (w? jG):=⟨λ_=>(M ⟨x0,x1,Z⟩)⟩
structure SbJ(x0:jC)(x1:jC) where
def bJ(b:jC)(a:jC):SbJ b a:=⟨⟩
instance(x0:jC)(x1:jC):CoeOut (SbJ x0 x1) Prop:=⟨λ_=>Below x0.heap.size x0 x1⟩
instance(x0:jC)(x1:jC):CoeSort (SbJ x0 x1) Prop:=⟨λ_=>Below x0.heap.size x0 x1⟩
instance(x0:Act)(x1:O):CoeOut (wU 19 x0 x1) Act:=⟨λ_=>{x0 with defers:={target:=.collected x1,args:=#[]}::x0.defers}⟩
structure ScE(x0:O)(x1:O)(x2:O) where
def cE(c:O)(a:O)(b:O):ScE c a b:=⟨⟩
instance(x0:O)(x1:O)(x2:O):CoeOut (ScE x0 x1 x2) jG:=⟨λ_=>⟨x0,x1+x2*2+1,Z⟩⟩
structure ScG(x0:O) where
def cG(a:O):ScG a:=⟨⟩
instance(x0:O):CoeOut (ScG x0) jD:=⟨λ_=>k? (.yield x0) #[] #[]⟩
structure ScP(x0:O)(x1:O)(x2:O) where
def cP(c:O)(a:O)(b:O):ScP c a b:=⟨⟩
instance(x0:O)(x1:O)(x2:O):CoeOut (ScP x0 x1 x2) jG:=⟨λ_=>⟨x0,x1+x2*2,Z⟩⟩
instance(x0:Nat)(x1:Array jD):CoeOut (wU 38 x0 x1) jD:=⟨λ_=>.func (.func x0) #[] x1⟩
structure ScW where
def cW:ScW:=⟨⟩
instance:CoeOut ScW Obj:=⟨λ_=>(m? #[h? t?] 4)⟩
instance(x0:v?)(x1:v?):CoeOut (wU 61 x0 x1) Obj:=⟨λ_=>(m? #[jL x0,jL x1] 71)⟩
abbrev kI:=v?×v?
def k_(l:E kI):E jD:=l.flatMap λx=>[jL x.1,jL x.2]
def k7(l:E kI)(k:O):kI:=(l[k]?).getD (ByteArray.empty,ByteArray.empty)
def Lb(w:jC)(B:O)(A:w? jG)(l:E kI):Prop:=Rd w B A (k_ l)
def sj(l:E kI):(k_ l).length=2*l.length:=by
 induction l with
 |nil=>rfl
 |cons x l a=>simp only[k_,dg,cd,c_,dp]at a⊢;omega
def AY:∀(l:E kI)(j:O),j<l.length->(k_ l)[j*2]? =M (f? (k7 l j).1)/\(k_ l)[j*2+1]? =M (f? (k7 l j).2)
 |[],_,h=>WY
 |x::l,0,_=>by simp[k_,k7]
 |x::l,j+1,h=>by
  have:=AY l j S6;have b:(k_ (x::l))[(j+1)*2]? =(k_ l)[j*2]? :=by
   show([_,_]++k_ l)[(j+1)*2]? =_;rw[d7 mO];congr 1;simp;omega
  have c:(k_ (x::l))[(j+1)*2+1]? =(k_ l)[j*2+1]? :=by
   show([_,_]++k_ l)[(j+1)*2+1]? =_;rw[d7 mO];congr 1;simp;omega
  have a:k7 (x::l) (j+1)=k7 l j:=by simp[k7]
  rw[b,c,a];exact this
variable{l:E kI}{k:O}
def BQ(h:k<l.length):l.take (k+1)=l.take k++[k7 l k]:=by
 rw[aj h];simp[k7,h]
section
variable{w w':jC}{B B':O}{A:w? jG}{l:E kI}
def Lb.at_(h:Lb w B A l)(m:0<l.length):∃b a,A=M ⟨b,a,Z⟩/\b<B/\∀j,j<l.length->w.cell? (cP b a j)=M (f? (k7 l j).1)/\w.cell? (cE b a j)=M (f? (k7 l j).2):=by
 obtain⟨b,a,e,k,c⟩:=Rd.at_ h (by rw[sj];omega);refine⟨b,a,e,k,λj d=>?_⟩;obtain⟨g,f⟩:=AY l j d;exact⟨c _ _ g,by rw[gW];exact c _ _ f⟩
def Lb.later(h:Lb w w A l)(a:Below w w w'):Lb w' w' A l:=(Rd.below h a).more a.size
end
def nP(l:E y?):O×O:=iW l.length (l.getD 0 0).toNat (l.getD 1 0).toNat (l.getD 2 0).toNat (l.getD 3 0).toNat
def tx(s:v?):E y?:=s.data.toList
def wE(s:v?)(i k:O):s.get! (i+k)=((tx s).drop i).getD k 0:=by
 rw[List.getD_eq_getElem?_getD,fL,tx,Array.getElem?_toList];show s.data.getD (i+k) default=_;rw[Array.getD_eq_getD_getElem?];rfl
def tX(s:v?)(i:O):Utf8.decode s i=nP ((tx s).drop i):=by
 rw[Lib.decode_at,nP];have a:=wE s i 0;rw[ip]at a;rw[a,wE,wE,wE,dr,tx,iA];rfl
def UL(n a d b c:O)(e:a<256):(iW n a d b c).1<=1114111/\1<=(iW n a d b c).2/\(iW n a d b c).2<=4/\(1<=n->(iW n a d b c).2<=n):=by
 unfold iW;repeat' split
 all_goals(simp only;omega)
def oQ(l:E y?):(nP l).1<=1114111/\1<=(nP l).2/\(nP l).2<=4/\(l≠[]->(nP l).2<=l.length):=by
 have h:=UL l.length (l.getD 0 0).toNat (l.getD 1 0).toNat (l.getD 2 0).toNat (l.getD 3 0).toNat (UInt8.toNat_lt _);refine⟨h.1,h.2.1,h.2.2.1,λa=>h.2.2.2 ?_⟩;rcases l with _|⟨x,l⟩
 .exact H? rfl a
 simp
def R7:O->E y?->E (O×O)
 |0,_=>[]
 |n+1,l=>if l=[]then[]else nP l::R7 n (l.drop (nP l).2)
def cp(l:E y?):E (O×O):=R7 l.length l
def zA(n:O):R7 n []=[]:=by cases n<;>simp[R7]
def Id:∀(n m:O)(l:E y?),l.length<=n->l.length<=m->R7 n l=R7 m l
 |0,m,l,h,_=>by
  have:l=[]:=da (by omega);subst this;rw[zA,zA]
 |n+1,0,l,_,h=>by
  have:l=[]:=da (by omega);subst this;rw[zA,zA]
 |n+1,m+1,l,h,k=>by
  unfold R7;split
  .rfl
  have a:=oQ l;rw[Id n m (l.drop (nP l).2) (by rw[dr];omega) (by rw[dr];omega)]
def XW:cp []=[]:=rfl
def Mx{l:E y?}(h:l≠[]):cp l=nP l::cp (l.drop (nP l).2):=by
 have b:=oQ l;have c:=List.length_pos_iff.2 h;unfold cp;obtain⟨n,a⟩:∃n,l.length=n+1:=⟨l.length-1,jS⟩;conv=>lhs;rw[a];unfold R7
 rw[A? h,Id n _ _ (by rw[dr];omega) aa]
def okR(x:O×O):z?:= !(x.1==65533&&x.2==1)
def oJ(l:E y?):z?:=(cp l).all okR
def Dr(l:E y?):(cp l).length<=l.length:=by
 have:∀n l,(R7 n l).length<=n:=by
  intro n;induction n with
  |zero=>intro l;simp[R7]
  |succ n a=>
   intro l;unfold R7;split
   .simp
   rw[c_];have:=a (l.drop (nP l).2);omega
 exact this _ _
def lG(s:v?):(tx s).length=s.size:=iA
def km(s:v?):s.toList=tx s:=Lib.toList_data s
def rX{a b:v?}(h:tx a=tx b):a=b:=by
 obtain⟨⟨a⟩⟩:=a;obtain⟨⟨b⟩⟩:=b;have h:a=b:=h;rw[h]
def mc(l:E y?):I×z?:=if oJ l=t? then(((cp l).length:O),t?)else(0,u?)
def lD(x:O×O):z?:=decide (97<=x.1)&&decide (x.1<=122)
def lm(x:O×O):z?:=decide (32<=x.1)&&x.1 !=127
def nameB(l:E y?):z?:= !(l==[])&&decide (l.length<=12)&&(cp l).all lD
def mP(l:E y?):z?:=oJ l&&decide ((cp l).length<=24)&&(cp l).all lm
def Tb(w:jC):Prop:=Lib.Utf8Tabs 2 3 w
def Tb.later(h:Tb w)(a:Below w w w'):Tb w':=Utf8Tabs_below h a
def decode_any(s:v?)(w:jC)(hs:0<s.size)(a:Tb w):jE Tryz.prog 192 #[jL s] w λe w'=>e=a? (d? #[c? q? (nP (tx s)).1,jJ (nP (tx s)).2])/\Below w w w':=by
 have h:=Tryz.utf8_DecodeRuneInString s w a;rw[Lib.decodeGo,A? jS,tX]at h;exact h
def It(w:jC)(k:O)(s:v?)(pos:O)(wr:jC):Prop:=wr.heap[k]? =M (.stringIter s pos)/\Below w w wr
def It.mk0(w:jC)(s:v?):It w w s 0 (w.iter s 0):=⟨World.iter_heap w s 0,jP (jQ w) _⟩
variable{wr:jC}{s:v?}
def It.move{pos:O}(h:It w k s pos wr)(a:w.heap.size<=k)(q:O):It w k s q (wr.iterAt k s q):=⟨iC wr k s pos q h.1,iq h.2 a s q⟩
def It.later{pos:O}(h:It w k s pos wr)(a:Below wr wr w'):It w k s pos w':=⟨(a.block k (aw.1 h.1).1).trans h.1,Below.two h.2 a⟩
def It.pos{pos:O}(h:It w k s pos wr):wr.iterPos k=pos:=by simp[eR,h.1]
structure pK(s:v?)(pos:O)(pre:E (O×O)):Prop where
 le:pos<=s.size
 is:cp (tx s)=pre++cp ((tx s).drop pos)
def pK.zero(s:v?):pK s 0 []:=⟨be _,rfl⟩
def Ms{pos:O}(h:pos<s.size):(tx s).drop pos≠[]:=by
 intro e;have:=C? ez e;rw[dr,lG]at this;simp at this;omega
variable{pre:E (O×O)}
def pK.next{pos:O}(h:pK s pos pre)(a:pos<s.size):pK s (pos+(nP ((tx s).drop pos)).2) (pre++[nP ((tx s).drop pos)]):=by
 have b:=(oQ ((tx s).drop pos)).2.2.2 (Ms a);rw[dr,lG]at b;refine⟨jS,?_⟩;rw[h.is,Mx (Ms a),gp,eH];rfl
def pK.done{pos:O}(h:pK s pos pre)(a:¬pos<s.size):cp (tx s)=pre:=by
 have:(tx s).drop pos=[]:=ei (by rw[lG];have:=h.le;omega);rw[h.is,this,XW,eB]
def pK.len{pos:O}(h:pK s pos pre):pre.length<=s.size:=by
 have:=Dr (tx s);rw[h.is,cd,lG]at this;omega
def Jy{pos:O}(h:pK s pos pre)(a:pos<s.size)(b:okR (nP ((tx s).drop pos))=u?):mc (tx s)=(0,u?):=by
 rw[mc,A?];unfold oJ;rw[(h.next a).is];simp[b]
def Ni{pos:O}(h:pK s pos pre)(a:¬pos<s.size)(b:pre.all okR=t?):mc (tx s)=((pre.length:I),t?):=by
 rw[mc,oJ,h.done a,B? b]
def LO{a b:I}{p q:z?}(h:(a,p)=(b,q)):ff (d? #[jJ a,h? p])=a? (d? #[jJ b,h? q]):=by
 rw[Prod.mk.injEq]at h;rw[h.1,h.2]
def xq(s:v?)(w:jC)(hs:s.size<=4294967296)(J:Tb w):jE Tryz.prog 173 #[jL s] w λe w'=>e=a? (d? #[jJ (mc (tx s)).1,h? (mc (tx s)).2])/\Below w w w':=by
 have L:=ah J;go_in;go_wp2_with fail;go_loopw[4] (λn wr=>∃(pos:O)(pre:E (O×O)),n=c? o? pre.length/\Hid (pK s pos pre)/\Hid (pre.all okR=t?)/\Hid (It w w s pos wr)) (λ_ wr=>s.size-wr.iterPos w)
 case atStart=>exact⟨0,[],rfl,pK.zero s,rfl,It.mk0 w s⟩
 obtain⟨pos,pre,rfl,q,y,j⟩:=hrel;have z:=q.len;have F:=j.pos;have A:=ah F;by_cases l:pos<s.size
 .have o:∀f,(fw (e? (M ⟨w,0,Z⟩)) t? f).run Tryz.prog wr=_:=λf=>fp wr w s pos f j.1 l;rw[tX]at o;have a:=ah (j.move aa (pos+(nP ((tx s).drop pos)).2));have m:=ah (q.next l);obtain⟨d1,T,R,_⟩:=oQ ((tx s).drop pos);have N:Hid (okR (nP ((tx s).drop pos))=u?->mc (tx s)=(0,u?)):=λh=>Jy q l h;have C:Hid (tx (s.extract pos s.size)=(tx s).drop pos):=by
   show(s.extract pos s.size).data.toList=s.data.toList.drop pos;rw[Lib.extract_data,cl];rw[dr];exact Nat.le_of_eq (C? (·-pos) (lG s))
  have v:0<(s.extract pos s.size).size:=by rw[<-lG,C,dr,lG];omega
  have B:Hid (∀b,Tb b->jE Tryz.prog 192 #[jL (s.extract pos s.size)] b λe w'=>e=a? (d? #[c? q? (nP ((tx s).drop pos)).1,jJ (nP ((tx s).drop pos)).2])/\Below b b w'):=λb h=>by
   have:=decode_any (s.extract pos s.size) b v h;rw[C]at this;exact this
  generalize nP ((tx s).drop pos)=d at*
  have p:=ah (L.later a.2);have H:(0:I)<=pos:=jS;have G:(pos:I)<=(s.size:I):=jS;generalize D:wr.iterAt w s (pos+d.2)=V at*
  by_cases c1:d.1=65533
  .have Q:((d.1:I)==65533)=t?:=mO;by_cases c2:d.2=1
   .have K:((d.2:I)==1)=t?:=mO;have t:=ah (N.out (by simp[okR,c1,c2]));go_wp2_with fail;refine(B _ p).mono ?_;rintro e b⟨rfl,c⟩;go_wp2;go_ret2;exact⟨LO (by rw[t]),Below.two a.2 c⟩
   have K:((d.2:I)==1)=u?:=mO;have x:Hid ((pre++[d]).all okR=t?):=by show _=_;rw[gT,y];simp[okR,c2]
   go_wp2_with fail;refine(B _ p).mono ?_;rintro e b⟨rfl,c⟩;have g:=ah (a.later c);go_wp2;go_roundw
   case rel=>exact⟨pos+d.2,pre++[d],by rw[cd];go_num,m,x,g⟩
   rw[g.pos,A];omega
  have Q:((d.1:I)==65533)=u?:=mO;have x:Hid ((pre++[d]).all okR=t?):=by show _=_;rw[gT,y];simp[okR,c1]
  go_wp2;go_roundw
  case rel=>exact⟨pos+d.2,pre++[d],by rw[cd];go_num,m,x,a⟩
  rw[a.pos,A];omega
 have o:∀f,(fw (e? (aM w)) t? f).run Tryz.prog wr=_:=λf=>fq wr w s pos f j.1 l;have t:=ah (Ni q l y);go_wp2;go_ret2;exact⟨LO (by rw[t]),j.2⟩
def oM(x:O×O)(w:jC)(b:x.1<=1114111):jE Tryz.prog 220 #[c? q? x.1] w λe w'=>e=a? (h? (lD x))/\w=w':=by
 by_cases a:(97:I)<=(x.1:I)
 .have d1:decide ((97:I)<=(x.1:I))=t?:=by simp[a]
  go_in;go_wp2;go_ret;exact⟨jU (by rw[gU];simp[lD];omega),rfl⟩
 have d1:decide ((97:I)<=(x.1:I))=u?:=mO;go_in;go_wp2;go_ret;exact⟨jU (by rw[gU];simp[lD];omega),rfl⟩
def oz(x:O×O)(w:jC)(b:x.1<=1114111):jE Tryz.prog 221 #[c? q? x.1] w λe w'=>e=a? (h? (lm x))/\w=w':=by
 by_cases a:(32:I)<=(x.1:I)
 .have d1:decide ((32:I)<=(x.1:I))=t?:=by simp[a]
  go_in;go_wp2;go_ret;exact⟨jU (by rw[gU];simp[lm];omega),rfl⟩
 have d1:decide ((32:I)<=(x.1:I))=u?:=mO;go_in;go_wp2;go_ret;exact⟨jU (by rw[gU];simp[lm];omega),rfl⟩
def MI{pos:O}{p:O×O->z?}(h:pK s pos pre)(b:pos<s.size)(a:p (nP ((tx s).drop pos))=u?):(cp (tx s)).all p=u?:=by
 rw[(h.next b).is];simp[a]
def Eu(s:v?)(w:jC)(h:(tx s==[]|| !decide ((tx s).length<=12))=t?):jE Tryz.prog 180 #[jL s] w λe w'=>e=a? (h? (nameB (tx s)))/\Below w w w':=by
 by_cases a:tx s=[]
 .have d:(s.toList==[])=t?:=by rw[km,a];rfl
  have f:s.toList=[]:=by rw[km,a]
  go_in;go_wp2;go_ret;exact⟨jU (by simp[nameB,a]),jQ _⟩
 have d:s.toList.isEmpty=u?:=by rw[km];cases e:tx s with
  |nil=>exact H? e a
  |cons x l=>rfl
 have b:¬s.toList=[]:=by rw[km];exact a
 have c:(s.toList==[])=u?:=by simpa using b
 have f:12<s.size:=by rw[<-lG];simp[a]at h;exact h
 have g:decide ((12:I)<s.size)=t?:=mO;have j:decide (12<s.size)=t?:=mO;go_in;go_wp2;go_ret;refine⟨jU ?_,jQ _⟩;have:decide ((tx s).length<=12)=u?:=by rw[lG];simp;omega
 simp[nameB,this]
def Ko(s:v?)(w:jC):jE Tryz.prog 180 #[jL s] w λe w'=>e=a? (h? (nameB (tx s)))/\Below w w w':=by
 cases a:(tx s==[]|| !decide ((tx s).length<=12))with
 |true=>exact Eu s w a
 |false=>
  have r:tx s≠[]:=by intro e;rw[e]at a;simp at a
  have T:s.toList.isEmpty=u?:=by rw[km];cases e:tx s with
   |nil=>exact H? e r
   |cons x l=>rfl
  have g:¬s.toList=[]:=by rw[km];exact r
  have F:(s.toList==[])=u?:=by simpa using g
  have N:s.size<=12:=by rw[<-lG];simp at a;exact a.2
  have H:decide ((12:I)<s.size)=u?:=mO;have L:decide (12<s.size)=u?:=mO;have y:Hid (nameB (tx s)=(cp (tx s)).all lD):=by
   show _=_;have:decide ((tx s).length<=12)=t?:=by rw[lG];simp;omega
   rw[nameB,this];simp[r]
  have K:=ah g;go_in;go_wp2_with fail;go_loopw[] (λwr=>∃(pos:O)(pre:E (O×O)),Hid (pK s pos pre)/\Hid (pre.all lD=t?)/\Hid (It w w s pos wr)) (λwr=>s.size-wr.iterPos w)
  case atStart=>exact⟨0,[],pK.zero s,rfl,It.mk0 w s⟩
  obtain⟨pos,pre,t,z,j⟩:=hrel;have C:=ah j.pos;by_cases m:pos<s.size
  .have n:∀b,(fw (e? (M ⟨w,0,Z⟩)) t? b).run Tryz.prog wr=_:=λb=>fp wr w s pos b j.1 m;rw[tX]at n;have c:=ah (j.move aa (pos+(nP ((tx s).drop pos)).2));have v:=ah (t.next m);obtain⟨d1,Q,J,_⟩:=oQ ((tx s).drop pos);have G:Hid (lD (nP ((tx s).drop pos))=u?->(cp (tx s)).all lD=u?):=λh=>MI t m h;generalize nP ((tx s).drop pos)=d at*;generalize A:wr.iterAt w s (pos+d.2)=R at*;have p:Hid (∀f,jE Tryz.prog 220 #[c? q? d.1] f λe w'=>e=a? (h? (lD d))/\f=w'):=λf=>oM d f d1
   cases o:lD d with
   |true=>
    rw[o]at p;have D:Hid ((pre++[d]).all lD=t?):=by show _=_;rw[gT,z];simp[o]
    go_wp2_with fail;refine(p _).mono ?_;rintro e f⟨rfl,rfl⟩;go_wp2;go_roundw
    case rel=>exact⟨pos+d.2,pre++[d],v,D,c⟩
    rw[c.pos,C];omega
   |false=>
    rw[o]at p;have q:=ah (G.out o);go_wp2_with fail;refine(p _).mono ?_;rintro e f⟨rfl,rfl⟩;go_wp2;go_ret;exact⟨jU (by rw[y,q]),c.2⟩
  have n:∀b,(fw (e? (aM w)) t? b).run Tryz.prog wr=_:=λb=>fq wr w s pos b j.1 m;have q:Hid ((cp (tx s)).all lD=t?):=by show _=_;rw[t.done m,z]
  go_wp2;go_ret;exact⟨jU (by rw[y,q]),j.2⟩
def GU(s:v?)(w:jC)(hs:s.size<=4294967296)(N:Tb w):jE Tryz.prog 181 #[jL s] w λe w'=>e=a? (h? (mP (tx s)))/\Below w w w':=by
 have l:Hid (∀a,Tb a->jE Tryz.prog 173 #[jL s] a λe w'=>e=a? (d? #[jJ (mc (tx s)).1,h? (mc (tx s)).2])/\Below a a w'):=λa h=>xq s a hs h;have C:=ah N
 cases q:oJ (tx s)with
 |false=>
  have g:Hid (mP (tx s)=u?):=by show _=_;rw[mP,q];rfl
  have D:mc (tx s)=(0,u?):=by rw[mc,A? (by rw[q];simp)]
  rw[D]at l;go_in;go_wp2_with fail;refine(l _ C).mono ?_;rintro e a⟨rfl,b⟩;go_wp2;go_ret;exact⟨jU (by rw[g]),b⟩
 |true=>
  have D:mc (tx s)=(((cp (tx s)).length:I),t?):=by rw[mc,B? q]
  rw[D]at l;have y:=Dr (tx s);rw[lG]at y;by_cases o:(cp (tx s)).length<=24
  .have g:Hid (mP (tx s)=(cp (tx s)).all lm):=by show _=_;rw[mP,q];simp[o]
   have x:decide ((24:I)<((cp (tx s)).length:I))=u?:=mO;have F:decide (24<(cp (tx s)).length)=u?:=mO;generalize(cp (tx s)).length=n at*;go_in;go_wp2_with fail;refine(l _ C).mono ?_;rintro e a⟨rfl,b⟩;have r:=ah b;go_wp2_with fail;go_loopw[] (λwr=>∃(pos:O)(pre:E (O×O)),Hid (pK s pos pre)/\Hid (pre.all lm=t?)/\Hid (It a a s pos wr)) (λwr=>s.size-wr.iterPos a)
   case atStart=>exact⟨0,[],pK.zero s,rfl,It.mk0 a s⟩
   obtain⟨pos,pre,A,G,j⟩:=hrel;have L:=ah j.pos;by_cases m:pos<s.size
   .have p:∀c,(fw (e? (M ⟨a,0,Z⟩)) t? c).run Tryz.prog wr=_:=λc=>fp wr a s pos c j.1 m;rw[tX]at p;have f:=ah (j.move aa (pos+(nP ((tx s).drop pos)).2));have B:=ah (A.next m);obtain⟨d1,V,T,_⟩:=oQ ((tx s).drop pos);have R:Hid (lm (nP ((tx s).drop pos))=u?->(cp (tx s)).all lm=u?):=λh=>MI A m h;generalize nP ((tx s).drop pos)=d at*;generalize H:wr.iterAt a s (pos+d.2)=W at*;have v:Hid (∀a,jE Tryz.prog 221 #[c? q? d.1] a λe w'=>e=a? (h? (lm d))/\a=w'):=λa=>oz d a d1
    cases t:lm d with
    |true=>
     rw[t]at v;have Q:Hid ((pre++[d]).all lm=t?):=by show _=_;rw[gT,G];simp[t]
     go_wp2_with fail;refine(v _).mono ?_;rintro e K⟨rfl,rfl⟩;go_wp2;go_roundw
     case rel=>exact⟨pos+d.2,pre++[d],B,Q,f⟩
     rw[f.pos,L];omega
    |false=>
     rw[t]at v;have z:=ah (R.out t);go_wp2_with fail;refine(v _).mono ?_;rintro e K⟨rfl,rfl⟩;go_wp2;go_ret;exact⟨jU (by rw[g,z]),Below.two r f.2⟩
   have p:∀c,(fw (e? (aM a)) t? c).run Tryz.prog wr=_:=λc=>fq wr a s pos c j.1 m;have z:Hid ((cp (tx s)).all lm=t?):=by show _=_;rw[A.done m,G]
   go_wp2;go_ret;exact⟨jU (by rw[g,z]),Below.two r j.2⟩
  have g:Hid (mP (tx s)=u?):=by show _=_;rw[mP,q];simp[o]
  have x:decide ((24:I)<((cp (tx s)).length:I))=t?:=mO;have F:decide (24<(cp (tx s)).length)=t?:=mO;generalize(cp (tx s)).length=n at*;go_in;go_wp2_with fail;refine(l _ C).mono ?_;rintro e a⟨rfl,b⟩;go_wp2;go_ret;exact⟨jU (by rw[g]),b⟩
section
open Go.RowKit Go.Shelf
attribute [local go_sem] db
def jR.p0{a b:jD}(h:jR w g t #[a,b]):w.cell? ⟨g,0,Z⟩=M a:=h.cell 0
def jR.p1{a b:jD}(h:jR w g t #[a,b]):w.cell? ⟨g,1,Z⟩=M b:=h.cell 1
def tZ(w:jC)(o:Obj)(t:jH)(cs:x? jD):jR ((w.alloc o).alloc (m? cs t)) (w.heap.size+1) t cs:=by
 have h:=jR.new (w.alloc o) t cs;have e:(w.alloc o).heap.size=w.heap.size+1:=lV;rwa[e]at h
def Bl(w:jC)(o a:Obj)(t:jH)(cs:x? jD):jR (((w.alloc o).alloc a).alloc (m? cs t)) (aN w) t cs:=by
 have h:=tZ (w.alloc o) a t cs;have e:(w.alloc o).heap.size=w.heap.size+1:=lV;rwa[e]at h
def qK(n₀:O)(p:O->Prop)(A B:jC):Prop:=A.heap.size<=B.heap.size/\∀i,i<n₀->p i->B.heap[i]? =A.heap[i]?
def sr(n₀:O)(p:O->Prop)(A:jC):qK n₀ p A A:=⟨ay _,λ_ _ _=>rfl⟩
variable{p:O->Prop}
def lJ{A C:jC}(h:qK n₀ p A B)(k:qK n₀ p B C):qK n₀ p A C:=⟨a_ h.1 k.1,λi b a=>(k.2 i b a).trans (h.2 i b a)⟩
def zm(c:n₀<=w.heap.size)(W:jC)(l:O)(o b:Obj)(e:w.heap.size<=l)(h:W.heap[l]? =M o)(_:o.isCells=u?)(_:o.isWalk=u?):qK n₀ p W (W.putObj l b):=by
 have a:=bj6 c W l o b e h ‹_› ‹_›;exact⟨a.size,λi d _=>a.block i d⟩
def kW{A:jC}(a:n₀<=A.heap.size)(h:Below A A B):qK n₀ p A B:=⟨h.size,λi b _=>h.block i jS⟩
def jR.onP{cs:x? jD}{A:jC}(h:jR A b t cs)(a:qK n₀ p A B)(d:b<n₀)(c:p b):jR B b t cs:=(a.2 b d c).trans h
def vi(A:Option jG)(n cap:Nat)(w:jC):jE Tryz.prog 186 #[.slice A n cap] w λe w'=>e=.returned (.func (.func 222) #[] #[jO w])/\w.alloc (.cells #[.slice A n cap] 72)=w':=by
 go_in;go_wp2;go_ret;exact⟨rfl,rfl⟩
def tT(A:Option jG)(n cap:Nat)(w:jC):jE Tryz.prog 145 #[.slice A n cap] w λe w'=>e=.returned (.func (.func 222) #[] #[jO w])/\w.alloc (.cells #[.slice A n cap] 72)=w':=by
 go_in;go_wp2_with fail;refine(vi A n cap _).mono ?_;rintro e w'⟨rfl,rfl⟩;go_wp2;go_ret;exact⟨rfl,rfl⟩
abbrev Xm(x:kI):x? jD:=#[g? #[jL x.1,jL x.2]]
def values1_in(n:O)(hn:1<=n)(G A n₀ cap b off:O)(p:O->Prop)(l:E kI)(a:E (At l.length))(w:a.map (·.1)=bu l.length)(z:l.length<=4294967296)(ε:A<n₀)(hg:p A)(N:b<n₀)(h:p b)(J C:E (At l.length)->jC->Prop)(W:jC)(δ:n₀<=W.heap.size){nJ:O}(hJ:AbidesFrom nJ J)(hY:∀pre x W,J pre W->pre.length<l.length->bl4 cz (n-1) Tryz.prog G (Xm (k7 l x.1)) W λe W'=> (e=a? (h? t?)/\J (pre++[x]) W'/\qK n₀ p W W')\/(e=a? (h? u?)/\C (pre++[x]) W'))(T:jR W A 72 #[b? (bH b off) l.length cap]) (hc:∀j,j<l.length->W.cell? (cP b off j)=M (f? (k7 l j).1)/\W.cell? (cE b off j)=M (f? (k7 l j).2)) (h0:J [] W):bj2 cz n Tryz.prog 222 #[cG G,jO A] W λe W'=>(∃v,e=a? v)/\ ((∃R,R=a/\J R W')\/(∃pre,pre <+: a/\C pre W')):=by
 have q:a.length=l.length:=by rw[<-ax (f:=(·.1)),w,fo]
 have K:=ah q;have HZ:=ah w;have HC:=ah hc;have HB:=ah T;have γ:=T.one;refine bj1 Tryz.func222 rfl trivial ?_ rfl;simp only[Tryz.ntmps222,xb,ao,dk];gi_wp2;gi_loopw[7] (λi wr=>∃k:O,k<=l.length/\i=c? o? k/\J (a.take k) wr/\qK n₀ p W wr)
  (λi _=>l.length-(av i).toNat)
 case atStart=>exact⟨0,be _,rfl,h0,sr _ _ _⟩
 obtain⟨k,hk,rfl,m,c⟩:=hrel;by_cases g:k<l.length
 .have d:k<a.length:=by rw[K];exact g
  obtain⟨h1,h2⟩:=HC k g;have i1:=(co (c.2 b N h)).trans h1;have i2:=(co (c.2 b N h)).trans h2;have hx:(a[k]).1=k:=by
   have:=C? (λt=>t[k]?) HZ;simp[d,g]at this;exact this
  have ht:=aj d;have HT:=ah ht;have HY:Hid (∀W,J (a.take k) W->bl4 cz (n-1) Tryz.prog G #[g? #[jL (k7 l k).1,jL (k7 l k).2]] W λe W'=>
   (e=a? (h? t?)/\J (a.take (k+1)) W'/\qK n₀ p W W')\/(e=a? (h? u?)/\C (a.take (k+1)) W')):=λW hW=>by
   have:=hY (a.take k) (a[k]) W hW mO
   rw[hx,Xm,<-HT]at this
   exact this
  have Y:b<wr.heap.size:=by have:=c.1;omega
  generalize k7 l k=X at*;have β:(0:I)<=k:=jS;have η:(k:I)<l.length:=jS;have o:=jP (jQ wr) (m? #[jL X.1,jL X.2] 71);have H:=sF hJ m o;have KB:=ah (kW (n₀:=n₀) (p:=p) (by have:=c.1;omega) o);obtain⟨fn,V,y,Q,L,B⟩:=HY _ H;gi_wp2;refine B.mono ?_;rintro e W3(⟨rfl,D,F⟩|⟨rfl,s⟩)
  .clear L B;gi_wp2;go_roundw
   case rel=>exact⟨k+1,jS,lV,D,lJ c (lJ KB F)⟩
   exact No
  clear L B;gi_wp2;refine jF (bj7 rfl _ _ _) rfl ?_;exact⟨⟨_,rfl⟩,s? ⟨_,eS _ _,s⟩⟩
 obtain rfl:k=l.length:=jS;gi_wp2;go_end0;exact⟨⟨_,rfl⟩,r? ⟨_,cl (by rw[K];exact ay _),m⟩⟩
def vj(n:O)(o:1<=n)(k c cap:O)(A:w? jG)(b:E (At N))(f:b=[])(J g:E (At N)->jC->Prop)(W:jC)(l:jR W c 72 #[b? A 0 cap])(m:J [] W):bj2 cz n Tryz.prog 222 #[cG k,jO c] W λe W'=>(∃v,e=a? v)/\ ((∃d,d=b/\J d W')\/(∃pre,pre <+: b/\g pre W')):=by
 have j:=l.one;have h:=ah f;refine bj1 Tryz.func222 rfl trivial ?_ rfl;simp only[Tryz.ntmps222,xb,ao,dk];gi_wp2;gi_loopw[7] (λi wr=>i=c? o? 0/\wr=W) (λ_ _=>0)
 case atStart=>exact⟨rfl,rfl⟩
 obtain⟨rfl,rfl⟩:=hrel;gi_wp2;go_end0;exact⟨⟨_,rfl⟩,r? ⟨_,rfl,by rw[h];exact m⟩⟩
def values_stops(n:O)(y:1<=n)(k cap:O)(p:O->Prop)(A:w? jG)(l:E kI)(d:E (At l.length))(g:d.map (·.1)=bu l.length)(a:l.length<=4294967296)(w:jC)(D:p k)(m:l.length≠0->∀z,A=M z->p z.block)(q:jR w k 72 #[jN A l cap]) (G:Lb w w A l):bl1 cz n Tryz.prog 222 #[jO k] (λx:At l.length=>Xm (k7 l x.1)) (qK w p) (λK=>K=d) (λpre=>pre <+: d) l.length w:=λv J t W f F _ H B=>by
 by_cases h:l.length=0
 .have C:d=[]:=by
   have:(d.map (·.1)).length=0:=by rw[g];simp[h]
   exact da (by simpa using this)
  have e:=q.later f
  rw[h]at e
  exact vj n y v k cap A d C J t W e B
 obtain⟨b,c,rfl,o,r⟩:=G.at_ jS;exact values1_in n y v k w cap b c p l d g a q.lt D o (m h _ rfl) J t W f.size F H (q.later f) (λj s=>⟨(f.cell (p:=(cP b c j)) o).trans (r j s).1,(f.cell (p:=(cE b c j)) o).trans (r j s).2⟩) B
end
section
variable{F:Fence}{n:O}{P:bi3}
def pB{g:bl7}{ps:Array Tmp}{assign body:bk9}
 (hro:F.round=none) (h1:1<=n) {gf:Nat} {lb:Array jD} (hg:a.eval g=(lI 38 gf lb)) (hFg:F.fn gf) (eg:∀args w,(callFunc gf args).run P w=.ok (.enter gf args) w)
 {encs:α->Array jD} {Kp:jC->jC->Prop} {S Sp:List α->Prop} {N:Nat} {w0:jC} (hseq:bl1 F (n-1) P gf lb encs Kp S Sp N w0)
 (hKt:∀{A B C:jC},Kp A B->Kp B C->Kp A C) (hKb:∀(W:jC)(l:Nat)(o o':Obj),w.heap.size<=l->W.heap[l]? =some o->o.isCells=false->o.isWalk=false->Kp W (W.putObj l o')) (hKa:∀(W:jC)(o:Obj),w.heap.size<W.heap.size->Kp W (W.alloc o))
 (hb0:(bJ w0 w)) (hps:∀x,(encs x).size=ps.size)
 (I:List α->jC->Prop) (Ix:bk9->List α->jC->Prop) (hI:bj3 w.heap.size I) (hIx:∀c,bj3 w.heap.size (Ix c)) (h0:I [] w) (a₁:α->Nat->Act) (o₁:α->Obj)
 (hassign:∀(l:Nat)(x:α)(W:jC)(K:Act->jC->Prop),K (a₁ x W.heap.size) (W.alloc (o₁ x))->
  assign.wpIn (F.inRound l) (n-1-1) P (Exit.then K (λ_ _ _=>False)) {tmps:=(ps.zip (encs x)).foldl (λt(p,v)=>t.setIfInBounds p v) a.tmps,defers:=[]} W)
 (hbody:∀(l:Nat)(pre:List α)(x:α)(W:jC)(b:Nat),I pre W->w.heap.size+1<b->W.heap[b]? =some (o₁ x)->pre.length<N->body.wpIn (F.inRound l) (n-1-1) P (ownPostK Kp I Ix (pre++[x]) W) (a₁ x b) W)
 (hdone:∀(D:Nat)(xs:List α)(W:jC),w.heap.size<=D->S xs->I xs W->W.heap[D]? =some (aY)->Q .normal (lI 19 a D) W)
 (hstop:∀(D:Nat)(c:bk9)(pre:List α)(W:jC),w.heap.size<=D->Sp pre->Ix c pre W->W.heap[D]? =some (aY)->c.wpIn F n P Q (lI 19 a D) W):
 (Code.rangeFunc g ps assign body).wpIn F n P Q a w:=by
 refine wpIn_rangeFunc ?_
 intro fn hfn
 rw[hro]
 obtain⟨rec,hrec⟩:∃rec:LoopState->Option bk9->Loop,rec=λst pe=>{state:=st,pending:=pe,fn,tmps:=a.tmps,params:=ps,assign,body,defers:=w.heap.size}:=⟨_,rfl⟩
 obtain⟨W1,hW1⟩:∃W1,(w.alloc (aY)).alloc (.loop (rec .ready none))=W1:=⟨_,rfl⟩
 have hz1:W1.heap.size=w.heap.size+2:=by rw[<-hW1];simp
 have hL1:W1.heap[w.heap.size+1]? =some (.loop (rec .ready none)):=by
  rw[<-hW1];have:=du (w.alloc (aY)) (.loop (rec .ready none));rwa[b_]at this
 have hK1:W1.heap[w.heap.size]? =some (aY):=by
  rw[<-hW1];exact(Below.heap_alloc _ _ _ (by simp)).trans (du w _)
 have hI1:I [] W1:=by rw[<-hW1];exact hI.alloc _ (hI.alloc _ h0)
 have hb1:(bJ w0 W1):=by rw[<-hW1];exact Below.two hb0 (jP (jP (jQ w) _) _)
 refine⟨w.heap.size+1,[{target:=.collected w.heap.size,args:=#[]}],W1,{target:=.fn (.func gf) lb,args:=#[.func (.yield (w.heap.size+1)) #[] #[]]},W1,gf,
  #[.func (.yield (w.heap.size+1)) #[] #[]]++lb,W1,?_,?_,?_,?_,λ_=>h1,?_⟩
 ·rw[<-hW1,hrec];exact run_enterLoop_outer _ _ _ _ _
 ·simp only[resolve,hg];simp[go_sem]
 ·intro f' hf';simp[Target.leads]at hf';subst hf';exact hFg
 ·simp[invoke,go_sem,eg]
 have hnw:∀{A B:jC}{row:Option Nat},(∀r,row=some r->W1.heap.size<=r/\∃o:Obj,A.heap[r]? =some o/\o.isWalk=true)->(∀r,row=some r->w.heap.size<=r/\(aH A r)):=
  λhr r e=>by obtain⟨hB,o,ho,hw⟩:=hr r e;exact⟨by omega,o,ho,Obj.not_cells_of_walk hw⟩
 refine(hseq (w.heap.size+1)
  (λpre W=>I pre W/\W.heap[w.heap.size+1]? =some (.loop (rec .ready none))/\W.heap[w.heap.size]? =some (aY))
  (λpre W=>∃c,Ix c pre W/\W.heap[w.heap.size+1]? =some (.loop (rec .done (some c)))/\W.heap[w.heap.size]? =some (aY))
  W1 hb1
  (λs A B row hs hg' hr=>⟨hI s A B row hs.1 hg' (hnw (B:=B) hr),(grownBy_keeps hg' (λr e=>(hr r e).2) hs.2.1 rfl).trans hs.2.1,(grownBy_keeps hg' (λr e=>(hr r e).2) hs.2.2 rfl).trans hs.2.2⟩)
  (λs A B row hs hg' hr=>by
   obtain⟨c,hc,hl,hk⟩:=hs;exact⟨c,hIx c s A B row hc hg' (hnw (B:=B) hr),(grownBy_keeps hg' (λr e=>(hr r e).2) hl rfl).trans hl,(grownBy_keeps hg' (λr e=>(hr r e).2) hk rfl).trans hk⟩)
  ?_ ⟨hI1,hL1,hK1⟩).mono ?_
 ·rintro pre x V⟨hiV,hlV,hkV⟩ hlen;have aa6:w.heap.size+1<V.heap.size:=(aw.1 hlV).1;have hy:=run_yield (P:=P) (args:=encs x) hlV (by rw[hrec];exact hps x);rw[hrec]at hy;obtain⟨W,hW⟩:∃W,V.alloc (o₁ x)=W:=⟨_,rfl⟩;have hl:W.heap[w.heap.size+1]? =some (.loop (rec .ready none)):=by rw[<-hW];exact(Below.heap_alloc _ _ _ aa6).trans hlV
  have hk:W.heap[w.heap.size]? =some (aY):=by rw[<-hW];exact(Below.heap_alloc _ _ _ (by omega)).trans hkV
  have hi:I pre W:=by rw[<-hW];exact hI.alloc _ hiV
  have hnew:W.heap[V.heap.size]? =some (o₁ x):=by rw[<-hW];exact du _ _
  have hlt:w.heap.size+1<W.heap.size:=(aw.1 hl).1;have hkv:Kp V W:=by rw[<-hW];exact hKa _ _ (by omega)
  refine⟨fn,_,assign,body,hy,roundIn_of_wpIn hfn (hassign _ x V _ ?_)⟩;rw[hW];refine⟨_,run_beginRound hl (by rw[hrec]),?_⟩;have hl2:(W.putObj (w.heap.size+1) (.loop {rec .ready none with state:=.busy})).heap[w.heap.size+1]? =some (.loop {rec .ready none with state:=.busy}):=gN hlt;have hk2:(W.putObj (w.heap.size+1) (.loop {rec .ready none with state:=.busy})).heap[w.heap.size]? =some (aY):=(dx (by omega)).trans hk;have hw2:Kp V (W.putObj (w.heap.size+1) (.loop {rec .ready none with state:=.busy})):=hKt hkv (hKb _ _ _ _ (by omega) hl rfl rfl);refine wpIn_mono (hbody _ pre x _ V.heap.size (hI.putObj _ hi jS hl rfl) aa6 ((dx jS).trans hnew) hlen) ?_;have fin:∀(jump:Option bk9)(W3:jC),bj4 (W.putObj (w.heap.size+1) (.loop {rec .ready none with state:=.busy})) W3->
   (Instr.endRound (w.heap.size+1) jump).run P W3=.ok (.bool jump.isNone) (W3.putObj (w.heap.size+1) (.loop (rec (if jump.isNone then .ready else .done) jump)))/\
   W3.heap[w.heap.size+1]? =some (.loop {rec .ready none with state:=.busy})/\
   (W3.putObj (w.heap.size+1) (.loop (rec (if jump.isNone then .ready else .done) jump))).heap[w.heap.size+1]? =some (.loop (rec (if jump.isNone then .ready else .done) jump))/\
   (W3.putObj (w.heap.size+1) (.loop (rec (if jump.isNone then .ready else .done) jump))).heap[w.heap.size]? =some (aY):=λjump W3 hk3=>by
   have hl3:=hk3.same _ _ hl2 rfl
   have:=run_endRound (P:=P) jump hl3
   rw[hrec]at this⊢
   exact⟨this,by rw[hrec]at hl3;exact hl3,gN (aw.1 hl3).1,(dx jS).trans (hk3.same _ _ hk2 rfl)⟩
  have out:∀(c:bk9)(W3:jC),bj4 (W.putObj (w.heap.size+1) (.loop {rec .ready none with state:=.busy})) W3->Ix c (pre++[x]) W3->
   ∃c',Ix c' (pre++[x]) (W3.putObj (w.heap.size+1) (.loop (rec .done (some c))))/\(W3.putObj (w.heap.size+1) (.loop (rec .done (some c)))).heap[w.heap.size+1]? =some (.loop (rec .done (some c')))/\(W3.putObj (w.heap.size+1) (.loop (rec .done (some c)))).heap[w.heap.size]? =some (aY):=λc W3 hk3 hi3=>by
   obtain⟨_,hl3,hl4,hk4⟩:=fin (some c) W3 hk3
   exact⟨c,(hIx _).putObj _ hi3 jS hl3 rfl,hl4,hk4⟩
  rintro e a3 W3 hp
  cases e with
  |normal=>
   obtain⟨hk3,hkp3,hi3⟩:=hp;obtain⟨hr,hl3,hl4,hk4⟩:=fin none W3 hk3;exact⟨_,_,hr,.inl ⟨rfl,⟨hI.putObj _ hi3 jS hl3 rfl,hl4,hk4⟩,hKt (hKt hw2 hkp3) (hKb _ _ _ _ jS hl3 rfl rfl)⟩⟩
  |ret=>exact⟨_,_,(fin (some .ret) W3 hp.1).1,.inr ⟨rfl,out _ _ hp.1 hp.2⟩⟩
  |exit id=>exact⟨_,_,(fin (some (.exit id)) W3 hp.1).1,.inr ⟨rfl,out _ _ hp.1 hp.2⟩⟩
  |goto t=>exact⟨_,_,(fin (some (.goto t)) W3 hp.1).1,.inr ⟨rfl,out _ _ hp.1 hp.2⟩⟩
  |panic ch=>exact hp.elim
  |outgrown=>exact hp.elim
 rintro e W2⟨⟨v,rfl⟩,(⟨xs,hS,hi,hl,hk⟩|⟨pre,hSp,c,hi,hl,hk⟩)⟩
 ·exact⟨none,_,by have:=run_endLoop (P:=P) hl (by rw[hrec];simp);rw[hrec]at this;exact this,hdone _ xs _ (ay _) hS (hI.putObj _ hi jS hl rfl) ((dx jS).trans hk)⟩
 exact⟨some c,_,by have:=run_endLoop (P:=P) hl (by rw[hrec];simp);rw[hrec]at this;exact this,hstop _ c pre _ (ay _) hSp ((hIx c).putObj _ hi jS hl rfl) ((dx jS).trans hk)⟩
end
section
attribute [local go_sem] db
def nY(h:Lb w w A l)(a:Below w w w'):Lb w' w' A l:=Lb.later h a
def Ep(a b:E y?):z?:=dW a b||a==b
def ri(a:E y?)(x:kI):z?:=nameB (tx x.1)&&(!(Ep (tx x.1) a)&&mP (tx x.2))
def chainB:E y?->E kI->z?
 |_,[]=>t?
 |pv,x::l=>ri pv x&&chainB (tx x.1) l
def setB(l:E kI):z?:=decide (1<=l.length)&&decide (l.length<=6)&&chainB [] l
def pk(l:E kI):v?:=(l.getLast?).elim ⟨#[]⟩ λp=>p.1
def yD(l:E kI)(x:kI):pk (l++[x])=x.1:=by simp[pk]
def yK:∀(l:E kI)(a:E y?)(x:kI),chainB a (l++[x])=(chainB a l&&ri ((l.getLast?).elim a λp=>tx p.1) x)
 |[],a,x=>by simp[chainB]
 |y::l,a,x=>by
  rw[dj,chainB,chainB,yK l (tx y.1) x,Bool.and_assoc];congr 3
  cases l with
  |nil=>rfl
  |cons z l=>
   rw[fj]
   cases e:(z::l).getLast? with
   |none=>simp at e
   |some q=>rfl
def Io(l:E kI)(x:kI):chainB [] (l++[x])=(chainB [] l&&ri (tx (pk l)) x):=by
 rw[yK];congr 2;unfold pk
 cases l.getLast?<;>rfl
def yL:∀(l t:E kI)(a:E y?),chainB a l=u?->chainB a (l++t)=u?
 |[],_,_,h=>by simp[chainB]at h
 |y::l,t,a,h=>by
  rw[dj,chainB];rw[chainB]at h
  cases e:ri a y with
  |false=>rfl
  |true=>rw[e]at h;rw[eF]at h⊢;exact yL l t _ h
def m_(l:E kI)(pre:E (At N)):E kI:=pre.map λp=>k7 l p.1
def rK(l:E kI)(pre:E (At N))(x:At N):m_ l (pre++[x])=m_ l pre++[k7 l x.1]:=by simp[m_]
def wl{a:E (At l.length)}(b:a.map (·.1)=bu l.length):m_ l a=l:=by
 have:m_ l a=(a.map (·.1)).map (k7 l):=by simp[m_]
 rw[this,b];apply List.ext_getElem?;intro i;by_cases h:i<l.length
 .simp[h,k7]
 simp[h]
def Gu{a pre:E (At l.length)}(b:a.map (·.1)=bu l.length)(c:pre <+: a):∃t,l=m_ l pre++t:=by
 obtain⟨t,rfl⟩:=c;exact⟨m_ l t,(wl b).symm.trans (by simp[m_])⟩
def RgI(w:jC)(l:E kI)(pre:E (At l.length))(W:jC):Prop:=
 jR W w 4 #[h? t?]/\jR W (w.heap.size+1) 9 #[jL (pk (m_ l pre))]/\chainB [] (m_ l pre)=t?/\Below w w W
def RgX(w:jC)(l:E kI)(c:bk9)(pre:E (At l.length))(W:jC):Prop:=
 c=.exit 0/\jR W w 4 #[h? u?]/\chainB [] (m_ l pre)=u?/\Below w w W
def Vd{Bd:O}(h:w.heap.size<=Bd):bj3 Bd (RgI w l):=by
 rintro s W W' row⟨f,d,g,c⟩ b a;exact⟨f.kept b (λr e=>(a r e).2),d.kept b (λr e=>(a r e).2),g,c.grown b c.size (λk e=>a_ h (a k e).1)⟩
def Vc{c:bk9}{Bd:O}(h:w.heap.size<=Bd):bj3 Bd (RgX w l c):=by
 rintro s W W' row⟨j,g,f,d⟩ b a;exact⟨j,g.kept b (λr e=>(a r e).2),f,d.grown b d.size (λk e=>a_ h (a k e).1)⟩
variable{p:O->Prop}
def uw{o:O}{u:jD}(a:¬p g):qK n₀ p w (w.setCell ⟨g,o,Z⟩ u):=
 ⟨by simp[bj],λi _ b=>Below.heap_setCell w ⟨g,o,Z⟩ u i (by rintro rfl;exact a b)⟩
def z_(A:Option jG)(l:List kI)(cap:Nat)(h1:1<=l.length)(h6:l.length<=6)(hs:∀x∈l,(x.2).size<=4294967296)(w:jC)(hT:Tb w)(hS:Lb w w A l):bj2 cz 6 Tryz.prog 134 #[jN A l cap] w λe w'=>e=.returned (.bool (setB l))/\Below w w w':=by
 have T:Below w w ((w.alloc cW).alloc (.cells #[aF] 9)):=jP (jP (jQ _) _) _;have X:=ah ((jR.new w 4 #[.bool true]).alloc (.cells #[aF] 9));have Y:=ah (tZ w cW 9 #[aF]);have HS:=ah (nY hS T);have HT:=ah hT;have NE:Hid (l.length≠0->∀ad,A=some ad->ad.block<w.heap.size):=λh ad e=>by
  obtain⟨b,φ,e',R,_⟩:=hS.at_ (by omega);rw[e']at e;cases e;exact R
 have μ:Hid (∀k,(k7 l k).2.size<=4294967296):=λk=>by
  unfold k7
  cases e:l[k]? with
  |none=>simp
  |some x=>exact hs x (cm e)
 clear hS hT hs;have d1:((l.length:Int)==0)=false:=by rw[beq_eq_false_iff_ne];omega
 have ξ:(l.length==0)=false:=by rw[beq_eq_false_iff_ne];omega
 have d6:decide ((6:Int)<l.length)=false:=by simp;omega
 have χ:decide (6<l.length)=false:=by simp;omega
 refine bi7 Tryz.func134 rfl trivial ?_ rfl;simp only[Tryz.ntmps134,xb,ao,dk];refine bi4.2 ?_;go_wp2_with fail;go_step3;go_wp2_with fail;go_step3;generalize(w.alloc cW).alloc (.cells #[aF] 9)=r at*;go_wp2_with fail;refine(tT _ _ _ _).mono ?_;rintro e w'⟨rfl,rfl⟩;have B:=jP (jQ r) (.cells #[jN A l cap] 72);have ω:=ah (jR.new r 72 #[jN A l cap]);have WZ:=ah Y.lt;replace X:=ah (X.later B);replace Y:=ah (Y.later B);replace HS:=ah (nY HS B);replace T:=Below.two T B;clear B;go_wp2_with fail;generalize r.alloc (.cells #[jN A l cap] 72)=V at*;have xz:=X.lt;have yz:=Y.lt;have wz:=WZ.out;have vz:=ω.out.lt;obtain⟨zs,ε⟩:=mH (N:=l.length) (bu l.length) (λp hp=>dh.1 hp);have HZ:=ai ε;have η:RgI w l [] V:=⟨X.out,Y.out,rfl,T⟩;clear ε;refine(bi4 (n:=6)).1 ?_;refine pB rfl (by omega) (gf:=222) (lb:=#[aV r]) rfl trivial (enters_of Tryz.func222 (by kernel_rfl) rfl)
  (values_stops 5 (by omega) r.heap.size cap (λi=>i≠w.heap.size/\i≠w.heap.size+1) A l zs HZ.out (by omega) V ⟨by omega,by omega⟩ (λh ad e=>by have:=NE.out h ad e;exact⟨by omega,by omega⟩) ω.out HS.out)
  (λh k=>lJ h k) (zm (by omega)) (λW o h=>kW (by omega) (jP (jQ W) o)) (Below.refl _ _) (λ_=>rfl)
  (RgI w l) (RgX w l) (Vd (by omega)) (λc=>Vc (by omega)) η
  (λx b=>{tmps:=#[.slice A l.length cap,undef,.bool false,aV w,.pointer (some (aE w)),.pointer (aC b),.slice A l.length cap,.int .i64 l.length,.bool false,.bool false,.slice A l.length cap,.int .i64 l.length,.bool false,.bool false,.slice A l.length cap,
   .func (.func 222) #[] #[aV r],.agg #[.string (k7 l x.1).1,.string (k7 l x.1).2],undef,undef,undef,undef,undef,undef,undef,undef,undef,undef,undef,undef,undef,undef,undef,undef,undef,undef,undef],defers:=[]})
  (λx=>.cells #[jL (k7 l x.1).1,jL (k7 l x.1).2] 71) ?assign ?body ?done ?stop
 case assign=>
  intro l x W K hK;gi_wp2;exact hK
 case body=>
  rintro l' pre x W b⟨hX,hY,m,R⟩ ψ hN ρ;have f:=ah hX;have g:=ah hY;have d:Hid (jR W b 71 #[jL (k7 l x.1).1,jL (k7 l x.1).2]):=hN;have v:=ah R;have z:Hid (chainB [] (m_ l (pre++[x]))=ri (tx (pk (m_ l pre))) (k7 l x.1)):=by show _=_;rw[rK,Io,m,eF]
  have s:bj4 W W:=gq _;have C:Hid (qK V (λi=>i≠w.heap.size/\i≠w.heap.size+1) W W):=sr _ _ _;have O6:=HT.later R;have θ:=μ x.1;have Yu:Hid (pk (m_ l (pre++[x]))=(k7 l x.1).1):=by show _=_;rw[rK,yD]
  generalize k7 l x.1=F at*;generalize pk (m_ l pre)=pv at*;obtain⟨nm,δ⟩:∃q,nameB (tx F.1)=q:=⟨_,rfl⟩;obtain⟨vl,α⟩:∃q,mP (tx F.2)=q:=⟨_,rfl⟩;have QN:Hid (∀r,jE Tryz.prog 180 #[jL F.1] r λe w'=>e=.returned (.bool nm)/\Below r r w'):=λr=>by have:=Ko F.1 r;rwa[δ]at this
  have QV:Hid (∀r,Tb r->jE Tryz.prog 181 #[jL F.2] r λe w'=>e=.returned (.bool vl)/\Below r r w'):=λr h=>by have:=GU F.2 r θ h;rwa[α]at this
  rw[ri,δ,α]at z;have Te:Hid (Ep (tx F.1) (tx pv)=(dW F.1.toList pv.toList||F.1.toList==pv.toList)):=by show _=_;rw[km,km];rfl
  cases nm with
  |false=>
   have j:Hid (chainB [] (m_ l (pre++[x]))=false):=by show _=_;rw[z];rfl
   have G:=f.one;have fx:=f.frozen 0;have Q:=g.one;have fy:=g.frozen 0;have n0:=d.p0;have n1:=d.p1;have zx:=f.lt;have J:=g.lt;have L:=d.lt;gi_wp2_with fail;refine⟨trivial,?_⟩;refine(d_ l' (jI.2 (QN _))).mono ?_;rintro e W1⟨rfl,a⟩;replace C:=ah (lJ C (kW (by have:=d.lt;omega) a));replace f:=ah (f.later a);replace g:=ah (g.later a);replace d:=ah (d.later a);replace v:=ah (Below.two v a);replace s:=s.trans (ky a);have G:=f.one;have fx:=f.frozen 0;have Q:=g.one;have fy:=g.frozen 0;have n0:=d.p0;have n1:=d.p1;have zx:=f.lt;have J:=g.lt;have L:=d.lt;gi_wp2_with fail;refine⟨trivial,?_⟩;gi_wp2_with fail;exact⟨s.trans (b7 _ _ _),rfl,f.kY 0 _,j,v.setCell aa _⟩
  |true=>
   cases c1:dW F.1.toList pv.toList with
   |true=>
    have j:Hid (chainB [] (m_ l (pre++[x]))=false):=by show _=_;rw[z,Te,c1];simp
    have G:=f.one;have fx:=f.frozen 0;have Q:=g.one;have fy:=g.frozen 0;have n0:=d.p0;have n1:=d.p1;have zx:=f.lt;have J:=g.lt;have L:=d.lt;gi_wp2_with fail;refine⟨trivial,?_⟩;refine(d_ l' (jI.2 (QN _))).mono ?_;rintro e W1⟨rfl,a⟩;replace C:=ah (lJ C (kW (by have:=d.lt;omega) a));replace f:=ah (f.later a);replace g:=ah (g.later a);replace d:=ah (d.later a);replace v:=ah (Below.two v a);replace s:=s.trans (ky a);have G:=f.one;have fx:=f.frozen 0;have Q:=g.one;have fy:=g.frozen 0;have n0:=d.p0;have n1:=d.p1;have zx:=f.lt;have J:=g.lt;have L:=d.lt;gi_wp2_with fail;refine⟨trivial,?_⟩;gi_wp2_with fail;exact⟨s.trans (b7 _ _ _),rfl,f.kY 0 _,j,v.setCell aa _⟩
   |false=>
    cases c2:(F.1.toList==pv.toList)with
    |true=>
     have j:Hid (chainB [] (m_ l (pre++[x]))=false):=by show _=_;rw[z,Te,c1,c2];simp
     have G:=f.one;have fx:=f.frozen 0;have Q:=g.one;have fy:=g.frozen 0;have n0:=d.p0;have n1:=d.p1;have zx:=f.lt;have J:=g.lt;have L:=d.lt;gi_wp2_with fail;refine⟨trivial,?_⟩;refine(d_ l' (jI.2 (QN _))).mono ?_;rintro e W1⟨rfl,a⟩;replace C:=ah (lJ C (kW (by have:=d.lt;omega) a));replace f:=ah (f.later a);replace g:=ah (g.later a);replace d:=ah (d.later a);replace v:=ah (Below.two v a);replace s:=s.trans (ky a);have G:=f.one;have fx:=f.frozen 0;have Q:=g.one;have fy:=g.frozen 0;have n0:=d.p0;have n1:=d.p1;have zx:=f.lt;have J:=g.lt;have L:=d.lt;gi_wp2_with fail;refine⟨trivial,?_⟩;gi_wp2_with fail;exact⟨s.trans (b7 _ _ _),rfl,f.kY 0 _,j,v.setCell aa _⟩
    |false=>
     have G:=f.one;have fx:=f.frozen 0;have Q:=g.one;have fy:=g.frozen 0;have n0:=d.p0;have n1:=d.p1;have zx:=f.lt;have J:=g.lt;have L:=d.lt;gi_wp2_with fail;refine⟨trivial,?_⟩;refine(d_ l' (jI.2 (QN _))).mono ?_;rintro e W1⟨rfl,a⟩;have κ:=O6.later a;replace C:=ah (lJ C (kW (by have:=d.lt;omega) a));replace f:=ah (f.later a);replace g:=ah (g.later a);replace d:=ah (d.later a);replace v:=ah (Below.two v a);replace s:=s.trans (ky a);have G:=f.one;have fx:=f.frozen 0;have Q:=g.one;have fy:=g.frozen 0;have n0:=d.p0;have n1:=d.p1;have zx:=f.lt;have J:=g.lt;have L:=d.lt;gi_wp2_with fail;refine⟨trivial,?_⟩;refine(d_ l' (jI.2 (QV _ κ))).mono ?_;rintro e W2⟨rfl,y⟩;replace C:=ah (lJ C (kW (by have:=d.lt;omega) y));replace f:=ah (f.later y);replace g:=ah (g.later y);replace d:=ah (d.later y);replace v:=ah (Below.two v y);replace s:=s.trans (ky y);have G:=f.one;have fx:=f.frozen 0;have Q:=g.one;have fy:=g.frozen 0;have n0:=d.p0;have n1:=d.p1;have zx:=f.lt;have J:=g.lt;have L:=d.lt
     cases vl with
     |false=>
      have j:Hid (chainB [] (m_ l (pre++[x]))=false):=by show _=_;rw[z];simp
      gi_wp2_with fail;exact⟨s.trans (b7 _ _ _),rfl,f.kY 0 _,j,v.setCell aa _⟩
     |true=>
      have ν:Hid (chainB [] (m_ l (pre++[x]))=true):=by show _=_;rw[z,Te,c1,c2];rfl
      gi_wp2_with fail;refine⟨s.trans (b7 _ _ _),lJ C (uw lV),f.far (by show w.heap.size≠w.heap.size+1;omega) _,?_,ν,v.setCell (dU _) _⟩;rw[Yu];exact g.kY 0 _
 case done=>
  rintro D ys W hD rfl⟨hX,_,m,R⟩ hK;have HE:Hid (setB l=true):=by
   show _=_;rw[wl HZ]at m;unfold setB;rw[m];simp;omega
  have G:=hX.one;go_wp2;try rw[cf]
  refine⟨lV,.inl ⟨_,_,rfl,bi2 hK,?_⟩⟩;exact⟨.bool true,by simp[results,Tryz.results134,go_sem],by rw[HE],R.trans (bj6 (w:=w) aa _ D _ _ jS hK rfl rfl)⟩
 rintro D c' pre W hD β⟨rfl,hX,m,R⟩ hK;have HE:Hid (setB l=false):=by
  show _=_;obtain⟨t,ht⟩:=Gu HZ β;unfold setB;rw[show chainB [] l=false by rw[ht];exact yL _ _ _ m];simp
 have G:=hX.one;refine bi4.2 ?_;go_wp2;try rw[cf]
 refine⟨lV,.inl ⟨_,_,rfl,bi2 hK,?_⟩⟩;exact⟨.bool false,by simp[results,Tryz.results134,go_sem],by rw[HE],R.trans (bj6 (w:=w) aa _ D _ _ jS hK rfl rfl)⟩
def j_(A:w? jG)(l:E kI)(cap:O)(hs:∀x∈l,(x.2).size<=4294967296)(w:jC)(c:Tb w)(d:Lb w w A l):jE Tryz.prog 134 #[jN A l cap] w λe w'=>e=a? (h? (setB l))/\Below w w w':=by
 by_cases h:1<=l.length/\l.length<=6
 .exact jI.1 (z_ A l cap h.1 h.2 hs w c d)
 have b:Hid (setB l=u?):=by
  show _=_;unfold setB;simp;omega
 by_cases g:l.length=0
 .have d0:((l.length:I)==0)=t?:=TQ;have a:(l.length==0)=t?:=TQ;have k:=ah g;generalize l.length=n at*;go_in;go_wp2_with fail;go_step3;go_wp2;rw[cf];go_ret;exact⟨by rw[b];rfl,jQ _⟩
 have d0:((l.length:I)==0)=u?:=O1;have a:(l.length==0)=u?:=O1;have j:decide ((6:I)<l.length)=t?:=mO;have f:decide (6<l.length)=t?:=mO;generalize l.length=n at*;go_in;go_wp2_with fail;go_step3;go_wp2;rw[cf];go_ret;exact⟨by rw[b];rfl,jQ _⟩
end
abbrev lsB(a b:E y?):z?:=dW a b
def zk:∀a:E y?,lsB a a=u?
 |[]=>rfl
 |x::a=>by
  have h:=zk a;unfold lsB at h⊢;rw[dW,h];simp
def qd:∀{a b c:E y?},lsB a b=t?->lsB b c=t?->lsB a c=t?
 |[],[],_,h,_=>by simp[lsB,dW]at h
 |[],_::_,[],_,h=>by simp[lsB,dW]at h
 |[],_::_,_::_,_,_=>by simp[lsB,dW]
 |_::_,[],_,h,_=>by simp[lsB,dW]at h
 |_::_,_::_,[],_,h=>by simp[lsB,dW]at h
 |x::a,y::b,z::c,h,k=>by
  unfold lsB at h k⊢;rw[dW,ft,ba,D?,beq_iff_eq]at h k⊢;rcases h with h|⟨rfl,h⟩
  .rcases k with k|⟨rfl,k⟩
   .exact r? (UInt8.lt_trans h k)
   exact r? h
  rcases k with k|⟨rfl,k⟩
  .exact r? k
  exact s? ⟨rfl,qd h k⟩
def ur:∀a b:E y?,lsB a b=t?\/a=b\/lsB b a=t?
 |[],[]=>s? (r? rfl)
 |[],_::_=>r? (by simp[lsB,dW])
 |_::_,[]=>s? (s? (by simp[lsB,dW]))
 |x::a,y::b=>by
  unfold lsB;rw[dW,dW,ft,ba,D?,beq_iff_eq,ft,ba,D?,beq_iff_eq];by_cases h:x<y
  .exact r? (r? h)
  by_cases c:y<x
  .exact s? (s? (r? c))
  have e:=UInt8.le_antisymm (UInt8.not_lt.1 c) (UInt8.not_lt.1 h);subst e;rcases ur a b with k|k|k
  .exact r? (s? ⟨rfl,k⟩)
  .exact s? (r? (by rw[k]))
  exact s? (s? (s? ⟨rfl,k⟩))
variable{b:E y?}
def qe{a:E y?}(h:lsB a b=t?):lsB b a=u?:=by
 cases k:lsB b a with
 |false=>rfl
 |true=>
  have:=qd h k;rw[zk]at this
  cases this
def J6{a c:E y?}(h:lsB b a=u?)(k:lsB c b=u?):lsB c a=u?:=by
 rcases ur a b with e|e|e
 .rcases ur b c with d|d|d
  .exact qe (qd e d)
  .rw[<-d];exact h
  rw[d]at k;cases k
 .rw[e];exact k
 rw[e]at h;cases h
def ahead(x y:kI):z?:=lsB (tx x.1) (tx y.1)
def S_(l:E kI)(i:O):Prop:=∀a b,a<b->b<i->ahead (k7 l b) (k7 l a)=u?
structure Mid(l:E kI)(i j:O):Prop where
 le:j<=i
 lt:i<l.length
 ord:∀a b,a<b->b<=i->a≠j->b≠j->ahead (k7 l b) (k7 l a)=u?
 up:∀b,j<b->b<=i->ahead (k7 l j) (k7 l b)=t?
def sN(l:E kI)(j:O):E kI:=(l.set j (k7 l (j-1))).set (j-1) (k7 l j)
def Cz(l:E kI)(j:O):(sN l j).length=l.length:=by simp[sN]
variable{j:O}
def L8{x:kI}(k:O)(a:j<l.length):k7 (l.set j x) k=if k=j then x else k7 l k:=by
 unfold k7;by_cases h:k=j
 .subst h;rw[B? rfl,gM a];rfl
 rw[A? h,List.getElem?_set_ne (λe=>h e.symm)]
def wm(b:0<j)(a:j<l.length)(k:O):k7 (sN l j) k=if k=j-1 then k7 l j else if k=j then k7 l (j-1)else k7 l k:=by
 unfold sN;rw[L8 k (by rw[eq];omega),L8 k a]
def Np(h:0<j)(a:j<l.length):(sN l j).Perm l:=by
 have e:l=l.take (j-1)++k7 l (j-1)::k7 l j::l.drop (j+1):=by
  have c:l.drop (j-1)=k7 l (j-1)::l.drop j:=by
   rw[dN jS];have:j-1+1=j:=jS;rw[this];simp[k7,show j-1<l.length by omega]
  have b:l.drop j=k7 l j::l.drop (j+1):=by
   rw[dN a];simp[k7,a]
  rw[<-b,<-c,fQ]
 have g:sN l j=l.take (j-1)++k7 l j::k7 l (j-1)::l.drop (j+1):=by
  apply List.ext_getElem?;intro k;have d:(l.take (j-1)).length=j-1:=qlt;unfold sN;rw[jq,jq,eq];by_cases c:k<j-1
  .rw[A? jS,A? jS,eL jS,gJ,B? c]
  rw[d7 jS,d];by_cases b:k=j-1
  .subst b;simp;omega
  rw[A? jS];by_cases f:k=j
  .subst f;have:k-(k-1)=1:=jS;rw[this];simp[a]
  rw[A? jS];obtain⟨q,rfl⟩:∃q,k=j+1+q:=⟨k-(j+1),jS⟩;have:j+1+q-(j-1)=q+1+1:=jS;rw[this,bo,bo,fL]
 rw[g];conv=>rhs;rw[e]
 exact List.Perm.append_left _ (List.Perm.swap _ _ _)
def Mid.start{i:O}(h:S_ l i)(hi:i<l.length):Mid l i i:=
 ⟨ay _,hi,λa b c g j d=>h a b c jS,λb f e=>jS⟩
def Mid.swap{i:O}(h:Mid l i j)(f:0<j)(hs:ahead (k7 l j) (k7 l (j-1))=t?):Mid (sN l j) i (j-1):=by
 have e:j<l.length:=by have:=h.le;have:=h.lt;omega
 refine⟨by have:=h.le;omega,by rw[Cz];exact h.lt,λa b k m o g=>?_,λb p n=>?_⟩
 .rw[wm f e,wm f e,A? g,A? o];by_cases c:b=j
  .subst c;rw[B? rfl,A? jS];exact h.ord a (b-1) jS jS jS jS
  rw[A? c];by_cases d:a=j
  .subst d;rw[B? rfl];exact h.ord (a-1) b jS m jS c
  rw[A? d];exact h.ord a b k m d c
 rw[wm f e,wm f e,B? rfl,A? jS];by_cases c:b=j
 .subst c;rw[B? rfl];exact hs
 rw[A? c];exact h.up b jS n
def Mid.done{i:O}(h:Mid l i j)(hs:j=0\/ahead (k7 l j) (k7 l (j-1))=u?):S_ l (i+1):=by
 intro a b d g;by_cases c:a=j
 .subst c;exact qe (h.up b d jS)
 by_cases f:b=j
 .subst f;rcases hs with rfl|hs
  .omega
  by_cases e:a=b-1
  .subst e;exact hs
  exact J6 (h.ord a (b-1) jS jS c jS) hs
 exact h.ord a b d jS c f
def Dn{x:kI}:((k_ l).set (j*2) (f? x.1)).set (j*2+1) (f? x.2)=k_ (l.set j x):=by
 induction l generalizing j with
 |nil=>simp[k_]
 |cons y l a=>
  cases j with
  |zero=>simp[k_]
  |succ j=>
   have e:(j+1)*2=j*2+1+1:=jS;rw[e];simp only[am,k_,dg,dj,dz]at a⊢;rw[a]
def kV:E kI->E kI->z?
 |[],m=> !m.isEmpty
 |_::_,[]=>u?
 |x::l,y::m=>if tx x.1=tx y.1/\tx x.2=tx y.2 then kV l m else if tx x.1=tx y.1 then lsB (tx x.2) (tx y.2)else lsB (tx x.1) (tx y.1)
def wL(h:k<l.length):l.drop k=k7 l k::l.drop (k+1):=by
 rw[dN h];simp[k7,h]
def Gy(A C:w? jG)(l m:E kI)(cap XX:O)(hl:l.length<=4294967296)(hm:m.length<=4294967296)(w:jC)(hS:Lb w w A l)(hM:Lb w w C m):jE Tryz.prog 135 #[jN A l cap,jN C m XX] w λe w'=>e=a? (h? (kV l m))/\Below w w w':=by
 have HS:=ah hS;have HM:=ah hM;go_in;go_wp2_with fail;go_loopw[10] (λi wr=>∃k:O,i=(aJ k)/\k<=l.length/\k<=m.length/\Hid (kV l m=kV (l.drop k) (m.drop k))/\(bB w wr)) (λi _=>l.length-(av i).toNat)
 case atStart=>exact⟨0,rfl,be _,be _,rfl,jQ _⟩
 obtain⟨k,rfl,hk,γ,H,HB⟩:=hrel;by_cases L:k<l.length
 .have d1:decide ((k:I)<l.length)=t?:=ae;obtain⟨b,r,rfl,Q,T⟩:=HS.at_ jS;obtain⟨c1,c2⟩:=T k L;have i1:=(HB.cell (p:=(cP b r k)) Q).trans c1;have i2:=(HB.cell (p:=(cE b r k)) Q).trans c2;have V:b<wr.heap.size:=qes;have Y:(0:I)<=k:=jS;have β:(k:I)<l.length:=jS;have B:=ah (wL L);by_cases N:k<m.length
  .have d2:((k:I)==(m.length:I))=u?:=O1;have G:(k==m.length)=u?:=O1;obtain⟨K,g,rfl,v,J⟩:=HM.at_ jS;obtain⟨c1,c2⟩:=J k N;have j1:=(HB.cell (p:=(cP K g k)) v).trans c1;have j2:=(HB.cell (p:=(cE K g k)) v).trans c2;have δ:K<wr.heap.size:=qes;have α:(k:I)<m.length:=jS;have F:=ah (wL N);have f:Hid (kV l m=if tx (k7 l k).1=tx (k7 m k).1/\tx (k7 l k).2=tx (k7 m k).2 then kV (l.drop (k+1)) (m.drop (k+1))else if tx (k7 l k).1=tx (k7 m k).1 then lsB (tx (k7 l k).2) (tx (k7 m k).2)else lsB (tx (k7 l k).1) (tx (k7 m k).1)):=by
    show _=_;rw[H,B,F];rfl
   generalize k7 l k=x at*
   generalize k7 m k=y at*
   obtain⟨n,q⟩:=x;obtain⟨o,z⟩:=y;simp only at i1 i2 j1 j2 f;have d:=ah (jP (jP HB (lI 61 n q)) (lI 61 o z));by_cases D:n.toList=o.toList
   .have c:tx n=tx o:=by rw[<-km,<-km,D]
    have b1:(n.toList==o.toList)=t?:=by rw[beq_iff_eq];exact D
    by_cases R:q.toList=z.toList
    .have j:tx q=tx z:=by rw[<-km,<-km,R]
     have a:Hid (kV l m=kV (l.drop (k+1)) (m.drop (k+1))):=by show _=_;rw[f,B? ⟨c,j⟩]
     go_wp2;go_roundw
     case rel=>exact⟨k+1,CJ,jS,jS,a,d⟩
     exact No
    have j:¬tx q=tx z:=by rw[<-km,<-km];exact R
    have a:Hid (kV l m=dW q.toList z.toList):=by show _=_;rw[f,A? (λh=>j h.2),B? c,km,km]
    go_wp2;go_ret;exact⟨by rw[a];rfl,d⟩
   have c:¬tx n=tx o:=by rw[<-km,<-km];exact D
   have b1:(n.toList==o.toList)=u?:=by rw[G?];exact D
   have a:Hid (kV l m=dW n.toList o.toList):=by show _=_;rw[f,A? (λh=>c h.1),A? c,km,km]
   go_wp2;go_ret;exact⟨by rw[a];rfl,d⟩
  have d2:((k:I)==(m.length:I))=t?:=TQ;have a:Hid (kV l m=u?):=by show _=_;rw[H,B,show m.drop k=[]from ei jS];rfl
  have G:(k==m.length)=t?:=TQ;generalize k7 l k=x at*;have d:=ah (jP HB (m? #[jL x.1,jL x.2] 71));go_wp2;go_ret;exact⟨by rw[a];rfl,d⟩
 have d1:decide ((k:I)<l.length)=u?:=mO;have W:decide (k<l.length)=u?:=mO;have a:Hid (kV l m=decide (l.length<m.length)):=by
  show _=_;rw[H,ei jS];show(!(m.drop k).isEmpty)=_;rw[gU]
  cases e:m.drop k with
  |nil=>have:=C? ez e;rw[dr]at this;simp at this;simp;omega
  |cons y t=>have:=C? ez e;rw[dr]at this;simp at this;simp;omega
 go_wp2;go_ret;exact⟨jU (by rw[a]),HB⟩
variable{K:Act->jC->Prop}
def tg{Y:Prop}(p:o.guard=none)(s x:bl7)(t:jH)(H:o.op=.call {callee:=.builtin .append,args:=#[s,x],argTypes:=#[t,t]})(base:Nat) (e:jH) (i:TypeInfo) (z:jD) (size bytes:Nat) (T:P.underlying t=some (.slice e)) (hi:P.info? e=some i) (F:i.zero=some z)(f:i.size=size) (y:i.bytes=bytes) (r:z.cells.size=size) (q:0<size)(v:jD) (n:Nat) (xs:List jD) (hs:a.eval s=v) (j:w.ownsRow base e size v n xs)(B:Nat) (A:Option jG) (m c:Nat) (news:List jD) (N:a.eval x=.slice A m c) (V:news.length=m*size) (R:Rd w B A news) (J:∀u∈news,u.oneCell'=true)(C:n+m<=maxLen) (b:(n+m)*bytes<=140737488355328) (d:base<=w.heap.size)(h:∀k l w',w'.ownsRow base e size (.slice k (n+m) l) (n+m) (xs++news)->w.grownBy w' v.ownBlock->K (a.put o.dst (.slice k (n+m) l)) w'):if eQ o (yielded ops a.tmps)=true then je P o a w K Q else Y:=by
 have G:eQ o (yielded ops a.tmps)=true:=by simp[eQ,p]
 rw[if_pos G];obtain⟨W,w',g,D,L,X⟩:=rg (P:=P) w base t o.type e i z size bytes T hi F f y r q v n xs j B A m c news V R J C b d;obtain⟨k,l,rfl,_⟩:=lB D;unfold je execOp;simp only[H,resolve,invoke,builtin,eT,fX,iF,List.map_toArray,df,jA,hs,N,g];exact h k l w' D L
def Tryz.Mc:(Tryz.prog.info? 71).map (λi=>(i.zero,i.size,i.bytes))=M (M (g? #[aF,aF]),2,32):=by kernel_rfl
def AW(l:E kI)(x:kI):k_ (l++[x])=k_ l++[f? x.1,f? x.2]:=by simp[k_]
def JJ{cs:E jD}(h:jR w g t cs.toArray):Rd w (g+1) (aC g) cs:=λ_=>
 ⟨g,0,rfl,fA _,λj u a=>by rw[au,h.cell];simpa using a⟩
variable{B:O}
def CR(h:w.ownsRow B 71 2 v n xs):∃A c,v=b? A n c:=by
 obtain⟨_,⟨h,e⟩|⟨g,cap,b,a,_⟩⟩:=h
 .subst e;exact⟨Z,0,h⟩
 exact⟨_,_,a⟩
def TV(h:w.ownsRow B 71 2 v n xs):∀g,v.ownBlock=M g->B<=g/\∃c b,w.heap[g]? =M (m? c 71 b):=by
 intro g a;obtain⟨_,⟨h,e⟩|⟨r,cap,f,d,j,k,_⟩⟩:=h
 .subst h;cases a
 subst d;cases a;exact⟨j,_,_,k⟩
section
attribute [local go_sem] db
def lf{sz:O}(h:W.ownsRow B t sz v n xs)(a:Below W W W'):W'.ownsRow B t sz v n xs:=
 h.kept (row:=Z) ⟨a.os,a.tape,a.output,a.size,λi b _=>a.block i b⟩ (by
  cases e:v.ownBlock with
  |none=>exact r? rfl
  |some r=>exact s? (by simp))
def zR(l:E y?):(jf l.toArray).size=l.length:=by simp[iG]
def oL{a b:v?}(h:a.size+b.size<=1000000):fK .add a b=pure (f? (a++b)):=by
 rw[fK,A?];show¬((a.size+b.size:O):I)>9223372036854775807;omega
end
def Xe{r cap:O}(h:w.ownsRow B 71 2 (b? (aC r) n cap) n (k_ l)):Lb w w (aC r) l:=λ_=>
 ⟨r,0,rfl,(h.lt r rfl).2,λj u a=>by
  rw[au,h.cellAt j (by rw[<-h.1];exact(ci.1 a).1)];exact a⟩
instance(x0:jC):CoeOut (sH 43 x0) jG:=⟨λ_=>⟨x0.heap.size,0,Z⟩⟩
structure SdE(x0:jC) where
def dE(a:jC):SdE a:=⟨⟩
instance(x0:jC):CoeOut (SdE x0) O:=⟨λ_=>(x0.heap.size+1)⟩
end Go.Proofs.YtfcnedcahoifoaaGreatDoor
