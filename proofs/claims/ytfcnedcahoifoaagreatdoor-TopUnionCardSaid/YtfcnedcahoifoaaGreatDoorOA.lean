import Derived.Shelf.Strings.Builder1
import Derived.Shelf.Small.Bits
import Derived.Shelf.Strings.BuilderF
import Derived.Shelf.Strings.BuilderK
import Derived.Shelf.Strings.BuilderRune
import Derived.Shelf.Strconv.Itoa0
import Derived.Shelf.Strings.Search1
import Derived.Shelf.Strings.Search2
import Derived.Shelf.Strings.Search3
import Derived.Shelf.Strings.Cut
import Derived.Shelf.LaysM
import Derived.Shelf.Strings.Shaped
import Derived.Shelf.Unicode.Decode
import Derived.Shelf.Unicode.DecodeSlow
import Derived.Shelf.Unicode.DecodeAny
import Derived.Ground.SlgnProg
import Derived.Shelf.SlicesE.Clone
import Derived.Ground.SlgmProg
import Derived.Shelf.SortM.Plain
import Derived.Shelf.SortM.SortNone
import Derived.Test.YtfcnedcahoifoaaGreatDoorProg
import Derived.Shelf.Strings.Builder2
import Derived.Shelf.Strings.OnBuilder
import Derived.Shelf.SlGeneric
import Derived.Shelf.SlIterI.Nil
import Derived.Test.YtfcnedcahoifoaaGreatDoorRows
import Derived.WalkKit
import Derived.Lib.Hide
import Derived.Deep.QuietTactic
import Derived.BigQuiet
import Derived.OpenShut
import Derived.Maps.AppendAt
import Derived.Deep.AppendLies
import Derived.Laws.OwnMore
import Derived.Laws.CopyOwn
import Derived.OwnWalkIn
import Derived.RangeFuncOwn
import Derived.RangeFuncNested
import Derived.RangeFuncBound
import Derived.RangeFuncCalls
import Derived.RangeFuncLeaves
import Derived.RangeFuncBox
import Derived.Deep.RegionHeld3
import Derived.OrdersIn
import Derived.Deep.RegionHeld
import Derived.Lib.DecodeNEq
import Derived.Lib.Strings
import Derived.Lib.OthersKept
import Derived.WalkLawsBesides
import Derived.Shelf.Abstract
import Derived.Shelf.RegionOpen
import Derived.TacticsInMore
import Derived.LoopNIn
import Derived.LoopIn
namespace Go.Proofs
open Go.Shelf
def Tryz.lays219_ren:Go.Shelf.Ren:=⟨fun | 219=>194 | 217=>228 | 225=>229 | 224=>230 | 267=>231 | 266=>253 | 314=>254 | n=>n,fun | 9=>9 | 3=>3 | 4=>4 | 5=>5 | 46=>152 | 146=>409 | 51=>365 | n=>n,fun | 1=>0 | n=>n⟩
theorem Tryz.lays219:Go.Proofs.Lays.n219 Tryz.prog Tryz.lays219_ren:={
 mixed:=by kernel_rfl
 f217:=Tryz.func228.trans (congrArg some (by kernel_rfl))
 f219:=Tryz.func194.trans (congrArg some (by kernel_rfl))
 f224:=Tryz.func230.trans (congrArg some (by kernel_rfl))
 f225:=Tryz.func229.trans (congrArg some (by kernel_rfl))
 f266:=Tryz.func253.trans (congrArg some (by kernel_rfl))
 f267:=Tryz.func231.trans (congrArg some (by kernel_rfl))
 f314:=Tryz.func254.trans (congrArg some (by kernel_rfl))
 t3:=Tryz.underlying3
 a3:=Tryz.isAgg3
 z3:=Tryz.sizeOf3
 v3:=Tryz.zeroValue3
 t4:=Tryz.underlying4
 a4:=Tryz.isAgg4
 z4:=Tryz.sizeOf4
 v4:=Tryz.zeroValue4
 t5:=Tryz.underlying5
 a5:=Tryz.isAgg5
 z5:=Tryz.sizeOf5
 v5:=Tryz.zeroValue5
 t9:=Tryz.underlying9
 a9:=Tryz.isAgg9
 z9:=Tryz.sizeOf9
 v9:=Tryz.zeroValue9
 t46:=Tryz.underlying152
 a46:=Tryz.isAgg152
 z46:=Tryz.sizeOf152
 v46:=Tryz.zeroValue152
 t51:=Tryz.underlying365
 a51:=Tryz.isAgg365
 z51:=Tryz.sizeOf365
 v51:=Tryz.zeroValue365
 t146:=Tryz.underlying409
 a146:=Tryz.isAgg409
 z146:=Tryz.sizeOf409
 v146:=Tryz.zeroValue409
 g1:=by kernel_rfl}
open Go.RowKit Go.Lib in
theorem Tryz.stringslite_Index_one (s:ByteArray) (c:UInt8) (w:World):
 Calls Tryz.prog 194 #[.string s,.string ⟨#[c]⟩] w fun e w'=>e=.returned (.int .i64 (Lib.indexByte s.data.toList c))∧w'=w:=Any.stringslite_Index_one Tryz.lays219 s c w
def Tryz.lays143_ren:Go.Shelf.Ren:=⟨fun | 143=>193 | 219=>194 | 217=>228 | 225=>229 | 224=>230 | 267=>231 | 266=>253 | 314=>254 | n=>n,fun | 9=>9 | 3=>3 | 4=>4 | 5=>5 | 46=>152 | 146=>409 | 51=>365 | n=>n,fun | 1=>0 | n=>n⟩
theorem Tryz.lays143:Go.Proofs.Lays.n143 Tryz.prog Tryz.lays143_ren:={
 mixed:=by kernel_rfl
 f143:=Tryz.func193.trans (congrArg some (by kernel_rfl))
 f217:=Tryz.func228.trans (congrArg some (by kernel_rfl))
 f219:=Tryz.func194.trans (congrArg some (by kernel_rfl))
 f224:=Tryz.func230.trans (congrArg some (by kernel_rfl))
 f225:=Tryz.func229.trans (congrArg some (by kernel_rfl))
 f266:=Tryz.func253.trans (congrArg some (by kernel_rfl))
 f267:=Tryz.func231.trans (congrArg some (by kernel_rfl))
 f314:=Tryz.func254.trans (congrArg some (by kernel_rfl))
 t3:=Tryz.underlying3
 a3:=Tryz.isAgg3
 z3:=Tryz.sizeOf3
 v3:=Tryz.zeroValue3
 t4:=Tryz.underlying4
 a4:=Tryz.isAgg4
 z4:=Tryz.sizeOf4
 v4:=Tryz.zeroValue4
 t5:=Tryz.underlying5
 a5:=Tryz.isAgg5
 z5:=Tryz.sizeOf5
 v5:=Tryz.zeroValue5
 t9:=Tryz.underlying9
 a9:=Tryz.isAgg9
 z9:=Tryz.sizeOf9
 v9:=Tryz.zeroValue9
 t46:=Tryz.underlying152
 a46:=Tryz.isAgg152
 z46:=Tryz.sizeOf152
 v46:=Tryz.zeroValue152
 t51:=Tryz.underlying365
 a51:=Tryz.isAgg365
 z51:=Tryz.sizeOf365
 v51:=Tryz.zeroValue365
 t146:=Tryz.underlying409
 a146:=Tryz.isAgg409
 z146:=Tryz.sizeOf409
 v146:=Tryz.zeroValue409
 g1:=by kernel_rfl}
open Go.RowKit Go.Lib in
theorem Tryz.strings_Index_one (s:ByteArray) (c:UInt8) (w:World):
 Calls Tryz.prog 193 #[.string s,.string ⟨#[c]⟩] w fun e w'=>e=.returned (.int .i64 (Lib.indexByte s.data.toList c))∧w'=w:=Any.strings_Index_one Tryz.lays143 s c w
def Tryz.lays197_ren:Go.Shelf.Ren:=⟨fun | 197=>192 | 260=>227 | n=>n,fun | 9=>9 | 21=>21 | 3=>3 | 4=>4 | 5=>5 | 105=>337 | 119=>405 | 0=>0 | 46=>152 | 139=>408 | 138=>407 | n=>n,fun | 3=>2 | 4=>3 | n=>n⟩
theorem Tryz.lays197:Go.Proofs.Lays.n197 Tryz.prog Tryz.lays197_ren:={
 mixed:=by kernel_rfl
 f197:=Tryz.func192.trans (congrArg some (by kernel_rfl))
 f260:=Tryz.func227.trans (congrArg some (by kernel_rfl))
 t0:=Tryz.underlying0
 a0:=Tryz.isAgg0
 z0:=Tryz.sizeOf0
 v0:=Tryz.zeroValue0
 t3:=Tryz.underlying3
 a3:=Tryz.isAgg3
 z3:=Tryz.sizeOf3
 v3:=Tryz.zeroValue3
 t4:=Tryz.underlying4
 a4:=Tryz.isAgg4
 z4:=Tryz.sizeOf4
 v4:=Tryz.zeroValue4
 t5:=Tryz.underlying5
 a5:=Tryz.isAgg5
 z5:=Tryz.sizeOf5
 v5:=Tryz.zeroValue5
 t9:=Tryz.underlying9
 a9:=Tryz.isAgg9
 z9:=Tryz.sizeOf9
 v9:=Tryz.zeroValue9
 t21:=Tryz.underlying21
 a21:=Tryz.isAgg21
 z21:=Tryz.sizeOf21
 v21:=Tryz.zeroValue21
 t46:=Tryz.underlying152
 a46:=Tryz.isAgg152
 z46:=Tryz.sizeOf152
 v46:=Tryz.zeroValue152
 t105:=Tryz.underlying337
 a105:=Tryz.isAgg337
 z105:=Tryz.sizeOf337
 v105:=Tryz.zeroValue337
 t119:=Tryz.underlying405
 a119:=Tryz.isAgg405
 z119:=Tryz.sizeOf405
 t138:=Tryz.underlying407
 a138:=Tryz.isAgg407
 z138:=Tryz.sizeOf407
 v138:=Tryz.zeroValue407
 t139:=Tryz.underlying408
 a139:=Tryz.isAgg408
 z139:=Tryz.sizeOf408
 v139:=Tryz.zeroValue408
 g3:=by kernel_rfl
 g4:=by kernel_rfl}
open Go.RowKit Go.Lib in
theorem Tryz.utf8_DecodeRuneInString (s:ByteArray) (w:World) (hT:Lib.Utf8Tabs 2 3 w):
 Calls Tryz.prog 192 #[.string s] w fun e w'=>e=.returned (.tuple #[.int .i32 (Lib.decodeGo s).1,.int .i64 (Lib.decodeGo s).2])∧Below w.heap.size w w':=Any.utf8_DecodeRuneInString Tryz.lays197 s w hT
def Tryz.laysSlE041_f163_ren:Go.Shelf.Ren:=⟨fun | 41=>163 | n=>n,fun | 22=>33 | 23=>22 | 4=>4 | n=>n,fun | n=>n⟩
theorem Tryz.laysSlE041_f163:Go.Proofs.SlLaysE0.n41 Tryz.prog Tryz.laysSlE041_f163_ren:={
 mixed:=by kernel_rfl
 f41:=⟨Tryz.f163.name,by decide,Tryz.func163.trans (congrArg some (by kernel_rfl))⟩
 t4:=Tryz.underlying4
 a4:=Tryz.isAgg4
 z4:=Tryz.sizeOf4
 v4:=Tryz.zeroValue4
 t22:=Tryz.underlying33
 a22:=Tryz.isAgg33
 z22:=Tryz.sizeOf33
 v22:=Tryz.zeroValue33}
open Go.RowKit Go.Lib in
theorem Tryz.slices_Clone (i0:TypeInfo) (z:Value) (size bytes:Nat) (hi:Tryz.prog.info? 22=some i0) (hz0:i0.zero=some z) (hz1:i0.size=size) (hz2:i0.bytes=bytes) (hzs:z.cells.size=size) (hsz:0<size) (z23: ∀ w,(Go.sizeOf 22).run Tryz.prog w=.ok size w) (b off n c:Nat) (news:List Value) (w:World) (hl:news.length=n*size) (hn:n≤maxLen) (hbig:n*bytes≤140737488355328) (hc: ∀ j u,news[j]? =some u→w.cell? ⟨b,off+j,none⟩=some u) (h1: ∀ u∈news,u.oneCell'=true):
 Calls Tryz.prog 163 #[.slice (some ⟨b,off,none⟩) n c] w fun e w'=> ∃ v',e=.returned v'∧w'.ownsRow w.heap.size 22 size v' n news∧v'≠.slice none 0 0∧Below w.heap.size w w':=AnyE.slices_Clone Tryz.laysSlE041_f163 i0 z size bytes hi hz0 hz1 hz2 hzs hsz z23 b off n c news w hl hn hbig hc h1
open Go.RowKit Go.Lib in
theorem Tryz.slices_Clone_nil (n c:Nat) (w:World):
 Calls Tryz.prog 163 #[.slice none n c] w fun e w'=>e=.returned (.slice none 0 0)∧w'=w:=AnyE.slices_Clone_nil Tryz.laysSlE041_f163 n c w
end Go.Proofs
namespace Go.Proofs
open Go.Shelf
def Tryz.lays156_ren:Go.Shelf.Ren:=⟨fun | 156=>147 | 165=>189 | 166=>171 | 169=>172 | 240=>206 | 241=>224 | 276=>243 | 277=>250 | n=>n,fun | 31=>66 | 9=>9 | 3=>3 | 4=>4 | 0=>0 | 20=>20 | 72=>312 | 76=>313 | 70=>310 | 37=>151 | 75=>171 | 127=>355 | 164=>372 | 5=>5 | 80=>315 | n=>n,fun | n=>n⟩
theorem Tryz.lays156:Go.Proofs.Lays.n156 Tryz.prog Tryz.lays156_ren:={
 mixed:=by kernel_rfl
 f156:=Tryz.func147.trans (congrArg some (by kernel_rfl))
 f165:=Tryz.func189.trans (congrArg some (by kernel_rfl))
 f166:=Tryz.func171.trans (congrArg some (by kernel_rfl))
 f169:=Tryz.func172.trans (congrArg some (by kernel_rfl))
 f240:=Tryz.func206.trans (congrArg some (by kernel_rfl))
 f241:=Tryz.func224.trans (congrArg some (by kernel_rfl))
 f276:=Tryz.func243.trans (congrArg some (by kernel_rfl))
 f277:=Tryz.func250.trans (congrArg some (by kernel_rfl))
 t0:=Tryz.underlying0
 a0:=Tryz.isAgg0
 z0:=Tryz.sizeOf0
 v0:=Tryz.zeroValue0
 t3:=Tryz.underlying3
 a3:=Tryz.isAgg3
 z3:=Tryz.sizeOf3
 v3:=Tryz.zeroValue3
 t4:=Tryz.underlying4
 a4:=Tryz.isAgg4
 z4:=Tryz.sizeOf4
 v4:=Tryz.zeroValue4
 t9:=Tryz.underlying9
 a9:=Tryz.isAgg9
 z9:=Tryz.sizeOf9
 v9:=Tryz.zeroValue9
 t20:=Tryz.underlying20
 a20:=Tryz.isAgg20
 z20:=Tryz.sizeOf20
 v20:=Tryz.zeroValue20
 t31:=Tryz.underlying66
 a31:=Tryz.isAgg66
 z31:=Tryz.sizeOf66
 v31:=Tryz.zeroValue66
 t37:=Tryz.underlying151
 a37:=Tryz.isAgg151
 z37:=Tryz.sizeOf151
 v37:=Tryz.zeroValue151
 t70:=Tryz.underlying310
 a70:=Tryz.isAgg310
 z70:=Tryz.sizeOf310
 v70:=Tryz.zeroValue310
 t72:=Tryz.underlying312
 a72:=Tryz.isAgg312
 z72:=Tryz.sizeOf312
 v72:=Tryz.zeroValue312
 t75:=Tryz.underlying171
 a75:=Tryz.isAgg171
 z75:=Tryz.sizeOf171
 v75:=Tryz.zeroValue171
 t76:=Tryz.underlying313
 a76:=Tryz.isAgg313
 z76:=Tryz.sizeOf313
 v76:=Tryz.zeroValue313
 t127:=Tryz.underlying355
 a127:=Tryz.isAgg355
 z127:=Tryz.sizeOf355
 v127:=Tryz.zeroValue355
 t164:=Tryz.underlying372
 a164:=Tryz.isAgg372
 z164:=Tryz.sizeOf372
 v164:=Tryz.zeroValue372}
theorem Tryz.Builder_Extra_156:Builder.Extra Tryz.prog Tryz.lays156_ren:={
 sizeBuilder:=by kernel_rfl
 liesBuilder:=by kernel_rfl
 t5:=Tryz.underlying5
 a5:=Tryz.isAgg5
 z5:=Tryz.sizeOf5
 v5:=Tryz.zeroValue5
 infoByte:=by kernel_rfl
 cellsByte:=by kernel_rfl
 sizeByte:=by kernel_rfl
 neB5:=by decide}
open Go.RowKit in
theorem Tryz.strings_Join_none (a:Option Addr) (c:Nat) (sep:ByteArray) (w:World):
 Calls Tryz.prog 147 #[.slice a 0 c,.string sep] w fun e w'=>e=.returned (.string ⟨#[]⟩)∧w'=w:=Any.strings_Join_none Tryz.lays156 Tryz.Builder_Extra_156 a c sep w
open Go.RowKit in
theorem Tryz.strings_Join (bk o c:Nat) (xs:List ByteArray) (sep:ByteArray) (w:World) (hcells: ∀ (j:Nat) x,xs[j]? =some x→w.cell? ⟨bk,o+j,none⟩=some (.string x)) (hbk:bk<w.heap.size) (hN:xs.length≤140737488355328) (hcap:xs.length≤c) (hlen:(Lib.join (xs.map (·.data.toList)) sep.data.toList).length≤140737488355328):
 Calls Tryz.prog 147 #[.slice (some ⟨bk,o,none⟩) xs.length c,.string sep] w fun e w'=>e=.returned (.string ⟨(Lib.join (xs.map (·.data.toList)) sep.data.toList).toArray⟩)∧Below w.heap.size w w':=Any.strings_Join Tryz.lays156 Tryz.Builder_Extra_156 bk o c xs sep w hcells hbk hN hcap hlen
def Tryz.lays125_ren:Go.Shelf.Ren:=⟨fun | 125=>178 | 128=>219 | 129=>67 | n=>n,fun | 46=>152 | 3=>3 | 51=>365 | 53=>22 | 4=>4 | 5=>5 | 9=>9 | n=>n,fun | n=>n⟩
theorem Tryz.lays125:Go.Proofs.Lays.n125 Tryz.prog Tryz.lays125_ren:={
 mixed:=by kernel_rfl
 f125:=Tryz.func178.trans (congrArg some (by kernel_rfl))
 f128:=Tryz.func219.trans (congrArg some (by kernel_rfl))
 f129:=Tryz.func67.trans (congrArg some (by kernel_rfl))
 t3:=Tryz.underlying3
 a3:=Tryz.isAgg3
 z3:=Tryz.sizeOf3
 v3:=Tryz.zeroValue3
 t4:=Tryz.underlying4
 a4:=Tryz.isAgg4
 z4:=Tryz.sizeOf4
 v4:=Tryz.zeroValue4
 t5:=Tryz.underlying5
 a5:=Tryz.isAgg5
 z5:=Tryz.sizeOf5
 v5:=Tryz.zeroValue5
 t9:=Tryz.underlying9
 a9:=Tryz.isAgg9
 z9:=Tryz.sizeOf9
 v9:=Tryz.zeroValue9
 t46:=Tryz.underlying152
 a46:=Tryz.isAgg152
 z46:=Tryz.sizeOf152
 v46:=Tryz.zeroValue152
 t51:=Tryz.underlying365
 a51:=Tryz.isAgg365
 z51:=Tryz.sizeOf365
 v51:=Tryz.zeroValue365
 t53:=Tryz.underlying22
 a53:=Tryz.isAgg22
 z53:=Tryz.sizeOf22
 v53:=Tryz.zeroValue22}
theorem Tryz.bits_Len (x:Int) (w:World) (h0:0≤x) (h1:x≤18446744073709551615):
 Calls Tryz.prog 178 #[.int .u64 x] w fun e w'=>e=.returned (.int .i64 (Lib.bitLen x.toNat))∧w'=w:=Any.bits_Len Tryz.lays125 x w h0 h1
end Go.Proofs
namespace Go.Proofs
open Go.Shelf
def Tryz.keysA_ren:Go.Shelf.Ren:=⟨fun | 7=>359 | 10=>363 | n=>n,fun | 23=>498 | 26=>3 | 3=>22 | 28=>385 | 0=>0 | 27=>384 | 33=>145 | 4=>4 | n=>n,fun | n=>n⟩
theorem Tryz.keysA:Go.Proofs.SlLaysZI.n7 Tryz.prog Tryz.keysA_ren:={
 mixed:=by kernel_rfl
 f7:=⟨Tryz.f359.name,by decide,Tryz.func359.trans (congrArg some (by kernel_rfl))⟩
 f10:=⟨Tryz.f363.name,by decide,Tryz.func363.trans (congrArg some (by kernel_rfl))⟩
 t0:=Tryz.underlying0
 a0:=Tryz.isAgg0
 z0:=Tryz.sizeOf0
 v0:=Tryz.zeroValue0
 t4:=Tryz.underlying4
 a4:=Tryz.isAgg4
 z4:=Tryz.sizeOf4
 v4:=Tryz.zeroValue4
 t23:=Tryz.underlying498
 a23:=Tryz.isAgg498
 z23:=Tryz.sizeOf498
 v23:=Tryz.zeroValue498
 t26:=Tryz.underlying3
 a26:=Tryz.isAgg3
 z26:=Tryz.sizeOf3
 v26:=Tryz.zeroValue3
 t27:=Tryz.underlying384
 a27:=Tryz.isAgg384
 z27:=Tryz.sizeOf384
 v27:=Tryz.zeroValue384
 t28:=Tryz.underlying385
 a28:=Tryz.isAgg385
 z28:=Tryz.sizeOf385
 v28:=Tryz.zeroValue385
 t33:=Tryz.underlying145
 a33:=Tryz.isAgg145
 z33:=Tryz.sizeOf145
 v33:=Tryz.zeroValue145}
def Tryz.sortedA_ren:Go.Shelf.Ren:=⟨fun | 6=>358 | 8=>361 | 9=>362 | 11=>364 | 13=>178 | 12=>365 | 23=>219 | 24=>67 | 14=>366 | 15=>367 | 16=>368 | 17=>369 | 18=>370 | 19=>371 | 20=>372 | 21=>373 | 22=>374 | 25=>375 | 26=>245 | 27=>246 | 28=>376 | 29=>377 | 30=>378 | 31=>379 | n=>n,fun | 26=>3 | 28=>385 | 24=>52 | 0=>0 | 3=>3 | 37=>152 | 48=>365 | 50=>22 | 4=>4 | 40=>359 | 39=>358 | 45=>99 | 5=>5 | 9=>9 | 51=>393 | 55=>397 | 57=>425 | 58=>426 | 33=>145 | n=>n,fun | n=>n⟩
theorem Tryz.sortedA:Go.Proofs.SlLaysZI.n6 Tryz.prog Tryz.sortedA_ren:={
 mixed:=by kernel_rfl
 f6:=⟨Tryz.f358.name,by decide,Tryz.func358.trans (congrArg some (by kernel_rfl))⟩
 f8:=⟨Tryz.f361.name,by decide,Tryz.func361.trans (congrArg some (by kernel_rfl))⟩
 f11:=⟨Tryz.f364.name,by decide,Tryz.func364.trans (congrArg some (by kernel_rfl))⟩
 t0:=Tryz.underlying0
 a0:=Tryz.isAgg0
 z0:=Tryz.sizeOf0
 v0:=Tryz.zeroValue0
 t24:=Tryz.underlying52
 a24:=Tryz.isAgg52
 z24:=Tryz.sizeOf52
 v24:=Tryz.zeroValue52
 t26:=Tryz.underlying3
 a26:=Tryz.isAgg3
 z26:=Tryz.sizeOf3
 v26:=Tryz.zeroValue3
 t28:=Tryz.underlying385
 a28:=Tryz.isAgg385
 z28:=Tryz.sizeOf385
 v28:=Tryz.zeroValue385
 i26:=by kernel_rfl}
def Tryz.sortA_ren:Go.Shelf.Ren:=⟨fun | 5=>362 | 8=>178 | 7=>365 | 19=>219 | 20=>67 | 10=>366 | 11=>367 | 12=>368 | 13=>369 | 14=>370 | 15=>371 | 16=>372 | 17=>373 | 18=>374 | 30=>375 | 31=>245 | 32=>246 | 33=>376 | 34=>377 | 35=>378 | 40=>379 | n=>n,fun | 23=>52 | 25=>3 | 3=>3 | 32=>152 | 22=>52 | 0=>0 | 44=>365 | 46=>22 | 4=>4 | 36=>359 | 35=>358 | 41=>99 | 5=>5 | 9=>9 | 53=>393 | 57=>397 | 63=>425 | 64=>426 | n=>n,fun | n=>n⟩
theorem Tryz.sortA:Go.Proofs.SlLaysM.n5 Tryz.prog Tryz.sortA_ren:={
 mixed:=by kernel_rfl
 f5:=⟨Tryz.f362.name,by decide,Tryz.func362.trans (congrArg some (by kernel_rfl))⟩
 f7:=⟨Tryz.f365.name,by decide,Tryz.func365.trans (congrArg some (by kernel_rfl))⟩
 f8:=Tryz.func178.trans (congrArg some (by kernel_rfl))
 f10:=⟨Tryz.f366.name,by decide,Tryz.func366.trans (congrArg some (by kernel_rfl))⟩
 f11:=⟨Tryz.f367.name,by decide,Tryz.func367.trans (congrArg some (by kernel_rfl))⟩
 f12:=⟨Tryz.f368.name,by decide,Tryz.func368.trans (congrArg some (by kernel_rfl))⟩
 f13:=⟨Tryz.f369.name,by decide,Tryz.func369.trans (congrArg some (by kernel_rfl))⟩
 f14:=⟨Tryz.f370.name,by decide,Tryz.func370.trans (congrArg some (by kernel_rfl))⟩
 f15:=⟨Tryz.f371.name,by decide,Tryz.func371.trans (congrArg some (by kernel_rfl))⟩
 f16:=⟨Tryz.f372.name,by decide,Tryz.func372.trans (congrArg some (by kernel_rfl))⟩
 f17:=⟨Tryz.f373.name,by decide,Tryz.func373.trans (congrArg some (by kernel_rfl))⟩
 f18:=⟨Tryz.f374.name,by decide,Tryz.func374.trans (congrArg some (by kernel_rfl))⟩
 f19:=Tryz.func219.trans (congrArg some (by kernel_rfl))
 f20:=Tryz.func67.trans (congrArg some (by kernel_rfl))
 f30:=⟨Tryz.f375.name,by decide,Tryz.func375.trans (congrArg some (by kernel_rfl))⟩
 f31:=Tryz.func245.trans (congrArg some (by kernel_rfl))
 f32:=Tryz.func246.trans (congrArg some (by kernel_rfl))
 f33:=⟨Tryz.f376.name,by decide,Tryz.func376.trans (congrArg some (by kernel_rfl))⟩
 f34:=⟨Tryz.f377.name,by decide,Tryz.func377.trans (congrArg some (by kernel_rfl))⟩
 f35:=⟨Tryz.f378.name,by decide,Tryz.func378.trans (congrArg some (by kernel_rfl))⟩
 f40:=⟨Tryz.f379.name,by decide,Tryz.func379.trans (congrArg some (by kernel_rfl))⟩
 t0:=Tryz.underlying0
 a0:=Tryz.isAgg0
 z0:=Tryz.sizeOf0
 v0:=Tryz.zeroValue0
 t3:=Tryz.underlying3
 a3:=Tryz.isAgg3
 z3:=Tryz.sizeOf3
 v3:=Tryz.zeroValue3
 t4:=Tryz.underlying4
 a4:=Tryz.isAgg4
 z4:=Tryz.sizeOf4
 v4:=Tryz.zeroValue4
 t5:=Tryz.underlying5
 a5:=Tryz.isAgg5
 z5:=Tryz.sizeOf5
 v5:=Tryz.zeroValue5
 t9:=Tryz.underlying9
 a9:=Tryz.isAgg9
 z9:=Tryz.sizeOf9
 v9:=Tryz.zeroValue9
 t22:=Tryz.underlying52
 a22:=Tryz.isAgg52
 z22:=Tryz.sizeOf52
 v22:=Tryz.zeroValue52
 t23:=Tryz.underlying52
 a23:=Tryz.isAgg52
 z23:=Tryz.sizeOf52
 v23:=Tryz.zeroValue52
 t25:=Tryz.underlying3
 a25:=Tryz.isAgg3
 z25:=Tryz.sizeOf3
 v25:=Tryz.zeroValue3
 t32:=Tryz.underlying152
 a32:=Tryz.isAgg152
 z32:=Tryz.sizeOf152
 v32:=Tryz.zeroValue152
 t35:=Tryz.underlying358
 a35:=Tryz.isAgg358
 z35:=Tryz.sizeOf358
 v35:=Tryz.zeroValue358
 t36:=Tryz.underlying359
 a36:=Tryz.isAgg359
 z36:=Tryz.sizeOf359
 v36:=Tryz.zeroValue359
 t41:=Tryz.underlying99
 a41:=Tryz.isAgg99
 z41:=Tryz.sizeOf99
 v41:=Tryz.zeroValue99
 t44:=Tryz.underlying365
 a44:=Tryz.isAgg365
 z44:=Tryz.sizeOf365
 v44:=Tryz.zeroValue365
 t46:=Tryz.underlying22
 a46:=Tryz.isAgg22
 z46:=Tryz.sizeOf22
 v46:=Tryz.zeroValue22
 t53:=Tryz.underlying393
 a53:=Tryz.isAgg393
 z53:=Tryz.sizeOf393
 v53:=Tryz.zeroValue393
 t57:=Tryz.underlying397
 a57:=Tryz.isAgg397
 z57:=Tryz.sizeOf397
 v57:=Tryz.zeroValue397
 t63:=Tryz.underlying425
 a63:=Tryz.isAgg425
 z63:=Tryz.sizeOf425
 v63:=Tryz.zeroValue425
 t64:=Tryz.underlying426
 a64:=Tryz.isAgg426
 z64:=Tryz.sizeOf426
 v64:=Tryz.zeroValue426}
end Go.Proofs
namespace Go.Proofs.YtfcnedcahoifoaaGreatDoor
open Go.RowKit
open _root_.Array renaming getElem?_eq_none→fH,getElem?_eq_some_iff→aw,getElem?_modify→g_,length_toList→iA,mem_of_getElem?→h_,replicate→fF
open _root_.Bool renaming and_eq_true→ba,eq_iff_iff→gU,not_eq_true'→jp,or_eq_true→ft,true_and→eF
open _root_.ByteArray renaming mk→jf,size→iG
open _root_.Go renaming Addr→jG,CallsIn→bj2,Calls→jE,Code→bk9,Ending→bi6,Exit→bk7,FuncId→bl9,KeepsOthers→bj4,Operand→bl7,Oper→bk0,OwnFrom→bj3,Program→bi3,SeqStopsK→bl1,TypeId→jH,Value→jD,World→jC,YieldAt→bl4,belowK_b→bj6,bodyPost_ret→jF,callsIn_of_wp_marks→bi7,callsIn_of_wp→bj1,callsIn_wide→jI,getD_set_ne→bk6,ready_mono→bl8,results_none→bj7,run_takeDeferred→bi2,run_underlying→bi8,wpAnyH_take→bk5,wpIn_wide→bi4
open _root_.Go.Act renaming put→gL
open _root_.Go.Addr renaming add→iU
open _root_.Go.Builtin renaming append_→ja
open _root_.Go.CallsIn renaming inRound→d_
open _root_.Go.Code renaming region→jo
open _root_.Go.Ending renaming returned→ff
open _root_.Go.Exit renaming noGoto_ret→cf
open _root_.Go.Fence renaming wide→cz
open _root_.Go.Instr renaming next→fw
open _root_.Go.KeepsOthers renaming refl→gq,setCell→b7
open _root_.Go.Lib renaming below_iterAt→iq,decodeN→iW,hid→ai,iterAt_heap→iC,run_next_any_at→fp,run_next_end_at→fq
open _root_.Go.Op renaming bytesLess→dW,stringOp→fK
open _root_.Go.Oper renaming semAt_some→db,wp→je
open _root_.Go.Region renaming Mode→fD,binds→gK,free→iV,noSelect→gS,ready→eE,wanted→eQ
open _root_.Go.Result renaming andThen_ok→iF,andThen→dw
open _root_.Go.RowKit renaming intOf→av
open _root_.Go.Sem renaming run_bind→eT,run_pure→fX
open _root_.Go.Value renaming int→br
open _root_.Go.World renaming alloc_heap_new→du,cell?_alloc_lt→dt,cell?_of_block→co,cell?→fJ,frozen?→ju,iterPos→eR,putObj_heap_other→dx,putObj_heap_same→gN,setCell→bj,size_alloc→b_
open _root_.Int renaming natCast_mul→eG,toNat_natCast→dM
open _root_.List renaming all_append→gT,all_eq_true→dZ,append_assoc→eH,append_nil→eB,cons_append→dj,drop_drop→gp,drop_eq_getElem_cons→dN,drop_eq_nil_of_le→ei,eq_nil_of_length_eq_zero→da,flatMap_cons→dg,getElem?_append_left→eL,getElem?_append_right→d7,getElem?_cons_succ→bo,getElem?_drop→fL,getElem?_eq_getElem→an,getElem?_eq_some_iff→ci,getElem?_map→eD,getElem?_set_self→gM,getElem?_set→jq,getElem?_take→gJ,getElem?_toArray→bh,getElem_cons_succ→ej,getElem_cons_zero→dQ,getElem_mem→ar,getElem_of_mem→dR,getElem_set_self→fP,getElem_set→eW,getElem_toArray→eK,getLast?_cons_cons→fj,length_append→cd,length_cons→c_,length_drop→dr,length_map→ax,length_nil→dp,length_range→fo,length_set→eq,length→ez,map_cons→df,map_nil→jA,map_take→iR,mem_cons_of_mem→dS,mem_cons_self→di,mem_cons→cw,mem_map→dq,mem_of_getElem?→cm,mem_range→dh,mem_singleton→eM,nil_append→dz,pairwise_cons→b6,pairwise_iff_getElem→cj,range→bu,setIfInBounds_toArray→bd,set_cons_succ→am,set_cons_zero→ak,set_getElem_self→ie,take_append_drop→fQ,take_of_length_le→cl,take_prefix→eS,take_set_of_le→gm,take_succ_eq_append_getElem→aj
open _root_.Nat renaming add_assoc→gW,add_zero→ip,eq_zero_or_pos→fM,le_refl→ay,le_succ→dU,le_trans→a_,lt_of_lt_of_le→cn,lt_or_ge→fB,lt_or_gt_of_ne→iD,lt_succ_self→fA,reduceAdd→ao,reduceSub→dk,zero_add→au,zero_le→be
open _root_.Option renaming map_some→jb
open _root_.Or renaming inl→ge
set_option maxRecDepth 100000
set_option maxHeartbeats 16000000
set_option linter.unusedVariables false
set_option linter.unusedSimpArgs false
variable{P:Prop}
theorem jS(h:P:=by omega):P:=h
theorem oo(h:P:=by kernel_rfl):P:=h
theorem B8(h:P:=by decide):P:=h
theorem lV(h:P:=by simp):P:=h
theorem mO(h:P:=by simp;omega):P:=h
theorem O1(h:P:=by rw[beq_eq_false_iff_ne];omega):P:=h
theorem TQ(h:P:=by rw[beq_iff_eq];omega):P:=h
theorem O0(h:P:=by unfold maxLen;omega):P:=h
theorem ZO(h:P:=by simp[Value.oneCell']):P:=h
theorem TO(h:P:=by decide+kernel):P:=h
theorem CJ(h:P:=by go_num):P:=h
theorem No(h:P:=by simp[RowKit.intOf];omega):P:=h
theorem LS(h:P:=by cases e):P:=h
theorem qch(h:P:=by cases h):P:=h
theorem qhs(h:P:=by have:=HB.size;simp at this⊢;omega):P:=h
theorem LR(h:P:=by injection e with e;omega):P:=h
theorem qhf(h:P:=by have:=(hf1 ad e).1;simp at this;omega):P:=h
theorem TP(h:P:=by cases e;omega):P:=h
theorem VV(h:P:=by rw[beq_eq_false_iff_ne];exact hp):P:=h
theorem YV(h:P:=by have:=hb.size;simp at this;omega):P:=h
theorem qhc(h:P:=by have:=hb.2;omega):P:=h
theorem WY(h:P:=by simp at h):P:=h
theorem S6(h:P:=by simpa using h):P:=h
theorem qes(h:P:=by have:=HB.size;omega):P:=h
theorem qus(h:P:=by unfold Hi.I64;dsimp only;omega):P:=h
theorem qlt(h:P:=by rw[List.length_take];omega):P:=h
theorem qlm(h:P:=by rw[List.length_map];omega):P:=h
theorem qhz(h:P:=by have:=H.size;omega):P:=h
variable{α:Type}
theorem xb:(∀l:List α,l.toArray.size=l.length)∧(∀(a:α)(l:List α),(a::l).length=l.length+1)∧([]:List α).length=0∧(∀(n:Nat)(a:α),Array.replicate (n+1) a=(Array.replicate n a).push a)∧(∀a:α,Array.replicate 0 a=#[])∧(∀(l:List α)(a:α),l.toArray.push a=(l++[a]).toArray)∧(∀l m:List α,l.toArray++m.toArray=(l++m).toArray)∧(∀l:List α,[]++l=l)∧(∀(a:α)(l m:List α),a::l++m=a::(l++m)):=⟨fun _=>List.size_toArray,fun _ _=>rfl,rfl,fun _ _=>Array.replicate_succ,fun _=>Array.replicate_zero,fun _ _=>List.push_toArray _ _,fun _ _=>List.append_toArray _ _,fun _=>rfl,fun _ _ _=>rfl⟩
theorem jU{a b:Bool}(h:a=b):ff (.bool a)=.returned (.bool b):=by rw[h]
theorem mL{k:IntKind}{a b:Int}(h:a=b):ff (.int k a)=.returned (.int k b):=by rw[h]
variable{B:Nat}{w:jC}
theorem below_drewN{a:jC}(h:Below B a w)(n:Nat):Below B a (w.drewN n):=⟨h.os,h.tape,h.output,h.size,h.block⟩
variable{W:jC}
theorem Below.two{W1 W2:jC}(h:Below W.heap.size W W1)(k:Below W1.heap.size W1 W2):Below W.heap.size W W2:=h.trans (k.mono h.size)
theorem kx{w1:jC}{o:Obj}(h:Below (w.alloc o).heap.size (w.alloc o) w1):Below w.heap.size w w1:=Below.two ((Below.refl _ _).alloc (ay _) o) h
variable{w':jC}
theorem jP(h:Below w.heap.size w w')(o:Obj):Below w.heap.size w (w'.alloc o):=h.alloc h.size o
theorem jQ(w:jC):Below w.heap.size w w:=Below.refl _ _
theorem Sq{w1:jC}(hb:Below W.heap.size W w1):(∀b o,b<W.heap.size→w1.cell? ⟨b,o,none⟩=W.cell? ⟨b,o,none⟩)∧(∀b o,b<W.heap.size→w1.frozen? ⟨b,o,none⟩=W.frozen? ⟨b,o,none⟩):=
 ⟨fun b o h=>hb.cell (p:=⟨b,o,none⟩) h,fun b o h=>hb.frozen (p:=⟨b,o,none⟩) h⟩
theorem addr_add(b off j:Nat):(⟨b,off,none⟩:jG).add j=⟨b,off+j,none⟩:=by
 unfold iU;split
 ·subst j;rfl
 rfl
def Rd(w:jC)(B:Nat)(A:Option jG)(xs:List jD):Prop:=
 xs≠[]→∃b off,A=some ⟨b,off,none⟩∧b<B∧∀j u,xs[j]? =some u→w.cell? ⟨b,off+j,none⟩=some u
section
variable{w w':jC}{B B':Nat}{A:Option jG}{xs:List jD}
theorem Rd.none_:Rd w B A []:=fun h=>absurd rfl h
theorem Rd.at_(h:Rd w B A xs)(hl:0<xs.length):∃b off,A=some ⟨b,off,none⟩∧b<B∧∀j u,xs[j]? =some u→w.cell? ⟨b,off+j,none⟩=some u:=
 h (by rintro rfl;simp at hl)
theorem Rd.keep(h:Rd w B A xs)(hk:∀b o,b<B→w'.cell? ⟨b,o,none⟩=w.cell? ⟨b,o,none⟩):Rd w' B A xs:=fun hl=>by
 obtain⟨b,off,e,hb,hc⟩:=h hl;exact⟨b,off,e,hb,fun j u hj=>(hk b _ hb).trans (hc j u hj)⟩
theorem Rd.more(h:Rd w B A xs)(hB:B≤B'):Rd w B' A xs:=fun hl=>by
 obtain⟨b,off,e,hb,hc⟩:=h hl;exact⟨b,off,e,jS,hc⟩
theorem Rd.below(h:Rd w B A xs)(hb:Below B w w'):Rd w' B A xs:=h.keep fun b o hlt=>hb.cell (p:=⟨b,o,none⟩) hlt
theorem Rd.alloc(h:Rd w B A xs)(hB:B≤w.heap.size)(o:Obj):Rd (w.alloc o) B A xs:=h.keep fun b o' hlt=>dt w o _ (by show b<_;omega)
theorem Rd.adds(h:Rd w B A xs):∀ad,A=some ad→∀j u,xs[j]? =some u→w.cell? (ad.add j)=some u:=fun ad e j u hj=>by
 obtain⟨b,off,rfl,_,hc⟩:=h (by rintro rfl;simp at hj)
 cases e
 rw[addr_add];exact hc j u hj
theorem Rd.take(h:Rd w B A xs)(n:Nat):Rd w B A (xs.take n):=fun hl=>by
 obtain⟨b,off,e,hb,hc⟩:=h (by rintro rfl;simp at hl);refine⟨b,off,e,hb,fun j u hj=>hc j u ?_⟩;rw[gJ]at hj;split at hj
 ·exact hj
 cases hj
theorem Rd.cut(h:Rd w B A xs)(k cap:Nat)(hc:xs.length≤cap):Rd w B (if cap=k then A else A.map (·.add k)) (xs.drop k):=fun hl=>by
 have hk:k<xs.length:=by
  apply Classical.byContradiction;intro hn;exact hl (ei jS)
 obtain⟨b,off,rfl,hb,hcell⟩:=h (by rintro rfl;simp at hk);rw[if_neg jS];refine⟨b,off+k,by simp[addr_add],hb,fun j u hj=>?_⟩;rw[gW];exact hcell _ u (by rw[←hj,fL])
variable{n:Nat}
theorem Rd.own{base:Nat}{e:jH}{size c:Nat}(h:w.ownsRow base e size (.slice A n c) n xs):Rd w w.heap.size A xs:=fun hl=>by
 rcases h.2 with⟨_,hn⟩|⟨g,cap,cur,hv,_,hh,hnc,_,hsz,ht⟩
 ·exact absurd (da (by rw[h.1,hn];simp)) hl
 have hA:A=some ⟨g,0,none⟩:=by injection hv
 subst hA;refine⟨g,0,rfl,(aw.1 hh).1,fun j u hj=>?_⟩;rw[←ht,gJ]at hj;split at hj
 ·rw[au];simpa[fJ,hh]using hj
 cases hj
end
section
variable{P:bi3}(w:jC)
theorem vX(base:Nat)(t ty e:jH)(i:TypeInfo)(size:Nat)(ht:P.underlying t=some (.slice e))(hi:P.info? e=some i)
 (v:jD) (n:Nat) (xs:List jD) (hown:w.ownsRow base e size v n xs) (c:Nat):(ja #[t,t] ty #[v,.slice none 0 c]).run P w=.ok v w:=by
 rcases hown.2 with⟨rfl,rfl⟩|⟨g,cap,cur,rfl,_,_,hnc,_⟩
 ·simp[ja,bi8 ht,sizeOf,typeInfo,hi,Builtin.lenOf,Builtin.firstCells]
 simp[ja,bi8 ht,sizeOf,typeInfo,hi,Builtin.lenOf,Builtin.firstCells,hnc,storeCells]
theorem rg(base:Nat)(t ty e:jH)(i:TypeInfo)(z:jD)(size bytes:Nat)(ht:P.underlying t=some (.slice e))(hi:P.info? e=some i)(hz:i.zero=some z)
 (hsize:i.size=size) (hby:i.bytes=bytes) (hzs:z.cells.size=size) (hsz:0<size)
 (v:jD) (n:Nat) (xs:List jD) (hown:w.ownsRow base e size v n xs)
 (B:Nat) (A:Option jG) (m c:Nat) (news:List jD) (hm:news.length=m*size) (hr:Rd w B A news) (h1:∀u∈news,u.oneCell'=true)
 (h63:n+m≤maxLen) (hbytes:(n+m)*bytes≤140737488355328) (hbase:base≤w.heap.size):
 ∃v' w',(ja #[t,t] ty #[v,.slice A m c]).run P w=.ok v' w'∧w'.ownsRow base e size v' (n+m) (xs++news)∧w.grownBy w' v.ownBlock∧
  (v'.ownBlock=v.ownBlock∨v'.ownBlock=some w.heap.size):=by
 rcases A with _|ad
 ·have hn:news=[]:=by
   cases news with
   |nil=>rfl
   |cons x r=>obtain⟨_,_,h,_⟩:=hr lV;cases h
  subst hn
  have hm0:m=0:=by
   rcases fM m with h0|h0
   ·exact h0
   have:=Nat.mul_pos h0 hsz;simp at hm;omega
  subst hm0
  exact⟨v,w,vX w base t ty e i size ht hi v n xs hown c,by simpa using hown,World.grownBy.refl w _,.inl rfl⟩
 have hcells:∀j u,news[j]? =some u→w.cell? (ad.add j)=some u:=by
  intro j u hu;obtain⟨b,off,h,_,hc⟩:=hr (by rintro rfl;simp at hu);injection h with h;subst h;rw[addr_add];exact hc j u hu
 obtain⟨v',w',hrun,h2,h3,_,h5⟩:=run_append_own_at (P:=P) w base t ty e i z size bytes ht hi hz hsize hby hzs hsz v n xs hown ad m c news hm hcells h1 h63 hbytes hbase
 exact⟨v',w',hrun,h2,h3,h5⟩
variable{ops:Array bk0}{rest:List bk0}{o:bk0}{Q:bk7→Act→jC→Prop}
theorem kr{a:Act}(hgd:o.guard=none)(s x:bl7)(t:jH)
 (ho:o.op=.call {callee:=.builtin .append,args:=#[s,x],argTypes:=#[t,t]})
 (base:Nat) (e:jH) (i:TypeInfo) (z:jD) (size bytes:Nat) (ht:P.underlying t=some (.slice e)) (hi:P.info? e=some i) (hz:i.zero=some z)
 (hsize:i.size=size) (hby:i.bytes=bytes) (hzs:z.cells.size=size) (hsz:0<size)
 (v:jD) (n:Nat) (xs:List jD) (hs:a.eval s=v) (hown:w.ownsRow base e size v n xs)
 (B:Nat) (A:Option jG) (m c:Nat) (news:List jD) (hx:a.eval x=.slice A m c) (hm:news.length=m*size) (hr:Rd w B A news) (h1:∀u∈news,u.oneCell'=true)
 (h63:n+m≤maxLen) (hbytes:(n+m)*bytes≤140737488355328) (hbase:base≤w.heap.size)
 (h:∀v' w',w'.ownsRow base e size v' (n+m) (xs++news)→w.grownBy w' v.ownBlock→(v'.ownBlock=v.ownBlock∨v'.ownBlock=some w.heap.size)→wpList P ops Q rest (a.put o.dst v') w'):wpList P ops Q (o::rest) a w:=
 wpList_plain hgd fun _ hK=>by
  obtain⟨v',w',hrun,h2,h3,h4⟩:=rg (P:=P) w base t o.type e i z size bytes ht hi hz hsize hby hzs hsz v n xs hown B A m c news hm hr h1 h63 hbytes hbase;unfold je execOp;simp only[ho,resolve,invoke,builtin,eT,fX,iF,List.map_toArray,df,jA,hs,hx,hrun];exact hK _ _ (h v' w' h2 h3 h4)
end
theorem m7(w:jC)(v:jD)(t:jH)(b:Nat)(hb:b=w.heap.size):∀j u,[v][j]? =some u→(w.alloc (.cells #[v] t)).cell? ((⟨b,0,none⟩:jG).add j)=some u:=by
 subst hb;intro j u hj
 cases j with
 |zero=>rw[addr_add,World.cell?_alloc_new];simpa using hj
 |succ j=>simp at hj
variable{P:bi3}
theorem vW(w:jC)(dT sT ty elem:jH)(hu:P.underlying dT=some (.slice elem))(hsz:(P.info? elem).map (·.size)=some 1)(g m dCap sCap:Nat)(sp:Option jG)
 (cur:Array jD) (t:jH) (hg:w.heap[g]? =some (.cells cur t (0,0))) (hcur:cur.size=m) (cs:List jD) (hm:cs.length=m) (B:Nat) (hr:Rd w B sp cs) (h1:∀v∈cs,v.oneCell'=true):
 ∃w',(Builtin.copy_ #[dT,sT] ty #[.slice (some ⟨g,0,none⟩) m dCap,.slice sp m sCap]).run P w=.ok (goInt m) w'∧w'.heap[g]? =some (.cells cs.toArray t (0,0))∧w.grownBy w' (some g)∧w'.heap.size=w.heap.size:=by
 by_cases h0:m=0
 ·subst h0;obtain rfl:cs=[]:=da hm;obtain rfl:cur=#[]:=Array.eq_empty_of_size_eq_zero hcur;exact⟨w,run_copy_none (P:=P) w dT sT ty elem _ sp 0 dCap 0 sCap hu hsz (by simp),hg,World.grownBy.refl w _,rfl⟩
 obtain⟨b,off,rfl,_,hc⟩:=hr (by rintro rfl;simp at hm;omega)
 have hrun:=run_copy_row (P:=P) w dT sT ty elem g 0 m dCap ⟨b,off,none⟩ m sCap cur t cs hu hsz hg (by rw[hm];exact(Nat.min_self _).symm) (fun j v hj=>by rw[addr_add];exact hc j v hj) (by omega) h1
 rw[hm]at hrun
 refine⟨_,hrun,?_,?_,by simp[World.setRow]⟩
 ·have hd:cur.toList.drop (0+m)=[]:=ei (by simp;omega);rw[setRow_heap w g _ _ t _ hg,hd];simp
 exact⟨rfl,rfl,rfl,by simp[World.setRow],fun k _ hk=>setRow_other w g k _ (fun e=>hk (by rw[e]))⟩
variable{ops:Array bk0}{rest:List bk0}{o:bk0}{Q:bk7→Act→jC→Prop}
theorem sM{a:Act}(hgd:o.guard=none)(d s:bl7)(dT sT:jH)
 (ho:o.op=.call {callee:=.builtin .copy,args:=#[d,s],argTypes:=#[dT,sT]}) (elem:jH) (hu:P.underlying dT=some (.slice elem)) (hsz:(P.info? elem).map (·.size)=some 1)
 (g m dCap sCap:Nat) (sp:Option jG) (hd:a.eval d=.slice (some ⟨g,0,none⟩) m dCap) (hs:a.eval s=.slice sp m sCap)
 (cur:Array jD) (t:jH) (hg:w.heap[g]? =some (.cells cur t (0,0))) (hcur:cur.size=m) (cs:List jD) (hm:cs.length=m) (B:Nat) (hr:Rd w B sp cs) (h1:∀v∈cs,v.oneCell'=true)
 (h:∀w',w'.heap[g]? =some (.cells cs.toArray t (0,0))→w.grownBy w' (some g)→w'.heap.size=w.heap.size→wpList P ops Q rest (a.put o.dst (goInt m)) w'):wpList P ops Q (o::rest) a w:=by
 refine wpList_plain hgd fun K hK=>?_
 obtain⟨w',hrun,r1,r2,r3⟩:=vW (P:=P) w dT sT o.type elem hu hsz g m dCap sCap sp cur t hg hcur cs hm B hr h1
 unfold je
 simp[execOp,ho,resolve,invoke,builtin,hd,hs,hrun,dw]
 exact hK _ _ (h w' r1 r2 r3)
theorem vo(t e:jH)(i:TypeInfo)(z:jD)(ht:P.underlying t=some (.slice e))(hi:P.info? e=some i)(hz:i.zero=some z)(hsz:i.size=1)
 (kl kc:IntKind) (n c:Nat) (hnc:n≤c) (hbytes:i.bytes*c≤281474976710656) (h63:c≤9223372036854775807) (w:jC):
 (Instr.makeSlice t (.int kl (n:Int)) (.int kc (c:Int))).run P w=.ok (.slice (some ⟨w.heap.size,0,none⟩) n c) (w.alloc (.cells (madeCells z.cells c) e)):=by
 have hb:(i.bytes:Int)*(c:Int)≤281474976710656:=by
  have h:((i.bytes*c:Nat):Int)≤281474976710656:=jS;rwa[eG]at h
 have hr:=run_make (P:=P) w t e i z ht hi hz kl kc n c jS jS hb jS
 simp only[dM,hsz,Nat.mul_one]at hr
 exact hr
def oV(w:jC)(base:Nat)(A:Option jG):Prop:=∀ad,A=some ad→base≤ad.block∧∃cs t,w.heap[ad.block]? =some (.cells cs t (0,0))
theorem oh{b:Nat}{o:Obj}(h:w.heap[b]? =some o):b<w.heap.size:=(aw.1 h).1
variable{A:Option jG}
theorem oV.later{base:Nat}(h:oV w base A)(hb:Below w.heap.size w w'):oV w' base A:=fun ad e=>by
 obtain⟨h1,cs,t,h2⟩:=h ad e;exact⟨h1,cs,t,(hb.block _ (oh h2)).trans h2⟩
theorem oV.from{base base':Nat}(h:oV w base A)(hb:base'≤base):oV w base' A:=fun ad e=>⟨a_ hb (h ad e).1,(h ad e).2⟩
theorem oV.set{base:Nat}(h:oV w base A)(p:jG)(v:jD):oV (w.setCell p v) base A:=fun ad e=>by
 obtain⟨h1,cs,t,h2⟩:=h ad e;refine⟨h1,?_⟩;by_cases hp:ad.block=p.block
 ·rw[hp]at h2⊢;simp only[bj,g_,if_true,h2,jb];exact⟨_,_,rfl⟩
 exact⟨cs,t,(Below.heap_setCell w p v ad.block hp).trans h2⟩
variable{row:Option Nat}
theorem oV.kept{base:Nat}(h:oV w base A)(hg:w.grownBy w' row)(hr:∀r,row=some r→∃o:Obj,w.heap[r]? =some o∧o.isCells=false):oV w' base A:=fun ad e=>by
 obtain⟨h1,cs,t,h2⟩:=h ad e;refine⟨h1,cs,t,(hg.block _ (oh h2) (fun e'=>?_)).trans h2⟩;obtain⟨o,ho,hc⟩:=hr _ e'.symm;rw[h2]at ho;cases ho;cases hc
variable{n:Nat}{v:jD}{xs:List jD}
theorem lB{base:Nat}{e:jH}{size:Nat}(h:w.ownsRow base e size v n xs):
 ∃A c,v=.slice A n c∧n≤c∧Rd w w.heap.size A xs∧oV w base A:=by
 have h':=h
 rcases h.2 with⟨rfl,rfl⟩|⟨g,cap,cur,rfl,hb,hh,hnc,_⟩
 ·exact⟨none,0,rfl,ay _,Rd.own h',fun _ e=>LS⟩
 exact⟨_,cap,rfl,hnc,Rd.own h',fun _ ea=>by cases ea;exact⟨hb,cur,e,hh⟩⟩
def U(x:Int):Prop:=0≤x∧x≤18446744073709551615
def Us(l:List Int):Prop:=∀x∈l,U x
def nth(l:List Int)(k:Nat):Int:=(l[k]?).getD 0
def Sl(w:jC)(B:Nat)(A:Option jG)(l:List Int):Prop:=Rd w B A (l.map (br .u64))
section
variable{w w':jC}{B B':Nat}{A:Option jG}{l:List Int}
theorem Sl.nil:Sl w B A []:=Rd.none_
variable{j:Nat}
theorem T8(h:j<l.length):l[j]? =some (nth l j):=by simp[nth,h]
theorem Sl.at_(h:Sl w B A l)(hl:0<l.length):∃b off,A=some ⟨b,off,none⟩∧b<B∧∀j,j<l.length→w.cell? ⟨b,off+j,none⟩=some (.int .u64 (nth l j)):=by
 obtain⟨b,off,e,hb,hc⟩:=Rd.at_ h (by simpa using hl);exact⟨b,off,e,hb,fun j hj=>hc j _ (by rw[eD,T8 hj];rfl)⟩
theorem Sl.more(h:Sl w B A l)(hB:B≤B'):Sl w B' A l:=Rd.more h hB
theorem Sl.keep(h:Sl w B A l)(hk:∀b o,b<B→w'.cell? ⟨b,o,none⟩=w.cell? ⟨b,o,none⟩):Sl w' B A l:=Rd.keep h hk
theorem Sl.below(h:Sl w B A l)(hb:Below B w w'):Sl w' B A l:=Rd.below h hb
theorem Sl.later(h:Sl w w.heap.size A l)(hb:Below w.heap.size w w'):Sl w' w'.heap.size A l:=(Sl.below h hb).more hb.size
theorem Sl.alloc(h:Sl w B A l)(hB:B≤w.heap.size)(o:Obj):Sl (w.alloc o) B A l:=Rd.alloc h hB o
theorem Sl.al(h:Sl w w.heap.size A l)(hb:Below w.heap.size w w'):Sl w' w.heap.size A l:=Sl.below h hb
theorem PG(w:jC)(x:Int)(t:jH)(b:Nat)(hb:b=w.heap.size):Sl (w.alloc (.cells #[.int .u64 x] t)) (w.alloc (.cells #[.int .u64 x] t)).heap.size (some ⟨b,0,none⟩) [x]:=fun _=>by
 subst hb;exact⟨w.heap.size,0,rfl,lV,fun j u hj=>by have:=m7 w (.int .u64 x) t _ rfl j u hj;rwa[addr_add]at this⟩
theorem Sl.take(h:Sl w B A l)(n:Nat):Sl w B A (l.take n):=by
 have:=Rd.take h n;rwa[←iR]at this
theorem Sl.cut(h:Sl w B A l)(k cap:Nat)(hc:l.length≤cap):Sl w B (if cap=k then A else A.map (·.add k)) (l.drop k):=by
 have:=Rd.cut h k cap (by simpa using hc);rwa[←List.map_drop]at this
end
variable{l:List Int}
theorem rI(h:Us l)(j:Nat):0≤nth l j∧nth l j≤18446744073709551615:=by
 unfold nth
 cases e:l[j]? with
 |none=>simp
 |some x=>exact h x (cm e)
theorem Ed:∀u∈l.map (br .u64),u.oneCell'=true:=by
 intro u hu;obtain⟨x,_,rfl⟩:=dq.1 hu;rfl
def Held(w:jC)(base:Nat)(v:jD)(l:List Int):Prop:=
 ∃A c,v=.slice A l.length c∧l.length≤c∧(A=none→c=0)∧Sl w w.heap.size A l∧oV w base A
theorem Held.later{base:Nat}(h:Held w base v l)(hb:Below w.heap.size w w'):Held w' base v l:=by
 obtain⟨A,c,e,hc,hA,hS,hF⟩:=h;exact⟨A,c,e,hc,hA,hS.later hb,hF.later hb⟩
theorem rN(w:jC)(base:Nat):Held w base (.slice none 0 0) []:=⟨none,0,rfl,ay _,fun _=>rfl,Sl.nil,fun _ e=>LS⟩
theorem Sl.to(h:Sl w w.heap.size A l)(hs:w.heap.size≤w'.heap.size)(hk:∀b o v,w.cell? ⟨b,o,none⟩=some v→w'.cell? ⟨b,o,none⟩=some v):Sl w' w'.heap.size A l:=fun hl=>by
 obtain⟨b,off,e,hb,hc⟩:=h hl;exact⟨b,off,e,jS,fun j u hj=>hk b _ u (hc j u hj)⟩
def jR(w:jC)(g:Nat)(t:jH)(cs:Array jD):Prop:=w.heap[g]? =some (.cells cs t (0,0))
section
variable{w w':jC}{g:Nat}{t:jH}{cs:Array jD}
theorem jR.lt(h:jR w g t cs):g<w.heap.size:=oh h
theorem jR.cell(h:jR w g t cs)(i:Nat):w.cell? ⟨g,i,none⟩=cs[i]? :=by
 unfold jR at h;simp[fJ,h]
theorem jR.at_(h:jR w g t cs)(i:Nat)(hv:cs[i]? =some v):w.cell? ⟨g,i,none⟩=some v:=(h.cell i).trans hv
variable{a b c:jD}
theorem jR.c0(h:jR w g t #[a,b,c]):w.cell? ⟨g,0,none⟩=some a:=h.cell 0
theorem jR.c1(h:jR w g t #[a,b,c]):w.cell? ⟨g,1,none⟩=some b:=h.cell 1
theorem jR.c2(h:jR w g t #[a,b,c]):w.cell? ⟨g,2,none⟩=some c:=h.cell 2
theorem jR.one(h:jR w g t #[a]):w.cell? ⟨g,0,none⟩=some a:=h.cell 0
theorem jR.zS{x y z:jD}(h:jR w g t #[a,b,c]):jR (((w.setCell ⟨g,0,none⟩ x).setCell ⟨g,1,none⟩ y).setCell ⟨g,2,none⟩ z) g t #[x,y,z]:=by
 unfold jR at h⊢;simp[bj,g_,h]
theorem jR.frozen(h:jR w g t cs)(i:Nat):w.frozen? ⟨g,i,none⟩=false:=by
 unfold jR at h;simp[ju,h]
theorem jR.new(w:jC)(t:jH)(cs:Array jD):jR (w.alloc (.cells cs t)) w.heap.size t cs:=du w _
theorem jR.drew(h:jR w g t cs):jR w.drew g t cs:=h
theorem jR.alloc(h:jR w g t cs)(o:Obj):jR (w.alloc o) g t cs:=(Below.heap_alloc w o g h.lt).trans h
theorem jR.kY(h:jR w g t cs)(i:Nat)(u:jD):jR (w.setCell ⟨g,i,none⟩ u) g t (cs.setIfInBounds i u):=by
 unfold jR at h⊢;simp[bj,g_,h]
theorem jR.far(h:jR w g t cs){p:jG}(hp:g≠p.block)(u:jD):jR (w.setCell p u) g t cs:=(Below.heap_setCell w p u g hp).trans h
theorem jR.below(h:jR w g t cs)(hb:Below B w w')(hg:g<B):jR w' g t cs:=(hb.block g hg).trans h
theorem jR.later(h:jR w g t cs)(hb:Below w.heap.size w w'):jR w' g t cs:=(hb.block g h.lt).trans h
theorem jR.grown(h:jR w g t cs)(hb:w.grownBy w' row)(hg:some g≠row):jR w' g t cs:=(hb.block g h.lt hg).trans h
theorem jR.kept(h:jR w g t cs)(hg:w.grownBy w' row)(hr:∀r,row=some r→∃o:Obj,w.heap[r]? =some o∧o.isCells=false):jR w' g t cs:=
 h.grown hg (fun e=>by obtain⟨o,ho,hc⟩:=hr _ e.symm;rw[show w.heap[g]? =_ from h]at ho;cases ho;cases hc)
theorem jR.sl(h:jR w g t (l.map (br .u64)).toArray):Sl w w.heap.size (some ⟨g,0,none⟩) l:=fun _=>
 ⟨g,0,rfl,h.lt,fun j u hj=>by rw[au,h.cell];simpa using hj⟩
variable{b:Nat}
theorem Jo{off:Nat}(h:Sl w B A l)(hx:jR w g t cs)(hu:∀v∈cs,∀n,v≠br .u64 n)(hl:l≠[])(hA:A=some ⟨b,off,none⟩):b≠g:=by
 rintro rfl;obtain⟨b',off',e,hb,hc⟩:=h (by simpa using hl);rw[hA]at e
 cases e
 have h0:0<(l.map (br .u64)).length:=by
  cases l with
  |nil=>exact absurd rfl hl
  |cons x r=>simp
 have h1:=hc 0 _ (an h0);obtain⟨n,_,e⟩:=dq.1 (ar h0);rw[←e,hx.cell]at h1;exact hu _ (h_ h1) n rfl
theorem Nd(h:Sl w w.heap.size A l)(hx:jR w g t cs)(hu:∀v∈cs,∀n,v≠br .u64 n)(hg:w.grownBy w' (some g)):Sl w' w'.heap.size A l:=fun hl=>by
 have hl':l≠[]:=by rintro rfl;exact hl rfl
 obtain⟨b,off,e,hb,hc⟩:=h hl;have hne:=Jo h hx hu hl' e;exact⟨b,off,e,cn hb hg.size,fun j v hj=>(co (hg.block b hb (fun e=>hne (by injection e)))).trans (hc j v hj)⟩
end
variable{g:Nat}{t:jH}
theorem jR.held{base:Nat}(h:jR w g t (l.map (br .u64)).toArray)(hb:base≤g):Held w base (.slice (some ⟨g,0,none⟩) l.length l.length) l:=
 ⟨_,_,rfl,ay _,(fun e=>LS),h.sl,(fun ad e=>by cases e;exact⟨hb,_,_,h⟩)⟩
variable{b:Nat}{cs:Array jD}
theorem G9{base:Nat}{cs':Array jD}(h:Held w base v l)(hx:jR w b t cs)(hu:∀v∈cs,∀n,v≠br .u64 n)(hg:w.grownBy w' (some b))(hx':jR w' b t cs'):Held w' base v l:=by
 obtain⟨A,c,e,hc,hA,hS,hF⟩:=h;refine⟨A,c,e,hc,hA,Nd hS hx hu hg,fun ad ea=>?_⟩;obtain⟨h1,ds,t2,h2⟩:=hF ad ea;refine⟨h1,?_⟩;by_cases hb:ad.block=b
 ·rw[hb];exact⟨_,_,hx'⟩
 exact⟨ds,t2,(hg.block _ (oh h2) (fun e=>hb (by injection e))).trans h2⟩
theorem Di(w:jC)(g:Nat)(x y z:jD):w.grownBy (((w.setCell ⟨g,0,none⟩ x).setCell ⟨g,1,none⟩ y).setCell ⟨g,2,none⟩ z) (some g):=by
 have h1:∀(w:jC)(o:Nat)(u:jD),w.grownBy (w.setCell ⟨g,o,none⟩ u) (some g):=fun w o u=>⟨rfl,rfl,rfl,by simp[bj],fun i hi hne=>Below.heap_setCell w ⟨g,o,none⟩ u i (fun e=>hne (by rw[e]))⟩;have h2:∀{a b c:jC},a.grownBy b (some g)→b.grownBy c (some g)→a.grownBy c (some g):=fun h k=>⟨k.os.trans h.os,k.tape.trans h.tape,k.output.trans h.output,a_ h.size k.size,fun i hi hn=>(k.block i (cn hi h.size) hn).trans (h.block i hi hn)⟩;exact h2 (h2 (h1 w 0 x) (h1 _ 1 y)) (h1 _ 2 z)
theorem N7(w:jC)(row:Option Nat):w.grownBy w row:=World.grownBy.refl w row
theorem k6(w:jC)(g o:Nat)(u:jD):w.grownBy (w.setCell ⟨g,o,none⟩ u) (some g):=
 ⟨rfl,rfl,rfl,by simp[bj],fun i hi hne=>Below.heap_setCell w ⟨g,o,none⟩ u i (fun e=>hne (by rw[e]))⟩
variable{a:jC}
theorem jW{b c:jC}(h:a.grownBy b row)(k:b.grownBy c row):a.grownBy c row:=
 ⟨k.os.trans h.os,k.tape.trans h.tape,k.output.trans h.output,a_ h.size k.size,fun i hi hn=>(k.block i (cn hi h.size) hn).trans (h.block i hi hn)⟩
theorem kH(h:Below a.heap.size a w)(row:Option Nat):a.grownBy w row:=⟨h.os,h.tape,h.output,h.size,fun i hi _=>h.block i hi⟩
theorem Co(h:a.grownBy w row)(hB:B≤a.heap.size)(hr:∀g,row=some g→B≤g):Below B a w:=
 ⟨h.os,h.tape,h.output,h.size,fun i hi=>h.block i jS (fun e=>by have:=hr i e.symm;omega)⟩
theorem ly(h:Below a.heap.size a w)(hg:w.grownBy w' (some g))(hn:a.heap.size≤g):Below a.heap.size a w':=h.grown hg h.size (fun k e=>by cases e;exact hn)
abbrev At(N:Nat):={p:Nat // p<N}
variable{N:Nat}
theorem mH:∀(ps:List Nat),(∀p∈ps,p<N)→∃zs:List (At N),zs.map (·.1)=ps
 |[],_=>⟨[],rfl⟩
 |p::ps,h=>by
  obtain⟨zs,hz⟩:=mH ps (fun q hq=>h q (dS _ hq));exact⟨⟨p,h p (di ..)⟩::zs,by simp[hz]⟩
def kZ(n₀ g:Nat)(A B:jC):Prop:=A.heap.size≤B.heap.size∧∀i,i<n₀→i≠g→B.heap[i]? =A.heap[i]?
theorem og(n₀ g:Nat)(A:jC):kZ n₀ g A A:=⟨ay _,fun _ _ _=>rfl⟩
variable{n₀:Nat}{B:jC}
theorem l_{A C:jC}(h:kZ n₀ g A B)(k:kZ n₀ g B C):kZ n₀ g A C:=⟨a_ h.1 k.1,fun i h1 h2=>(k.2 i h1 h2).trans (h.2 i h1 h2)⟩
theorem qf(hn:n₀≤w.heap.size)(W:jC)(l:Nat)(o o':Obj)(hl:w.heap.size≤l)(h:W.heap[l]? =some o)(_:o.isCells=false)(_:o.isWalk=false):kZ n₀ g W (W.putObj l o'):=by
 have h1:=bj6 hn W l o o' hl h ‹_› ‹_›;exact⟨h1.size,fun i hi _=>h1.block i hi⟩
theorem pD{A:jC}(hn:n₀≤A.heap.size)(h:Below A.heap.size A B):kZ n₀ g A B:=⟨h.size,fun i hi _=>h.block i jS⟩
theorem p8{A:jC}(hn:n₀≤A.heap.size)(h:A.grownBy B (some g)):kZ n₀ g A B:=⟨h.size,fun i hi hne=>h.block i jS (fun e=>hne (by injection e))⟩
theorem jR.but{A:jC}(h:jR A b t cs)(hk:kZ n₀ g A B)(hb:b<n₀)(hg:b≠g):jR B b t cs:=(hk.2 b hb hg).trans h
variable{W':jC}
theorem sF{β:Type}{J:β→jC→Prop}(h:AbidesFrom n J){s:β}(hs:J s W)(hb:Below W.heap.size W W'):J s W':=
 h s W W' none hs ⟨hb.os,hb.tape,hb.output,hb.size,fun i hi _=>hb.block i hi⟩ (fun r e=>LS)
theorem zE{A B:jC→Prop}:∀(e:bi6)(W':jC),(e=.returned (.bool true)∧A W'∨e=.returned (.bool false)∧B W')→∃b,e=.returned (.bool b)∧(bif b then A W' else B W')
 |_,_,.inl ⟨rfl,h⟩=>⟨true,rfl,h⟩
 |_,_,.inr ⟨rfl,h⟩=>⟨false,rfl,h⟩
theorem ky(h:Below W.heap.size W W'):bj4 W W':=
 ⟨h.size,fun k o hk _=>(h.block k (oh hk)).trans hk⟩
theorem Jp{X:jC}{m:List Int}(h:Sl X X.heap.size A m)(hk:kZ X.heap.size g X W)(hne:∀ad,A=some ad→ad.block≠g):Sl W W.heap.size A m:=fun hl=>by
 obtain⟨b,off,e,hb,hc⟩:=h hl;exact⟨b,off,e,cn hb hk.1,fun j u hj=>(co (hk.2 b hb (hne _ e))).trans (hc j u hj)⟩
structure After(W:jC):Type where
 at_:jC
 is:Below W.heap.size W at_
theorem After.cell{o:Nat}(h:W.cell? ⟨b,o,none⟩=some v)(hb:b<W.heap.size):∀x:After W,x.at_.cell? ⟨b,o,none⟩=some v:=fun x=>(x.is.cell (p:=⟨b,o,none⟩) hb).trans h
theorem After.some(W:jC):Nonempty (After W):=⟨⟨W,Below.refl _ _⟩⟩
variable{a:Act}
theorem yU{id:Nat}{l:List bk0}(hm:P.follows .mixedOrders=true)(hB:Region.lexB .any l.toArray=true)
 (h:wpQuiet P l.toArray (fun w'=>∃x:After w,w'=x.at_) (fun a'=>∀w',(∃x:After w,w'=x.at_)→Q .normal a' w') l a):(jo id l.toArray true).wp P Q a w:=
 wp_region_quiet (C:=fun w'=>∃x:After w,w'=x.at_) hm hB ⟨⟨_,(Below.refl w.heap.size w).drew⟩,rfl⟩ S6
variable{args:Array jD}
theorem na{f:bl9}{x:After W}(h:jE P f args x.at_ fun e w'=>e=.returned v∧Below x.at_.heap.size x.at_ w'):
 jE P f args x.at_ fun e w''=>e=.returned v∧∃y:After W,w''=y.at_:=h.mono fun _ w''⟨he,hb⟩=>⟨he,⟨w'',Below.two x.is hb⟩,rfl⟩
section
variable{P:bi3}{ops:Array bk0}{Q:bk7→Act→jC→Prop}{md:fD}{S:jC→Prop}{s:Nat}
def mh(P:bi3)(md:fD)(ops:Array bk0)(Q:bk7→Act→jC→Prop)(S:jC→Prop)(s:Nat):Nat→Array Bool→Act→jC→Prop
 |0,listed,a,w=>eE md ops listed=[]∧Q .normal a w
 |fuel+1,listed,a,w=>
  (eE md ops listed=[]→Q .normal a w)∧
  ∀i∈eE md ops listed,wpOp P ops Q i (fun a' w'=>((listed.setIfInBounds i true).getD s true=false→S w')∧mh P md ops Q S s fuel (listed.setIfInBounds i true) a' w') a w
theorem vh:∀(fuel:Nat)(listed:Array Bool)(a:Act)(w:jC),mh P md ops Q S s fuel listed a w→wpAny P md ops Q fuel listed a w
 |0,_,_,_,h=>h
 |fuel+1,_,_,_,h=>⟨h.1,fun i hi=>wpOp_mono (fun a' w' h'=>vh fuel _ a' w' h'.2) (h.2 i hi)⟩
def waits(md:fD)(ops:Array bk0)(s i:Nat):Bool:=match ops[s]? with
 |some o=>o.after.any fun e=>gK md e&&e.on==i
 |none=>false
variable{j:Nat}
theorem I9{i:Nat}{oj:bk0}(h:waits md ops s i=true)(hj:ops[j]? =some oj)(hno:∀e∈oj.after,gK md e=true→e.on≠i):j≠s:=by
 rintro rfl;unfold waits at h;rw[hj]at h;simp only[Array.any_eq_true']at h;obtain⟨e,he,hb⟩:=h;simp only[ba,beq_iff_eq]at hb;exact hno e he hb.1 hb.2
variable{oi:bk0}
theorem DJ{i:Nat}(hi:ops[i]? =some oi)(hsel:∀(j:Nat)(o:bk0) cs b,ops[j]? =some o→o.op≠.select cs b)
 (hQ:∀c a w,Q (.panic c) (a.put oi.dst v) w→Q (.panic c) a w) (hwt:waits md ops s i=true) (his:i≠s):
 ∀(fuel:Nat)(listed:Array Bool)(a:Act)(w:jC),
  (∀j oj,ops[j]? =some oj→j≠i→listed.getD j true=false→(∀e∈oj.after,gK md e=true→e.on≠i)→oi.apart ops oj=true)→
  i∈eE md ops listed→YieldsIf P ops S oi v a→listed.getD s true=false→S w→
  mh P md ops Q S s fuel (listed.setIfInBounds i true) (a.put oi.dst v) w→mh P md ops Q S s (fuel+1) listed a w:=by
 intro fuel
 induction fuel with
 |zero=>
  intro listed a w _ hr hy hu hS H;refine⟨fun h=>(by rw[h]at hr;cases hr),fun j hj=>?_⟩;by_cases hji:j=i
  ·subst hji;exact hy.wpOp hi hS ⟨fun _=>hS,H⟩
  have:=bl8 hj hji;rw[H.1]at this
  cases this
 |succ fuel ih=>
  intro listed a w hfree hr hy hu hS H;refine⟨fun h=>(by rw[h]at hr;cases hr),fun j hj=>?_⟩;by_cases hji:j=i
  ·subst hji;exact hy.wpOp hi hS ⟨fun _=>hS,H⟩
  have h1:=H.2 j (bl8 hj hji);obtain⟨hjun,oj,hoj,hall⟩:=mem_ready.1 hj;have hnot:∀e∈oj.after,gK md e=true→e.on≠i:=fun e he hb heq=>by
   have h1:=hall e he hb;have h0:=(mem_ready.1 hr).1;rw[heq]at h1;rcases fB i listed.size with h'|h'
   ·simp[h']at h0 h1;rw[h0]at h1;cases h1
   simp[fH h']at h1
  have hjs:=I9 hwt hoj hnot;have h2:=wpOp_putIf hoj (hfree j oj hoj hji hjun hnot) (fun cs b=>hsel i oi cs b hi) (fun cs b=>hsel j oj cs b hoj) hQ hy h1;have hfree':∀k ok,ops[k]? =some ok→k≠i→(listed.setIfInBounds j true).getD k true=false→
   (∀e∈ok.after,gK md e=true→e.on≠i)→oi.apart ops ok=true:=fun k ok hk hki hun hno=>by
   refine hfree k ok hk hki ?_ hno
   by_cases hjk:j=k
   ·subst hjk;exact hjun
   rw[bk6 true hjk]at hun;exact hun
  have hu1:(listed.setIfInBounds j true).getD s true=false:=by rw[bk6 true hjs];exact hu
  have hu2:((listed.setIfInBounds i true).setIfInBounds j true).getD s true=false:=by rw[bk6 true hjs,bk6 true his];exact hu
  refine wpOp_mono (fun a' w' h3=>⟨fun _=>h3.2.1 hu2,ih (listed.setIfInBounds j true) a' w' hfree' (bl8 hr (Ne.symm hji)) h3.1 hu1 (h3.2.1 hu2) ?_⟩) h2;rw[Array.setIfInBounds_comm _ _ hji];exact h3.2.2
theorem Cg(l:Array Bool)(j:Nat):(l.setIfInBounds j true).getD j true=true:=by
 rw[Array.getD_eq_getD_getElem?];rcases fB j l.size with h|h
 ·simp[h]
 simp[h]
theorem BP{i:Nat}(hi:ops[i]? =some oi)(hsel:∀(j:Nat)(o:bk0) cs b,ops[j]? =some o→o.op≠.select cs b)
 (hQ:∀c a w,Q (.panic c) (a.put oi.dst v) w→Q (.panic c) a w) (his:i≠s):
 ∀(fuel:Nat)(listed:Array Bool)(a:Act)(w:jC),
  (∀j oj,ops[j]? =some oj→j≠i→listed.getD j true=false→(∀e∈oj.after,gK md e=true→e.on≠i)→oi.apart ops oj=true)→
  i∈eE md ops listed→YieldsIf P ops (fun _=>True) oi v a→(listed.getD s true=false→S w)→
  mh P md ops Q S s fuel (listed.setIfInBounds i true) (a.put oi.dst v) w→mh P md ops Q S s (fuel+1) listed a w:=by
 intro fuel
 induction fuel with
 |zero=>
  intro listed a w _ hr hy hS H;refine⟨fun h=>(by rw[h]at hr;cases hr),fun j hj=>?_⟩;by_cases hji:j=i
  ·subst hji;exact hy.wpOp hi trivial ⟨fun hu=>hS (by rwa[bk6 true his]at hu),H⟩
  have:=bl8 hj hji;rw[H.1]at this
  cases this
 |succ fuel ih=>
  intro listed a w hfree hr hy hS H;refine⟨fun h=>(by rw[h]at hr;cases hr),fun j hj=>?_⟩;by_cases hji:j=i
  ·subst hji;exact hy.wpOp hi trivial ⟨fun hu=>hS (by rwa[bk6 true his]at hu),H⟩
  have h1:=H.2 j (bl8 hj hji);obtain⟨hjun,oj,hoj,hall⟩:=mem_ready.1 hj;have hnot:∀e∈oj.after,gK md e=true→e.on≠i:=fun e he hb heq=>by
   have h1:=hall e he hb;have h0:=(mem_ready.1 hr).1;rw[heq]at h1;rcases fB i listed.size with h'|h'
   ·simp[h']at h0 h1;rw[h0]at h1;cases h1
   simp[fH h']at h1
  have h2:=wpOp_putIf hoj (hfree j oj hoj hji hjun hnot) (fun cs b=>hsel i oi cs b hi) (fun cs b=>hsel j oj cs b hoj) hQ hy h1;have hfree':∀k ok,ops[k]? =some ok→k≠i→(listed.setIfInBounds j true).getD k true=false→
   (∀e∈ok.after,gK md e=true→e.on≠i)→oi.apart ops ok=true:=fun k ok hk hki hun hno=>by
   refine hfree k ok hk hki ?_ hno
   by_cases hjk:j=k
   ·subst hjk;exact hjun
   rw[bk6 true hjk]at hun;exact hun
  refine wpOp_mono (fun a' w' h3=>?_) h2;have hS':(listed.setIfInBounds j true).getD s true=false→S w':=fun hu=>h3.2.1 (by
   by_cases hjs:j=s
   ·subst hjs;rw[Cg]at hu;cases hu
   rw[bk6 true hjs,bk6 true his];rwa[bk6 true hjs]at hu)
  refine⟨hS',ih (listed.setIfInBounds j true) a' w' hfree' (bl8 hr (Ne.symm hji)) h3.1 hS' ?_⟩;rw[Array.setIfInBounds_comm _ _ hji];exact h3.2.2
variable{fuel:Nat}{listed:Array Bool}
theorem ye{i:Nat}(hi:ops[i]? =some oi)
 (hs:gS ops=true) (hf:iV md ops listed i=true) (hr:(eE md ops listed).contains i=true) (hwt:waits md ops s i=true) (his:i≠s) (hu:listed.getD s true=false)
 (hQ:∀c a w,Q (.panic c) (a.put oi.dst v) w→Q (.panic c) a w) (hy:YieldsIf P ops S oi v a) (hS:S w)
 (h:mh P md ops Q S s fuel (listed.setIfInBounds i true) (a.put oi.dst v) w):mh P md ops Q S s (fuel+1) listed a w:=
 DJ hi (Region.noSelect_spec hs) hQ hwt his fuel listed a w (Region.free_spec hi hf) (by simpa using hr) hy hu hS h
theorem nc{i:Nat}(hi:ops[i]? =some oi)
 (hs:gS ops=true) (hf:iV md ops listed i=true) (hr:(eE md ops listed).contains i=true) (his:i≠s)
 (hQ:∀c a w,Q (.panic c) (a.put oi.dst v) w→Q (.panic c) a w) (hy:YieldsIf P ops (fun _=>True) oi v a) (hS:listed.getD s true=false→S w)
 (h:mh P md ops Q S s fuel (listed.setIfInBounds i true) (a.put oi.dst v) w):mh P md ops Q S s (fuel+1) listed a w:=
 BP hi (Region.noSelect_spec hs) hQ his fuel listed a w (Region.free_spec hi hf) (by simpa using hr) hy hS h
theorem I7{i:Nat}(hr:eE md ops listed=[i])(ho:ops[i]? =some o)
 (h:∀K':Act→jC→Prop,Shut (∀a w,((listed.setIfInBounds i true).getD s true=false→S w)→mh P md ops Q S s fuel (listed.setIfInBounds i true) a w→K' a w)→if eQ o (yielded ops a.tmps)=true then je P o a w K' Q else K' (a.put o.dst undef) w):
 mh P md ops Q S s (fuel+1) listed a w:=
 ⟨fun h0=>(by rw[hr]at h0;cases h0),fun j hj=>by
  rw[hr]at hj;obtain rfl:=eM.1 hj;exact wpOp_step ho (fun K' hK=>h K' (fun a w hS hW=>hK a w ⟨hS,hW⟩))⟩
theorem Fq(hr:eE md ops listed=[])(h:Q .normal a w):
 ∀fuel,mh P md ops Q S s fuel listed a w
 |0=>⟨hr,h⟩
 |_+1=>⟨fun _=>h,by rw[hr];simp⟩
theorem kG{id:Nat}(hm:P.follows .mixedOrders=true)(h:mh P .any ops Q S s ops.size (fF ops.size false) a w.drew):(jo id ops true).wp P Q a w:=
 wp_region_any hm (vh _ _ _ _ h)
end
section
variable{P:bi3}{md:fD}{ops:Array bk0}{Q:bk7→Act→jC→Prop}{l n:Nat}
variable{K:Act→jC→Prop}
theorem JP{K':Act→jC→Prop}(hd:∀c,o.op≠.defer c)
 (hK:∀a w,K a w→K' a w) (h:o.wp P a w K Q):o.wpIn (Fence.wide.inRound l) n P a w K' Q:=by
 refine⟨fun _ _=>trivial,?_⟩
 rw[Oper.semAt_eq _ _ _ hd]
 unfold je at h
 generalize(execOp a.eval o).run P w=r at h
 cases r with
 |ok x w'=>
  cases x with
  |value v=>exact hK _ _ h
  |skip=>exact hK _ _ h
  |defer d=>exact hK _ _ h
  |enter f args=>
   refine⟨(fun e=>LS),d_ l (jI.2 (h.mono ?_))⟩;intro e w'' he
   cases e with
   |returned v=>exact hK _ _ he
   |panicked c=>exact he
   |outgrown=>exact he
  |row s args=>exact⟨(fun e=>LS),fun c cs _=>let⟨v,w'',r,st⟩:=h c cs;⟨v,w'',hK _ _ r,stepsIn_wide.2 st⟩⟩
  |_=>exact h.elim
 |halt x w'=>
  cases x with
  |panic v=>exact h
  |_=>exact h.elim
theorem rS(hd:∀(i:Nat)(o:bk0),ops[i]? =some o→∀c,o.op≠.defer c)(hQ:¬LetsOut Q):∀(fuel:Nat)(listed:Array Bool)(a:Act)(w:jC),wpAny P md ops Q fuel listed a w→wpAnyIn (Fence.wide.inRound l) n P md ops Q fuel listed a w
 |0,_,_,_,h=>h
 |fuel+1,listed,a,w,h=>⟨h.1,fun i hi=>by
  have h1:=h.2 i hi;unfold wpOp at h1;unfold wpOpIn
  cases ho:ops[i]? with
  |none=>rw[ho]at h1;exact rS hd hQ fuel _ _ _ h1
  |some o=>
   rw[ho]at h1;simp only at h1⊢;split
   ·rename_i hw;rw[if_pos hw]at h1;rcases h1 with h1|⟨_,h1⟩
    ·exact JP (hd i o ho) (fun a w h=>rS hd hQ fuel _ a w h) h1
    exact absurd h1 hQ
   rename_i hw;rw[if_neg hw]at h1;exact⟨fun _ _=>trivial,rS hd hQ fuel _ _ _ h1⟩⟩
theorem qQ{S:jC→Prop}{id:Nat}(hm:P.follows .mixedOrders=true)(hd:ops.toList.all (fun o:bk0=>match o.op with|.defer _=>false|_=>true)=true)(hQ:¬LetsOut Q)(hS:S w.drew)
 (h:S w.drew→wpAnyH P .any ops Q S ops.size (fF ops.size false) a w.drew):(jo id ops true).wpIn (Fence.wide.inRound l) n P Q a w:=by
 refine wpIn_region_any hm (rS (fun i o ho c e=>?_) hQ _ _ _ _ (wpAny_of_held _ _ _ _ (h hS)))
 have:=dZ.1 hd o (by simpa using h_ ho)
 rw[e]at this
 cases this
end
def kz(w:jC)(g:Nat):Nat→List jD→Prop
 |_,[]=>True
 |i,v::vs=>w.cell? ⟨g,i,none⟩=some v∧kz w g (i+1) vs
theorem qG{cs:List jD}(h:jR w g t cs.toArray):∀(vs:List jD)(i:Nat),(∀j u,vs[j]? =some u→cs[i+j]? =some u)→kz w g i vs
 |[],_,_=>trivial
 |v::vs,i,hv=>⟨by rw[h.cell,bh];exact hv 0 v rfl,qG h vs (i+1) fun j u hj=>by rw[show i+1+j=i+(j+1) by omega];exact hv (j+1) u hj⟩
structure Hold(w0 w:jC)(bs:List (Nat×jH×List jD)):Prop where
 below:Below w0.heap.size w0 w
 blk:∀b∈bs,w0.heap.size≤b.1∧jR w b.1 b.2.1 b.2.2.toArray
 apart:bs.Pairwise fun a b=>a.1≠b.1
def Facts(w:jC):List (Nat×jH×List jD)→Prop
 |[]=>True
 |b::bs=>b.1<w.heap.size∧(∀i,w.frozen? ⟨b.1,i,none⟩=false)∧kz w b.1 0 b.2.2∧Facts w bs
section
variable{w0 w w':jC}{bs:List (Nat×jH×List jD)}
theorem Hs:∀{bs:List (Nat×jH×List jD)},(∀b∈bs,w0.heap.size≤b.1∧jR w b.1 b.2.1 b.2.2.toArray)→Facts w bs
 |[],_=>trivial
 |b::bs,h=>have hb:=(h b (di ..)).2;⟨hb.lt,hb.frozen,qG hb _ 0 (fun j u hj=>by rw[au];exact hj),Hs fun c hc=>h c (dS _ hc)⟩
theorem Hold.facts(h:Hold w0 w bs):Facts w bs:=Hs h.blk
variable{cs:List Value}
theorem Hold.at_(h:Hold w0 w bs)(k:Nat){t:TypeId}(e:bs[k]? =some (g,t,cs):=by rfl):kz w g 0 cs:=qG (h.blk _ (List.mem_of_getElem? e)).2 cs 0 fun j u hj=>by rw[Nat.zero_add];exact hj
theorem Hold.nil(w:jC):Hold w w []:=⟨jQ w,fun _ h=>qch,List.Pairwise.nil⟩
theorem Hold.size(h:Hold w0 w bs):w0.heap.size≤w.heap.size:=h.below.size
theorem Hold.call(h:Hold w0 w bs)(hb:Below w.heap.size w w'):Hold w0 w' bs:=⟨h.below.trans (hb.mono h.size),fun b hm=>⟨(h.blk b hm).1,(h.blk b hm).2.later hb⟩,h.apart⟩
theorem Hold.drew(h:Hold w0 w bs):Hold w0 w.drew bs:=⟨h.below.drew,h.blk,h.apart⟩
theorem Hold.al(h:Hold w0 w bs)(o:Obj):Hold w0 (w.alloc o) bs:=⟨h.below.alloc h.size o,fun b hm=>⟨(h.blk b hm).1,(h.blk b hm).2.alloc o⟩,h.apart⟩
theorem Hold.alloc(h:Hold w0 w bs)(g:Nat)(t:TypeId)(cs:List Value)(hg:g=w.heap.size:=by simp):Hold w0 (w.alloc (.cells cs.toArray t)) ((g,t,cs)::bs):=by
 subst hg;refine⟨h.below.alloc h.size _,fun b hm=>?_,b6.2 ⟨fun b hm=>Nat.ne_of_gt (h.blk b hm).2.lt,h.apart⟩⟩;rcases cw.1 hm with rfl|hm
 ·exact⟨h.size,jR.new w _ _⟩
 exact⟨(h.blk b hm).1,(h.blk b hm).2.alloc _⟩
theorem Hold.tail{b:Nat×jH×List jD}(h:Hold w0 w (b::bs)):Hold w0 w bs:=⟨h.below,fun c hc=>h.blk c (dS _ hc),(b6.1 h.apart).2⟩
theorem Hold.put(h:Hold w0 w bs)(k i:Nat)(v:Value){t:TypeId}(e:bs[k]? =some (g,t,cs):=by rfl):Hold w0 (w.setCell ⟨g,i,none⟩ v) (bs.set k (g,t,cs.set i v)):=by
 obtain⟨hk,ek⟩:=ci.1 e;have hm:=ek▸ar hk;have hap:=cj.1 h.apart;refine⟨h.below.setCell (p:=⟨g,i,none⟩) (h.blk _ hm).1 v,fun b hb=>?_,cj.2 fun x y hx hy hxy=>?_⟩
 ·obtain⟨j,hj,rfl⟩:=dR hb;rw[eW];by_cases e:k=j
  ·rw[if_pos e];refine⟨(h.blk _ hm).1,?_⟩;have:=(h.blk _ hm).2.kY i v;simpa using this
  rw[if_neg e];have hj':j<bs.length:=by simpa using hj
  have hb:=h.blk _ (ar hj');refine⟨hb.1,hb.2.far (p:=⟨g,i,none⟩) (fun e2=>?_) v⟩;have e3:bs[k].1=g:=by rw[ek]
  rcases iD e with hl|hl
  ·exact hap _ _ hk hj' hl (e3.trans e2.symm)
  exact hap _ _ hj' hk hl (e2.trans e3.symm)
 have hx':x<bs.length:=by simpa using hx
 have hy':y<bs.length:=by simpa using hy
 have q:=hap x y hx' hy' hxy;have e1:∀(j:Nat)(hj:j<bs.length),((bs.set k (g,t,cs.set i v))[j]'(by simpa using hj)).1=bs[j].1:=fun j hj=>by
  rw[eW];split
  ·subst_vars;rw[ek]
  rfl
 rw[e1 x hx',e1 y hy'];exact q
theorem Hold.grown(h:Hold w0 w bs)(hg:w.grownBy w' row)(hr:∀g,row=some g→w0.heap.size≤g∧∀b∈bs,b.1≠g):Hold w0 w' bs:=
 ⟨h.below.grown hg h.size fun g e=>(hr g e).1,fun b hm=>⟨(h.blk b hm).1,(h.blk b hm).2.grown hg fun e=>(hr _ e.symm).2 b hm rfl⟩,h.apart⟩
end
section
variable{P:bi3}{md:fD}{ops:Array bk0}{Q:bk7→Act→jC→Prop}{S:jC→Prop}
end
section
variable{w0 W:jC}{bs:List (Nat×jH×List jD)}{P:bi3}{a:Act}
theorem oN{c:bk9}(F:jC→Prop)(H:Hold w0 W bs)(h:F W)(k:∀V,Hid (Hold w0 V bs)→F V→c.wp P Q a V):c.wp P Q a W:=k W (ai H) h
variable{R:bi6→jC→Prop}
theorem kw{fn:Func}{x:bk7}(F:jC→Prop)(H:Hold w0 W bs)(h:F W)(k:∀V,Hid (Hold w0 V bs)→F V→bodyPost P fn R x a V):bodyPost P fn R x a W:=k W (ai H) h
theorem kf{f:bl9}(F:jC→Prop)(H:Hold w0 W bs)(h:F W)(k:∀V,Hid (Hold w0 V bs)→F V→jE P f args V R):jE P f args W R:=k W (ai H) h
end
def lp(w:jC)(g:Nat):Nat→List jD→jC
 |_,[]=>w
 |i,v::vs=>lp (w.setCell ⟨g,i,none⟩ v) g (i+1) vs
theorem Hold.fill{w0:jC}{bs:List (Nat×jH×List jD)}:∀(vs:List jD){w:jC}{cs:List jD}(i:Nat),Hold w0 w bs→∀k:Nat,bs[k]? =some (g,t,cs)→i+vs.length=cs.length→Hold w0 (lp w g i vs) (bs.set k (g,t,cs.take i++vs))
 |[],w,cs,i,h,k,e,hl=>by
  obtain⟨hk,ek⟩:=ci.1 e;have e2:cs.take i++([]:List jD)=cs:=by rw[eB,cl (by simp at hl;omega)]
  rw[e2,←ek,ie];exact h
 |v::vs,w,cs,i,h,k,e,hl=>by
  have hk:=(ci.1 e).1;have:=Hold.fill vs (i+1) (h.put k i v e) k (by rw[gM hk]) (by simp at hl⊢;omega);rw[List.set_set]at this;have e2:(cs.set i v).take (i+1)++vs=cs.take i++v::vs:=by
   have hi:i<cs.length:=by simp at hl;omega
   rw[aj (by simpa using hi),fP,gm (ay _),eH];rfl
  rw[e2]at this;exact this
theorem qj:∀(vs:List jD)(w:jC)(g i:Nat),(lp w g i vs).heap.size=w.heap.size
 |[],_,_,_=>rfl
 |v::vs,w,g,i=>by rw[lp,qj vs];simp
theorem mi{o:Nat}{u:jD}(h:Rd w w.heap.size A xs)(hne:∀ad,A=some ad→ad.block≠g):Rd (w.setCell ⟨g,o,none⟩ u) (w.setCell ⟨g,o,none⟩ u).heap.size A xs:=fun hx=>by
 obtain⟨b,off,rfl,hb,hc⟩:=h hx;exact⟨b,off,rfl,by simpa using hb,fun j v hj=>by rw[World.cell?_setCell_far _ _ _ _ (by intro e;exact hne _ rfl e.symm)];exact hc j v hj⟩
theorem xr(hne:∀ad,A=some ad→ad.block≠g):∀(vs:List jD){w:jC}(i:Nat),Rd w w.heap.size A xs→Rd (lp w g i vs) (lp w g i vs).heap.size A xs
 |[],_,_,h=>h
 |v::vs,_,i,h=>xr hne vs (i+1) (mi h hne)
variable{cs:List Value}
theorem Hold.all{w0 w:World}{bs:List (Nat×TypeId×List Value)}(h:Hold w0 w bs)(k:Nat)(vs:List Value){t:TypeId}(e:bs[k]? =some (g,t,cs):=by rfl)(hl:vs.length=cs.length:=by rfl):Hold w0 (lp w g 0 vs) (bs.set k (g,t,vs)):=by
 have:=Hold.fill vs 0 h k e jS;simpa using this
variable{p:Prop}
theorem ah(h:p):Hid p:=h
theorem aa:n≤n:=ay n
theorem ab{a:α}{l:List α}:a∈a::l:=di ..
theorem ac(i:Nat){a:α}{l:List α}(h:l[i]? =some a:=by rfl):a∈l:=List.mem_of_getElem? h
theorem ae[Decidable p](h:p:=by omega):decide p=true:=decide_eq_true h
theorem ag[Decidable p](h:¬p:=by omega):decide p=false:=decide_eq_false h
theorem aS{A B:Prop}(h:A)(e:A=B:=by(simp only[lp,Nat.zero_add,Nat.reduceAdd,List.set_cons_zero,List.set_cons_succ];rfl)):B:=e▸h
theorem aT{A B:Prop}(h:A)(e:A=B:=by(simp only[List.set_cons_zero,List.set_cons_succ];rfl)):B:=e▸h
theorem ce{w:World}{t:TypeId}{cs:Array Value}(h:Hid (jR w g t cs))(i:Nat){v:Option Value}(e:cs[i]? =v:=by(simp only[List.getElem?_toArray,List.getElem?_cons_zero,List.getElem?_cons_succ];rfl)):w.cell? ⟨g,i,none⟩=v:=(h.out.cell i).trans e
instance:Coe jC Nat:=⟨fun w=>w.heap.size⟩
structure Vi(x:Int) where
def jJ(x:Int):Vi x:=⟨⟩
instance(x:Int):CoeOut (Vi x) jD:=⟨fun _=>.int .i64 x⟩
structure Vu(x:Int) where
def jK(x:Int):Vu x:=⟨⟩
instance(x:Int):CoeOut (Vu x) jD:=⟨fun _=>.int .u64 x⟩
structure Vs(x:ByteArray) where
def jL(x:ByteArray):Vs x:=⟨⟩
instance(x:ByteArray):CoeOut (Vs x) jD:=⟨fun _=>.string x⟩
structure Vn where
def jM:Vn:=⟨⟩
instance:CoeOut Vn jD:=⟨fun _=>.slice none 0 0⟩
structure Vl{α:Type}(A:Option jG)(l:List α)(c:Nat) where
def jN(A:Option jG)(l:List α)(c:Nat):Vl A l c:=⟨⟩
instance{α:Type}(A:Option jG)(l:List α)(c:Nat):CoeOut (Vl A l c) jD:=⟨fun _=>.slice A l.length c⟩
structure Vp(g:Nat) where
def jO(g:Nat):Vp g:=⟨⟩
instance(g:Nat):CoeOut (Vp g) jD:=⟨fun _=>.pointer (some ⟨g,0,none⟩)⟩
section
variable{P:bi3}{ops:Array bk0}{Q:bk7→Act→jC→Prop}{md:fD}{S:jC→Prop}{s:Nat}
def tkb:Op→Bool
 |.call c=>match c.callee with|.builtin .len|.builtin .cap=>true|_=>false
 |.alloc .. |.box .. |.store .. |.makeMap .. |.makeSlice .. |.makeChan .. |.buildSlice .. |.insert .. =>false
 |_=>true
def ZH(md:fD)(ops:Array bk0)(l:Array Bool)(i:Nat):Bool:=
 (match ops[i]? with|some o=>tkb o.op|none=>false)&&gS ops&&iV md ops l i&&(eE md ops l).contains i
variable{l:Array Bool}
theorem rY{i:Nat}(h:ZH md ops l i=true):gS ops=true∧iV md ops l i=true∧(eE md ops l).contains i=true:=by
 unfold ZH at h;simp only[ba]at h;exact⟨h.1.1.2,h.1.2,h.2⟩
variable{oi:bk0}{fuel:Nat}{a':Act}
theorem tk1(i:Nat)(hS:S w)(h:wpAnyH P md ops Q S fuel (l.setIfInBounds i true) a' w)
 (hg:ZH md ops l i=true:=by decide+kernel)
 (hi:ops[i]? =some oi:=by exact rfl)
 (hQ:∀c a w,Q (.panic c) (a.put oi.dst v) w→Q (.panic c) a w:=by first|exact fun _ _ _ h=>h|exact fun _ _ _ h=>by cases h.1)
 (hy:eQ oi (yielded ops a.tmps)=true∧∀w,S w→(execOp a.eval oi).run P w=.ok (.value v) w:=by(refine⟨by rfl,?_⟩;intro w hSw;(try dsimp only at hSw);(repeat obtain⟨_,hSw⟩:=hSw);go_simp<;>with_reducible rfl))
 (ea:a.put oi.dst v=a':=by((try simp only[gL,eK,ej,dQ,bd,ak,am]);rfl)):
 wpAnyH P md ops Q S (fuel+1) l a w:=by
 subst ea
 exact bk5 hi (rY hg).1 (rY hg).2.1 (rY hg).2.2 hQ (ge hy) hS h
theorem tk2(i:Nat)(hS:S w)(h:wpAnyH P md ops Q S fuel (l.setIfInBounds i true) a' w)
 (hg:(gS ops&&iV md ops l i&&(eE md ops l).contains i)=true:=by decide+kernel)
 (hi:ops[i]? =some oi:=by exact rfl)
 (hQ:∀c a w,Q (.panic c) (a.put oi.dst undef) w→Q (.panic c) a w:=by first|exact fun _ _ _ h=>h|exact fun _ _ _ h=>by cases h.1)
 (hy:eQ oi (yielded ops a.tmps)=false:=by rfl)
 (ea:a.put oi.dst undef=a':=by((try simp only[gL,eK,ej,dQ,bd,ak,am]);rfl)):
 wpAnyH P md ops Q S (fuel+1) l a w:=by
 subst ea
 simp only[ba]at hg
 exact bk5 hi hg.1.1 hg.1.2 hg.2 hQ (Or.inr ⟨hy,rfl⟩) hS h
variable{q:Prop}
theorem re(hS:S w)(h:q)(e:S w→q→wpAnyH P md ops Q S fuel l a w:=by
 (
  intro hs hq
  (try refine tk1 0 hs ?_);(try refine tk1 1 hs ?_);(try refine tk1 2 hs ?_);(try refine tk1 3 hs ?_);(try refine tk1 4 hs ?_);(try refine tk1 5 hs ?_);(try refine tk1 6 hs ?_);(try refine tk1 7 hs ?_);(try refine tk1 8 hs ?_);(try refine tk1 9 hs ?_)
  (try refine tk1 10 hs ?_);(try refine tk1 11 hs ?_);(try refine tk1 12 hs ?_);(try refine tk1 13 hs ?_);(try refine tk1 14 hs ?_);(try refine tk1 15 hs ?_);(try refine tk1 16 hs ?_);(try refine tk1 17 hs ?_);(try refine tk1 18 hs ?_);(try refine tk1 19 hs ?_)
  (try refine tk1 20 hs ?_);(try refine tk1 21 hs ?_);(try refine tk1 22 hs ?_);(try refine tk1 23 hs ?_);(try refine tk1 24 hs ?_);(try refine tk1 25 hs ?_);(try refine tk1 26 hs ?_);(try refine tk1 27 hs ?_);(try refine tk1 28 hs ?_);(try refine tk1 29 hs ?_);(try refine tk1 30 hs ?_);(try refine tk1 31 hs ?_);(try refine tk1 32 hs ?_);(try refine tk1 33 hs ?_)
  exact hq)):wpAnyH P md ops Q S fuel l a w:=e hS h
theorem tkn(hS:S w)(h:q)(e:S w→q→wpAnyH P md ops Q S fuel l a w:=by
 (
  intro hs hq
  (try refine tk2 0 hs ?_);(try refine tk2 1 hs ?_);(try refine tk2 2 hs ?_);(try refine tk2 3 hs ?_);(try refine tk2 4 hs ?_);(try refine tk2 5 hs ?_);(try refine tk2 6 hs ?_);(try refine tk2 7 hs ?_);(try refine tk2 8 hs ?_);(try refine tk2 9 hs ?_)
  (try refine tk2 10 hs ?_);(try refine tk2 11 hs ?_);(try refine tk2 12 hs ?_);(try refine tk2 13 hs ?_);(try refine tk2 14 hs ?_);(try refine tk2 15 hs ?_);(try refine tk2 16 hs ?_);(try refine tk2 17 hs ?_);(try refine tk2 18 hs ?_);(try refine tk2 19 hs ?_)
  exact hq)):wpAnyH P md ops Q S fuel l a w:=e hS h
theorem uh(i:Nat)(hS:S w)(h:mh P md ops Q S s fuel (l.setIfInBounds i true) a' w)
 (hg:(ZH md ops l i&&waits md ops s i&&i !=s&& !l.getD s true)=true:=by decide+kernel)
 (hi:ops[i]? =some oi:=by exact rfl)
 (hQ:∀c a w,Q (.panic c) (a.put oi.dst v) w→Q (.panic c) a w:=by first|exact fun _ _ _ h=>h|exact fun _ _ _ h=>by cases h.1)
 (hy:eQ oi (yielded ops a.tmps)=true∧∀w,S w→(execOp a.eval oi).run P w=.ok (.value v) w:=by(refine⟨by rfl,?_⟩;intro w hSw;(try dsimp only at hSw);(repeat obtain⟨_,hSw⟩:=hSw);go_simp<;>with_reducible rfl))
 (ea:a.put oi.dst v=a':=by((try simp only[gL,eK,ej,dQ,bd,ak,am]);rfl)):
 mh P md ops Q S s (fuel+1) l a w:=by
 subst ea
 simp only[ba,bne_iff_ne,jp]at hg
 obtain⟨⟨⟨g,hwt⟩,his⟩,hu⟩:=hg
 exact ye hi (rY g).1 (rY g).2.1 (rY g).2.2 hwt his hu hQ (ge hy) hS h
theorem om(i:Nat)(hS:l.getD s true=false→S w)(h:mh P md ops Q S s fuel (l.setIfInBounds i true) a' w)
 (hg:(ZH md ops l i&&i !=s)=true:=by decide+kernel)
 (hi:ops[i]? =some oi:=by exact rfl)
 (hQ:∀c a w,Q (.panic c) (a.put oi.dst v) w→Q (.panic c) a w:=by first|exact fun _ _ _ h=>h|exact fun _ _ _ h=>by cases h.1)
 (hy:eQ oi (yielded ops a.tmps)=true∧∀w,True→(execOp a.eval oi).run P w=.ok (.value v) w:=by(refine⟨by rfl,?_⟩;intro w hSw;go_simp<;>with_reducible rfl))
 (ea:a.put oi.dst v=a':=by((try simp only[gL,eK,ej,dQ,bd,ak,am]);rfl)):
 mh P md ops Q S s (fuel+1) l a w:=by
 subst ea
 simp only[ba,bne_iff_ne]at hg
 exact nc hi (rY hg.1).1 (rY hg.1).2.1 (rY hg.1).2.2 hg.2 hQ (ge hy) hS h
theorem sU(hS:S w)(h:q)(e:S w→q→mh P md ops Q S s fuel l a w:=by
 (
  intro hs hq
  (try first|refine uh 0 hs ?_|refine om 0 (fun _=>hs) ?_);(try first|refine uh 1 hs ?_|refine om 1 (fun _=>hs) ?_);(try first|refine uh 2 hs ?_|refine om 2 (fun _=>hs) ?_);(try first|refine uh 3 hs ?_|refine om 3 (fun _=>hs) ?_);(try first|refine uh 4 hs ?_|refine om 4 (fun _=>hs) ?_)
  (try first|refine uh 5 hs ?_|refine om 5 (fun _=>hs) ?_);(try first|refine uh 6 hs ?_|refine om 6 (fun _=>hs) ?_);(try first|refine uh 7 hs ?_|refine om 7 (fun _=>hs) ?_);(try first|refine uh 8 hs ?_|refine om 8 (fun _=>hs) ?_);(try first|refine uh 9 hs ?_|refine om 9 (fun _=>hs) ?_)
  (try first|refine uh 10 hs ?_|refine om 10 (fun _=>hs) ?_);(try first|refine uh 11 hs ?_|refine om 11 (fun _=>hs) ?_);(try first|refine uh 12 hs ?_|refine om 12 (fun _=>hs) ?_);(try first|refine uh 13 hs ?_|refine om 13 (fun _=>hs) ?_);(try first|refine uh 14 hs ?_|refine om 14 (fun _=>hs) ?_)
  (try first|refine uh 15 hs ?_|refine om 15 (fun _=>hs) ?_);(try first|refine uh 16 hs ?_|refine om 16 (fun _=>hs) ?_);(try first|refine uh 17 hs ?_|refine om 17 (fun _=>hs) ?_);(try first|refine uh 18 hs ?_|refine om 18 (fun _=>hs) ?_);(try first|refine uh 19 hs ?_|refine om 19 (fun _=>hs) ?_)
  (try first|refine uh 20 hs ?_|refine om 20 (fun _=>hs) ?_);(try first|refine uh 21 hs ?_|refine om 21 (fun _=>hs) ?_);(try first|refine uh 22 hs ?_|refine om 22 (fun _=>hs) ?_);(try first|refine uh 23 hs ?_|refine om 23 (fun _=>hs) ?_);(try first|refine uh 24 hs ?_|refine om 24 (fun _=>hs) ?_);(try first|refine uh 25 hs ?_|refine om 25 (fun _=>hs) ?_);(try first|refine uh 26 hs ?_|refine om 26 (fun _=>hs) ?_);(try first|refine uh 27 hs ?_|refine om 27 (fun _=>hs) ?_);(try first|refine uh 28 hs ?_|refine om 28 (fun _=>hs) ?_);(try first|refine uh 29 hs ?_|refine om 29 (fun _=>hs) ?_);(try first|refine uh 30 hs ?_|refine om 30 (fun _=>hs) ?_);(try first|refine uh 31 hs ?_|refine om 31 (fun _=>hs) ?_);(try first|refine uh 32 hs ?_|refine om 32 (fun _=>hs) ?_);(try first|refine uh 33 hs ?_|refine om 33 (fun _=>hs) ?_)
  exact hq)):mh P md ops Q S s fuel l a w:=e hS h
theorem MZ(h:q)(e:q→p:=by
 (
  intro hq
  (try refine om 0 (fun h=>by cases h) ?_);(try refine om 1 (fun h=>by cases h) ?_);(try refine om 2 (fun h=>by cases h) ?_);(try refine om 3 (fun h=>by cases h) ?_);(try refine om 4 (fun h=>by cases h) ?_);(try refine om 5 (fun h=>by cases h) ?_);(try refine om 6 (fun h=>by cases h) ?_);(try refine om 7 (fun h=>by cases h) ?_);(try refine om 8 (fun h=>by cases h) ?_);(try refine om 9 (fun h=>by cases h) ?_)
  (try refine om 10 (fun h=>by cases h) ?_);(try refine om 11 (fun h=>by cases h) ?_);(try refine om 12 (fun h=>by cases h) ?_);(try refine om 13 (fun h=>by cases h) ?_);(try refine om 14 (fun h=>by cases h) ?_);(try refine om 15 (fun h=>by cases h) ?_);(try refine om 16 (fun h=>by cases h) ?_);(try refine om 17 (fun h=>by cases h) ?_);(try refine om 18 (fun h=>by cases h) ?_);(try refine om 19 (fun h=>by cases h) ?_)
  (try refine om 20 (fun h=>by cases h) ?_);(try refine om 21 (fun h=>by cases h) ?_);(try refine om 22 (fun h=>by cases h) ?_);(try refine om 23 (fun h=>by cases h) ?_);(try refine om 24 (fun h=>by cases h) ?_);(try refine om 25 (fun h=>by cases h) ?_);(try refine om 26 (fun h=>by cases h) ?_);(try refine om 27 (fun h=>by cases h) ?_);(try refine om 28 (fun h=>by cases h) ?_);(try refine om 29 (fun h=>by cases h) ?_);(try refine om 30 (fun h=>by cases h) ?_);(try refine om 31 (fun h=>by cases h) ?_);(try refine om 32 (fun h=>by cases h) ?_);(try refine om 33 (fun h=>by cases h) ?_)
  exact hq)):p:=e h
theorem fk{A B:Prop}(h:A)(e:A=B:=by(simp only[Facts,kz,Nat.zero_add,Nat.reduceAdd,and_true];rfl)):B:=e▸h
theorem az(h:q)(e:p=q:=by((try simp only[Act.put,List.getElem_toArray,List.getElem_cons_succ,List.getElem_cons_zero,List.setIfInBounds_toArray,List.set_cons_zero,List.set_cons_succ]);rfl)):p:=e▸h
theorem hdn{w:World}(h:Q .normal a w)(hr:Region.ready md ops l=[]:=by kernel_rfl):wpAnyH P md ops Q S fuel l a w:=wpAnyH_done hr h _
theorem yi{w:World}(h:Q .normal a w)(hr:Region.ready md ops l=[]:=by kernel_rfl):mh P md ops Q S s fuel l a w:=Fq hr h _
theorem oY(i:Nat)
 (h:∀K':Act→jC→Prop,Shut (∀a w,((l.setIfInBounds i true).getD s true=false→S w)→mh P md ops Q S s fuel (l.setIfInBounds i true) a w→K' a w)→if eQ o (yielded ops a.tmps)=true then je P o a w K' Q else K' (a.put o.dst undef) w)
 (hr:eE md ops l=[i]:=by kernel_rfl) (ho:ops[i]? =some o:=by exact rfl):mh P md ops Q S s (fuel+1) l a w:=I7 hr ho h
theorem pL(i:Nat)
 (h:∀K':Act→jC→Prop,Shut (∀a w,S w→(S w→wpAnyH P md ops Q S fuel (l.setIfInBounds i true) a w)→K' a w)→if eQ o (yielded ops a.tmps)=true then je P o a w K' Q else K' (a.put o.dst undef) w)
 (hr:eE md ops l=[i]:=by kernel_rfl) (ho:ops[i]? =some o:=by exact rfl):wpAnyH P md ops Q S (fuel+1) l a w:=wpAnyH_ready hr lV (.cons ho h .nil)
theorem rdy(rs:List Nat)(h:AllReadyH P md ops Q S fuel l a w rs)
 (hr:eE md ops l=rs:=by kernel_rfl) (hne:rs≠[]:=by simp):wpAnyH P md ops Q S (fuel+1) l a w:=wpAnyH_ready hr hne h
theorem rgb{id:Nat}{l:List bk0}(h:wpQuiet P l.toArray (fun w'=>∃x:After w,w'=x.at_) (fun a'=>∀w',(∃x:After w,w'=x.at_)→Q .normal a' w') l a)
 (hm:P.follows .mixedOrders=true:=by kernel_rfl) (hB:Region.lexB .any l.toArray=true:=by kernel_rfl):(jo id l.toArray true).wp P Q a w:=yU hm hB h
end
structure Cp(k:Nat) where
def rO(k:Nat):Cp k:=⟨⟩
structure sH{A0:Type}(k:Nat)(x0:A0) where
variable{A0:Type}
def lz(k:Nat)(x0:A0):sH k x0:=⟨⟩
structure wU{A0:Type}{A1:Type}(k:Nat)(x0:A0)(x1:A1) where
variable{A1:Type}
def lI(k:Nat)(x0:A0)(x1:A1):wU k x0 x1:=⟨⟩
structure IP{A0:Type}{A1:Type}{A2:Type}(k:Nat)(x0:A0)(x1:A1)(x2:A2) where
variable{A2:Type}
def oZ(k:Nat)(x0:A0)(x1:A1)(x2:A2):IP k x0 x1 x2:=⟨⟩
structure IN{A0:Type}{A1:Type}{A2:Type}{A3:Type}(k:Nat)(x0:A0)(x1:A1)(x2:A2)(x3:A3) where
variable{A3:Type}
def rU(k:Nat)(x0:A0)(x1:A1)(x2:A2)(x3:A3):IN k x0 x1 x2 x3:=⟨⟩
structure Yi{A0:Type}{A1:Type}{A2:Type}{A3:Type}{A4:Type}(k:Nat)(x0:A0)(x1:A1)(x2:A2)(x3:A3)(x4:A4) where
variable{A4:Type}
def Fg(k:Nat)(x0:A0)(x1:A1)(x2:A2)(x3:A3)(x4:A4):Yi k x0 x1 x2 x3 x4:=⟨⟩
structure ag9{A0:Type}{A1:Type}{A2:Type}{A3:Type}{A4:Type}{A5:Type}{A6:Type}(k:Nat)(x0:A0)(x1:A1)(x2:A2)(x3:A3)(x4:A4)(x5:A5)(x6:A6) where
variable{A5 A6:Type}
def gG7(k:Nat)(x0:A0)(x1:A1)(x2:A2)(x3:A3)(x4:A4)(x5:A5)(x6:A6):ag9 k x0 x1 x2 x3 x4 x5 x6:=⟨⟩
structure ag8{A0:Type}{A1:Type}{A2:Type}{A3:Type}{A4:Type}{A5:Type}{A6:Type}{A7:Type}{A8:Type}(k:Nat)(x0:A0)(x1:A1)(x2:A2)(x3:A3)(x4:A4)(x5:A5)(x6:A6)(x7:A7)(x8:A8) where
def XM{A7:Type}{A8:Type}(k:Nat)(x0:A0)(x1:A1)(x2:A2)(x3:A3)(x4:A4)(x5:A5)(x6:A6)(x7:A7)(x8:A8):ag8 k x0 x1 x2 x3 x4 x5 x6 x7 x8:=⟨⟩
structure Wn{A0:Type}{A1:Type}{A2:Type}{A3:Type}{A4:Type}{A5:Type}{A6:Type}{A7:Type}{A8:Type}{A9:Type}{A10:Type}{A11:Type}{Tk:Type}{Tj:Type}(k:Nat)(x0:A0)(x1:A1)(x2:A2)(x3:A3)(x4:A4)(x5:A5)(x6:A6)(x7:A7)(x8:A8)(x9:A9)(x10:A10)(x11:A11)(x12:Tk)(ZF:Tj) where
def ad8{A7:Type}{A8:Type}{A9:Type}{A10:Type}{A11:Type}{Tk:Type}{Tj:Type}(k:Nat)(x0:A0)(x1:A1)(x2:A2)(x3:A3)(x4:A4)(x5:A5)(x6:A6)(x7:A7)(x8:A8)(x9:A9)(x10:A10)(x11:A11)(x12:Tk)(ZF:Tj):Wn k x0 x1 x2 x3 x4 x5 x6 x7 x8 x9 x10 x11 x12 ZF:=⟨⟩
structure SaC(x0:Nat) where
def aC(x0:Nat):SaC x0:=⟨⟩
instance(x0:Nat):CoeOut (SaC x0) (Option jG):=⟨fun _=>(some ⟨x0,0,none⟩)⟩
structure SaE(x0:jC) where
def aE(x0:jC):SaE x0:=⟨⟩
instance(x0:jC):CoeOut (SaE x0) jG:=⟨fun _=>⟨x0.heap.size+1,0,none⟩⟩
structure SaF where
def aF:SaF:=⟨⟩
instance:CoeOut SaF jD:=⟨fun _=>.string ⟨#[]⟩⟩
structure SaH(x0:jC)(x1:Nat) where
def aH(x0:jC)(x1:Nat):SaH x0 x1:=⟨⟩
instance(x0:jC)(x1:Nat):CoeOut (SaH x0 x1) Prop:=⟨fun _=>∃o:Obj,x0.heap[x1]? =some o∧o.isCells=false⟩
instance(x0:jC)(x1:Nat):CoeSort (SaH x0 x1) Prop:=⟨fun _=>∃o:Obj,x0.heap[x1]? =some o∧o.isCells=false⟩
structure SaJ(x0:Nat) where
def aJ(x0:Nat):SaJ x0:=⟨⟩
instance(x0:Nat):CoeOut (SaJ x0) jD:=⟨fun _=>.int .i64 (x0:Int)⟩
structure SaM(x0:jC) where
def aM(x0:jC):SaM x0:=⟨⟩
instance(x0:jC):CoeOut (SaM x0) (Option jG):=⟨fun _=>(some ⟨x0,0,none⟩)⟩
structure SaN(x0:jC) where
def aN(x0:jC):SaN x0:=⟨⟩
instance(x0:jC):CoeOut (SaN x0) Nat:=⟨fun _=>(x0.heap.size+1+1)⟩
structure SaV(x0:jC) where
def aV(x0:jC):SaV x0:=⟨⟩
instance(x0:jC):CoeOut (SaV x0) jD:=⟨fun _=>.pointer (some ⟨x0.heap.size,0,none⟩)⟩
structure SaY where
def aY:SaY:=⟨⟩
instance:CoeOut SaY Obj:=⟨fun _=>.deferred (some [])⟩
structure SbB(x0:jC)(x1:jC) where
def bB(x0:jC)(x1:jC):SbB x0 x1:=⟨⟩
instance(x0:jC)(x1:jC):CoeOut (SbB x0 x1) Prop:=⟨fun _=>Hid (Below x0 x0 x1)⟩
instance(x0:jC)(x1:jC):CoeSort (SbB x0 x1) Prop:=⟨fun _=>Hid (Below x0 x0 x1)⟩
structure SbH(x0:Nat)(x1:Nat) where
def bH(x0:Nat)(x1:Nat):SbH x0 x1:=⟨⟩
instance(x0:Nat)(x1:Nat):CoeOut (SbH x0 x1) (Option jG):=⟨fun _=>(some ⟨x0,x1,none⟩)⟩
structure SbJ(x0:jC)(x1:jC) where
def bJ(x0:jC)(x1:jC):SbJ x0 x1:=⟨⟩
instance(x0:jC)(x1:jC):CoeOut (SbJ x0 x1) Prop:=⟨fun _=>Below x0.heap.size x0 x1⟩
instance(x0:jC)(x1:jC):CoeSort (SbJ x0 x1) Prop:=⟨fun _=>Below x0.heap.size x0 x1⟩
instance(x0:Act)(x1:Nat):CoeOut (wU 19 x0 x1) Act:=⟨fun _=>{x0 with defers:={target:=.collected x1,args:=#[]}::x0.defers}⟩
structure ScE(x0:Nat)(x1:Nat)(x2:Nat) where
def cE(x0:Nat)(x1:Nat)(x2:Nat):ScE x0 x1 x2:=⟨⟩
instance(x0:Nat)(x1:Nat)(x2:Nat):CoeOut (ScE x0 x1 x2) jG:=⟨fun _=>⟨x0,x1+x2*2+1,none⟩⟩
structure ScG(x0:Nat) where
def cG(x0:Nat):ScG x0:=⟨⟩
instance(x0:Nat):CoeOut (ScG x0) jD:=⟨fun _=>.func (.yield x0) #[] #[]⟩
structure ScP(x0:Nat)(x1:Nat)(x2:Nat) where
def cP(x0:Nat)(x1:Nat)(x2:Nat):ScP x0 x1 x2:=⟨⟩
instance(x0:Nat)(x1:Nat)(x2:Nat):CoeOut (ScP x0 x1 x2) jG:=⟨fun _=>⟨x0,x1+x2*2,none⟩⟩
instance(x0:Nat)(x1:Array jD):CoeOut (wU 38 x0 x1) jD:=⟨fun _=>.func (.func x0) #[] x1⟩
structure ScW where
def cW:ScW:=⟨⟩
instance:CoeOut ScW Obj:=⟨fun _=>(.cells #[.bool true] 4)⟩
instance(x0:ByteArray)(x1:ByteArray):CoeOut (wU 61 x0 x1) Obj:=⟨fun _=>(.cells #[jL x0,jL x1] 71)⟩
abbrev kI:=ByteArray×ByteArray
def k_(l:List kI):List jD:=l.flatMap fun x=>[jL x.1,jL x.2]
def k7(l:List kI)(k:Nat):kI:=(l[k]?).getD (ByteArray.empty,ByteArray.empty)
def Lb(w:jC)(B:Nat)(A:Option jG)(l:List kI):Prop:=Rd w B A (k_ l)
theorem sj(l:List kI):(k_ l).length=2*l.length:=by
 induction l with
 |nil=>rfl
 |cons x l ih=>simp only[k_,dg,cd,c_,dp]at ih⊢;omega
theorem AY:∀(l:List kI)(j:Nat),j<l.length→(k_ l)[j*2]? =some (.string (k7 l j).1)∧(k_ l)[j*2+1]? =some (.string (k7 l j).2)
 |[],_,h=>WY
 |x::l,0,_=>by simp[k_,k7]
 |x::l,j+1,h=>by
  have:=AY l j S6;have e1:(k_ (x::l))[(j+1)*2]? =(k_ l)[j*2]? :=by
   show([_,_]++k_ l)[(j+1)*2]? =_;rw[d7 mO];congr 1;simp;omega
  have e2:(k_ (x::l))[(j+1)*2+1]? =(k_ l)[j*2+1]? :=by
   show([_,_]++k_ l)[(j+1)*2+1]? =_;rw[d7 mO];congr 1;simp;omega
  have e3:k7 (x::l) (j+1)=k7 l j:=by simp[k7]
  rw[e1,e2,e3];exact this
variable{l:List kI}{k:Nat}
theorem BQ(h:k<l.length):l.take (k+1)=l.take k++[k7 l k]:=by
 rw[aj h];simp[k7,h]
section
variable{w w':jC}{B B':Nat}{A:Option jG}{l:List kI}
theorem Lb.at_(h:Lb w B A l)(hl:0<l.length):∃b off,A=some ⟨b,off,none⟩∧b<B∧∀j,j<l.length→w.cell? (cP b off j)=some (.string (k7 l j).1)∧w.cell? (cE b off j)=some (.string (k7 l j).2):=by
 obtain⟨b,off,e,hb,hc⟩:=Rd.at_ h (by rw[sj];omega);refine⟨b,off,e,hb,fun j hj=>?_⟩;obtain⟨h1,h2⟩:=AY l j hj;exact⟨hc _ _ h1,by rw[gW];exact hc _ _ h2⟩
theorem Lb.later(h:Lb w w A l)(hb:Below w w w'):Lb w' w' A l:=(Rd.below h hb).more hb.size
end
def nP(l:List UInt8):Nat×Nat:=iW l.length (l.getD 0 0).toNat (l.getD 1 0).toNat (l.getD 2 0).toNat (l.getD 3 0).toNat
def tx(s:ByteArray):List UInt8:=s.data.toList
theorem wE(s:ByteArray)(i k:Nat):s.get! (i+k)=((tx s).drop i).getD k 0:=by
 rw[List.getD_eq_getElem?_getD,fL,tx,Array.getElem?_toList];show s.data.getD (i+k) default=_;rw[Array.getD_eq_getD_getElem?];rfl
theorem tX(s:ByteArray)(i:Nat):Utf8.decode s i=nP ((tx s).drop i):=by
 rw[Lib.decode_at,nP];have h0:=wE s i 0;rw[ip]at h0;rw[h0,wE,wE,wE,dr,tx,iA];rfl
theorem UL(n b0 b1 b2 b3:Nat)(h0:b0<256):(iW n b0 b1 b2 b3).1≤1114111∧1≤(iW n b0 b1 b2 b3).2∧(iW n b0 b1 b2 b3).2≤4∧(1≤n→(iW n b0 b1 b2 b3).2≤n):=by
 unfold iW;repeat' split
 all_goals(simp only;omega)
theorem oQ(l:List UInt8):(nP l).1≤1114111∧1≤(nP l).2∧(nP l).2≤4∧(l≠[]→(nP l).2≤l.length):=by
 have h:=UL l.length (l.getD 0 0).toNat (l.getD 1 0).toNat (l.getD 2 0).toNat (l.getD 3 0).toNat (UInt8.toNat_lt _);refine⟨h.1,h.2.1,h.2.2.1,fun hn=>h.2.2.2 ?_⟩;rcases l with _|⟨x,l⟩
 ·exact absurd rfl hn
 simp
def R7:Nat→List UInt8→List (Nat×Nat)
 |0,_=>[]
 |n+1,l=>if l=[]then[]else nP l::R7 n (l.drop (nP l).2)
def cp(l:List UInt8):List (Nat×Nat):=R7 l.length l
theorem zA(n:Nat):R7 n []=[]:=by cases n<;>simp[R7]
theorem Id:∀(n m:Nat)(l:List UInt8),l.length≤n→l.length≤m→R7 n l=R7 m l
 |0,m,l,h,_=>by
  have:l=[]:=da (by omega);subst this;rw[zA,zA]
 |n+1,0,l,_,h=>by
  have:l=[]:=da (by omega);subst this;rw[zA,zA]
 |n+1,m+1,l,h,k=>by
  unfold R7;split
  ·rfl
  have hb:=oQ l;rw[Id n m (l.drop (nP l).2) (by rw[dr];omega) (by rw[dr];omega)]
theorem XW:cp []=[]:=rfl
theorem Mx{l:List UInt8}(h:l≠[]):cp l=nP l::cp (l.drop (nP l).2):=by
 have hb:=oQ l;have hl:=List.length_pos_iff.2 h;unfold cp;obtain⟨n,hn⟩:∃n,l.length=n+1:=⟨l.length-1,jS⟩;conv=>lhs;rw[hn];unfold R7
 rw[if_neg h,Id n _ _ (by rw[dr];omega) aa]
def okR(x:Nat×Nat):Bool:= !(x.1==65533&&x.2==1)
def oJ(l:List UInt8):Bool:=(cp l).all okR
theorem Dr(l:List UInt8):(cp l).length≤l.length:=by
 have:∀n l,(R7 n l).length≤n:=by
  intro n;induction n with
  |zero=>intro l;simp[R7]
  |succ n ih=>
   intro l;unfold R7;split
   ·simp
   rw[c_];have:=ih (l.drop (nP l).2);omega
 exact this _ _
theorem lG(s:ByteArray):(tx s).length=s.size:=iA
theorem km(s:ByteArray):s.toList=tx s:=Lib.toList_data s
theorem rX{a b:ByteArray}(h:tx a=tx b):a=b:=by
 obtain⟨⟨a⟩⟩:=a;obtain⟨⟨b⟩⟩:=b;have h:a=b:=h;rw[h]
def mc(l:List UInt8):Int×Bool:=if oJ l=true then(((cp l).length:Nat),true)else(0,false)
def lD(x:Nat×Nat):Bool:=decide (97≤x.1)&&decide (x.1≤122)
def lm(x:Nat×Nat):Bool:=decide (32≤x.1)&&x.1 !=127
def nameB(l:List UInt8):Bool:= !(l==[])&&decide (l.length≤12)&&(cp l).all lD
def mP(l:List UInt8):Bool:=oJ l&&decide ((cp l).length≤24)&&(cp l).all lm
def Tb(w:jC):Prop:=Lib.Utf8Tabs 2 3 w
theorem Tb.later(h:Tb w)(hb:Below w w w'):Tb w':=Utf8Tabs_below h hb
theorem decode_any(s:ByteArray)(w:jC)(hs:0<s.size)(hT:Tb w):
 jE Tryz.prog 192 #[jL s] w fun e w'=>e=.returned (.tuple #[.int .i32 (nP (tx s)).1,jJ (nP (tx s)).2])∧Below w w w':=by
 have h:=Tryz.utf8_DecodeRuneInString s w hT
 rw[Lib.decodeGo,if_neg jS,tX]at h
 exact h
def It(w:jC)(k:Nat)(s:ByteArray)(pos:Nat)(wr:jC):Prop:=wr.heap[k]? =some (.stringIter s pos)∧Below w w wr
theorem It.mk0(w:jC)(s:ByteArray):It w w s 0 (w.iter s 0):=⟨World.iter_heap w s 0,jP (jQ w) _⟩
variable{wr:jC}{s:ByteArray}
theorem It.move{pos:Nat}(h:It w k s pos wr)(hk:w.heap.size≤k)(q:Nat):It w k s q (wr.iterAt k s q):=⟨iC wr k s pos q h.1,iq h.2 hk s q⟩
theorem It.later{pos:Nat}(h:It w k s pos wr)(hb:Below wr wr w'):It w k s pos w':=⟨(hb.block k (aw.1 h.1).1).trans h.1,Below.two h.2 hb⟩
theorem It.pos{pos:Nat}(h:It w k s pos wr):wr.iterPos k=pos:=by simp[eR,h.1]
structure pK(s:ByteArray)(pos:Nat)(pre:List (Nat×Nat)):Prop where
 le:pos≤s.size
 is:cp (tx s)=pre++cp ((tx s).drop pos)
theorem pK.zero(s:ByteArray):pK s 0 []:=⟨be _,rfl⟩
theorem Ms{pos:Nat}(h:pos<s.size):(tx s).drop pos≠[]:=by
 intro e;have:=congrArg ez e;rw[dr,lG]at this;simp at this;omega
variable{pre:List (Nat×Nat)}
theorem pK.next{pos:Nat}(h:pK s pos pre)(hp:pos<s.size):pK s (pos+(nP ((tx s).drop pos)).2) (pre++[nP ((tx s).drop pos)]):=by
 have hb:=(oQ ((tx s).drop pos)).2.2.2 (Ms hp);rw[dr,lG]at hb;refine⟨jS,?_⟩;rw[h.is,Mx (Ms hp),gp,eH];rfl
theorem pK.done{pos:Nat}(h:pK s pos pre)(hp:¬pos<s.size):cp (tx s)=pre:=by
 have:(tx s).drop pos=[]:=ei (by rw[lG];have:=h.le;omega);rw[h.is,this,XW,eB]
theorem pK.len{pos:Nat}(h:pK s pos pre):pre.length≤s.size:=by
 have:=Dr (tx s);rw[h.is,cd,lG]at this;omega
theorem Jy{pos:Nat}(h:pK s pos pre)(hp:pos<s.size)(hb:okR (nP ((tx s).drop pos))=false):mc (tx s)=(0,false):=by
 rw[mc,if_neg];unfold oJ;rw[(h.next hp).is];simp[hb]
theorem Ni{pos:Nat}(h:pK s pos pre)(hp:¬pos<s.size)(hb:pre.all okR=true):mc (tx s)=((pre.length:Int),true):=by
 rw[mc,oJ,h.done hp,if_pos hb]
theorem LO{a b:Int}{p q:Bool}(h:(a,p)=(b,q)):ff (.tuple #[jJ a,.bool p])=.returned (.tuple #[jJ b,.bool q]):=by
 rw[Prod.mk.injEq]at h;rw[h.1,h.2]
theorem xq(s:ByteArray)(w:jC)(hs:s.size≤4294967296)(hT:Tb w):
 jE Tryz.prog 173 #[jL s] w fun e w'=>e=.returned (.tuple #[jJ (mc (tx s)).1,.bool (mc (tx s)).2])∧Below w w w':=by
 have HT:=ah hT
 go_in
 go_wp2_with fail
 go_loopw[4] (fun n wr=>∃(pos:Nat)(pre:List (Nat×Nat)),n=.int .i64 pre.length∧Hid (pK s pos pre)∧Hid (pre.all okR=true)∧Hid (It w w s pos wr)) (fun _ wr=>s.size-wr.iterPos w)
 case atStart=>exact⟨0,[],rfl,pK.zero s,rfl,It.mk0 w s⟩
 obtain⟨pos,pre,rfl,HW,HO,HI⟩:=hrel
 have hlen:=HW.len
 have Z9:=HI.pos
 have HP:=ah Z9
 by_cases hp:pos<s.size
 ·have hnx:∀ty,(fw (.pointer (some ⟨w,0,none⟩)) true ty).run Tryz.prog wr=_:=fun ty=>fp wr w s pos ty HI.1 hp;rw[tX]at hnx;have HI2:=ah (HI.move aa (pos+(nP ((tx s).drop pos)).2));have HW2:=ah (HW.next hp);obtain⟨d1,d2,d3,_⟩:=oQ ((tx s).drop pos);have hB:Hid (okR (nP ((tx s).drop pos))=false→mc (tx s)=(0,false)):=fun h=>Jy HW hp h;have HX:Hid (tx (s.extract pos s.size)=(tx s).drop pos):=by
   show(s.extract pos s.size).data.toList=s.data.toList.drop pos;rw[Lib.extract_data,cl];rw[dr];exact Nat.le_of_eq (congrArg (·-pos) (lG s))
  have hxs:0<(s.extract pos s.size).size:=by rw[←lG,HX,dr,lG];omega
  have QD:Hid (∀w1,Tb w1→jE Tryz.prog 192 #[jL (s.extract pos s.size)] w1 fun e w'=>e=.returned (.tuple #[.int .i32 (nP ((tx s).drop pos)).1,jJ (nP ((tx s).drop pos)).2])∧Below w1 w1 w'):=fun w1 h=>by
   have:=decode_any (s.extract pos s.size) w1 hxs h;rw[HX]at this;exact this
  generalize nP ((tx s).drop pos)=d at*
  have HT2:=ah (HT.later HI2.2);have hp2:(0:Int)≤pos:=jS;have hp3:(pos:Int)≤(s.size:Int):=jS;generalize hwi:wr.iterAt w s (pos+d.2)=wi at*
  by_cases c1:d.1=65533
  ·have e1:((d.1:Int)==65533)=true:=mO;by_cases c2:d.2=1
   ·have e2:((d.2:Int)==1)=true:=mO;have HR:=ah (hB.out (by simp[okR,c1,c2]));go_wp2_with fail;refine(QD _ HT2).mono ?_;rintro e w1⟨rfl,hb1⟩;go_wp2;go_ret2;exact⟨LO (by rw[HR]),Below.two HI2.2 hb1⟩
   have e2:((d.2:Int)==1)=false:=mO;have xd:Hid ((pre++[d]).all okR=true):=by show _=_;rw[gT,HO];simp[okR,c2]
   go_wp2_with fail;refine(QD _ HT2).mono ?_;rintro e w1⟨rfl,hb1⟩;have HI3:=ah (HI2.later hb1);go_wp2;go_roundw
   case rel=>exact⟨pos+d.2,pre++[d],by rw[cd];go_num,HW2,xd,HI3⟩
   rw[HI3.pos,HP];omega
  have e1:((d.1:Int)==65533)=false:=mO;have xd:Hid ((pre++[d]).all okR=true):=by show _=_;rw[gT,HO];simp[okR,c1]
  go_wp2;go_roundw
  case rel=>exact⟨pos+d.2,pre++[d],by rw[cd];go_num,HW2,xd,HI2⟩
  rw[HI2.pos,HP];omega
 have hnx:∀ty,(fw (.pointer (aM w)) true ty).run Tryz.prog wr=_:=fun ty=>fq wr w s pos ty HI.1 hp
 have HR:=ah (Ni HW hp HO)
 go_wp2
 go_ret2
 exact⟨LO (by rw[HR]),HI.2⟩
theorem oM(x:Nat×Nat)(w:jC)(hx:x.1≤1114111):
 jE Tryz.prog 220 #[.int .i32 x.1] w fun e w'=>e=.returned (.bool (lD x))∧w=w':=by
 by_cases h1:(97:Int)≤(x.1:Int)
 ·have d1:decide ((97:Int)≤(x.1:Int))=true:=by simp[h1]
  go_in;go_wp2;go_ret;exact⟨jU (by rw[gU];simp[lD];omega),rfl⟩
 have d1:decide ((97:Int)≤(x.1:Int))=false:=mO
 go_in
 go_wp2
 go_ret
 exact⟨jU (by rw[gU];simp[lD];omega),rfl⟩
theorem oz(x:Nat×Nat)(w:jC)(hx:x.1≤1114111):
 jE Tryz.prog 221 #[.int .i32 x.1] w fun e w'=>e=.returned (.bool (lm x))∧w=w':=by
 by_cases h1:(32:Int)≤(x.1:Int)
 ·have d1:decide ((32:Int)≤(x.1:Int))=true:=by simp[h1]
  go_in;go_wp2;go_ret;exact⟨jU (by rw[gU];simp[lm];omega),rfl⟩
 have d1:decide ((32:Int)≤(x.1:Int))=false:=mO
 go_in
 go_wp2
 go_ret
 exact⟨jU (by rw[gU];simp[lm];omega),rfl⟩
theorem MI{pos:Nat}{p:Nat×Nat→Bool}(h:pK s pos pre)(hp:pos<s.size)(hb:p (nP ((tx s).drop pos))=false):(cp (tx s)).all p=false:=by
 rw[(h.next hp).is];simp[hb]
theorem Eu(s:ByteArray)(w:jC)(h:(tx s==[]|| !decide ((tx s).length≤12))=true):
 jE Tryz.prog 180 #[jL s] w fun e w'=>e=.returned (.bool (nameB (tx s)))∧Below w w w':=by
 by_cases h1:tx s=[]
 ·have e1:(s.toList==[])=true:=by rw[km,h1];rfl
  have e2:s.toList=[]:=by rw[km,h1]
  go_in;go_wp2;go_ret;exact⟨jU (by simp[nameB,h1]),jQ _⟩
 have e1:s.toList.isEmpty=false:=by rw[km];cases e:tx s with
  |nil=>exact absurd e h1
  |cons x l=>rfl
 have e1':¬s.toList=[]:=by rw[km];exact h1
 have ae4:(s.toList==[])=false:=by simpa using e1'
 have e2:12<s.size:=by rw[←lG];simp[h1]at h;exact h
 have e3:decide ((12:Int)<s.size)=true:=mO
 have e4:decide (12<s.size)=true:=mO
 go_in
 go_wp2
 go_ret
 refine⟨jU ?_,jQ _⟩
 have:decide ((tx s).length≤12)=false:=by rw[lG];simp;omega
 simp[nameB,this]
theorem Ko(s:ByteArray)(w:jC):
 jE Tryz.prog 180 #[jL s] w fun e w'=>e=.returned (.bool (nameB (tx s)))∧Below w w w':=by
 cases hsh:(tx s==[]|| !decide ((tx s).length≤12))with
 |true=>exact Eu s w hsh
 |false=>
  have h1:tx s≠[]:=by intro e;rw[e]at hsh;simp at hsh
  have e1:s.toList.isEmpty=false:=by rw[km];cases e:tx s with
   |nil=>exact absurd e h1
   |cons x l=>rfl
  have e1':¬s.toList=[]:=by rw[km];exact h1
  have ae4:(s.toList==[])=false:=by simpa using e1'
  have e2:s.size≤12:=by rw[←lG];simp at hsh;exact hsh.2
  have e3:decide ((12:Int)<s.size)=false:=mO;have e4:decide (12<s.size)=false:=mO;have HN:Hid (nameB (tx s)=(cp (tx s)).all lD):=by
   show _=_;have:decide ((tx s).length≤12)=true:=by rw[lG];simp;omega
   rw[nameB,this];simp[h1]
  have uL:=ah e1';go_in;go_wp2_with fail;go_loopw[] (fun wr=>∃(pos:Nat)(pre:List (Nat×Nat)),Hid (pK s pos pre)∧Hid (pre.all lD=true)∧Hid (It w w s pos wr)) (fun wr=>s.size-wr.iterPos w)
  case atStart=>exact⟨0,[],pK.zero s,rfl,It.mk0 w s⟩
  obtain⟨pos,pre,HW,HO,HI⟩:=hrel;have HP:=ah HI.pos;by_cases hp:pos<s.size
  ·have hnx:∀ty,(fw (.pointer (some ⟨w,0,none⟩)) true ty).run Tryz.prog wr=_:=fun ty=>fp wr w s pos ty HI.1 hp;rw[tX]at hnx;have HI2:=ah (HI.move aa (pos+(nP ((tx s).drop pos)).2));have HW2:=ah (HW.next hp);obtain⟨d1,d2,d3,_⟩:=oQ ((tx s).drop pos);have hB:Hid (lD (nP ((tx s).drop pos))=false→(cp (tx s)).all lD=false):=fun h=>MI HW hp h;generalize nP ((tx s).drop pos)=d at*
   generalize hwi:wr.iterAt w s (pos+d.2)=wi at*
   have QN:Hid (∀w1,jE Tryz.prog 220 #[.int .i32 d.1] w1 fun e w'=>e=.returned (.bool (lD d))∧w1=w'):=fun w1=>oM d w1 d1
   cases hn:lD d with
   |true=>
    rw[hn]at QN;have xd:Hid ((pre++[d]).all lD=true):=by show _=_;rw[gT,HO];simp[hn]
    go_wp2_with fail;refine(QN _).mono ?_;rintro e w1⟨rfl,rfl⟩;go_wp2;go_roundw
    case rel=>exact⟨pos+d.2,pre++[d],HW2,xd,HI2⟩
    rw[HI2.pos,HP];omega
   |false=>
    rw[hn]at QN;have HR:=ah (hB.out hn);go_wp2_with fail;refine(QN _).mono ?_;rintro e w1⟨rfl,rfl⟩;go_wp2;go_ret;exact⟨jU (by rw[HN,HR]),HI2.2⟩
  have hnx:∀ty,(fw (.pointer (aM w)) true ty).run Tryz.prog wr=_:=fun ty=>fq wr w s pos ty HI.1 hp;have HR:Hid ((cp (tx s)).all lD=true):=by show _=_;rw[HW.done hp,HO]
  go_wp2;go_ret;exact⟨jU (by rw[HN,HR]),HI.2⟩
theorem GU(s:ByteArray)(w:jC)(hs:s.size≤4294967296)(hT:Tb w):
 jE Tryz.prog 181 #[jL s] w fun e w'=>e=.returned (.bool (mP (tx s)))∧Below w w w':=by
 have QR:Hid (∀w1,Tb w1→jE Tryz.prog 173 #[jL s] w1 fun e w'=>e=.returned (.tuple #[jJ (mc (tx s)).1,.bool (mc (tx s)).2])∧Below w1 w1 w'):=fun w1 h=>xq s w1 hs h
 have HT:=ah hT
 cases hv:oJ (tx s)with
 |false=>
  have HN:Hid (mP (tx s)=false):=by show _=_;rw[mP,hv];rfl
  have hr:mc (tx s)=(0,false):=by rw[mc,if_neg (by rw[hv];simp)]
  rw[hr]at QR;go_in;go_wp2_with fail;refine(QR _ HT).mono ?_;rintro e w1⟨rfl,hb1⟩;go_wp2;go_ret;exact⟨jU (by rw[HN]),hb1⟩
 |true=>
  have hr:mc (tx s)=(((cp (tx s)).length:Int),true):=by rw[mc,if_pos hv]
  rw[hr]at QR;have hcl:=Dr (tx s);rw[lG]at hcl;by_cases h24:(cp (tx s)).length≤24
  ·have HN:Hid (mP (tx s)=(cp (tx s)).all lm):=by show _=_;rw[mP,hv];simp[h24]
   have d24:decide ((24:Int)<((cp (tx s)).length:Int))=false:=mO;have ax5:decide (24<(cp (tx s)).length)=false:=mO;generalize(cp (tx s)).length=n at*
   go_in;go_wp2_with fail;refine(QR _ HT).mono ?_;rintro e w1⟨rfl,hb1⟩;have HB1:=ah hb1;go_wp2_with fail;go_loopw[] (fun wr=>∃(pos:Nat)(pre:List (Nat×Nat)),Hid (pK s pos pre)∧Hid (pre.all lm=true)∧Hid (It w1 w1 s pos wr)) (fun wr=>s.size-wr.iterPos w1)
   case atStart=>exact⟨0,[],pK.zero s,rfl,It.mk0 w1 s⟩
   obtain⟨pos,pre,HW,HO,HI⟩:=hrel;have HP:=ah HI.pos;by_cases hp:pos<s.size
   ·have hnx:∀ty,(fw (.pointer (some ⟨w1,0,none⟩)) true ty).run Tryz.prog wr=_:=fun ty=>fp wr w1 s pos ty HI.1 hp;rw[tX]at hnx;have HI2:=ah (HI.move aa (pos+(nP ((tx s).drop pos)).2));have HW2:=ah (HW.next hp);obtain⟨d1,d2,d3,_⟩:=oQ ((tx s).drop pos);have hB:Hid (lm (nP ((tx s).drop pos))=false→(cp (tx s)).all lm=false):=fun h=>MI HW hp h;generalize nP ((tx s).drop pos)=d at*
    generalize hwi:wr.iterAt w1 s (pos+d.2)=wi at*
    have QN:Hid (∀w1,jE Tryz.prog 221 #[.int .i32 d.1] w1 fun e w'=>e=.returned (.bool (lm d))∧w1=w'):=fun w1=>oz d w1 d1
    cases hn:lm d with
    |true=>
     rw[hn]at QN;have xd:Hid ((pre++[d]).all lm=true):=by show _=_;rw[gT,HO];simp[hn]
     go_wp2_with fail;refine(QN _).mono ?_;rintro e w2⟨rfl,rfl⟩;go_wp2;go_roundw
     case rel=>exact⟨pos+d.2,pre++[d],HW2,xd,HI2⟩
     rw[HI2.pos,HP];omega
    |false=>
     rw[hn]at QN;have HR:=ah (hB.out hn);go_wp2_with fail;refine(QN _).mono ?_;rintro e w2⟨rfl,rfl⟩;go_wp2;go_ret;exact⟨jU (by rw[HN,HR]),Below.two HB1 HI2.2⟩
   have hnx:∀ty,(fw (.pointer (aM w1)) true ty).run Tryz.prog wr=_:=fun ty=>fq wr w1 s pos ty HI.1 hp;have HR:Hid ((cp (tx s)).all lm=true):=by show _=_;rw[HW.done hp,HO]
   go_wp2;go_ret;exact⟨jU (by rw[HN,HR]),Below.two HB1 HI.2⟩
  have HN:Hid (mP (tx s)=false):=by show _=_;rw[mP,hv];simp[h24]
  have d24:decide ((24:Int)<((cp (tx s)).length:Int))=true:=mO;have ax5:decide (24<(cp (tx s)).length)=true:=mO;generalize(cp (tx s)).length=n at*
  go_in;go_wp2_with fail;refine(QR _ HT).mono ?_;rintro e w1⟨rfl,hb1⟩;go_wp2;go_ret;exact⟨jU (by rw[HN]),hb1⟩
section
open Go.RowKit Go.Shelf
attribute [local go_sem] db
theorem jR.p0{a b:jD}(h:jR w g t #[a,b]):w.cell? ⟨g,0,none⟩=some a:=h.cell 0
theorem jR.p1{a b:jD}(h:jR w g t #[a,b]):w.cell? ⟨g,1,none⟩=some b:=h.cell 1
theorem tZ(w:jC)(o:Obj)(t:jH)(cs:Array jD):jR ((w.alloc o).alloc (.cells cs t)) (w.heap.size+1) t cs:=by
 have h:=jR.new (w.alloc o) t cs;have e:(w.alloc o).heap.size=w.heap.size+1:=lV;rwa[e]at h
theorem Bl(w:jC)(o o':Obj)(t:jH)(cs:Array jD):jR (((w.alloc o).alloc o').alloc (.cells cs t)) (aN w) t cs:=by
 have h:=tZ (w.alloc o) o' t cs;have e:(w.alloc o).heap.size=w.heap.size+1:=lV;rwa[e]at h
def qK(n₀:Nat)(p:Nat→Prop)(A B:jC):Prop:=A.heap.size≤B.heap.size∧∀i,i<n₀→p i→B.heap[i]? =A.heap[i]?
theorem sr(n₀:Nat)(p:Nat→Prop)(A:jC):qK n₀ p A A:=⟨ay _,fun _ _ _=>rfl⟩
variable{p:Nat→Prop}
theorem lJ{A C:jC}(h:qK n₀ p A B)(k:qK n₀ p B C):qK n₀ p A C:=⟨a_ h.1 k.1,fun i h1 h2=>(k.2 i h1 h2).trans (h.2 i h1 h2)⟩
theorem zm(hn:n₀≤w.heap.size)(W:jC)(l:Nat)(o o':Obj)(hl:w.heap.size≤l)(h:W.heap[l]? =some o)(_:o.isCells=false)(_:o.isWalk=false):qK n₀ p W (W.putObj l o'):=by
 have h1:=bj6 hn W l o o' hl h ‹_› ‹_›;exact⟨h1.size,fun i hi _=>h1.block i hi⟩
theorem kW{A:jC}(hn:n₀≤A.heap.size)(h:Below A A B):qK n₀ p A B:=⟨h.size,fun i hi _=>h.block i jS⟩
theorem jR.onP{cs:Array jD}{A:jC}(h:jR A b t cs)(hk:qK n₀ p A B)(hb:b<n₀)(hg:p b):jR B b t cs:=(hk.2 b hb hg).trans h
theorem vi(A:Option jG)(n cap:Nat)(w:jC):
 jE Tryz.prog 186 #[.slice A n cap] w fun e w'=>e=.returned (.func (.func 222) #[] #[jO w])∧w.alloc (.cells #[.slice A n cap] 72)=w':=by
 go_in
 go_wp2
 go_ret
 exact⟨rfl,rfl⟩
theorem tT(A:Option jG)(n cap:Nat)(w:jC):
 jE Tryz.prog 145 #[.slice A n cap] w fun e w'=>e=.returned (.func (.func 222) #[] #[jO w])∧w.alloc (.cells #[.slice A n cap] 72)=w':=by
 go_in
 go_wp2_with fail
 refine(vi A n cap _).mono ?_
 rintro e w'⟨rfl,rfl⟩
 go_wp2
 go_ret
 exact⟨rfl,rfl⟩
abbrev Xm(x:kI):Array jD:=#[.agg #[jL x.1,jL x.2]]
theorem values1_in(n:Nat)(hn:1≤n)(ll Bs n₀ cap b off:Nat)(p:Nat→Prop)(l:List kI)(zs:List (At l.length))(hzs:zs.map (·.1)=bu l.length)(hreach:l.length≤4294967296)(hBs:Bs<n₀)(hg:p Bs)(hb:b<n₀)(hbg:p b)(J Jx:List (At l.length)→jC→Prop)(W:jC)(hn0:n₀≤W.heap.size){nJ:Nat}(hJ:AbidesFrom nJ J)
 (hY:∀pre x W,J pre W→pre.length<l.length→bl4 cz (n-1) Tryz.prog ll (Xm (k7 l x.1)) W fun e W'=>
  (e=.returned (.bool true)∧J (pre++[x]) W'∧qK n₀ p W W')∨(e=.returned (.bool false)∧Jx (pre++[x]) W'))
 (hB:jR W Bs 72 #[.slice (bH b off) l.length cap]) (hc:∀j,j<l.length→W.cell? (cP b off j)=some (.string (k7 l j).1)∧W.cell? (cE b off j)=some (.string (k7 l j).2)) (h0:J [] W):
 bj2 cz n Tryz.prog 222 #[cG ll,jO Bs] W fun e W'=>(∃v,e=.returned v)∧
  ((∃ys,ys=zs∧J ys W')∨(∃pre,pre <+: zs∧Jx pre W')):=by
 have hlen:zs.length=l.length:=by rw[←ax (f:=(·.1)),hzs,fo]
 have HL:=ah hlen
 have HZ:=ah hzs
 have HC:=ah hc
 have HB:=ah hB
 have hcb:=hB.one
 refine bj1 Tryz.func222 rfl trivial ?_ rfl
 simp only[Tryz.ntmps222,xb,ao,dk]
 gi_wp2
 gi_loopw[7] (fun i wr=>∃k:Nat,k≤l.length∧i=.int .i64 k∧J (zs.take k) wr∧qK n₀ p W wr)
  (fun i _=>l.length-(av i).toNat)
 case atStart=>exact⟨0,be _,rfl,h0,sr _ _ _⟩
 obtain⟨k,hk,rfl,hJs,hnx⟩:=hrel
 by_cases hlt:k<l.length
 ·have hlt':k<zs.length:=by rw[HL];exact hlt
  obtain⟨h1,h2⟩:=HC k hlt;have i1:=(co (hnx.2 b hb hbg)).trans h1;have i2:=(co (hnx.2 b hb hbg)).trans h2;have hx:(zs[k]).1=k:=by
   have:=congrArg (fun t=>t[k]?) HZ;simp[hlt',hlt]at this;exact this
  have ht:=aj hlt';have HT:=ah ht;have HY:Hid (∀W,J (zs.take k) W→bl4 cz (n-1) Tryz.prog ll #[.agg #[jL (k7 l k).1,jL (k7 l k).2]] W fun e W'=>
   (e=.returned (.bool true)∧J (zs.take (k+1)) W'∧qK n₀ p W W')∨(e=.returned (.bool false)∧Jx (zs.take (k+1)) W')):=fun W hW=>by
   have:=hY (zs.take k) (zs[k]) W hW mO
   rw[hx,Xm,←HT]at this
   exact this
  have hbw:b<wr.heap.size:=by have:=hnx.1;omega
  generalize k7 l k=it at*
  have hi1:(0:Int)≤k:=jS;have hi2:(k:Int)<l.length:=jS;have hba:=jP (jQ wr) (.cells #[jL it.1,jL it.2] 71);have hJ1:=sF hJ hJs hba;have KB:=ah (kW (n₀:=n₀) (p:=p) (by have:=hnx.1;omega) hba);obtain⟨fn,tmps,assign,body,hy,hR⟩:=HY _ hJ1;gi_wp2;refine hR.mono ?_;rintro e W3(⟨rfl,hJ3,hk3⟩|⟨rfl,hJx3⟩)
  ·clear hy hR;gi_wp2;go_roundw
   case rel=>exact⟨k+1,jS,lV,hJ3,lJ hnx (lJ KB hk3)⟩
   exact No
  clear hy hR;gi_wp2;refine jF (bj7 rfl _ _ _) rfl ?_;exact⟨⟨_,rfl⟩,.inr ⟨_,eS _ _,hJx3⟩⟩
 obtain rfl:k=l.length:=jS
 gi_wp2
 go_end0
 exact⟨⟨_,rfl⟩,.inl ⟨_,cl (by rw[HL];exact ay _),hJs⟩⟩
theorem vj(n:Nat)(hn:1≤n)(ll Bs cap:Nat)(A:Option jG)(zs:List (At N))(hz:zs=[])(J Jx:List (At N)→jC→Prop)(W:jC)(hB:jR W Bs 72 #[.slice A 0 cap])(h0:J [] W):
 bj2 cz n Tryz.prog 222 #[cG ll,jO Bs] W fun e W'=>(∃v,e=.returned v)∧
  ((∃ys,ys=zs∧J ys W')∨(∃pre,pre <+: zs∧Jx pre W')):=by
 have hcb:=hB.one
 have HZ:=ah hz
 refine bj1 Tryz.func222 rfl trivial ?_ rfl
 simp only[Tryz.ntmps222,xb,ao,dk]
 gi_wp2
 gi_loopw[7] (fun i wr=>i=.int .i64 0∧wr=W) (fun _ _=>0)
 case atStart=>exact⟨rfl,rfl⟩
 obtain⟨rfl,rfl⟩:=hrel
 gi_wp2
 go_end0
 exact⟨⟨_,rfl⟩,.inl ⟨_,rfl,by rw[HZ];exact h0⟩⟩
theorem values_stops(n:Nat)(hn:1≤n)(Bs cap:Nat)(p:Nat→Prop)(A:Option jG)(l:List kI)(zs:List (At l.length))(hzs:zs.map (·.1)=bu l.length)(hreach:l.length≤4294967296)(w:jC)(hg:p Bs)(hne:l.length≠0→∀ad,A=some ad→p ad.block)
 (hB:jR w Bs 72 #[jN A l cap]) (hS:Lb w w A l):
 bl1 cz n Tryz.prog 222 #[jO Bs] (fun x:At l.length=>Xm (k7 l x.1)) (qK w p) (fun ys=>ys=zs) (fun pre=>pre <+: zs) l.length w:=fun ll J Jx W hW hJ _ hY h0=>by
 by_cases h:l.length=0
 ·have hz:zs=[]:=by
   have:(zs.map (·.1)).length=0:=by rw[hzs];simp[h]
   exact da (by simpa using this)
  have hB':=hB.later hW
  rw[h]at hB'
  exact vj n hn ll Bs cap A zs hz J Jx W hB' h0
 obtain⟨b,off,rfl,hb,hc⟩:=hS.at_ jS
 exact values1_in n hn ll Bs w cap b off p l zs hzs hreach hB.lt hg hb (hne h _ rfl) J Jx W hW.size hJ hY (hB.later hW) (fun j hj=>⟨(hW.cell (p:=(cP b off j)) hb).trans (hc j hj).1,(hW.cell (p:=(cE b off j)) hb).trans (hc j hj).2⟩) h0
end
section
variable{F:Fence}{n:Nat}{P:bi3}
theorem pB{g:bl7}{ps:Array Tmp}{assign body:bk9}
 (hro:F.round=none) (h1:1≤n) {gf:Nat} {lb:Array jD} (hg:a.eval g=(lI 38 gf lb)) (hFg:F.fn gf) (eg:∀args w,(callFunc gf args).run P w=.ok (.enter gf args) w)
 {encs:α→Array jD} {Kp:jC→jC→Prop} {S Sp:List α→Prop} {N:Nat} {w0:jC} (hseq:bl1 F (n-1) P gf lb encs Kp S Sp N w0)
 (hKt:∀{A B C:jC},Kp A B→Kp B C→Kp A C) (hKb:∀(W:jC)(l:Nat)(o o':Obj),w.heap.size≤l→W.heap[l]? =some o→o.isCells=false→o.isWalk=false→Kp W (W.putObj l o')) (hKa:∀(W:jC)(o:Obj),w.heap.size<W.heap.size→Kp W (W.alloc o))
 (hb0:(bJ w0 w)) (hps:∀x,(encs x).size=ps.size)
 (I:List α→jC→Prop) (Ix:bk9→List α→jC→Prop) (hI:bj3 w.heap.size I) (hIx:∀c,bj3 w.heap.size (Ix c)) (h0:I [] w) (a₁:α→Nat→Act) (o₁:α→Obj)
 (hassign:∀(l:Nat)(x:α)(W:jC)(K:Act→jC→Prop),K (a₁ x W.heap.size) (W.alloc (o₁ x))→
  assign.wpIn (F.inRound l) (n-1-1) P (Exit.then K (fun _ _ _=>False)) {tmps:=(ps.zip (encs x)).foldl (fun t(p,v)=>t.setIfInBounds p v) a.tmps,defers:=[]} W)
 (hbody:∀(l:Nat)(pre:List α)(x:α)(W:jC)(b:Nat),I pre W→w.heap.size+1<b→W.heap[b]? =some (o₁ x)→pre.length<N→body.wpIn (F.inRound l) (n-1-1) P (ownPostK Kp I Ix (pre++[x]) W) (a₁ x b) W)
 (hdone:∀(D:Nat)(xs:List α)(W:jC),w.heap.size≤D→S xs→I xs W→W.heap[D]? =some (aY)→Q .normal (lI 19 a D) W)
 (hstop:∀(D:Nat)(c:bk9)(pre:List α)(W:jC),w.heap.size≤D→Sp pre→Ix c pre W→W.heap[D]? =some (aY)→c.wpIn F n P Q (lI 19 a D) W):
 (Code.rangeFunc g ps assign body).wpIn F n P Q a w:=by
 refine wpIn_rangeFunc ?_
 intro fn hfn
 rw[hro]
 obtain⟨rec,hrec⟩:∃rec:LoopState→Option bk9→Loop,rec=fun st pe=>{state:=st,pending:=pe,fn,tmps:=a.tmps,params:=ps,assign,body,defers:=w.heap.size}:=⟨_,rfl⟩
 obtain⟨W1,hW1⟩:∃W1,(w.alloc (aY)).alloc (.loop (rec .ready none))=W1:=⟨_,rfl⟩
 have hz1:W1.heap.size=w.heap.size+2:=by rw[←hW1];simp
 have hL1:W1.heap[w.heap.size+1]? =some (.loop (rec .ready none)):=by
  rw[←hW1];have:=du (w.alloc (aY)) (.loop (rec .ready none));rwa[b_]at this
 have hK1:W1.heap[w.heap.size]? =some (aY):=by
  rw[←hW1];exact(Below.heap_alloc _ _ _ (by simp)).trans (du w _)
 have hI1:I [] W1:=by rw[←hW1];exact hI.alloc _ (hI.alloc _ h0)
 have hb1:(bJ w0 W1):=by rw[←hW1];exact Below.two hb0 (jP (jP (jQ w) _) _)
 refine⟨w.heap.size+1,[{target:=.collected w.heap.size,args:=#[]}],W1,{target:=.fn (.func gf) lb,args:=#[.func (.yield (w.heap.size+1)) #[] #[]]},W1,gf,
  #[.func (.yield (w.heap.size+1)) #[] #[]]++lb,W1,?_,?_,?_,?_,fun _=>h1,?_⟩
 ·rw[←hW1,hrec];exact run_enterLoop_outer _ _ _ _ _
 ·simp only[resolve,hg];simp[go_sem]
 ·intro f' hf';simp[Target.leads]at hf';subst hf';exact hFg
 ·simp[invoke,go_sem,eg]
 have hnw:∀{A B:jC}{row:Option Nat},(∀r,row=some r→W1.heap.size≤r∧∃o:Obj,A.heap[r]? =some o∧o.isWalk=true)→(∀r,row=some r→w.heap.size≤r∧(aH A r)):=
  fun hr r e=>by obtain⟨hB,o,ho,hw⟩:=hr r e;exact⟨by omega,o,ho,Obj.not_cells_of_walk hw⟩
 refine(hseq (w.heap.size+1)
  (fun pre W=>I pre W∧W.heap[w.heap.size+1]? =some (.loop (rec .ready none))∧W.heap[w.heap.size]? =some (aY))
  (fun pre W=>∃c,Ix c pre W∧W.heap[w.heap.size+1]? =some (.loop (rec .done (some c)))∧W.heap[w.heap.size]? =some (aY))
  W1 hb1
  (fun s A B row hs hg' hr=>⟨hI s A B row hs.1 hg' (hnw (B:=B) hr),(grownBy_keeps hg' (fun r e=>(hr r e).2) hs.2.1 rfl).trans hs.2.1,(grownBy_keeps hg' (fun r e=>(hr r e).2) hs.2.2 rfl).trans hs.2.2⟩)
  (fun s A B row hs hg' hr=>by
   obtain⟨c,hc,hl,hk⟩:=hs;exact⟨c,hIx c s A B row hc hg' (hnw (B:=B) hr),(grownBy_keeps hg' (fun r e=>(hr r e).2) hl rfl).trans hl,(grownBy_keeps hg' (fun r e=>(hr r e).2) hk rfl).trans hk⟩)
  ?_ ⟨hI1,hL1,hK1⟩).mono ?_
 ·rintro pre x V⟨hiV,hlV,hkV⟩ hlen;have aa6:w.heap.size+1<V.heap.size:=(aw.1 hlV).1;have hy:=run_yield (P:=P) (args:=encs x) hlV (by rw[hrec];exact hps x);rw[hrec]at hy;obtain⟨W,hW⟩:∃W,V.alloc (o₁ x)=W:=⟨_,rfl⟩;have hl:W.heap[w.heap.size+1]? =some (.loop (rec .ready none)):=by rw[←hW];exact(Below.heap_alloc _ _ _ aa6).trans hlV
  have hk:W.heap[w.heap.size]? =some (aY):=by rw[←hW];exact(Below.heap_alloc _ _ _ (by omega)).trans hkV
  have hi:I pre W:=by rw[←hW];exact hI.alloc _ hiV
  have hnew:W.heap[V.heap.size]? =some (o₁ x):=by rw[←hW];exact du _ _
  have hlt:w.heap.size+1<W.heap.size:=(aw.1 hl).1;have hkv:Kp V W:=by rw[←hW];exact hKa _ _ (by omega)
  refine⟨fn,_,assign,body,hy,roundIn_of_wpIn hfn (hassign _ x V _ ?_)⟩;rw[hW];refine⟨_,run_beginRound hl (by rw[hrec]),?_⟩;have hl2:(W.putObj (w.heap.size+1) (.loop {rec .ready none with state:=.busy})).heap[w.heap.size+1]? =some (.loop {rec .ready none with state:=.busy}):=gN hlt;have hk2:(W.putObj (w.heap.size+1) (.loop {rec .ready none with state:=.busy})).heap[w.heap.size]? =some (aY):=(dx (by omega)).trans hk;have hw2:Kp V (W.putObj (w.heap.size+1) (.loop {rec .ready none with state:=.busy})):=hKt hkv (hKb _ _ _ _ (by omega) hl rfl rfl);refine wpIn_mono (hbody _ pre x _ V.heap.size (hI.putObj _ hi jS hl rfl) aa6 ((dx jS).trans hnew) hlen) ?_;have fin:∀(jump:Option bk9)(W3:jC),bj4 (W.putObj (w.heap.size+1) (.loop {rec .ready none with state:=.busy})) W3→
   (Instr.endRound (w.heap.size+1) jump).run P W3=.ok (.bool jump.isNone) (W3.putObj (w.heap.size+1) (.loop (rec (if jump.isNone then .ready else .done) jump)))∧
   W3.heap[w.heap.size+1]? =some (.loop {rec .ready none with state:=.busy})∧
   (W3.putObj (w.heap.size+1) (.loop (rec (if jump.isNone then .ready else .done) jump))).heap[w.heap.size+1]? =some (.loop (rec (if jump.isNone then .ready else .done) jump))∧
   (W3.putObj (w.heap.size+1) (.loop (rec (if jump.isNone then .ready else .done) jump))).heap[w.heap.size]? =some (aY):=fun jump W3 hk3=>by
   have hl3:=hk3.same _ _ hl2 rfl
   have:=run_endRound (P:=P) jump hl3
   rw[hrec]at this⊢
   exact⟨this,by rw[hrec]at hl3;exact hl3,gN (aw.1 hl3).1,(dx jS).trans (hk3.same _ _ hk2 rfl)⟩
  have out:∀(c:bk9)(W3:jC),bj4 (W.putObj (w.heap.size+1) (.loop {rec .ready none with state:=.busy})) W3→Ix c (pre++[x]) W3→
   ∃c',Ix c' (pre++[x]) (W3.putObj (w.heap.size+1) (.loop (rec .done (some c))))∧(W3.putObj (w.heap.size+1) (.loop (rec .done (some c)))).heap[w.heap.size+1]? =some (.loop (rec .done (some c')))∧(W3.putObj (w.heap.size+1) (.loop (rec .done (some c)))).heap[w.heap.size]? =some (aY):=fun c W3 hk3 hi3=>by
   obtain⟨_,hl3,hl4,hk4⟩:=fin (some c) W3 hk3
   exact⟨c,(hIx _).putObj _ hi3 jS hl3 rfl,hl4,hk4⟩
  rintro e a3 W3 hp
  cases e with
  |normal=>
   obtain⟨hk3,hkp3,hi3⟩:=hp;obtain⟨hr,hl3,hl4,hk4⟩:=fin none W3 hk3;exact⟨_,_,hr,.inl ⟨rfl,⟨hI.putObj _ hi3 jS hl3 rfl,hl4,hk4⟩,hKt (hKt hw2 hkp3) (hKb _ _ _ _ jS hl3 rfl rfl)⟩⟩
  |ret=>exact⟨_,_,(fin (some .ret) W3 hp.1).1,.inr ⟨rfl,out _ _ hp.1 hp.2⟩⟩
  |exit id=>exact⟨_,_,(fin (some (.exit id)) W3 hp.1).1,.inr ⟨rfl,out _ _ hp.1 hp.2⟩⟩
  |goto t=>exact⟨_,_,(fin (some (.goto t)) W3 hp.1).1,.inr ⟨rfl,out _ _ hp.1 hp.2⟩⟩
  |panic ch=>exact hp.elim
  |outgrown=>exact hp.elim
 rintro e W2⟨⟨v,rfl⟩,(⟨xs,hS,hi,hl,hk⟩|⟨pre,hSp,c,hi,hl,hk⟩)⟩
 ·exact⟨none,_,by have:=run_endLoop (P:=P) hl (by rw[hrec];simp);rw[hrec]at this;exact this,hdone _ xs _ (ay _) hS (hI.putObj _ hi jS hl rfl) ((dx jS).trans hk)⟩
 exact⟨some c,_,by have:=run_endLoop (P:=P) hl (by rw[hrec];simp);rw[hrec]at this;exact this,hstop _ c pre _ (ay _) hSp ((hIx c).putObj _ hi jS hl rfl) ((dx jS).trans hk)⟩
end
section
attribute [local go_sem] db
theorem nY(h:Lb w w A l)(hb:Below w w w'):Lb w' w' A l:=Lb.later h hb
def Ep(a b:List UInt8):Bool:=dW a b||a==b
def ri(pv:List UInt8)(x:kI):Bool:=nameB (tx x.1)&&(!(Ep (tx x.1) pv)&&mP (tx x.2))
def chainB:List UInt8→List kI→Bool
 |_,[]=>true
 |pv,x::l=>ri pv x&&chainB (tx x.1) l
def setB(l:List kI):Bool:=decide (1≤l.length)&&decide (l.length≤6)&&chainB [] l
def pk(l:List kI):ByteArray:=(l.getLast?).elim ⟨#[]⟩ fun p=>p.1
theorem yD(l:List kI)(x:kI):pk (l++[x])=x.1:=by simp[pk]
theorem yK:∀(l:List kI)(pv:List UInt8)(x:kI),chainB pv (l++[x])=(chainB pv l&&ri ((l.getLast?).elim pv fun p=>tx p.1) x)
 |[],pv,x=>by simp[chainB]
 |y::l,pv,x=>by
  rw[dj,chainB,chainB,yK l (tx y.1) x,Bool.and_assoc];congr 3
  cases l with
  |nil=>rfl
  |cons z l=>
   rw[fj]
   cases e:(z::l).getLast? with
   |none=>simp at e
   |some q=>rfl
theorem Io(l:List kI)(x:kI):chainB [] (l++[x])=(chainB [] l&&ri (tx (pk l)) x):=by
 rw[yK];congr 2;unfold pk
 cases l.getLast?<;>rfl
theorem yL:∀(l t:List kI)(pv:List UInt8),chainB pv l=false→chainB pv (l++t)=false
 |[],_,_,h=>by simp[chainB]at h
 |y::l,t,pv,h=>by
  rw[dj,chainB];rw[chainB]at h
  cases e:ri pv y with
  |false=>rfl
  |true=>rw[e]at h;rw[eF]at h⊢;exact yL l t _ h
def m_(l:List kI)(pre:List (At N)):List kI:=pre.map fun p=>k7 l p.1
theorem rK(l:List kI)(pre:List (At N))(x:At N):m_ l (pre++[x])=m_ l pre++[k7 l x.1]:=by simp[m_]
theorem wl{zs:List (At l.length)}(hz:zs.map (·.1)=bu l.length):m_ l zs=l:=by
 have:m_ l zs=(zs.map (·.1)).map (k7 l):=by simp[m_]
 rw[this,hz];apply List.ext_getElem?;intro i;by_cases h:i<l.length
 ·simp[h,k7]
 simp[h]
theorem Gu{zs pre:List (At l.length)}(hz:zs.map (·.1)=bu l.length)(hp:pre <+: zs):∃t,l=m_ l pre++t:=by
 obtain⟨t,rfl⟩:=hp;exact⟨m_ l t,(wl hz).symm.trans (by simp[m_])⟩
def RgI(w:jC)(l:List kI)(pre:List (At l.length))(W:jC):Prop:=
 jR W w 4 #[.bool true]∧jR W (w.heap.size+1) 9 #[jL (pk (m_ l pre))]∧chainB [] (m_ l pre)=true∧Below w w W
def RgX(w:jC)(l:List kI)(c:bk9)(pre:List (At l.length))(W:jC):Prop:=
 c=.exit 0∧jR W w 4 #[.bool false]∧chainB [] (m_ l pre)=false∧Below w w W
theorem Vd{Bd:Nat}(hB:w.heap.size≤Bd):bj3 Bd (RgI w l):=by
 rintro s W W' row⟨h1,h2,h3,h4⟩ hg hr;exact⟨h1.kept hg (fun r e=>(hr r e).2),h2.kept hg (fun r e=>(hr r e).2),h3,h4.grown hg h4.size (fun k e=>a_ hB (hr k e).1)⟩
theorem Vc{c:bk9}{Bd:Nat}(hB:w.heap.size≤Bd):bj3 Bd (RgX w l c):=by
 rintro s W W' row⟨h0,h1,h2,h4⟩ hg hr;exact⟨h0,h1.kept hg (fun r e=>(hr r e).2),h2,h4.grown hg h4.size (fun k e=>a_ hB (hr k e).1)⟩
variable{p:Nat→Prop}
theorem uw{o:Nat}{u:jD}(hp:¬p g):qK n₀ p w (w.setCell ⟨g,o,none⟩ u):=
 ⟨by simp[bj],fun i _ hi=>Below.heap_setCell w ⟨g,o,none⟩ u i (by rintro rfl;exact hp hi)⟩
theorem z_(A:Option jG)(l:List kI)(cap:Nat)(h1:1≤l.length)(h6:l.length≤6)(hs:∀x∈l,(x.2).size≤4294967296)(w:jC)(hT:Tb w)(hS:Lb w w A l):
 bj2 cz 6 Tryz.prog 134 #[jN A l cap] w fun e w'=>e=.returned (.bool (setB l))∧Below w w w':=by
 have T:Below w w ((w.alloc cW).alloc (.cells #[aF] 9)):=jP (jP (jQ _) _) _
 have X:=ah ((jR.new w 4 #[.bool true]).alloc (.cells #[aF] 9))
 have Y:=ah (tZ w cW 9 #[aF])
 have HS:=ah (nY hS T)
 have HT:=ah hT
 have NE:Hid (l.length≠0→∀ad,A=some ad→ad.block<w.heap.size):=fun h ad e=>by
  obtain⟨b,off,e',hb,_⟩:=hS.at_ (by omega);rw[e']at e;cases e;exact hb
 have HSZ:Hid (∀k,(k7 l k).2.size≤4294967296):=fun k=>by
  unfold k7
  cases e:l[k]? with
  |none=>simp
  |some x=>exact hs x (cm e)
 clear hS hT hs
 have d1:((l.length:Int)==0)=false:=by rw[beq_eq_false_iff_ne];omega
 have d1':(l.length==0)=false:=by rw[beq_eq_false_iff_ne];omega
 have d6:decide ((6:Int)<l.length)=false:=by simp;omega
 have d6':decide (6<l.length)=false:=by simp;omega
 refine bi7 Tryz.func134 rfl trivial ?_ rfl
 simp only[Tryz.ntmps134,xb,ao,dk]
 refine bi4.2 ?_
 go_wp2_with fail
 go_step3
 go_wp2_with fail
 go_step3
 generalize(w.alloc cW).alloc (.cells #[aF] 9)=w1 at*
 go_wp2_with fail
 refine(tT _ _ _ _).mono ?_
 rintro e w'⟨rfl,rfl⟩
 have hba:=jP (jQ w1) (.cells #[jN A l cap] 72)
 have Z:=ah (jR.new w1 72 #[jN A l cap])
 have WZ:=ah Y.lt
 replace X:=ah (X.later hba)
 replace Y:=ah (Y.later hba)
 replace HS:=ah (nY HS hba)
 replace T:=Below.two T hba
 clear hba
 go_wp2_with fail
 generalize w1.alloc (.cells #[jN A l cap] 72)=V at*
 have xz:=X.lt
 have yz:=Y.lt
 have wz:=WZ.out
 have vz:=Z.out.lt
 obtain⟨zs,hzs⟩:=mH (N:=l.length) (bu l.length) (fun p hp=>dh.1 hp)
 have HZ:=ai hzs
 have hst:RgI w l [] V:=⟨X.out,Y.out,rfl,T⟩
 clear hzs
 refine(bi4 (n:=6)).1 ?_
 refine pB rfl (by omega) (gf:=222) (lb:=#[aV w1]) rfl trivial (enters_of Tryz.func222 (by kernel_rfl) rfl)
  (values_stops 5 (by omega) w1.heap.size cap (fun i=>i≠w.heap.size∧i≠w.heap.size+1) A l zs HZ.out (by omega) V ⟨by omega,by omega⟩ (fun h ad e=>by have:=NE.out h ad e;exact⟨by omega,by omega⟩) Z.out HS.out)
  (fun h k=>lJ h k) (zm (by omega)) (fun W o h=>kW (by omega) (jP (jQ W) o)) (Below.refl _ _) (fun _=>rfl)
  (RgI w l) (RgX w l) (Vd (by omega)) (fun c=>Vc (by omega)) hst
  (fun x b=>{tmps:=#[.slice A l.length cap,undef,.bool false,aV w,.pointer (some (aE w)),.pointer (aC b),.slice A l.length cap,.int .i64 l.length,.bool false,.bool false,.slice A l.length cap,.int .i64 l.length,.bool false,.bool false,.slice A l.length cap,
   .func (.func 222) #[] #[aV w1],.agg #[.string (k7 l x.1).1,.string (k7 l x.1).2],undef,undef,undef,undef,undef,undef,undef,undef,undef,undef,undef,undef,undef,undef,undef,undef,undef,undef,undef],defers:=[]})
  (fun x=>.cells #[jL (k7 l x.1).1,jL (k7 l x.1).2] 71) ?assign ?body ?done ?stop
 case assign=>
  intro l x W K hK;gi_wp2;exact hK
 case body=>
  rintro l' pre x W b⟨hX,hY,hall,hb⟩ hbz hN hlt;have HX:=ah hX;have HY:=ah hY;have HN:Hid (jR W b 71 #[jL (k7 l x.1).1,jL (k7 l x.1).2]):=hN;have HB:=ah hb;have HG2:Hid (chainB [] (m_ l (pre++[x]))=ri (tx (pk (m_ l pre))) (k7 l x.1)):=by show _=_;rw[rK,Io,hall,eF]
  have KO:bj4 W W:=gq _;have KP:Hid (qK V (fun i=>i≠w.heap.size∧i≠w.heap.size+1) W W):=sr _ _ _;have O6:=HT.later hb;have HVL:=HSZ x.1;have Yu:Hid (pk (m_ l (pre++[x]))=(k7 l x.1).1):=by show _=_;rw[rK,yD]
  generalize k7 l x.1=it at*
  generalize pk (m_ l pre)=pv at*
  obtain⟨nm,hnm⟩:∃q,nameB (tx it.1)=q:=⟨_,rfl⟩;obtain⟨vl,hvl⟩:∃q,mP (tx it.2)=q:=⟨_,rfl⟩;have QN:Hid (∀w1,jE Tryz.prog 180 #[jL it.1] w1 fun e w'=>e=.returned (.bool nm)∧Below w1 w1 w'):=fun w1=>by have:=Ko it.1 w1;rwa[hnm]at this
  have QV:Hid (∀w1,Tb w1→jE Tryz.prog 181 #[jL it.2] w1 fun e w'=>e=.returned (.bool vl)∧Below w1 w1 w'):=fun w1 h=>by have:=GU it.2 w1 HVL h;rwa[hvl]at this
  rw[ri,hnm,hvl]at HG2;have Te:Hid (Ep (tx it.1) (tx pv)=(dW it.1.toList pv.toList||it.1.toList==pv.toList)):=by show _=_;rw[km,km];rfl
  cases nm with
  |false=>
   have HBAD:Hid (chainB [] (m_ l (pre++[x]))=false):=by show _=_;rw[HG2];rfl
   have x0:=HX.one;have fx:=HX.frozen 0;have y0:=HY.one;have fy:=HY.frozen 0;have n0:=HN.p0;have n1:=HN.p1;have zx:=HX.lt;have zy:=HY.lt;have zn:=HN.lt;gi_wp2_with fail;refine⟨trivial,?_⟩;refine(d_ l' (jI.2 (QN _))).mono ?_;rintro e W1⟨rfl,hb1⟩;replace KP:=ah (lJ KP (kW (by have:=HN.lt;omega) hb1));replace HX:=ah (HX.later hb1);replace HY:=ah (HY.later hb1);replace HN:=ah (HN.later hb1);replace HB:=ah (Below.two HB hb1);replace KO:=KO.trans (ky hb1);have x0:=HX.one;have fx:=HX.frozen 0;have y0:=HY.one;have fy:=HY.frozen 0;have n0:=HN.p0;have n1:=HN.p1;have zx:=HX.lt;have zy:=HY.lt;have zn:=HN.lt;gi_wp2_with fail;refine⟨trivial,?_⟩;gi_wp2_with fail;exact⟨KO.trans (b7 _ _ _),rfl,HX.kY 0 _,HBAD,HB.setCell aa _⟩
  |true=>
   cases c1:dW it.1.toList pv.toList with
   |true=>
    have HBAD:Hid (chainB [] (m_ l (pre++[x]))=false):=by show _=_;rw[HG2,Te,c1];simp
    have x0:=HX.one;have fx:=HX.frozen 0;have y0:=HY.one;have fy:=HY.frozen 0;have n0:=HN.p0;have n1:=HN.p1;have zx:=HX.lt;have zy:=HY.lt;have zn:=HN.lt;gi_wp2_with fail;refine⟨trivial,?_⟩;refine(d_ l' (jI.2 (QN _))).mono ?_;rintro e W1⟨rfl,hb1⟩;replace KP:=ah (lJ KP (kW (by have:=HN.lt;omega) hb1));replace HX:=ah (HX.later hb1);replace HY:=ah (HY.later hb1);replace HN:=ah (HN.later hb1);replace HB:=ah (Below.two HB hb1);replace KO:=KO.trans (ky hb1);have x0:=HX.one;have fx:=HX.frozen 0;have y0:=HY.one;have fy:=HY.frozen 0;have n0:=HN.p0;have n1:=HN.p1;have zx:=HX.lt;have zy:=HY.lt;have zn:=HN.lt;gi_wp2_with fail;refine⟨trivial,?_⟩;gi_wp2_with fail;exact⟨KO.trans (b7 _ _ _),rfl,HX.kY 0 _,HBAD,HB.setCell aa _⟩
   |false=>
    cases c2:(it.1.toList==pv.toList)with
    |true=>
     have HBAD:Hid (chainB [] (m_ l (pre++[x]))=false):=by show _=_;rw[HG2,Te,c1,c2];simp
     have x0:=HX.one;have fx:=HX.frozen 0;have y0:=HY.one;have fy:=HY.frozen 0;have n0:=HN.p0;have n1:=HN.p1;have zx:=HX.lt;have zy:=HY.lt;have zn:=HN.lt;gi_wp2_with fail;refine⟨trivial,?_⟩;refine(d_ l' (jI.2 (QN _))).mono ?_;rintro e W1⟨rfl,hb1⟩;replace KP:=ah (lJ KP (kW (by have:=HN.lt;omega) hb1));replace HX:=ah (HX.later hb1);replace HY:=ah (HY.later hb1);replace HN:=ah (HN.later hb1);replace HB:=ah (Below.two HB hb1);replace KO:=KO.trans (ky hb1);have x0:=HX.one;have fx:=HX.frozen 0;have y0:=HY.one;have fy:=HY.frozen 0;have n0:=HN.p0;have n1:=HN.p1;have zx:=HX.lt;have zy:=HY.lt;have zn:=HN.lt;gi_wp2_with fail;refine⟨trivial,?_⟩;gi_wp2_with fail;exact⟨KO.trans (b7 _ _ _),rfl,HX.kY 0 _,HBAD,HB.setCell aa _⟩
    |false=>
     have x0:=HX.one;have fx:=HX.frozen 0;have y0:=HY.one;have fy:=HY.frozen 0;have n0:=HN.p0;have n1:=HN.p1;have zx:=HX.lt;have zy:=HY.lt;have zn:=HN.lt;gi_wp2_with fail;refine⟨trivial,?_⟩;refine(d_ l' (jI.2 (QN _))).mono ?_;rintro e W1⟨rfl,hb1⟩;have aA4:=O6.later hb1;replace KP:=ah (lJ KP (kW (by have:=HN.lt;omega) hb1));replace HX:=ah (HX.later hb1);replace HY:=ah (HY.later hb1);replace HN:=ah (HN.later hb1);replace HB:=ah (Below.two HB hb1);replace KO:=KO.trans (ky hb1);have x0:=HX.one;have fx:=HX.frozen 0;have y0:=HY.one;have fy:=HY.frozen 0;have n0:=HN.p0;have n1:=HN.p1;have zx:=HX.lt;have zy:=HY.lt;have zn:=HN.lt;gi_wp2_with fail;refine⟨trivial,?_⟩;refine(d_ l' (jI.2 (QV _ aA4))).mono ?_;rintro e W2⟨rfl,hb2⟩;replace KP:=ah (lJ KP (kW (by have:=HN.lt;omega) hb2));replace HX:=ah (HX.later hb2);replace HY:=ah (HY.later hb2);replace HN:=ah (HN.later hb2);replace HB:=ah (Below.two HB hb2);replace KO:=KO.trans (ky hb2);have x0:=HX.one;have fx:=HX.frozen 0;have y0:=HY.one;have fy:=HY.frozen 0;have n0:=HN.p0;have n1:=HN.p1;have zx:=HX.lt;have zy:=HY.lt;have zn:=HN.lt
     cases vl with
     |false=>
      have HBAD:Hid (chainB [] (m_ l (pre++[x]))=false):=by show _=_;rw[HG2];simp
      gi_wp2_with fail;exact⟨KO.trans (b7 _ _ _),rfl,HX.kY 0 _,HBAD,HB.setCell aa _⟩
     |true=>
      have HGD:Hid (chainB [] (m_ l (pre++[x]))=true):=by show _=_;rw[HG2,Te,c1,c2];rfl
      gi_wp2_with fail;refine⟨KO.trans (b7 _ _ _),lJ KP (uw lV),HX.far (by show w.heap.size≠w.heap.size+1;omega) _,?_,HGD,HB.setCell (dU _) _⟩;rw[Yu];exact HY.kY 0 _
 case done=>
  rintro D ys W hD rfl⟨hX,_,hall,hb⟩ hK;have HE:Hid (setB l=true):=by
   show _=_;rw[wl HZ]at hall;unfold setB;rw[hall];simp;omega
  have x0:=hX.one;go_wp2;try rw[cf]
  refine⟨lV,.inl ⟨_,_,rfl,bi2 hK,?_⟩⟩;exact⟨.bool true,by simp[results,Tryz.results134,go_sem],by rw[HE],hb.trans (bj6 (w:=w) aa _ D _ _ jS hK rfl rfl)⟩
 rintro D c' pre W hD hpre⟨rfl,hX,hall,hb⟩ hK
 have HE:Hid (setB l=false):=by
  show _=_;obtain⟨t,ht⟩:=Gu HZ hpre;unfold setB;rw[show chainB [] l=false by rw[ht];exact yL _ _ _ hall];simp
 have x0:=hX.one
 refine bi4.2 ?_
 go_wp2
 try rw[cf]
 refine⟨lV,.inl ⟨_,_,rfl,bi2 hK,?_⟩⟩
 exact⟨.bool false,by simp[results,Tryz.results134,go_sem],by rw[HE],hb.trans (bj6 (w:=w) aa _ D _ _ jS hK rfl rfl)⟩
theorem j_(A:Option jG)(l:List kI)(cap:Nat)(hs:∀x∈l,(x.2).size≤4294967296)(w:jC)(hT:Tb w)(hS:Lb w w A l):
 jE Tryz.prog 134 #[jN A l cap] w fun e w'=>e=.returned (.bool (setB l))∧Below w w w':=by
 by_cases h:1≤l.length∧l.length≤6
 ·exact jI.1 (z_ A l cap h.1 h.2 hs w hT hS)
 have HE:Hid (setB l=false):=by
  show _=_;unfold setB;simp;omega
 by_cases h0:l.length=0
 ·have d0:((l.length:Int)==0)=true:=TQ;have d0':(l.length==0)=true:=TQ;have HN:=ah h0;generalize l.length=n at*
  go_in;go_wp2_with fail;go_step3;go_wp2;rw[cf];go_ret;exact⟨by rw[HE];rfl,jQ _⟩
 have d0:((l.length:Int)==0)=false:=O1
 have d0':(l.length==0)=false:=O1
 have d6:decide ((6:Int)<l.length)=true:=mO
 have d6':decide (6<l.length)=true:=mO
 generalize l.length=n at*
 go_in
 go_wp2_with fail
 go_step3
 go_wp2
 rw[cf]
 go_ret
 exact⟨by rw[HE];rfl,jQ _⟩
end
abbrev lsB(a b:List UInt8):Bool:=dW a b
theorem zk:∀a:List UInt8,lsB a a=false
 |[]=>rfl
 |x::a=>by
  have h:=zk a;unfold lsB at h⊢;rw[dW,h];simp
theorem qd:∀{a b c:List UInt8},lsB a b=true→lsB b c=true→lsB a c=true
 |[],[],_,h,_=>by simp[lsB,dW]at h
 |[],_::_,[],_,h=>by simp[lsB,dW]at h
 |[],_::_,_::_,_,_=>by simp[lsB,dW]
 |_::_,[],_,h,_=>by simp[lsB,dW]at h
 |_::_,_::_,[],_,h=>by simp[lsB,dW]at h
 |x::a,y::b,z::c,h,k=>by
  unfold lsB at h k⊢;rw[dW,ft,ba,decide_eq_true_eq,beq_iff_eq]at h k⊢;rcases h with h|⟨rfl,h⟩
  ·rcases k with k|⟨rfl,k⟩
   ·exact .inl (UInt8.lt_trans h k)
   exact .inl h
  rcases k with k|⟨rfl,k⟩
  ·exact .inl k
  exact .inr ⟨rfl,qd h k⟩
theorem ur:∀a b:List UInt8,lsB a b=true∨a=b∨lsB b a=true
 |[],[]=>.inr (.inl rfl)
 |[],_::_=>.inl (by simp[lsB,dW])
 |_::_,[]=>.inr (.inr (by simp[lsB,dW]))
 |x::a,y::b=>by
  unfold lsB;rw[dW,dW,ft,ba,decide_eq_true_eq,beq_iff_eq,ft,ba,decide_eq_true_eq,beq_iff_eq];by_cases h:x<y
  ·exact .inl (.inl h)
  by_cases h':y<x
  ·exact .inr (.inr (.inl h'))
  have e:=UInt8.le_antisymm (UInt8.not_lt.1 h') (UInt8.not_lt.1 h);subst e;rcases ur a b with k|k|k
  ·exact .inl (.inr ⟨rfl,k⟩)
  ·exact .inr (.inl (by rw[k]))
  exact .inr (.inr (.inr ⟨rfl,k⟩))
variable{b:List UInt8}
theorem qe{a:List UInt8}(h:lsB a b=true):lsB b a=false:=by
 cases k:lsB b a with
 |false=>rfl
 |true=>
  have:=qd h k;rw[zk]at this
  cases this
theorem J6{a c:List UInt8}(h:lsB b a=false)(k:lsB c b=false):lsB c a=false:=by
 rcases ur a b with h1|h1|h1
 ·rcases ur b c with k1|k1|k1
  ·exact qe (qd h1 k1)
  ·rw[←k1];exact h
  rw[k1]at k;cases k
 ·rw[h1];exact k
 rw[h1]at h;cases h
def ahead(x y:kI):Bool:=lsB (tx x.1) (tx y.1)
def S_(l:List kI)(i:Nat):Prop:=∀a b,a<b→b<i→ahead (k7 l b) (k7 l a)=false
structure Mid(l:List kI)(i j:Nat):Prop where
 le:j≤i
 lt:i<l.length
 ord:∀a b,a<b→b≤i→a≠j→b≠j→ahead (k7 l b) (k7 l a)=false
 up:∀b,j<b→b≤i→ahead (k7 l j) (k7 l b)=true
def sN(l:List kI)(j:Nat):List kI:=(l.set j (k7 l (j-1))).set (j-1) (k7 l j)
theorem Cz(l:List kI)(j:Nat):(sN l j).length=l.length:=by simp[sN]
variable{j:Nat}
theorem L8{x:kI}(k:Nat)(hj:j<l.length):k7 (l.set j x) k=if k=j then x else k7 l k:=by
 unfold k7;by_cases h:k=j
 ·subst h;rw[if_pos rfl,gM hj];rfl
 rw[if_neg h,List.getElem?_set_ne (fun e=>h e.symm)]
theorem wm(h0:0<j)(hj:j<l.length)(k:Nat):k7 (sN l j) k=if k=j-1 then k7 l j else if k=j then k7 l (j-1)else k7 l k:=by
 unfold sN;rw[L8 k (by rw[eq];omega),L8 k hj]
theorem Np(h0:0<j)(hj:j<l.length):(sN l j).Perm l:=by
 have e:l=l.take (j-1)++k7 l (j-1)::k7 l j::l.drop (j+1):=by
  have h1:l.drop (j-1)=k7 l (j-1)::l.drop j:=by
   rw[dN jS];have:j-1+1=j:=jS;rw[this];simp[k7,show j-1<l.length by omega]
  have h2:l.drop j=k7 l j::l.drop (j+1):=by
   rw[dN hj];simp[k7,hj]
  rw[←h2,←h1,fQ]
 have e2:sN l j=l.take (j-1)++k7 l j::k7 l (j-1)::l.drop (j+1):=by
  apply List.ext_getElem?;intro k;have hl:(l.take (j-1)).length=j-1:=qlt;unfold sN;rw[jq,jq,eq];by_cases h1:k<j-1
  ·rw[if_neg jS,if_neg jS,eL jS,gJ,if_pos h1]
  rw[d7 jS,hl];by_cases h2:k=j-1
  ·subst h2;simp;omega
  rw[if_neg jS];by_cases h3:k=j
  ·subst h3;have:k-(k-1)=1:=jS;rw[this];simp[hj]
  rw[if_neg jS];obtain⟨q,rfl⟩:∃q,k=j+1+q:=⟨k-(j+1),jS⟩;have:j+1+q-(j-1)=q+1+1:=jS;rw[this,bo,bo,fL]
 rw[e2];conv=>rhs;rw[e]
 exact List.Perm.append_left _ (List.Perm.swap _ _ _)
theorem Mid.start{i:Nat}(h:S_ l i)(hi:i<l.length):Mid l i i:=
 ⟨ay _,hi,fun a b hab hb ha hb'=>h a b hab jS,fun b h1 h2=>jS⟩
theorem Mid.swap{i:Nat}(h:Mid l i j)(h0:0<j)(hs:ahead (k7 l j) (k7 l (j-1))=true):Mid (sN l j) i (j-1):=by
 have hj:j<l.length:=by have:=h.le;have:=h.lt;omega
 refine⟨by have:=h.le;omega,by rw[Cz];exact h.lt,fun a b hab hb ha hb'=>?_,fun b h1 h2=>?_⟩
 ·rw[wm h0 hj,wm h0 hj,if_neg hb',if_neg ha];by_cases hbj:b=j
  ·subst hbj;rw[if_pos rfl,if_neg jS];exact h.ord a (b-1) jS jS jS jS
  rw[if_neg hbj];by_cases haj:a=j
  ·subst haj;rw[if_pos rfl];exact h.ord (a-1) b jS hb jS hbj
  rw[if_neg haj];exact h.ord a b hab hb haj hbj
 rw[wm h0 hj,wm h0 hj,if_pos rfl,if_neg jS];by_cases hbj:b=j
 ·subst hbj;rw[if_pos rfl];exact hs
 rw[if_neg hbj];exact h.up b jS h2
theorem Mid.done{i:Nat}(h:Mid l i j)(hs:j=0∨ahead (k7 l j) (k7 l (j-1))=false):S_ l (i+1):=by
 intro a b hab hb;by_cases haj:a=j
 ·subst haj;exact qe (h.up b hab jS)
 by_cases hbj:b=j
 ·subst hbj;rcases hs with rfl|hs
  ·omega
  by_cases e:a=b-1
  ·subst e;exact hs
  exact J6 (h.ord a (b-1) jS jS haj jS) hs
 exact h.ord a b hab jS haj hbj
theorem Dn{x:kI}:((k_ l).set (j*2) (.string x.1)).set (j*2+1) (.string x.2)=k_ (l.set j x):=by
 induction l generalizing j with
 |nil=>simp[k_]
 |cons y l ih=>
  cases j with
  |zero=>simp[k_]
  |succ j=>
   have e:(j+1)*2=j*2+1+1:=jS;rw[e];simp only[am,k_,dg,dj,dz]at ih⊢;rw[ih]
def kV:List kI→List kI→Bool
 |[],m=> !m.isEmpty
 |_::_,[]=>false
 |x::l,y::m=>if tx x.1=tx y.1∧tx x.2=tx y.2 then kV l m else if tx x.1=tx y.1 then lsB (tx x.2) (tx y.2)else lsB (tx x.1) (tx y.1)
theorem wL(h:k<l.length):l.drop k=k7 l k::l.drop (k+1):=by
 rw[dN h];simp[k7,h]
theorem Gy(A C:Option jG)(l m:List kI)(cap XX:Nat)(hl:l.length≤4294967296)(hm:m.length≤4294967296)(w:jC)(hS:Lb w w A l)(hM:Lb w w C m):
 jE Tryz.prog 135 #[jN A l cap,jN C m XX] w fun e w'=>e=.returned (.bool (kV l m))∧Below w w w':=by
 have HS:=ah hS
 have HM:=ah hM
 go_in
 go_wp2_with fail
 go_loopw[10] (fun i wr=>∃k:Nat,i=(aJ k)∧k≤l.length∧k≤m.length∧Hid (kV l m=kV (l.drop k) (m.drop k))∧(bB w wr)) (fun i _=>l.length-(av i).toNat)
 case atStart=>exact⟨0,rfl,be _,be _,rfl,jQ _⟩
 obtain⟨k,rfl,hk,hkm,HE,HB⟩:=hrel
 by_cases h1:k<l.length
 ·have d1:decide ((k:Int)<l.length)=true:=ae;obtain⟨b,off,rfl,hb,hc⟩:=HS.at_ jS;obtain⟨c1,c2⟩:=hc k h1;have i1:=(HB.cell (p:=(cP b off k)) hb).trans c1;have i2:=(HB.cell (p:=(cE b off k)) hb).trans c2;have hbw:b<wr.heap.size:=qes;have hi1:(0:Int)≤k:=jS;have hi2:(k:Int)<l.length:=jS;have HD1:=ah (wL h1);by_cases h2:k<m.length
  ·have d2:((k:Int)==(m.length:Int))=false:=O1;have d2':(k==m.length)=false:=O1;obtain⟨b',off',rfl,hb',hc'⟩:=HM.at_ jS;obtain⟨c1,c2⟩:=hc' k h2;have j1:=(HB.cell (p:=(cP b' off' k)) hb').trans c1;have j2:=(HB.cell (p:=(cE b' off' k)) hb').trans c2;have aT7:b'<wr.heap.size:=qes;have hi3:(k:Int)<m.length:=jS;have HD2:=ah (wL h2);have HEX:Hid (kV l m=if tx (k7 l k).1=tx (k7 m k).1∧tx (k7 l k).2=tx (k7 m k).2 then kV (l.drop (k+1)) (m.drop (k+1))else if tx (k7 l k).1=tx (k7 m k).1 then lsB (tx (k7 l k).2) (tx (k7 m k).2)else lsB (tx (k7 l k).1) (tx (k7 m k).1)):=by
    show _=_;rw[HE,HD1,HD2];rfl
   generalize k7 l k=x at*
   generalize k7 m k=y at*
   obtain⟨x1,x2⟩:=x;obtain⟨y1,y2⟩:=y;simp only at i1 i2 j1 j2 HEX;have HB2:=ah (jP (jP HB (lI 61 x1 x2)) (lI 61 y1 y2));by_cases e1:x1.toList=y1.toList
   ·have e1':tx x1=tx y1:=by rw[←km,←km,e1]
    have b1:(x1.toList==y1.toList)=true:=by rw[beq_iff_eq];exact e1
    by_cases e2:x2.toList=y2.toList
    ·have e2':tx x2=tx y2:=by rw[←km,←km,e2]
     have HE2:Hid (kV l m=kV (l.drop (k+1)) (m.drop (k+1))):=by show _=_;rw[HEX,if_pos ⟨e1',e2'⟩]
     go_wp2;go_roundw
     case rel=>exact⟨k+1,CJ,jS,jS,HE2,HB2⟩
     exact No
    have e2':¬tx x2=tx y2:=by rw[←km,←km];exact e2
    have HE2:Hid (kV l m=dW x2.toList y2.toList):=by show _=_;rw[HEX,if_neg (fun h=>e2' h.2),if_pos e1',km,km]
    go_wp2;go_ret;exact⟨by rw[HE2];rfl,HB2⟩
   have e1':¬tx x1=tx y1:=by rw[←km,←km];exact e1
   have b1:(x1.toList==y1.toList)=false:=by rw[beq_eq_false_iff_ne];exact e1
   have HE2:Hid (kV l m=dW x1.toList y1.toList):=by show _=_;rw[HEX,if_neg (fun h=>e1' h.1),if_neg e1',km,km]
   go_wp2;go_ret;exact⟨by rw[HE2];rfl,HB2⟩
  have d2:((k:Int)==(m.length:Int))=true:=TQ;have HE2:Hid (kV l m=false):=by show _=_;rw[HE,HD1,show m.drop k=[]from ei jS];rfl
  have d2':(k==m.length)=true:=TQ;generalize k7 l k=x at*
  have HB2:=ah (jP HB (.cells #[jL x.1,jL x.2] 71));go_wp2;go_ret;exact⟨by rw[HE2];rfl,HB2⟩
 have d1:decide ((k:Int)<l.length)=false:=mO
 have d1':decide (k<l.length)=false:=mO
 have HE2:Hid (kV l m=decide (l.length<m.length)):=by
  show _=_;rw[HE,ei jS];show(!(m.drop k).isEmpty)=_;rw[gU]
  cases e:m.drop k with
  |nil=>have:=congrArg ez e;rw[dr]at this;simp at this;simp;omega
  |cons y t=>have:=congrArg ez e;rw[dr]at this;simp at this;simp;omega
 go_wp2
 go_ret
 exact⟨jU (by rw[HE2]),HB⟩
variable{K:Act→jC→Prop}
theorem tg{E:Prop}(hgd:o.guard=none)(s x:bl7)(t:jH)
 (ho:o.op=.call {callee:=.builtin .append,args:=#[s,x],argTypes:=#[t,t]})
 (base:Nat) (e:jH) (i:TypeInfo) (z:jD) (size bytes:Nat) (ht:P.underlying t=some (.slice e)) (hi:P.info? e=some i) (hz:i.zero=some z)
 (hsize:i.size=size) (hby:i.bytes=bytes) (hzs:z.cells.size=size) (hsz:0<size)
 (v:jD) (n:Nat) (xs:List jD) (hs:a.eval s=v) (hown:w.ownsRow base e size v n xs)
 (B:Nat) (A:Option jG) (m c:Nat) (news:List jD) (hx:a.eval x=.slice A m c) (hm:news.length=m*size) (hr:Rd w B A news) (h1:∀u∈news,u.oneCell'=true)
 (h63:n+m≤maxLen) (hbytes:(n+m)*bytes≤140737488355328) (hbase:base≤w.heap.size)
 (h:∀A' c' w',w'.ownsRow base e size (.slice A' (n+m) c') (n+m) (xs++news)→w.grownBy w' v.ownBlock→K (a.put o.dst (.slice A' (n+m) c')) w'):
 if eQ o (yielded ops a.tmps)=true then je P o a w K Q else E:=by
 have hw:eQ o (yielded ops a.tmps)=true:=by simp[eQ,hgd]
 rw[if_pos hw]
 obtain⟨v',w',hrun,h2,h3,h4⟩:=rg (P:=P) w base t o.type e i z size bytes ht hi hz hsize hby hzs hsz v n xs hown B A m c news hm hr h1 h63 hbytes hbase
 obtain⟨A',c',rfl,_⟩:=lB h2
 unfold je execOp
 simp only[ho,resolve,invoke,builtin,eT,fX,iF,List.map_toArray,df,jA,hs,hx,hrun]
 exact h A' c' w' h2 h3
theorem Tryz.Mc:(Tryz.prog.info? 71).map (fun i=>(i.zero,i.size,i.bytes))=some (some (.agg #[aF,aF]),2,32):=by kernel_rfl
theorem AW(l:List kI)(x:kI):k_ (l++[x])=k_ l++[.string x.1,.string x.2]:=by simp[k_]
theorem JJ{cs:List jD}(h:jR w g t cs.toArray):Rd w (g+1) (aC g) cs:=fun _=>
 ⟨g,0,rfl,fA _,fun j u hj=>by rw[au,h.cell];simpa using hj⟩
variable{B:Nat}
theorem CR(h:w.ownsRow B 71 2 v n xs):∃A c,v=.slice A n c:=by
 obtain⟨_,⟨h,e⟩|⟨g,cap,cur,hv,_⟩⟩:=h
 ·subst e;exact⟨none,0,h⟩
 exact⟨_,_,hv⟩
theorem TV(h:w.ownsRow B 71 2 v n xs):∀g,v.ownBlock=some g→B≤g∧∃c fz,w.heap[g]? =some (.cells c 71 fz):=by
 intro g hg;obtain⟨_,⟨h,e⟩|⟨r,cap,cur,hv,hb,hh,_⟩⟩:=h
 ·subst h;cases hg
 subst hv;cases hg;exact⟨hb,_,_,hh⟩
section
attribute [local go_sem] db
theorem lf{sz:Nat}(h:W.ownsRow B t sz v n xs)(hb:Below W W W'):W'.ownsRow B t sz v n xs:=
 h.kept (row:=none) ⟨hb.os,hb.tape,hb.output,hb.size,fun i hi _=>hb.block i hi⟩ (by
  cases e:v.ownBlock with
  |none=>exact .inl rfl
  |some r=>exact .inr (by simp))
theorem zR(l:List UInt8):(jf l.toArray).size=l.length:=by simp[iG]
theorem oL{a b:ByteArray}(h:a.size+b.size≤1000000):fK .add a b=pure (.string (a++b)):=by
 rw[fK,if_neg];show¬((a.size+b.size:Nat):Int)>9223372036854775807;omega
end
theorem Xe{r cap:Nat}(h:w.ownsRow B 71 2 (.slice (aC r) n cap) n (k_ l)):Lb w w (aC r) l:=fun _=>
 ⟨r,0,rfl,(h.lt r rfl).2,fun j u hj=>by
  rw[au,h.cellAt j (by rw[←h.1];exact(ci.1 hj).1)];exact hj⟩
instance(x0:jC):CoeOut (sH 43 x0) jG:=⟨fun _=>⟨x0.heap.size,0,none⟩⟩
structure SdE(x0:jC) where
def dE(x0:jC):SdE x0:=⟨⟩
instance(x0:jC):CoeOut (SdE x0) Nat:=⟨fun _=>(x0.heap.size+1)⟩
end Go.Proofs.YtfcnedcahoifoaaGreatDoor
