/- Own work. -/
import Derived.Test.YtbmbnippbldmfaaGreatDoorSn15
import Derived.Shelf.Strings.Builder1
import Derived.Shelf.Strings.Builder2
import Derived.Shelf.Strings.OnBuilder
import Derived.Shelf.Small.Bits
import Derived.Shelf.Strings.BuilderF
import Derived.Shelf.Strings.BuilderK
import Derived.Shelf.Strings.Builder2Cap
import Derived.Shelf.Strconv.Atoi
import Derived.Shelf.Strconv.Itoa0
import Derived.Shelf.Strconv.Itoa1
import Derived.Shelf.LaysM
import Derived.Shelf.Strconv.Itoa2
import Derived.Shelf.Strconv.Itoa3
import Derived.Shelf.Strconv.AtoiErrFast
import Derived.Shelf.Strconv.ParseIntEmpty
import Derived.Shelf.Strconv.AtoiFail
import Derived.Shelf.Strconv.Clone
import Derived.Shelf.Strconv.SyntaxError
import Derived.Shelf.LaysC
import Derived.Shelf.Strconv.ToError
import Derived.Shelf.Strconv.Lower
import Derived.Shelf.Strconv.ParseUint10
import Derived.Shelf.Strconv.ParseUint10Empty
import Derived.Shelf.Strconv.ParseUint10Any
import Derived.Shelf.Strconv.ParseInt10
import Derived.Shelf.Strconv.AtoiLong
import Derived.Shelf.Strconv.AtoiInnerAll
import Derived.Shelf.Strconv.RangeError
import Derived.Shelf.Strconv.ToErrorRange
import Derived.Shelf.Strconv.AtoiAll
import Derived.Shelf.Strconv.ErrVarAll
import Derived.Shelf.Sort.Plain
import Derived.Shelf.Strings.Prefix
import Derived.Shelf.Bits.Mul64
import Derived.Shelf.Strings.Repeat
import Derived.Shelf.Strings.BuilderCap
import Derived.Ground.Names2Prog
import Derived.Shelf.Slices.CompactI
import Derived.Shelf.Slices.In.SortNone
import Derived.Test.YtbmbnippbldmfaaGreatDoorProg
import Derived.WideLaws
import Derived.Lib.MinMax
set_option maxHeartbeats 64000000
namespace Go.Fw
open Go.Sp
open Go
section
variable {P:Program}{N:Nat}{ds:List Deferred}{Q:Exit->Act->World->Prop}{l:Log}{w:World}{ops:Array Oper}{os:List Oper}
variable {d:Nat}{ty:TypeId}{pos:String}{af:Array Edge}{g:Option (Nat×Bool)}{t t':TypeId}{x y:Operand}
theorem B7v {te:TypeId}{pe:Value}{c:Value} (hw:U4 ops l ⟨some d,.binOp .neq t x (.const c) t',ty,pos,af,g⟩=some true) (hN:Nat.blt d N=true)
  (hx:ev l x=some (.iface te pe)) (hc:c=.nilIface) (ht:P.underlying t=some (.interface (P.methodsAt t))) (k:WL P N ds ops Q os ((d,.bool true)::l) w):
  WL P N ds ops Q (⟨some d,.binOp .neq t x (.const c) t',ty,pos,af,g⟩::os) l w:=
 U6 rfl hw hN (fun a ha=>by
  subst hc;have h:=run_neq_held_nil (P:=P) w t te pe ht;have e2:a.eval (.const .nilIface)=.nilIface:=rfl;simp[execOp,ha.ev hx,e2,eqGuard,h]) k
theorem B1X {c:Value} (hw:U4 ops l ⟨some d,.binOp .neq t x (.const c) t',ty,pos,af,g⟩=some true) (hN:Nat.blt d N=true)
  (hx:ev l x=some .nilIface) (hc:c=.nilIface) (ht:P.underlying t=some (.interface (P.methodsAt t))) (k:WL P N ds ops Q os ((d,.bool false)::l) w):
  WL P N ds ops Q (⟨some d,.binOp .neq t x (.const c) t',ty,pos,af,g⟩::os) l w:=
 U6 rfl hw hN (fun a ha=>by
  subst hc;have h:=run_equal_nil_nil (P:=P) w t ht;have e2:a.eval (.const .nilIface)=.nilIface:=rfl;simp[execOp,ha.ev hx,e2,eqGuard,binOp,h]) k
end
section
variable {P:Program}{N:Nat}{ds:List Deferred}{Q:Exit->Act->World->Prop}{K:Act->World->Prop}{l:Log}{w:World}{ops:Array Oper}{os:List Oper}
variable {d:Nat}{ty:TypeId}{pos:String}{af:Array Edge}{g:Option (Nat×Bool)}{t t':TypeId}{x y:Operand}
theorem C64 {ts:Array TypeId}{a b:Nat} (hw:U4 ops l ⟨some d,.call ⟨.builtin .max, #[x,y],ts⟩,ty,pos,af,g⟩=some true) (hN:Nat.blt d N=true)
  (hx:ev l x=some (.int .i64 (a:Int))) (hy:ev l y=some (.int .i64 (b:Int))) (k:WL P N ds ops Q os ((d,.int .i64 ((max a b:Nat):Int))::l) w):
  WL P N ds ops Q (⟨some d,.call ⟨.builtin .max, #[x,y],ts⟩,ty,pos,af,g⟩::os) l w:=
 U6 rfl hw hN (fun c hc=>by
  have h:=Lib.run_max_ints (P:=P) w ts ty .i64 .i64 (a:Int) (b:Int);simp[execOp,resolve,invoke,builtin,hc.ev hx,hc.ev hy,h]
  omega) k
theorem A9a {ts:Array TypeId}{a b:Nat} (hw:U4 ops l ⟨some d,.call ⟨.builtin .max, #[x,y],ts⟩,ty,pos,af,g⟩=some true) (hN:Nat.blt d N=true)
  (hx:ev l x=some (.int .i64 (a:Int))) (hy:ev l y=some (.int .i64 (b:Int))) (k:WQ P N ds ops w K os ((d,.int .i64 ((max a b:Nat):Int))::l)):
  WQ P N ds ops w K (⟨some d,.call ⟨.builtin .max, #[x,y],ts⟩,ty,pos,af,g⟩::os) l:=
 A0X rfl hw hN (fun w' hkq c hc=>by
  have h:=Lib.run_max_ints (P:=P) w' ts ty .i64 .i64 (a:Int) (b:Int);simp[execOp,resolve,invoke,builtin,hc.ev hx,hc.ev hy,h]
  omega) k
end
end Go.Fw
namespace Go.Proofs
open Go.Proofs.Tryz
open Go.Sp
open Go.Shelf
def Tryz.lays156_ren:Go.Shelf.Ren:=⟨fun|156=>97|165=>127|166=>67|169=>39|240=>98|241=>159|276=>128|277=>189|n=>n,fun|31=>178|9=>9|3=>3|4=>4|0=>0|20=>20|72=>91|76=>155|70=>88|37=>89|75=>154|127=>158|164=>225|5=>5|80=>96|n=>n,fun|n=>n⟩
theorem Tryz.lays156:Go.Proofs.Lays.n156 prog Tryz.lays156_ren:= {
 mixed:=by kernel_rfl
 f156:=func97.trans (congrArg some (by kernel_rfl))
 f165:=func127.trans (congrArg some (by kernel_rfl))
 f166:=func67.trans (congrArg some (by kernel_rfl))
 f169:=func39.trans (congrArg some (by kernel_rfl))
 f240:=func98.trans (congrArg some (by kernel_rfl))
 f241:=func159.trans (congrArg some (by kernel_rfl))
 f276:=func128.trans (congrArg some (by kernel_rfl))
 f277:=func189.trans (congrArg some (by kernel_rfl))
 t0:=underlying0
 a0:=isAgg0
 z0:=sizeOf0
 v0:=zeroValue0
 t3:=underlying3
 a3:=isAgg3
 z3:=sizeOf3
 v3:=zeroValue3
 t4:=underlying4
 a4:=isAgg4
 z4:=sizeOf4
 v4:=zeroValue4
 t9:=underlying9
 a9:=isAgg9
 z9:=sizeOf9
 v9:=zeroValue9
 t20:=underlying20
 a20:=isAgg20
 z20:=sizeOf20
 v20:=zeroValue20
 t31:=underlying178
 a31:=isAgg178
 z31:=sizeOf178
 v31:=zeroValue178
 t37:=underlying89
 a37:=isAgg89
 z37:=sizeOf89
 v37:=zeroValue89
 t70:=underlying88
 a70:=isAgg88
 z70:=sizeOf88
 v70:=zeroValue88
 t72:=underlying91
 a72:=isAgg91
 z72:=sizeOf91
 v72:=zeroValue91
 t75:=underlying154
 a75:=isAgg154
 z75:=sizeOf154
 v75:=zeroValue154
 t76:=underlying155
 a76:=isAgg155
 z76:=sizeOf155
 v76:=zeroValue155
 t127:=underlying158
 a127:=isAgg158
 z127:=sizeOf158
 v127:=zeroValue158
 t164:=underlying225
 a164:=isAgg225
 z164:=sizeOf225
 v164:=zeroValue225}
theorem Tryz.Builder_Extra_156:Builder.Extra prog Tryz.lays156_ren:= {
 sizeBuilder:=by kernel_rfl
 liesBuilder:=by kernel_rfl
 t5:=underlying5
 a5:=isAgg5
 z5:=sizeOf5
 v5:=zeroValue5
 infoByte:=by kernel_rfl
 cellsByte:=by kernel_rfl
 sizeByte:=by kernel_rfl
 neB5:=by decide}
open Go.RowKit in
theorem Tryz.strings_Join_none (a:Option Addr) (c:Nat) (sep:ByteArray) (w:World):
  Calls prog 97 #[.slice a 0 c,.string sep] w fun e w'=>e=.returned (.string ⟨#[]⟩)∧w'=w:=Any.strings_Join_none Tryz.lays156 Tryz.Builder_Extra_156 a c sep w
open Go.RowKit in
theorem Tryz.strings_Join (bk o c:Nat) (xs:List ByteArray) (sep:ByteArray) (w:World) (hcells:∀(j:Nat) x,xs[j]?=some x→w.cell? ⟨bk,o+j,none⟩=some (.string x)) (hbk:bk<w.heap.size) (hN:xs.length≤140737488355328) (hcap:xs.length≤c) (hlen:(Lib.join (xs.map (·.data.toList)) sep.data.toList).length≤140737488355328):
  Calls prog 97 #[.slice (some ⟨bk,o,none⟩) xs.length c,.string sep] w fun e w'=>e=.returned (.string ⟨(Lib.join (xs.map (·.data.toList)) sep.data.toList).toArray⟩)∧Below w.heap.size w w':=Any.strings_Join Tryz.lays156 Tryz.Builder_Extra_156 bk o c xs sep w hcells hbk hN hcap hlen
def Tryz.laysM171_ren:Go.Shelf.Ren:=⟨fun|171=>160|243=>190|246=>201|283=>206|284=>207|285=>208|286=>209|129=>152|317=>214|318=>215|319=>216|320=>217|337=>220|338=>221|n=>n,fun|3=>3|9=>9|2=>2|4=>4|171=>289|0=>0|53=>250|37=>89|5=>5|173=>291|212=>296|51=>248|20=>20|213=>297|46=>216|232=>305|233=>306|n=>n,fun|17=>1|18=>2|19=>3|n=>n⟩
theorem Tryz.laysM171:Go.Proofs.LaysM.n171 prog Tryz.laysM171_ren:= {
 mixed:=by kernel_rfl
 f129:=func152.trans (congrArg some (by kernel_rfl))
 f171:=func160.trans (congrArg some (by kernel_rfl))
 f243:=func190.trans (congrArg some (by kernel_rfl))
 f246:=func201.trans (congrArg some (by kernel_rfl))
 f283:=func206.trans (congrArg some (by kernel_rfl))
 f284:=func207.trans (congrArg some (by kernel_rfl))
 f285:=func208.trans (congrArg some (by kernel_rfl))
 f286:=func209.trans (congrArg some (by kernel_rfl))
 f317:=func214.trans (congrArg some (by kernel_rfl))
 f318:=func215.trans (congrArg some (by kernel_rfl))
 f319:=func216.trans (congrArg some (by kernel_rfl))
 f320:=func217.trans (congrArg some (by kernel_rfl))
 f337:=func220.trans (congrArg some (by kernel_rfl))
 f338:=func221.trans (congrArg some (by kernel_rfl))
 t0:=underlying0
 a0:=isAgg0
 z0:=sizeOf0
 v0:=zeroValue0
 t2:=underlying2
 a2:=isAgg2
 z2:=sizeOf2
 v2:=zeroValue2
 t3:=underlying3
 a3:=isAgg3
 z3:=sizeOf3
 v3:=zeroValue3
 t4:=underlying4
 a4:=isAgg4
 z4:=sizeOf4
 v4:=zeroValue4
 t5:=underlying5
 a5:=isAgg5
 z5:=sizeOf5
 v5:=zeroValue5
 t9:=underlying9
 a9:=isAgg9
 z9:=sizeOf9
 v9:=zeroValue9
 t20:=underlying20
 a20:=isAgg20
 z20:=sizeOf20
 v20:=zeroValue20
 t37:=underlying89
 a37:=isAgg89
 z37:=sizeOf89
 v37:=zeroValue89
 t46:=underlying216
 a46:=isAgg216
 z46:=sizeOf216
 v46:=zeroValue216
 t51:=underlying248
 a51:=isAgg248
 z51:=sizeOf248
 v51:=zeroValue248
 t53:=underlying250
 a53:=isAgg250
 z53:=sizeOf250
 v53:=zeroValue250
 t171:=underlying289
 a171:=isAgg289
 z171:=sizeOf289
 v171:=zeroValue289
 t173:=underlying291
 a173:=isAgg291
 z173:=sizeOf291
 v173:=zeroValue291
 t212:=underlying296
 a212:=isAgg296
 z212:=sizeOf296
 v212:=zeroValue296
 t213:=underlying297
 a213:=isAgg297
 z213:=sizeOf297
 t232:=underlying305
 a232:=isAgg305
 z232:=sizeOf305
 v232:=zeroValue305
 t233:=underlying306
 a233:=isAgg306
 z233:=sizeOf306
 v233:=zeroValue306
 g17:=by kernel_rfl
 g18:=by kernel_rfl
 g19:=by kernel_rfl
 i0:=by kernel_rfl
 i2:=by kernel_rfl
 i3:=by kernel_rfl
 i4:=by kernel_rfl
 i5:=by kernel_rfl
 i9:=by kernel_rfl
 i20:=by kernel_rfl
 i37:=by kernel_rfl
 i46:=by kernel_rfl
 i51:=by kernel_rfl
 i53:=by kernel_rfl
 i171:=by kernel_rfl
 i173:=by kernel_rfl
 i212:=by kernel_rfl
 i232:=by kernel_rfl
 i233:=by kernel_rfl
 m17:=by kernel_rfl
 m18:=by kernel_rfl
 m19:=by kernel_rfl}
open Go.RowKit Go.Sort Go.Lib in
theorem Tryz.strconv_Itoa (n : Int) (h0 : -9223372036854775808 ≤ n) (h1 : n ≤ 9223372036854775807) (w : World) (htab : Lib.TabIs prog w "internal/strconv.uint64pow10" .u64 Lib.pow10Tab) :
  Calls prog 160 #[.int .i64 n] w fun e w'=>e=.returned (.string ⟨(Lib.itoa n).toArray⟩)∧∃k os,w'=grow (w.drewN k) os:=Any.strconv_Itoa Tryz.laysM171 n h0 h1 w htab
def Tryz.laysC172_ren:Go.Shelf.Ren:=⟨fun|172=>212|244=>218|245=>219|247=>222|279=>223|280=>224|281=>225|282=>226|287=>227|316=>228|171=>160|205=>229|321=>230|322=>231|243=>190|246=>201|283=>206|284=>207|285=>208|286=>209|129=>152|317=>214|318=>215|319=>216|320=>217|337=>220|338=>221|n=>n,fun|9=>9|3=>3|75=>154|76=>155|4=>4|5=>5|167=>299|37=>89|0=>0|85=>300|2=>2|168=>302|53=>250|175=>307|46=>216|210=>311|127=>158|145=>316|143=>314|21=>21|171=>289|173=>291|212=>296|51=>248|20=>20|213=>297|232=>305|233=>306|80=>96|n=>n,fun|15=>4|16=>5|17=>1|18=>2|19=>3|n=>n⟩
theorem Tryz.laysC172:Go.Proofs.LaysC.n172 prog Tryz.laysC172_ren:= {
 mixed:=by kernel_rfl
 f129:=func152.trans (congrArg some (by kernel_rfl))
 f171:=func160.trans (congrArg some (by kernel_rfl))
 f172:=func212.trans (congrArg some (by kernel_rfl))
 f205:=func229.trans (congrArg some (by kernel_rfl))
 f243:=func190.trans (congrArg some (by kernel_rfl))
 f244:=func218.trans (congrArg some (by kernel_rfl))
 f245:=func219.trans (congrArg some (by kernel_rfl))
 f246:=func201.trans (congrArg some (by kernel_rfl))
 f247:=func222.trans (congrArg some (by kernel_rfl))
 f279:=func223.trans (congrArg some (by kernel_rfl))
 f280:=func224.trans (congrArg some (by kernel_rfl))
 f281:=func225.trans (congrArg some (by kernel_rfl))
 f282:=func226.trans (congrArg some (by kernel_rfl))
 f283:=func206.trans (congrArg some (by kernel_rfl))
 f284:=func207.trans (congrArg some (by kernel_rfl))
 f285:=func208.trans (congrArg some (by kernel_rfl))
 f286:=func209.trans (congrArg some (by kernel_rfl))
 f287:=func227.trans (congrArg some (by kernel_rfl))
 f316:=func228.trans (congrArg some (by kernel_rfl))
 f317:=func214.trans (congrArg some (by kernel_rfl))
 f318:=func215.trans (congrArg some (by kernel_rfl))
 f319:=func216.trans (congrArg some (by kernel_rfl))
 f320:=func217.trans (congrArg some (by kernel_rfl))
 f321:=func230.trans (congrArg some (by kernel_rfl))
 f322:=func231.trans (congrArg some (by kernel_rfl))
 f337:=func220.trans (congrArg some (by kernel_rfl))
 f338:=func221.trans (congrArg some (by kernel_rfl))
 t0:=underlying0
 a0:=isAgg0
 z0:=sizeOf0
 v0:=zeroValue0
 t2:=underlying2
 a2:=isAgg2
 z2:=sizeOf2
 v2:=zeroValue2
 t3:=underlying3
 a3:=isAgg3
 z3:=sizeOf3
 v3:=zeroValue3
 t4:=underlying4
 a4:=isAgg4
 z4:=sizeOf4
 v4:=zeroValue4
 t5:=underlying5
 a5:=isAgg5
 z5:=sizeOf5
 v5:=zeroValue5
 t9:=underlying9
 a9:=isAgg9
 z9:=sizeOf9
 v9:=zeroValue9
 t20:=underlying20
 a20:=isAgg20
 z20:=sizeOf20
 v20:=zeroValue20
 t21:=underlying21
 a21:=isAgg21
 z21:=sizeOf21
 v21:=zeroValue21
 t37:=underlying89
 a37:=isAgg89
 z37:=sizeOf89
 v37:=zeroValue89
 t46:=underlying216
 a46:=isAgg216
 z46:=sizeOf216
 v46:=zeroValue216
 t51:=underlying248
 a51:=isAgg248
 z51:=sizeOf248
 v51:=zeroValue248
 t53:=underlying250
 a53:=isAgg250
 z53:=sizeOf250
 v53:=zeroValue250
 t75:=underlying154
 a75:=isAgg154
 z75:=sizeOf154
 v75:=zeroValue154
 t76:=underlying155
 a76:=isAgg155
 z76:=sizeOf155
 v76:=zeroValue155
 t85:=underlying300
 a85:=isAgg300
 z85:=sizeOf300
 v85:=zeroValue300
 t127:=underlying158
 a127:=isAgg158
 z127:=sizeOf158
 v127:=zeroValue158
 t143:=underlying314
 a143:=isAgg314
 z143:=sizeOf314
 v143:=zeroValue314
 t145:=underlying316
 a145:=isAgg316
 z145:=sizeOf316
 v145:=zeroValue316
 t167:=underlying299
 a167:=isAgg299
 z167:=sizeOf299
 v167:=zeroValue299
 t168:=underlying302
 a168:=isAgg302
 z168:=sizeOf302
 v168:=zeroValue302
 t171:=underlying289
 a171:=isAgg289
 z171:=sizeOf289
 v171:=zeroValue289
 t173:=underlying291
 a173:=isAgg291
 z173:=sizeOf291
 v173:=zeroValue291
 t175:=underlying307
 a175:=isAgg307
 z175:=sizeOf307
 v175:=zeroValue307
 t210:=underlying311
 a210:=isAgg311
 z210:=sizeOf311
 v210:=zeroValue311
 t212:=underlying296
 a212:=isAgg296
 z212:=sizeOf296
 v212:=zeroValue296
 t213:=underlying297
 a213:=isAgg297
 z213:=sizeOf297
 t232:=underlying305
 a232:=isAgg305
 z232:=sizeOf305
 v232:=zeroValue305
 t233:=underlying306
 a233:=isAgg306
 z233:=sizeOf306
 v233:=zeroValue306
 g15:=by kernel_rfl
 g16:=by kernel_rfl
 g17:=by kernel_rfl
 g18:=by kernel_rfl
 g19:=by kernel_rfl
 t80:=underlying96
 a80:=isAgg96
 z80:=sizeOf96
 v80:=zeroValue96
 i0:=by kernel_rfl
 i2:=by kernel_rfl
 i3:=by kernel_rfl
 i4:=by kernel_rfl
 i5:=by kernel_rfl
 i9:=by kernel_rfl
 i20:=by kernel_rfl
 i21:=by kernel_rfl
 i37:=by kernel_rfl
 i46:=by kernel_rfl
 i51:=by kernel_rfl
 i53:=by kernel_rfl
 i75:=by kernel_rfl
 i76:=by kernel_rfl
 i80:=by kernel_rfl
 i85:=by kernel_rfl
 i127:=by kernel_rfl
 i143:=by kernel_rfl
 i145:=by kernel_rfl
 i167:=by kernel_rfl
 i168:=by kernel_rfl
 i171:=by kernel_rfl
 i173:=by kernel_rfl
 i175:=by kernel_rfl
 i210:=by kernel_rfl
 i212:=by kernel_rfl
 i232:=by kernel_rfl
 i233:=by kernel_rfl
 m15:=by kernel_rfl
 m16:=by kernel_rfl
 m17:=by kernel_rfl
 m18:=by kernel_rfl
 m19:=by kernel_rfl
 c0:=by kernel_rfl
 c2:=by kernel_rfl
 c3:=by kernel_rfl
 c4:=by kernel_rfl
 c5:=by kernel_rfl
 c9:=by kernel_rfl
 c20:=by kernel_rfl
 c21:=by kernel_rfl
 c37:=by kernel_rfl
 c46:=by kernel_rfl
 c51:=by kernel_rfl
 c53:=by kernel_rfl
 c75:=by kernel_rfl
 c76:=by kernel_rfl
 c80:=by kernel_rfl
 c85:=by kernel_rfl
 c127:=by kernel_rfl
 c143:=by kernel_rfl
 c145:=by kernel_rfl
 c167:=by kernel_rfl
 c168:=by kernel_rfl
 c171:=by kernel_rfl
 c173:=by kernel_rfl
 c175:=by kernel_rfl
 c210:=by kernel_rfl
 c212:=by kernel_rfl
 c213:=by kernel_rfl
 c232:=by kernel_rfl
 c233:=by kernel_rfl}
open Go.RowKit in
theorem Tryz.strconv_Atoi_ok (s:ByteArray) (hmax:s.size≤9223372036854775806) (v:Int) (h:Lib.atoiAll s.data.toList=.ok v) (w:World):
  Calls prog 212 #[.string s] w fun e w'=>e=.returned (.tuple #[.int .i64 v,.nilIface])∧(w'=w∨∃t,w'=Lib.bytesWorld w 5 t):=Any.strconv_Atoi_ok Tryz.laysC172 s hmax v h w
open Go.RowKit in
theorem Tryz.strconv_Atoi_range (s:ByteArray) (hlim:s.size≤281474976710656) (h:Lib.atoiAll s.data.toList=.range) (ev:Value) (w:World) (hv:w.cell? ⟨5,0,none⟩=some ev) (hev:ev=.nilIface∨∃te pe,ev=.iface te pe):
  Calls prog 212 #[.string s] w fun e w'=> ∃N,e=.returned (.tuple #[.int .i64 (Lib.atoiSat s.data.toList),.iface 302 (.pointer (some ⟨N,0,none⟩))])∧w.heap.size≤N∧w'.heap[N]?=some (.cells #[.string ⟨#[65,116,111,105]⟩,.string s,ev] 311 (0,0))∧Below w.heap.size w w':=Any.strconv_Atoi_range Tryz.laysC172 s hlim h ev w hv hev
def Tryz.lays189_ren:Go.Shelf.Ren:=⟨fun|189=>85|125=>119|257=>118|128=>151|129=>152|294=>142|295=>143|296=>144|297=>145|298=>146|299=>147|216=>148|300=>149|301=>150|328=>180|329=>181|330=>182|331=>183|332=>184|215=>185|343=>200|n=>n,fun|28=>35|3=>3|46=>216|0=>0|51=>248|53=>250|4=>4|183=>242|182=>241|131=>51|5=>5|9=>9|218=>273|222=>45|228=>285|229=>231|n=>n,fun|n=>n⟩
theorem Tryz.lays189:Go.Proofs.Lays.n189 prog Tryz.lays189_ren:= {
 mixed:=by kernel_rfl
 f125:=func119.trans (congrArg some (by kernel_rfl))
 f128:=func151.trans (congrArg some (by kernel_rfl))
 f129:=func152.trans (congrArg some (by kernel_rfl))
 f189:=func85.trans (congrArg some (by kernel_rfl))
 f215:=func185.trans (congrArg some (by kernel_rfl))
 f216:=func148.trans (congrArg some (by kernel_rfl))
 f257:=func118.trans (congrArg some (by kernel_rfl))
 f294:=func142.trans (congrArg some (by kernel_rfl))
 f295:=func143.trans (congrArg some (by kernel_rfl))
 f296:=func144.trans (congrArg some (by kernel_rfl))
 f297:=func145.trans (congrArg some (by kernel_rfl))
 f298:=func146.trans (congrArg some (by kernel_rfl))
 f299:=func147.trans (congrArg some (by kernel_rfl))
 f300:=func149.trans (congrArg some (by kernel_rfl))
 f301:=func150.trans (congrArg some (by kernel_rfl))
 f328:=func180.trans (congrArg some (by kernel_rfl))
 f329:=func181.trans (congrArg some (by kernel_rfl))
 f330:=func182.trans (congrArg some (by kernel_rfl))
 f331:=func183.trans (congrArg some (by kernel_rfl))
 f332:=func184.trans (congrArg some (by kernel_rfl))
 f343:=func200.trans (congrArg some (by kernel_rfl))
 t0:=underlying0
 a0:=isAgg0
 z0:=sizeOf0
 v0:=zeroValue0
 t3:=underlying3
 a3:=isAgg3
 z3:=sizeOf3
 v3:=zeroValue3
 t4:=underlying4
 a4:=isAgg4
 z4:=sizeOf4
 v4:=zeroValue4
 t5:=underlying5
 a5:=isAgg5
 z5:=sizeOf5
 v5:=zeroValue5
 t9:=underlying9
 a9:=isAgg9
 z9:=sizeOf9
 v9:=zeroValue9
 t28:=underlying35
 a28:=isAgg35
 z28:=sizeOf35
 v28:=zeroValue35
 t46:=underlying216
 a46:=isAgg216
 z46:=sizeOf216
 v46:=zeroValue216
 t51:=underlying248
 a51:=isAgg248
 z51:=sizeOf248
 v51:=zeroValue248
 t53:=underlying250
 a53:=isAgg250
 z53:=sizeOf250
 v53:=zeroValue250
 t131:=underlying51
 a131:=isAgg51
 z131:=sizeOf51
 v131:=zeroValue51
 t182:=underlying241
 a182:=isAgg241
 z182:=sizeOf241
 v182:=zeroValue241
 t183:=underlying242
 a183:=isAgg242
 z183:=sizeOf242
 v183:=zeroValue242
 t218:=underlying273
 a218:=isAgg273
 z218:=sizeOf273
 v218:=zeroValue273
 t222:=underlying45
 a222:=isAgg45
 z222:=sizeOf45
 v222:=zeroValue45
 t228:=underlying285
 a228:=isAgg285
 z228:=sizeOf285
 v228:=zeroValue285
 t229:=underlying231
 a229:=isAgg231
 z229:=sizeOf231
 v229:=zeroValue231}
open Go.Sort Go.RowKit in
theorem Tryz.slices_Sort_int (blk off cap:Nat) (zs:List Int) (w:World) (hH:Holds (Value.int .i64) w blk off zs.toArray) (hblk:blk<w.heap.size) (hsz:zs.length<4611686018427387904):
  Calls prog 85 #[.slice (some ⟨blk,off,none⟩) zs.length cap] w fun e w'=>
   e=.returned (.tuple #[])∧∃n os,w'=grow (putRow (Value.int .i64) (Sort.ahead w n) blk off (zs.mergeSort fun x y=>decide (x≤y)).toArray) os:=Any.slices_Sort_int Tryz.lays189 blk off cap zs w hH hblk hsz
def Tryz.lays105_ren:Go.Shelf.Ren:=⟨fun|105=>100|212=>130|99=>131|165=>127|166=>67|170=>132|169=>39|263=>163|264=>164|206=>165|240=>98|241=>159|276=>128|277=>189|n=>n,fun|9=>9|3=>3|4=>4|20=>20|0=>0|46=>216|109=>228|5=>5|72=>91|76=>155|51=>248|146=>259|53=>250|148=>261|70=>88|37=>89|75=>154|127=>158|164=>225|80=>96|n=>n,fun|n=>n⟩
theorem Tryz.lays105:Go.Proofs.Lays.n105 prog Tryz.lays105_ren:= {
 mixed:=by kernel_rfl
 f99:=func131.trans (congrArg some (by kernel_rfl))
 f105:=func100.trans (congrArg some (by kernel_rfl))
 f165:=func127.trans (congrArg some (by kernel_rfl))
 f166:=func67.trans (congrArg some (by kernel_rfl))
 f169:=func39.trans (congrArg some (by kernel_rfl))
 f170:=func132.trans (congrArg some (by kernel_rfl))
 f206:=func165.trans (congrArg some (by kernel_rfl))
 f212:=func130.trans (congrArg some (by kernel_rfl))
 f240:=func98.trans (congrArg some (by kernel_rfl))
 f241:=func159.trans (congrArg some (by kernel_rfl))
 f263:=func163.trans (congrArg some (by kernel_rfl))
 f264:=func164.trans (congrArg some (by kernel_rfl))
 f276:=func128.trans (congrArg some (by kernel_rfl))
 f277:=func189.trans (congrArg some (by kernel_rfl))
 t0:=underlying0
 a0:=isAgg0
 z0:=sizeOf0
 v0:=zeroValue0
 t3:=underlying3
 a3:=isAgg3
 z3:=sizeOf3
 v3:=zeroValue3
 t4:=underlying4
 a4:=isAgg4
 z4:=sizeOf4
 v4:=zeroValue4
 t5:=underlying5
 a5:=isAgg5
 z5:=sizeOf5
 v5:=zeroValue5
 t9:=underlying9
 a9:=isAgg9
 z9:=sizeOf9
 v9:=zeroValue9
 t20:=underlying20
 a20:=isAgg20
 z20:=sizeOf20
 v20:=zeroValue20
 t37:=underlying89
 a37:=isAgg89
 z37:=sizeOf89
 v37:=zeroValue89
 t46:=underlying216
 a46:=isAgg216
 z46:=sizeOf216
 v46:=zeroValue216
 t51:=underlying248
 a51:=isAgg248
 z51:=sizeOf248
 v51:=zeroValue248
 t53:=underlying250
 a53:=isAgg250
 z53:=sizeOf250
 v53:=zeroValue250
 t70:=underlying88
 a70:=isAgg88
 z70:=sizeOf88
 v70:=zeroValue88
 t72:=underlying91
 a72:=isAgg91
 z72:=sizeOf91
 v72:=zeroValue91
 t75:=underlying154
 a75:=isAgg154
 z75:=sizeOf154
 v75:=zeroValue154
 t76:=underlying155
 a76:=isAgg155
 z76:=sizeOf155
 v76:=zeroValue155
 t109:=underlying228
 a109:=isAgg228
 z109:=sizeOf228
 v109:=zeroValue228
 t127:=underlying158
 a127:=isAgg158
 z127:=sizeOf158
 v127:=zeroValue158
 t146:=underlying259
 a146:=isAgg259
 z146:=sizeOf259
 v146:=zeroValue259
 t148:=underlying261
 a148:=isAgg261
 z148:=sizeOf261
 v148:=zeroValue261
 t164:=underlying225
 a164:=isAgg225
 z164:=sizeOf225
 v164:=zeroValue225}
theorem Tryz.Builder_Extra_105:Builder.Extra prog Tryz.lays105_ren:= {
 sizeBuilder:=by kernel_rfl
 liesBuilder:=by kernel_rfl
 t5:=underlying5
 a5:=isAgg5
 z5:=sizeOf5
 v5:=zeroValue5
 infoByte:=by kernel_rfl
 cellsByte:=by kernel_rfl
 sizeByte:=by kernel_rfl
 neB5:=by decide}
open Go.RowKit Go.Lib in
theorem Tryz.strings_Repeat (s:ByteArray) (c:Nat) (w:World) (hc:c≤9223372036854775807) (hlen:s.size *c≤140737488355328):
  Calls prog 100 #[.string s,.int .i64 c] w fun e w'=>e=.returned (.string ⟨(Lib.repeatL s.data.toList c).toArray⟩)∧Below w.heap.size w w':=Any.strings_Repeat Tryz.lays105 Tryz.Builder_Extra_105 s c w hc hlen
def Tryz.laysNm220_ren:Go.Shelf.Ren:=⟨fun|20=>86|n=>n,fun|22=>35|3=>3|4=>4|0=>0|n=>n,fun|n=>n⟩
theorem Tryz.laysNm220:Go.Proofs.Lays2.n20 prog Tryz.laysNm220_ren:= {
 mixed:=by kernel_rfl
 f20:=func86.trans (congrArg some (by kernel_rfl))
 t0:=underlying0
 a0:=isAgg0
 z0:=sizeOf0
 v0:=zeroValue0
 t3:=underlying3
 a3:=isAgg3
 z3:=sizeOf3
 v3:=zeroValue3
 t4:=underlying4
 a4:=isAgg4
 z4:=sizeOf4
 v4:=zeroValue4
 t22:=underlying35
 a22:=isAgg35
 z22:=sizeOf35
 v22:=zeroValue35
 i3:=by kernel_rfl}
open Go.RowKit Go.Lib Go.Sort in
theorem Tryz.slices_Compact_int (blk off cap:Nat) (zs:List Int) (w:World) (hH:Holds (Value.int .i64) w blk off zs.toArray) (hsz:zs.length≤9223372036854775807) (hcap:zs.length≤cap):
  Calls prog 86 #[.slice (some ⟨blk,off,none⟩) zs.length cap] w fun e w'=>e=.returned (.slice (some ⟨blk,off,none⟩) (Lib.compact zs).length cap)∧∃q,w'=putRow (Value.int .i64) (Sort.ahead w q) blk off (Lib.compact zs++List.replicate (zs.length-(Lib.compact zs).length) 0).toArray:=Any.slices_Compact_int Tryz.laysNm220 blk off cap zs w hH hsz hcap
def Tryz.laysNm226_ren:Go.Shelf.Ren:=⟨fun|26=>174|33=>194|34=>195|38=>204|n=>n,fun|24=>178|9=>9|3=>3|4=>4|40=>216|0=>0|n=>n,fun|n=>n⟩
theorem Tryz.laysNm226:Go.Proofs.Lays2.n26 prog Tryz.laysNm226_ren:= {
 mixed:=by kernel_rfl
 f26:=func174.trans (congrArg some (by kernel_rfl))
 f33:=func194.trans (congrArg some (by kernel_rfl))
 f34:=func195.trans (congrArg some (by kernel_rfl))
 f38:=func204.trans (congrArg some (by kernel_rfl))
 t0:=underlying0
 a0:=isAgg0
 z0:=sizeOf0
 v0:=zeroValue0
 t3:=underlying3
 a3:=isAgg3
 z3:=sizeOf3
 v3:=zeroValue3
 t4:=underlying4
 a4:=isAgg4
 z4:=sizeOf4
 v4:=zeroValue4
 t9:=underlying9
 a9:=isAgg9
 z9:=sizeOf9
 v9:=zeroValue9
 t24:=underlying178
 a24:=isAgg178
 z24:=sizeOf178
 v24:=zeroValue178
 t40:=underlying216
 a40:=isAgg216
 z40:=sizeOf216
 v40:=zeroValue216}
def Tryz.laysNm222_ren:Go.Shelf.Ren:=⟨fun|22=>175|29=>196|30=>197|36=>205|17=>213|n=>n,fun|24=>178|9=>9|3=>3|4=>4|0=>0|n=>n,fun|n=>n⟩
theorem Tryz.laysNm222:Go.Proofs.Lays2.n22 prog Tryz.laysNm222_ren:= {
 mixed:=by kernel_rfl
 f17:=func213.trans (congrArg some (by kernel_rfl))
 f22:=func175.trans (congrArg some (by kernel_rfl))
 f29:=func196.trans (congrArg some (by kernel_rfl))
 f30:=func197.trans (congrArg some (by kernel_rfl))
 f36:=func205.trans (congrArg some (by kernel_rfl))
 t0:=underlying0
 a0:=isAgg0
 z0:=sizeOf0
 v0:=zeroValue0
 t3:=underlying3
 a3:=isAgg3
 z3:=sizeOf3
 v3:=zeroValue3
 t4:=underlying4
 a4:=isAgg4
 z4:=sizeOf4
 v4:=zeroValue4
 t9:=underlying9
 a9:=isAgg9
 z9:=sizeOf9
 v9:=zeroValue9
 t24:=underlying178
 a24:=isAgg178
 z24:=sizeOf178
 v24:=zeroValue178
 i9:=by kernel_rfl}
end Go.Proofs
namespace Go.Proofs
open Go.Proofs.Tryz
open Go.Sp
open Go.Fw
def Conv (I:P6):Prop:= ∃te pe c ty fr,I 5=some (.cells c ty fr)/\c[0]?=some (.iface te pe)
theorem Conv.le {I I':P6} (h:Conv I) (m:Le I I'):Conv I':=by
 obtain⟨te,pe,c,ty,fr,h1,h2⟩:=h;exact⟨te,pe,c,ty,fr,m _ _ h1,h2⟩
abbrev C73 (t:List UInt8) (I:P6):Value->P6->List HItem->Prop:=fun v I' H'=>I=I'/\H'= []/\
 ((A4v t<=1000000000/\v=.tuple #[nt (A4v t),.nilIface])\/(1000000000<A4v t/\∃(n:Int) (e:Value),v=.tuple #[.int .i64 n,e]/\((e=.nilIface/\1000000000<n)\/∃te pe,e=.iface te pe)))
theorem C66 {I:P6} (t:List UInt8) (hn:1<=t.length) (hl:t.length<=1048576) (hd:∀c∈t,48<=c.toNat/\c.toNat<=57) (hI:Conv I):
  CalM prog 212 #[str t] I [] (C73 t I):=by
 refine⟨fun w hm=>⟨?_⟩⟩
 have hsz:(⟨t.toArray⟩:ByteArray).size=t.length:=A2h t;obtain⟨h1,h2⟩:=B6E t hn hd;have okc:∀v:Int,Lib.atoiAll t=.ok v->Calls prog 212 #[str t] w (Ret (fun u w'=>u=.tuple #[.int .i64 v,.nilIface]/\Kept [] w w')):=fun v hv=>
  Calls.mono (Tryz.strconv_Atoi_ok ⟨t.toArray⟩ (by rw[hsz];omega) v (by simpa using hv) w) (fun e w' ⟨he,hw⟩=>by
   subst he;refine⟨rfl,?_⟩
   rcases hw with rfl|⟨b,rfl⟩
   ·exact Kept.refl _ _
   ·exact B8w _ _ _)
 rcases U0 1000000000 (A4v t) with hb|hb
 ·rcases h2 hb with h3|⟨v,hv,h3⟩
  ·obtain⟨te,pe,c,ty,fr,e1,e2⟩:=hI
   have hc:w.cell? ⟨5,0,none⟩=some (.iface te pe):=A2j (hm.inv _ _ e1) e2;exact Calls.mono (Tryz.strconv_Atoi_range ⟨t.toArray⟩ (by rw[hsz];omega) (by simpa using h3) _ w hc (.inr ⟨te,pe,rfl⟩)) (fun e w' ⟨n,he,_,_,hw⟩=>by
    subst he;exact⟨I,[],⟨rfl,rfl,.inr ⟨hb,_,_,rfl,.inr ⟨_,_,rfl⟩⟩⟩,hm.kept0 (Kept.of_below hw)⟩)
  ·exact Calls.mono (okc v h3) (fun e w' q=>by
    cases e with
    |returned u=>exact⟨I,[],⟨rfl,rfl,.inr ⟨hb,v,.nilIface,q.1,.inl ⟨rfl,hv⟩⟩⟩,hm.kept0 q.2⟩
    |panicked c=>exact q.elim
    |outgrown=>exact q.elim)
 ·exact Calls.mono (okc _ (h1 hb)) (fun e w' q=>by
   cases e with
   |returned u=>exact⟨I,[],⟨rfl,rfl,.inl ⟨hb,q.1⟩⟩,hm.kept0 q.2⟩
   |panicked c=>exact q.elim
   |outgrown=>exact q.elim)
section
variable {I:P6}{pb deep lc dc b1:Nat}{la da:Option Addr}{T:Sp.Src}{E:Ent}{R:List HItem}{w:World}{s:Sp.St}
theorem C67 (hdp:deep<=12) (hm:Mem E I (.cell b1 [ptr pb] 201::A5Y pb la lc T s (deep+1) da dc::R) w):
  CalD prog 211 #[ptr b1] w (fun w'=>Mem E I (.cell b1 [ptr pb] 201::A5Y pb la lc T s deep da dc::R) w'):=by
 refine C2H (N:=8) func211 rfl [(0,ptr b1)] A0I rfl ?_
 have hsub:(((deep+1:Nat):Int))-1=(deep:Int):=by omega
 repeat' (first|refine A3i ?_;rw[hsub]|refine J4 ?_ hm|refine O6 hm (k:=?_);clear hm;intro _ hm;try simp only[F9]at hm|refine E5 ?_|refine C9 ?_|refine D9 ?_|refine A8 ?_|refine X0 ?_)
 exact hm
theorem C68 (hdp:deep<=12) (hm:Mem E I (.cell b1 [ptr pb] 201::A5Y pb la lc T s (deep+1) da dc::R) w):
  CalD prog 171 #[ptr b1] w (fun w'=>Mem E I (.cell b1 [ptr pb] 201::A5Y pb la lc T s deep da dc::R) w'):=by
 refine C2H (N:=8) func171 rfl [(0,ptr b1)] A0I rfl ?_
 have hsub:(((deep+1:Nat):Int))-1=(deep:Int):=by omega
 repeat' (first|refine A3i ?_;rw[hsub]|refine J4 ?_ hm|refine O6 hm (k:=?_);clear hm;intro _ hm;try simp only[F9]at hm|refine E5 ?_|refine C9 ?_|refine D9 ?_|refine A8 ?_|refine X0 ?_)
 exact hm
end
def B9R (T:Sp.Src) (pb f:Nat):Prop:= ∀(I:P6) (la:Option Addr) (lc deep:Nat) (da:Option Addr) (dc:Nat) (s:Sp.St),Conv I->A2Y I T la lc->s.i<=T.l.length->3 *(T.l.length-s.i)+2<=f->
 s.ds.length+2 *(T.l.length-s.i)+4<=1099511627776->deep<=12->CalM prog 202 #[ptr pb] I (QSt pb la lc T s deep da dc) (B2K pb la lc T deep (A2Z T f deep s))
def B35 (T:Sp.Src) (pb f:Nat):Prop:= ∀(I:P6) (la:Option Addr) (lc deep:Nat) (da:Option Addr) (dc:Nat) (s:Sp.St) (m:Nat),Conv I->A2Y I T la lc->s.i<=T.l.length->3 *(T.l.length-s.i)+3<=f->
 s.ds.length+2 *(T.l.length-s.i)+4<=1099511627776->deep<=12->CalM prog 191 #[ptr pb,nt m] I (QSt pb la lc T s deep da dc) (B2K pb la lc T deep (A0O T f deep m s))
structure QExp where
 f:Nat
 e:Sp.Ex
 s:Sp.St
 I:P6
 ea:Option Addr
 ec:Nat
 xs:List Value
 da:Option Addr
 dc:Nat
theorem B7F (T:Sp.Src) (pb:Nat) (hT:Ok T) (n:Nat) (ih:∀g,g<n->B9R T pb g/\B35 T pb g):B35 T pb n:=by
 intro I la lc deep da dc s m hC hr hi hf hd hdp;obtain⟨f,rfl⟩:∃f,n=f+1:=⟨n-1,by omega⟩;have h2:=hT.size;have h3:=hT.len;have hat:=(ih f (by omega)).1 I la lc deep da dc s hC hr hi (by omega) hd hdp;have hg:=(A06 T f).1 deep s;rw[A0O];generalize A2Z T f deep s=r0 at hat hg |-;have hg1:=hg.le;have hg2:=hg.top hi;have hg3:=hg.ds;refine CalM.of fun w E hm=>enter (N:=47) func191 rfl [(0,ptr pb),(1,nt m)] A0T rfl ?_
 repeat' (first|refine F6 ?_ hm (hc:=hat);clear hm;rintro _ I1 _ _ ⟨⟨ea,ec,xs,rfl,hrow,hexs⟩,da1,dc1,rfl⟩ hle hm;have hleI1:=hle;try simp only[F9]at hm|refine U1 (d:=4) ?_ hm;clear hm;intro b4 _ hm|refine Y5 (d:=5) ?_ hm;clear hm;intro b5 _ hm|refine D8 ?_|refine D9 ?_|refine A7 ?_|refine E8 ?_|refine A8 ?_|refine F5 ?_)
 refine U2 (fun x:QExp=> [(0,ptr pb),(1,nt m),(4,ptr b4),(5,ptr b5)])
  (fun x w'=>Mem E x.I [A5Y pb la lc T x.s deep x.da x.dc,A39 x.s.ds x.da x.dc,.cell b5 (A0z x.e x.ea x.ec) 109,.cell b4 ex0 109] w'/\Le I x.I/\RowI x.I 109 6 (.slice x.ea x.e.args.length x.ec) x.e.args.length x.xs/\Y7 x.I x.e.args x.xs/\
   Sp.opL T x.f deep m x.e x.s=Sp.opL T f deep m r0.1 r0.2/\3 *(T.l.length-x.s.i)+1<=x.f/\x.f<=f/\x.s.i<=T.l.length/\x.s.ds.length+2 *(T.l.length-x.s.i)<=s.ds.length+2 *(T.l.length-s.i)+1)
  (fun x=>T.l.length-x.s.i) ⟨f,r0.1,r0.2,I1,ea,ec,xs,da1,dc1⟩ (by exact⟨rfl,rfl,rfl,rfl,trivial⟩) ⟨hm.perm pm2_1,hleI1,hrow,hexs,rfl,by dsimp only;omega,G9 _,hg2,by dsimp only;omega⟩ ?_
 clear hm hrow hexs hleI1;rintro⟨f1,e1,s1,I2,ea1,ec1,xs1,da2,dc2⟩ w2 ⟨hm,hle0,hrow,hexs,hO,hf1,hff,hi1,hd1⟩;dsimp only at hm hle0 hrow hexs hO hf1 hff hi1 hd1 |-;obtain⟨f1,rfl⟩:∃f',f1=f'+1:=⟨f1-1,by omega⟩;rw[Sp.opL]at hO;dsimp only at hO;replace hr:=hr.le hle0;replace hC:=hC.le hle0;have h1:=hT.at_ s1.i;have ht:=C5x (T.tok s1.i).text;by_cases hc:A1i (T.tok s1.i).text<m\/A1i (T.tok s1.i).text=0
 ·rw[if_pos hc]at hO
  rw[<-hO];repeat' (first|refine S9 ?_ hm (hc:=A2B s1 hr);clear hm;intro _ hm|refine A0k (hc:=by exact ht _) (k:=?_);rintro _ _ ⟨rfl,rfl⟩|refine Y1 ?_ hm|refine N7 ?_ hm;clear hm;intro _ hm;try simp only[F9]at hm|refine Y4 ?_ hm|refine D8 ?_|refine D6 ?_|refine O9 ?_|refine L8 ?_|refine J6 ?_|refine N9 ?_|refine A0N ?_|(refine N8 (h1:=fun _=>?_) (h0:=fun _=>?_)<;>try first|contradiction|omega)|refine D9 ?_|refine A7 ?_|refine G8 ?_|refine O1 ?_|refine E8 ?_|refine A8 ?_|refine F5 ?_|refine H8 ?_|refine H6 ?_|(refine D5 (ht:=fun _=>?_) (hf:=fun _=>?_)<;>try first|contradiction|omega))
  all_goals first
   |exact⟨I2,_,⟨⟨ea1,ec1,xs1,rfl,hrow,hexs⟩,da2,dc2,rfl⟩,hm.left (H:= [_,_])⟩
   |(exfalso;omega)
 ·rw[if_neg hc]at hO
  have htl:=C4o (T.tok s1.i).text;have hlt:s1.i<T.l.length:=A2e (B05 (by omega));have hex:=fun da dc=>(ih f1 (by omega)).2 I2 la lc deep da dc s1.next (A1i (T.tok s1.i).text+1) hC hr (by rw[Q5];omega) (by rw[Q5];omega) (by rw[Q5,A0V];omega) hdp
  have hg:=(A06 T f1).2.2.1 deep (A1i (T.tok s1.i).text+1) s1.next;generalize A0O T f1 deep (A1i (T.tok s1.i).text+1) s1.next=r at hO hex hg;have hg1:=hg.le;have hg2:=hg.top (by rw[Q5];omega);have hg3:=hg.ds;rw[Q5]at hg1 hg3;rw[A0V]at hg3;repeat' (first|refine S9 ?_ hm (hc:=A2B s1 hr);clear hm;intro _ hm|refine A0k (hc:=by exact ht _) (k:=?_);rintro _ _ ⟨rfl,rfl⟩|refine F6 ?_ hm (hc:=hex _ _);clear hm;rintro _ I3 _ _ ⟨⟨ea2,ec2,xs2,rfl,hrow2,hexs2⟩,da3,dc3,rfl⟩ hle hm;have hleI3:=hle;try simp only[F9]at hm|refine B5k ?_ hm;clear hm;intro I4 a4 _ hle4 hm hrow4|refine C64 (by rfl) (by rfl) (by rfl) (by rfl) ?_|refine Y5 (d:=8) ?_ hm;clear hm;intro b8 _ hm|refine J4 ?_ hm|refine Y1 ?_ hm|refine N7 ?_ hm;clear hm;intro _ hm;try simp only[F9]at hm|refine O6 hm (k:=?_);clear hm;intro _ hm;try simp only[F9]at hm|refine D8 ?_|refine D6 ?_|refine L8 ?_|refine J6 ?_|refine N9 ?_|refine E5 ?_|refine P7 ?_|refine C9 ?_|refine Q3 ?_|(refine N8 (h1:=fun _=>?_) (h0:=fun _=>?_)<;>try first|contradiction|omega)|refine D9 ?_|refine A7 ?_|refine D7 ?_|refine E8 ?_|refine A8 ?_|refine F5 ?_|refine G5 ?_|(refine D5 (ht:=fun _=>?_) (hf:=fun _=>?_)<;>try first|contradiction|omega))
  exact L9 (⟨f1,.mk 3 (T.tok s1.i).text 0 [e1,r.1] e1.fr (max r.1.to e1.to),r.2,I4,a4,2,_,da3,dc3⟩:QExp) (by exact⟨rfl,rfl,rfl,rfl,trivial⟩)
   ⟨hm.tl,(hle0.trans hleI3).trans hle4,hrow4,C8N (A67.le (hleI3.trans hle4) _ _ (A6l hrow hexs)) (A67.le hle4 _ _ (A6l hrow2 hexs2)),hO,by dsimp only;omega,by dsimp only;omega,hg2,by dsimp only;omega⟩ (by dsimp only;omega)
section
variable {T:Sp.Src}{pb f:Nat}{I:P6}{la:Option Addr}{lc deep:Nat}{da:Option Addr}{dc:Nat}{s:Sp.St}
theorem B1F {E:Ent}{N i b1 b2 ec:Nat}{ea:Option Addr}{xs:List Value}{R:List HItem}{l:Log}{w:World}{e:Sp.Ex}{s':Sp.St} (hdp:deep<=12) (hx:lk l 2=some (ptr b2))
  (hm:Mem E I (.cell b1 [ptr pb] 201::A5Y pb la lc T s' (deep+1) da dc::A39 s'.ds da dc::R) w) (hb:R[i]?=some (.cell b2 (A0z e ea ec) 109))
  (hrow:RowI I 109 6 (.slice ea e.args.length ec) e.args.length xs) (hexs:Y7 I e.args xs):
  At N [⟨.fn (.func 211) #[ptr b1], #[]⟩] (bodyPostD prog Tryz.f202 (Ret (fun v w'=> ∃I' H',B2K pb la lc T deep (e,s') v I' H'/\Mem E I' H' w'))) .ret l w:=
 B7k (i:=i+3) (H':=.cell b1 [ptr pb] 201::A5Y pb la lc T s' deep da dc::A39 s'.ds da dc::R) rfl hx (C67 hdp hm) hb rfl
  (fun _w' hm'=>⟨I,_,⟨⟨ea,ec,xs,rfl,hrow,hexs⟩,da,dc,rfl⟩,hm'.tl.left (H:= [_,_])⟩)
theorem B5g (I:P6):RowI I 109 6 (.slice none ([]:List Sp.Ex).length 0) ([]:List Sp.Ex).length []:=A0W _ _ _ _ _
theorem C7b (hT:Ok T) (hr:A2Y I T la lc) (hi:s.i<=T.l.length) (hd:s.ds.length+4<=1099511627776) (hend:T.l.length<=s.i):
  CalM prog 202 #[ptr pb] I (QSt pb la lc T s deep da dc) (B2K pb la lc T deep (A9T T s 2)):=by
 refine CalM.of fun w E hm=>A2F (N:=153) func202 rfl [(0,ptr pb)] A0I rfl ?_
 repeat' (first|refine S9 ?_ hm (hc:=A1q s hr);clear hm;intro _ hm|refine F6 ?_ hm (hc:=B9l s 2 hr hT hi (by omega));clear hm;rintro _ _ _ _ ⟨⟨ea,ec,xs,rfl,hrow,hexs⟩,da',dc',rfl⟩ hle hm;try simp only[F9]at hm|refine A9J ?_ hm|refine A0K (d:=1) ?_ hm;clear hm;intro b1 _ hm|refine U1 (d:=2) ?_ hm;clear hm;intro b2 _ hm|refine J4 ?_ hm|refine V3 ?_ hm|refine N7 ?_ hm;clear hm;intro _ hm;try simp only[F9]at hm|refine D6 ?_|refine D9 ?_|refine A7 ?_|refine G8 ?_|refine E8 ?_|refine A8 ?_|refine H8 ?_|refine U5 ?_|refine A0j ?_;intro _ hkq;replace hm:=hm.kept0 hkq;clear hkq|(refine D5 (ht:=fun _=>?_) (hf:=fun _=>?_)<;>try first|contradiction|omega)|refine A62 ?_|refine V4 ?_|refine O8 ?_|refine L6 ?_)
 exact⟨_,_,⟨⟨ea,ec,xs,rfl,hrow,hexs⟩,da',dc',rfl⟩,hm.left (H:= [_,_])⟩
theorem C5z (hT:Ok T) (hr:A2Y I T la lc) (hi:s.i<=T.l.length) (hd:s.ds.length+4<=1099511627776) (hend:s.i<T.l.length) (hdp:deep=12):
  CalM prog 202 #[ptr pb] I (QSt pb la lc T s deep da dc) (B2K pb la lc T deep (A9T T s 12)):=by
 refine CalM.of fun w E hm=>A2F (N:=153) func202 rfl [(0,ptr pb)] A0I rfl ?_
 repeat' (first|refine S9 ?_ hm (hc:=A1q s hr);clear hm;intro _ hm|refine F6 ?_ hm (hc:=B9l s 12 hr hT hi (by omega));clear hm;rintro _ _ _ _ ⟨⟨ea,ec,xs,rfl,hrow,hexs⟩,da',dc',rfl⟩ hle hm;try simp only[F9]at hm|refine A9J ?_ hm|refine A0K (d:=1) ?_ hm;clear hm;intro b1 _ hm|refine U1 (d:=2) ?_ hm;clear hm;intro b2 _ hm|refine J4 ?_ hm|refine V3 ?_ hm|refine N7 ?_ hm;clear hm;intro _ hm;try simp only[F9]at hm|refine D6 ?_|refine N9 ?_|refine E5 ?_|refine C9 ?_|refine D9 ?_|refine A7 ?_|refine G8 ?_|refine E8 ?_|refine A8 ?_|refine G5 ?_|refine H8 ?_|refine U5 ?_|refine A0j ?_;intro _ hkq;replace hm:=hm.kept0 hkq;clear hkq|(refine D5 (ht:=fun _=>?_) (hf:=fun _=>?_)<;>try first|contradiction|omega)|refine A62 ?_|refine V4 ?_|refine O8 ?_|refine L6 ?_)
 exact⟨_,_,⟨⟨ea,ec,xs,rfl,hrow,hexs⟩,da',dc',rfl⟩,hm.left (H:= [_,_])⟩
theorem C5A (hT:Ok T) (hr:A2Y I T la lc) (hi:s.i<=T.l.length) (hd:s.ds.length+4<=1099511627776) (hend:s.i<T.l.length) (hdp:deep<12) (hk:(T.tok s.i).kind≠2) (hp:(T.tok s.i).text≠ [40]) (hname:Sp.name (T.tok s.i).text=false):
  CalM prog 202 #[ptr pb] I (QSt pb la lc T s deep da dc) (B2K pb la lc T deep (A9T T s 2)):=by
 have h1:=hT.at_ s.i;have h2:=hT.size;have htk:=A37 hend;have hn:=A8N (T.tok s.i).text (by omega);rw[hname]at hn;refine CalM.of fun w E hm=>A2F (N:=153) func202 rfl [(0,ptr pb)] A0I rfl ?_
 repeat' (first|refine S9 ?_ hm (hc:=A1q s hr);clear hm;intro _ hm|refine A0s (id:=8) (hm.perm pm0) 10 11 (h:=?_);clear hm;intro wd hR hm|refine A2H ?_ (hr:=by exact hr) (he:=by intro _;rfl) (hz:=by exact htk);intro b1' o1 hp1|refine A0k (hc:=by exact hn _) (k:=?_);rintro _ _ ⟨rfl,hk⟩;replace hm:=hm.kept0 hk|refine F6 ?_ hm (hc:=B9l s 2 hr hT hi (by omega));clear hm;rintro _ _ _ _ ⟨⟨ea,ec,xs,rfl,hrow,hexs⟩,da',dc',rfl⟩ hle hm;try simp only[F9]at hm|refine Y3 ?_ hR|refine A1W ?_ hR|refine A30 (d:=4) ?_ hm;clear hm;intro b4 _ hm|refine A0w ?_;replace hm:=hR.back hm;clear hR;try simp only[F9]at hm|refine A0K (d:=1) ?_ hm;clear hm;intro b1 _ hm|refine U1 (d:=2) ?_ hm;clear hm;intro b2 _ hm|refine J4 ?_ hm|refine V3 ?_ hm|refine N7 ?_ hm;clear hm;intro _ hm;try simp only[F9]at hm|refine O6 hm (k:=?_);clear hm;intro _ hm;try simp only[F9]at hm|refine D6 ?_|refine N9 ?_|refine V9 ?_|refine Y9 ?_|refine E5 ?_|refine A1o ?_|refine P7 ?_|refine C9 ?_|refine D9 ?_|refine A7 ?_|refine G8 ?_|refine O1 ?_|refine E8 ?_|refine A8 ?_|refine F5 ?_|refine G5 ?_|refine H8 ?_|refine A6H ?_|refine U5 ?_|refine A0j ?_;intro _ hkq;replace hm:=hm.kept0 hkq;clear hkq|refine H6 ?_|(refine D5 (ht:=fun _=>?_) (hf:=fun _=>?_)<;>try first|contradiction|omega)|refine A62 ?_|refine V4 ?_|refine O8 ?_|refine L6 ?_|refine O5 ?_|refine J8 ?_|refine A0b ?_)
 exact B1F (i:=1) (by omega) rfl (hm.front 4 rfl) rfl hrow hexs
theorem C7c (hT:Ok T) (hC:Conv I) (hr:A2Y I T la lc) (hi:s.i<=T.l.length) (hd:s.ds.length+4<=1099511627776) (hend:s.i<T.l.length) (hdp:deep<12) (hk:(T.tok s.i).kind=2):
  CalM prog 202 #[ptr pb] I (QSt pb la lc T s deep da dc) (B2K pb la lc T deep
   (if 1000000000<A4v (T.tok s.i).text then (.mk 1 [] 0 [] (T.tok s.i).pos ((T.tok s.i).pos+(T.tok s.i).text.length),(s.bad T 3).next) else (.mk 1 [] (A4v (T.tok s.i).text) [] (T.tok s.i).pos ((T.tok s.i).pos+(T.tok s.i).text.length),s.next))):=by
 have h1:=hT.at_ s.i;have h2:=hT.size;have h3:=hT.len;have htk:=A37 hend;have hl1:1<=(T.tok s.i).text.length:=by
  rw[Sp.Src.tok,O4,G6 hend];exact hT.len1 _ (O7 hend)
 have hat:=C66 (I:=I) (T.tok s.i).text hl1 (by omega) (hT.digs hk) hC;have hbi:(s.bad T 3).i=s.i:=rfl;have hen:T.endOf (s.i+1)=(T.tok s.i).pos+(T.tok s.i).text.length:=rfl;have hls:=A4D (pb:=pb) (deep:=deep+1) (da:=da) (dc:=dc) s.next hr hT (by rw[Q5];omega);have hlb:=fun da dc=>A4D (pb:=pb) (deep:=deep+1) (da:=da) (dc:=dc) (s.bad T 3).next hr hT (by rw[Q5];omega)
 rw[show T.endOf s.next.i=(T.tok s.i).pos+(T.tok s.i).text.length from hen]at hls;rw[show T.endOf (s.bad T 3).next.i=(T.tok s.i).pos+(T.tok s.i).text.length from hen]at hlb;refine CalM.of fun w E hm=>A2F (N:=153) func202 rfl [(0,ptr pb)] A0I rfl ?_
 by_cases hbig:1000000000<A4v (T.tok s.i).text
 ·rw[if_pos hbig]
  repeat' (first|refine S9 ?_ hm (hc:=A1q s hr);clear hm;intro _ hm|refine A0s (id:=8) (hm.perm pm0) 10 11 (h:=?_);clear hm;intro wd hR hm|refine A2H ?_ (hr:=by exact hr) (he:=by intro _;rfl) (hz:=by exact htk);intro b1' o1 hp1|refine F6 ?_ hm (hc:=hat);clear hm;rintro _ _ _ _ ⟨rfl,rfl,(⟨hsm,rfl⟩|⟨_,nv,ev,rfl,(⟨rfl,hnv⟩|⟨te,pe,rfl⟩)⟩)⟩ hle hm;try simp only[F9]at hm|refine B7v (by rfl) (by rfl) (by rfl) (by rfl) (by kernel_rfl) ?_|refine B1X (by rfl) (by rfl) (by rfl) (by rfl) (by kernel_rfl) ?_|refine F6 ?_ hm (hc:=A4g s 3 hr hT hi (by omega));clear hm;rintro _ _ _ _ ⟨rfl,rfl,da',dc',rfl⟩ hle hm;try simp only[F9]at hm|refine S9 ?_ hm (hc:=hlb _ _);clear hm;intro _ hm|refine Y3 ?_ hR|refine A1W ?_ hR|refine A30 (d:=4) ?_ hm;clear hm;intro b4 _ hm|refine A0w ?_;replace hm:=hR.back hm;clear hR;try simp only[F9]at hm|refine A0K (d:=1) ?_ hm;clear hm;intro b1 _ hm|refine U1 (d:=2) ?_ hm;clear hm;intro b2 _ hm|refine J4 ?_ hm|refine V3 ?_ hm|refine N7 ?_ hm;clear hm;intro _ hm;try simp only[F9]at hm|refine O6 hm (k:=?_);clear hm;intro _ hm;try simp only[F9]at hm|refine D8 ?_|refine D6 ?_|refine O9 ?_|refine L8 ?_|refine A0F ?_|refine N9 ?_|refine W9 ?_|refine E5 ?_|refine A1o ?_|refine P7 ?_|refine C9 ?_|refine Q3 ?_|refine A0N ?_|refine D9 ?_|refine A7 ?_|refine G8 ?_|refine O1 ?_|refine E8 ?_|refine A8 ?_|refine F5 ?_|refine G5 ?_|refine H8 ?_|refine A6H ?_|refine U5 ?_|refine A0j ?_;intro _ hkq;replace hm:=hm.kept0 hkq;clear hkq|refine H6 ?_|(refine D5 (ht:=fun _=>?_) (hf:=fun _=>?_)<;>try first|contradiction|omega)|refine A62 ?_|refine V4 ?_|refine O8 ?_|refine L6 ?_|refine O5 ?_|refine J8 ?_|refine A0b ?_)
  all_goals exact B1F (i:=1) (e:=.mk 1 [] 0 [] (T.tok s.i).pos ((T.tok s.i).pos+(T.tok s.i).text.length)) (s':=(s.bad T 3).next) (by omega) rfl (hm.front 4 rfl) rfl (B5g _) .nil
 ·rw[if_neg hbig]
  repeat' (first|refine S9 ?_ hm (hc:=A1q s hr);clear hm;intro _ hm|refine A0s (id:=8) (hm.perm pm0) 10 11 (h:=?_);clear hm;intro wd hR hm|refine A2H ?_ (hr:=by exact hr) (he:=by intro _;rfl) (hz:=by exact htk);intro b1' o1 hp1|refine F6 ?_ hm (hc:=hat);clear hm;rintro _ _ _ _ ⟨rfl,rfl,(⟨hsm,rfl⟩|⟨hbg,nv,ev,rfl,_⟩)⟩ hle hm;try simp only[F9]at hm|refine B1X (by rfl) (by rfl) (by rfl) (by rfl) (by kernel_rfl) ?_|refine S9 ?_ hm (hc:=hls);clear hm;intro _ hm|refine Y3 ?_ hR|refine A1W ?_ hR|refine A30 (d:=4) ?_ hm;clear hm;intro b4 _ hm|refine A0w ?_;replace hm:=hR.back hm;clear hR;try simp only[F9]at hm|refine A0K (d:=1) ?_ hm;clear hm;intro b1 _ hm|refine U1 (d:=2) ?_ hm;clear hm;intro b2 _ hm|refine J4 ?_ hm|refine V3 ?_ hm|refine N7 ?_ hm;clear hm;intro _ hm;try simp only[F9]at hm|refine O6 hm (k:=?_);clear hm;intro _ hm;try simp only[F9]at hm|refine D8 ?_|refine D6 ?_|refine L8 ?_|refine A0F ?_|refine N9 ?_|refine W9 ?_|refine E5 ?_|refine A1o ?_|refine P7 ?_|refine C9 ?_|refine Q3 ?_|refine D9 ?_|refine A7 ?_|refine G8 ?_|refine O1 ?_|refine E8 ?_|refine A8 ?_|refine F5 ?_|refine G5 ?_|refine H8 ?_|refine A6H ?_|refine U5 ?_|refine A0j ?_;intro _ hkq;replace hm:=hm.kept0 hkq;clear hkq|(refine D5 (ht:=fun _=>?_) (hf:=fun _=>?_)<;>try first|contradiction|omega)|refine A62 ?_|refine V4 ?_|refine O8 ?_|refine L6 ?_|refine O5 ?_|refine J8 ?_|refine A0b ?_)
  all_goals try first|omega|contradiction
  exact B1F (i:=1) (e:=.mk 1 [] (A4v (T.tok s.i).text) [] (T.tok s.i).pos ((T.tok s.i).pos+(T.tok s.i).text.length)) (s':=s.next) (by omega) rfl (((hm.front 4 rfl).front 4 rfl).front 4 rfl) rfl (B5g _) .nil
end
section
variable {T:Sp.Src}{pb f:Nat}{I:P6}{la:Option Addr}{lc deep:Nat}{da:Option Addr}{dc:Nat}{s:Sp.St}
theorem C7d (hT:Ok T) (hC:Conv I) (hr:A2Y I T la lc) (hf:3 *(T.l.length-s.i)+2<=f+1) (ih:B35 T pb f)
  (hd:s.ds.length+2 *(T.l.length-s.i)+4<=1099511627776) (hend:s.i<T.l.length) (hdp:deep<12) (hk:(T.tok s.i).kind≠2) (hpar:(T.tok s.i).text= [40]):
  CalM prog 202 #[ptr pb] I (QSt pb la lc T s deep da dc) (B2K pb la lc T deep ((A0O T f (deep+1) 1 s.next).1,((A0O T f (deep+1) 1 s.next).2.need T [41]).2)):=by
 have h1:=hT.at_ s.i;have h2:=hT.size;have h3:=hT.len;have htk:=A37 hend;have hex:=fun da dc=>ih I la lc (deep+1) da dc s.next 1 hC hr (by rw[Q5];omega) (by rw[Q5];omega) (by rw[Q5,A0V];omega) (by omega)
 have hg:=(A06 T f).2.2.1 (deep+1) 1 s.next;generalize A0O T f (deep+1) 1 s.next=r at hex hg |-;have hg1:=hg.le;have hg2:=hg.top (by rw[Q5];omega);have hg3:=hg.ds;rw[Q5]at hg1 hg3;rw[A0V]at hg3;refine CalM.of fun w E hm=>A2F (N:=153) func202 rfl [(0,ptr pb)] A0I rfl ?_
 repeat' (first|refine S9 ?_ hm (hc:=A1q s hr);clear hm;intro _ hm|refine A0s (id:=8) (hm.perm pm0) 10 11 (h:=?_);clear hm;intro wd hR hm|refine A2H ?_ (hr:=by exact hr) (he:=by intro _;rfl) (hz:=by exact htk);intro b1' o1 hp1|refine F6 ?_ hm (hc:=hex _ _);clear hm;rintro _ I2 _ _ ⟨⟨ea,ec,xs,rfl,hrow,hexs⟩,da',dc',rfl⟩ hle hm;have hleI2:=hle;try simp only[F9]at hm|refine F6 ?_ hm (hc:=A2T r.2 [41] (by simp) (hr.le hleI2) hT (by omega) hg2);clear hm;rintro _ _ _ _ ⟨rfl,rfl,da2,dc2,rfl⟩ hle hm;try simp only[F9]at hm|refine Y3 ?_ hR|refine A1W ?_ hR|refine A30 (d:=4) ?_ hm;clear hm;intro b4 _ hm|refine A0w ?_;replace hm:=hR.back hm;clear hR;try simp only[F9]at hm|refine A0K (d:=1) ?_ hm;clear hm;intro b1 _ hm|refine U1 (d:=2) ?_ hm;clear hm;intro b2 _ hm|refine Y5 (d:=7) ?_ hm;clear hm;intro b7 _ hm|refine J4 ?_ hm|refine Y1 ?_ hm|refine V3 ?_ hm|refine N7 ?_ hm;clear hm;intro _ hm;try simp only[F9]at hm|refine O6 hm (k:=?_);clear hm;intro _ hm;try simp only[F9]at hm|refine D6 ?_|refine N9 ?_|refine V9 ?_|refine E5 ?_|refine A1o ?_|refine P7 ?_|refine C9 ?_|refine D9 ?_|refine A7 ?_|refine G8 ?_|refine O1 ?_|refine E8 ?_|refine A8 ?_|refine F5 ?_|refine G5 ?_|refine H8 ?_|refine A6H ?_|refine U5 ?_|refine A0j ?_;intro _ hkq;replace hm:=hm.kept0 hkq;clear hkq|(refine D5 (ht:=fun _=>?_) (hf:=fun _=>?_)<;>try first|contradiction|omega)|refine A62 ?_|refine V4 ?_|refine O8 ?_|refine L6 ?_|refine O5 ?_|refine J8 ?_|refine A0b ?_)
 exact B1F (i:=2) (e:=r.1) (s':=(r.2.need T [41]).2) (by omega) rfl (hm.front 5 rfl) rfl hrow hexs
theorem C7e (hT:Ok T) (hr:A2Y I T la lc) (_hi:s.i<=T.l.length) (_hd:s.ds.length+4<=1099511627776) (hend:s.i<T.l.length) (hdp:deep<12) (hk:(T.tok s.i).kind≠2) (hp:(T.tok s.i).text≠ [40]) (hname:Sp.name (T.tok s.i).text=true) (hopen:T.is (s.i+1) [40]=false):
  CalM prog 202 #[ptr pb] I (QSt pb la lc T s deep da dc) (B2K pb la lc T deep (.mk 2 (T.tok s.i).text 0 [] (T.tok s.i).pos ((T.tok s.i).pos+(T.tok s.i).text.length),s.next)):=by
 have h1:=hT.at_ s.i;have h2:=hT.size;have h3:=hT.len;have htk:=A37 hend;have hn:=A8N (T.tok s.i).text (by omega);rw[hname]at hn;have he:=fun da dc=>A1h (pb:=pb) (deep:=deep+1) (da:=da) (dc:=dc) s.next [40] (by simp) hr hT (by rw[Q5];omega)
 rw[show T.is s.next.i [40]=false from hopen,if_neg (by simp)]at he;have hen:T.endOf (s.i+1)=(T.tok s.i).pos+(T.tok s.i).text.length:=rfl;have hls:=fun da dc=>A4D (pb:=pb) (deep:=deep+1) (da:=da) (dc:=dc) s.next hr hT (by rw[Q5];omega)
 rw[show T.endOf s.next.i=(T.tok s.i).pos+(T.tok s.i).text.length from hen]at hls;refine CalM.of fun w E hm=>A2F (N:=153) func202 rfl [(0,ptr pb)] A0I rfl ?_
 repeat' (first|refine S9 ?_ hm (hc:=A1q s hr);clear hm;intro _ hm|refine A0s (id:=8) (hm.perm pm0) 10 11 (h:=?_);clear hm;intro wd hR hm|refine A2H ?_ (hr:=by exact hr) (he:=by intro _;rfl) (hz:=by exact htk);intro b1' o1 hp1|refine A0k (hc:=by exact hn _) (k:=?_);rintro _ _ ⟨rfl,hk⟩;replace hm:=hm.kept0 hk|refine F6 ?_ hm (hc:=he _ _);clear hm;rintro _ _ _ _ ⟨rfl,rfl,da',dc',rfl⟩ hle hm;try simp only[F9]at hm|refine S9 ?_ hm (hc:=hls _ _);clear hm;intro _ hm|refine Y3 ?_ hR|refine A1W ?_ hR|refine A30 (d:=4) ?_ hm;clear hm;intro b4 _ hm|refine A0w ?_;replace hm:=hR.back hm;clear hR;try simp only[F9]at hm|refine A0K (d:=1) ?_ hm;clear hm;intro b1 _ hm|refine U1 (d:=2) ?_ hm;clear hm;intro b2 _ hm|refine Y5 (d:=8) ?_ hm;clear hm;intro b8 _ hm|refine J4 ?_ hm|refine Y1 ?_ hm|refine V3 ?_ hm|refine N7 ?_ hm;clear hm;intro _ hm;try simp only[F9]at hm|refine O6 hm (k:=?_);clear hm;intro _ hm;try simp only[F9]at hm|refine D8 ?_|refine D6 ?_|refine N9 ?_|refine V9 ?_|refine Y9 ?_|refine E5 ?_|refine A1o ?_|refine P7 ?_|refine C9 ?_|refine Q3 ?_|refine D9 ?_|refine A7 ?_|refine D7 ?_|refine E8 ?_|refine A8 ?_|refine F5 ?_|refine G5 ?_|refine H8 ?_|refine A6H ?_|refine U5 ?_|refine A0j ?_;intro _ hkq;replace hm:=hm.kept0 hkq;clear hkq|refine F7 ?_|(refine D5 (ht:=fun _=>?_) (hf:=fun _=>?_)<;>try first|contradiction|omega)|refine A62 ?_|refine V4 ?_|refine O8 ?_|refine L6 ?_|refine O5 ?_|refine J8 ?_|refine A0b ?_)
 exact B1F (i:=2) (e:=.mk 2 (T.tok s.i).text 0 [] (T.tok s.i).pos ((T.tok s.i).pos+(T.tok s.i).text.length)) (s':=s.next) (by omega) rfl (hm.front 5 rfl) rfl (B5g _) .nil
end
end Go.Proofs
