/- Own work: texts Shelf, PpAt, PpD, PpE, PpF, PpG, PpH, PpI, one behind the other. -/
import Derived.Test.YtfjdfdgpkncpfaaGreatDoorQb13
import Derived.Shelf.Strings.Builder1
import Derived.Shelf.Strings.Builder2
import Derived.Shelf.Strings.OnBuilder
import Derived.Shelf.Small.Bits
import Derived.Shelf.Strings.BuilderF
import Derived.Shelf.Strings.BuilderK
import Derived.Shelf.Strings.Builder2Cap
import Derived.Shelf.Strconv.Atoi
import Derived.Shelf.Strconv.Itoa0
import Derived.Shelf.Strconv.Itoa1
import Derived.Shelf.LaysM
import Derived.Shelf.Strconv.Itoa2
import Derived.Shelf.Strconv.Itoa3
import Derived.Shelf.Strconv.AtoiErrFast
import Derived.Shelf.Strconv.ParseIntEmpty
import Derived.Shelf.Strconv.AtoiFail
import Derived.Shelf.Strconv.Clone
import Derived.Shelf.Strconv.SyntaxError
import Derived.Shelf.LaysC
import Derived.Shelf.Strconv.ToError
import Derived.Shelf.Strconv.Lower
import Derived.Shelf.Strconv.ParseUint10
import Derived.Shelf.Strconv.ParseUint10Empty
import Derived.Shelf.Strconv.ParseUint10Any
import Derived.Shelf.Strconv.ParseInt10
import Derived.Shelf.Strconv.AtoiLong
import Derived.Shelf.Strconv.AtoiInnerAll
import Derived.Shelf.Strconv.RangeError
import Derived.Shelf.Strconv.ToErrorRange
import Derived.Shelf.Strconv.AtoiAll
import Derived.Shelf.Strconv.ErrVarAll
import Derived.Shelf.Sort.Plain
import Derived.Shelf.Strings.Prefix
import Derived.Shelf.Bits.Mul64
import Derived.Shelf.Strings.Repeat
import Derived.Shelf.Strings.BuilderCap
import Derived.Ground.Names2Prog
import Derived.Shelf.Slices.CompactI
import Derived.Shelf.Slices.In.SortNone
import Derived.Test.YtfjdfdgpkncpfaaGreatDoorProg
import Derived.WideLaws
import Derived.Lib.MinMax
set_option maxHeartbeats 64000000
section
namespace Go.Proofs
open Go.Proofs.Tryz
open Go.Shelf
def Tryz.laysC172_ren:Go.Shelf.Ren:=⟨fun|172=>197|244=>206|245=>207|247=>210|279=>211|280=>212|281=>213|282=>214|287=>216|316=>217|171=>199|205=>218|321=>223|322=>224|243=>209|246=>215|283=>219|284=>220|285=>221|286=>222|129=>140|317=>225|318=>226|319=>227|320=>228|337=>229|338=>230|n=>n,fun|9=>9|3=>3|75=>245|76=>246|4=>4|5=>5|167=>290|37=>212|0=>0|85=>291|2=>2|168=>293|53=>236|175=>297|46=>201|210=>301|127=>250|145=>310|143=>308|21=>21|171=>303|173=>305|212=>312|51=>234|20=>20|213=>313|232=>314|233=>315|80=>180|n=>n,fun|15=>1|16=>2|17=>3|18=>4|19=>5|n=>n⟩
theorem Tryz.laysC172:Go.Proofs.LaysC.n172 prog Tryz.laysC172_ren:= {
 mixed:=by kernel_rfl
 f129:=func140.trans (congrArg some (by kernel_rfl))
 f171:=func199.trans (congrArg some (by kernel_rfl))
 f172:=func197.trans (congrArg some (by kernel_rfl))
 f205:=func218.trans (congrArg some (by kernel_rfl))
 f243:=func209.trans (congrArg some (by kernel_rfl))
 f244:=func206.trans (congrArg some (by kernel_rfl))
 f245:=func207.trans (congrArg some (by kernel_rfl))
 f246:=func215.trans (congrArg some (by kernel_rfl))
 f247:=func210.trans (congrArg some (by kernel_rfl))
 f279:=func211.trans (congrArg some (by kernel_rfl))
 f280:=func212.trans (congrArg some (by kernel_rfl))
 f281:=func213.trans (congrArg some (by kernel_rfl))
 f282:=func214.trans (congrArg some (by kernel_rfl))
 f283:=func219.trans (congrArg some (by kernel_rfl))
 f284:=func220.trans (congrArg some (by kernel_rfl))
 f285:=func221.trans (congrArg some (by kernel_rfl))
 f286:=func222.trans (congrArg some (by kernel_rfl))
 f287:=func216.trans (congrArg some (by kernel_rfl))
 f316:=func217.trans (congrArg some (by kernel_rfl))
 f317:=func225.trans (congrArg some (by kernel_rfl))
 f318:=func226.trans (congrArg some (by kernel_rfl))
 f319:=func227.trans (congrArg some (by kernel_rfl))
 f320:=func228.trans (congrArg some (by kernel_rfl))
 f321:=func223.trans (congrArg some (by kernel_rfl))
 f322:=func224.trans (congrArg some (by kernel_rfl))
 f337:=func229.trans (congrArg some (by kernel_rfl))
 f338:=func230.trans (congrArg some (by kernel_rfl))
 t0:=underlying0
 a0:=isAgg0
 z0:=sizeOf0
 v0:=zeroValue0
 t2:=underlying2
 a2:=isAgg2
 z2:=sizeOf2
 v2:=zeroValue2
 t3:=underlying3
 a3:=isAgg3
 z3:=sizeOf3
 v3:=zeroValue3
 t4:=underlying4
 a4:=isAgg4
 z4:=sizeOf4
 v4:=zeroValue4
 t5:=underlying5
 a5:=isAgg5
 z5:=sizeOf5
 v5:=zeroValue5
 t9:=underlying9
 a9:=isAgg9
 z9:=sizeOf9
 v9:=zeroValue9
 t20:=underlying20
 a20:=isAgg20
 z20:=sizeOf20
 v20:=zeroValue20
 t21:=underlying21
 a21:=isAgg21
 z21:=sizeOf21
 v21:=zeroValue21
 t37:=underlying212
 a37:=isAgg212
 z37:=sizeOf212
 v37:=zeroValue212
 t46:=underlying201
 a46:=isAgg201
 z46:=sizeOf201
 v46:=zeroValue201
 t51:=underlying234
 a51:=isAgg234
 z51:=sizeOf234
 v51:=zeroValue234
 t53:=underlying236
 a53:=isAgg236
 z53:=sizeOf236
 v53:=zeroValue236
 t75:=underlying245
 a75:=isAgg245
 z75:=sizeOf245
 v75:=zeroValue245
 t76:=underlying246
 a76:=isAgg246
 z76:=sizeOf246
 v76:=zeroValue246
 t85:=underlying291
 a85:=isAgg291
 z85:=sizeOf291
 v85:=zeroValue291
 t127:=underlying250
 a127:=isAgg250
 z127:=sizeOf250
 v127:=zeroValue250
 t143:=underlying308
 a143:=isAgg308
 z143:=sizeOf308
 v143:=zeroValue308
 t145:=underlying310
 a145:=isAgg310
 z145:=sizeOf310
 v145:=zeroValue310
 t167:=underlying290
 a167:=isAgg290
 z167:=sizeOf290
 v167:=zeroValue290
 t168:=underlying293
 a168:=isAgg293
 z168:=sizeOf293
 v168:=zeroValue293
 t171:=underlying303
 a171:=isAgg303
 z171:=sizeOf303
 v171:=zeroValue303
 t173:=underlying305
 a173:=isAgg305
 z173:=sizeOf305
 v173:=zeroValue305
 t175:=underlying297
 a175:=isAgg297
 z175:=sizeOf297
 v175:=zeroValue297
 t210:=underlying301
 a210:=isAgg301
 z210:=sizeOf301
 v210:=zeroValue301
 t212:=underlying312
 a212:=isAgg312
 z212:=sizeOf312
 v212:=zeroValue312
 t213:=underlying313
 a213:=isAgg313
 z213:=sizeOf313
 t232:=underlying314
 a232:=isAgg314
 z232:=sizeOf314
 v232:=zeroValue314
 t233:=underlying315
 a233:=isAgg315
 z233:=sizeOf315
 v233:=zeroValue315
 g15:=by kernel_rfl
 g16:=by kernel_rfl
 g17:=by kernel_rfl
 g18:=by kernel_rfl
 g19:=by kernel_rfl
 t80:=underlying180
 a80:=isAgg180
 z80:=sizeOf180
 v80:=zeroValue180
 i0:=by kernel_rfl
 i2:=by kernel_rfl
 i3:=by kernel_rfl
 i4:=by kernel_rfl
 i5:=by kernel_rfl
 i9:=by kernel_rfl
 i20:=by kernel_rfl
 i21:=by kernel_rfl
 i37:=by kernel_rfl
 i46:=by kernel_rfl
 i51:=by kernel_rfl
 i53:=by kernel_rfl
 i75:=by kernel_rfl
 i76:=by kernel_rfl
 i80:=by kernel_rfl
 i85:=by kernel_rfl
 i127:=by kernel_rfl
 i143:=by kernel_rfl
 i145:=by kernel_rfl
 i167:=by kernel_rfl
 i168:=by kernel_rfl
 i171:=by kernel_rfl
 i173:=by kernel_rfl
 i175:=by kernel_rfl
 i210:=by kernel_rfl
 i212:=by kernel_rfl
 i232:=by kernel_rfl
 i233:=by kernel_rfl
 m15:=by kernel_rfl
 m16:=by kernel_rfl
 m17:=by kernel_rfl
 m18:=by kernel_rfl
 m19:=by kernel_rfl
 c0:=by kernel_rfl
 c2:=by kernel_rfl
 c3:=by kernel_rfl
 c4:=by kernel_rfl
 c5:=by kernel_rfl
 c9:=by kernel_rfl
 c20:=by kernel_rfl
 c21:=by kernel_rfl
 c37:=by kernel_rfl
 c46:=by kernel_rfl
 c51:=by kernel_rfl
 c53:=by kernel_rfl
 c75:=by kernel_rfl
 c76:=by kernel_rfl
 c80:=by kernel_rfl
 c85:=by kernel_rfl
 c127:=by kernel_rfl
 c143:=by kernel_rfl
 c145:=by kernel_rfl
 c167:=by kernel_rfl
 c168:=by kernel_rfl
 c171:=by kernel_rfl
 c173:=by kernel_rfl
 c175:=by kernel_rfl
 c210:=by kernel_rfl
 c212:=by kernel_rfl
 c213:=by kernel_rfl
 c232:=by kernel_rfl
 c233:=by kernel_rfl}
open Go.RowKit in
theorem Tryz.strconv_Atoi_ok (s:ByteArray) (hmax:s.size≤9223372036854775806) (v:Int) (h:Lib.atoiAll s.data.toList=.ok v) (w:World):
  Calls prog 197 #[.string s] w fun e w'=>e=.returned (.tuple #[.int .i64 v,.nilIface])∧(w'=w∨∃t,w'=Lib.bytesWorld w 5 t):=Any.strconv_Atoi_ok Tryz.laysC172 s hmax v h w
open Go.RowKit in
theorem Tryz.strconv_Atoi_range (s:ByteArray) (hlim:s.size≤281474976710656) (h:Lib.atoiAll s.data.toList=.range) (ev:Value) (w:World) (hv:w.cell? ⟨2,0,none⟩=some ev) (hev:ev=.nilIface∨∃te pe,ev=.iface te pe):
  Calls prog 197 #[.string s] w fun e w'=> ∃N,e=.returned (.tuple #[.int .i64 (Lib.atoiSat s.data.toList),.iface 293 (.pointer (some ⟨N,0,none⟩))])∧w.heap.size≤N∧w'.heap[N]?=some (.cells #[.string ⟨#[65,116,111,105]⟩,.string s,ev] 301 (0,0))∧Below w.heap.size w w':=Any.strconv_Atoi_range Tryz.laysC172 s hlim h ev w hv hev
def Tryz.laysNm226_ren:Go.Shelf.Ren:=⟨fun|26=>165|33=>179|34=>180|38=>193|n=>n,fun|24=>168|9=>9|3=>3|4=>4|40=>201|0=>0|n=>n,fun|n=>n⟩
theorem Tryz.laysNm226:Go.Proofs.Lays2.n26 prog Tryz.laysNm226_ren:= {
 mixed:=by kernel_rfl
 f26:=func165.trans (congrArg some (by kernel_rfl))
 f33:=func179.trans (congrArg some (by kernel_rfl))
 f34:=func180.trans (congrArg some (by kernel_rfl))
 f38:=func193.trans (congrArg some (by kernel_rfl))
 t0:=underlying0
 a0:=isAgg0
 z0:=sizeOf0
 v0:=zeroValue0
 t3:=underlying3
 a3:=isAgg3
 z3:=sizeOf3
 v3:=zeroValue3
 t4:=underlying4
 a4:=isAgg4
 z4:=sizeOf4
 v4:=zeroValue4
 t9:=underlying9
 a9:=isAgg9
 z9:=sizeOf9
 v9:=zeroValue9
 t24:=underlying168
 a24:=isAgg168
 z24:=sizeOf168
 v24:=zeroValue168
 t40:=underlying201
 a40:=isAgg201
 z40:=sizeOf201
 v40:=zeroValue201}
def Tryz.laysNm222_ren:Go.Shelf.Ren:=⟨fun|22=>166|29=>181|30=>182|36=>194|17=>205|n=>n,fun|24=>168|9=>9|3=>3|4=>4|0=>0|n=>n,fun|n=>n⟩
theorem Tryz.laysNm222:Go.Proofs.Lays2.n22 prog Tryz.laysNm222_ren:= {
 mixed:=by kernel_rfl
 f17:=func205.trans (congrArg some (by kernel_rfl))
 f22:=func166.trans (congrArg some (by kernel_rfl))
 f29:=func181.trans (congrArg some (by kernel_rfl))
 f30:=func182.trans (congrArg some (by kernel_rfl))
 f36:=func194.trans (congrArg some (by kernel_rfl))
 t0:=underlying0
 a0:=isAgg0
 z0:=sizeOf0
 v0:=zeroValue0
 t3:=underlying3
 a3:=isAgg3
 z3:=sizeOf3
 v3:=zeroValue3
 t4:=underlying4
 a4:=isAgg4
 z4:=sizeOf4
 v4:=zeroValue4
 t9:=underlying9
 a9:=isAgg9
 z9:=sizeOf9
 v9:=zeroValue9
 t24:=underlying168
 a24:=isAgg168
 z24:=sizeOf168
 v24:=zeroValue168
 i9:=by kernel_rfl}
end Go.Proofs
end
section
namespace Go.Proofs.YtfjdfdgpkncpfaaGreatDoor
open Go.Proofs.Tryz
open Go.Fw
def A1X (I:O5):Prop:= ∃te pe c ty fr,I 2=some (.cells c ty fr)∧c[0]?=some (.iface te pe)
theorem A1X.le {I I':O5} (h:A1X I) (m:Le I I'):A1X I':=by
 obtain⟨te,pe,c,ty,fr,h1,h2⟩:=h
 exact⟨te,pe,c,ty,fr,m _ _ h1,h2⟩
abbrev C0K (t:List UInt8) (I:O5):Value→O5→List HItem→Prop:=fun v I' H'=>I=I'∧H'= []∧
 ((Sp.A2l t≤1000000000∧v=.tuple #[nt (Sp.A2l t),.nilIface])∨(1000000000<Sp.A2l t∧∃(n:Int) (e:Value),v=.tuple #[.int .i64 n,e]∧((e=.nilIface∧1000000000<n)∨∃te pe,e=.iface te pe)))
theorem B95 {I:O5} (t:List UInt8) (hn:1≤t.length) (hl:t.length≤1048576) (hd:∀c∈t,48≤c.toNat∧c.toNat≤57) (hI:A1X I):
  CalM prog 197 #[str t] I [] (C0K t I):=by
 refine⟨fun w hm=>⟨?_⟩⟩
 have hsz:(⟨t.toArray⟩:ByteArray).size=t.length:=A25 t
 obtain⟨h1,h2⟩:=Sp.B1E t hn hd
 have okc:∀v:Int,Lib.atoiAll t=.ok v→Calls prog 197 #[str t] w (Ret (fun u w'=>u=.tuple #[.int .i64 v,.nilIface]∧Kept [] w w')):=fun v hv=>
  Calls.mono (Tryz.strconv_Atoi_ok ⟨t.toArray⟩ (by rw[hsz];omega) v (by simpa using hv) w) (fun e w' ⟨he,hw⟩=>by
   subst he
   refine⟨rfl,?_⟩
   rcases hw with rfl|⟨b,rfl⟩
   ·exact Kept.refl _ _
   ·exact B25 _ _ _)
 rcases Nat.lt_or_ge 1000000000 (Sp.A2l t) with hb|hb
 ·rcases h2 hb with h3|⟨v,hv,h3⟩
  ·obtain⟨te,pe,c,ty,fr,e1,e2⟩:=hI
   have hc:w.cell? ⟨2,0,none⟩=some (.iface te pe):=A1A (hm.inv _ _ e1) e2
   exact Calls.mono (Tryz.strconv_Atoi_range ⟨t.toArray⟩ (by rw[hsz];omega) (by simpa using h3) _ w hc (.inr ⟨te,pe,rfl⟩)) (fun e w' ⟨n,he,_,_,hw⟩=>by
    subst he
    exact⟨I,[],⟨rfl,rfl,.inr ⟨hb,_,_,rfl,.inr ⟨_,_,rfl⟩⟩⟩,hm.kept0 (Kept.of_below hw)⟩)
  ·exact Calls.mono (okc v h3) (fun e w' q=>by
    cases e with
    |returned u=>exact⟨I,[],⟨rfl,rfl,.inr ⟨hb,v,.nilIface,q.1,.inl ⟨rfl,hv⟩⟩⟩,hm.kept0 q.2⟩
    |panicked c=>exact q.elim
    |outgrown=>exact q.elim)
 ·exact Calls.mono (okc _ (h1 hb)) (fun e w' q=>by
   cases e with
   |returned u=>exact⟨I,[],⟨rfl,rfl,.inl ⟨hb,q.1⟩⟩,hm.kept0 q.2⟩
   |panicked c=>exact q.elim
   |outgrown=>exact q.elim)
end Go.Proofs.YtfjdfdgpkncpfaaGreatDoor
end
section
namespace Go.Fw
open Go
section
variable {P:Program}{N:Nat}{ds:List Deferred}{Q:Exit→Act→World→Prop}{l:Log}{w:World}{ops:Array Oper}{os:List Oper}
variable {d:Nat}{ty:TypeId}{pos:String}{af:Array Edge}{g:Option (Nat×Bool)}{t t':TypeId}{x y:Operand}
theorem B2p {te:TypeId}{pe:Value}{c:Value} (hw:P7 ops l ⟨some d,.binOp .neq t x (.const c) t',ty,pos,af,g⟩=some true) (hN:Nat.blt d N=true)
  (hx:ev l x=some (.iface te pe)) (hc:c=.nilIface) (ht:P.underlying t=some (.interface (P.methodsAt t))) (k:WL P N ds ops Q os ((d,.bool true)::l) w):
  WL P N ds ops Q (⟨some d,.binOp .neq t x (.const c) t',ty,pos,af,g⟩::os) l w:=
 O9 rfl hw hN (fun a ha=>by
  subst hc
  have h:=run_neq_held_nil (P:=P) w t te pe ht
  have e2:a.eval (.const .nilIface)=.nilIface:=rfl
  simp[execOp,ha.ev hx,e2,eqGuard,h]) k
theorem A7Z {c:Value} (hw:P7 ops l ⟨some d,.binOp .neq t x (.const c) t',ty,pos,af,g⟩=some true) (hN:Nat.blt d N=true)
  (hx:ev l x=some .nilIface) (hc:c=.nilIface) (ht:P.underlying t=some (.interface (P.methodsAt t))) (k:WL P N ds ops Q os ((d,.bool false)::l) w):
  WL P N ds ops Q (⟨some d,.binOp .neq t x (.const c) t',ty,pos,af,g⟩::os) l w:=
 O9 rfl hw hN (fun a ha=>by
  subst hc
  have h:=run_equal_nil_nil (P:=P) w t ht
  have e2:a.eval (.const .nilIface)=.nilIface:=rfl
  simp[execOp,ha.ev hx,e2,eqGuard,binOp,h]) k
end
end Go.Fw
namespace Go.Proofs.YtfjdfdgpkncpfaaGreatDoor
open Go.Proofs.Tryz
open Go.Fw
section
variable {I:O5}{pb deep lc dc b1:Nat}{la da:Option Addr}{T:Sp.Src}{E:Ent}{R:List HItem}{w:World}{s:Sp.St}
theorem B96 (hdp:deep≤12) (hm:Mem E I (.cell b1 [ptr pb] 175::A3d pb la lc T s (deep+1) da dc::R) w):
  CalD prog 196 #[ptr b1] w (fun w'=>Mem E I (.cell b1 [ptr pb] 175::A3d pb la lc T s deep da dc::R) w'):=by
 refine B6A (N:=8) func196 rfl [(0,ptr b1)] Z4 rfl ?_
 have hsub:(((deep+1:Nat):Int))-1=(deep:Int):=by omega
 repeat' (first|(refine A3M ?_;rw[hsub])|refine H6 ?_ hm|(refine J6 hm (k:=?_);clear hm;intro _ hm;try simp only[F7] at hm)|refine E8 ?_|refine C9 ?_|refine D8 ?_|refine A8 ?_|refine X3 ?_)
 exact hm
theorem B97 (hdp:deep≤12) (hm:Mem E I (.cell b1 [ptr pb] 175::A3d pb la lc T s (deep+1) da dc::R) w):
  CalD prog 148 #[ptr b1] w (fun w'=>Mem E I (.cell b1 [ptr pb] 175::A3d pb la lc T s deep da dc::R) w'):=by
 refine B6A (N:=8) func148 rfl [(0,ptr b1)] Z4 rfl ?_
 have hsub:(((deep+1:Nat):Int))-1=(deep:Int):=by omega
 repeat' (first|(refine A3M ?_;rw[hsub])|refine H6 ?_ hm|(refine J6 hm (k:=?_);clear hm;intro _ hm;try simp only[F7] at hm)|refine E8 ?_|refine C9 ?_|refine D8 ?_|refine A8 ?_|refine X3 ?_)
 exact hm
end
end Go.Proofs.YtfjdfdgpkncpfaaGreatDoor
end
section
namespace Go.Fw
open Go
section
variable {P:Program}{N:Nat}{ds:List Deferred}{Q:Exit→Act→World→Prop}{K:Act→World→Prop}{l:Log}{w:World}{ops:Array Oper}{os:List Oper}
variable {d:Nat}{ty:TypeId}{pos:String}{af:Array Edge}{g:Option (Nat×Bool)}{t t':TypeId}{x y:Operand}
theorem B94 {ts:Array TypeId}{a b:Nat} (hw:P7 ops l ⟨some d,.call ⟨.builtin .max, #[x,y],ts⟩,ty,pos,af,g⟩=some true) (hN:Nat.blt d N=true)
  (hx:ev l x=some (.int .i64 (a:Int))) (hy:ev l y=some (.int .i64 (b:Int))) (k:WL P N ds ops Q os ((d,.int .i64 ((max a b:Nat):Int))::l) w):
  WL P N ds ops Q (⟨some d,.call ⟨.builtin .max, #[x,y],ts⟩,ty,pos,af,g⟩::os) l w:=
 O9 rfl hw hN (fun c hc=>by
  have h:=Lib.run_max_ints (P:=P) w ts ty .i64 .i64 (a:Int) (b:Int)
  simp[execOp,resolve,invoke,builtin,hc.ev hx,hc.ev hy,h]
  omega) k
theorem A5A {ts:Array TypeId}{a b:Nat} (hw:P7 ops l ⟨some d,.call ⟨.builtin .max, #[x,y],ts⟩,ty,pos,af,g⟩=some true) (hN:Nat.blt d N=true)
  (hx:ev l x=some (.int .i64 (a:Int))) (hy:ev l y=some (.int .i64 (b:Int))) (k:WQ P N ds ops w K os ((d,.int .i64 ((max a b:Nat):Int))::l)):
  WQ P N ds ops w K (⟨some d,.call ⟨.builtin .max, #[x,y],ts⟩,ty,pos,af,g⟩::os) l:=
 A0a rfl hw hN (fun w' hkq c hc=>by
  have h:=Lib.run_max_ints (P:=P) w' ts ty .i64 .i64 (a:Int) (b:Int)
  simp[execOp,resolve,invoke,builtin,hc.ev hx,hc.ev hy,h]
  omega) k
end
end Go.Fw
namespace Go.Proofs.YtfjdfdgpkncpfaaGreatDoor
open Go.Proofs.Tryz
open Go.Fw
def B4b (T:Sp.Src) (pb f:Nat):Prop:= ∀(I:O5) (la:Option Addr) (lc deep:Nat) (da:Option Addr) (dc:Nat) (s:Sp.St),A1X I→A1o I T la lc→s.i≤T.l.length→3 *(T.l.length-s.i)+2≤f→
 s.ds.length+2 *(T.l.length-s.i)+4≤1099511627776→deep≤12→CalM prog 183 #[ptr pb] I (QSt pb la lc T s deep da dc) (A8z pb la lc T deep (Sp.A1p T f deep s))
def A9J (T:Sp.Src) (pb f:Nat):Prop:= ∀(I:O5) (la:Option Addr) (lc deep:Nat) (da:Option Addr) (dc:Nat) (s:Sp.St) (m:Nat),A1X I→A1o I T la lc→s.i≤T.l.length→3 *(T.l.length-s.i)+3≤f→
 s.ds.length+2 *(T.l.length-s.i)+4≤1099511627776→deep≤12→CalM prog 167 #[ptr pb,nt m] I (QSt pb la lc T s deep da dc) (A8z pb la lc T deep (Sp.Y2 T f deep m s))
structure QExp where
 f:Nat
 e:Sp.Ex
 s:Sp.St
 I:O5
 ea:Option Addr
 ec:Nat
 xs:List Value
 da:Option Addr
 dc:Nat
theorem B2w (T:Sp.Src) (pb:Nat) (hT:Ok T) (n:Nat) (ih:∀g,g<n→B4b T pb g∧A9J T pb g):A9J T pb n:=by
 intro I la lc deep da dc s m hC hr hi hf hd hdp
 obtain⟨f,rfl⟩:∃f,n=f+1:=⟨n-1,by omega⟩
 have h2:=hT.size
 have h3:=hT.len
 have hat:=(ih f (by omega)).1 I la lc deep da dc s hC hr hi (by omega) hd hdp
 have hg:=(Sp.A0c T f).1 deep s
 rw[Sp.Y2]
 generalize Sp.A1p T f deep s=r0 at hat hg ⊢
 have hg1:=hg.le
 have hg2:=hg.top hi
 have hg3:=hg.ds
 refine CalM.of fun w E hm=>enter (N:=47) func167 rfl [(0,ptr pb),(1,nt m)] A0B rfl ?_
 repeat' (first|(refine F5 ?_ hm (hc:=hat);clear hm;rintro _ I1 _ _ ⟨⟨ea,ec,xs,rfl,hrow,hexs⟩,da1,dc1,rfl⟩ hle hm;have hleI1:=hle;try simp only[F7] at hm)|(refine V6 (d:=4) ?_ hm;clear hm;intro b4 _ hm)|(refine V7 (d:=5) ?_ hm;clear hm;intro b5 _ hm)|refine D7 ?_|refine D8 ?_|refine A7 ?_|refine E5 ?_|refine A8 ?_|refine E9 ?_)
 refine U4 (fun x:QExp=> [(0,ptr pb),(1,nt m),(4,ptr b4),(5,ptr b5)])
  (fun x w'=>Mem E x.I [A3d pb la lc T x.s deep x.da x.dc,A15 x.s.ds x.da x.dc,.cell b5 (A0d x.e x.ea x.ec) 107,.cell b4 ex0 107] w'∧Le I x.I∧RowI x.I 107 6 (.slice x.ea x.e.args.length x.ec) x.e.args.length x.xs∧V5 x.I x.e.args x.xs∧
   Sp.opL T x.f deep m x.e x.s=Sp.opL T f deep m r0.1 r0.2∧3 *(T.l.length-x.s.i)+1≤x.f∧x.f≤f∧x.s.i≤T.l.length∧x.s.ds.length+2 *(T.l.length-x.s.i)≤s.ds.length+2 *(T.l.length-s.i)+1)
  (fun x=>T.l.length-x.s.i) ⟨f,r0.1,r0.2,I1,ea,ec,xs,da1,dc1⟩ (by exact⟨rfl,rfl,rfl,rfl,trivial⟩) ⟨hm.perm pm2_1,hleI1,hrow,hexs,rfl,by dsimp only;omega,Nat.le_refl _,hg2,by dsimp only;omega⟩ ?_
 clear hm hrow hexs hleI1
 rintro⟨f1,e1,s1,I2,ea1,ec1,xs1,da2,dc2⟩ w2 ⟨hm,hle0,hrow,hexs,hO,hf1,hff,hi1,hd1⟩
 dsimp only at hm hle0 hrow hexs hO hf1 hff hi1 hd1 ⊢
 obtain⟨f1,rfl⟩:∃f',f1=f'+1:=⟨f1-1,by omega⟩
 rw[Sp.opL] at hO
 dsimp only at hO
 replace hr:=hr.le hle0
 replace hC:=hC.le hle0
 have h1:=hT.at_ s1.i
 have ht:=B8N (T.tok s1.i).text
 by_cases hc:Sp.A0l (T.tok s1.i).text<m∨Sp.A0l (T.tok s1.i).text=0
 ·rw[if_pos hc] at hO
  rw[←hO]
  repeat' (first|(refine L9 ?_ hm (hc:=A06 s1 hr);clear hm;intro _ hm)|(refine Q7 (hc:=by exact ht _) (k:=?_);rintro _ _ ⟨rfl,rfl⟩)|refine U5 ?_ hm|(refine N8 ?_ hm;clear hm;intro _ hm;try simp only[F7] at hm)|refine Y9 ?_ hm|refine D7 ?_|refine D5 ?_|refine J8 ?_|refine J3 ?_|refine J5 ?_|refine L8 ?_|refine Y1 ?_|(refine O0 (h1:=fun _=>?_) (h0:=fun _=>?_)<;>(try first|contradiction|(exfalso;omega)))|refine D8 ?_|refine A7 ?_|refine G5 ?_|refine O8 ?_|refine E5 ?_|refine A8 ?_|refine E9 ?_|refine G8 ?_|refine F9 ?_|(refine D6 (ht:=fun _=>?_) (hf:=fun _=>?_)<;>(try first|contradiction|(exfalso;omega))))
  all_goals first
   |exact⟨I2,_,⟨⟨ea1,ec1,xs1,rfl,hrow,hexs⟩,da2,dc2,rfl⟩,hm.left (H:= [_,_])⟩
   |(exfalso;omega)
 ·rw[if_neg hc] at hO
  have htl:=Sp.B7Y (T.tok s1.i).text
  have hlt:s1.i<T.l.length:=Sp.A0W (Sp.A62 (by omega))
  have hex:=fun da dc=>(ih f1 (by omega)).2 I2 la lc deep da dc s1.next (Sp.A0l (T.tok s1.i).text+1) hC hr (by rw[Sp.J7];omega) (by rw[Sp.J7];omega) (by rw[Sp.J7,Sp.Y3];omega) hdp
  have hg:=(Sp.A0c T f1).2.2.1 deep (Sp.A0l (T.tok s1.i).text+1) s1.next
  generalize Sp.Y2 T f1 deep (Sp.A0l (T.tok s1.i).text+1) s1.next=r at hO hex hg
  have hg1:=hg.le
  have hg2:=hg.top (by rw[Sp.J7];omega)
  have hg3:=hg.ds
  rw[Sp.J7] at hg1 hg3
  rw[Sp.Y3] at hg3
  repeat' (first|(refine L9 ?_ hm (hc:=A06 s1 hr);clear hm;intro _ hm)|(refine Q7 (hc:=by exact ht _) (k:=?_);rintro _ _ ⟨rfl,rfl⟩)|(refine F5 ?_ hm (hc:=hex _ _);clear hm;rintro _ I3 _ _ ⟨⟨ea2,ec2,xs2,rfl,hrow2,hexs2⟩,da3,dc3,rfl⟩ hle hm;have hleI3:=hle;try simp only[F7] at hm)|(refine B0D ?_ hm;clear hm;intro I4 a4 _ hle4 hm hrow4)|(refine B94 (by rfl) (by rfl) (by rfl) (by rfl) ?_)|(refine V7 (d:=8) ?_ hm;clear hm;intro b8 _ hm)|refine H6 ?_ hm|refine U5 ?_ hm|(refine N8 ?_ hm;clear hm;intro _ hm;try simp only[F7] at hm)|(refine J6 hm (k:=?_);clear hm;intro _ hm;try simp only[F7] at hm)|refine D7 ?_|refine D5 ?_|refine J3 ?_|refine J5 ?_|refine L8 ?_|refine E8 ?_|refine Q4 ?_|refine C9 ?_|refine Q9 ?_|(refine O0 (h1:=fun _=>?_) (h0:=fun _=>?_)<;>(try first|contradiction|(exfalso;omega)))|refine D8 ?_|refine A7 ?_|refine D9 ?_|refine E5 ?_|refine A8 ?_|refine E9 ?_|refine F8 ?_|(refine D6 (ht:=fun _=>?_) (hf:=fun _=>?_)<;>(try first|contradiction|(exfalso;omega))))
  all_goals try omega
  exact J9 (⟨f1,.mk 3 (T.tok s1.i).text 0 [e1,r.1] e1.fr (max r.1.to e1.to),r.2,I4,a4,2,_,da3,dc3⟩:QExp) (by exact⟨rfl,rfl,rfl,rfl,trivial⟩)
   ⟨hm.tl,(hle0.trans hleI3).trans hle4,hrow4,C1o (A4f.le (hleI3.trans hle4) _ _ (A3x hrow hexs)) (A4f.le hle4 _ _ (A3x hrow2 hexs2)),hO,by dsimp only;omega,by dsimp only;omega,hg2,by dsimp only;omega⟩ (by dsimp only;omega)
section
variable {T:Sp.Src}{pb f:Nat}{I:O5}{la:Option Addr}{lc deep:Nat}{da:Option Addr}{dc:Nat}{s:Sp.St}
theorem A7D {E:Ent}{N i b1 b2 ec:Nat}{ea:Option Addr}{xs:List Value}{R:List HItem}{l:Log}{w:World}{e:Sp.Ex}{s':Sp.St} (hdp:deep≤12) (hx:lk l 2=some (ptr b2))
  (hm:Mem E I (.cell b1 [ptr pb] 175::A3d pb la lc T s' (deep+1) da dc::A15 s'.ds da dc::R) w) (hb:R[i]?=some (.cell b2 (A0d e ea ec) 107))
  (hrow:RowI I 107 6 (.slice ea e.args.length ec) e.args.length xs) (hexs:V5 I e.args xs):
  At N [⟨.fn (.func 196) #[ptr b1], #[]⟩] (bodyPostD prog Tryz.f183 (Ret (fun v w'=> ∃I' H',A8z pb la lc T deep (e,s') v I' H'∧Mem E I' H' w'))) .ret l w:=
 B2e (i:=i+3) (H':=.cell b1 [ptr pb] 175::A3d pb la lc T s' deep da dc::A15 s'.ds da dc::R) rfl hx (B96 hdp hm) hb rfl
  (fun _w' hm'=>⟨I,_,⟨⟨ea,ec,xs,rfl,hrow,hexs⟩,da,dc,rfl⟩,hm'.tl.left (H:= [_,_])⟩)
theorem B0y (I:O5):RowI I 107 6 (.slice none ([]:List Sp.Ex).length 0) ([]:List Sp.Ex).length []:=A0z _ _ _ _ _
theorem C0a (hT:Ok T) (hr:A1o I T la lc) (hi:s.i≤T.l.length) (hd:s.ds.length+4≤1099511627776) (hend:T.l.length≤s.i):
  CalM prog 183 #[ptr pb] I (QSt pb la lc T s deep da dc) (A8z pb la lc T deep (Sp.A52 T s 2)):=by
 refine CalM.of fun w E hm=>A1b (N:=153) func183 rfl [(0,ptr pb)] Z4 rfl ?_
 repeat' (first|(refine L9 ?_ hm (hc:=A0k s hr);clear hm;intro _ hm)|(refine F5 ?_ hm (hc:=B3E s 2 hr hT hi (by omega));clear hm;rintro _ _ _ _ ⟨⟨ea,ec,xs,rfl,hrow,hexs⟩,da',dc',rfl⟩ hle hm;try simp only[F7] at hm)|(refine A5V ?_ hm)|(refine A0t (d:=1) ?_ hm;clear hm;intro b1 _ hm)|(refine V6 (d:=2) ?_ hm;clear hm;intro b2 _ hm)|refine H6 ?_ hm|refine P8 ?_ hm|(refine N8 ?_ hm;clear hm;intro _ hm;try simp only[F7] at hm)|refine D5 ?_|refine D8 ?_|refine A7 ?_|refine G5 ?_|refine E5 ?_|refine A8 ?_|refine G8 ?_|refine O6 ?_|(refine W9 ?_;intro _ hkq;replace hm:=hm.kept0 hkq;clear hkq)|(refine D6 (ht:=fun _=>?_) (hf:=fun _=>?_)<;>(try first|contradiction|(exfalso;omega)))|refine A39 ?_|refine O1 ?_|refine J4 ?_|refine H7 ?_)
 all_goals try omega
 exact⟨_,_,⟨⟨ea,ec,xs,rfl,hrow,hexs⟩,da',dc',rfl⟩,hm.left (H:= [_,_])⟩
theorem B8P (hT:Ok T) (hr:A1o I T la lc) (hi:s.i≤T.l.length) (hd:s.ds.length+4≤1099511627776) (hend:s.i<T.l.length) (hdp:deep=12):
  CalM prog 183 #[ptr pb] I (QSt pb la lc T s deep da dc) (A8z pb la lc T deep (Sp.A52 T s 12)):=by
 refine CalM.of fun w E hm=>A1b (N:=153) func183 rfl [(0,ptr pb)] Z4 rfl ?_
 repeat' (first|(refine L9 ?_ hm (hc:=A0k s hr);clear hm;intro _ hm)|(refine F5 ?_ hm (hc:=B3E s 12 hr hT hi (by omega));clear hm;rintro _ _ _ _ ⟨⟨ea,ec,xs,rfl,hrow,hexs⟩,da',dc',rfl⟩ hle hm;try simp only[F7] at hm)|(refine A5V ?_ hm)|(refine A0t (d:=1) ?_ hm;clear hm;intro b1 _ hm)|(refine V6 (d:=2) ?_ hm;clear hm;intro b2 _ hm)|refine H6 ?_ hm|refine P8 ?_ hm|(refine N8 ?_ hm;clear hm;intro _ hm;try simp only[F7] at hm)|refine D5 ?_|refine L8 ?_|refine E8 ?_|refine C9 ?_|refine D8 ?_|refine A7 ?_|refine G5 ?_|refine E5 ?_|refine A8 ?_|refine F8 ?_|refine G8 ?_|refine O6 ?_|(refine W9 ?_;intro _ hkq;replace hm:=hm.kept0 hkq;clear hkq)|(refine D6 (ht:=fun _=>?_) (hf:=fun _=>?_)<;>(try first|contradiction|(exfalso;omega)))|refine A39 ?_|refine O1 ?_|refine J4 ?_|refine H7 ?_)
 all_goals try omega
 exact⟨_,_,⟨⟨ea,ec,xs,rfl,hrow,hexs⟩,da',dc',rfl⟩,hm.left (H:= [_,_])⟩
theorem B8Q (hT:Ok T) (hr:A1o I T la lc) (hi:s.i≤T.l.length) (hd:s.ds.length+4≤1099511627776) (hend:s.i<T.l.length) (hdp:deep<12) (hk:(T.tok s.i).kind≠2) (hp:(T.tok s.i).text≠ [40]) (hname:Sp.name (T.tok s.i).text=false):
  CalM prog 183 #[ptr pb] I (QSt pb la lc T s deep da dc) (A8z pb la lc T deep (Sp.A52 T s 2)):=by
 have h1:=hT.at_ s.i
 have h2:=hT.size
 have htk:=A14 hend
 have hn:=A58 (T.tok s.i).text (by omega)
 rw[hname] at hn
 refine CalM.of fun w E hm=>A1b (N:=153) func183 rfl [(0,ptr pb)] Z4 rfl ?_
 repeat' (first|(refine L9 ?_ hm (hc:=A0k s hr);clear hm;intro _ hm)|(refine Y0 (id:=8) (hm.perm pm0) 10 11 (h:=?_);clear hm;intro wd hR hm)|(refine A1d ?_ (hr:=by exact hr) (he:=by intro _;rfl) (hz:=by exact htk);intro b1' o1 hp1)|(refine Q7 (hc:=by exact hn _) (k:=?_);rintro _ _ ⟨rfl,hk⟩;replace hm:=hm.kept0 hk)|(refine F5 ?_ hm (hc:=B3E s 2 hr hT hi (by omega));clear hm;rintro _ _ _ _ ⟨⟨ea,ec,xs,rfl,hrow,hexs⟩,da',dc',rfl⟩ hle hm;try simp only[F7] at hm)|refine Y7 ?_ hR|refine A0h ?_ hR|(refine A2K (d:=4) ?_ hm;clear hm;intro b4 _ hm)|(refine A1l ?_;replace hm:=hR.back hm;clear hR;try simp only[F7] at hm)|(refine A0t (d:=1) ?_ hm;clear hm;intro b1 _ hm)|(refine V6 (d:=2) ?_ hm;clear hm;intro b2 _ hm)|refine H6 ?_ hm|refine P8 ?_ hm|(refine N8 ?_ hm;clear hm;intro _ hm;try simp only[F7] at hm)|(refine J6 hm (k:=?_);clear hm;intro _ hm;try simp only[F7] at hm)|refine D5 ?_|refine L8 ?_|refine U0 ?_|refine U9 ?_|refine E8 ?_|refine A0r ?_|refine Q4 ?_|refine C9 ?_|refine D8 ?_|refine A7 ?_|refine G5 ?_|refine O8 ?_|refine E5 ?_|refine A8 ?_|refine E9 ?_|refine F8 ?_|refine G8 ?_|refine A3L ?_|refine O6 ?_|(refine W9 ?_;intro _ hkq;replace hm:=hm.kept0 hkq;clear hkq)|refine F9 ?_|(refine D6 (ht:=fun _=>?_) (hf:=fun _=>?_)<;>(try first|contradiction|(exfalso;omega)))|refine A39 ?_|refine O1 ?_|refine J4 ?_|refine H7 ?_|refine X5 ?_|refine Q3 ?_|refine A0s ?_)
 all_goals try first|omega|contradiction
 exact A7D (i:=1) (by omega) rfl (hm.front 4 rfl) rfl hrow hexs
theorem C0b (hT:Ok T) (hC:A1X I) (hr:A1o I T la lc) (hi:s.i≤T.l.length) (hd:s.ds.length+4≤1099511627776) (hend:s.i<T.l.length) (hdp:deep<12) (hk:(T.tok s.i).kind=2):
  CalM prog 183 #[ptr pb] I (QSt pb la lc T s deep da dc) (A8z pb la lc T deep
   (if 1000000000<Sp.A2l (T.tok s.i).text then (.mk 1 [] 0 [] (T.tok s.i).pos ((T.tok s.i).pos+(T.tok s.i).text.length),(s.bad T 3).next) else (.mk 1 [] (Sp.A2l (T.tok s.i).text) [] (T.tok s.i).pos ((T.tok s.i).pos+(T.tok s.i).text.length),s.next))):=by
 have h1:=hT.at_ s.i
 have h2:=hT.size
 have h3:=hT.len
 have htk:=A14 hend
 have hl1:1≤(T.tok s.i).text.length:=by
  rw[Sp.Src.tok,List.getD_eq_getElem?_getD,List.getElem?_eq_getElem hend]
  exact hT.len1 _ (List.getElem_mem hend)
 have hat:=B95 (I:=I) (T.tok s.i).text hl1 (by omega) (hT.digs hk) hC
 have hbi:(s.bad T 3).i=s.i:=rfl
 have hen:T.endOf (s.i+1)=(T.tok s.i).pos+(T.tok s.i).text.length:=rfl
 have hls:=A2o (pb:=pb) (deep:=deep+1) (da:=da) (dc:=dc) s.next hr hT (by rw[Sp.J7];omega)
 have hlb:=fun da dc=>A2o (pb:=pb) (deep:=deep+1) (da:=da) (dc:=dc) (s.bad T 3).next hr hT (by rw[Sp.J7];omega)
 rw[show T.endOf s.next.i=(T.tok s.i).pos+(T.tok s.i).text.length from hen] at hls
 rw[show T.endOf (s.bad T 3).next.i=(T.tok s.i).pos+(T.tok s.i).text.length from hen] at hlb
 refine CalM.of fun w E hm=>A1b (N:=153) func183 rfl [(0,ptr pb)] Z4 rfl ?_
 by_cases hbig:1000000000<Sp.A2l (T.tok s.i).text
 ·rw[if_pos hbig]
  repeat' (first|(refine L9 ?_ hm (hc:=A0k s hr);clear hm;intro _ hm)|(refine Y0 (id:=8) (hm.perm pm0) 10 11 (h:=?_);clear hm;intro wd hR hm)|(refine A1d ?_ (hr:=by exact hr) (he:=by intro _;rfl) (hz:=by exact htk);intro b1' o1 hp1)|(refine F5 ?_ hm (hc:=hat);clear hm;rintro _ _ _ _ ⟨rfl,rfl,(⟨hsm,rfl⟩|⟨_,nv,ev,rfl,(⟨rfl,hnv⟩|⟨te,pe,rfl⟩)⟩)⟩ hle hm;try simp only[F7] at hm)|(refine B2p (by rfl) (by rfl) (by rfl) (by rfl) (by kernel_rfl) ?_)|(refine A7Z (by rfl) (by rfl) (by rfl) (by rfl) (by kernel_rfl) ?_)|(refine F5 ?_ hm (hc:=A2c s 3 hr hT hi (by omega));clear hm;rintro _ _ _ _ ⟨rfl,rfl,da',dc',rfl⟩ hle hm;try simp only[F7] at hm)|(refine L9 ?_ hm (hc:=hlb _ _);clear hm;intro _ hm)|refine Y7 ?_ hR|refine A0h ?_ hR|(refine A2K (d:=4) ?_ hm;clear hm;intro b4 _ hm)|(refine A1l ?_;replace hm:=hR.back hm;clear hR;try simp only[F7] at hm)|(refine A0t (d:=1) ?_ hm;clear hm;intro b1 _ hm)|(refine V6 (d:=2) ?_ hm;clear hm;intro b2 _ hm)|refine H6 ?_ hm|refine P8 ?_ hm|(refine N8 ?_ hm;clear hm;intro _ hm;try simp only[F7] at hm)|(refine J6 hm (k:=?_);clear hm;intro _ hm;try simp only[F7] at hm)|refine D7 ?_|refine D5 ?_|refine J8 ?_|refine J3 ?_|refine A2L ?_|refine L8 ?_|refine V9 ?_|refine E8 ?_|refine A0r ?_|refine Q4 ?_|refine C9 ?_|refine Q9 ?_|refine Y1 ?_|refine D8 ?_|refine A7 ?_|refine G5 ?_|refine O8 ?_|refine E5 ?_|refine A8 ?_|refine E9 ?_|refine F8 ?_|refine G8 ?_|refine A3L ?_|refine O6 ?_|(refine W9 ?_;intro _ hkq;replace hm:=hm.kept0 hkq;clear hkq)|refine F9 ?_|(refine D6 (ht:=fun _=>?_) (hf:=fun _=>?_)<;>(try first|contradiction|(exfalso;omega)))|refine A39 ?_|refine O1 ?_|refine J4 ?_|refine H7 ?_|refine X5 ?_|refine Q3 ?_|refine A0s ?_)
  all_goals try first|omega|contradiction
  all_goals exact A7D (i:=1) (e:=.mk 1 [] 0 [] (T.tok s.i).pos ((T.tok s.i).pos+(T.tok s.i).text.length)) (s':=(s.bad T 3).next) (by omega) rfl (hm.front 4 rfl) rfl (B0y _) .nil
 ·rw[if_neg hbig]
  repeat' (first|(refine L9 ?_ hm (hc:=A0k s hr);clear hm;intro _ hm)|(refine Y0 (id:=8) (hm.perm pm0) 10 11 (h:=?_);clear hm;intro wd hR hm)|(refine A1d ?_ (hr:=by exact hr) (he:=by intro _;rfl) (hz:=by exact htk);intro b1' o1 hp1)|(refine F5 ?_ hm (hc:=hat);clear hm;rintro _ _ _ _ ⟨rfl,rfl,(⟨hsm,rfl⟩|⟨hbg,nv,ev,rfl,_⟩)⟩ hle hm;try simp only[F7] at hm)|(refine A7Z (by rfl) (by rfl) (by rfl) (by rfl) (by kernel_rfl) ?_)|(refine L9 ?_ hm (hc:=hls);clear hm;intro _ hm)|refine Y7 ?_ hR|refine A0h ?_ hR|(refine A2K (d:=4) ?_ hm;clear hm;intro b4 _ hm)|(refine A1l ?_;replace hm:=hR.back hm;clear hR;try simp only[F7] at hm)|(refine A0t (d:=1) ?_ hm;clear hm;intro b1 _ hm)|(refine V6 (d:=2) ?_ hm;clear hm;intro b2 _ hm)|refine H6 ?_ hm|refine P8 ?_ hm|(refine N8 ?_ hm;clear hm;intro _ hm;try simp only[F7] at hm)|(refine J6 hm (k:=?_);clear hm;intro _ hm;try simp only[F7] at hm)|refine D7 ?_|refine D5 ?_|refine J3 ?_|refine A2L ?_|refine L8 ?_|refine V9 ?_|refine E8 ?_|refine A0r ?_|refine Q4 ?_|refine C9 ?_|refine Q9 ?_|refine D8 ?_|refine A7 ?_|refine G5 ?_|refine O8 ?_|refine E5 ?_|refine A8 ?_|refine E9 ?_|refine F8 ?_|refine G8 ?_|refine A3L ?_|refine O6 ?_|(refine W9 ?_;intro _ hkq;replace hm:=hm.kept0 hkq;clear hkq)|(refine D6 (ht:=fun _=>?_) (hf:=fun _=>?_)<;>(try first|contradiction|(exfalso;omega)))|refine A39 ?_|refine O1 ?_|refine J4 ?_|refine H7 ?_|refine X5 ?_|refine Q3 ?_|refine A0s ?_)
  all_goals try first|omega|contradiction
  exact A7D (i:=1) (e:=.mk 1 [] (Sp.A2l (T.tok s.i).text) [] (T.tok s.i).pos ((T.tok s.i).pos+(T.tok s.i).text.length)) (s':=s.next) (by omega) rfl (((hm.front 4 rfl).front 4 rfl).front 4 rfl) rfl (B0y _) .nil
end
section
variable {T:Sp.Src}{pb f:Nat}{I:O5}{la:Option Addr}{lc deep:Nat}{da:Option Addr}{dc:Nat}{s:Sp.St}
theorem C0c (hT:Ok T) (hC:A1X I) (hr:A1o I T la lc) (hf:3 *(T.l.length-s.i)+2≤f+1) (ih:A9J T pb f)
  (hd:s.ds.length+2 *(T.l.length-s.i)+4≤1099511627776) (hend:s.i<T.l.length) (hdp:deep<12) (hk:(T.tok s.i).kind≠2) (hpar:(T.tok s.i).text= [40]):
  CalM prog 183 #[ptr pb] I (QSt pb la lc T s deep da dc) (A8z pb la lc T deep ((Sp.Y2 T f (deep+1) 1 s.next).1,((Sp.Y2 T f (deep+1) 1 s.next).2.need T [41]).2)):=by
 have h1:=hT.at_ s.i
 have h2:=hT.size
 have h3:=hT.len
 have htk:=A14 hend
 have hex:=fun da dc=>ih I la lc (deep+1) da dc s.next 1 hC hr (by rw[Sp.J7];omega) (by rw[Sp.J7];omega) (by rw[Sp.J7,Sp.Y3];omega) (by omega)
 have hg:=(Sp.A0c T f).2.2.1 (deep+1) 1 s.next
 generalize Sp.Y2 T f (deep+1) 1 s.next=r at hex hg ⊢
 have hg1:=hg.le
 have hg2:=hg.top (by rw[Sp.J7];omega)
 have hg3:=hg.ds
 rw[Sp.J7] at hg1 hg3
 rw[Sp.Y3] at hg3
 refine CalM.of fun w E hm=>A1b (N:=153) func183 rfl [(0,ptr pb)] Z4 rfl ?_
 repeat' (first|(refine L9 ?_ hm (hc:=A0k s hr);clear hm;intro _ hm)|(refine Y0 (id:=8) (hm.perm pm0) 10 11 (h:=?_);clear hm;intro wd hR hm)|(refine A1d ?_ (hr:=by exact hr) (he:=by intro _;rfl) (hz:=by exact htk);intro b1' o1 hp1)|(refine F5 ?_ hm (hc:=hex _ _);clear hm;rintro _ I2 _ _ ⟨⟨ea,ec,xs,rfl,hrow,hexs⟩,da',dc',rfl⟩ hle hm;have hleI2:=hle;try simp only[F7] at hm)|(refine F5 ?_ hm (hc:=A1k r.2 [41] (by simp) (hr.le hleI2) hT (by omega) hg2);clear hm;rintro _ _ _ _ ⟨rfl,rfl,da2,dc2,rfl⟩ hle hm;try simp only[F7] at hm)|refine Y7 ?_ hR|refine A0h ?_ hR|(refine A2K (d:=4) ?_ hm;clear hm;intro b4 _ hm)|(refine A1l ?_;replace hm:=hR.back hm;clear hR;try simp only[F7] at hm)|(refine A0t (d:=1) ?_ hm;clear hm;intro b1 _ hm)|(refine V6 (d:=2) ?_ hm;clear hm;intro b2 _ hm)|(refine V7 (d:=7) ?_ hm;clear hm;intro b7 _ hm)|refine H6 ?_ hm|refine U5 ?_ hm|refine P8 ?_ hm|(refine N8 ?_ hm;clear hm;intro _ hm;try simp only[F7] at hm)|(refine J6 hm (k:=?_);clear hm;intro _ hm;try simp only[F7] at hm)|refine D5 ?_|refine L8 ?_|refine U0 ?_|refine E8 ?_|refine A0r ?_|refine Q4 ?_|refine C9 ?_|refine D8 ?_|refine A7 ?_|refine G5 ?_|refine O8 ?_|refine E5 ?_|refine A8 ?_|refine E9 ?_|refine F8 ?_|refine G8 ?_|refine A3L ?_|refine O6 ?_|(refine W9 ?_;intro _ hkq;replace hm:=hm.kept0 hkq;clear hkq)|(refine D6 (ht:=fun _=>?_) (hf:=fun _=>?_)<;>(try first|contradiction|(exfalso;omega)))|refine A39 ?_|refine O1 ?_|refine J4 ?_|refine H7 ?_|refine X5 ?_|refine Q3 ?_|refine A0s ?_)
 all_goals try first|omega|contradiction
 exact A7D (i:=2) (e:=r.1) (s':=(r.2.need T [41]).2) (by omega) rfl (hm.front 5 rfl) rfl hrow hexs
theorem C0d (hT:Ok T) (hr:A1o I T la lc) (_hi:s.i≤T.l.length) (_hd:s.ds.length+4≤1099511627776) (hend:s.i<T.l.length) (hdp:deep<12) (hk:(T.tok s.i).kind≠2) (hp:(T.tok s.i).text≠ [40]) (hname:Sp.name (T.tok s.i).text=true) (hopen:T.is (s.i+1) [40]=false):
  CalM prog 183 #[ptr pb] I (QSt pb la lc T s deep da dc) (A8z pb la lc T deep (.mk 2 (T.tok s.i).text 0 [] (T.tok s.i).pos ((T.tok s.i).pos+(T.tok s.i).text.length),s.next)):=by
 have h1:=hT.at_ s.i
 have h2:=hT.size
 have h3:=hT.len
 have htk:=A14 hend
 have hn:=A58 (T.tok s.i).text (by omega)
 rw[hname] at hn
 have he:=fun da dc=>A0f (pb:=pb) (deep:=deep+1) (da:=da) (dc:=dc) s.next [40] (by simp) hr hT (by rw[Sp.J7];omega)
 rw[show T.is s.next.i [40]=false from hopen,if_neg (by simp)] at he
 have hen:T.endOf (s.i+1)=(T.tok s.i).pos+(T.tok s.i).text.length:=rfl
 have hls:=fun da dc=>A2o (pb:=pb) (deep:=deep+1) (da:=da) (dc:=dc) s.next hr hT (by rw[Sp.J7];omega)
 rw[show T.endOf s.next.i=(T.tok s.i).pos+(T.tok s.i).text.length from hen] at hls
 refine CalM.of fun w E hm=>A1b (N:=153) func183 rfl [(0,ptr pb)] Z4 rfl ?_
 repeat' (first|(refine L9 ?_ hm (hc:=A0k s hr);clear hm;intro _ hm)|(refine Y0 (id:=8) (hm.perm pm0) 10 11 (h:=?_);clear hm;intro wd hR hm)|(refine A1d ?_ (hr:=by exact hr) (he:=by intro _;rfl) (hz:=by exact htk);intro b1' o1 hp1)|(refine Q7 (hc:=by exact hn _) (k:=?_);rintro _ _ ⟨rfl,hk⟩;replace hm:=hm.kept0 hk)|(refine F5 ?_ hm (hc:=he _ _);clear hm;rintro _ _ _ _ ⟨rfl,rfl,da',dc',rfl⟩ hle hm;try simp only[F7] at hm)|(refine L9 ?_ hm (hc:=hls _ _);clear hm;intro _ hm)|refine Y7 ?_ hR|refine A0h ?_ hR|(refine A2K (d:=4) ?_ hm;clear hm;intro b4 _ hm)|(refine A1l ?_;replace hm:=hR.back hm;clear hR;try simp only[F7] at hm)|(refine A0t (d:=1) ?_ hm;clear hm;intro b1 _ hm)|(refine V6 (d:=2) ?_ hm;clear hm;intro b2 _ hm)|(refine V7 (d:=8) ?_ hm;clear hm;intro b8 _ hm)|refine H6 ?_ hm|refine U5 ?_ hm|refine P8 ?_ hm|(refine N8 ?_ hm;clear hm;intro _ hm;try simp only[F7] at hm)|(refine J6 hm (k:=?_);clear hm;intro _ hm;try simp only[F7] at hm)|refine D7 ?_|refine D5 ?_|refine L8 ?_|refine U0 ?_|refine U9 ?_|refine E8 ?_|refine A0r ?_|refine Q4 ?_|refine C9 ?_|refine Q9 ?_|refine D8 ?_|refine A7 ?_|refine D9 ?_|refine E5 ?_|refine A8 ?_|refine E9 ?_|refine F8 ?_|refine G8 ?_|refine A3L ?_|refine O6 ?_|(refine W9 ?_;intro _ hkq;replace hm:=hm.kept0 hkq;clear hkq)|refine F6 ?_|(refine D6 (ht:=fun _=>?_) (hf:=fun _=>?_)<;>(try first|contradiction|(exfalso;omega)))|refine A39 ?_|refine O1 ?_|refine J4 ?_|refine H7 ?_|refine X5 ?_|refine Q3 ?_|refine A0s ?_)
 all_goals try first|omega|contradiction
 exact A7D (i:=2) (e:=.mk 2 (T.tok s.i).text 0 [] (T.tok s.i).pos ((T.tok s.i).pos+(T.tok s.i).text.length)) (s':=s.next) (by omega) rfl (hm.front 5 rfl) rfl (B0y _) .nil
end
structure QArg where
 f:Nat
 l:List Sp.Ex
 n:Nat
 s:Sp.St
 I:O5
 a:Option Addr
 cp:Nat
 xs:List Value
 da:Option Addr
 dc:Nat
section
variable {T:Sp.Src}{pb f:Nat}{I:O5}{la:Option Addr}{lc deep:Nat}{da:Option Addr}{dc:Nat}{s:Sp.St}
theorem B8O (hT:Ok T) (hC:A1X I) (hr:A1o I T la lc) (hf:3 *(T.l.length-s.i)+2≤f+1) (ih:∀g,g<f→A9J T pb g)
  (hd:s.ds.length+2 *(T.l.length-s.i)+4≤1099511627776) (hdp:deep<12) (hk:(T.tok s.i).kind≠2) (hpar:(T.tok s.i).text≠ [40]) (hname:Sp.name (T.tok s.i).text=true) (hopen:T.is (s.i+1) [40]=true):
  CalM prog 183 #[ptr pb] I (QSt pb la lc T s deep da dc) (A8z pb la lc T deep
   (.mk 4 (T.tok s.i).text 0 (Sp.A17 T f (deep+1) [] s.next.next).1 (T.tok s.i).pos (T.endOf ((Sp.A17 T f (deep+1) [] s.next.next).2.need T [41]).2.i),((Sp.A17 T f (deep+1) [] s.next.next).2.need T [41]).2)):=by
 have h1:=hT.at_ s.i
 have h2:=hT.size
 have h3:=hT.len
 have hlt:=Sp.is_lt hopen
 have hend:s.i<T.l.length:=by omega
 have htk:=A14 hend
 have hn:=A58 (T.tok s.i).text (by omega)
 rw[hname] at hn
 have he:=fun da dc=>A0f (pb:=pb) (deep:=deep+1) (da:=da) (dc:=dc) s.next [40] (by simp) hr hT (by rw[Sp.J7];omega)
 rw[show T.is s.next.i [40]=true from hopen,if_pos (by rfl)] at he
 have hg:=(Sp.A0c T f).2.1 (deep+1) [] s.next.next
 have hg1:=hg.le
 have hg2:=hg.top (by rw[Sp.J7,Sp.J7];omega)
 have hg3:=hg.ds
 have hAi:s.next.next.i=s.i+1+1:=rfl
 have hAd:s.next.next.ds=s.ds:=rfl
 obtain⟨R,hR⟩:∃R,R=Sp.A17 T f (deep+1) [] s.next.next:=⟨_,rfl⟩
 rw[←hR] at hg hg1 hg2 hg3 ⊢
 have hg4:=(Sp.X6 T R.2 [41]).top hg2
 have nmi:s.next.i≤T.l.length:=by rw[Sp.J7];omega
 refine CalM.of fun w E hm=>A1b (N:=153) func183 rfl [(0,ptr pb)] Z4 rfl ?_
 repeat' (first|(refine A65 1 (fun _:QArg=> [(0,ptr pb),(1,ptr b1),(2,ptr b2),(3,nt (T.tok s.i).pos),(4,ptr b4),(8,ptr b8)]) (fun x w'=>Mem E x.I [A3d pb la lc T R.2 (deep+1) x.da x.dc,A15 R.2.ds x.da x.dc,B22 x.n x.a x.cp x.xs,.cell b8 [nt 4,str (T.tok s.i).text,nt 0,.slice x.a x.n x.cp,nt 0,nt 0] 107,.cell b4 (A1Q (T.tok s.i)) 81,.cell b2 ex0 107,.cell b1 [ptr pb] 175] w'∧Le I x.I∧V5 x.I R.1 x.xs∧R.1.length=x.n) ?_ ?_)|(refine L9 ?_ hm (hc:=A0k s hr);clear hm;intro _ hm)|(refine Y0 (id:=8) (hm.perm pm0) 10 11 (h:=?_);clear hm;intro wd hR hm)|(refine A1d ?_ (hr:=by exact hr) (he:=by intro _;rfl) (hz:=by exact htk);intro b1' o1 hp1)|(refine Q7 (hc:=by exact hn _) (k:=?_);rintro _ _ ⟨rfl,hk⟩;replace hm:=hm.kept0 hk)|(refine F5 ?_ hm (hc:=he _ _);clear hm;rintro _ _ _ _ ⟨rfl,rfl,da',dc',rfl⟩ hle hm;try simp only[F7] at hm)|refine Y7 ?_ hR|refine A0h ?_ hR|(refine A2K (d:=4) ?_ hm;clear hm;intro b4 _ hm)|(refine A1l ?_;replace hm:=hR.back hm;clear hR;try simp only[F7] at hm)|(refine A0t (d:=1) ?_ hm;clear hm;intro b1 _ hm)|(refine V6 (d:=2) ?_ hm;clear hm;intro b2 _ hm)|(refine V7 (d:=8) ?_ hm;clear hm;intro b8 _ hm)|refine H6 ?_ hm|refine P8 ?_ hm|(refine N8 ?_ hm;clear hm;intro _ hm;try simp only[F7] at hm)|(refine J6 hm (k:=?_);clear hm;intro _ hm;try simp only[F7] at hm)|refine D5 ?_|refine L8 ?_|refine U0 ?_|refine U9 ?_|refine E8 ?_|refine A0r ?_|refine Q4 ?_|refine C9 ?_|refine Q9 ?_|refine D8 ?_|refine A7 ?_|refine D9 ?_|refine E5 ?_|refine A8 ?_|refine E9 ?_|refine F8 ?_|refine A3L ?_|refine O6 ?_|(refine W9 ?_;intro _ hkq;replace hm:=hm.kept0 hkq;clear hkq)|refine F9 ?_|refine F6 ?_|(refine D6 (ht:=fun _=>?_) (hf:=fun _=>?_)<;>(try first|contradiction|(exfalso;omega)))|refine A39 ?_|refine O1 ?_|refine J4 ?_|refine H7 ?_|refine X5 ?_|refine Q3 ?_|refine A0s ?_)
 all_goals try first|omega|contradiction
 ·have hm2:=hm.nil 107 6
  clear hm
  refine U4 (fun _:QArg=> [(0,ptr pb),(1,ptr b1),(2,ptr b2),(3,nt (T.tok s.i).pos),(4,ptr b4),(8,ptr b8)])
   (fun x w'=>Mem E x.I [A3d pb la lc T x.s (deep+1) x.da x.dc,A15 x.s.ds x.da x.dc,B22 x.n x.a x.cp x.xs,.cell b8 [nt 4,str (T.tok s.i).text,nt 0,.slice x.a x.n x.cp,nt 0,nt 0] 107,.cell b4 (A1Q (T.tok s.i)) 81,.cell b2 ex0 107,.cell b1 [ptr pb] 175] w'∧
    Le I x.I∧V5 x.I x.l x.xs∧x.l.length=x.n∧x.n≤5∧x.f≤f∧x.s.i≤T.l.length∧x.s.ds.length+2 *(T.l.length-x.s.i)≤s.ds.length+2 *(T.l.length-s.i)∧
    Sp.A17 T x.f (deep+1) x.l x.s=R∧3 *(T.l.length-x.s.i)+4≤x.f)
   (fun x=>T.l.length-x.s.i) ⟨f,[],0,s.next.next,I,none,0,[],da',dc'⟩ (by exact⟨rfl,rfl,rfl,rfl,rfl,rfl,trivial⟩)
   ⟨hm2.perm pm2_1,Le.refl _,.nil,rfl,by dsimp only;omega,Nat.le_refl _,by dsimp only;omega,by dsimp only;rw[hAd];omega,hR.symm,by dsimp only;omega⟩ ?_
  clear hm2
  rintro⟨f1,l1,n1,s1,I1,a1,cp1,xs1,da1,dc1⟩ w2 ⟨hm,hle0,hexs,hn1,hn5,hff,hi1,hd1,hL,hf1⟩
  dsimp only at hm hle0 hexs hn1 hn5 hff hi1 hd1 hL hf1 ⊢
  have hr1:=hr.le hle0
  have hC1:=hC.le hle0
  obtain⟨f1,rfl⟩:∃f',f1=f'+1:=⟨f1-1,by omega⟩
  rw[Sp.A17] at hL
  by_cases hend1:T.l.length≤s1.i∨T.is s1.i [41]=true
  ·rw[if_pos hend1] at hL
   subst hL
   by_cases hl1:T.l.length≤s1.i
   ·have htt:T.tok s1.i=⟨0,[],T.size⟩:=Sp.A2S hl1
    have hpk:=A06 (pb:=pb) (deep:=deep+1) (da:=da1) (dc:=dc1) s1 hr1
    rw[htt] at hpk
    repeat' (first|(refine V3 ?_ hm (hc:=hpk))|refine P8 ?_ hm|refine A7 ?_|refine G9 ?_|refine G6 ?_|refine E5 ?_|refine O4 ?_|refine O6 ?_|(refine W9 ?_;intro _ hkq;replace hm:=hm.kept0 hkq;clear hkq)|(refine D6 (ht:=fun _=>?_) (hf:=fun _=>?_)<;>(try first|contradiction|(exfalso;omega)))|refine U3 ?_|refine V8 ?_|refine A03 ?_|refine A0A ?_|refine O1 ?_|refine J4 ?_|refine H7 ?_)
    all_goals try first|omega|contradiction
    exact Y6 (⟨0,[],n1,s1,I1,a1,cp1,xs1,da1,dc1⟩:QArg) (by exact⟨rfl,rfl,rfl,rfl,rfl,rfl,trivial⟩) ⟨hm,hle0,hexs,hn1⟩
   ·have e1:=hend1.resolve_left hl1
    have htt:(T.tok s1.i).text= [41]:=by simp only[Sp.Src.is,Bool.and_eq_true,decide_eq_true_eq] at e1;exact e1.2
    have hpk:=A06 (pb:=pb) (deep:=deep+1) (da:=da1) (dc:=dc1) s1 hr1
    rw[htt] at hpk
    repeat' (first|(refine V3 ?_ hm (hc:=hpk))|refine P8 ?_ hm|refine A7 ?_|refine G9 ?_|refine G6 ?_|refine E5 ?_|refine O4 ?_|refine O6 ?_|(refine W9 ?_;intro _ hkq;replace hm:=hm.kept0 hkq;clear hkq)|refine F6 ?_|refine U3 ?_|refine A0p ?_|refine A0A ?_|refine A2k ?_)
    all_goals try first|omega|contradiction
    exact Y6 (⟨0,[],n1,s1,I1,a1,cp1,xs1,da1,dc1⟩:QArg) (by exact⟨rfl,rfl,rfl,rfl,rfl,rfl,trivial⟩) ⟨hm,hle0,hexs,hn1⟩
  rw[if_neg hend1] at hL
  have hlt1:s1.i<T.l.length:=by omega
  have htt:(T.tok s1.i).text≠ [41]:=fun e=>hend1 (.inr (by simp[Sp.Src.is,hlt1,e]))
  have hpk:=A06 (pb:=pb) (deep:=deep+1) (da:=da1) (dc:=dc1) s1 hr1
  by_cases h5:l1.length=5
  ·rw[if_pos h5] at hL
   subst hL
   repeat' (first|(refine V3 ?_ hm (hc:=hpk))|(refine F5 ?_ hm (hc:=A2c s1 5 hr1 hT hi1 (by omega));clear hm;rintro _ _ _ _ ⟨rfl,rfl,da2,dc2,rfl⟩ hle hm;try simp only[F7] at hm)|refine H6 ?_ hm|refine P8 ?_ hm|refine L8 ?_|refine G7 ?_|refine C9 ?_|refine D8 ?_|refine A7 ?_|refine G9 ?_|refine G6 ?_|refine A0u ?_|refine E5 ?_|refine A8 ?_|refine E9 ?_|refine F8 ?_|refine O4 ?_|refine O6 ?_|(refine W9 ?_;intro _ hkq;replace hm:=hm.kept0 hkq;clear hkq)|(refine D6 (ht:=fun _=>?_) (hf:=fun _=>?_)<;>(try first|contradiction|(exfalso;omega)))|refine U3 ?_|refine V8 ?_|refine A03 ?_|refine A0A ?_|refine O1 ?_|refine J4 ?_|refine H7 ?_|(refine U6 (fun _=>?_) (h1:=fun _=>?_)<;>(try first|contradiction|(exfalso;omega))))
   all_goals try first|omega|contradiction
   exact Y6 (⟨0,[],n1,s1,I1,a1,cp1,xs1,da2,dc2⟩:QArg) (by exact⟨rfl,rfl,rfl,rfl,rfl,rfl,trivial⟩) ⟨hm,hle0,hexs,hn1⟩
  rw[if_neg h5] at hL
  dsimp only at hL
  have hex:=fun da dc=>ih f1 (by omega) I1 la lc (deep+1) da dc s1 1 hC1 hr1 (by omega) (by omega) (by omega) (by omega)
  have hgr:=(Sp.A0c T f1).2.2.1 (deep+1) 1 s1
  generalize Sp.Y2 T f1 (deep+1) 1 s1=r at hL hex hgr
  have hgr1:=hgr.le
  have hgr2:=hgr.top hi1
  have hgr3:=hgr.ds
  have hnl:(l1++ [r.1]).length=n1+1:=by simp[hn1]
  have hn4:n1<5:=by omega
  have hni:r.2.next.i=r.2.i+1:=rfl
  have hnd:r.2.next.ds.length=r.2.ds.length:=rfl
  have hea:=fun (I:O5) (hr:A1o I T la lc) da dc=>A0f (I:=I) (pb:=pb) (deep:=deep+1) (da:=da) (dc:=dc) r.2 [44] (by simp) hr hT hgr2
  by_cases hcomma:T.is r.2.i [44]=true
  ·rw[if_pos hcomma] at hL
   rw[hcomma,if_pos (by rfl)] at hea
   have hlt2:=Sp.is_lt hcomma
   repeat' (first|(refine Y0 (id:=30) (hm.perm pm3_0) 3 6 (h:=?_);clear hm;intro wd hR hm)|(refine V3 ?_ hm (hc:=hpk))|(refine Z7 ?_ hm (hc:=hex _ _);clear hm;rintro _ I2 _ _ ⟨⟨ea,ec,xs,rfl,hrow,hexs2⟩,da2,dc2,rfl⟩ hle hm;have hleI2:=hle;try simp only[F7] at hm)|(refine F5 ?_ hm (hc:=hea _ (hr1.le hleI2) _ _);clear hm;rintro _ _ _ _ ⟨rfl,rfl,da3,dc3,rfl⟩ hle hm;try simp only[F7] at hm)|refine Y7 ?_ hR|(refine A1N (d:=140) ?_ hm;clear hm;intro a140 cp140 _ _ hm;replace hm:=hR.back hm;clear hR;try simp only[F7] at hm)|refine H6 ?_ hm|refine P8 ?_ hm|(refine J6 hm (k:=?_);clear hm;intro _ hm;try simp only[F7] at hm)|refine L8 ?_|refine G7 ?_|refine U9 ?_|refine C9 ?_|refine D8 ?_|refine A7 ?_|refine D9 ?_|refine E5 ?_|refine A8 ?_|refine E9 ?_|refine F8 ?_|refine O6 ?_|(refine W9 ?_;intro _ hkq;replace hm:=hm.kept0 hkq;clear hkq)|refine F6 ?_|(refine D6 (ht:=fun _=>?_) (hf:=fun _=>?_)<;>(try first|contradiction|(exfalso;omega)))|refine U3 ?_|refine V8 ?_|refine A03 ?_|refine A0A ?_|refine O1 ?_|refine J4 ?_|refine H7 ?_|(refine U6 (fun _=>?_) (h1:=fun _=>?_)<;>(try first|contradiction|(exfalso;omega)))|refine Q3 ?_|refine A0s ?_)
   all_goals try first|omega|contradiction
   exact J9 (⟨f1,l1++ [r.1],n1+1,r.2.next,I2,_,_,_,da3,dc3⟩:QArg) (by exact⟨rfl,rfl,rfl,rfl,rfl,rfl,trivial⟩) ⟨hm,hle0.trans hleI2,(V5.le hleI2 _ _ hexs).snoc (A3x hrow hexs2),hnl,by dsimp only;omega,by dsimp only;omega,by dsimp only;omega,by dsimp only;omega,hL,by dsimp only;omega⟩ (by dsimp only;omega)
  ·rw[if_neg hcomma] at hL
   rw[show T.is r.2.i [44]=false by simpa using hcomma,if_neg (by simp)] at hea
   subst hL
   repeat' (first|(refine Y0 (id:=30) (hm.perm pm3_0) 3 6 (h:=?_);clear hm;intro wd hR hm)|(refine V3 ?_ hm (hc:=hpk))|(refine Z7 ?_ hm (hc:=hex _ _);clear hm;rintro _ I2 _ _ ⟨⟨ea,ec,xs,rfl,hrow,hexs2⟩,da2,dc2,rfl⟩ hle hm;have hleI2:=hle;try simp only[F7] at hm)|(refine F5 ?_ hm (hc:=hea _ (hr1.le hleI2) _ _);clear hm;rintro _ _ _ _ ⟨rfl,rfl,da3,dc3,rfl⟩ hle hm;try simp only[F7] at hm)|refine Y7 ?_ hR|(refine A1N (d:=140) ?_ hm;clear hm;intro a140 cp140 _ _ hm;replace hm:=hR.back hm;clear hR;try simp only[F7] at hm)|refine H6 ?_ hm|refine P8 ?_ hm|(refine J6 hm (k:=?_);clear hm;intro _ hm;try simp only[F7] at hm)|refine L8 ?_|refine G7 ?_|refine U9 ?_|refine C9 ?_|refine D8 ?_|refine A7 ?_|refine G9 ?_|refine G6 ?_|refine A0u ?_|refine E5 ?_|refine A8 ?_|refine E9 ?_|refine F8 ?_|refine O4 ?_|refine O6 ?_|(refine W9 ?_;intro _ hkq;replace hm:=hm.kept0 hkq;clear hkq)|refine F9 ?_|(refine D6 (ht:=fun _=>?_) (hf:=fun _=>?_)<;>(try first|contradiction|(exfalso;omega)))|refine U3 ?_|refine V8 ?_|refine A03 ?_|refine A0A ?_|refine O1 ?_|refine J4 ?_|refine H7 ?_|(refine U6 (fun _=>?_) (h1:=fun _=>?_)<;>(try first|contradiction|(exfalso;omega)))|refine Q3 ?_|refine A0s ?_)
   all_goals try first|omega|contradiction
   exact Y6 (⟨0,[],n1+1,s1,I2,_,_,_,da3,dc3⟩:QArg) (by exact⟨rfl,rfl,rfl,rfl,rfl,rfl,trivial⟩) ⟨hm,hle0.trans hleI2,(V5.le hleI2 _ _ hexs).snoc (A3x hrow hexs2),hnl⟩
 ·clear hm
  rintro⟨_,_,n1,_,I1,a1,cp1,xs1,da1,dc1⟩ w2 ⟨hm,hle0,hexs,hn1⟩
  dsimp only at hm hle0 hexs hn1 ⊢
  have hr1:=hr.le hle0
  have hd9:R.2.ds.length<1099511627776:=by rw[hAd] at hg3;omega
  subst hn1
  repeat' (first|(refine F5 ?_ hm (hc:=A1k R.2 [41] (by simp) hr1 hT hd9 hg2);clear hm;rintro _ _ _ _ ⟨rfl,rfl,da2,dc2,rfl⟩ hle hm;try simp only[F7] at hm)|(refine L9 ?_ hm (hc:=A2o (R.2.need T [41]).2 hr1 hT hg4);clear hm;intro _ hm)|refine H6 ?_ hm|refine U5 ?_ hm|(refine N8 ?_ hm;clear hm;intro _ hm;try simp only[F7] at hm)|(refine J6 hm (k:=?_);clear hm;intro _ hm;try simp only[F7] at hm)|refine D7 ?_|refine C9 ?_|refine D8 ?_|refine A7 ?_|refine E5 ?_|refine A8 ?_|refine G8 ?_)
  all_goals try first|omega|contradiction
  obtain⟨I3,hle3,hm3,hrow3⟩:=(hm.front 2 rfl).freeze
  exact A7D (i:=2) (e:=.mk 4 (T.tok s.i).text 0 R.1 (T.tok s.i).pos (T.endOf (R.2.need T [41]).2.i)) (s':=(R.2.need T [41]).2) (by omega) rfl (hm3.front 5 rfl) rfl hrow3 (V5.le hle3 _ _ hexs)
end
end Go.Proofs.YtfjdfdgpkncpfaaGreatDoor
end
section
namespace Go.Sp
theorem A5Z {T:Src}{i:Nat}{t:List UInt8} (h:(T.tok i).text=t) (ht:t≠ []):T.is i t=true:=by
 have:=A0W (T:=T) (i:=i) (by rw[h];exact ht)
 simp[Src.is,this,h]
theorem A1x {T:Src}{i:Nat}{t:List UInt8} (h:(T.tok i).text≠t):T.is i t=false:=by simp[Src.is,h]
theorem B0E {T:Src}{i:Nat}{t:List UInt8} (h:T.is i t=true):(T.tok i).text=t:=by
 simp only[Src.is,Bool.and_eq_true,decide_eq_true_eq] at h;exact h.2
end Go.Sp
namespace Go.Proofs.YtfjdfdgpkncpfaaGreatDoor
open Go.Proofs.Tryz
open Go.Fw
theorem B2v (T:Sp.Src) (pb:Nat) (hT:Ok T) (n:Nat) (ih:∀g,g<n→B4b T pb g∧A9J T pb g):B4b T pb n:=by
 intro I la lc deep da dc s hC hr hi hf hd hdp
 obtain⟨f,rfl⟩:∃f,n=f+1:=⟨n-1,by omega⟩
 rw[Sp.A1p]
 dsimp only
 by_cases hend:T.l.length≤s.i
 ·rw[if_pos hend];exact C0a hT hr hi (by omega) hend
 rw[if_neg hend]
 have hlt:s.i<T.l.length:=by omega
 by_cases hdeep:12≤deep
 ·rw[if_pos hdeep];exact B8P hT hr hi (by omega) hlt (by omega)
 rw[if_neg hdeep]
 by_cases hkind:(T.tok s.i).kind=2
 ·rw[if_pos hkind];exact C0b hT hC hr hi (by omega) hlt (by omega) hkind
 rw[if_neg hkind]
 by_cases hpar:(T.tok s.i).text= [40]
 ·rw[if_pos hpar];exact C0c hT hC hr hf (ih f (by omega)).2 hd hlt (by omega) hkind hpar
 rw[if_neg hpar]
 cases hname:Sp.name (T.tok s.i).text with
 |false=>exact B8Q hT hr hi (by omega) hlt (by omega) hkind hpar hname
 |true=>
  rw[if_neg (by simp)]
  cases hop:T.is (s.i+1) [40] with
  |false=>exact C0d hT hr hi (by omega) hlt (by omega) hkind hpar hname hop
  |true=>exact B8O hT hC hr hf (fun g hg=>(ih g (by omega)).2) hd (by omega) hkind hpar hname hop
theorem A1D (T:Sp.Src) (pb:Nat) (hT:Ok T) (n:Nat):B4b T pb n∧A9J T pb n:=by
 induction n using Nat.strongRecOn with
 |_ n ih=>exact⟨B2v T pb hT n ih,B2w T pb hT n ih⟩
abbrev A8A (pb:Nat) (la:Option Addr) (lc:Nat) (T:Sp.Src) (deep:Nat) (r:Sp.Stm×Sp.St):Value→O5→List HItem→Prop:=
 fun v I' H'=>(∃ea ec ex a1 c1 xs1 a2 c2 xs2,v=.agg (A44 r.1.kind r.1.name r.1.at_ r.1.label r.1.opn r.1.e ea ec (.slice a1 r.1.thn.length c1) (.slice a2 r.1.els.length c2) r.1.fr r.1.to).toArray∧
  RowI I' 107 6 (.slice ea r.1.e.args.length ec) r.1.e.args.length ex∧V5 I' r.1.e.args ex∧
  RowI I' 109 15 (.slice a1 r.1.thn.length c1) r.1.thn.length xs1∧U8 I' r.1.thn xs1∧RowI I' 109 15 (.slice a2 r.1.els.length c2) r.1.els.length xs2∧U8 I' r.1.els xs2)∧
  ∃da dc,H'=QSt pb la lc T r.2 deep da dc
abbrev C0N (pb:Nat) (la:Option Addr) (lc:Nat) (T:Sp.Src) (deep:Nat) (r:List Sp.Stm×Sp.St):Value→O5→List HItem→Prop:=
 fun v I' H'=>(∃a c xs,v=.slice a r.1.length c∧RowI I' 109 15 (.slice a r.1.length c) r.1.length xs∧U8 I' r.1 xs)∧∃da dc,H'=QSt pb la lc T r.2 deep da dc
def B9I (T:Sp.Src) (pb f:Nat):Prop:= ∀(I:O5) (la:Option Addr) (lc deep:Nat) (da:Option Addr) (dc:Nat) (s:Sp.St),A1X I→A1o I T la lc→s.i≤T.l.length→5 *(T.l.length-s.i)+5≤f→
 s.ds.length+8 *(T.l.length-s.i)+32≤1099511627776→deep≤12→CalM prog 149 #[ptr pb] I (QSt pb la lc T s deep da dc) (A8A pb la lc T deep (Sp.stm T f deep s))
def A55 (T:Sp.Src) (pb f:Nat):Prop:= ∀(I:O5) (la:Option Addr) (lc deep:Nat) (da:Option Addr) (dc:Nat) (s:Sp.St),A1X I→A1o I T la lc→s.i≤T.l.length→5 *(T.l.length-s.i)+2≤f→
 s.ds.length+8 *(T.l.length-s.i)+32≤1099511627776→deep≤12→CalM prog 118 #[ptr pb] I (QSt pb la lc T s deep da dc) (C0N pb la lc T deep (Sp.block T f deep s))
end Go.Proofs.YtfjdfdgpkncpfaaGreatDoor
end
