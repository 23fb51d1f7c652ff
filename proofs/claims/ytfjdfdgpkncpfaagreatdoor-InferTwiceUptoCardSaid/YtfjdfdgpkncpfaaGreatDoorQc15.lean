/- Own work: texts Shelf, PpAt, PpD, PpE, PpF, PpG, PpH, PpI, one behind the other. -/
import Derived.Test.YtfjdfdgpkncpfaaGreatDoorQc14
import Derived.Shelf.Strings.Builder1
import Derived.Shelf.Strings.Builder2
import Derived.Shelf.Strings.OnBuilder
import Derived.Shelf.Small.Bits
import Derived.Shelf.Strings.BuilderF
import Derived.Shelf.Strings.BuilderK
import Derived.Shelf.Strings.Builder2Cap
import Derived.Shelf.Strconv.Atoi
import Derived.Shelf.Strconv.Itoa0
import Derived.Shelf.Strconv.Itoa1
import Derived.Shelf.LaysM
import Derived.Shelf.Strconv.Itoa2
import Derived.Shelf.Strconv.Itoa3
import Derived.Shelf.Strconv.AtoiErrFast
import Derived.Shelf.Strconv.ParseIntEmpty
import Derived.Shelf.Strconv.AtoiFail
import Derived.Shelf.Strconv.Clone
import Derived.Shelf.Strconv.SyntaxError
import Derived.Shelf.LaysC
import Derived.Shelf.Strconv.ToError
import Derived.Shelf.Strconv.Lower
import Derived.Shelf.Strconv.ParseUint10
import Derived.Shelf.Strconv.ParseUint10Empty
import Derived.Shelf.Strconv.ParseUint10Any
import Derived.Shelf.Strconv.ParseInt10
import Derived.Shelf.Strconv.AtoiLong
import Derived.Shelf.Strconv.AtoiInnerAll
import Derived.Shelf.Strconv.RangeError
import Derived.Shelf.Strconv.ToErrorRange
import Derived.Shelf.Strconv.AtoiAll
import Derived.Shelf.Strconv.ErrVarAll
import Derived.Shelf.Sort.Plain
import Derived.Shelf.Strings.Prefix
import Derived.Shelf.Bits.Mul64
import Derived.Shelf.Strings.Repeat
import Derived.Shelf.Strings.BuilderCap
import Derived.Ground.Names2Prog
import Derived.Shelf.Slices.CompactI
import Derived.Shelf.Slices.In.SortNone
import Derived.Test.YtfjdfdgpkncpfaaGreatDoorProg
import Derived.WideLaws
import Derived.Lib.MinMax
set_option maxHeartbeats 64000000
namespace Go.Fw
open Go.Sp
open Go
section
variable {P:Program}{N:Nat}{ds:List Deferred}{Q:Exit->Act->World->Prop}{l:Log}{w:World}{ops:Array Oper}{os:List Oper}
variable {d:Nat}{ty:TypeId}{pos:String}{af:Array Edge}{g:Option (Nat×Bool)}{t t':TypeId}{x y:Operand}
theorem B16 {te:TypeId}{pe:Value}{c:Value} (hw:O8 ops l ⟨some d,.binOp .neq t x (.const c) t',ty,pos,af,g⟩=some true) (hN:Nat.blt d N=true)
  (hx:ev l x=some (.iface te pe)) (hc:c=.nilIface) (ht:P.underlying t=some (.interface (P.methodsAt t))) (k:WL P N ds ops Q os ((d,.bool true)::l) w):
  WL P N ds ops Q (⟨some d,.binOp .neq t x (.const c) t',ty,pos,af,g⟩::os) l w:=
 O9 rfl hw hN (fun a ha=>by
  subst hc;have h:=run_neq_held_nil (P:=P) w t te pe ht;have e2:a.eval (.const .nilIface)=.nilIface:=rfl;simp[execOp,ha.ev hx,e2,eqGuard,h]) k
theorem A8h {c:Value} (hw:O8 ops l ⟨some d,.binOp .neq t x (.const c) t',ty,pos,af,g⟩=some true) (hN:Nat.blt d N=true)
  (hx:ev l x=some .nilIface) (hc:c=.nilIface) (ht:P.underlying t=some (.interface (P.methodsAt t))) (k:WL P N ds ops Q os ((d,.bool false)::l) w):
  WL P N ds ops Q (⟨some d,.binOp .neq t x (.const c) t',ty,pos,af,g⟩::os) l w:=
 O9 rfl hw hN (fun a ha=>by
  subst hc;have h:=run_equal_nil_nil (P:=P) w t ht;have e2:a.eval (.const .nilIface)=.nilIface:=rfl;simp[execOp,ha.ev hx,e2,eqGuard,binOp,h]) k
end
section
variable {P:Program}{N:Nat}{ds:List Deferred}{Q:Exit->Act->World->Prop}{K:Act->World->Prop}{l:Log}{w:World}{ops:Array Oper}{os:List Oper}
variable {d:Nat}{ty:TypeId}{pos:String}{af:Array Edge}{g:Option (Nat×Bool)}{t t':TypeId}{x y:Operand}
theorem B8h {ts:Array TypeId}{a b:Nat} (hw:O8 ops l ⟨some d,.call ⟨.builtin .max, #[x,y],ts⟩,ty,pos,af,g⟩=some true) (hN:Nat.blt d N=true)
  (hx:ev l x=some (.int .i64 (a:Int))) (hy:ev l y=some (.int .i64 (b:Int))) (k:WL P N ds ops Q os ((d,.int .i64 ((max a b:Nat):Int))::l) w):
  WL P N ds ops Q (⟨some d,.call ⟨.builtin .max, #[x,y],ts⟩,ty,pos,af,g⟩::os) l w:=
 O9 rfl hw hN (fun c hc=>by
  have h:=Lib.run_max_ints (P:=P) w ts ty .i64 .i64 (a:Int) (b:Int);simp[execOp,resolve,invoke,builtin,hc.ev hx,hc.ev hy,h]
  omega) k
theorem A6y {ts:Array TypeId}{a b:Nat} (hw:O8 ops l ⟨some d,.call ⟨.builtin .max, #[x,y],ts⟩,ty,pos,af,g⟩=some true) (hN:Nat.blt d N=true)
  (hx:ev l x=some (.int .i64 (a:Int))) (hy:ev l y=some (.int .i64 (b:Int))) (k:WQ P N ds ops w K os ((d,.int .i64 ((max a b:Nat):Int))::l)):
  WQ P N ds ops w K (⟨some d,.call ⟨.builtin .max, #[x,y],ts⟩,ty,pos,af,g⟩::os) l:=
 A0u rfl hw hN (fun w' hkq c hc=>by
  have h:=Lib.run_max_ints (P:=P) w' ts ty .i64 .i64 (a:Int) (b:Int);simp[execOp,resolve,invoke,builtin,hc.ev hx,hc.ev hy,h]
  omega) k
end
end Go.Fw
namespace Go.Sp
theorem A6T {T:Src}{i:Nat}{t:List UInt8} (h:(T.tok i).text=t) (ht:t≠ []):T.is i t=true:=by
 have:=A2J (T:=T) (i:=i) (by rw[h];exact ht);simp[Src.is,this,h]
theorem A2n {T:Src}{i:Nat}{t:List UInt8} (h:(T.tok i).text≠t):T.is i t=false:=by simp[Src.is,h]
theorem B0u {T:Src}{i:Nat}{t:List UInt8} (h:T.is i t=true):(T.tok i).text=t:=by
 simp only[Src.is,Q7,decide_eq_true_eq]at h;exact h.2
end Go.Sp
namespace Go.Proofs
open Go.Proofs.Tryz
open Go.Sp
open Go.Shelf
def Tryz.laysC172_ren:Go.Shelf.Ren:=⟨fun|172=>197|244=>206|245=>207|247=>210|279=>211|280=>212|281=>213|282=>214|287=>216|316=>217|171=>199|205=>218|321=>223|322=>224|243=>209|246=>215|283=>219|284=>220|285=>221|286=>222|129=>140|317=>225|318=>226|319=>227|320=>228|337=>229|338=>230|n=>n,fun|9=>9|3=>3|75=>245|76=>246|4=>4|5=>5|167=>290|37=>212|0=>0|85=>291|2=>2|168=>293|53=>236|175=>297|46=>201|210=>301|127=>250|145=>310|143=>308|21=>21|171=>303|173=>305|212=>312|51=>234|20=>20|213=>313|232=>314|233=>315|80=>180|n=>n,fun|15=>1|16=>2|17=>3|18=>4|19=>5|n=>n⟩
theorem Tryz.laysC172:Go.Proofs.LaysC.n172 prog Tryz.laysC172_ren:= {
 mixed:=by kernel_rfl
 f129:=func140.trans (congrArg some (by kernel_rfl))
 f171:=func199.trans (congrArg some (by kernel_rfl))
 f172:=func197.trans (congrArg some (by kernel_rfl))
 f205:=func218.trans (congrArg some (by kernel_rfl))
 f243:=func209.trans (congrArg some (by kernel_rfl))
 f244:=func206.trans (congrArg some (by kernel_rfl))
 f245:=func207.trans (congrArg some (by kernel_rfl))
 f246:=func215.trans (congrArg some (by kernel_rfl))
 f247:=func210.trans (congrArg some (by kernel_rfl))
 f279:=func211.trans (congrArg some (by kernel_rfl))
 f280:=func212.trans (congrArg some (by kernel_rfl))
 f281:=func213.trans (congrArg some (by kernel_rfl))
 f282:=func214.trans (congrArg some (by kernel_rfl))
 f283:=func219.trans (congrArg some (by kernel_rfl))
 f284:=func220.trans (congrArg some (by kernel_rfl))
 f285:=func221.trans (congrArg some (by kernel_rfl))
 f286:=func222.trans (congrArg some (by kernel_rfl))
 f287:=func216.trans (congrArg some (by kernel_rfl))
 f316:=func217.trans (congrArg some (by kernel_rfl))
 f317:=func225.trans (congrArg some (by kernel_rfl))
 f318:=func226.trans (congrArg some (by kernel_rfl))
 f319:=func227.trans (congrArg some (by kernel_rfl))
 f320:=func228.trans (congrArg some (by kernel_rfl))
 f321:=func223.trans (congrArg some (by kernel_rfl))
 f322:=func224.trans (congrArg some (by kernel_rfl))
 f337:=func229.trans (congrArg some (by kernel_rfl))
 f338:=func230.trans (congrArg some (by kernel_rfl))
 t0:=underlying0
 a0:=isAgg0
 z0:=sizeOf0
 v0:=zeroValue0
 t2:=underlying2
 a2:=isAgg2
 z2:=sizeOf2
 v2:=zeroValue2
 t3:=underlying3
 a3:=isAgg3
 z3:=sizeOf3
 v3:=zeroValue3
 t4:=underlying4
 a4:=isAgg4
 z4:=sizeOf4
 v4:=zeroValue4
 t5:=underlying5
 a5:=isAgg5
 z5:=sizeOf5
 v5:=zeroValue5
 t9:=underlying9
 a9:=isAgg9
 z9:=sizeOf9
 v9:=zeroValue9
 t20:=underlying20
 a20:=isAgg20
 z20:=sizeOf20
 v20:=zeroValue20
 t21:=underlying21
 a21:=isAgg21
 z21:=sizeOf21
 v21:=zeroValue21
 t37:=underlying212
 a37:=isAgg212
 z37:=sizeOf212
 v37:=zeroValue212
 t46:=underlying201
 a46:=isAgg201
 z46:=sizeOf201
 v46:=zeroValue201
 t51:=underlying234
 a51:=isAgg234
 z51:=sizeOf234
 v51:=zeroValue234
 t53:=underlying236
 a53:=isAgg236
 z53:=sizeOf236
 v53:=zeroValue236
 t75:=underlying245
 a75:=isAgg245
 z75:=sizeOf245
 v75:=zeroValue245
 t76:=underlying246
 a76:=isAgg246
 z76:=sizeOf246
 v76:=zeroValue246
 t85:=underlying291
 a85:=isAgg291
 z85:=sizeOf291
 v85:=zeroValue291
 t127:=underlying250
 a127:=isAgg250
 z127:=sizeOf250
 v127:=zeroValue250
 t143:=underlying308
 a143:=isAgg308
 z143:=sizeOf308
 v143:=zeroValue308
 t145:=underlying310
 a145:=isAgg310
 z145:=sizeOf310
 v145:=zeroValue310
 t167:=underlying290
 a167:=isAgg290
 z167:=sizeOf290
 v167:=zeroValue290
 t168:=underlying293
 a168:=isAgg293
 z168:=sizeOf293
 v168:=zeroValue293
 t171:=underlying303
 a171:=isAgg303
 z171:=sizeOf303
 v171:=zeroValue303
 t173:=underlying305
 a173:=isAgg305
 z173:=sizeOf305
 v173:=zeroValue305
 t175:=underlying297
 a175:=isAgg297
 z175:=sizeOf297
 v175:=zeroValue297
 t210:=underlying301
 a210:=isAgg301
 z210:=sizeOf301
 v210:=zeroValue301
 t212:=underlying312
 a212:=isAgg312
 z212:=sizeOf312
 v212:=zeroValue312
 t213:=underlying313
 a213:=isAgg313
 z213:=sizeOf313
 t232:=underlying314
 a232:=isAgg314
 z232:=sizeOf314
 v232:=zeroValue314
 t233:=underlying315
 a233:=isAgg315
 z233:=sizeOf315
 v233:=zeroValue315
 g15:=by kernel_rfl
 g16:=by kernel_rfl
 g17:=by kernel_rfl
 g18:=by kernel_rfl
 g19:=by kernel_rfl
 t80:=underlying180
 a80:=isAgg180
 z80:=sizeOf180
 v80:=zeroValue180
 i0:=by kernel_rfl
 i2:=by kernel_rfl
 i3:=by kernel_rfl
 i4:=by kernel_rfl
 i5:=by kernel_rfl
 i9:=by kernel_rfl
 i20:=by kernel_rfl
 i21:=by kernel_rfl
 i37:=by kernel_rfl
 i46:=by kernel_rfl
 i51:=by kernel_rfl
 i53:=by kernel_rfl
 i75:=by kernel_rfl
 i76:=by kernel_rfl
 i80:=by kernel_rfl
 i85:=by kernel_rfl
 i127:=by kernel_rfl
 i143:=by kernel_rfl
 i145:=by kernel_rfl
 i167:=by kernel_rfl
 i168:=by kernel_rfl
 i171:=by kernel_rfl
 i173:=by kernel_rfl
 i175:=by kernel_rfl
 i210:=by kernel_rfl
 i212:=by kernel_rfl
 i232:=by kernel_rfl
 i233:=by kernel_rfl
 m15:=by kernel_rfl
 m16:=by kernel_rfl
 m17:=by kernel_rfl
 m18:=by kernel_rfl
 m19:=by kernel_rfl
 c0:=by kernel_rfl
 c2:=by kernel_rfl
 c3:=by kernel_rfl
 c4:=by kernel_rfl
 c5:=by kernel_rfl
 c9:=by kernel_rfl
 c20:=by kernel_rfl
 c21:=by kernel_rfl
 c37:=by kernel_rfl
 c46:=by kernel_rfl
 c51:=by kernel_rfl
 c53:=by kernel_rfl
 c75:=by kernel_rfl
 c76:=by kernel_rfl
 c80:=by kernel_rfl
 c85:=by kernel_rfl
 c127:=by kernel_rfl
 c143:=by kernel_rfl
 c145:=by kernel_rfl
 c167:=by kernel_rfl
 c168:=by kernel_rfl
 c171:=by kernel_rfl
 c173:=by kernel_rfl
 c175:=by kernel_rfl
 c210:=by kernel_rfl
 c212:=by kernel_rfl
 c213:=by kernel_rfl
 c232:=by kernel_rfl
 c233:=by kernel_rfl}
open Go.RowKit in
theorem Tryz.strconv_Atoi_ok (s:ByteArray) (hmax:s.size<=9223372036854775806) (v:Int) (h:Lib.atoiAll s.data.toList=.ok v) (w:World):
  Calls prog 197 #[.string s] w fun e w'=>e=.returned (.tuple #[.int .i64 v,.nilIface])/\(w'=w\/∃t,w'=Lib.bytesWorld w 5 t):=Any.strconv_Atoi_ok Tryz.laysC172 s hmax v h w
open Go.RowKit in
theorem Tryz.strconv_Atoi_range (s:ByteArray) (hlim:s.size<=281474976710656) (h:Lib.atoiAll s.data.toList=.range) (ev:Value) (w:World) (hv:w.cell? ⟨2,0,none⟩=some ev) (hev:ev=.nilIface\/∃te pe,ev=.iface te pe):
  Calls prog 197 #[.string s] w fun e w'=> ∃N,e=.returned (.tuple #[.int .i64 (Lib.atoiSat s.data.toList),.iface 293 (.pointer (some ⟨N,0,none⟩))])/\w.heap.size<=N/\w'.heap[N]?=some (.cells #[.string ⟨#[65,116,111,105]⟩,.string s,ev] 301 (0,0))/\Below w.heap.size w w':=Any.strconv_Atoi_range Tryz.laysC172 s hlim h ev w hv hev
end Go.Proofs
namespace Go.Proofs
open Go.Proofs.Tryz
open Go.Sp
open Go.Fw
def A3b (I:U0):Prop:= ∃te pe c ty fr,I 2=some (.cells c ty fr)/\c[0]?=some (.iface te pe)
theorem A3b.le {I I':U0} (h:A3b I) (m:Le I I'):A3b I':=by
 obtain⟨te,pe,c,ty,fr,h1,h2⟩:=h;exact⟨te,pe,c,ty,fr,m _ _ h1,h2⟩
abbrev B8P (t:List UInt8) (I:U0):Value->U0->List HItem->Prop:=fun v I' H'=>I=I'/\H'= []/\
 ((A3y t<=1000000000/\v=.tuple #[nt (A3y t),.nilIface])\/(1000000000<A3y t/\∃(n:Int) (e:Value),v=.tuple #[.int .i64 n,e]/\((e=.nilIface/\1000000000<n)\/∃te pe,e=.iface te pe)))
theorem B8i {I:U0} (t:List UInt8) (hn:1<=t.length) (hl:t.length<=1048576) (hd:∀c∈t,48<=c.toNat/\c.toNat<=57) (hI:A3b I):
  CalM prog 197 #[str t] I [] (B8P t I):=by
 refine⟨fun w hm=>⟨?_⟩⟩
 have hsz:(⟨t.toArray⟩:ByteArray).size=t.length:=A4d t;obtain⟨h1,h2⟩:=B1p t hn hd;have okc:∀v:Int,Lib.atoiAll t=.ok v->Calls prog 197 #[str t] w (Ret (fun u w'=>u=.tuple #[.int .i64 v,.nilIface]/\Kept [] w w')):=fun v hv=>
  Calls.mono (Tryz.strconv_Atoi_ok ⟨t.toArray⟩ (by rw[hsz];omega) v (by simpa using hv) w) (fun e w' ⟨he,hw⟩=>by
   subst he;refine⟨rfl,?_⟩
   rcases hw with rfl|⟨b,rfl⟩
   ·exact Kept.refl _ _
   ·exact B2L _ _ _)
 rcases X3 1000000000 (A3y t) with hb|hb
 ·rcases h2 hb with h3|⟨v,hv,h3⟩
  ·obtain⟨te,pe,c,ty,fr,e1,e2⟩:=hI
   have hc:w.cell? ⟨2,0,none⟩=some (.iface te pe):=A2Z (hm.inv _ _ e1) e2;exact Calls.mono (Tryz.strconv_Atoi_range ⟨t.toArray⟩ (by rw[hsz];omega) (by simpa using h3) _ w hc (.inr ⟨te,pe,rfl⟩)) (fun e w' ⟨n,he,_,_,hw⟩=>by
    subst he;exact⟨I,[],⟨rfl,rfl,.inr ⟨hb,_,_,rfl,.inr ⟨_,_,rfl⟩⟩⟩,hm.kept0 (Kept.of_below hw)⟩)
  ·exact Calls.mono (okc v h3) (fun e w' q=>by
    cases e with
    |returned u=>exact⟨I,[],⟨rfl,rfl,.inr ⟨hb,v,.nilIface,q.1,.inl ⟨rfl,hv⟩⟩⟩,hm.kept0 q.2⟩
    |panicked c=>exact q.elim
    |outgrown=>exact q.elim)
 ·exact Calls.mono (okc _ (h1 hb)) (fun e w' q=>by
   cases e with
   |returned u=>exact⟨I,[],⟨rfl,rfl,.inl ⟨hb,q.1⟩⟩,hm.kept0 q.2⟩
   |panicked c=>exact q.elim
   |outgrown=>exact q.elim)
section
variable {I:U0}{pb deep lc dc b1:Nat}{la da:Option Addr}{T:Sp.Src}{E:Ent}{R:List HItem}{w:World}{s:Sp.St}
theorem B8j (hdp:deep<=12) (hm:Mem E I (.cell b1 [ptr pb] 175::A4i pb la lc T s (deep+1) da dc::R) w):
  CalD prog 196 #[ptr b1] w (fun w'=>Mem E I (.cell b1 [ptr pb] 175::A4i pb la lc T s deep da dc::R) w'):=by
 refine B5K (N:=8) func196 rfl [(0,ptr b1)] A0v rfl ?_
 have hsub:(((deep+1:Nat):Int))-1=(deep:Int):=by omega
 repeat' (first|refine A5h ?_;rw[hsub]|refine H8 ?_ hm|refine J6 hm (k:=?_);clear hm;intro _ hm;try simp only[F7]at hm|refine E5 ?_|refine C9 ?_|refine D9 ?_|refine A8 ?_|refine A0f ?_)
 exact hm
theorem B8k (hdp:deep<=12) (hm:Mem E I (.cell b1 [ptr pb] 175::A4i pb la lc T s (deep+1) da dc::R) w):
  CalD prog 148 #[ptr b1] w (fun w'=>Mem E I (.cell b1 [ptr pb] 175::A4i pb la lc T s deep da dc::R) w'):=by
 refine B5K (N:=8) func148 rfl [(0,ptr b1)] A0v rfl ?_
 have hsub:(((deep+1:Nat):Int))-1=(deep:Int):=by omega
 repeat' (first|refine A5h ?_;rw[hsub]|refine H8 ?_ hm|refine J6 hm (k:=?_);clear hm;intro _ hm;try simp only[F7]at hm|refine E5 ?_|refine C9 ?_|refine D9 ?_|refine A8 ?_|refine A0f ?_)
 exact hm
end
def B3R (T:Sp.Src) (pb f:Nat):Prop:= ∀(I:U0) (la:Option Addr) (lc deep:Nat) (da:Option Addr) (dc:Nat) (s:Sp.St),A3b I->A2e I T la lc->s.i<=T.l.length->3 *(T.l.length-s.i)+2<=f->
 s.ds.length+2 *(T.l.length-s.i)+4<=1099511627776->deep<=12->CalM prog 183 #[ptr pb] I (QSt pb la lc T s deep da dc) (A8F pb la lc T deep (A4z T f deep s))
def A9w (T:Sp.Src) (pb f:Nat):Prop:= ∀(I:U0) (la:Option Addr) (lc deep:Nat) (da:Option Addr) (dc:Nat) (s:Sp.St) (m:Nat),A3b I->A2e I T la lc->s.i<=T.l.length->3 *(T.l.length-s.i)+3<=f->
 s.ds.length+2 *(T.l.length-s.i)+4<=1099511627776->deep<=12->CalM prog 167 #[ptr pb,nt m] I (QSt pb la lc T s deep da dc) (A8F pb la lc T deep (A0Q T f deep m s))
structure QExp where
 f:Nat
 e:Sp.Ex
 s:Sp.St
 I:U0
 ea:Option Addr
 ec:Nat
 xs:List Value
 da:Option Addr
 dc:Nat
theorem B2g (T:Sp.Src) (pb:Nat) (hT:Ok T) (n:Nat) (ih:∀g,g<n->B3R T pb g/\A9w T pb g):A9w T pb n:=by
 intro I la lc deep da dc s m hC hr hi hf hd hdp;obtain⟨f,rfl⟩:∃f,n=f+1:=⟨n-1,by omega⟩;have h2:=hT.size;have h3:=hT.len;have hat:=(ih f (by omega)).1 I la lc deep da dc s hC hr hi (by omega) hd hdp;have hg:=(A0B T f).1 deep s;rw[A0Q];generalize A4z T f deep s=r0 at hat hg |-;have hg1:=hg.le;have hg2:=hg.top hi;have hg3:=hg.ds;refine CalM.of fun w E hm=>enter (N:=47) func167 rfl [(0,ptr pb),(1,nt m)] A1P rfl ?_
 repeat' (first|refine F6 ?_ hm (hc:=hat);clear hm;rintro _ I1 _ _ ⟨⟨ea,ec,xs,rfl,hrow,hexs⟩,da1,dc1,rfl⟩ hle hm;have hleI1:=hle;try simp only[F7]at hm|refine V6 (d:=4) ?_ hm;clear hm;intro b4 _ hm|refine A0j (d:=5) ?_ hm;clear hm;intro b5 _ hm|refine D8 ?_|refine D9 ?_|refine A7 ?_|refine E8 ?_|refine A8 ?_|refine F5 ?_)
 refine X7 (fun x:QExp=> [(0,ptr pb),(1,nt m),(4,ptr b4),(5,ptr b5)])
  (fun x w'=>Mem E x.I [A4i pb la lc T x.s deep x.da x.dc,A26 x.s.ds x.da x.dc,.cell b5 (A0G x.e x.ea x.ec) 107,.cell b4 ex0 107] w'/\Le I x.I/\RowI x.I 107 6 (.slice x.ea x.e.args.length x.ec) x.e.args.length x.xs/\V7 x.I x.e.args x.xs/\
   Sp.opL T x.f deep m x.e x.s=Sp.opL T f deep m r0.1 r0.2/\3 *(T.l.length-x.s.i)+1<=x.f/\x.f<=f/\x.s.i<=T.l.length/\x.s.ds.length+2 *(T.l.length-x.s.i)<=s.ds.length+2 *(T.l.length-s.i)+1)
  (fun x=>T.l.length-x.s.i) ⟨f,r0.1,r0.2,I1,ea,ec,xs,da1,dc1⟩ (by exact⟨rfl,rfl,rfl,rfl,trivial⟩) ⟨hm.perm pm2_1,hleI1,hrow,hexs,rfl,by dsimp only;omega,H6 _,hg2,by dsimp only;omega⟩ ?_
 clear hm hrow hexs hleI1;rintro⟨f1,e1,s1,I2,ea1,ec1,xs1,da2,dc2⟩ w2 ⟨hm,hle0,hrow,hexs,hO,hf1,hff,hi1,hd1⟩;dsimp only at hm hle0 hrow hexs hO hf1 hff hi1 hd1 |-;obtain⟨f1,rfl⟩:∃f',f1=f'+1:=⟨f1-1,by omega⟩;rw[Sp.opL]at hO;dsimp only at hO;replace hr:=hr.le hle0;replace hC:=hC.le hle0;have h1:=hT.at_ s1.i;have ht:=B7k (T.tok s1.i).text;by_cases hc:A2X (T.tok s1.i).text<m\/A2X (T.tok s1.i).text=0
 ·rw[if_pos hc]at hO
  rw[<-hO];repeat' (first|refine P9 ?_ hm (hc:=A1X s1 hr);clear hm;intro _ hm|refine X6 (hc:=by exact ht _) (k:=?_);rintro _ _ ⟨rfl,rfl⟩|refine O1 ?_ hm|refine O4 ?_ hm;clear hm;intro _ hm;try simp only[F7]at hm|refine V3 ?_ hm|refine D8 ?_|refine D5 ?_|refine N9 ?_|refine J9 ?_|refine O0 ?_|refine Q5 ?_|refine A0p ?_|(refine O5 (h1:=fun _=>?_) (h0:=fun _=>?_)<;>try first|contradiction|omega)|refine D9 ?_|refine A7 ?_|refine H5 ?_|refine L8 ?_|refine E8 ?_|refine A8 ?_|refine F5 ?_|refine H7 ?_|refine F8 ?_|(refine D6 (ht:=fun _=>?_) (hf:=fun _=>?_)<;>try first|contradiction|omega))
  all_goals first
   |exact⟨I2,_,⟨⟨ea1,ec1,xs1,rfl,hrow,hexs⟩,da2,dc2,rfl⟩,hm.left (H:= [_,_])⟩
   |(exfalso;omega)
 ·rw[if_neg hc]at hO
  have htl:=B6B (T.tok s1.i).text;have hlt:s1.i<T.l.length:=A2J (B2t (by omega));have hex:=fun da dc=>(ih f1 (by omega)).2 I2 la lc deep da dc s1.next (A2X (T.tok s1.i).text+1) hC hr (by rw[N8];omega) (by rw[N8];omega) (by rw[N8,A0o];omega) hdp
  have hg:=(A0B T f1).2.2.1 deep (A2X (T.tok s1.i).text+1) s1.next;generalize A0Q T f1 deep (A2X (T.tok s1.i).text+1) s1.next=r at hO hex hg;have hg1:=hg.le;have hg2:=hg.top (by rw[N8];omega);have hg3:=hg.ds;rw[N8]at hg1 hg3;rw[A0o]at hg3;repeat' (first|refine P9 ?_ hm (hc:=A1X s1 hr);clear hm;intro _ hm|refine X6 (hc:=by exact ht _) (k:=?_);rintro _ _ ⟨rfl,rfl⟩|refine F6 ?_ hm (hc:=hex _ _);clear hm;rintro _ I3 _ _ ⟨⟨ea2,ec2,xs2,rfl,hrow2,hexs2⟩,da3,dc3,rfl⟩ hle hm;have hleI3:=hle;try simp only[F7]at hm|refine B0s ?_ hm;clear hm;intro I4 a4 _ hle4 hm hrow4|refine B8h (by rfl) (by rfl) (by rfl) (by rfl) ?_|refine A0j (d:=8) ?_ hm;clear hm;intro b8 _ hm|refine H8 ?_ hm|refine O1 ?_ hm|refine O4 ?_ hm;clear hm;intro _ hm;try simp only[F7]at hm|refine J6 hm (k:=?_);clear hm;intro _ hm;try simp only[F7]at hm|refine D8 ?_|refine D5 ?_|refine J9 ?_|refine O0 ?_|refine Q5 ?_|refine E5 ?_|refine Q4 ?_|refine C9 ?_|refine X4 ?_|(refine O5 (h1:=fun _=>?_) (h0:=fun _=>?_)<;>try first|contradiction|omega)|refine D9 ?_|refine A7 ?_|refine D7 ?_|refine E8 ?_|refine A8 ?_|refine F5 ?_|refine F9 ?_|(refine D6 (ht:=fun _=>?_) (hf:=fun _=>?_)<;>try first|contradiction|omega))
  all_goals try omega
  exact N7 (⟨f1,.mk 3 (T.tok s1.i).text 0 [e1,r.1] e1.fr (max r.1.to e1.to),r.2,I4,a4,2,_,da3,dc3⟩:QExp) (by exact⟨rfl,rfl,rfl,rfl,trivial⟩)
   ⟨hm.tl,(hle0.trans hleI3).trans hle4,hrow4,B9i (A49.le (hleI3.trans hle4) _ _ (A4A hrow hexs)) (A49.le hle4 _ _ (A4A hrow2 hexs2)),hO,by dsimp only;omega,by dsimp only;omega,hg2,by dsimp only;omega⟩ (by dsimp only;omega)
section
variable {T:Sp.Src}{pb f:Nat}{I:U0}{la:Option Addr}{lc deep:Nat}{da:Option Addr}{dc:Nat}{s:Sp.St}
theorem A76 {E:Ent}{N i b1 b2 ec:Nat}{ea:Option Addr}{xs:List Value}{R:List HItem}{l:Log}{w:World}{e:Sp.Ex}{s':Sp.St} (hdp:deep<=12) (hx:lk l 2=some (ptr b2))
  (hm:Mem E I (.cell b1 [ptr pb] 175::A4i pb la lc T s' (deep+1) da dc::A26 s'.ds da dc::R) w) (hb:R[i]?=some (.cell b2 (A0G e ea ec) 107))
  (hrow:RowI I 107 6 (.slice ea e.args.length ec) e.args.length xs) (hexs:V7 I e.args xs):
  At N [⟨.fn (.func 196) #[ptr b1], #[]⟩] (bodyPostD prog Tryz.f183 (Ret (fun v w'=> ∃I' H',A8F pb la lc T deep (e,s') v I' H'/\Mem E I' H' w'))) .ret l w:=
 B1R (i:=i+3) (H':=.cell b1 [ptr pb] 175::A4i pb la lc T s' deep da dc::A26 s'.ds da dc::R) rfl hx (B8j hdp hm) hb rfl
  (fun _w' hm'=>⟨I,_,⟨⟨ea,ec,xs,rfl,hrow,hexs⟩,da,dc,rfl⟩,hm'.tl.left (H:= [_,_])⟩)
theorem B0q (I:U0):RowI I 107 6 (.slice none ([]:List Sp.Ex).length 0) ([]:List Sp.Ex).length []:=A1K _ _ _ _ _
theorem B8n (hT:Ok T) (hr:A2e I T la lc) (hi:s.i<=T.l.length) (hd:s.ds.length+4<=1099511627776) (hend:T.l.length<=s.i):
  CalM prog 183 #[ptr pb] I (QSt pb la lc T s deep da dc) (A8F pb la lc T deep (A6V T s 2)):=by
 refine CalM.of fun w E hm=>A11 (N:=153) func183 rfl [(0,ptr pb)] A0v rfl ?_
 repeat' (first|refine P9 ?_ hm (hc:=A0Z s hr);clear hm;intro _ hm|refine F6 ?_ hm (hc:=B3l s 2 hr hT hi (by omega));clear hm;rintro _ _ _ _ ⟨⟨ea,ec,xs,rfl,hrow,hexs⟩,da',dc',rfl⟩ hle hm;try simp only[F7]at hm|refine A6Q ?_ hm|refine A0z (d:=1) ?_ hm;clear hm;intro b1 _ hm|refine V6 (d:=2) ?_ hm;clear hm;intro b2 _ hm|refine H8 ?_ hm|refine J8 ?_ hm|refine O4 ?_ hm;clear hm;intro _ hm;try simp only[F7]at hm|refine D5 ?_|refine D9 ?_|refine A7 ?_|refine H5 ?_|refine E8 ?_|refine A8 ?_|refine H7 ?_|refine L6 ?_|refine U4 ?_;intro _ hkq;replace hm:=hm.kept0 hkq;clear hkq|(refine D6 (ht:=fun _=>?_) (hf:=fun _=>?_)<;>try first|contradiction|omega)|refine A44 ?_|refine J3 ?_|refine J5 ?_|refine G6 ?_)
 all_goals try omega
 exact⟨_,_,⟨⟨ea,ec,xs,rfl,hrow,hexs⟩,da',dc',rfl⟩,hm.left (H:= [_,_])⟩
theorem B7m (hT:Ok T) (hr:A2e I T la lc) (hi:s.i<=T.l.length) (hd:s.ds.length+4<=1099511627776) (hend:s.i<T.l.length) (hdp:deep=12):
  CalM prog 183 #[ptr pb] I (QSt pb la lc T s deep da dc) (A8F pb la lc T deep (A6V T s 12)):=by
 refine CalM.of fun w E hm=>A11 (N:=153) func183 rfl [(0,ptr pb)] A0v rfl ?_
 repeat' (first|refine P9 ?_ hm (hc:=A0Z s hr);clear hm;intro _ hm|refine F6 ?_ hm (hc:=B3l s 12 hr hT hi (by omega));clear hm;rintro _ _ _ _ ⟨⟨ea,ec,xs,rfl,hrow,hexs⟩,da',dc',rfl⟩ hle hm;try simp only[F7]at hm|refine A6Q ?_ hm|refine A0z (d:=1) ?_ hm;clear hm;intro b1 _ hm|refine V6 (d:=2) ?_ hm;clear hm;intro b2 _ hm|refine H8 ?_ hm|refine J8 ?_ hm|refine O4 ?_ hm;clear hm;intro _ hm;try simp only[F7]at hm|refine D5 ?_|refine Q5 ?_|refine E5 ?_|refine C9 ?_|refine D9 ?_|refine A7 ?_|refine H5 ?_|refine E8 ?_|refine A8 ?_|refine F9 ?_|refine H7 ?_|refine L6 ?_|refine U4 ?_;intro _ hkq;replace hm:=hm.kept0 hkq;clear hkq|(refine D6 (ht:=fun _=>?_) (hf:=fun _=>?_)<;>try first|contradiction|omega)|refine A44 ?_|refine J3 ?_|refine J5 ?_|refine G6 ?_)
 all_goals try omega
 exact⟨_,_,⟨⟨ea,ec,xs,rfl,hrow,hexs⟩,da',dc',rfl⟩,hm.left (H:= [_,_])⟩
theorem B7n (hT:Ok T) (hr:A2e I T la lc) (hi:s.i<=T.l.length) (hd:s.ds.length+4<=1099511627776) (hend:s.i<T.l.length) (hdp:deep<12) (hk:(T.tok s.i).kind≠2) (hp:(T.tok s.i).text≠ [40]) (hname:Sp.name (T.tok s.i).text=false):
  CalM prog 183 #[ptr pb] I (QSt pb la lc T s deep da dc) (A8F pb la lc T deep (A6V T s 2)):=by
 have h1:=hT.at_ s.i;have h2:=hT.size;have htk:=A24 hend;have hn:=A61 (T.tok s.i).text (by omega);rw[hname]at hn;refine CalM.of fun w E hm=>A11 (N:=153) func183 rfl [(0,ptr pb)] A0v rfl ?_
 repeat' (first|refine P9 ?_ hm (hc:=A0Z s hr);clear hm;intro _ hm|refine A0r (id:=8) (hm.perm pm0) 10 11 (h:=?_);clear hm;intro wd hR hm|refine A2s ?_ (hr:=by exact hr) (he:=by intro _;rfl) (hz:=by exact htk);intro b1' o1 hp1|refine X6 (hc:=by exact hn _) (k:=?_);rintro _ _ ⟨rfl,hk⟩;replace hm:=hm.kept0 hk|refine F6 ?_ hm (hc:=B3l s 2 hr hT hi (by omega));clear hm;rintro _ _ _ _ ⟨⟨ea,ec,xs,rfl,hrow,hexs⟩,da',dc',rfl⟩ hle hm;try simp only[F7]at hm|refine A0g ?_ hR|refine A0X ?_ hR|refine A2j (d:=4) ?_ hm;clear hm;intro b4 _ hm|refine A1m ?_;replace hm:=hR.back hm;clear hR;try simp only[F7]at hm|refine A0z (d:=1) ?_ hm;clear hm;intro b1 _ hm|refine V6 (d:=2) ?_ hm;clear hm;intro b2 _ hm|refine H8 ?_ hm|refine J8 ?_ hm|refine O4 ?_ hm;clear hm;intro _ hm;try simp only[F7]at hm|refine J6 hm (k:=?_);clear hm;intro _ hm;try simp only[F7]at hm|refine D5 ?_|refine Q5 ?_|refine A0c ?_|refine Y7 ?_|refine E5 ?_|refine A1z ?_|refine Q4 ?_|refine C9 ?_|refine D9 ?_|refine A7 ?_|refine H5 ?_|refine L8 ?_|refine E8 ?_|refine A8 ?_|refine F5 ?_|refine F9 ?_|refine H7 ?_|refine A4S ?_|refine L6 ?_|refine U4 ?_;intro _ hkq;replace hm:=hm.kept0 hkq;clear hkq|refine F8 ?_|(refine D6 (ht:=fun _=>?_) (hf:=fun _=>?_)<;>try first|contradiction|omega)|refine A44 ?_|refine J3 ?_|refine J5 ?_|refine G6 ?_|refine Z4 ?_|refine S9 ?_|refine A08 ?_)
 all_goals try first|omega|contradiction
 exact A76 (i:=1) (by omega) rfl (hm.front 4 rfl) rfl hrow hexs
theorem B8o (hT:Ok T) (hC:A3b I) (hr:A2e I T la lc) (hi:s.i<=T.l.length) (hd:s.ds.length+4<=1099511627776) (hend:s.i<T.l.length) (hdp:deep<12) (hk:(T.tok s.i).kind=2):
  CalM prog 183 #[ptr pb] I (QSt pb la lc T s deep da dc) (A8F pb la lc T deep
   (if 1000000000<A3y (T.tok s.i).text then (.mk 1 [] 0 [] (T.tok s.i).pos ((T.tok s.i).pos+(T.tok s.i).text.length),(s.bad T 3).next) else (.mk 1 [] (A3y (T.tok s.i).text) [] (T.tok s.i).pos ((T.tok s.i).pos+(T.tok s.i).text.length),s.next))):=by
 have h1:=hT.at_ s.i;have h2:=hT.size;have h3:=hT.len;have htk:=A24 hend;have hl1:1<=(T.tok s.i).text.length:=by
  rw[Sp.Src.tok,U2,G9 hend];exact hT.len1 _ (Q8 hend)
 have hat:=B8i (I:=I) (T.tok s.i).text hl1 (by omega) (hT.digs hk) hC;have hbi:(s.bad T 3).i=s.i:=rfl;have hen:T.endOf (s.i+1)=(T.tok s.i).pos+(T.tok s.i).text.length:=rfl;have hls:=A3q (pb:=pb) (deep:=deep+1) (da:=da) (dc:=dc) s.next hr hT (by rw[N8];omega);have hlb:=fun da dc=>A3q (pb:=pb) (deep:=deep+1) (da:=da) (dc:=dc) (s.bad T 3).next hr hT (by rw[N8];omega)
 rw[show T.endOf s.next.i=(T.tok s.i).pos+(T.tok s.i).text.length from hen]at hls;rw[show T.endOf (s.bad T 3).next.i=(T.tok s.i).pos+(T.tok s.i).text.length from hen]at hlb;refine CalM.of fun w E hm=>A11 (N:=153) func183 rfl [(0,ptr pb)] A0v rfl ?_
 by_cases hbig:1000000000<A3y (T.tok s.i).text
 ·rw[if_pos hbig]
  repeat' (first|refine P9 ?_ hm (hc:=A0Z s hr);clear hm;intro _ hm|refine A0r (id:=8) (hm.perm pm0) 10 11 (h:=?_);clear hm;intro wd hR hm|refine A2s ?_ (hr:=by exact hr) (he:=by intro _;rfl) (hz:=by exact htk);intro b1' o1 hp1|refine F6 ?_ hm (hc:=hat);clear hm;rintro _ _ _ _ ⟨rfl,rfl,(⟨hsm,rfl⟩|⟨_,nv,ev,rfl,(⟨rfl,hnv⟩|⟨te,pe,rfl⟩)⟩)⟩ hle hm;try simp only[F7]at hm|refine B16 (by rfl) (by rfl) (by rfl) (by rfl) (by kernel_rfl) ?_|refine A8h (by rfl) (by rfl) (by rfl) (by rfl) (by kernel_rfl) ?_|refine F6 ?_ hm (hc:=A29 s 3 hr hT hi (by omega));clear hm;rintro _ _ _ _ ⟨rfl,rfl,da',dc',rfl⟩ hle hm;try simp only[F7]at hm|refine P9 ?_ hm (hc:=hlb _ _);clear hm;intro _ hm|refine A0g ?_ hR|refine A0X ?_ hR|refine A2j (d:=4) ?_ hm;clear hm;intro b4 _ hm|refine A1m ?_;replace hm:=hR.back hm;clear hR;try simp only[F7]at hm|refine A0z (d:=1) ?_ hm;clear hm;intro b1 _ hm|refine V6 (d:=2) ?_ hm;clear hm;intro b2 _ hm|refine H8 ?_ hm|refine J8 ?_ hm|refine O4 ?_ hm;clear hm;intro _ hm;try simp only[F7]at hm|refine J6 hm (k:=?_);clear hm;intro _ hm;try simp only[F7]at hm|refine D8 ?_|refine D5 ?_|refine N9 ?_|refine J9 ?_|refine A5g ?_|refine Q5 ?_|refine A1r ?_|refine E5 ?_|refine A1z ?_|refine Q4 ?_|refine C9 ?_|refine X4 ?_|refine A0p ?_|refine D9 ?_|refine A7 ?_|refine H5 ?_|refine L8 ?_|refine E8 ?_|refine A8 ?_|refine F5 ?_|refine F9 ?_|refine H7 ?_|refine A4S ?_|refine L6 ?_|refine U4 ?_;intro _ hkq;replace hm:=hm.kept0 hkq;clear hkq|refine F8 ?_|(refine D6 (ht:=fun _=>?_) (hf:=fun _=>?_)<;>try first|contradiction|omega)|refine A44 ?_|refine J3 ?_|refine J5 ?_|refine G6 ?_|refine Z4 ?_|refine S9 ?_|refine A08 ?_)
  all_goals try first|omega|contradiction
  all_goals exact A76 (i:=1) (e:=.mk 1 [] 0 [] (T.tok s.i).pos ((T.tok s.i).pos+(T.tok s.i).text.length)) (s':=(s.bad T 3).next) (by omega) rfl (hm.front 4 rfl) rfl (B0q _) .nil
 ·rw[if_neg hbig]
  repeat' (first|refine P9 ?_ hm (hc:=A0Z s hr);clear hm;intro _ hm|refine A0r (id:=8) (hm.perm pm0) 10 11 (h:=?_);clear hm;intro wd hR hm|refine A2s ?_ (hr:=by exact hr) (he:=by intro _;rfl) (hz:=by exact htk);intro b1' o1 hp1|refine F6 ?_ hm (hc:=hat);clear hm;rintro _ _ _ _ ⟨rfl,rfl,(⟨hsm,rfl⟩|⟨hbg,nv,ev,rfl,_⟩)⟩ hle hm;try simp only[F7]at hm|refine A8h (by rfl) (by rfl) (by rfl) (by rfl) (by kernel_rfl) ?_|refine P9 ?_ hm (hc:=hls);clear hm;intro _ hm|refine A0g ?_ hR|refine A0X ?_ hR|refine A2j (d:=4) ?_ hm;clear hm;intro b4 _ hm|refine A1m ?_;replace hm:=hR.back hm;clear hR;try simp only[F7]at hm|refine A0z (d:=1) ?_ hm;clear hm;intro b1 _ hm|refine V6 (d:=2) ?_ hm;clear hm;intro b2 _ hm|refine H8 ?_ hm|refine J8 ?_ hm|refine O4 ?_ hm;clear hm;intro _ hm;try simp only[F7]at hm|refine J6 hm (k:=?_);clear hm;intro _ hm;try simp only[F7]at hm|refine D8 ?_|refine D5 ?_|refine J9 ?_|refine A5g ?_|refine Q5 ?_|refine A1r ?_|refine E5 ?_|refine A1z ?_|refine Q4 ?_|refine C9 ?_|refine X4 ?_|refine D9 ?_|refine A7 ?_|refine H5 ?_|refine L8 ?_|refine E8 ?_|refine A8 ?_|refine F5 ?_|refine F9 ?_|refine H7 ?_|refine A4S ?_|refine L6 ?_|refine U4 ?_;intro _ hkq;replace hm:=hm.kept0 hkq;clear hkq|(refine D6 (ht:=fun _=>?_) (hf:=fun _=>?_)<;>try first|contradiction|omega)|refine A44 ?_|refine J3 ?_|refine J5 ?_|refine G6 ?_|refine Z4 ?_|refine S9 ?_|refine A08 ?_)
  all_goals try first|omega|contradiction
  exact A76 (i:=1) (e:=.mk 1 [] (A3y (T.tok s.i).text) [] (T.tok s.i).pos ((T.tok s.i).pos+(T.tok s.i).text.length)) (s':=s.next) (by omega) rfl (((hm.front 4 rfl).front 4 rfl).front 4 rfl) rfl (B0q _) .nil
end
section
variable {T:Sp.Src}{pb f:Nat}{I:U0}{la:Option Addr}{lc deep:Nat}{da:Option Addr}{dc:Nat}{s:Sp.St}
theorem B8p (hT:Ok T) (hC:A3b I) (hr:A2e I T la lc) (hf:3 *(T.l.length-s.i)+2<=f+1) (ih:A9w T pb f)
  (hd:s.ds.length+2 *(T.l.length-s.i)+4<=1099511627776) (hend:s.i<T.l.length) (hdp:deep<12) (hk:(T.tok s.i).kind≠2) (hpar:(T.tok s.i).text= [40]):
  CalM prog 183 #[ptr pb] I (QSt pb la lc T s deep da dc) (A8F pb la lc T deep ((A0Q T f (deep+1) 1 s.next).1,((A0Q T f (deep+1) 1 s.next).2.need T [41]).2)):=by
 have h1:=hT.at_ s.i;have h2:=hT.size;have h3:=hT.len;have htk:=A24 hend;have hex:=fun da dc=>ih I la lc (deep+1) da dc s.next 1 hC hr (by rw[N8];omega) (by rw[N8];omega) (by rw[N8,A0o];omega) (by omega)
 have hg:=(A0B T f).2.2.1 (deep+1) 1 s.next;generalize A0Q T f (deep+1) 1 s.next=r at hex hg |-;have hg1:=hg.le;have hg2:=hg.top (by rw[N8];omega);have hg3:=hg.ds;rw[N8]at hg1 hg3;rw[A0o]at hg3;refine CalM.of fun w E hm=>A11 (N:=153) func183 rfl [(0,ptr pb)] A0v rfl ?_
 repeat' (first|refine P9 ?_ hm (hc:=A0Z s hr);clear hm;intro _ hm|refine A0r (id:=8) (hm.perm pm0) 10 11 (h:=?_);clear hm;intro wd hR hm|refine A2s ?_ (hr:=by exact hr) (he:=by intro _;rfl) (hz:=by exact htk);intro b1' o1 hp1|refine F6 ?_ hm (hc:=hex _ _);clear hm;rintro _ I2 _ _ ⟨⟨ea,ec,xs,rfl,hrow,hexs⟩,da',dc',rfl⟩ hle hm;have hleI2:=hle;try simp only[F7]at hm|refine F6 ?_ hm (hc:=A2b r.2 [41] (by simp) (hr.le hleI2) hT (by omega) hg2);clear hm;rintro _ _ _ _ ⟨rfl,rfl,da2,dc2,rfl⟩ hle hm;try simp only[F7]at hm|refine A0g ?_ hR|refine A0X ?_ hR|refine A2j (d:=4) ?_ hm;clear hm;intro b4 _ hm|refine A1m ?_;replace hm:=hR.back hm;clear hR;try simp only[F7]at hm|refine A0z (d:=1) ?_ hm;clear hm;intro b1 _ hm|refine V6 (d:=2) ?_ hm;clear hm;intro b2 _ hm|refine A0j (d:=7) ?_ hm;clear hm;intro b7 _ hm|refine H8 ?_ hm|refine O1 ?_ hm|refine J8 ?_ hm|refine O4 ?_ hm;clear hm;intro _ hm;try simp only[F7]at hm|refine J6 hm (k:=?_);clear hm;intro _ hm;try simp only[F7]at hm|refine D5 ?_|refine Q5 ?_|refine A0c ?_|refine E5 ?_|refine A1z ?_|refine Q4 ?_|refine C9 ?_|refine D9 ?_|refine A7 ?_|refine H5 ?_|refine L8 ?_|refine E8 ?_|refine A8 ?_|refine F5 ?_|refine F9 ?_|refine H7 ?_|refine A4S ?_|refine L6 ?_|refine U4 ?_;intro _ hkq;replace hm:=hm.kept0 hkq;clear hkq|(refine D6 (ht:=fun _=>?_) (hf:=fun _=>?_)<;>try first|contradiction|omega)|refine A44 ?_|refine J3 ?_|refine J5 ?_|refine G6 ?_|refine Z4 ?_|refine S9 ?_|refine A08 ?_)
 all_goals try first|omega|contradiction
 exact A76 (i:=2) (e:=r.1) (s':=(r.2.need T [41]).2) (by omega) rfl (hm.front 5 rfl) rfl hrow hexs
theorem B8q (hT:Ok T) (hr:A2e I T la lc) (_hi:s.i<=T.l.length) (_hd:s.ds.length+4<=1099511627776) (hend:s.i<T.l.length) (hdp:deep<12) (hk:(T.tok s.i).kind≠2) (hp:(T.tok s.i).text≠ [40]) (hname:Sp.name (T.tok s.i).text=true) (hopen:T.is (s.i+1) [40]=false):
  CalM prog 183 #[ptr pb] I (QSt pb la lc T s deep da dc) (A8F pb la lc T deep (.mk 2 (T.tok s.i).text 0 [] (T.tok s.i).pos ((T.tok s.i).pos+(T.tok s.i).text.length),s.next)):=by
 have h1:=hT.at_ s.i;have h2:=hT.size;have h3:=hT.len;have htk:=A24 hend;have hn:=A61 (T.tok s.i).text (by omega);rw[hname]at hn;have he:=fun da dc=>A0U (pb:=pb) (deep:=deep+1) (da:=da) (dc:=dc) s.next [40] (by simp) hr hT (by rw[N8];omega)
 rw[show T.is s.next.i [40]=false from hopen,if_neg (by simp)]at he;have hen:T.endOf (s.i+1)=(T.tok s.i).pos+(T.tok s.i).text.length:=rfl;have hls:=fun da dc=>A3q (pb:=pb) (deep:=deep+1) (da:=da) (dc:=dc) s.next hr hT (by rw[N8];omega)
 rw[show T.endOf s.next.i=(T.tok s.i).pos+(T.tok s.i).text.length from hen]at hls;refine CalM.of fun w E hm=>A11 (N:=153) func183 rfl [(0,ptr pb)] A0v rfl ?_
 repeat' (first|refine P9 ?_ hm (hc:=A0Z s hr);clear hm;intro _ hm|refine A0r (id:=8) (hm.perm pm0) 10 11 (h:=?_);clear hm;intro wd hR hm|refine A2s ?_ (hr:=by exact hr) (he:=by intro _;rfl) (hz:=by exact htk);intro b1' o1 hp1|refine X6 (hc:=by exact hn _) (k:=?_);rintro _ _ ⟨rfl,hk⟩;replace hm:=hm.kept0 hk|refine F6 ?_ hm (hc:=he _ _);clear hm;rintro _ _ _ _ ⟨rfl,rfl,da',dc',rfl⟩ hle hm;try simp only[F7]at hm|refine P9 ?_ hm (hc:=hls _ _);clear hm;intro _ hm|refine A0g ?_ hR|refine A0X ?_ hR|refine A2j (d:=4) ?_ hm;clear hm;intro b4 _ hm|refine A1m ?_;replace hm:=hR.back hm;clear hR;try simp only[F7]at hm|refine A0z (d:=1) ?_ hm;clear hm;intro b1 _ hm|refine V6 (d:=2) ?_ hm;clear hm;intro b2 _ hm|refine A0j (d:=8) ?_ hm;clear hm;intro b8 _ hm|refine H8 ?_ hm|refine O1 ?_ hm|refine J8 ?_ hm|refine O4 ?_ hm;clear hm;intro _ hm;try simp only[F7]at hm|refine J6 hm (k:=?_);clear hm;intro _ hm;try simp only[F7]at hm|refine D8 ?_|refine D5 ?_|refine Q5 ?_|refine A0c ?_|refine Y7 ?_|refine E5 ?_|refine A1z ?_|refine Q4 ?_|refine C9 ?_|refine X4 ?_|refine D9 ?_|refine A7 ?_|refine D7 ?_|refine E8 ?_|refine A8 ?_|refine F5 ?_|refine F9 ?_|refine H7 ?_|refine A4S ?_|refine L6 ?_|refine U4 ?_;intro _ hkq;replace hm:=hm.kept0 hkq;clear hkq|refine E9 ?_|(refine D6 (ht:=fun _=>?_) (hf:=fun _=>?_)<;>try first|contradiction|omega)|refine A44 ?_|refine J3 ?_|refine J5 ?_|refine G6 ?_|refine Z4 ?_|refine S9 ?_|refine A08 ?_)
 all_goals try first|omega|contradiction
 exact A76 (i:=2) (e:=.mk 2 (T.tok s.i).text 0 [] (T.tok s.i).pos ((T.tok s.i).pos+(T.tok s.i).text.length)) (s':=s.next) (by omega) rfl (hm.front 5 rfl) rfl (B0q _) .nil
end
structure QArg where
 f:Nat
 l:List Sp.Ex
 n:Nat
 s:Sp.St
 I:U0
 a:Option Addr
 cp:Nat
 xs:List Value
 da:Option Addr
 dc:Nat
section
variable {T:Sp.Src}{pb f:Nat}{I:U0}{la:Option Addr}{lc deep:Nat}{da:Option Addr}{dc:Nat}{s:Sp.St}
theorem B7l (hT:Ok T) (hC:A3b I) (hr:A2e I T la lc) (hf:3 *(T.l.length-s.i)+2<=f+1) (ih:∀g,g<f->A9w T pb g)
  (hd:s.ds.length+2 *(T.l.length-s.i)+4<=1099511627776) (hdp:deep<12) (hk:(T.tok s.i).kind≠2) (hpar:(T.tok s.i).text≠ [40]) (hname:Sp.name (T.tok s.i).text=true) (hopen:T.is (s.i+1) [40]=true):
  CalM prog 183 #[ptr pb] I (QSt pb la lc T s deep da dc) (A8F pb la lc T deep
   (.mk 4 (T.tok s.i).text 0 (A31 T f (deep+1) [] s.next.next).1 (T.tok s.i).pos (T.endOf ((A31 T f (deep+1) [] s.next.next).2.need T [41]).2.i),((A31 T f (deep+1) [] s.next.next).2.need T [41]).2)):=by
 have h1:=hT.at_ s.i;have h2:=hT.size;have h3:=hT.len;have hlt:=Sp.is_lt hopen;have hend:s.i<T.l.length:=by omega
 have htk:=A24 hend;have hn:=A61 (T.tok s.i).text (by omega);rw[hname]at hn;have he:=fun da dc=>A0U (pb:=pb) (deep:=deep+1) (da:=da) (dc:=dc) s.next [40] (by simp) hr hT (by rw[N8];omega)
 rw[show T.is s.next.i [40]=true from hopen,if_pos (by rfl)]at he;have hg:=(A0B T f).2.1 (deep+1) [] s.next.next;have hg1:=hg.le;have hg2:=hg.top (by rw[N8,N8];omega);have hg3:=hg.ds;have hAi:s.next.next.i=s.i+1+1:=rfl;have hAd:s.next.next.ds=s.ds:=rfl;obtain⟨R,hR⟩:∃R,R=A31 T f (deep+1) [] s.next.next:=⟨_,rfl⟩;rw[<-hR]at hg hg1 hg2 hg3 |-;have hg4:=(Z5 T R.2 [41]).top hg2;have nmi:s.next.i<=T.l.length:=by rw[N8];omega
 refine CalM.of fun w E hm=>A11 (N:=153) func183 rfl [(0,ptr pb)] A0v rfl ?_
 repeat' (first|refine A7L 1 (fun _:QArg=> [(0,ptr pb),(1,ptr b1),(2,ptr b2),(3,nt (T.tok s.i).pos),(4,ptr b4),(8,ptr b8)]) (fun x w'=>Mem E x.I [A4i pb la lc T R.2 (deep+1) x.da x.dc,A26 R.2.ds x.da x.dc,B2I x.n x.a x.cp x.xs,.cell b8 [nt 4,str (T.tok s.i).text,nt 0,.slice x.a x.n x.cp,nt 0,nt 0] 107,.cell b4 (A2O (T.tok s.i)) 81,.cell b2 ex0 107,.cell b1 [ptr pb] 175] w'/\Le I x.I/\V7 x.I R.1 x.xs/\R.1.length=x.n) ?_ ?_|refine P9 ?_ hm (hc:=A0Z s hr);clear hm;intro _ hm|refine A0r (id:=8) (hm.perm pm0) 10 11 (h:=?_);clear hm;intro wd hR hm|refine A2s ?_ (hr:=by exact hr) (he:=by intro _;rfl) (hz:=by exact htk);intro b1' o1 hp1|refine X6 (hc:=by exact hn _) (k:=?_);rintro _ _ ⟨rfl,hk⟩;replace hm:=hm.kept0 hk|refine F6 ?_ hm (hc:=he _ _);clear hm;rintro _ _ _ _ ⟨rfl,rfl,da',dc',rfl⟩ hle hm;try simp only[F7]at hm|refine A0g ?_ hR|refine A0X ?_ hR|refine A2j (d:=4) ?_ hm;clear hm;intro b4 _ hm|refine A1m ?_;replace hm:=hR.back hm;clear hR;try simp only[F7]at hm|refine A0z (d:=1) ?_ hm;clear hm;intro b1 _ hm|refine V6 (d:=2) ?_ hm;clear hm;intro b2 _ hm|refine A0j (d:=8) ?_ hm;clear hm;intro b8 _ hm|refine H8 ?_ hm|refine J8 ?_ hm|refine O4 ?_ hm;clear hm;intro _ hm;try simp only[F7]at hm|refine J6 hm (k:=?_);clear hm;intro _ hm;try simp only[F7]at hm|refine D5 ?_|refine Q5 ?_|refine A0c ?_|refine Y7 ?_|refine E5 ?_|refine A1z ?_|refine Q4 ?_|refine C9 ?_|refine X4 ?_|refine D9 ?_|refine A7 ?_|refine D7 ?_|refine E8 ?_|refine A8 ?_|refine F5 ?_|refine F9 ?_|refine A4S ?_|refine L6 ?_|refine U4 ?_;intro _ hkq;replace hm:=hm.kept0 hkq;clear hkq|refine F8 ?_|refine E9 ?_|(refine D6 (ht:=fun _=>?_) (hf:=fun _=>?_)<;>try first|contradiction|omega)|refine A44 ?_|refine J3 ?_|refine J5 ?_|refine G6 ?_|refine Z4 ?_|refine S9 ?_|refine A08 ?_)
 all_goals try first|omega|contradiction
 ·have hm2:=hm.nil 107 6
  clear hm;refine X7 (fun _:QArg=> [(0,ptr pb),(1,ptr b1),(2,ptr b2),(3,nt (T.tok s.i).pos),(4,ptr b4),(8,ptr b8)])
   (fun x w'=>Mem E x.I [A4i pb la lc T x.s (deep+1) x.da x.dc,A26 x.s.ds x.da x.dc,B2I x.n x.a x.cp x.xs,.cell b8 [nt 4,str (T.tok s.i).text,nt 0,.slice x.a x.n x.cp,nt 0,nt 0] 107,.cell b4 (A2O (T.tok s.i)) 81,.cell b2 ex0 107,.cell b1 [ptr pb] 175] w'/\
    Le I x.I/\V7 x.I x.l x.xs/\x.l.length=x.n/\x.n<=5/\x.f<=f/\x.s.i<=T.l.length/\x.s.ds.length+2 *(T.l.length-x.s.i)<=s.ds.length+2 *(T.l.length-s.i)/\
    A31 T x.f (deep+1) x.l x.s=R/\3 *(T.l.length-x.s.i)+4<=x.f)
   (fun x=>T.l.length-x.s.i) ⟨f,[],0,s.next.next,I,none,0,[],da',dc'⟩ (by exact⟨rfl,rfl,rfl,rfl,rfl,rfl,trivial⟩)
   ⟨hm2.perm pm2_1,Le.refl _,.nil,rfl,by dsimp only;omega,H6 _,by dsimp only;omega,by dsimp only;rw[hAd];omega,hR.symm,by dsimp only;omega⟩ ?_
  clear hm2;rintro⟨f1,l1,n1,s1,I1,a1,cp1,xs1,da1,dc1⟩ w2 ⟨hm,hle0,hexs,hn1,hn5,hff,hi1,hd1,hL,hf1⟩;dsimp only at hm hle0 hexs hn1 hn5 hff hi1 hd1 hL hf1 |-;have hr1:=hr.le hle0;have hC1:=hC.le hle0;obtain⟨f1,rfl⟩:∃f',f1=f'+1:=⟨f1-1,by omega⟩;rw[A31]at hL;by_cases hend1:T.l.length<=s1.i\/T.is s1.i [41]=true
  ·rw[if_pos hend1]at hL
   subst hL;by_cases hl1:T.l.length<=s1.i
   ·have htt:T.tok s1.i=⟨0,[],T.size⟩:=A4v hl1
    have hpk:=A1X (pb:=pb) (deep:=deep+1) (da:=da1) (dc:=dc1) s1 hr1;rw[htt]at hpk;repeat' (first|refine Y0 ?_ hm (hc:=hpk)|refine J8 ?_ hm|refine A7 ?_|refine G7 ?_|refine G5 ?_|refine E8 ?_|refine O7 ?_|refine L6 ?_|refine U4 ?_;intro _ hkq;replace hm:=hm.kept0 hkq;clear hkq|(refine D6 (ht:=fun _=>?_) (hf:=fun _=>?_)<;>try first|contradiction|omega)|refine P5 ?_|refine P7 ?_|refine A0I ?_|refine X5 ?_|refine J3 ?_|refine J5 ?_|refine G6 ?_)
    all_goals try first|omega|contradiction
    exact A0L (⟨0,[],n1,s1,I1,a1,cp1,xs1,da1,dc1⟩:QArg) (by exact⟨rfl,rfl,rfl,rfl,rfl,rfl,trivial⟩) ⟨hm,hle0,hexs,hn1⟩
   ·have e1:=hend1.resolve_left hl1
    have htt:(T.tok s1.i).text= [41]:=by simp only[Sp.Src.is,Q7,decide_eq_true_eq]at e1;exact e1.2
    have hpk:=A1X (pb:=pb) (deep:=deep+1) (da:=da1) (dc:=dc1) s1 hr1;rw[htt]at hpk;repeat' (first|refine Y0 ?_ hm (hc:=hpk)|refine J8 ?_ hm|refine A7 ?_|refine G7 ?_|refine G5 ?_|refine E8 ?_|refine O7 ?_|refine L6 ?_|refine U4 ?_;intro _ hkq;replace hm:=hm.kept0 hkq;clear hkq|refine E9 ?_|refine P5 ?_|refine V9 ?_|refine X5 ?_|refine A05 ?_)
    all_goals try first|omega|contradiction
    exact A0L (⟨0,[],n1,s1,I1,a1,cp1,xs1,da1,dc1⟩:QArg) (by exact⟨rfl,rfl,rfl,rfl,rfl,rfl,trivial⟩) ⟨hm,hle0,hexs,hn1⟩
  rw[if_neg hend1]at hL;have hlt1:s1.i<T.l.length:=by omega
  have htt:(T.tok s1.i).text≠ [41]:=fun e=>hend1 (.inr (by simp[Sp.Src.is,hlt1,e]))
  have hpk:=A1X (pb:=pb) (deep:=deep+1) (da:=da1) (dc:=dc1) s1 hr1;by_cases h5:l1.length=5
  ·rw[if_pos h5]at hL
   subst hL;repeat' (first|refine Y0 ?_ hm (hc:=hpk)|refine F6 ?_ hm (hc:=A29 s1 5 hr1 hT hi1 (by omega));clear hm;rintro _ _ _ _ ⟨rfl,rfl,da2,dc2,rfl⟩ hle hm;try simp only[F7]at hm|refine H8 ?_ hm|refine J8 ?_ hm|refine Q5 ?_|refine G8 ?_|refine C9 ?_|refine D9 ?_|refine A7 ?_|refine G7 ?_|refine G5 ?_|refine Q3 ?_|refine E8 ?_|refine A8 ?_|refine F5 ?_|refine F9 ?_|refine O7 ?_|refine L6 ?_|refine U4 ?_;intro _ hkq;replace hm:=hm.kept0 hkq;clear hkq|(refine D6 (ht:=fun _=>?_) (hf:=fun _=>?_)<;>try first|contradiction|omega)|refine P5 ?_|refine P7 ?_|refine A0I ?_|refine X5 ?_|refine J3 ?_|refine J5 ?_|refine G6 ?_|(refine O3 (fun _=>?_) (h1:=fun _=>?_)<;>try first|contradiction|omega))
   all_goals try first|omega|contradiction
   exact A0L (⟨0,[],n1,s1,I1,a1,cp1,xs1,da2,dc2⟩:QArg) (by exact⟨rfl,rfl,rfl,rfl,rfl,rfl,trivial⟩) ⟨hm,hle0,hexs,hn1⟩
  rw[if_neg h5]at hL;dsimp only at hL;have hex:=fun da dc=>ih f1 (by omega) I1 la lc (deep+1) da dc s1 1 hC1 hr1 (by omega) (by omega) (by omega) (by omega)
  have hgr:=(A0B T f1).2.2.1 (deep+1) 1 s1;generalize A0Q T f1 (deep+1) 1 s1=r at hL hex hgr;have hgr1:=hgr.le;have hgr2:=hgr.top hi1;have hgr3:=hgr.ds;have hnl:(l1++ [r.1]).length=n1+1:=by simp[hn1]
  have hn4:n1<5:=by omega
  have hni:r.2.next.i=r.2.i+1:=rfl;have hnd:r.2.next.ds.length=r.2.ds.length:=rfl;have hea:=fun (I:U0) (hr:A2e I T la lc) da dc=>A0U (I:=I) (pb:=pb) (deep:=deep+1) (da:=da) (dc:=dc) r.2 [44] (by simp) hr hT hgr2
  by_cases hcomma:T.is r.2.i [44]=true
  ·rw[if_pos hcomma]at hL
   rw[hcomma,if_pos (by rfl)]at hea;have hlt2:=Sp.is_lt hcomma;repeat' (first|refine A0r (id:=30) (hm.perm pm3_0) 3 6 (h:=?_);clear hm;intro wd hR hm|refine Y0 ?_ hm (hc:=hpk)|refine A02 ?_ hm (hc:=hex _ _);clear hm;rintro _ I2 _ _ ⟨⟨ea,ec,xs,rfl,hrow,hexs2⟩,da2,dc2,rfl⟩ hle hm;have hleI2:=hle;try simp only[F7]at hm|refine F6 ?_ hm (hc:=hea _ (hr1.le hleI2) _ _);clear hm;rintro _ _ _ _ ⟨rfl,rfl,da3,dc3,rfl⟩ hle hm;try simp only[F7]at hm|refine A0g ?_ hR|refine A2K (d:=140) ?_ hm;clear hm;intro a140 cp140 _ _ hm;replace hm:=hR.back hm;clear hR;try simp only[F7]at hm|refine H8 ?_ hm|refine J8 ?_ hm|refine J6 hm (k:=?_);clear hm;intro _ hm;try simp only[F7]at hm|refine Q5 ?_|refine G8 ?_|refine Y7 ?_|refine C9 ?_|refine D9 ?_|refine A7 ?_|refine D7 ?_|refine E8 ?_|refine A8 ?_|refine F5 ?_|refine F9 ?_|refine L6 ?_|refine U4 ?_;intro _ hkq;replace hm:=hm.kept0 hkq;clear hkq|refine E9 ?_|(refine D6 (ht:=fun _=>?_) (hf:=fun _=>?_)<;>try first|contradiction|omega)|refine P5 ?_|refine P7 ?_|refine A0I ?_|refine X5 ?_|refine J3 ?_|refine J5 ?_|refine G6 ?_|(refine O3 (fun _=>?_) (h1:=fun _=>?_)<;>try first|contradiction|omega)|refine S9 ?_|refine A08 ?_)
   all_goals try first|omega|contradiction
   exact N7 (⟨f1,l1++ [r.1],n1+1,r.2.next,I2,_,_,_,da3,dc3⟩:QArg) (by exact⟨rfl,rfl,rfl,rfl,rfl,rfl,trivial⟩) ⟨hm,hle0.trans hleI2,(V7.le hleI2 _ _ hexs).snoc (A4A hrow hexs2),hnl,by dsimp only;omega,by dsimp only;omega,by dsimp only;omega,by dsimp only;omega,hL,by dsimp only;omega⟩ (by dsimp only;omega)
  ·rw[if_neg hcomma]at hL
   rw[show T.is r.2.i [44]=false by simpa using hcomma,if_neg (by simp)]at hea;subst hL;repeat' (first|refine A0r (id:=30) (hm.perm pm3_0) 3 6 (h:=?_);clear hm;intro wd hR hm|refine Y0 ?_ hm (hc:=hpk)|refine A02 ?_ hm (hc:=hex _ _);clear hm;rintro _ I2 _ _ ⟨⟨ea,ec,xs,rfl,hrow,hexs2⟩,da2,dc2,rfl⟩ hle hm;have hleI2:=hle;try simp only[F7]at hm|refine F6 ?_ hm (hc:=hea _ (hr1.le hleI2) _ _);clear hm;rintro _ _ _ _ ⟨rfl,rfl,da3,dc3,rfl⟩ hle hm;try simp only[F7]at hm|refine A0g ?_ hR|refine A2K (d:=140) ?_ hm;clear hm;intro a140 cp140 _ _ hm;replace hm:=hR.back hm;clear hR;try simp only[F7]at hm|refine H8 ?_ hm|refine J8 ?_ hm|refine J6 hm (k:=?_);clear hm;intro _ hm;try simp only[F7]at hm|refine Q5 ?_|refine G8 ?_|refine Y7 ?_|refine C9 ?_|refine D9 ?_|refine A7 ?_|refine G7 ?_|refine G5 ?_|refine Q3 ?_|refine E8 ?_|refine A8 ?_|refine F5 ?_|refine F9 ?_|refine O7 ?_|refine L6 ?_|refine U4 ?_;intro _ hkq;replace hm:=hm.kept0 hkq;clear hkq|refine F8 ?_|(refine D6 (ht:=fun _=>?_) (hf:=fun _=>?_)<;>try first|contradiction|omega)|refine P5 ?_|refine P7 ?_|refine A0I ?_|refine X5 ?_|refine J3 ?_|refine J5 ?_|refine G6 ?_|(refine O3 (fun _=>?_) (h1:=fun _=>?_)<;>try first|contradiction|omega)|refine S9 ?_|refine A08 ?_)
   all_goals try first|omega|contradiction
   exact A0L (⟨0,[],n1+1,s1,I2,_,_,_,da3,dc3⟩:QArg) (by exact⟨rfl,rfl,rfl,rfl,rfl,rfl,trivial⟩) ⟨hm,hle0.trans hleI2,(V7.le hleI2 _ _ hexs).snoc (A4A hrow hexs2),hnl⟩
 ·clear hm
  rintro⟨_,_,n1,_,I1,a1,cp1,xs1,da1,dc1⟩ w2 ⟨hm,hle0,hexs,hn1⟩;dsimp only at hm hle0 hexs hn1 |-;have hr1:=hr.le hle0;have hd9:R.2.ds.length<1099511627776:=by rw[hAd]at hg3;omega
  subst hn1;repeat' (first|refine F6 ?_ hm (hc:=A2b R.2 [41] (by simp) hr1 hT hd9 hg2);clear hm;rintro _ _ _ _ ⟨rfl,rfl,da2,dc2,rfl⟩ hle hm;try simp only[F7]at hm|refine P9 ?_ hm (hc:=A3q (R.2.need T [41]).2 hr1 hT hg4);clear hm;intro _ hm|refine H8 ?_ hm|refine O1 ?_ hm|refine O4 ?_ hm;clear hm;intro _ hm;try simp only[F7]at hm|refine J6 hm (k:=?_);clear hm;intro _ hm;try simp only[F7]at hm|refine D8 ?_|refine C9 ?_|refine D9 ?_|refine A7 ?_|refine E8 ?_|refine A8 ?_|refine H7 ?_)
  all_goals try first|omega|contradiction
  obtain⟨I3,hle3,hm3,hrow3⟩:=(hm.front 2 rfl).freeze;exact A76 (i:=2) (e:=.mk 4 (T.tok s.i).text 0 R.1 (T.tok s.i).pos (T.endOf (R.2.need T [41]).2.i)) (s':=(R.2.need T [41]).2) (by omega) rfl (hm3.front 5 rfl) rfl hrow3 (V7.le hle3 _ _ hexs)
end
theorem B2d (T:Sp.Src) (pb:Nat) (hT:Ok T) (n:Nat) (ih:∀g,g<n->B3R T pb g/\A9w T pb g):B3R T pb n:=by
 intro I la lc deep da dc s hC hr hi hf hd hdp;obtain⟨f,rfl⟩:∃f,n=f+1:=⟨n-1,by omega⟩;rw[A4z];dsimp only
 by_cases hend:T.l.length<=s.i
 ·rw[if_pos hend];exact B8n hT hr hi (by omega) hend
 rw[if_neg hend];have hlt:s.i<T.l.length:=by omega
 by_cases hdeep:12<=deep
 ·rw[if_pos hdeep];exact B7m hT hr hi (by omega) hlt (by omega)
 rw[if_neg hdeep];by_cases hkind:(T.tok s.i).kind=2
 ·rw[if_pos hkind];exact B8o hT hC hr hi (by omega) hlt (by omega) hkind
 rw[if_neg hkind];by_cases hpar:(T.tok s.i).text= [40]
 ·rw[if_pos hpar];exact B8p hT hC hr hf (ih f (by omega)).2 hd hlt (by omega) hkind hpar
 rw[if_neg hpar];cases hname:Sp.name (T.tok s.i).text with
 |false=>exact B7n hT hr hi (by omega) hlt (by omega) hkind hpar hname
 |true=>
  rw[if_neg (by simp)];cases hop:T.is (s.i+1) [40]with
  |false=>exact B8q hT hr hi (by omega) hlt (by omega) hkind hpar hname hop
  |true=>exact B7l hT hC hr hf (fun g hg=>(ih g (by omega)).2) hd (by omega) hkind hpar hname hop
theorem A2A (T:Sp.Src) (pb:Nat) (hT:Ok T) (n:Nat):B3R T pb n/\A9w T pb n:=by
 induction n using Nat.strongRecOn with
 |_ n ih=>exact⟨B2d T pb hT n ih,B2g T pb hT n ih⟩
abbrev A8G (pb:Nat) (la:Option Addr) (lc:Nat) (T:Sp.Src) (deep:Nat) (r:Sp.Stm×Sp.St):Value->U0->List HItem->Prop:=
 fun v I' H'=>(∃ea ec ex a1 c1 xs1 a2 c2 xs2,v=.agg (A2M r.1.kind r.1.name r.1.at_ r.1.label r.1.opn r.1.e ea ec (.slice a1 r.1.thn.length c1) (.slice a2 r.1.els.length c2) r.1.fr r.1.to).toArray/\
  RowI I' 107 6 (.slice ea r.1.e.args.length ec) r.1.e.args.length ex/\V7 I' r.1.e.args ex/\
  RowI I' 109 15 (.slice a1 r.1.thn.length c1) r.1.thn.length xs1/\U8 I' r.1.thn xs1/\RowI I' 109 15 (.slice a2 r.1.els.length c2) r.1.els.length xs2/\U8 I' r.1.els xs2)/\
  ∃da dc,H'=QSt pb la lc T r.2 deep da dc
abbrev B8S (pb:Nat) (la:Option Addr) (lc:Nat) (T:Sp.Src) (deep:Nat) (r:List Sp.Stm×Sp.St):Value->U0->List HItem->Prop:=
 fun v I' H'=>(∃a c xs,v=.slice a r.1.length c/\RowI I' 109 15 (.slice a r.1.length c) r.1.length xs/\U8 I' r.1 xs)/\∃da dc,H'=QSt pb la lc T r.2 deep da dc
def B7U (T:Sp.Src) (pb f:Nat):Prop:= ∀(I:U0) (la:Option Addr) (lc deep:Nat) (da:Option Addr) (dc:Nat) (s:Sp.St),A3b I->A2e I T la lc->s.i<=T.l.length->5 *(T.l.length-s.i)+5<=f->
 s.ds.length+8 *(T.l.length-s.i)+32<=1099511627776->deep<=12->CalM prog 149 #[ptr pb] I (QSt pb la lc T s deep da dc) (A8G pb la lc T deep (Sp.stm T f deep s))
def A6Z (T:Sp.Src) (pb f:Nat):Prop:= ∀(I:U0) (la:Option Addr) (lc deep:Nat) (da:Option Addr) (dc:Nat) (s:Sp.St),A3b I->A2e I T la lc->s.i<=T.l.length->5 *(T.l.length-s.i)+2<=f->
 s.ds.length+8 *(T.l.length-s.i)+32<=1099511627776->deep<=12->CalM prog 118 #[ptr pb] I (QSt pb la lc T s deep da dc) (B8S pb la lc T deep (Sp.block T f deep s))
end Go.Proofs
