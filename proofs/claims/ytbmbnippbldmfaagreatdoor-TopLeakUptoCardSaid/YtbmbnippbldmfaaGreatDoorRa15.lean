/- Own work. -/
import Derived.Test.YtbmbnippbldmfaaGreatDoorRa14
import Derived.Shelf.Strings.Builder1
import Derived.Shelf.Strings.Builder2
import Derived.Shelf.Strings.OnBuilder
import Derived.Shelf.Small.Bits
import Derived.Shelf.Strings.BuilderF
import Derived.Shelf.Strings.BuilderK
import Derived.Shelf.Strings.Builder2Cap
import Derived.Shelf.Strconv.Atoi
import Derived.Shelf.Strconv.Itoa0
import Derived.Shelf.Strconv.Itoa1
import Derived.Shelf.LaysM
import Derived.Shelf.Strconv.Itoa2
import Derived.Shelf.Strconv.Itoa3
import Derived.Shelf.Strconv.AtoiErrFast
import Derived.Shelf.Strconv.ParseIntEmpty
import Derived.Shelf.Strconv.AtoiFail
import Derived.Shelf.Strconv.Clone
import Derived.Shelf.Strconv.SyntaxError
import Derived.Shelf.LaysC
import Derived.Shelf.Strconv.ToError
import Derived.Shelf.Strconv.Lower
import Derived.Shelf.Strconv.ParseUint10
import Derived.Shelf.Strconv.ParseUint10Empty
import Derived.Shelf.Strconv.ParseUint10Any
import Derived.Shelf.Strconv.ParseInt10
import Derived.Shelf.Strconv.AtoiLong
import Derived.Shelf.Strconv.AtoiInnerAll
import Derived.Shelf.Strconv.RangeError
import Derived.Shelf.Strconv.ToErrorRange
import Derived.Shelf.Strconv.AtoiAll
import Derived.Shelf.Strconv.ErrVarAll
import Derived.Shelf.Sort.Plain
import Derived.Shelf.Strings.Prefix
import Derived.Shelf.Bits.Mul64
import Derived.Shelf.Strings.Repeat
import Derived.Shelf.Strings.BuilderCap
import Derived.Ground.Names2Prog
import Derived.Shelf.Slices.CompactI
import Derived.Shelf.Slices.In.SortNone
import Derived.Test.YtbmbnippbldmfaaGreatDoorProg
import Derived.Lib.AppendIntMem
set_option maxHeartbeats 64000000
namespace Go.Sp
theorem AllTwo.app {α β:Type}{R:α->β->Prop}:∀ {l:List α}{r:List β}{l':List α}{r':List β},AllTwo R l r->AllTwo R l' r'->AllTwo R (l++l') (r++r')
 |_,_,_,_,.nil,h=>h
 |_,_,_,_,.cons a t,h=> .cons a (t.app h)
section
variable {its:List Itm}{o γ:Lab}
theorem A7Q (sc:List Lc) (k un:Nat) (e:Ex):A72 its sc k un e=A1e its sc e|||un:=by
 rw[A72,unF];split
 ·exact D1Q _ _
 ·rfl
end
theorem B3t {s:FW}{a b f t:Nat}{n:List UInt8} (h:A1i a b=true):s.ask a b f t n=s:=by rw[FW.ask,if_pos h]
section
variable {its:List Itm}{at_:Int}
mutual
theorem B7f {sc:List Lc}{un:Nat}:∀(e:Ex) {s:FW},A8K its sc un e->(exF its at_ sc un e s).2.ds=s.ds
 | .mk k nm n args f t,s,h=>by
  rw[A8K]at h;rw[exF];split
  ·exact A6g _ _ _ _ _
  ·rename_i k2
   split
   ·rename_i k3
    dsimp only
    rw[A6g,C7u args (h.1 k3)]
   ·rename_i k3
    split
    ·rename_i k4
     obtain⟨h1,h2,h3⟩:=h.2 k2 k3 k4;dsimp only
     rw[A6g,A3c];split
     ·rename_i j hj;rw[B3t (h3 j hj),B6Z args 0 h1 h2]
     ·rw[B6Z args 0 h1 h2]
    ·dsimp only;rw[A6g]
theorem C7u {sc:List Lc}{un:Nat}:∀(l:List Ex) {n:Nat}{s:FW},A37 its sc un l->(A3J its at_ sc un l n s).2.ds=s.ds
 | [],n,s,_=>by rw[A3J]
 |e::l,n,s,h=>by
  rw[A37]at h;rw[A3J,C7u l h.2,B7f e h.1]
theorem B6Z {sc:List Lc}{un:Nat}{nm:List UInt8}:∀(l:List Ex) (i:Nat) {s:FW},A37 its sc un l->A4I its sc un nm l i->(A2Z its at_ sc un nm l i s).ds=s.ds
 | [],i,s,_,_=>by rw[A2Z]
 |e::l,i,s,h,g=>by
  rw[A37]at h;rw[A4I]at g;rw[A2Z,B6Z l (i+1) h.2 g.2,A6f];split
  ·rename_i j hj
   split
   ·rename_i p hp
    rw[A5o,B3t (g.1 j p hj hp),B7f e h.1]
   ·exact B7f e h.1
  ·exact B7f e h.1
end
mutual
theorem D42 {own:Nat}:∀(x:Stm) {sc:List Lc}{un:Nat}{s:FW},A45 its own x sc un->(A6l its own at_ x sc un s).2.ds=s.ds
 | .mk k nm a lb o e thn els f t,sc,un,s,h=>by
  rw[A45]at h;obtain⟨h0,h1,h2,h5,h6,h34⟩:=h;rw[A6l];try dsimp only
  rw[A5o];rw[show A1e its sc e|||unF its sc k un e=A72 its sc k un e from rfl];have he:=B7f (at_:=at_) e (s:=s) h0;split
  ·rename_i k1;dsimp only;rw[B3t (h1 k1)];exact he
  ·split
   ·rename_i k2;dsimp only;rw[B3t (h2 k2)];exact he
   ·split
    ·rename_i k5
     dsimp only
     rw[A8I];split
     ·rename_i j hj;rw[B3t (h5 k5 j hj)];exact he
     ·exact he
    ·split
     ·rename_i k6;dsimp only;rw[B3t (h6 k6)];exact he
     ·split
      ·rename_i k3
       obtain⟨q1,q2⟩:=h34 k3;dsimp only
       rw[A9b els q2,A9b thn q1];exact he
      ·exact he
theorem A9b {own:Nat}:∀(l:List Stm) {sc:List Lc}{un:Nat}{s:FW},A1M its own l sc un->(A1C its own at_ l sc un s).2.ds=s.ds
 | [],sc,un,s,_=>by rw[A1C]
 |x::l,sc,un,s,h=>by
  rw[A1M]at h;rw[A1C,A9b l (by rw[C7S];exact h.2),D42 x h.1]
end
end
section
variable {its g:List Itm}
end
theorem D6l (e:Ex):exW e=if e.kind=1 then Lib.itoa e.n else if e.kind=3 then
   B3K (decide (A0N (e.args.getD 0 default)<A2Y e.name)) ((A4D e.args).getD 0 [])++ [32]++e.name++ [32]++B3K (decide (A0N (e.args.getD 1 default)<A2Y e.name+1)) ((A4D e.args).getD 1 []) else
  if e.kind=2 then e.name else if e.kind=4 then e.name++ [40]++A4L (A4D e.args) e.args.length++ [41] else []:=by
 cases e;rw[exW];rfl
theorem D0O {e:Ex}{d l:Nat} (h:e.fitE d l):(e.kind=1/\e.n<=1000000000)\/e.kind=2\/(e.kind=4/\e.args.length<=5/\A2f e.args (d+1))\/
  (e.kind=3/\e.args.length=2/\∃d2,A2Q e.args d2 (A0u e.name)):=by
 cases e
 rw[Ex.fitE]at h;rcases h.2 with h|h|h|h
 ·exact .inl ⟨h.1,h.2.2.1⟩
 ·exact .inr (.inl h.1)
 ·exact .inr (.inr (.inl ⟨h.1,h.2.2.2.1,h.2.2.2.2⟩))
 ·exact .inr (.inr (.inr ⟨h.1,h.2.2.2.1,_,h.2.2.2.2⟩))
theorem B7i:∀ {l:List Ex}{d i:Nat}{e:Ex},A2f l d->l[i]?=some e->e.fitE d 1
 | [],_,_,_,_,h=>by simp at h
 |a::l,d,0,e,h,he=>by
  rw[A2f]at h;simp only[A08,X4]at he;exact he ▸ h.1
 |a::l,d,i+1,e,h,he=>by
  rw[A2f]at h;exact B7i h.2 (by simpa using he)
theorem B3J:∀ {l:List Ex}{d n i:Nat}{e:Ex},A2Q l d n->l[i]?=some e->e.fitE d (n+i)
 | [],_,_,_,_,_,h=>by simp at h
 |a::l,d,n,0,e,h,he=>by
  rw[A2Q]at h;simp only[A08,X4]at he;exact he ▸ h.1
 |a::l,d,n,i+1,e,h,he=>by
  rw[A2Q]at h;have:=B3J h.2 (by simpa using he:l[i]?=some e)
  rwa [Nat.add_right_comm,A3a]at this
theorem C7A (b:Bool) (t:List UInt8):t.length<=(B3K b t).length:=by
 rw[B3K];split
 ·simp;omega
 ·exact H7 _
theorem B67 (ws:List (List UInt8)):∀ {j k:Nat},j<=k->(A4L ws j).length<=(A4L ws k).length
 |j,0,h=>by
  obtain rfl:j=0:=by omega
  exact H7 _
 |j,k+1,h=>by
  by_cases e:j=k+1
  ·subst e;exact H7 _
  ·have:=B67 ws (j:=j) (k:=k) (by omega)
   rw[A7y,D9];omega
def A9T (n k:Nat):List Nat:=(List.range k).filter (bit n)
theorem C32 (n k:Nat):A9T n (k+1)=if bit n k then A9T n k++ [k] else A9T n k:=by
 rw[A9T,A28,A8V];cases h:bit n k<;>simp[h,A9T]
theorem B8n (n k:Nat):(A9T n k).length<=k:=by
 have:=A4p (bit n) (List.range k);simpa[A9T] using this
theorem B68:∀(l:List UInt8),(A2q l).length<=2 *l.length
 | []=>by simp[A2q]
 | [c]=>by simp[A2q]
 |c::d::l=>by have:=B68 (d::l);simp only[A2q,E9]at this |-;omega
theorem B1Q:∀(l:List UInt8),Lib.join (l.map (fun c=> [c])) [44]=A2q l
 | []=>rfl
 | [c]=>Lib.join_one _ _
 |c::d::l=>by
  have:=B1Q (d::l);rw[U4,Lib.join_cons]at this;rw[U4,U4,Lib.join_cons,A2q, <-this];simp[Lib.joinTail]
theorem C5l (k:Nat) (h:k<8):(A1Z k).toNat=97+k:=by
 revert h;revert k;decide
end Go.Sp
namespace Go.Proofs
open Go.Proofs.Tryz
open Go.Sp
open Go.Shelf
def Tryz.lays156_ren:Go.Shelf.Ren:=⟨fun|156=>97|165=>127|166=>67|169=>39|240=>98|241=>159|276=>128|277=>189|n=>n,fun|31=>178|9=>9|3=>3|4=>4|0=>0|20=>20|72=>91|76=>155|70=>88|37=>89|75=>154|127=>158|164=>225|5=>5|80=>96|n=>n,fun|n=>n⟩
theorem Tryz.lays156:Go.Proofs.Lays.n156 prog Tryz.lays156_ren:= {
 mixed:=by kernel_rfl
 f156:=func97.trans (congrArg some (by kernel_rfl))
 f165:=func127.trans (congrArg some (by kernel_rfl))
 f166:=func67.trans (congrArg some (by kernel_rfl))
 f169:=func39.trans (congrArg some (by kernel_rfl))
 f240:=func98.trans (congrArg some (by kernel_rfl))
 f241:=func159.trans (congrArg some (by kernel_rfl))
 f276:=func128.trans (congrArg some (by kernel_rfl))
 f277:=func189.trans (congrArg some (by kernel_rfl))
 t0:=underlying0
 a0:=isAgg0
 z0:=sizeOf0
 v0:=zeroValue0
 t3:=underlying3
 a3:=isAgg3
 z3:=sizeOf3
 v3:=zeroValue3
 t4:=underlying4
 a4:=isAgg4
 z4:=sizeOf4
 v4:=zeroValue4
 t9:=underlying9
 a9:=isAgg9
 z9:=sizeOf9
 v9:=zeroValue9
 t20:=underlying20
 a20:=isAgg20
 z20:=sizeOf20
 v20:=zeroValue20
 t31:=underlying178
 a31:=isAgg178
 z31:=sizeOf178
 v31:=zeroValue178
 t37:=underlying89
 a37:=isAgg89
 z37:=sizeOf89
 v37:=zeroValue89
 t70:=underlying88
 a70:=isAgg88
 z70:=sizeOf88
 v70:=zeroValue88
 t72:=underlying91
 a72:=isAgg91
 z72:=sizeOf91
 v72:=zeroValue91
 t75:=underlying154
 a75:=isAgg154
 z75:=sizeOf154
 v75:=zeroValue154
 t76:=underlying155
 a76:=isAgg155
 z76:=sizeOf155
 v76:=zeroValue155
 t127:=underlying158
 a127:=isAgg158
 z127:=sizeOf158
 v127:=zeroValue158
 t164:=underlying225
 a164:=isAgg225
 z164:=sizeOf225
 v164:=zeroValue225}
theorem Tryz.Builder_Extra_156:Builder.Extra prog Tryz.lays156_ren:= {
 sizeBuilder:=by kernel_rfl
 liesBuilder:=by kernel_rfl
 t5:=underlying5
 a5:=isAgg5
 z5:=sizeOf5
 v5:=zeroValue5
 infoByte:=by kernel_rfl
 cellsByte:=by kernel_rfl
 sizeByte:=by kernel_rfl
 neB5:=by decide}
open Go.RowKit in
theorem Tryz.strings_Join_none (a:Option Addr) (c:Nat) (sep:ByteArray) (w:World):
  Calls prog 97 #[.slice a 0 c,.string sep] w fun e w'=>e=.returned (.string ⟨#[]⟩)∧w'=w:=Any.strings_Join_none Tryz.lays156 Tryz.Builder_Extra_156 a c sep w
open Go.RowKit in
theorem Tryz.strings_Join (bk o c:Nat) (xs:List ByteArray) (sep:ByteArray) (w:World) (hcells:∀(j:Nat) x,xs[j]?=some x→w.cell? ⟨bk,o+j,none⟩=some (.string x)) (hbk:bk<w.heap.size) (hN:xs.length≤140737488355328) (hcap:xs.length≤c) (hlen:(Lib.join (xs.map (·.data.toList)) sep.data.toList).length≤140737488355328):
  Calls prog 97 #[.slice (some ⟨bk,o,none⟩) xs.length c,.string sep] w fun e w'=>e=.returned (.string ⟨(Lib.join (xs.map (·.data.toList)) sep.data.toList).toArray⟩)∧Below w.heap.size w w':=Any.strings_Join Tryz.lays156 Tryz.Builder_Extra_156 bk o c xs sep w hcells hbk hN hcap hlen
def Tryz.laysM171_ren:Go.Shelf.Ren:=⟨fun|171=>160|243=>190|246=>201|283=>206|284=>207|285=>208|286=>209|129=>152|317=>214|318=>215|319=>216|320=>217|337=>220|338=>221|n=>n,fun|3=>3|9=>9|2=>2|4=>4|171=>289|0=>0|53=>250|37=>89|5=>5|173=>291|212=>296|51=>248|20=>20|213=>297|46=>216|232=>305|233=>306|n=>n,fun|17=>1|18=>2|19=>3|n=>n⟩
theorem Tryz.laysM171:Go.Proofs.LaysM.n171 prog Tryz.laysM171_ren:= {
 mixed:=by kernel_rfl
 f129:=func152.trans (congrArg some (by kernel_rfl))
 f171:=func160.trans (congrArg some (by kernel_rfl))
 f243:=func190.trans (congrArg some (by kernel_rfl))
 f246:=func201.trans (congrArg some (by kernel_rfl))
 f283:=func206.trans (congrArg some (by kernel_rfl))
 f284:=func207.trans (congrArg some (by kernel_rfl))
 f285:=func208.trans (congrArg some (by kernel_rfl))
 f286:=func209.trans (congrArg some (by kernel_rfl))
 f317:=func214.trans (congrArg some (by kernel_rfl))
 f318:=func215.trans (congrArg some (by kernel_rfl))
 f319:=func216.trans (congrArg some (by kernel_rfl))
 f320:=func217.trans (congrArg some (by kernel_rfl))
 f337:=func220.trans (congrArg some (by kernel_rfl))
 f338:=func221.trans (congrArg some (by kernel_rfl))
 t0:=underlying0
 a0:=isAgg0
 z0:=sizeOf0
 v0:=zeroValue0
 t2:=underlying2
 a2:=isAgg2
 z2:=sizeOf2
 v2:=zeroValue2
 t3:=underlying3
 a3:=isAgg3
 z3:=sizeOf3
 v3:=zeroValue3
 t4:=underlying4
 a4:=isAgg4
 z4:=sizeOf4
 v4:=zeroValue4
 t5:=underlying5
 a5:=isAgg5
 z5:=sizeOf5
 v5:=zeroValue5
 t9:=underlying9
 a9:=isAgg9
 z9:=sizeOf9
 v9:=zeroValue9
 t20:=underlying20
 a20:=isAgg20
 z20:=sizeOf20
 v20:=zeroValue20
 t37:=underlying89
 a37:=isAgg89
 z37:=sizeOf89
 v37:=zeroValue89
 t46:=underlying216
 a46:=isAgg216
 z46:=sizeOf216
 v46:=zeroValue216
 t51:=underlying248
 a51:=isAgg248
 z51:=sizeOf248
 v51:=zeroValue248
 t53:=underlying250
 a53:=isAgg250
 z53:=sizeOf250
 v53:=zeroValue250
 t171:=underlying289
 a171:=isAgg289
 z171:=sizeOf289
 v171:=zeroValue289
 t173:=underlying291
 a173:=isAgg291
 z173:=sizeOf291
 v173:=zeroValue291
 t212:=underlying296
 a212:=isAgg296
 z212:=sizeOf296
 v212:=zeroValue296
 t213:=underlying297
 a213:=isAgg297
 z213:=sizeOf297
 t232:=underlying305
 a232:=isAgg305
 z232:=sizeOf305
 v232:=zeroValue305
 t233:=underlying306
 a233:=isAgg306
 z233:=sizeOf306
 v233:=zeroValue306
 g17:=by kernel_rfl
 g18:=by kernel_rfl
 g19:=by kernel_rfl
 i0:=by kernel_rfl
 i2:=by kernel_rfl
 i3:=by kernel_rfl
 i4:=by kernel_rfl
 i5:=by kernel_rfl
 i9:=by kernel_rfl
 i20:=by kernel_rfl
 i37:=by kernel_rfl
 i46:=by kernel_rfl
 i51:=by kernel_rfl
 i53:=by kernel_rfl
 i171:=by kernel_rfl
 i173:=by kernel_rfl
 i212:=by kernel_rfl
 i232:=by kernel_rfl
 i233:=by kernel_rfl
 m17:=by kernel_rfl
 m18:=by kernel_rfl
 m19:=by kernel_rfl}
open Go.RowKit Go.Sort Go.Lib in
theorem Tryz.strconv_Itoa (n : Int) (h0 : -9223372036854775808 ≤ n) (h1 : n ≤ 9223372036854775807) (w : World) (htab : Lib.TabIs prog w "internal/strconv.uint64pow10" .u64 Lib.pow10Tab) :
  Calls prog 160 #[.int .i64 n] w fun e w'=>e=.returned (.string ⟨(Lib.itoa n).toArray⟩)∧∃k os,w'=grow (w.drewN k) os:=Any.strconv_Itoa Tryz.laysM171 n h0 h1 w htab
def Tryz.laysC172_ren:Go.Shelf.Ren:=⟨fun|172=>212|244=>218|245=>219|247=>222|279=>223|280=>224|281=>225|282=>226|287=>227|316=>228|171=>160|205=>229|321=>230|322=>231|243=>190|246=>201|283=>206|284=>207|285=>208|286=>209|129=>152|317=>214|318=>215|319=>216|320=>217|337=>220|338=>221|n=>n,fun|9=>9|3=>3|75=>154|76=>155|4=>4|5=>5|167=>299|37=>89|0=>0|85=>300|2=>2|168=>302|53=>250|175=>307|46=>216|210=>311|127=>158|145=>316|143=>314|21=>21|171=>289|173=>291|212=>296|51=>248|20=>20|213=>297|232=>305|233=>306|80=>96|n=>n,fun|15=>4|16=>5|17=>1|18=>2|19=>3|n=>n⟩
theorem Tryz.laysC172:Go.Proofs.LaysC.n172 prog Tryz.laysC172_ren:= {
 mixed:=by kernel_rfl
 f129:=func152.trans (congrArg some (by kernel_rfl))
 f171:=func160.trans (congrArg some (by kernel_rfl))
 f172:=func212.trans (congrArg some (by kernel_rfl))
 f205:=func229.trans (congrArg some (by kernel_rfl))
 f243:=func190.trans (congrArg some (by kernel_rfl))
 f244:=func218.trans (congrArg some (by kernel_rfl))
 f245:=func219.trans (congrArg some (by kernel_rfl))
 f246:=func201.trans (congrArg some (by kernel_rfl))
 f247:=func222.trans (congrArg some (by kernel_rfl))
 f279:=func223.trans (congrArg some (by kernel_rfl))
 f280:=func224.trans (congrArg some (by kernel_rfl))
 f281:=func225.trans (congrArg some (by kernel_rfl))
 f282:=func226.trans (congrArg some (by kernel_rfl))
 f283:=func206.trans (congrArg some (by kernel_rfl))
 f284:=func207.trans (congrArg some (by kernel_rfl))
 f285:=func208.trans (congrArg some (by kernel_rfl))
 f286:=func209.trans (congrArg some (by kernel_rfl))
 f287:=func227.trans (congrArg some (by kernel_rfl))
 f316:=func228.trans (congrArg some (by kernel_rfl))
 f317:=func214.trans (congrArg some (by kernel_rfl))
 f318:=func215.trans (congrArg some (by kernel_rfl))
 f319:=func216.trans (congrArg some (by kernel_rfl))
 f320:=func217.trans (congrArg some (by kernel_rfl))
 f321:=func230.trans (congrArg some (by kernel_rfl))
 f322:=func231.trans (congrArg some (by kernel_rfl))
 f337:=func220.trans (congrArg some (by kernel_rfl))
 f338:=func221.trans (congrArg some (by kernel_rfl))
 t0:=underlying0
 a0:=isAgg0
 z0:=sizeOf0
 v0:=zeroValue0
 t2:=underlying2
 a2:=isAgg2
 z2:=sizeOf2
 v2:=zeroValue2
 t3:=underlying3
 a3:=isAgg3
 z3:=sizeOf3
 v3:=zeroValue3
 t4:=underlying4
 a4:=isAgg4
 z4:=sizeOf4
 v4:=zeroValue4
 t5:=underlying5
 a5:=isAgg5
 z5:=sizeOf5
 v5:=zeroValue5
 t9:=underlying9
 a9:=isAgg9
 z9:=sizeOf9
 v9:=zeroValue9
 t20:=underlying20
 a20:=isAgg20
 z20:=sizeOf20
 v20:=zeroValue20
 t21:=underlying21
 a21:=isAgg21
 z21:=sizeOf21
 v21:=zeroValue21
 t37:=underlying89
 a37:=isAgg89
 z37:=sizeOf89
 v37:=zeroValue89
 t46:=underlying216
 a46:=isAgg216
 z46:=sizeOf216
 v46:=zeroValue216
 t51:=underlying248
 a51:=isAgg248
 z51:=sizeOf248
 v51:=zeroValue248
 t53:=underlying250
 a53:=isAgg250
 z53:=sizeOf250
 v53:=zeroValue250
 t75:=underlying154
 a75:=isAgg154
 z75:=sizeOf154
 v75:=zeroValue154
 t76:=underlying155
 a76:=isAgg155
 z76:=sizeOf155
 v76:=zeroValue155
 t85:=underlying300
 a85:=isAgg300
 z85:=sizeOf300
 v85:=zeroValue300
 t127:=underlying158
 a127:=isAgg158
 z127:=sizeOf158
 v127:=zeroValue158
 t143:=underlying314
 a143:=isAgg314
 z143:=sizeOf314
 v143:=zeroValue314
 t145:=underlying316
 a145:=isAgg316
 z145:=sizeOf316
 v145:=zeroValue316
 t167:=underlying299
 a167:=isAgg299
 z167:=sizeOf299
 v167:=zeroValue299
 t168:=underlying302
 a168:=isAgg302
 z168:=sizeOf302
 v168:=zeroValue302
 t171:=underlying289
 a171:=isAgg289
 z171:=sizeOf289
 v171:=zeroValue289
 t173:=underlying291
 a173:=isAgg291
 z173:=sizeOf291
 v173:=zeroValue291
 t175:=underlying307
 a175:=isAgg307
 z175:=sizeOf307
 v175:=zeroValue307
 t210:=underlying311
 a210:=isAgg311
 z210:=sizeOf311
 v210:=zeroValue311
 t212:=underlying296
 a212:=isAgg296
 z212:=sizeOf296
 v212:=zeroValue296
 t213:=underlying297
 a213:=isAgg297
 z213:=sizeOf297
 t232:=underlying305
 a232:=isAgg305
 z232:=sizeOf305
 v232:=zeroValue305
 t233:=underlying306
 a233:=isAgg306
 z233:=sizeOf306
 v233:=zeroValue306
 g15:=by kernel_rfl
 g16:=by kernel_rfl
 g17:=by kernel_rfl
 g18:=by kernel_rfl
 g19:=by kernel_rfl
 t80:=underlying96
 a80:=isAgg96
 z80:=sizeOf96
 v80:=zeroValue96
 i0:=by kernel_rfl
 i2:=by kernel_rfl
 i3:=by kernel_rfl
 i4:=by kernel_rfl
 i5:=by kernel_rfl
 i9:=by kernel_rfl
 i20:=by kernel_rfl
 i21:=by kernel_rfl
 i37:=by kernel_rfl
 i46:=by kernel_rfl
 i51:=by kernel_rfl
 i53:=by kernel_rfl
 i75:=by kernel_rfl
 i76:=by kernel_rfl
 i80:=by kernel_rfl
 i85:=by kernel_rfl
 i127:=by kernel_rfl
 i143:=by kernel_rfl
 i145:=by kernel_rfl
 i167:=by kernel_rfl
 i168:=by kernel_rfl
 i171:=by kernel_rfl
 i173:=by kernel_rfl
 i175:=by kernel_rfl
 i210:=by kernel_rfl
 i212:=by kernel_rfl
 i232:=by kernel_rfl
 i233:=by kernel_rfl
 m15:=by kernel_rfl
 m16:=by kernel_rfl
 m17:=by kernel_rfl
 m18:=by kernel_rfl
 m19:=by kernel_rfl
 c0:=by kernel_rfl
 c2:=by kernel_rfl
 c3:=by kernel_rfl
 c4:=by kernel_rfl
 c5:=by kernel_rfl
 c9:=by kernel_rfl
 c20:=by kernel_rfl
 c21:=by kernel_rfl
 c37:=by kernel_rfl
 c46:=by kernel_rfl
 c51:=by kernel_rfl
 c53:=by kernel_rfl
 c75:=by kernel_rfl
 c76:=by kernel_rfl
 c80:=by kernel_rfl
 c85:=by kernel_rfl
 c127:=by kernel_rfl
 c143:=by kernel_rfl
 c145:=by kernel_rfl
 c167:=by kernel_rfl
 c168:=by kernel_rfl
 c171:=by kernel_rfl
 c173:=by kernel_rfl
 c175:=by kernel_rfl
 c210:=by kernel_rfl
 c212:=by kernel_rfl
 c213:=by kernel_rfl
 c232:=by kernel_rfl
 c233:=by kernel_rfl}
open Go.RowKit in
theorem Tryz.strconv_Atoi_ok (s:ByteArray) (hmax:s.size≤9223372036854775806) (v:Int) (h:Lib.atoiAll s.data.toList=.ok v) (w:World):
  Calls prog 212 #[.string s] w fun e w'=>e=.returned (.tuple #[.int .i64 v,.nilIface])∧(w'=w∨∃t,w'=Lib.bytesWorld w 5 t):=Any.strconv_Atoi_ok Tryz.laysC172 s hmax v h w
open Go.RowKit in
theorem Tryz.strconv_Atoi_range (s:ByteArray) (hlim:s.size≤281474976710656) (h:Lib.atoiAll s.data.toList=.range) (ev:Value) (w:World) (hv:w.cell? ⟨5,0,none⟩=some ev) (hev:ev=.nilIface∨∃te pe,ev=.iface te pe):
  Calls prog 212 #[.string s] w fun e w'=> ∃N,e=.returned (.tuple #[.int .i64 (Lib.atoiSat s.data.toList),.iface 302 (.pointer (some ⟨N,0,none⟩))])∧w.heap.size≤N∧w'.heap[N]?=some (.cells #[.string ⟨#[65,116,111,105]⟩,.string s,ev] 311 (0,0))∧Below w.heap.size w w':=Any.strconv_Atoi_range Tryz.laysC172 s hlim h ev w hv hev
def Tryz.lays105_ren:Go.Shelf.Ren:=⟨fun|105=>100|212=>130|99=>131|165=>127|166=>67|170=>132|169=>39|263=>163|264=>164|206=>165|240=>98|241=>159|276=>128|277=>189|n=>n,fun|9=>9|3=>3|4=>4|20=>20|0=>0|46=>216|109=>228|5=>5|72=>91|76=>155|51=>248|146=>259|53=>250|148=>261|70=>88|37=>89|75=>154|127=>158|164=>225|80=>96|n=>n,fun|n=>n⟩
theorem Tryz.lays105:Go.Proofs.Lays.n105 prog Tryz.lays105_ren:= {
 mixed:=by kernel_rfl
 f99:=func131.trans (congrArg some (by kernel_rfl))
 f105:=func100.trans (congrArg some (by kernel_rfl))
 f165:=func127.trans (congrArg some (by kernel_rfl))
 f166:=func67.trans (congrArg some (by kernel_rfl))
 f169:=func39.trans (congrArg some (by kernel_rfl))
 f170:=func132.trans (congrArg some (by kernel_rfl))
 f206:=func165.trans (congrArg some (by kernel_rfl))
 f212:=func130.trans (congrArg some (by kernel_rfl))
 f240:=func98.trans (congrArg some (by kernel_rfl))
 f241:=func159.trans (congrArg some (by kernel_rfl))
 f263:=func163.trans (congrArg some (by kernel_rfl))
 f264:=func164.trans (congrArg some (by kernel_rfl))
 f276:=func128.trans (congrArg some (by kernel_rfl))
 f277:=func189.trans (congrArg some (by kernel_rfl))
 t0:=underlying0
 a0:=isAgg0
 z0:=sizeOf0
 v0:=zeroValue0
 t3:=underlying3
 a3:=isAgg3
 z3:=sizeOf3
 v3:=zeroValue3
 t4:=underlying4
 a4:=isAgg4
 z4:=sizeOf4
 v4:=zeroValue4
 t5:=underlying5
 a5:=isAgg5
 z5:=sizeOf5
 v5:=zeroValue5
 t9:=underlying9
 a9:=isAgg9
 z9:=sizeOf9
 v9:=zeroValue9
 t20:=underlying20
 a20:=isAgg20
 z20:=sizeOf20
 v20:=zeroValue20
 t37:=underlying89
 a37:=isAgg89
 z37:=sizeOf89
 v37:=zeroValue89
 t46:=underlying216
 a46:=isAgg216
 z46:=sizeOf216
 v46:=zeroValue216
 t51:=underlying248
 a51:=isAgg248
 z51:=sizeOf248
 v51:=zeroValue248
 t53:=underlying250
 a53:=isAgg250
 z53:=sizeOf250
 v53:=zeroValue250
 t70:=underlying88
 a70:=isAgg88
 z70:=sizeOf88
 v70:=zeroValue88
 t72:=underlying91
 a72:=isAgg91
 z72:=sizeOf91
 v72:=zeroValue91
 t75:=underlying154
 a75:=isAgg154
 z75:=sizeOf154
 v75:=zeroValue154
 t76:=underlying155
 a76:=isAgg155
 z76:=sizeOf155
 v76:=zeroValue155
 t109:=underlying228
 a109:=isAgg228
 z109:=sizeOf228
 v109:=zeroValue228
 t127:=underlying158
 a127:=isAgg158
 z127:=sizeOf158
 v127:=zeroValue158
 t146:=underlying259
 a146:=isAgg259
 z146:=sizeOf259
 v146:=zeroValue259
 t148:=underlying261
 a148:=isAgg261
 z148:=sizeOf261
 v148:=zeroValue261
 t164:=underlying225
 a164:=isAgg225
 z164:=sizeOf225
 v164:=zeroValue225}
theorem Tryz.Builder_Extra_105:Builder.Extra prog Tryz.lays105_ren:= {
 sizeBuilder:=by kernel_rfl
 liesBuilder:=by kernel_rfl
 t5:=underlying5
 a5:=isAgg5
 z5:=sizeOf5
 v5:=zeroValue5
 infoByte:=by kernel_rfl
 cellsByte:=by kernel_rfl
 sizeByte:=by kernel_rfl
 neB5:=by decide}
open Go.RowKit Go.Lib in
theorem Tryz.strings_Repeat (s:ByteArray) (c:Nat) (w:World) (hc:c≤9223372036854775807) (hlen:s.size *c≤140737488355328):
  Calls prog 100 #[.string s,.int .i64 c] w fun e w'=>e=.returned (.string ⟨(Lib.repeatL s.data.toList c).toArray⟩)∧Below w.heap.size w w':=Any.strings_Repeat Tryz.lays105 Tryz.Builder_Extra_105 s c w hc hlen
def Tryz.laysNm226_ren:Go.Shelf.Ren:=⟨fun|26=>174|33=>194|34=>195|38=>204|n=>n,fun|24=>178|9=>9|3=>3|4=>4|40=>216|0=>0|n=>n,fun|n=>n⟩
theorem Tryz.laysNm226:Go.Proofs.Lays2.n26 prog Tryz.laysNm226_ren:= {
 mixed:=by kernel_rfl
 f26:=func174.trans (congrArg some (by kernel_rfl))
 f33:=func194.trans (congrArg some (by kernel_rfl))
 f34:=func195.trans (congrArg some (by kernel_rfl))
 f38:=func204.trans (congrArg some (by kernel_rfl))
 t0:=underlying0
 a0:=isAgg0
 z0:=sizeOf0
 v0:=zeroValue0
 t3:=underlying3
 a3:=isAgg3
 z3:=sizeOf3
 v3:=zeroValue3
 t4:=underlying4
 a4:=isAgg4
 z4:=sizeOf4
 v4:=zeroValue4
 t9:=underlying9
 a9:=isAgg9
 z9:=sizeOf9
 v9:=zeroValue9
 t24:=underlying178
 a24:=isAgg178
 z24:=sizeOf178
 v24:=zeroValue178
 t40:=underlying216
 a40:=isAgg216
 z40:=sizeOf216
 v40:=zeroValue216}
def Tryz.laysNm222_ren:Go.Shelf.Ren:=⟨fun|22=>175|29=>196|30=>197|36=>205|17=>213|n=>n,fun|24=>178|9=>9|3=>3|4=>4|0=>0|n=>n,fun|n=>n⟩
theorem Tryz.laysNm222:Go.Proofs.Lays2.n22 prog Tryz.laysNm222_ren:= {
 mixed:=by kernel_rfl
 f17:=func213.trans (congrArg some (by kernel_rfl))
 f22:=func175.trans (congrArg some (by kernel_rfl))
 f29:=func196.trans (congrArg some (by kernel_rfl))
 f30:=func197.trans (congrArg some (by kernel_rfl))
 f36:=func205.trans (congrArg some (by kernel_rfl))
 t0:=underlying0
 a0:=isAgg0
 z0:=sizeOf0
 v0:=zeroValue0
 t3:=underlying3
 a3:=isAgg3
 z3:=sizeOf3
 v3:=zeroValue3
 t4:=underlying4
 a4:=isAgg4
 z4:=sizeOf4
 v4:=zeroValue4
 t9:=underlying9
 a9:=isAgg9
 z9:=sizeOf9
 v9:=zeroValue9
 t24:=underlying178
 a24:=isAgg178
 z24:=sizeOf178
 v24:=zeroValue178
 i9:=by kernel_rfl}
end Go.Proofs
namespace Go.Proofs
open Go.Proofs.Tryz
open Go.Sp
open Go.Fw
abbrev C8f (l:List UInt8):List Value:=l.map (fun c=>Value.int .u8 c.toNat)
def adV:Bool->Nat->Value
 |true,b=>ptr b
 |false,_=> .pointer none
abbrev B8x (bw:Nat) (u:Bool) (n:Nat) (a:Option Addr) (cp:Nat):HItem:=.cell bw [adV u bw,.slice a n cp] 93
abbrev D7k (o:List UInt8) (a:Option Addr) (cp:Nat):HItem:=.row (.slice a o.length cp) 5 1 o.length (C8f o)
abbrev WSt (bw:Nat) (o:List UInt8) (u:Bool) (a:Option Addr) (cp:Nat):List HItem:= [B8x bw u o.length a cp,D7k o a cp]
abbrev ToW (bw:Nat) (o:List UInt8):Value->P8->List HItem->Prop:=fun _ _ H'=> ∃a cp,H'=WSt bw o true a cp
theorem C14 (o s:List UInt8):C8f o++C8f s=C8f (o++s):=(V5 ..).symm
set_option maxRecDepth 100000 in
theorem D5n:(prog.info? 5).bind (·.zero)=some (.int .u8 0):=by kernel_rfl
set_option maxRecDepth 100000 in
theorem C6L {I:P8} (bw:Nat) (u:Bool) (n:Nat) (a:Option Addr) (cp:Nat):
  CalM prog 98 #[ptr bw] I [B8x bw u n a cp] (fun _ _ H'=>H'= [B8x bw true n a cp]):=by
 refine CalM.of fun w E hm=>enter (N:=20) func98 rfl [(0,ptr bw)] A0Z rfl ?_
 have hg:=fun (w:World) (hm:Mem E I [B8x bw u n a cp] w)=>hm.get (i:=0) (b:=bw) rfl
 cases u with
 |false=>
  repeat' (first|refine A5p (d:=6) underlying88 (by rfl) (by rfl) (by rfl) (by rfl) ?_|refine D1M underlying88 underlying225 (by kernel_rfl) (by rfl) (by rfl) (by rfl) (hg _ hm) (by simp) ?_|refine D1L func128 (by kernel_rfl) (by kernel_rfl) (by kernel_rfl) (by kernel_rfl) (by rfl) (by rfl) (by rfl) ?_|refine C5D underlying225 underlying88 (by kernel_rfl) (by rfl) (by rfl) (by rfl) (hg _ hm) (by kernel_rfl) ?_|refine J6 ?_ hm|refine P5 hm (k:=?_);clear hm;intro _ hm;try simp only[G5]at hm|refine D8 ?_|refine F5 ?_|refine D5 ?_|refine E5 ?_|refine A7 ?_|refine E8 ?_|refine A8 ?_|refine A0p ?_|refine H5 ?_)
  exact⟨I,_,rfl,hm⟩
 |true=>
  repeat' (first|refine A5p (d:=6) underlying88 (by rfl) (by rfl) (by rfl) (by rfl) ?_|refine B7T (d:=19) underlying88 (by kernel_rfl) (by rfl) (by rfl) (by rfl) (by rfl) ?_|refine J6 ?_ hm|refine D8 ?_|refine F5 ?_|refine D5 ?_|refine E5 ?_|refine A7 ?_|refine E8 ?_|refine A8 ?_|refine G7 ?_|refine A0p ?_|refine F7 ?_)
  exact⟨I,_,rfl,hm⟩
theorem A0L {I:P8} (bw:Nat) (o s:List UInt8) (u:Bool) (a:Option Addr) (cp:Nat) (hl:o.length+s.length<=140737488355328):
  CalM prog 67 #[ptr bw,str s] I (WSt bw o u a cp) (ToW bw (o++s)):=by
 refine CalM.of fun w E hm=>enter (N:=19) func67 rfl [(0,ptr bw),(1,str s)] A1x rfl ?_
 repeat' (first|refine F8 (d:=7) ?_ hm (hp:=pm1_0) (hc:=C6L bw u o.length a cp);clear hm;rintro _ I2 _ _ rfl hle hm;try simp only[G5]at hm|refine D6v (d:=14) (i:=1) D5n hm (by rfl) (by rfl) (by rfl) (by rfl) (by rfl) hl ?_;clear hm;intro a14 cp14 _ hm;try simp only[G5]at hm;rw[C14]at hm|refine J6 ?_ hm|refine P5 hm (k:=?_);clear hm;intro _ hm;try simp only[G5]at hm|refine D8 ?_|refine D6 ?_|refine A0m ?_|refine F5 ?_|refine D5 ?_|refine E5 ?_|refine A7 ?_|refine E8 ?_|refine A8 ?_|refine J3 ?_|refine A4E ?_)
 exact⟨I2,_,⟨a14,cp14,by unfold WSt B8x D7k;rw[D9]⟩,hm⟩
theorem A6p {I:P8} (bw:Nat) (o:List UInt8) (c:UInt8) (u:Bool) (a:Option Addr) (cp:Nat) (hl:o.length+1<=140737488355328):
  CalM prog 68 #[ptr bw,.int .u8 c.toNat] I (WSt bw o u a cp) (ToW bw (o++ [c])):=by
 refine CalM.of fun w E hm=>enter (N:=17) func68 rfl [(0,ptr bw),(1,.int .u8 c.toNat)] A1x rfl ?_
 repeat' (first|refine F8 (d:=6) ?_ hm (hp:=pm1_0) (hc:=C6L bw u o.length a cp);clear hm;rintro _ I2 _ _ rfl hle hm;try simp only[G5]at hm|refine A2P (d:=14) ?_ hm;clear hm;intro a14 cp14 _ _ hm;try simp only[G5]at hm|refine J6 ?_ hm|refine P5 hm (k:=?_);clear hm;intro _ hm;try simp only[G5]at hm|refine D8 ?_|refine D6 ?_|refine F5 ?_|refine D5 ?_|refine E5 ?_|refine A7 ?_|refine E8 ?_|refine A8 ?_|refine J3 ?_|refine J7 ?_)
 have he:C8f o++(Value.int .u8 c.toNat).cells.toList=C8f (o++ [c]):=C14 o [c];rw[he]at hm;exact⟨I2,_,⟨a14,cp14,by unfold WSt B8x D7k;rw[D9];rfl⟩,hm⟩
theorem C93 {I:P8} (bw:Nat) (o:List UInt8) (u:Bool) (a:Option Addr) (cp:Nat) (ho:o≠ []\/o= []/\a=none):
  CalM prog 39 #[ptr bw] I (WSt bw o u a cp) (fun v _ H'=>v=str o/\H'= [B8x bw u o.length a cp]):=by
 refine CalM.of fun w E hm=>enter (N:=14) func39 rfl [(0,ptr bw)] A0Z rfl ?_
 rcases ho with ho|⟨rfl,rfl⟩
 ·have h0:0<o.length:=A24.2 ho
  obtain⟨g,rfl⟩:=hm.swap.rowAddr h0;have hcp:cp≠0:=by
   obtain⟨_,cp2,_,e1,_,e2,_⟩:=hm.swap.openRow h0;injection e1 with _ _ e3
   omega
  repeat' (first|refine A0S (id:=1) (hm.perm pm1_1) [0,1,2,3,4,5,6,7,8,9] [10] 11 (h:=?_);clear hm;intro wd hR hm|refine C4e (d:=7) (by rfl) (by rfl) (by rfl) hcp ?_|refine C8X (d:=13) (s:=o) underlying158 (by kernel_rfl) hm (by rfl) (by rfl) (by rfl) (by rfl) ho rfl ?_;clear hm;intro _ hm|refine A0k ?_ hR|refine A0K ?_;replace hm:=hR.back hm;clear hR;try simp only[G5]at hm|refine D6 ?_|refine E5 ?_|refine A7 ?_|refine E8 ?_|refine A8 ?_|refine J3 ?_|refine J7 ?_|refine A0x ?_|refine A62 ?_|refine U5 ?_|refine N8 ?_|refine A0y ?_)
  exact⟨I,_,⟨rfl,rfl⟩,hm⟩
 ·skip
  repeat' (first|refine A0S (id:=1) (hm.perm pm0) [0,1,2,3,4,5,6,7,8,9] [10] 11 (h:=?_);clear hm;intro wd hR hm|refine C1x (d:=7) (by rfl) (by rfl) (by rfl) ?_|refine C5x (d:=13) hm (by rfl) (by rfl) (by rfl) (by rfl) ?_|refine A0k ?_ hR|refine A0K ?_;replace hm:=hR.back hm;clear hR;try simp only[G5]at hm|refine D6 ?_|refine E5 ?_|refine A7 ?_|refine E8 ?_|refine A8 ?_|refine J3 ?_|refine J7 ?_|refine A0x ?_|refine A62 ?_|refine U5 ?_|refine N8 ?_|refine A0y ?_)
  exact⟨I,_,⟨rfl,rfl⟩,hm.left (H:= [_])⟩
def B1I (I:P8):Prop:= ∃ty fr,I 1=some (.cells (Lib.pow10Tab.map fun z=>Value.int .u64 z).toArray ty fr)
theorem B1I.le {I I':P8} (h:B1I I) (m:Le I I'):B1I I':=by
 obtain⟨ty,fr,h1⟩:=h;exact⟨ty,fr,m _ _ h1⟩
theorem D5d {I : P8} (h : B1I I) {w : World} (hI : Inv I w) : Lib.TabIs prog w "internal/strconv.uint64pow10" .u64 Lib.pow10Tab := by
 obtain⟨ty,fr,h1⟩:=h;have hg : prog.globalNamed "internal/strconv.uint64pow10" = some 1 := by kernel_rfl
 unfold Lib.TabIs
 simp only[World.var?,hg,A2i,hI _ _ h1]
theorem D7n {I:P8} (n:Nat) (h:n≤1000000000) (hI:B1I I):CalM prog 160 #[nt n] I [] (fun u I' H'=>I'=I∧H'= []∧u=str (Lib.itoa n)):=by
 refine⟨fun w hm=>⟨?_⟩⟩
 exact Calls.mono (Tryz.strconv_Itoa n (by omega) (by omega) w (D5d hI hm.inv)) (fun e w' ⟨he,k,os,hw⟩=>by
  subst he;subst hw;exact⟨I,[],⟨rfl,rfl,rfl⟩,hm.kept0 (Kept.of_below (Lib.below_grow _ w (H7 _) k os))⟩)
theorem D4M:∀n:Nat,Lib.repeatL (⟨[32,32].toArray⟩:ByteArray).data.toList n=Sp.pad n:=fun n=>by
 show Lib.repeatL [32,32] n=Sp.pad n
 rw[Sp.pad];induction n with
 |zero=>rfl
 |succ n ih=>rw[B0O,List.flatten_cons, ←ih];rfl
theorem C4g {I:P8} (n:Nat) (h:n≤1000000):CalM prog 100 #[.string ⟨#[32,32]⟩,nt n] I [] (fun u I' H'=>I'=I∧H'= []∧u=str (Sp.pad n)):=by
 refine⟨fun w hm=>⟨?_⟩⟩
 exact Calls.mono (Tryz.strings_Repeat ⟨#[32,32]⟩ n w (by omega) (by show 2 *n≤_;omega)) (fun e w' ⟨he,hw⟩=>by
  subst he;exact⟨I,[],⟨rfl,rfl,by rw[←D4M]⟩,hm.kept0 (Kept.of_below hw)⟩)
theorem C76 {J:P8}{b o tc:Nat} (e:Sp.Ex) (ea:Option Addr) (ec:Nat) (hp:PtrI J b o tc (A0E e ea ec)):CalR prog 161 #[.pointer (some ⟨b,o,none⟩)] J [] (nt (A0N e)):=by
 refine CalR.of fun w K hm hl _ _=>enter (N:=18) func161 rfl [(0,.pointer (some ⟨b,o,none⟩))] A0Z rfl ?_
 have hp:=hp.le hl;rw[A0N,A2Y];by_cases k3:e.kind=3
 case neg=>
  rw[if_pos k3];repeat' (first|refine J9 ?_ hm|refine D8 ?_|refine D6 ?_|refine A0w ?_|refine F5 ?_|refine D5 ?_|refine E5 ?_|refine A7 ?_|refine H8 ?_|refine E8 ?_|refine A8 ?_|refine J3 ?_|refine J7 ?_|(refine C9 (ht:=fun _=>?_) (hf:=fun _=>?_)<;>try first|contradiction|omega))
  exact⟨rfl,hm.kept⟩
 rw[if_neg (fun h=>h k3)];by_cases c1:e.name= [61]∨e.name= [60]
 ·rw[if_pos c1]
  repeat' (first|refine J9 ?_ hm|refine D8 ?_|refine D6 ?_|refine A0w ?_|refine A0g ?_|refine F5 ?_|refine D5 ?_|refine E5 ?_|refine A7 ?_|refine H8 ?_|refine D7 ?_|refine O5 ?_|refine E8 ?_|refine A8 ?_|refine F6 ?_|refine G7 ?_|refine J3 ?_|refine J7 ?_|(refine C9 (ht:=fun _=>?_) (hf:=fun _=>?_)<;>try first|contradiction|omega))
  all_goals first
   |exact⟨rfl,hm.kept⟩
   |(exfalso;simp_all)
 ·rw[if_neg c1]
  by_cases c2:e.name= [43]∨e.name= [45]
  ·rw[if_pos c2]
   repeat' (first|refine J9 ?_ hm|refine D8 ?_|refine D6 ?_|refine A0w ?_|refine A0g ?_|refine F5 ?_|refine D5 ?_|refine E5 ?_|refine A7 ?_|refine H8 ?_|refine D7 ?_|refine O5 ?_|refine E8 ?_|refine A8 ?_|refine F6 ?_|refine G7 ?_|refine J3 ?_|refine J7 ?_|(refine C9 (ht:=fun _=>?_) (hf:=fun _=>?_)<;>try first|contradiction|omega))
   all_goals first
    |exact⟨rfl,hm.kept⟩
    |(exfalso;simp_all)
  ·rw[if_neg c2]
   repeat' (first|refine J9 ?_ hm|refine D8 ?_|refine D6 ?_|refine A0w ?_|refine A0g ?_|refine F5 ?_|refine D5 ?_|refine E5 ?_|refine A7 ?_|refine H8 ?_|refine D7 ?_|refine O5 ?_|refine E8 ?_|refine A8 ?_|refine F6 ?_|refine G7 ?_|refine J3 ?_|refine J7 ?_|(refine C9 (ht:=fun _=>?_) (hf:=fun _=>?_)<;>try first|contradiction|omega))
   all_goals first
    |exact⟨rfl,hm.kept⟩
    |(exfalso;simp_all)
def EW (I0:P8) (bw:Nat) (e:Sp.Ex):Prop:= ∀(J:P8) (b o tc:Nat) (ea:Option Addr) (ec:Nat) (ys:List Value) (out:List UInt8) (u:Bool) (a:Option Addr) (cp:Nat),Le I0 J→out.length+(Sp.exW e).length≤100000000000000→
 PtrI J b o tc (A0E e ea ec)→RowI J 109 6 (.slice ea e.args.length ec) e.args.length ys→Z7 J e.args ys→
 CalM prog 129 #[ptr bw,.pointer (some ⟨b,o,none⟩)] J (WSt bw out u a cp) (ToW bw (out++Sp.exW e))
theorem D3e {I0:P8}{bw:Nat}{e:Sp.Ex} (hE:EW I0 bw e) {J:P8}{b o tc:Nat}{ea:Option Addr}{ec:Nat}{ys:List Value}{out:List UInt8}{u:Bool}{a:Option Addr}{cp:Nat} (n:Nat) (hle:Le I0 J) (hl:out.length+(B3K (decide (A0N e<n)) (Sp.exW e)).length≤100000000000000)
  (hp:PtrI J b o tc (A0E e ea ec)) (hr:RowI J 109 6 (.slice ea e.args.length ec) e.args.length ys) (hx:Z7 J e.args ys):
  CalM prog 162 #[ptr bw,.pointer (some ⟨b,o,none⟩),nt n] J (WSt bw out u a cp) (ToW bw (out++B3K (decide (A0N e<n)) (Sp.exW e))):=by
 refine CalM.of fun w E hm=>enter (N:=24) func162 rfl [(0,ptr bw),(1,.pointer (some ⟨b,o,none⟩)),(2,nt n)] A4x rfl ?_
 have hT:=C76 e ea ec hp;rw[B3K]at hl ⊢;by_cases hlt:A0N e<n
 ·rw[if_pos (by simpa using hlt)]at hl ⊢
  simp only[D9,E9,List.length_nil]at hl;have hE1:=fun (I:P8) (m:Le J I) (a cp)=>hE I b o tc ea ec ys (out++ [40]) true a cp (hle.trans m) (by rw[D9];show _+1+_≤_;omega) (hp.le m) (hr.le m) (Z7.le m _ _ hx)
  repeat' (first|refine U8 (d:=7) ?_ hm (hc:=hT);clear hm;intro _ hm|refine F8 (d:=13) ?_ hm (hp:=pm2_0) (hc:=A6p bw out 40 u a cp (by omega));clear hm;rintro _ I2 _ _ ⟨a2,cp2,rfl⟩ hleI2 hm;try simp only[G5]at hm|refine F8 (d:=16) ?_ hm (hp:=pm2_0) (hc:=hE1 I2 hleI2 a2 cp2);clear hm;rintro _ I3 _ _ ⟨a3,cp3,rfl⟩ hleI3 hm;try simp only[G5]at hm|refine F8 (d:=20) ?_ hm (hp:=pm2_0) (hc:=A6p bw (out++ [40]++Sp.exW e) 41 true a3 cp3 (by simp only[D9,E9,List.length_nil];omega));clear hm;rintro _ I4 _ _ ⟨a4,cp4,rfl⟩ hleI4 hm;try simp only[G5]at hm|refine D8 ?_|refine J8 ?_|refine F5 ?_|refine D5 ?_|refine E5 ?_|refine A7 ?_|refine H8 ?_|refine E8 ?_|refine A8 ?_|refine J3 ?_|refine A69 ?_|(refine C9 (ht:=fun _=>?_) (hf:=fun _=>?_)<;>try first|contradiction|omega))
  exact⟨I4,_,⟨a4,cp4,by simp only[J5]⟩,hm⟩
 ·rw[if_neg (by simpa using hlt)]at hl ⊢
  have hE1:=fun (I:P8) (m:Le J I)=>hE I b o tc ea ec ys out u a cp (hle.trans m) (by omega) (hp.le m) (hr.le m) (Z7.le m _ _ hx)
  repeat' (first|refine U8 (d:=7) ?_ hm (hc:=hT);clear hm;intro _ hm|refine F8 (d:=23) ?_ hm (hp:=pm2_0) (hc:=hE1 J (Le.refl _));clear hm;rintro _ I3 _ _ ⟨a3,cp3,rfl⟩ hleI3 hm;try simp only[G5]at hm|refine D8 ?_|refine J8 ?_|refine E5 ?_|refine A7 ?_|refine E8 ?_|refine A8 ?_|refine G7 ?_|refine A0p ?_|(refine C9 (ht:=fun _=>?_) (hf:=fun _=>?_)<;>try first|contradiction|omega))
  exact⟨I3,_,⟨a3,cp3,rfl⟩,hm⟩
structure WrX where
 k:Nat
 I:P8
 a:Option Addr
 cp:Nat
theorem D7l {I0:P8} (hT:B1I I0) (bw:Nat):∀(n:Nat) (e:Sp.Ex),SizeOf.sizeOf e<=n->∀d l,e.fitE d l->EW I0 bw e:=by
 intro n;induction n with
 |zero=>intro e h;cases e;simp at h
 |succ n ih=>
 intro e hsz d l hfit I b o tc ea ec ys out u a cp hle0 hlen hp hr hx;have hnode:=D0O hfit;have heq:=D6l e;obtain⟨fin,hfin⟩:∃fin,fin=Sp.exW e:=⟨_,rfl⟩;rw[<-hfin]at heq hlen |-;refine CalM.of fun w E hm=>enter (N:=99) func129 rfl [(0,ptr bw),(1,.pointer (some ⟨b,o,none⟩))] A1x rfl ?_
 by_cases k1:e.kind=1
 ·rw[if_pos k1]at heq
  have hn:e.n<=1000000000:=by
   rcases hnode with h|h|h|h
   ·exact h.2
   all_goals omega
  have hW:=A0L bw out fin u a cp (I:=I) (by omega);have hI:=D7n (I:=I) e.n hn (hT.le hle0);rw[<-heq]at hI;repeat' (first|refine A0B (id:=2) (hm.perm pm2_0) [0,1,2,3,4,5,6] [7,8] 9 (by kernel_rfl) ?_;clear hm;intro wd hR hm|refine V8 (d:=19) ?_ hm (hp:=pm0) (hc:=hI);clear hm;rintro _ I2 _ _ ⟨rfl,rfl,rfl⟩ hleI2 hm;try simp only[G5]at hm|refine V8 (d:=20) ?_ hm (hp:=pm2_0) (hc:=hW);clear hm;rintro _ I3 _ _ ⟨a3,cp3,rfl⟩ hleI3 hm;try simp only[G5]at hm|refine A0G ?_ hR|refine A0K ?_;replace hm:=hR.back hm;clear hR;try simp only[G5]at hm|refine J9 ?_ hm|refine D8 ?_|refine D6 ?_|refine O6 ?_|refine F5 ?_|refine D5 ?_|refine E5 ?_|refine A7 ?_|refine D7 ?_|refine E8 ?_|refine A8 ?_|refine F6 ?_|refine A0p ?_|(refine C9 (ht:=fun _=>?_) (hf:=fun _=>?_)<;>try first|contradiction|omega)|refine A0x ?_|refine U5 ?_|refine N8 ?_|refine A0y ?_)
  exact⟨I3,_,⟨a3,cp3,rfl⟩,hm⟩
 rw[if_neg k1]at heq;by_cases k3:e.kind=3
 ·rw[if_pos k3]at heq
  obtain⟨h2,d2,hops⟩:e.args.length=2/\∃d2,A2Q e.args d2 (A0u e.name):=by
   rcases hnode with h|h|h|h
   ·omega
   ·omega
   ·omega
   ·exact h.2
  have g0:e.args[0]?=some e.args[0]:=F9 (by omega);have g1:e.args[1]?=some e.args[1]:=F9 (by omega);have z0:=A3o (O1 (l:=e.args) (n:=0) (by omega));have z1:=A3o (O1 (l:=e.args) (n:=1) (by omega));have f0:=B3J hops g0;have f1:=B3J hops g1;rw[B1V g0,B1V g1,N9,N9,g0,g1]at heq;simp only[Option.getD_some]at heq;obtain⟨ea0,ec0,ys0,hc0,hr0,hx0⟩:=(hx.get g0).out;obtain⟨ea1,ec1,ys1,hc1,hr1,hx1⟩:=(hx.get g1).out;have hTg:=C76 e ea ec hp;have htn:A0N e=A2Y e.name:=by rw[A0N,if_neg (fun h=>h k3)]
  rw[htn]at hTg;have hE0:=ih e.args[0] (by omega) _ _ f0;have hE1:=ih e.args[1] (by omega) _ _ f1;generalize e.args[0]=e0 at g0 z0 f0 hc0 hr0 hx0 heq hE0;generalize e.args[1]=e1 at g1 z1 f1 hc1 hr1 hx1 heq hE1;have q0:=C7A (decide (A0N e0<A2Y e.name)) (Sp.exW e0);have q1:=C7A (decide (A0N e1<A2Y e.name+1)) (Sp.exW e1);have hln:=congrArg List.length heq;simp only[D9,E9,List.length_nil]at hln;have hP0:=fun (J:P8) (m:Le I J) (b o tc:Nat) (hp:PtrI J b o tc (A0E e0 ea0 ec0))=>D3e hE0 (J:=J) (out:=out) (u:=u) (a:=a) (cp:=cp) (A2Y e.name) (hle0.trans m) (by omega) hp (hr0.le m) (Z7.le m _ _ hx0)
  have hP1:=fun (J:P8) (m:Le I J) (b o tc:Nat) (out:List UInt8) (a:Option Addr) (cp:Nat) (ho:out.length+(B3K (decide (A0N e1<A2Y e.name+1)) (Sp.exW e1)).length<=100000000000000) (hp:PtrI J b o tc (A0E e1 ea1 ec1))=>D3e hE1 (J:=J) (out:=out) (u:=true) (a:=a) (cp:=cp) (A2Y e.name+1) (hle0.trans m) ho hp (hr1.le m) (Z7.le m _ _ hx1)
  have hsp:A2Y e.name<=3:=by rw[A2Y];split<;>(try split)<;>omega
  generalize B3K (decide (A0N e0<A2Y e.name)) (Sp.exW e0)=p0 at heq hP0 hln q0;generalize B3K (decide (A0N e1<A2Y e.name+1)) (Sp.exW e1)=p1 at heq hP1 hln q1;have hrl:∀J,Le I J->RowI J 109 6 (.slice ea e.args.length ec) e.args.length ys:=fun J mm=>hr.le mm
  rw[h2]at hrl;have hp':PtrI I b o tc [nt e.kind,str e.name,nt e.n,.slice ea 2 ec,nt e.fr,nt e.to]:=by rw[<-h2];exact hp
  clear hp;subst heq;have hadd:((A2Y e.name:Nat):Int)+1=((A2Y e.name+1:Nat):Int):=rfl;repeat' (first|refine U8 (d:=24) ?_ hm (hc:=hTg);clear hm;intro _ hm|refine O7 (d:=30) ?_ (hr:=hrl I (Le.refl _));intro b0 o0 hp0;rw[show ((0:Int).toNat *6)=0 *6 from rfl,hc0]at hp0|refine F8 (d:=32) ?_ hm (hp:=pm2_0) (hc:=hP0 I (Le.refl _) _ _ _ hp0);clear hm;rintro _ I2 _ _ ⟨a2,cp2,rfl⟩ hleI2 hm;try simp only[G5]at hm;have hp2:=hp'.le hleI2|refine A0B (id:=6) (hm.perm pm2_0) [0,1,2,3,4,5,6,7,8] [9] 10 (by kernel_rfl) ?_;clear hm;intro wd hR hm|refine A3P (d:=40) (s:= [32]) (u:=e.name) (by rfl) (by rfl) (by rfl) (by rfl) (by show 1+_<=_;omega) ?_|refine A3P (d:=41) (s:= [32]++e.name) (u:= [32]) (by rfl) (by rfl) (by rfl) (by rfl) (by simp only[D9,E9,List.length_nil];omega) ?_|refine V8 (d:=42) ?_ hm (hp:=pm2_0) (hc:=A0L bw (out++p0) ([32]++e.name++ [32]) true a2 cp2 (by simp only[D9,E9,List.length_nil];omega));clear hm;rintro _ I3 _ _ ⟨a3,cp3,rfl⟩ hleI3 hm;try simp only[G5]at hm|refine O7 (d:=48) ?_ (hr:=hrl I3 (hleI2.trans hleI3));intro b1 o1 hp1;rw[show ((1:Int).toNat *6)=1 *6 from rfl,hc1]at hp1|refine J9 (d:=47) ?_ hm (hp:=hp2.le hleI3)|refine O9 (d:=50) ?_;rw[hadd]|refine F8 (d:=51) ?_ hm (hp:=pm2_0) (hc:=hP1 I3 (hleI2.trans hleI3) _ _ _ (out++p0++([32]++e.name++ [32])) a3 cp3 (by simp only[D9,E9,List.length_nil];omega) hp1);clear hm;rintro _ I4 _ _ ⟨a4,cp4,rfl⟩ hleI4 hm;try simp only[G5]at hm|refine A0G ?_ hR|refine A0K ?_;replace hm:=hR.back hm;clear hR;try simp only[G5]at hm|refine J9 ?_ hm|refine D8 ?_|refine D6 ?_|refine O6 ?_|refine F5 ?_|refine D5 ?_|refine E5 ?_|refine A7 ?_|refine D7 ?_|refine E8 ?_|refine A8 ?_|refine F6 ?_|refine A0p ?_|(refine C9 (ht:=fun _=>?_) (hf:=fun _=>?_)<;>try first|contradiction|omega)|refine A0x ?_|refine U5 ?_|refine N8 ?_|refine A0y ?_)
  have hfo:out++p0++32::(e.name++ [32])++p1=out++(p0++ [32]++e.name++ [32]++p1):=by simp
  rw[hfo]at hm;exact⟨I4,_,⟨a4,cp4,rfl⟩,hm⟩
 rw[if_neg k3]at heq;by_cases k2:e.kind=2
 ·rw[if_pos k2]at heq
  subst heq;repeat' (first|refine A0B (id:=10) (hm.perm pm2_0) [0,1,2,3,4,5,6] [7] 8 (by kernel_rfl) ?_;clear hm;intro wd hR hm|refine V8 (d:=62) ?_ hm (hp:=pm2_0) (hc:=A0L bw out e.name u a cp (by omega));clear hm;rintro _ I3 _ _ ⟨a3,cp3,rfl⟩ hleI3 hm;try simp only[G5]at hm;have hp3:=hp.le hleI3|refine A0G ?_ hR|refine A0K ?_;replace hm:=hR.back hm;clear hR;try simp only[G5]at hm|refine J9 ?_ hm|refine D8 ?_|refine D6 ?_|refine O6 ?_|refine F5 ?_|refine D5 ?_|refine E5 ?_|refine A7 ?_|refine H8 ?_|refine O5 ?_|refine E8 ?_|refine A8 ?_|refine F6 ?_|refine G7 ?_|refine J3 ?_|refine A69 ?_|(refine C9 (ht:=fun _=>?_) (hf:=fun _=>?_)<;>try first|contradiction|omega)|refine A0x ?_|refine U5 ?_|refine N8 ?_|refine A0y ?_)
  exact⟨I3,_,⟨a3,cp3,rfl⟩,hm⟩
 rw[if_neg k2]at heq;obtain⟨k4,h5,hxs⟩:e.kind=4/\e.args.length<=5/\A2f e.args (d+1):=by
  rcases hnode with h|h|h|h
  ·omega
  ·omega
  ·exact h
  ·omega
 rw[if_pos k4]at heq;subst heq;have hcl:=fun j=>B67 (A4D e.args) (j:=j) (k:=e.args.length)
 simp only[D9,E9,List.length_nil]at hlen;repeat' (first|refine A0B (id:=10) (hm.perm pm2_0) [0,1,2,3,4,5,6] [7] 8 (by kernel_rfl) ?_;clear hm;intro wd hR hm|refine V8 (d:=62) ?_ hm (hp:=pm2_0) (hc:=A0L bw out e.name u a cp (by omega));clear hm;rintro _ I3 _ _ ⟨a3,cp3,rfl⟩ hleI3 hm;try simp only[G5]at hm;have hp3:=hp.le hleI3|refine F8 (d:=71) ?_ hm (hp:=pm2_0) (hc:=A6p bw (out++e.name) 40 true a3 cp3 (by rw[D9];omega));clear hm;rintro _ I4 _ _ ⟨a4,cp4,rfl⟩ hleI4 hm;try simp only[G5]at hm;have hp4:=hp3.le hleI4|refine A0G ?_ hR|refine A0K ?_;replace hm:=hR.back hm;clear hR;try simp only[G5]at hm|refine J9 ?_ hm|refine D8 ?_|refine D6 ?_|refine O6 ?_|refine G6 ?_|refine F5 ?_|refine D5 ?_|refine E5 ?_|refine A7 ?_|refine E8 ?_|refine A8 ?_|refine F6 ?_|refine G7 ?_|(refine C9 (ht:=fun _=>?_) (hf:=fun _=>?_)<;>try first|contradiction|omega)|refine A0x ?_|refine U5 ?_|refine N8 ?_|refine A0y ?_)
 have hle4:Le I I4:=hleI3.trans hleI4;refine U3 (fun x:WrX=> [(0,ptr bw),(1,.pointer (some ⟨b,o,none⟩)),(76,nt e.args.length),(77,nt x.k)])
  (fun x w'=>Mem E x.I (WSt bw (out++e.name++ [40]++A4L (A4D e.args) x.k) true x.a x.cp) w'/\Le I x.I/\x.k<=e.args.length) (fun x=>e.args.length-x.k) ⟨0,I4,a4,cp4⟩
  (by exact⟨rfl,rfl,rfl,rfl,trivial⟩) ⟨by rw[show A4L (A4D e.args) 0= [] from rfl,J4];exact hm,hle4,H9 _⟩ ?_
 clear hm;rintro⟨k,I5,a5,cp5⟩ w5 ⟨hm,hle5,hk⟩;dsimp only at hm hle5 hk |-;have hp5:=hp.le hle5;by_cases hlt:k<e.args.length
 ·have hg:e.args[k]?=some e.args[k]:=F9 hlt
  have hz:=A3o (O1 hlt);have hf:=B7i hxs hg;obtain⟨eak,eck,ysk,hck,hrk,hxk⟩:=(hx.get hg).out;have hst:=A7y (A4D e.args) k;have hc1:=hcl (k+1) hlt;rw[B1V hg]at hst;rw[hst]at hc1;have hEk:=ih e.args[k] (by omega) _ _ hf;generalize e.args[k]=ek at hg hz hf hck hrk hxk hst hEk hc1;simp only[D9]at hc1;have hr5:=hr.le hle5;by_cases h0:k=0
  ·subst h0
   rw[if_neg (by decide),L9]at hst;have hE1:=fun (J:P8) (m:Le I J) (b o tc a cp) (hp:PtrI J b o tc (A0E ek eak eck))=>hEk J b o tc eak eck ysk (out++e.name++ [40]++A4L (A4D e.args) 0) true a cp (hle0.trans m) (by simp only[D9,E9,List.length_nil];omega) hp (hrk.le m) (Z7.le m _ _ hxk)
   repeat' (first|refine O7 (d:=92) ?_ (hr:=hr5);intro b0 o0 hp0;rw[show (((0:Nat):Int).toNat *6)=0 *6 from rfl,hck]at hp0|refine F8 (d:=93) ?_ hm (hp:=pm2_0) (hc:=hE1 I5 hle5 _ _ _ _ _ hp0);clear hm;rintro _ I6 _ _ ⟨a6,cp6,rfl⟩ hleI6 hm;try simp only[G5]at hm|refine J9 ?_ hm|refine D8 ?_|refine D6 ?_|refine J8 ?_|refine A1H ?_|refine F5 ?_|refine O9 ?_|refine D5 ?_|refine E5 ?_|refine A7 ?_|refine D7 ?_|refine E8 ?_|refine A8 ?_|refine F6 ?_|refine G7 ?_|refine F7 ?_|(refine C9 (ht:=fun _=>?_) (hf:=fun _=>?_)<;>try first|contradiction|omega))
   exact L6 (⟨0+1,I6,a6,cp6⟩:WrX) (by exact⟨rfl,rfl,rfl,rfl,trivial⟩) ⟨by dsimp only;rw[hst, <-J5];exact hm,hle5.trans hleI6,by dsimp only;omega⟩ (by dsimp only;omega)
  ·rw[if_pos (by omega)]at hst
   rw[if_pos (by omega)]at hc1;simp only[E9,List.length_nil]at hc1;have hE1:=fun (J:P8) (m:Le I J) (b o tc a cp) (hp:PtrI J b o tc (A0E ek eak eck))=>hEk J b o tc eak eck ysk (out++e.name++ [40]++A4L (A4D e.args) k++ [44,32]) true a cp (hle0.trans m) (by simp only[D9,E9,List.length_nil];omega) hp (hrk.le m) (Z7.le m _ _ hxk)
   repeat' (first|refine F8 (d:=85) ?_ hm (hp:=pm2_0) (hc:=A0L bw (out++e.name++ [40]++A4L (A4D e.args) k) [44,32] true a5 cp5 (by simp only[D9,E9,List.length_nil];omega));clear hm;rintro _ I6 _ _ ⟨a6,cp6,rfl⟩ hleI6 hm;try simp only[G5]at hm;have hp6:=hp5.le hleI6|refine O7 (d:=92) ?_ (hr:=hr5.le hleI6);intro b0 o0 hp0;rw[show ((k:Int).toNat *6)=k *6 from rfl,hck]at hp0|refine F8 (d:=93) ?_ hm (hp:=pm2_0) (hc:=hE1 I6 (hle5.trans hleI6) _ _ _ _ _ hp0);clear hm;rintro _ I7 _ _ ⟨a7,cp7,rfl⟩ hleI7 hm;try simp only[G5]at hm|refine J9 ?_ hm|refine D8 ?_|refine D6 ?_|refine J8 ?_|refine A1H ?_|refine F5 ?_|refine O9 ?_|refine D5 ?_|refine E5 ?_|refine A7 ?_|refine D7 ?_|refine E8 ?_|refine A8 ?_|refine F6 ?_|refine G7 ?_|(refine C9 (ht:=fun _=>?_) (hf:=fun _=>?_)<;>try first|contradiction|omega))
   exact L6 (⟨k+1,I7,a7,cp7⟩:WrX) (by exact⟨rfl,rfl,rfl,rfl,trivial⟩) ⟨by dsimp only;rw[hst, <-J5, <-J5];exact hm,(hle5.trans hleI6).trans hleI7,by dsimp only;omega⟩ (by dsimp only;omega)
 ·obtain rfl:k=e.args.length:=by omega
  repeat' (first|refine F8 (d:=98) ?_ hm (hp:=pm2_0) (hc:=A6p bw (out++e.name++ [40]++A4L (A4D e.args) e.args.length) 41 true a5 cp5 (by simp only[D9,E9,List.length_nil];omega));clear hm;rintro _ I6 _ _ ⟨a6,cp6,rfl⟩ hleI6 hm;try simp only[G5]at hm|refine D8 ?_|refine J8 ?_|refine F5 ?_|refine D5 ?_|refine E5 ?_|refine A7 ?_|refine H6 ?_|refine D7 ?_|refine G9 ?_|refine E8 ?_|refine A8 ?_|refine O8 ?_|refine A0p ?_|(refine C9 (ht:=fun _=>?_) (hf:=fun _=>?_)<;>try first|contradiction|omega))
  exact⟨I6,_,⟨a6,cp6,by simp only[J5]⟩,hm⟩
def D8R (k:Nat):Value:=str [A1Z k]
theorem D3C (n:Nat) (hn:n<256) (w:World):Cal prog 66 #[.int .i64 n] w fun v w'=>v=str (A2X n)/\Kept [] w w':=by
 refine enter (N:=26) func66 rfl [(0,.int .i64 n)] A0Z rfl ?_
 repeat' (first|refine D8 ?_|refine D6 ?_|refine E5 ?_|refine A7 ?_|refine E8 ?_|refine A8 ?_|refine F6 ?_)
 refine U3 (fun x:Nat×Value=> [(0,.int .i64 (n:Int)),(3,x.2),(5,.int .i64 ((x.1:Nat):Int))])
  (fun x w'=>x.1<=8/\w'.ownsRow w.heap.size 9 1 x.2 (A9T n x.1).length ((A9T n x.1).map D8R)/\Kept [] w w') (fun x=>8-x.1) (0,.slice none 0 0)
  ⟨rfl,rfl,rfl,trivial⟩ ⟨by simp,World.ownsRow_nil _ _ _ _,Kept.refl _ _⟩ ?_
 rintro⟨k,v⟩ w1 ⟨hk,hown,hkept⟩;dsimp only at hk hown hkept |-;by_cases hlt:k<8
 ·obtain⟨m,hm⟩:∃m,m=n / 2 ^ k:=⟨_,rfl⟩
  have hbit:Sp.bit n k=decide (((((m:Nat):Int).toNat &&& (1:Int).toNat:Nat):Int)=1):=by
   rw[A1R,show (1:Int).toNat=1 from rfl,Nat.and_one_is_mod,A06,Sp.bit, <-hm,decide_eq_true_eq,decide_eq_true_eq];omega
  have hq:m<=n:=by rw[hm];exact Nat.div_le_self _ _
  have hs:=C32 n k;have hlen:=B8n n k;repeat' (first|refine C5I (by rfl) (by rfl) (by rfl) (by rfl) (by omega) ?_;rw[<-hm]|refine C00 ?_ (h':=by decide)|refine C5C (k:=?_);rw[IntWalk.u8_in (97+(k:Int)) (by omega)]|refine A7I (hown:=hown2) (hsz:=by decide) (hbase:=by have:=hkept2.size;omega) (k:=?_);intro v3 w3 hown3 hk3 hb3|refine A7R (by rfl) (by rfl) (by rfl) (by rfl) (by rfl) (by decide) ?_;intro b2 w2 hb2 hbb2 hk2;have hown2:=hk2.own hown (by simp);have hkept2:=hkept.trans hk2|refine C01 (s:= [A1Z k]) (by rfl) (by rfl) (by rfl) hbb2 (by rfl) (fun j hj=>by (obtain rfl:j=0:=by omega);show some (Value.int .u8 (97+(k:Int)))=some (Value.int .u8 ((A1Z k).toNat:Int));rw[C5l k hlt];rfl) ?_|refine D8 ?_|refine D6 ?_|refine J8 ?_|refine O6 ?_|refine O9 ?_|refine E5 ?_|refine A7 ?_|refine D7 ?_|refine E8 ?_|refine A8 ?_|refine F6 ?_|refine G7 ?_|(refine C9 (ht:=fun _=>?_) (hf:=fun _=>?_)<;>try first|contradiction|omega))
  ·skip
   rename_i h1
   have hb:Sp.bit n k=true:=by rw[hbit];exact decide_eq_true h1
   rw[if_pos hb]at hs;refine L6 ((k+1,v3):Nat×Value) (by exact⟨rfl,rfl,rfl,trivial⟩) ?_ (by dsimp only;omega)
   refine⟨by dsimp only;omega,?_,?_⟩
   ·dsimp only
    rw[hs,D9,V5];exact hown3
   ·refine hkept2.step hk3 (fun x hx=> .inr ?_)
    have hob:=hown2.lt x (by simpa[Option.mem_toList] using hx);exact hob.1
  ·rename_i h1
   have hb:Sp.bit n k=false:=by rw[hbit];exact decide_eq_false h1
   rw[hb,if_neg (by simp)]at hs;refine L6 ((k+1,v):Nat×Value) (by exact⟨rfl,rfl,rfl,trivial⟩) ?_ (by dsimp only;omega)
   refine⟨by dsimp only;omega,?_,hkept⟩
   dsimp only
   rw[hs];exact hown
 ·obtain rfl:k=8:=by omega
  have htags:A9T n 8=A3D n:=rfl;rw[htags]at hown;have hlen:(A3D n).length<=8:=B8n n 8;have hcl:=B68 ((A3D n).map A1Z);rw[P7]at hcl;have hjoin:Cal prog 97 #[v,.string ⟨#[44]⟩] w1 fun u w'=>u=str (A2q ((A3D n).map A1Z))/\Kept [] w1 w':=by
   by_cases h0:(A3D n).length=0
   ·obtain⟨a,c,rfl⟩:=A5f hown
    rw[h0];refine(D0c (Tryz.strings_Join_none a c ⟨#[44]⟩ w1)).mono ?_
    rintro u w' ⟨rfl,rfl⟩;rw[A05 h0];exact⟨rfl,Kept.refl _ _⟩
   ·obtain⟨g,cap,cur,rfl,hbg,hg,hcap,hcur,_⟩:=B4p hown (by omega)
    have hx:((A3D n).map (fun k=>(⟨[A1Z k].toArray⟩:ByteArray))).map (fun x=>x.data.toList)=((A3D n).map A1Z).map (fun c=> [c]):=by simp[Function.comp_def]
    have hj:=Tryz.strings_Join g 0 cap ((A3D n).map (fun k=>(⟨[A1Z k].toArray⟩:ByteArray))) ⟨#[44]⟩ w1
     (fun j x hj=>by
      refine A3I hg ?_
      rw[V9];refine hcur j _ ?_
      rw[Y6]at hj |-;cases hjj:(A3D n)[j]? with
      |none=>rw[hjj]at hj;cases hj
      |some q=>rw[hjj]at hj;simp only[A1g,X4]at hj |-;subst hj;rfl)
     (A3n hg) (by rw[P7];omega) (by rw[P7];exact hcap)
     (by rw[hx];show (Lib.join _ [44]).length<=_;rw[B1Q];omega)
    rw[hx,P7]at hj;have e:Lib.join (((A3D n).map A1Z).map (fun c=> [c])) (⟨#[44]⟩:ByteArray).data.toList=A2q ((A3D n).map A1Z):=B1Q _;rw[e]at hj;refine(D0c hj).mono ?_
    rintro u w' ⟨rfl,hb⟩;exact⟨rfl,Kept.of_below hb⟩
  repeat' (first|refine A0r (hc:=by exact hjoin) (k:=?_);rintro _ w2 ⟨rfl,hk2⟩|refine X5 ?_ (h:=by simp only[D9,E9,List.length_nil];omega)|refine D8 ?_|refine D6 ?_|refine J8 ?_|refine E5 ?_|refine A7 ?_|refine H6 ?_|refine G9 ?_|refine E8 ?_|refine A8 ?_|refine O8 ?_|refine J3 ?_|refine J7 ?_|refine F7 ?_)
  exact⟨rfl,hkept.trans hk2⟩
end Go.Proofs
