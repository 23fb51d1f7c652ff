/- Own work: texts NmZ, Label, SpecFlow, SpecFlow2, FwCut, FwMap2, FwMap3, FwMapZ, FwMapY, FwRow2, one behind the other. -/
import Derived.Test.YtfjdfdgpkncpfaaGreatDoorQc9
import Derived.Maps.RangeRun
set_option maxHeartbeats 64000000
namespace Go.Sp
def B5Y (F:Itm->Bool) (its:List Itm):Int:=match its.findIdx? F with
 |some j=>(j:Int)
 |none=> -1
def A6h (its:List Itm) (k:Int) (n:List UInt8):Int:=match A0M its k n with
 |some j=>(j:Int)
 |none=> -1
theorem B66 {F:Itm->Bool}{its:List Itm}{k:Nat}{it:Itm} (h:its[k]?=some it) (hF:F it=true) (hb:∀j it',j<k->its[j]?=some it'->F it'=false):B5Y F its=k:=by
 have:its.findIdx? F=some k:=by
  rw[A1O];obtain⟨hk,e⟩:=Z8.1 h;refine⟨hk,by rw[e];exact hF,fun j hj=>?_⟩
  have:=hb j its[j] hj (G9 (by omega));rw[this];simp
 rw[B5Y,this]
theorem B4M {F:Itm->Bool}{its:List Itm} (hb:∀j it',j<its.length->its[j]?=some it'->F it'=false):B5Y F its= -1:=by
 have:its.findIdx? F=none:=by
  rw[A2S];intro x hx;obtain⟨j,hj,rfl⟩:=A2T hx;exact hb j _ hj (G9 hj)
 rw[B5Y,this]
end Go.Sp
namespace Go.Fw
open Go.Sp
open Go
section
variable {P:Program}{N:Nat}{ds:List Deferred}{Q:Exit->Act->World->Prop}{l:Log}{w:World}{ops:Array Oper}{os:List Oper}
variable {d:Nat}{ty:TypeId}{pos:String}{af:Array Edge}{g:Option (Nat×Bool)}{t:TypeId}{x y:Operand}{E:Ent}{I:U0}{H R G:List HItem}
theorem A8A {c:Operand}{f:FuncId} [Own P f] {xs:List Operand}{tys:Array TypeId}{vs ca:List Value}{Post:Value->U0->List HItem->Prop} (k:∀v I' H' w',Post v I' H'->Le I I'->Mem E I' (H'++R) w'->WL P N ds ops Q os ((d,v)::l) w') (hm:Mem E I G w)
  (hw:O8 ops l ⟨some d,.call ⟨.value c,xs.toArray,tys⟩,ty,pos,af,g⟩=some true:=by rfl) (hN:Nat.blt d N=true:=by rfl)
  (hf:ev l c=some (.func (.func f) #[] ca.toArray):=by rfl) (hx:evs l xs=some vs:=by rfl) (hp:G.Perm (H++R)) (hc:CalM P f (vs++ca).toArray I H Post)
   :
  WL P N ds ops Q (⟨some d,.call ⟨.value c,xs.toArray,tys⟩,ty,pos,af,g⟩::os) l w:=
 A5t hw hN hf hx (hc.run w (hm.perm hp).sub) (fun v w' ⟨I',H',h1,h2⟩=>k v I' H' w' h1 h2.le ((hm.perm hp).back h2))
theorem PtrI.sub {b off ty:Nat}{cs cs':List Value} (h:PtrI I b off ty cs) (k:Nat) (hs:∀j u,cs'[j]?=some u->cs[k+j]?=some u):PtrI I b (off+k) ty cs':=by
 obtain⟨c,fr,h1,h2⟩:=h;exact⟨c,fr,h1,fun j u hj=>by rw[A36];exact h2 _ _ (hs j u hj)⟩
theorem CalM.read {f:FuncId}{args:Array Value}{v:Value} (h:CalM P f args I [] (fun u _ H'=>u=v/\H'= [])):CalR P f args I [] v:=
 ⟨fun w hI _=>(h.run w (Mem.start hI)).mono (fun _ _ ⟨_,_,⟨h1,_⟩,h2⟩=>⟨h1,h2.kept⟩)⟩
end
end Go.Fw
namespace Go.Sp
def A6s (sc:List Lc) (n:List UInt8):Nat:=match A1e sc n with
 |some l=>l.at_
 |none=>0
def A37 (its:List Itm) (n:Nat) (x:Rf):Nat:=match A0M its 1 x.name with
 |some j=>n &&& (Z7 its j).label
 |none=>n
def A4n (its:List Itm) (l:List Rf):Nat:=l.foldl (A37 its) 255
def A3z (its:List Itm):List Nat:=its.map (fun it=>A4n its it.sends)
structure FW where
 ds:List Dg
 hv:Option Nat
def FW.tell (s:FW) (f t:Nat) (n:List UInt8):FW:= { s with ds:=s.ds++ [⟨f,t,9,n⟩]}
def FW.hit (s:FW) (at_:Int) (f t n:Nat):FW:=if s.hv=none/\(f:Int)<=at_/\at_<t then { s with hv:=some n} else s
def FW.ask (s:FW) (a b f t:Nat) (n:List UInt8):FW:=if A3f a b=true then s else s.tell f t n
def callLab (its:List Itm) (n:List UInt8):Nat:=match A0M its 2 n with
 |some j=>(Z7 its j).label
 |none=>0
def askFloor (its:List Itm) (un:Nat) (n:List UInt8) (f t:Nat) (s:FW):FW:=match A0M its 2 n with
 |some j=>s.ask un (A4n its (Z7 its j).sends) f t n
 |none=>s
def askArg (its:List Itm) (n:List UInt8) (i a f t:Nat) (s:FW):FW:=match A0M its 2 n with
 |some j=>match (Z7 its j).params[i]? with
  |some p=>s.ask a p.label f t p.name
  |none=>s
 |none=>s
mutual
def exF (its:List Itm) (at_:Int) (sc:List Lc) (un:Nat):Ex->FW->Nat×FW
 | .mk k nm _ args f t,s=>
  if k=2 then (A6s sc nm,s.hit at_ f t (A6s sc nm|||un)) else
  if k=3 then ((opsF its at_ sc un args 0 s).1,(opsF its at_ sc un args 0 s).2.hit at_ f t ((opsF its at_ sc un args 0 s).1|||un)) else
  if k=4 then (callLab its nm,(askFloor its un nm f t (argsF its at_ sc un nm args 0 s)).hit at_ f t (callLab its nm|||un)) else
  (0,s.hit at_ f t (0|||un))
def opsF (its:List Itm) (at_:Int) (sc:List Lc) (un:Nat):List Ex->Nat->FW->Nat×FW
 | [],n,s=>(n,s)
 |e::es,n,s=>opsF its at_ sc un es (n|||(exF its at_ sc un e s).1) (exF its at_ sc un e s).2
def argsF (its:List Itm) (at_:Int) (sc:List Lc) (un:Nat) (nm:List UInt8):List Ex->Nat->FW->FW
 | [],_,s=>s
 |e::es,i,s=>argsF its at_ sc un nm es (i+1) (askArg its nm i ((exF its at_ sc un e s).1|||un) e.fr e.to (exF its at_ sc un e s).2)
 end
mutual
def plainF (its:List Itm) (sc:List Lc):Ex->Nat
 | .mk k nm _ args _ _=>if k=2 then A6s sc nm else if k=3 then plainsF its sc args 0 else if k=4 then callLab its nm else 0
def plainsF (its:List Itm) (sc:List Lc):List Ex->Nat->Nat
 | [],n=>n
 |e::es,n=>plainsF its sc es (n|||plainF its sc e)
 end
def unF (its:List Itm) (sc:List Lc) (k un:Nat) (e:Ex):Nat:=if k=4 then plainF its sc e|||un else un
def askCh (its:List Itm) (a:Nat) (n:List UInt8) (f t:Nat) (s:FW):FW:=match A0M its 1 n with
 |some j=>s.ask a (Z7 its j).label f t n
 |none=>s
mutual
def stmF (its:List Itm) (own:Nat) (at_:Int):Stm->List Lc->Nat->FW->List Lc×FW
 | .mk k nm _ lb o e thn els f t,sc,un,s=>
  let un1:=unF its sc k un e
  let r:=exF its at_ sc un1 e s
  let a:=r.1|||un1
  if k=1 then (sc++ [⟨nm,if o=true then a else lb⟩],r.2.ask a (if o=true then a else lb) f t nm) else
  if k=2 then (sc,r.2.ask a (A6s sc nm) f t nm) else
  if k=5 then (sc,askCh its a nm f t r.2) else
  if k=6 then (sc,r.2.ask a own f t nm) else
  if k=3\/k=4 then (sc,(stmsF its own at_ els sc a (stmsF its own at_ thn sc a r.2).2).2) else (sc,r.2)
def stmsF (its:List Itm) (own:Nat) (at_:Int):List Stm->List Lc->Nat->FW->List Lc×FW
 | [],sc,_,s=>(sc,s)
 |x::xs,sc,un,s=>stmsF its own at_ xs (stmF its own at_ x sc un s).1 un (stmF its own at_ x sc un s).2
 end
def FW0:FW:=⟨[],none⟩
def A43 (l:List Par):List Lc:=l.map (fun p=>⟨p.name,p.label⟩)
def A3H (its:List Itm) (i:Nat) (at_:Int):FW:=
 if (Z7 its i).kind=2 then (stmsF its (Z7 its i).label at_ (Z7 its i).body (A43 (Z7 its i).params) 0 FW0).2 else FW0
def B3x (its:List Itm):Prop:= ∀i,i<its.length->(A3H its i (-1)).ds= []
theorem B19 (its:List Itm) (at_:Int) (sc:List Lc) (un:Nat):∀(l r:List Ex) (n:Nat) (s:FW),opsF its at_ sc un (l++r) n s=opsF its at_ sc un r (opsF its at_ sc un l n s).1 (opsF its at_ sc un l n s).2
 | [],r,n,s=>by rw[Y5,opsF]
 |e::l,r,n,s=>by rw[A0a,opsF,opsF,B19 its at_ sc un l r]
theorem B46 (its:List Itm) (at_:Int) (sc:List Lc) (un:Nat) {l:List Ex}{k:Nat}{e:Ex} (h:l[k]?=some e) (n:Nat) (s:FW):
  opsF its at_ sc un (l.take (k+1)) n s=((opsF its at_ sc un (l.take k) n s).1|||(exF its at_ sc un e (opsF its at_ sc un (l.take k) n s).2).1,(exF its at_ sc un e (opsF its at_ sc un (l.take k) n s).2).2):=by
 rw[X0 h,B19,opsF,opsF]
theorem A9D (its:List Itm) (at_:Int) (sc:List Lc) (un:Nat) (nm:List UInt8):∀(l r:List Ex) (i:Nat) (s:FW),argsF its at_ sc un nm (l++r) i s=argsF its at_ sc un nm r (i+l.length) (argsF its at_ sc un nm l i s)
 | [],r,i,s=>by rw[Y5,argsF];rfl
 |e::l,r,i,s=>by rw[A0a,argsF,argsF,A9D its at_ sc un nm l r,X8,show i+1+l.length=i+(l.length+1) by omega]
theorem B2J (its:List Itm) (at_:Int) (sc:List Lc) (un:Nat) (nm:List UInt8) {l:List Ex}{k:Nat}{e:Ex} (h:l[k]?=some e) (s:FW):
  argsF its at_ sc un nm (l.take (k+1)) 0 s=askArg its nm k ((exF its at_ sc un e (argsF its at_ sc un nm (l.take k) 0 s)).1|||un) e.fr e.to (exF its at_ sc un e (argsF its at_ sc un nm (l.take k) 0 s)).2:=by
 have hk:=(Z8.1 h).1;rw[X0 h,A9D,argsF,argsF,Y9,A19 (by omega),Y6]
theorem A8j (its:List Itm) (sc:List Lc):∀(l r:List Ex) (n:Nat),plainsF its sc (l++r) n=plainsF its sc r (plainsF its sc l n)
 | [],r,n=>by rw[Y5,plainsF]
 |e::l,r,n=>by rw[A0a,plainsF,plainsF,A8j its sc l r]
theorem A7E (its:List Itm) (sc:List Lc) {l:List Ex}{k:Nat}{e:Ex} (h:l[k]?=some e) (n:Nat):plainsF its sc (l.take (k+1)) n=plainsF its sc (l.take k) n|||plainF its sc e:=by
 rw[X0 h,A8j,plainsF,plainsF]
theorem B0a (its:List Itm) (own:Nat) (at_:Int):∀(l r:List Stm) (sc:List Lc) (un:Nat) (s:FW),stmsF its own at_ (l++r) sc un s=stmsF its own at_ r (stmsF its own at_ l sc un s).1 un (stmsF its own at_ l sc un s).2
 | [],r,sc,un,s=>by rw[Y5,stmsF]
 |e::l,r,sc,un,s=>by rw[A0a,stmsF,stmsF,B0a its own at_ l r]
theorem B3z (its:List Itm) (own:Nat) (at_:Int) {l:List Stm}{k:Nat}{x:Stm} (h:l[k]?=some x) (sc:List Lc) (un:Nat) (s:FW):
  stmsF its own at_ (l.take (k+1)) sc un s=stmF its own at_ x (stmsF its own at_ (l.take k) sc un s).1 un (stmsF its own at_ (l.take k) sc un s).2:=by
 rw[X0 h,B0a,stmsF,stmsF]
theorem A69 (s:FW) (at_:Int) (f t n:Nat):(s.hit at_ f t n).ds=s.ds:=by rw[FW.hit];split<;>rfl
theorem A7q (s:FW) (a b f t:Nat) (n:List UInt8):s.ds.length<=(s.ask a b f t n).ds.length/\(s.ask a b f t n).ds.length<=s.ds.length+1:=by
 rw[FW.ask];split
 ·omega
 ·simp[FW.tell]
theorem A8L (its:List Itm) (un:Nat) (n:List UInt8) (f t:Nat) (s:FW):s.ds.length<=(askFloor its un n f t s).ds.length/\(askFloor its un n f t s).ds.length<=s.ds.length+1:=by
 rw[askFloor];split
 ·exact A7q _ _ _ _ _ _
 ·omega
theorem B3U (its:List Itm) (a:Nat) (n:List UInt8) (f t:Nat) (s:FW):s.ds.length<=(askCh its a n f t s).ds.length/\(askCh its a n f t s).ds.length<=s.ds.length+1:=by
 rw[askCh];split
 ·exact A7q _ _ _ _ _ _
 ·omega
theorem B1m (its:List Itm) (n:List UInt8) (i a f t:Nat) (s:FW):s.ds.length<=(askArg its n i a f t s).ds.length/\(askArg its n i a f t s).ds.length<=s.ds.length+1:=by
 rw[askArg];split
 ·split
  ·exact A7q _ _ _ _ _ _
  ·omega
 ·omega
mutual
theorem A8O (its:List Itm) (at_:Int) (sc:List Lc) (un:Nat):∀(e:Ex) (s:FW),s.ds.length<=(exF its at_ sc un e s).2.ds.length/\(exF its at_ sc un e s).2.ds.length+1<=s.ds.length+2 *e.cnt
 | .mk k nm n args f t,s=>by
  rw[exF,Ex.cnt];have h1:=B0K its at_ sc un args 0 s;have h2:=A7p its at_ sc un nm args 0 s;have h3:=A8L its un nm f t (argsF its at_ sc un nm args 0 s);split
  ·dsimp only;rw[A69];omega
  ·split
   ·dsimp only;rw[A69];omega
   ·split
    ·dsimp only;rw[A69];omega
    ·dsimp only;rw[A69];omega
theorem B0K (its:List Itm) (at_:Int) (sc:List Lc) (un:Nat):∀(l:List Ex) (n:Nat) (s:FW),s.ds.length<=(opsF its at_ sc un l n s).2.ds.length/\(opsF its at_ sc un l n s).2.ds.length<=s.ds.length+2 *A0Y l
 | [],n,s=>by rw[opsF,A0Y];exact⟨by dsimp only;omega,by dsimp only;omega⟩
 |e::l,n,s=>by
  rw[opsF,A0Y];have h1:=A8O its at_ sc un e s;have h2:=B0K its at_ sc un l (n|||(exF its at_ sc un e s).1) (exF its at_ sc un e s).2;omega
theorem A7p (its:List Itm) (at_:Int) (sc:List Lc) (un:Nat) (nm:List UInt8):∀(l:List Ex) (i:Nat) (s:FW),s.ds.length<=(argsF its at_ sc un nm l i s).ds.length/\(argsF its at_ sc un nm l i s).ds.length<=s.ds.length+2 *A0Y l
 | [],i,s=>by rw[argsF,A0Y];omega
 |e::l,i,s=>by
  rw[argsF,A0Y];have h1:=A8O its at_ sc un e s;have h3:=B1m its nm i ((exF its at_ sc un e s).1|||un) e.fr e.to (exF its at_ sc un e s).2;have h2:=A7p its at_ sc un nm l (i+1) (askArg its nm i ((exF its at_ sc un e s).1|||un) e.fr e.to (exF its at_ sc un e s).2);omega
 end
mutual
theorem B8C (its:List Itm) (own:Nat) (at_:Int):∀(x:Stm) (sc:List Lc) (un:Nat) (s:FW),s.ds.length<=(stmF its own at_ x sc un s).2.ds.length/\(stmF its own at_ x sc un s).2.ds.length<=s.ds.length+2 *x.cnt/\
   sc.length<=(stmF its own at_ x sc un s).1.length/\(stmF its own at_ x sc un s).1.length<=sc.length+1
 | .mk k nm a lb o e thn els f t,sc,un,s=>by
  rw[stmF,Stm.cnt];try dsimp only
  generalize unF its sc k un e=un1;have h1:=A8O its at_ sc un1 e s;generalize exF its at_ sc un1 e s=r at h1 |-;have h2:=A7q r.2 (r.1|||un1) (if o=true then r.1|||un1 else lb) f t nm;have h3:=A7q r.2 (r.1|||un1) (A6s sc nm) f t nm;have h4:=A7q r.2 (r.1|||un1) own f t nm;have h5:=B3U its (r.1|||un1) nm f t r.2;have h6:=A4u its own at_ thn sc (r.1|||un1) r.2;have h7:=A4u its own at_ els sc (r.1|||un1) (stmsF its own at_ thn sc (r.1|||un1) r.2).2;split
  ·dsimp only;rw[Y4,List.length_singleton];omega
  ·split
   ·dsimp only;omega
   ·split
    ·dsimp only;omega
    ·split
     ·dsimp only;omega
     ·split
      ·dsimp only;omega
      ·dsimp only;omega
theorem A4u (its:List Itm) (own:Nat) (at_:Int):∀(l:List Stm) (sc:List Lc) (un:Nat) (s:FW),s.ds.length<=(stmsF its own at_ l sc un s).2.ds.length/\(stmsF its own at_ l sc un s).2.ds.length<=s.ds.length+2 *P6 l/\
   sc.length<=(stmsF its own at_ l sc un s).1.length/\(stmsF its own at_ l sc un s).1.length<=sc.length+l.length
 | [],sc,un,s=>by rw[stmsF,P6];exact⟨by dsimp only;omega,by dsimp only;omega,by dsimp only;omega,by dsimp only;simp⟩
 |x::l,sc,un,s=>by
  rw[stmsF,P6,X8];have h1:=B8C its own at_ x sc un s;have h2:=A4u its own at_ l (stmF its own at_ x sc un s).1 un (stmF its own at_ x sc un s).2;omega
 end
theorem B6z (its:List Itm) (own:Nat) (at_:Int) (x:Stm) (sc:List Lc) (un:Nat) (s:FW):sc<+:(stmF its own at_ x sc un s).1:=by
 cases x with
 |mk k nm a lb o e thn els f t=>
 rw[stmF];try dsimp only
 split
 ·exact List.prefix_append _ _
 ·split
  ·exact A1T _
  ·split
   ·exact A1T _
   ·split
    ·exact A1T _
    ·split<;>exact A1T _
theorem B0c (its:List Itm) (own:Nat) (at_:Int):∀(l:List Stm) (sc:List Lc) (un:Nat) (s:FW),sc<+:(stmsF its own at_ l sc un s).1
 | [],sc,un,s=>by rw[stmsF];exact A1T _
 |x::l,sc,un,s=>by rw[stmsF];exact(B6z its own at_ x sc un s).trans (B0c its own at_ l _ _ _)
theorem B3y (its:List Itm) (own:Nat) (at_:Int) (l:List Stm) (sc:List Lc) (un:Nat) (s:FW):(stmsF its own at_ l sc un s).1.take sc.length=sc:=
 (List.prefix_iff_eq_take.1 (B0c its own at_ l sc un s)).symm
def A3x (sc:List Lc):Prop:= ∀l∈sc,l.at_<256
def A2o (its:List Itm):Prop:= ∀it∈its,it.label<256/\∀p∈it.params,p.label<256
theorem B0r {sc:List Lc} (h:A3x sc) (n:List UInt8):A6s sc n<256:=by
 rw[A6s];split
 ·rename_i l hl
  exact h l (A64 hl).1
 ·omega
theorem A2F {its:List Itm}{k:Int}{n:List UInt8}{j:Nat} (h:A0M its k n=some j):j<its.length/\((Z7 its j).kind:Int)=k/\(Z7 its j).name=n/\n≠ []/\Z7 its j∈its:=by
 obtain⟨h1,h2,_⟩:=A1O.1 h;have e:Z7 its j=its[j]:=by rw[Z7,U2,G9 h1];rfl
 rw[e];simp only[A7A,Q7,decide_eq_true_eq]at h2;exact⟨h1,h2.1,h2.2.1,h2.2.2,Q8 h1⟩
theorem A8M {its:List Itm} (h:A2o its) (n:List UInt8):callLab its n<256:=by
 rw[callLab];split
 ·rename_i j hj
  exact(h _ (A2F hj).2.2.2.2).1
 ·omega
mutual
theorem A7S {its:List Itm} (h:A2o its) (at_:Int) {sc:List Lc} (hs:A3x sc) (un:Nat):∀(e:Ex) (s:FW),(exF its at_ sc un e s).1<256
 | .mk k nm n args f t,s=>by
  rw[exF];split
  ·exact B0r hs _
  ·split
   ·exact B0J h at_ hs un args 0 s (by omega)
   ·split
    ·exact A8M h _
    ·dsimp only;omega
theorem B0J {its:List Itm} (h:A2o its) (at_:Int) {sc:List Lc} (hs:A3x sc) (un:Nat):∀(l:List Ex) (n:Nat) (s:FW),n<256->(opsF its at_ sc un l n s).1<256
 | [],n,s,hn=>by rw[opsF];exact hn
 |e::l,n,s,hn=>by rw[opsF];exact B0J h at_ hs un l _ _ (A6W hn (A7S h at_ hs un e s))
 end
mutual
theorem A3w {its:List Itm} (h:A2o its) {sc:List Lc} (hs:A3x sc):∀(e:Ex),plainF its sc e<256
 | .mk k nm n args f t=>by
  rw[plainF];split
  ·exact B0r hs _
  ·split
   ·exact A51 h hs args 0 (by omega)
   ·split
    ·exact A8M h _
    ·omega
theorem A51 {its:List Itm} (h:A2o its) {sc:List Lc} (hs:A3x sc):∀(l:List Ex) (n:Nat),n<256->plainsF its sc l n<256
 | [],n,hn=>by rw[plainsF];exact hn
 |e::l,n,hn=>by rw[plainsF];exact A51 h hs l _ (A6W hn (A3w h hs e))
 end
theorem B1S (its:List Itm) (l:List Rf):A4n its l<256:=by
 have key:∀(l:List Rf) (n:Nat),n<256->l.foldl (A37 its) n<256:=by
  intro l;induction l with
  |nil=>intro n h;exact h
  |cons x l ih=>
   intro n h;rw[A1q];refine ih _ ?_
   rw[A37];split
   ·exact B5w h
   ·exact h
 exact key l 255 (by omega)
theorem B6F {its:List Itm} (h:A2o its) {sc:List Lc} (hs:A3x sc) (k:Nat) {un:Nat} (hu:un<256) (e:Ex):unF its sc k un e<256:=by
 rw[unF];split
 ·exact A6W (A3w h hs e) hu
 ·exact hu
theorem B3w {sc:List Lc} (h:A3x sc) {n:List UInt8}{a:Nat} (ha:a<256):A3x (sc++ [⟨n,a⟩]):=fun l hl=>by
 rcases A0T.1 hl with hl|hl
 ·exact h l hl
 ·obtain rfl:=A1R.1 hl
  exact ha
theorem B6y {its:List Itm} (h:A2o its) (own:Nat) (at_:Int) (x:Stm) {sc:List Lc} (hs:A3x sc) {un:Nat} (hu:un<256) (hx:x.label<256) (s:FW):A3x (stmF its own at_ x sc un s).1:=by
 cases x with
 |mk k nm a lb o e thn els f t=>
 rw[stmF];try dsimp only
 have h1:=B6F h hs k hu e;generalize unF its sc k un e=un1 at h1 |-;have h2:=A7S h at_ hs un1 e s;split
 ·refine B3w hs ?_
  split
  ·exact A6W h2 h1
  ·exact hx
 ·split
  ·exact hs
  ·split
   ·exact hs
   ·split
    ·exact hs
    ·split<;>exact hs
theorem B48 {its:List Itm} (h:A2o its) {it:Itm} (hi:it∈its):A3x (A43 it.params):=fun l hl=>by
 obtain⟨p,hp,rfl⟩:=A1w.1 hl;exact(h it hi).2 p hp
theorem A8V {its:List Itm}{i:Nat} (h:i<its.length):Z7 its i∈its:=by
 rw[Z7,U2,G9 h];exact Q8 h
theorem A2P {its:List Itm}{i:Nat} (h:i<its.length):its[i]?=some (Z7 its i):=by
 rw[Z7,U2,G9 h];rfl
structure Up (its its':List Itm):Prop where
 len:its'.length=its.length
 kind:∀j,(Z7 its' j).kind=(Z7 its j).kind
 name:∀j,(Z7 its' j).name=(Z7 its j).name
 params:∀j,(Z7 its' j).params=(Z7 its j).params
 sends:∀j,(Z7 its' j).sends=(Z7 its j).sends
 body:∀j,(Z7 its' j).body=(Z7 its j).body
 own:∀j,(Z7 its j).kind≠1->(Z7 its' j).label=(Z7 its j).label
 up:∀j a,A3f a (Z7 its j).label=true->A3f a (Z7 its' j).label=true
theorem Up.find {its its':List Itm} (h:Up its its') (k:Int) (n:List UInt8):A0M its' k n=A0M its k n:=by
 have e:∀j (h1:j<its'.length) (h2:j<its.length),A7A k n its'[j]=A7A k n its[j]:=fun j h1 h2=>by
  have a1:=h.kind j;have a2:=h.name j;have e1:Z7 its' j=its'[j]:=by have:=A2P h1;rw[G9 h1]at this;exact(A1g this).symm
  have e2:Z7 its j=its[j]:=by have:=A2P h2;rw[G9 h2]at this;exact(A1g this).symm
  rw[e1,e2]at a1 a2;rw[A7A,A7A,a1,a2]
 have hl:=h.len;rw[A0M,A0M];cases hf:its.findIdx? (A7A k n) with
 |none=>
  rw[A2S]at hf |-;intro x hx;obtain⟨j,hj,rfl⟩:=A2T hx;rw[e j hj (by omega)];exact hf _ (Q8 _)
 |some j=>
  rw[A1O]at hf |-;obtain⟨h1,h2,h3⟩:=hf;exact⟨by omega,by rw[e j (by omega) h1];exact h2,fun i hi=>by rw[e i (by omega) (by omega)];exact h3 i hi⟩
theorem Up.callLab {its its':List Itm} (h:Up its its') (n:List UInt8):callLab its' n=callLab its n:=by
 rw[Sp.callLab,Sp.callLab,h.find];split
 ·rename_i j hj
  exact h.own j (by have:=(A2F hj).2.1;omega)
 ·rfl
theorem Up.meet {its its':List Itm} (h:Up its its') (l:List Rf) (a:Nat) (hf:A3f a (A4n its l)=true):A3f a (A4n its' l)=true:=by
 have key:∀(l:List Rf) (n n':Nat),(A3f a n=true->A3f a n'=true)->A3f a (l.foldl (A37 its) n)=true->A3f a (l.foldl (A37 its') n')=true:=by
  intro l;induction l with
  |nil=>intro n n' h1 h2;exact h1 h2
  |cons x l ih=>
   intro n n' h1 h2;rw[A1q]at h2 |-;refine ih _ _ (fun h3=>?_) h2
   rw[A37]at h3 |-;rw[h.find];cases hx:A0M its 1 x.name with
   |none=>rw[hx]at h3;exact h1 h3
   |some j=>
    rw[hx]at h3;dsimp only at h3 |-;rw[B4K,Q7]at h3 |-;exact⟨h1 h3.1,h.up j a h3.2⟩
 exact key l 255 255 id hf
theorem B5y {s:FW}{a b b' f t:Nat}{n:List UInt8} (h:A3f a b=true->A3f a b'=true) (h0:(s.ask a b f t n).ds= []):s.ask a b' f t n=s.ask a b f t n:=by
 rw[FW.ask]at h0 |-;rw[FW.ask];split at h0
 ·rename_i hf;rw[if_pos (h hf),if_pos hf]
 ·simp[FW.tell]at h0
theorem A4Q {α:Type}{l r:List α} (h:l.length<=r.length) (h0:r= []):l= []:=by
 rw[h0]at h;exact List.length_eq_zero_iff.1 (by simpa using h)
theorem Up.askFloor {its its':List Itm} (h:Up its its') (un:Nat) (n:List UInt8) (f t:Nat) (s:FW) (h0:(askFloor its un n f t s).ds= []):askFloor its' un n f t s=askFloor its un n f t s:=by
 rw[Sp.askFloor]at h0 |-;rw[Sp.askFloor,h.find];split
 ·rename_i j hj
  rw[hj]at h0;rw[h.sends];exact B5y (h.meet _ _) h0
 ·rfl
theorem Up.askArg {its its':List Itm} (h:Up its its') (n:List UInt8) (i a f t:Nat) (s:FW):askArg its' n i a f t s=askArg its n i a f t s:=by
 rw[Sp.askArg,Sp.askArg,h.find];split
 ·rw[h.params]
 ·rfl
theorem Up.askCh {its its':List Itm} (h:Up its its') (a:Nat) (n:List UInt8) (f t:Nat) (s:FW) (h0:(askCh its a n f t s).ds= []):askCh its' a n f t s=askCh its a n f t s:=by
 rw[Sp.askCh]at h0 |-;rw[Sp.askCh,h.find];split
 ·rename_i j hj
  rw[hj]at h0;exact B5y (h.up j a) h0
 ·rfl
mutual
theorem Up.exF {its its':List Itm} (h:Up its its') (at_:Int) (sc:List Lc) (un:Nat):∀(e:Ex) (s:FW),(Sp.exF its at_ sc un e s).2.ds= []->Sp.exF its' at_ sc un e s=Sp.exF its at_ sc un e s
 | .mk k nm n args f t,s,h0=>by
  rw[Sp.exF]at h0 |-;rw[Sp.exF,h.callLab];split
  ·rfl
  ·rename_i hk
   rw[if_neg hk]at h0;split
   ·rename_i hk3
    rw[if_pos hk3]at h0;dsimp only at h0;rw[A69]at h0;rw[Up.opsF h at_ sc un args 0 s h0]
   ·rename_i hk3
    rw[if_neg hk3]at h0;split
    ·rename_i hk4
     rw[if_pos hk4]at h0;dsimp only at h0;rw[A69]at h0;have h1:=A4Q (A8L its un nm f t (Sp.argsF its at_ sc un nm args 0 s)).1 h0;rw[Up.argsF h at_ sc un nm args 0 s h1,h.askFloor un nm f t _ h0]
    ·rfl
theorem Up.opsF {its its':List Itm} (h:Up its its') (at_:Int) (sc:List Lc) (un:Nat):∀(l:List Ex) (n:Nat) (s:FW),(Sp.opsF its at_ sc un l n s).2.ds= []->Sp.opsF its' at_ sc un l n s=Sp.opsF its at_ sc un l n s
 | [],n,s,h0=>by rw[Sp.opsF,Sp.opsF]
 |e::l,n,s,h0=>by
  rw[Sp.opsF]at h0 |-;rw[Sp.opsF];have h1:=A4Q (B0K its at_ sc un l (n|||(Sp.exF its at_ sc un e s).1) (Sp.exF its at_ sc un e s).2).1 h0;rw[Up.exF h at_ sc un e s h1];exact Up.opsF h at_ sc un l _ _ h0
theorem Up.argsF {its its':List Itm} (h:Up its its') (at_:Int) (sc:List Lc) (un:Nat) (nm:List UInt8):∀(l:List Ex) (i:Nat) (s:FW),(Sp.argsF its at_ sc un nm l i s).ds= []->Sp.argsF its' at_ sc un nm l i s=Sp.argsF its at_ sc un nm l i s
 | [],i,s,h0=>by rw[Sp.argsF,Sp.argsF]
 |e::l,i,s,h0=>by
  rw[Sp.argsF]at h0 |-;rw[Sp.argsF];have h1:=A4Q (A7p its at_ sc un nm l (i+1) _).1 h0;have h2:=A4Q (B1m its nm i ((Sp.exF its at_ sc un e s).1|||un) e.fr e.to (Sp.exF its at_ sc un e s).2).1 h1;rw[Up.exF h at_ sc un e s h2,h.askArg];exact Up.argsF h at_ sc un nm l _ _ h0
 end
mutual
theorem Up.plainF {its its':List Itm} (h:Up its its') (sc:List Lc):∀(e:Ex),Sp.plainF its' sc e=Sp.plainF its sc e
 | .mk k nm n args f t=>by rw[Sp.plainF,Sp.plainF,h.callLab,Up.plainsF h sc args 0]
theorem Up.plainsF {its its':List Itm} (h:Up its its') (sc:List Lc):∀(l:List Ex) (n:Nat),Sp.plainsF its' sc l n=Sp.plainsF its sc l n
 | [],n=>by rw[Sp.plainsF,Sp.plainsF]
 |e::l,n=>by rw[Sp.plainsF,Sp.plainsF,Up.plainF h sc e,Up.plainsF h sc l]
 end
mutual
theorem Up.stmF {its its':List Itm} (h:Up its its') (own:Nat) (at_:Int):∀(x:Stm) (sc:List Lc) (un:Nat) (s:FW),(Sp.stmF its own at_ x sc un s).2.ds= []->Sp.stmF its' own at_ x sc un s=Sp.stmF its own at_ x sc un s
 | .mk k nm a lb o e thn els f t,sc,un,s,h0=>by
  have hu:unF its' sc k un e=unF its sc k un e:=by rw[unF,unF,h.plainF]
  rw[Sp.stmF]at h0 |-;rw[Sp.stmF,hu];try dsimp only at h0 |-
  generalize unF its sc k un e=un1 at h0 |-;have he:=Up.exF h at_ sc un1 e s;have hn:=A8O its at_ sc un1 e s;split
  ·rename_i k1
   rw[if_pos k1]at h0;dsimp only at h0;rw[he (A4Q (A7q _ _ _ _ _ _).1 h0)]
  ·rename_i k1
   rw[if_neg k1]at h0;split
   ·rename_i k2
    rw[if_pos k2]at h0;dsimp only at h0;rw[he (A4Q (A7q _ _ _ _ _ _).1 h0)]
   ·rename_i k2
    rw[if_neg k2]at h0;split
    ·rename_i k5
     rw[if_pos k5]at h0;dsimp only at h0;rw[he (A4Q (B3U _ _ _ _ _ _).1 h0),h.askCh _ _ _ _ _ h0]
    ·rename_i k5
     rw[if_neg k5]at h0;split
     ·rename_i k6
      rw[if_pos k6]at h0;dsimp only at h0;rw[he (A4Q (A7q _ _ _ _ _ _).1 h0)]
     ·rename_i k6
      rw[if_neg k6]at h0;split
      ·rename_i k3
       rw[if_pos k3]at h0;dsimp only at h0;have h1:=A4Q (A4u its own at_ els sc _ _).1 h0;have h2:=A4Q (A4u its own at_ thn sc _ _).1 h1;rw[he h2,Up.stmsF h own at_ thn sc _ _ h1,Up.stmsF h own at_ els sc _ _ h0]
      ·rename_i k3
       rw[if_neg k3]at h0;dsimp only at h0;rw[he h0]
theorem Up.stmsF {its its':List Itm} (h:Up its its') (own:Nat) (at_:Int):∀(l:List Stm) (sc:List Lc) (un:Nat) (s:FW),(Sp.stmsF its own at_ l sc un s).2.ds= []->Sp.stmsF its' own at_ l sc un s=Sp.stmsF its own at_ l sc un s
 | [],sc,un,s,h0=>by rw[Sp.stmsF,Sp.stmsF]
 |x::l,sc,un,s,h0=>by
  rw[Sp.stmsF]at h0 |-;rw[Sp.stmsF];have h1:=A4Q (A4u its own at_ l (Sp.stmF its own at_ x sc un s).1 un (Sp.stmF its own at_ x sc un s).2).1 h0;rw[Up.stmF h own at_ x sc un s h1];exact Up.stmsF h own at_ l _ _ _ h0
 end
end Go.Sp
namespace Go.Fw
open Go.Sp
open Go
theorem B4d {w:World}{base e sz n m cp:Nat}{a:Option Addr}{xs:List Value} (ho:w.ownsRow base e sz (.slice a n cp) n xs) (hmn:m<=n):
  w.ownsRow base e sz (.slice a m cp) m (xs.take (m *sz))/\n<=cp/\(a=none\/∃g,a=some ⟨g,0,none⟩):=by
 have h0:=ho.1;have hle:m *sz<=n *sz:=A3K _ hmn;have hlen:(xs.take (m *sz)).length=m *sz:=by rw[Y9];omega
 rcases ho.2 with ⟨hv,hn⟩|⟨g,cap,cur,hv,hb,hg,hc,hcm,hs,ht⟩
 ·obtain⟨rfl,rfl,rfl⟩:=Value.slice.inj hv
  obtain rfl:m=0:=by omega
  exact⟨⟨hlen,.inl ⟨rfl,rfl⟩⟩,H6 _,.inl rfl⟩
 ·obtain⟨rfl,_,rfl⟩:=Value.slice.inj hv
  refine⟨⟨hlen,.inr ⟨g,cp,cur,rfl,hb,hg,by omega,hcm,hs,?_⟩⟩,hc,.inr ⟨g,rfl⟩⟩
  rw[<-ht,A3u,A19 hle]
section
variable {P:Program}{N:Nat}{ds:List Deferred}{Q:Exit->Act->World->Prop}{l:Log}{w:World}{ops:Array Oper}{os:List Oper}
variable {d:Nat}{ty:TypeId}{pos:String}{af:Array Edge}{g:Option (Nat×Bool)}{t:TypeId}{x y:Operand}{E:Ent}{I:U0}{H:List HItem}
theorem A71 {e:TypeId}{sz by_:Nat} [TySlice P t e] [Elem P e sz by_] {i n m cp:Nat}{a:Option Addr}{xs:List Value} (k:Mem E I (H.set i (.row (.slice a m cp) e sz m (xs.take (m *sz)))) w->WL P N ds ops Q os ((d,.slice a m cp)::l) w) (hm:Mem E I H w)
  (hw:O8 ops l ⟨some d,.slice t x none (some y) none,ty,pos,af,g⟩=some true:=by rfl) (hN:Nat.blt d N=true:=by rfl)
  (hx:ev l x=some (.slice a n cp):=by rfl) (hy:ev l y=some (.int .i64 (m:Int)):=by rfl) (hi:H[i]?=some (.row (.slice a n cp) e sz n xs):=by first|exact gt0|exact gt1|exact gt2|exact gt3|exact gt4|exact gt5|exact gt6) (hmn:m<=n)
   :
  WL P N ds ops Q (⟨some d,.slice t x none (some y) none,ty,pos,af,g⟩::os) l w:=by
 obtain⟨h1,h2,h3⟩:=B4d (hm.ok _ (A0s hi)) hmn;have hm':=hm.turn (h':=.row (.slice a m cp) e sz m (xs.take (m *sz))) hi (Kept.refl _ w) h1 (.inl (by rcases a with _|a<;>rfl));refine O9 (w':=w) (v:=.slice a m cp) rfl hw hN (fun c hc=>?_) (k hm')
 obtain⟨inf,z,hinf,_,hs,_,_,_⟩:=Elem.out (P:=P) (e:=e);have h6:=run_underlying (P:=P) (w:=w) (TySlice.out (P:=P) (t:=t));have h7:m<=cp:=by omega
 rcases h3 with rfl|⟨g,rfl⟩
 ·simp[execOp,Instr.sliceAt,Instr.slice,Instr.sliceBounds,Instr.sliceBound,hc.ev hx,hc.ev hy,h6,asIntOf,h7,sizeOf,typeInfo,hinf]
 ·simp[execOp,Instr.sliceAt,Instr.slice,Instr.sliceBounds,Instr.sliceBound,hc.ev hx,hc.ev hy,h6,asIntOf,h7,sizeOf,typeInfo,hinf,Addr.add_lit]
end
def B59 (es:A3G) (s:List UInt8) (v:Value):A3G:=match es.findIdx? (fun p=>decide (p.1=s)) with
 |some i=>es.set i (s,v)
 |none=>es++ [(s,v)]
theorem B3d {es:A3G}{s:List UInt8}{v:Value} (h:(es.map (·.1)).Nodup):((B59 es s v).map (·.1)).Nodup:=by
 rw[B59];cases hf:es.findIdx? (fun p=>decide (p.1=s)) with
 |some i=>
  obtain⟨hi,hs,_⟩:=A1O.1 hf;have hs':es[i].1=s:=by simpa using hs
  have:(es.set i (s,v)).map (·.1)=es.map (·.1):=by
   apply A4L
   intro j;simp only[A2v,A2w];split
   ·rename_i h
    subst h;rw[G9 hi];simp[hs']
   ·rfl
  dsimp only
  rw[this];exact h
 |none=>
  dsimp only
  rw[A1I,A4M];refine⟨h,by simp,fun a h1 b h2=>?_⟩
  simp only[Y2,List.map_nil,A1R]at h2;subst h2;rintro rfl;obtain⟨p,hp,hps⟩:=A1w.1 h1;have:=A2S.1 hf p hp;simp[hps]at this
section
variable {P:Program}{N:Nat}{ds:List Deferred}{Q:Exit->Act->World->Prop}{l:Log}{w:World}{ops:Array Oper}{os:List Oper}
variable {d:Nat}{ty:TypeId}{pos:String}{af:Array Edge}{g:Option (Nat×Bool)}{t t':TypeId}{x y z:Operand}{E:Ent}{I:U0}{H:List HItem}
end
def A4p (es:A3G) (s:List UInt8):Option Value:=(es.find? (fun p=>decide (p.1=s))).map (·.2)
theorem B0B:∀ {es:A3G}{j:Nat}{u:List UInt8}{v:Value},(es.map (·.1)).Nodup->es[j]?=some (u,v)->A4p es u=some v
 | [],j,u,v,_,h=>by simp at h
 |(a,c)::es,0,u,v,_,h=>by
  simp only[A0S,U5,Prod.mk.injEq]at h;obtain⟨rfl,rfl⟩:=h;simp[A4p]
 |(a,c)::es,j+1,u,v,hn,h=>by
  rw[A0E]at h;rw[Y2,A4O]at hn;have hne:a≠u:=by
   rintro rfl;exact hn.1 (A3O (f:=(·.1)) (A0s h))
  have ih:=B0B hn.2 h;simp only[A4p]at ih |-;rw[A2y,decide_eq_false hne];exact ih
theorem A9X:∀ {es:A3G}{u:List UInt8}{v:Value},A4p es u=some v->∃j:Nat,es[j]?=some (u,v)
 | [],u,v,h=>by cases h
 |(a,c)::es,u,v,h=>by
  simp only[A4p]at h;rw[A2y]at h;by_cases e:a=u
  ·rw[decide_eq_true e]at h
   simp only[A4N,U5]at h;subst e;subst h;exact⟨0,rfl⟩
  ·rw[decide_eq_false e]at h
   obtain⟨j,hj⟩:=A9X (es:=es) h;exact⟨j+1,by rw[A0E];exact hj⟩
theorem B42 {es:A3G}{u:List UInt8} (h:A4p es u=none) {j:Nat}{p:List UInt8×Value} (hj:es[j]?=some p):p.1≠u:=by
 rintro rfl;simp only[A4p,A4H,List.find?_eq_none]at h;have:=h p (A0s hj);simp at this
theorem B1T {es:A3G}{s:List UInt8}{v:Value} (n:List UInt8) (h:A4p es s=none):A4p (es++ [(s,v)]) n=if n=s then some v else A4p es n:=by
 simp only[A4p]at h |-;rw[List.find?_append];by_cases e:n=s
 ·subst e
  rw[if_pos rfl,A4H.1 h];simp
 ·rw[if_neg e]
  cases hf:es.find? (fun p=>decide (p.1=n)) with
  |some p=>rfl
  |none=>simp[Ne.symm e]
theorem B1U:∀ {es:A3G}{i:Nat}{s:List UInt8}{v:Value} (n:List UInt8),(es.map (·.1)).Nodup->(∃c,es[i]?=some (s,c))->A4p (es.set i (s,v)) n=if n=s then some v else A4p es n
 | [],i,s,v,n,_,h=>by obtain⟨_,h⟩:=h;simp at h
 |(a,c)::es,0,s,v,n,_,h=>by
  obtain⟨_,h⟩:=h;simp only[A0S,U5,Prod.mk.injEq]at h;obtain⟨rfl,_⟩:=h;simp only[A4p,A5R,A2y];by_cases e:n=a
  ·subst e;simp
  ·rw[if_neg e,decide_eq_false (Ne.symm e)]
 |(a,c)::es,i+1,s,v,n,hn,h=>by
  obtain⟨c',h⟩:=h;rw[A0E]at h;rw[Y2,A4O]at hn;have ih:=B1U (v:=v) n hn.2 ⟨c',h⟩;have has:a≠s:=by
   rintro rfl;exact hn.1 (A3O (f:=(·.1)) (A0s h))
  simp only[A4p,A5Q,A2y]at ih |-;by_cases e:a=n
  ·subst e
   rw[decide_eq_true rfl,if_neg has]
  ·rw[decide_eq_false e]
   exact ih
theorem B41 {es:A3G}{s:List UInt8}{v:Value} (n:List UInt8) (hn:(es.map (·.1)).Nodup):A4p (B59 es s v) n=if n=s then some v else A4p es n:=by
 rw[B59];cases hf:es.findIdx? (fun p=>decide (p.1=s)) with
 |some i=>
  obtain⟨hi,hs,_⟩:=A1O.1 hf;have hs':es[i].1=s:=by simpa using hs
  exact B1U n hn ⟨es[i].2,by rw[G9 hi, <-hs']⟩
 |none=>
  refine B1T n ?_
  rw[A2S]at hf;simp only[A4p,A4H,List.find?_eq_none];intro p hp;simpa using hf p hp
structure MapI (I:U0) (b:Nat) (es:A3G):Prop where
 out:I b=some (.map (A7R es 0).toArray es.length)
 nodup:(es.map (·.1)).Nodup
theorem MapI.le {I I':U0}{b:Nat}{es:A3G} (h:MapI I b es) (hl:Le I I'):MapI I' b es:=⟨hl _ _ h.out,h.nodup⟩
abbrev HItem.it (r b n:Nat) (S:List Nat):HItem:=.obj r (.mapIter (some b) n S.toArray n)
section
variable {P:Program}{N:Nat}{ds:List Deferred}{Q:Exit->Act->World->Prop}{K:Act->World->Prop}{l:Log}{w:World}{ops:Array Oper}{os:List Oper}
variable {d:Nat}{ty:TypeId}{pos:String}{af:Array Edge}{g:Option (Nat×Bool)}{t:TypeId}{x y:Operand}{E:Ent}{I:U0}{H:List HItem}
end
structure Copied (es:A3G) (S:List Nat) (es2:A3G):Prop where
 nodup:(es2.map (·.1)).Nodup
 get:∀n v,A4p es2 n=some v↔ ∃j∈S,es[j]?=some (n,v)
theorem Copied.start (es:A3G):Copied es [] []:=⟨by simp,fun n v=>by simp[A4p]⟩
theorem Copied.put {es es2:A3G}{S:List Nat}{j:Nat}{u:List UInt8}{v:Value} (h:Copied es S es2) (hn:(es.map (·.1)).Nodup) (hj:es[j]?=some (u,v)):Copied es (S++ [j]) (B59 es2 u v):=by
 refine⟨B3d h.nodup,fun n v'=>?_⟩
 rw[B41 n h.nodup];by_cases e:n=u
 ·subst e
  rw[if_pos rfl];constructor
  ·rintro h';cases h';exact⟨j,by simp,hj⟩
  ·rintro⟨i,_,hi⟩
   rw[<-B0B hn hj,B0B hn hi]
 ·rw[if_neg e,h.get]
  constructor
  ·rintro⟨i,hi,h2⟩;exact⟨i,by simp[hi],h2⟩
  ·rintro⟨i,hi,h2⟩
   rcases A0T.1 hi with hi|hi
   ·exact⟨i,hi,h2⟩
   ·rw[A1R]at hi
    subst hi;rw[hj]at h2;cases h2
    exact absurd rfl e
theorem Copied.done {es es2:A3G}{S:List Nat} (h:Copied es S es2) (_hn:(es.map (·.1)).Nodup) (hS:∀j,j<es.length->j∈S) (n:List UInt8):A4p es2 n=A4p es n:=by
 cases hg:A4p es n with
 |some v=>
  obtain⟨j,hj⟩:=A9X hg;exact(h.get n v).2 ⟨j,hS j (Z8.1 hj).1,hj⟩
 |none=>
  cases hg2:A4p es2 n with
  |none=>rfl
  |some v=>
   obtain⟨j,_,hj⟩:=(h.get n v).1 hg2;exact absurd rfl (B42 hg hj)
abbrev A5e (k:Int):Value:=.int .i64 k
abbrev A1b:=List (Int×Value)
def A1Q (es:A1b) (n:Nat):List MapEntry:=(es.zipIdx n).map (fun p=> { key:=A5e p.1.1,val:=p.1.2,born:=p.2})
structure MapAtZ (w:World) (b:Nat) (es:A1b):Prop where
 out:w.heap[b]?=some (.map (A1Q es 0).toArray es.length)
 nodup:(es.map (·.1)).Nodup
theorem A9J (s:Int):∀(es:A1b) (n m:Nat),Instr.findNow (.int .i64) (A5e s) (A1Q es n) m=some ((es.findIdx? (fun p=>decide (p.1=s))).bind (fun i=>(es[i]?).map (fun p=>(m+i,p.2))))
 | [],n,m=>rfl
 |(u,v)::es,n,m=>by
  have ih:=A9J s es (n+1) (m+1);simp only[A1Q,List.zipIdx_cons,Y2,Instr.findNow,Instr.sameNow,if_true]at ih |-;have e1:(s==u)=decide (u=s):=by
   rw[A2x];constructor
   ·intro h
    exact decide_eq_true (by simpa using h:s=u).symm
   ·intro h
    rw[of_decide_eq_true h];simp
  rw[e1,A3n];cases hd:decide (u=s) with
  |true=>simp
  |false=>
   simp only
   rw[ih]
   congr 1
   cases hf:es.findIdx? (fun p=>decide (p.1=s)) with
   |none=>simp
   |some i=>simp[A14,Nat.add_left_comm]
section
variable {P:Program}{N:Nat}{ds:List Deferred}{Q:Exit->Act->World->Prop}{l l':Log}{w w':World}{ops:Array Oper}{os:List Oper}{o:Oper}
variable {d:Nat}{ty:TypeId}{pos:String}{af:Array Edge}{g:Option (Nat×Bool)}{t t':TypeId}{x y z:Operand}{E:Ent}{I:U0}{H:List HItem}
def A73 (es:A1b) (s:Int) (z:Value):Value:=((es.find? (fun p=>decide (p.1=s))).map (·.2)).getD z
theorem B4J (es:A1b) (s:Int):(es.findIdx? (fun p=>decide (p.1=s))).bind (fun i=>(es[i]?).map (·.2))=(es.find? (fun p=>decide (p.1=s))).map (·.2):=by
 induction es with
 |nil=>rfl
 |cons p es ih=>
  rw[A3n,A2y];cases hd:decide (p.1=s) with
  |true=>simp
  |false=>
   simp only[A4I,if_false];rw[<-ih];cases es.findIdx? (fun p=>decide (p.1=s))<;>simp
theorem A7F {kt:TypeId} (hk:P.underlying kt=some (.int .i64)) (s:Int) (es:A1b) (n:Nat):
  (Instr.findKey kt (A5e s) (A1Q es n)).run P w=.ok ((es.findIdx? (fun p=>decide (p.1=s))).bind (fun i=>(es[i]?).map (fun p=>(0+i,p.2)))) w:=by
 have h1:=run_underlying (P:=P) (w:=w) hk;simp only[Instr.findKey,Sem.run_bind,h1,Result.andThen_ok,A9J];simp
theorem A6X {kt:TypeId} (hk:P.underlying kt=some (.int .i64)) (s:Int) (b:Bool):(Instr.checkKey b 10000 kt (A5e s)).run P w=.ok () w:=by
 have h1:=run_underlying (P:=P) (w:=w) hk;show (Instr.checkKey b (9999+1) kt (A5e s)).run P w=.ok () w
 rw[Instr.checkKey];simp[h1]
theorem A6B {kt et:TypeId} [TyMap P t kt et] [TyInt P kt .i64] {b:Nat}{es:A1b}{s:Int}{zv:Value}{a:Act} (ha:Fits N ds l a)
  (hx:ev l x=some (.map (some b))) (hy:ev l y=some (A5e s)) (hm:w.heap[b]?=some (.map (A1Q es 0).toArray es.length)) (hz:∀w,(zeroValue et).run P w=.ok zv w):
  (execOp a.eval ⟨some d,.lookup t x y false,ty,pos,af,g⟩).run P w=.ok (.value (A73 es s zv)) w:=by
 have h1:=run_underlying (P:=P) (w:=w) (TyMap.out (P:=P) (t:=t));have hk:=TyInt.out (P:=P) (t:=kt);have h2:=A7F (P:=P) (w:=w) hk s es 0;have h3:=fun b=>A6X (P:=P) (w:=w) hk s b
 have h4:=MapKept.run_getObj_map (P:=P) hm;have h5:=B4J es s;rw[A73, <-h5];cases hf:es.findIdx? (fun p=>decide (p.1=s)) with
 |none=>
  rw[hf]at h2;simp[execOp,Instr.lookup,ha.ev hx,ha.ev hy,h1,h4,h3,h2,hz]
 |some i=>
  rw[hf]at h2;have hi:i<es.length:=by
   have:=A1O.1 hf;exact this.1
  have hg:es[i]?=some es[i]:=G9 hi;simp only[A1S,hg,A4N]at h2;simp[execOp,Instr.lookup,ha.ev hx,ha.ev hy,h1,h4,h3,h2,hg]
abbrev HItem.mz (b:Nat) (es:A1b):HItem:=.obj b (.map (A1Q es 0).toArray es.length)
def A38 (es:A1b) (s:Int) (v:Value):A1b:=match es.findIdx? (fun p=>decide (p.1=s)) with
 |some i=>es.set i (s,v)
 |none=>es++ [(s,v)]
theorem A7v (es:A1b) (i:Nat) (s:Int) (v:Value):(A1Q es 0).toArray.modify i (fun e=> { e with key:=A5e s,val:=v})=(A1Q (es.set i (s,v)) 0).toArray:=by
 apply A5O
 intro j;rw[A5M];simp only[A1Q,A3I,A2v,List.getElem?_zipIdx,A2w];by_cases h:i=j
 ·subst h
  rw[if_pos rfl,if_pos rfl];by_cases h2:i<es.length
  ·rw[if_pos h2,G9 h2];rfl
  ·rw[if_neg h2,A1F (by omega)];rfl
 ·rw[if_neg h,if_neg h]
theorem B1Z {es:A1b}{s:Int}{v:Value} (h:(es.map (·.1)).Nodup):((A38 es s v).map (·.1)).Nodup:=by
 rw[A38];cases hf:es.findIdx? (fun p=>decide (p.1=s)) with
 |some i=>
  obtain⟨hi,hs,_⟩:=A1O.1 hf;have hs':es[i].1=s:=by simpa using hs
  have:(es.set i (s,v)).map (·.1)=es.map (·.1):=by
   apply A4L
   intro j;simp only[A2v,A2w];split
   ·rename_i h
    subst h;rw[G9 hi];simp[hs']
   ·rfl
  dsimp only
  rw[this];exact h
 |none=>
  dsimp only
  rw[A1I,A4M];refine⟨h,by simp,fun a h1 b h2=>?_⟩
  simp only[Y2,List.map_nil,A1R]at h2;subst h2;rintro rfl;obtain⟨p,hp,hps⟩:=A1w.1 h1;have:=A2S.1 hf p hp;simp[hps]at this
def A6j (es:A1b) (s:Int):Option Value:=(es.find? (fun p=>decide (p.1=s))).map (·.2)
theorem B0A {es:A1b}{s:Int}{v:Value} (n:Int) (h:A6j es s=none):A6j (es++ [(s,v)]) n=if n=s then some v else A6j es n:=by
 simp only[A6j]at h |-;rw[List.find?_append];by_cases e:n=s
 ·subst e
  rw[if_pos rfl,A4H.1 h];simp
 ·rw[if_neg e]
  cases hf:es.find? (fun p=>decide (p.1=n)) with
  |some p=>rfl
  |none=>simp[Ne.symm e]
theorem A9W:∀ {es:A1b}{i:Nat}{s:Int}{v:Value} (n:Int),(es.map (·.1)).Nodup->(∃c,es[i]?=some (s,c))->A6j (es.set i (s,v)) n=if n=s then some v else A6j es n
 | [],i,s,v,n,_,h=>by obtain⟨_,h⟩:=h;simp at h
 |(a,c)::es,0,s,v,n,_,h=>by
  obtain⟨_,h⟩:=h;simp only[A0S,U5,Prod.mk.injEq]at h;obtain⟨rfl,_⟩:=h;simp only[A6j,A5R,A2y];by_cases e:n=a
  ·subst e;simp
  ·rw[if_neg e,decide_eq_false (Ne.symm e)]
 |(a,c)::es,i+1,s,v,n,hn,h=>by
  obtain⟨c',h⟩:=h;rw[A0E]at h;rw[Y2,A4O]at hn;have ih:=A9W (v:=v) n hn.2 ⟨c',h⟩;have has:a≠s:=by
   rintro rfl;exact hn.1 (A3O (f:=(·.1)) (A0s h))
  simp only[A6j,A5Q,A2y]at ih |-;by_cases e:a=n
  ·subst e
   rw[decide_eq_true rfl,if_neg has]
  ·rw[decide_eq_false e]
   exact ih
theorem B3b {es:A1b}{s:Int}{v:Value} (n:Int) (hn:(es.map (·.1)).Nodup):A6j (A38 es s v) n=if n=s then some v else A6j es n:=by
 rw[A38];cases hf:es.findIdx? (fun p=>decide (p.1=s)) with
 |some i=>
  obtain⟨hi,hs,_⟩:=A1O.1 hf;have hs':es[i].1=s:=by simpa using hs
  exact A9W n hn ⟨es[i].2,by rw[G9 hi, <-hs']⟩
 |none=>
  refine B0A n ?_
  rw[A2S]at hf;simp only[A6j,A4H,List.find?_eq_none];intro p hp;simpa using hf p hp
end
section
variable {P:Program}{N:Nat}{ds:List Deferred}{Q:Exit->Act->World->Prop}{K:Act->World->Prop}{KV:Act->Prop}{l:Log}{w w0:World}{ops:Array Oper}{os os' tail:List Oper}{X:List Nat}
variable {d:Nat}{ty:TypeId}{pos:String}{af:Array Edge}{g:Option (Nat×Bool)}{t:TypeId}{x y z:Operand}{E:Ent}{I I0:U0}{H G R:List HItem}{n f:Nat}{listed:Array Bool}
theorem A5Z {kt et:TypeId} [TyMap P t kt et] [TyInt P kt .i64] {i b:Nat}{es:A1b}{s:Int}{zv:Value} (hm:Mem E I H w) (hw:O8 ops l ⟨some d,.lookup t x y false,ty,pos,af,g⟩=some true) (hN:Nat.blt d N=true)
  (hx:ev l x=some (.map (some b))) (hy:ev l y=some (A5e s)) (hi:H[i]?=some (.mz b es)) (hz:∀w,(zeroValue et).run P w=.ok zv w)
  (k:WQ P N ds ops w K os ((d,A73 es s zv)::l)):WQ P N ds ops w K (⟨some d,.lookup t x y false,ty,pos,af,g⟩::os) l:=by
 have hg:=hm.get hi;exact A0u rfl hw hN (fun w' hkq a ha=>A6B ha hx hy (by rw[hkq.blk b (A2U hg) (by simp)];exact hg) hz) k
theorem A83 {kt et:TypeId} [TyMap P t kt et] [TyInt P kt .i64] {i b:Nat}{es:A1b}{s:Int}{zv:Value} (hR:Mem E I (G++R) w) (hw:O8 ops l ⟨some d,.lookup t x y false,ty,pos,af,g⟩=some true) (hN:Nat.blt d N=true)
  (hx:ev l x=some (.map (some b))) (hy:ev l y=some (A5e s)) (hi:R[i]?=some (.mz b es)) (hz:∀w,(zeroValue et).run P w=.ok zv w)
  (k:WV P N ds ops (A10 G) w KV os ((d,A73 es s zv)::l)):WV P N ds ops (A10 G) w KV (⟨some d,.lookup t x y false,ty,pos,af,g⟩::os) l:=by
 have hg:=hR.right.get hi;have hnG:=hR.notG hi rfl;exact A0V rfl hw hN (fun w' hkq a ha=>A6B ha hx hy (by rw[hkq.blk b (A2U hg) hnG];exact hg) hz) k
theorem B0T {kt et:TypeId} [TyMap P t kt et] [TyInt P kt .i64] {b:Nat}{es:A1b}{s:Int}{zv:Value} (hb:w.heap[b]?=some (.map (A1Q es 0).toArray es.length)) (_:(es.map (·.1)).Nodup) (hz:∀w,(zeroValue et).run P w=.ok zv w):
  ∃(es1:A1b) (j:Nat) (u:Value) (w':World),(Instr.mapEntry t (.map (some b)) (A5e s)).run P w=.ok (.tuple #[u,.int .i64 (j:Int)]) w'/\w'.heap[b]?=some (.map (A1Q es1 0).toArray es1.length)/\Kept [b] w w'/\es1[j]?=some (s,u)/\∀v,es1.set j (s,v)=A38 es s v:=by
 have h1:=run_underlying (P:=P) (w:=w) (TyMap.out (P:=P) (t:=t));have hk:=TyInt.out (P:=P) (t:=kt);have h2:=A7F (P:=P) (w:=w) hk s es 0;have h3:=A6X (P:=P) (w:=w) hk s false;have h4:=MapKept.run_getObj_map (P:=P) hb;have h5:=fun o'=>MapKept.run_setObj_map (P:=P) o' hb
 have hlt:=A2U hb;cases hf:es.findIdx? (fun p=>decide (p.1=s)) with
 |none=>
  rw[hf]at h2;have e1:(A1Q (es++ [(s,zv)]) 0).toArray=(A1Q es 0).toArray.push { key:=A5e s,val:=zv,born:=es.length}:=by
   simp[A1Q,List.zipIdx_append]
  refine⟨es++ [(s,zv)],es.length,zv, { w with heap:=w.heap.setIfInBounds b (.map ((A1Q es 0).toArray.push { key:=A5e s,val:=zv,born:=es.length}) (es.length+1))},?_,?_,⟨rfl,rfl,rfl,by simp,fun i hi hx=>?_⟩,by simp,fun v=>?_⟩
  ·simp only[Instr.mapEntry,Sem.run_bind,h1,Result.andThen_ok,h4,h3,h2,Option.bind_none,hz,h5,Sem.run_pure]
   rfl
  ·rw[e1,Y4]
   simp[hlt]
  ·have:b≠i:=by rintro rfl;simp at hx
   simp[A5p this]
  ·rw[A38,hf]
   simp
 |some j=>
  obtain⟨hj,hsj,_⟩:=A1O.1 hf;have hsj':es[j].1=s:=by simpa using hsj
  rw[hf]at h2;have hg:es[j]?=some es[j]:=G9 hj;simp only[A1S,hg,A4N,Y6]at h2;have hkey:(A1Q es 0).toArray[j]?=some { key:=A5e s,val:=es[j].2,born:=j}:=by
   simp[A1Q,List.getElem?_zipIdx,hg,hsj']
  have h6:(Instr.keyThatStays (A5e s) (A5e s)).run P w=.ok (A5e s) w:=by
   have:Instr.sameBits 10000 (A5e s) (A5e s)=true:=by simp[Instr.sameBits]
   simp[Instr.keyThatStays,this]
  have e2:=A7v es j s es[j].2;have e3:es.set j (s,es[j].2)=es:=by
   apply A4L
   intro i;rw[A2w];by_cases e:j=i
   ·subst e
    rw[if_pos rfl,if_pos hj,hg, <-hsj']
   ·rw[if_neg e]
  have e4:((A1Q es 0).toArray.modify j fun e=> { e with key:=A5e s})=(A1Q es 0).toArray:=by
   rw[<-Array.toList_inj];apply A4L
   intro i;rw[A5N,A5N,A5M];by_cases e:j=i
   ·subst e
    rw[if_pos rfl,hkey];rfl
   ·rw[if_neg e]
  refine⟨es,j,es[j].2, { w with heap:=w.heap.setIfInBounds b (.map (A1Q es 0).toArray es.length)},?_,by simp[hlt],⟨rfl,rfl,rfl,by simp,fun i hi hx=>?_⟩,by rw[hg, <-hsj'],fun v=>by rw[A38,hf]⟩
  ·simp only[Instr.mapEntry,Sem.run_bind,h1,Result.andThen_ok,h4,h3,h2,hkey,A4N,A5U,h6,h5,Sem.run_pure]
   rw[e4]
   rfl
  ·have:b≠i:=by rintro rfl;simp at hx
   simp[A5p this]
theorem B0C {kt et:TypeId} [TyMap P t kt et] [TyInt P kt .i64] {i b:Nat}{es:A1b}{s:Int}{zv:Value} (hm:Mem ⟨w0,X,I0⟩ I H w) (hw:O8 ops l ⟨some d,.mapEntry t x y,ty,pos,af,g⟩=some true) (hN:Nat.blt d N=true)
  (hx:ev l x=some (.map (some b))) (hy:ev l y=some (A5e s)) (hi:H[i]?=some (.mz b es)) (hn:(es.map (·.1)).Nodup) (hz:∀w,(zeroValue et).run P w=.ok zv w)
  (k:∀(es1:A1b) (j:Nat) (u:Value) (w':World),es1[j]?=some (s,u)->(∀v,es1.set j (s,v)=A38 es s v)->Mem ⟨w0,X,I0⟩ I (H.set i (.mz b es1)) w'->WA P N ds ops Q X w0 n f listed tail ((d,.tuple #[u,.int .i64 (j:Int)])::l) w'):
  WU P N ds ops Q X w0 n f listed tail ⟨some d,.mapEntry t x y,ty,pos,af,g⟩ l w:=by
 obtain⟨es1,j,u,w',hr,hh,hk,hj,hp⟩:=B0T (P:=P) (t:=t) (s:=s) (hm.get hi) hn hz;have hm':=hm.turn (h':=.mz b es1) hi (by simpa[HItem.blk] using hk) hh (.inl rfl);refine A4Z (w':=w') rfl hw hN (fun a ha=>?_) hm'.kept (k es1 j u w' hj hp hm')
 simp[execOp,ha.ev hx,ha.ev hy,hr]
theorem B3Q {m:Nat}{vs:Array Value}{v:Value} (hC:Kept X w0 w) (hw:O8 ops l ⟨some d,.extract x m,ty,pos,af,g⟩=some true) (hN:Nat.blt d N=true)
  (hx:ev l x=some (.tuple vs)) (hv:vs[m]?=some v) (k:WA P N ds ops Q X w0 n f listed tail ((d,v)::l) w):WU P N ds ops Q X w0 n f listed tail ⟨some d,.extract x m,ty,pos,af,g⟩ l w:=
 A4Z (w':=w) rfl hw hN (fun a ha=>by simp[execOp,ha.ev hx,Instr.extract,hv]) hC k
theorem B5B (es:A1b) {j:Nat} (hj:j<es.length):(A1Q es 0).toArray.findIdx? (fun e=>(e.born:Int)==(j:Int))=some j:=by
 rw[List.findIdx?_toArray,A1O];have hl:(A1Q es 0).length=es.length:=by simp[A1Q]
 refine⟨by omega,by simp[A1Q],fun i hi=>?_⟩
 simp[A1Q];omega
theorem A82 {i b j:Nat}{es es1:A1b}{s:Int}{u v:Value}{dst:Option Nat} (hm:Mem ⟨w0,X,I0⟩ I H w) (hd:dst=none) (hw:O8 ops l ⟨dst,.entryStore t x y z,ty,pos,af,g⟩=some true)
  (hx:ev l x=some (.map (some b))) (hy:ev l y=some (.int .i64 (j:Int))) (hz:ev l z=some v) (hi:H[i]?=some (.mz b es1)) (hj:es1[j]?=some (s,u)) (hp:∀v,es1.set j (s,v)=A38 es s v)
  (k:∀w',Mem ⟨w0,X,I0⟩ I (H.set i (.mz b (A38 es s v))) w'->WA P N ds ops Q X w0 n f listed tail l w'):
  WU P N ds ops Q X w0 n f listed tail ⟨dst,.entryStore t x y z,ty,pos,af,g⟩ l w:=by
 subst hd;have hb:=hm.get hi;have hlt:=A2U hb;have h4:=MapKept.run_getObj_map (P:=P) hb;have h5:=fun o'=>MapKept.run_setObj_map (P:=P) o' hb
 have hjl:=(Z8.1 hj).1;have h6:=B5B es1 hjl;have e1:((A1Q es1 0).toArray.modify j fun e=> { e with val:=v})=(A1Q (A38 es s v) 0).toArray:=by
  rw[<-hp v, <-A7v es1 j s v, <-Array.toList_inj];apply A4L
  intro i;rw[A5N,A5N,A5M,A5M];by_cases e:j=i
  ·subst e
   rw[if_pos rfl,if_pos rfl];simp[A1Q,List.getElem?_zipIdx,hj]
  ·rw[if_neg e,if_neg e]
 have hl:es1.length=(A38 es s v).length:=by rw[<-hp v,List.length_set]
 have hkept:Kept [b] w { w with heap:=w.heap.setIfInBounds b (.map (A1Q (A38 es s v) 0).toArray (A38 es s v).length)}:=
  ⟨rfl,rfl,rfl,by simp,fun i hi hx=>by
   have:b≠i:=by rintro rfl;simp at hx
   simp[A5p this]⟩
 have hm':=hm.turn (h':=.mz b (A38 es s v)) hi (by simpa[HItem.blk] using hkept) (by
  show HItem.ok _ _
  simp[HItem.ok,hlt]) (.inl rfl)
 rw[hl]at h4;refine B06 rfl hw (fun a ha=>?_) hm'.kept (k _ hm')
 simp[execOp,Instr.entryStore,ha.ev hx,ha.ev hy,ha.ev hz,h4,asInt,asIntOf,h6,e1,h5]
end
section
variable {P:Program}{N:Nat}{ds:List Deferred}{Q:Exit->Act->World->Prop}{l l':Log}{w w':World}{ops:Array Oper}{os:List Oper}
variable {d:Nat}{ty:TypeId}{pos:String}{af:Array Edge}{g:Option (Nat×Bool)}{t t':TypeId}{x y z:Operand}
variable {E:Ent}{I I':U0}{H H' R:List HItem}
theorem Mem.rowAddr {e:TypeId}{sz n cap:Nat}{a:Option Addr}{xs:List Value} (hm:Mem E I (.row (.slice a n cap) e sz n xs::H) w) (hn:0<n):∃b,a=some ⟨b,0,none⟩:=by
 obtain⟨b,cp,cur,hv,_⟩:=hm.openRow hn;injection hv with h1 _ _
 exact⟨b,h1⟩
theorem Mem.rowLen {e:TypeId}{sz n:Nat}{v:Value}{xs:List Value} (hm:Mem E I (.row v e sz n xs::H) w):xs.length=n *sz:=(hm.ok _ Y1).1
theorem A2i [TyOne P t] {b off n cap sz:Nat}{e:TypeId}{xs:List Value}{v:Value} (hm:Mem E I (.row (.slice (some ⟨b,0,none⟩) n cap) e sz n xs::H) w) (hw:O8 ops l ⟨some d,.load t x,ty,pos,af,g⟩=some true) (hN:Nat.blt d N=true)
  (hx:ev l x=some (.pointer (some ⟨b,off,none⟩))) (hc:xs[off]?=some v) (k:WL P N ds ops Q os ((d,v)::l) w):
  WL P N ds ops Q (⟨some d,.load t x,ty,pos,af,g⟩::os) l w:=by
 have h0:=hm.rowLen;have hlt:off<xs.length:=(Z8.1 hc).1;rcases A3P n with hn|hn
 ·subst hn;rw[A09]at h0;omega
 obtain⟨b',cp,cur,hv,hm2,hcp,hcm,hs,ht⟩:=hm.openRow hn;injection hv with h1 _ _
 injection h1 with h1
 injection h1 with h1
 subst h1;refine A0q hw hN hx (hm2.ok _ Y1) ?_ k
 rw[<-ht,A1H]at hc;split at hc
 ·simpa using hc
 ·cases hc
theorem A80 {by_:Nat} [Elem P t 1 by_] {b off n cap sz:Nat}{e:TypeId}{xs:List Value}{v:Value}{dst:Option Nat} (hm:Mem E I (.row (.slice (some ⟨b,0,none⟩) n cap) e sz n xs::H) w) (hd:dst=none) (hw:O8 ops l ⟨dst,.store t x y,ty,pos,af,g⟩=some true)
  (hx:ev l x=some (.pointer (some ⟨b,off,none⟩))) (hy:ev l y=some v) (hn1:v.cells.toList= [v]) (h1:v.oneCell'=true) (ho:off<xs.length)
  (k:∀w',Mem E I (.row (.slice (some ⟨b,0,none⟩) n cap) e sz n (xs.set off v)::H) w'->WL P N ds ops Q os l w'):
  WL P N ds ops Q (⟨dst,.store t x y,ty,pos,af,g⟩::os) l w:=by
 have h0:=hm.rowLen;rcases A3P n with hn|hn
 ·subst hn;rw[A09]at h0;omega
 obtain⟨b',cp,cur,hv,hm2,hcp,hcm,hs,ht⟩:=hm.openRow hn;injection hv with e1 _ e3
 injection e1 with e1
 injection e1 with e1
 subst e1;subst e3;obtain⟨cL,rfl⟩:∃cL:List Value,cur=cL.toArray:=⟨cur.toList,by simp⟩;have hs':cL.length=cap *sz:=by simpa using hs
 have ht':cL.take (n *sz)=xs:=by simpa using ht
 have hle:n *sz<=cap *sz:=A3K _ hcp;refine J6 (i:=0) hm2 hd hw hx hy rfl hn1 (by rw[A1x];omega) h1 (fun w2 hm3=>k w2 ?_)
 have hm4:Mem E I (.obj b (.cells (cL.set off v).toArray e (0,0))::H) w2:=hm3;exact hm4.shutRow hcp hcm (by simpa using hs') (by simp only;rw[List.take_set,ht'])
end
theorem A9s {r:HItem}{A B C D:List HItem}:(r::(A++((B++C)++D))).Perm (B++(r::(A++(C++D)))):=by
 have h1:(A++((B++C)++D)).Perm (B++(A++(C++D))):=by
  rw[Z9];exact(A6L A B (C++D))
 exact(h1.cons r).trans (List.perm_middle (l₁:=B) (a:=r) (l₂:=A++(C++D))).symm
theorem B7o {r:HItem}{A B C D:List HItem}:(B++(r::(A++(C++D)))).Perm (C++(r::(A++(B++D)))):=by
 have h1:(B++(r::(A++(C++D)))).Perm (r::(B++(A++(C++D)))):=List.perm_middle;have h2:(B++(A++(C++D))).Perm (C++(A++(B++D))):=by
  refine(A6L B A (C++D)).trans ?_
  refine((A6L B C D).append_left A).trans ?_
  exact A6L A C (B++D)
 exact h1.trans ((h2.cons r).trans (List.perm_middle (l₁:=C) (a:=r) (l₂:=A++(B++D))).symm)
theorem B8r {r:HItem}{A B C D:List HItem}:(C++(r::(A++(B++D)))).Perm (r::(A++((B++C)++D))):=
 B7o.trans A9s.symm
end Go.Fw
namespace Go.Proofs
open Go.Proofs.Tryz
open Go.Sp
open Go.Fw
structure NI where
 k:Nat
 I:U0
structure FE (I:U0) (its:List Sp.Itm) (a:Option Addr) (cp:Nat) (xs:List Value):Prop where
 row:RowI I 60 10 (.slice a its.length cp) its.length xs
 ats:A3c I its xs
 few:its.length<=64
theorem B33 {I:U0}{its:List Sp.Itm}{a:Option Addr}{cp:Nat}{xs:List Value} (h1:RowI I 60 10 (.slice a its.length cp) its.length xs) (h2:A3c I its xs) (h3:its.length<=30):FE I its a cp xs:=⟨h1,h2,by omega⟩
theorem FE.le {I I':U0}{its:List Sp.Itm}{a:Option Addr}{cp:Nat}{xs:List Value} (h:FE I its a cp xs) (m:Le I I'):FE I' its a cp xs:=⟨h.row.le m,h.ats.le m,h.few⟩
theorem FE.get {I:U0}{its:List Sp.Itm}{a:Option Addr}{cp:Nat}{xs:List Value} (h:FE I its a cp xs) {k:Nat}{it:Sp.Itm} (hg:its[k]?=some it):∃cs,(xs.drop (k *10)).take 10=cs/\A5a I it cs/\cs.length=10:=
 ⟨_,rfl,h.ats.get hg,(h.ats.get hg).len⟩
theorem B7g (I:U0) (k:Int) (n:List UInt8) (bk bn:Nat) (hk:PtrI I bk 0 3 [.int .i64 k]) (hn:PtrI I bn 0 9 [str n]) (it:Sp.Itm) (cs:List Value) (hi:A5a I it cs):
  CalM prog 51 #[.agg cs.toArray,ptr bk,ptr bn] I [] (fun v _ H'=>v=.bool (A7A k n it)/\H'= []):=by
 obtain⟨ap,cp,as_,cs',ab,cb,ad,cd,xb,rfl,r1,r2,r3,r4,r5⟩:=hi;refine CalM.of fun w E hm=>enter (N:=19) func51 rfl [(0,.agg (A0P it.kind it.name it.label (.slice ap it.params.length cp) (.slice as_ it.sends.length cs') (.slice ab it.body.length cb) it.at_ it.size it.mark (.slice ad it.diags.length cd)).toArray),(1,ptr bk),(2,ptr bn)] A6f rfl ?_
 repeat' (first|refine A0z (d:=3) ?_ hm;clear hm;intro b3 _ hm|refine H8 ?_ hm|refine A0H ?_ hm|refine D8 ?_|refine D5 ?_|refine N9 ?_|refine J9 ?_|refine Q5 ?_|refine A0c ?_|refine V4 ?_|refine C9 ?_|refine A0p ?_|(refine O5 (h1:=fun _=>?_) (h0:=fun _=>?_)<;>try first|contradiction|omega)|refine D9 ?_|refine A7 ?_|refine E8 ?_|refine A8 ?_|refine H7 ?_|refine H9 ?_)
 all_goals (refine⟨I,[],⟨congrArg Value.bool ?_,rfl⟩,hm.left (H:= [])⟩;simp_all [A7A])
theorem B7h (fi:FuncId) [Own prog fi] (ca:List Value) (F:Sp.Itm->Bool) (its:List Sp.Itm) (I:U0) (a:Option Addr) (cp:Nat) (xs:List Value) (h:FE I its a cp xs)
  (hF:∀I',Le I I'->∀it cs,A5a I' it cs->CalM prog fi (.agg cs.toArray::ca).toArray I' [] (fun v _ H'=>v=.bool (F it)/\H'= [])):
  CalM prog 50 #[.slice a its.length cp,.func (.func fi) #[] ca.toArray] I [] (fun v _ H'=>v=.int .i64 (B5Y F its)/\H'= []):=by
 refine CalM.of fun w E hm=>enter (N:=19) func50 rfl [(0,.slice a its.length cp),(1,.func (.func fi) #[] ca.toArray)] A1P rfl ?_
 have hfew:=h.few;repeat' (first|refine D8 ?_|refine D5 ?_|refine G8 ?_|refine D9 ?_|refine A7 ?_|refine E8 ?_|refine A8 ?_|refine F5 ?_)
 refine X7 (fun x:NI=> [(0,.slice a its.length cp),(1,.func (.func fi) #[] ca.toArray),(7,nt its.length),(8,nt x.k)])
  (fun x w'=>Mem E x.I [] w'/\Le I x.I/\x.k<=its.length/\∀j it',j<x.k->its[j]?=some it'->F it'=false) (fun x=>its.length-x.k) ⟨0,I⟩ (by exact⟨rfl,rfl,rfl,rfl,trivial⟩) ⟨hm,Le.refl _,J7 _,fun j _ hj=>absurd hj (Nat.not_lt_zero j)⟩ ?_
 clear hm;rintro⟨k,I1⟩ w1 ⟨hm,hle1,hk,hno⟩;dsimp only at hm hle1 hk hno |-;by_cases hlt:k<its.length
 ·have hg:its[k]?=some its[k]:=G9 hlt
  obtain⟨cs,hcs,hat,hl10⟩:=(h.le hle1).get hg;have hri:=(h.le hle1).row;have hc:=hF I1 hle1 _ cs hat
  generalize its[k]=it at hg hat hc;cases hb:F it with
  |true=>
   rw[hb]at hc;repeat' (first|refine U3 (d:=14) ?_ (hr:=hri);intro bt ot hpt;rw[show ((k:Int).toNat *10)=k *10 from rfl,hcs]at hpt|refine Y8 (d:=15) ?_ hm (hp:=hpt) (hc:=by exact hl10)|refine A8A (d:=16) ?_ hm (hp:=pm0) (hc:=by exact hc);clear hm;rintro _ I2 _ _ ⟨rfl,rfl⟩ hle hm|refine D8 ?_|refine D5 ?_|refine O0 ?_|refine D9 ?_|refine A7 ?_|refine H5 ?_|refine L8 ?_|refine E8 ?_|refine A8 ?_|refine F5 ?_|refine F9 ?_|refine H7 ?_|refine H9 ?_|refine F8 ?_|(refine D6 (ht:=fun _=>?_) (hf:=fun _=>?_)<;>try first|contradiction|omega))
   all_goals try omega
   exact⟨I2,[],⟨by rw[B66 hg hb hno],rfl⟩,hm.left (H:= [])⟩
  |false=>
   rw[hb]at hc;repeat' (first|refine U3 (d:=14) ?_ (hr:=hri);intro bt ot hpt;rw[show ((k:Int).toNat *10)=k *10 from rfl,hcs]at hpt|refine Y8 (d:=15) ?_ hm (hp:=hpt) (hc:=by exact hl10)|refine A8A (d:=16) ?_ hm (hp:=pm0) (hc:=by exact hc);clear hm;rintro _ I2 _ _ ⟨rfl,rfl⟩ hle hm|refine D8 ?_|refine D5 ?_|refine O0 ?_|refine Q4 ?_|refine D9 ?_|refine A7 ?_|refine D7 ?_|refine E8 ?_|refine A8 ?_|refine F5 ?_|refine F9 ?_|refine E9 ?_|(refine D6 (ht:=fun _=>?_) (hf:=fun _=>?_)<;>try first|contradiction|omega))
   all_goals try omega
   refine N7 (⟨k+1,I2⟩:NI) (by exact⟨rfl,rfl,rfl,rfl,trivial⟩) ⟨hm.left (H:= []),hle1.trans hle,by dsimp only;omega,fun j it' hj hg'=>?_⟩ (by dsimp only;omega)
   rcases X3 j k with hjk|hjk
   ·exact hno j it' hjk hg'
   ·obtain rfl:j=k:=by dsimp only at hj;omega
    rw[hg]at hg';obtain rfl:=A1g hg';exact hb
 ·obtain rfl:k=its.length:=by omega
  repeat' (first|refine D5 ?_|refine O0 ?_|refine D9 ?_|refine A7 ?_|refine G7 ?_|refine G5 ?_|refine E8 ?_|refine A8 ?_|refine O7 ?_|refine H7 ?_|refine H9 ?_|(refine D6 (ht:=fun _=>?_) (hf:=fun _=>?_)<;>try first|contradiction|omega))
  all_goals try omega
  exact⟨I1,[],⟨by rw[B4M hno],rfl⟩,hm.left (H:= [])⟩
theorem A7g (k:Int) (n:List UInt8) (its:List Sp.Itm) (I:U0) (a:Option Addr) (cp:Nat) (xs:List Value) (h:FE I its a cp xs):
  CalM prog 25 #[.agg [.slice a its.length cp].toArray,.int .i64 k,str n] I [] (fun v _ H'=>v=.int .i64 (A6h its k n)/\H'= []):=by
 refine CalM.of fun w E hm=>enter (N:=11) func25 rfl [(0,.agg [.slice a its.length cp].toArray),(1,.int .i64 k),(2,str n)] A6f rfl ?_
 repeat' (first|refine A0z (d:=3) ?_ hm;clear hm;intro b3 _ hm|refine A0z (d:=4) ?_ hm;clear hm;intro b4 _ hm|refine A0z (d:=5) ?_ hm;clear hm;intro b5 _ hm|refine H8 ?_ hm|refine D5 ?_|refine A1z ?_|refine C9 ?_|refine D9 ?_|refine A7 ?_|refine E8 ?_|refine A8 ?_)
 obtain⟨I2,hle2,hm2,hpn⟩:=hm.freezeO;obtain⟨I3,hle3,hm3,hpk⟩:=hm2.freezeO;clear hm hm2;have hm:=hm3;clear hm3;have hc:=B7h 51 [ptr b4,ptr b5] (A7A k n) its I3 a cp xs ((h.le hle2).le hle3) (fun I' m it cs hi=>B7g I' k n b4 b5 (hpk.le m) ((hpn.le hle3).le m) it cs hi);repeat' (first|refine F6 (d:=10) ?_ hm (hc:=hc);clear hm;rintro _ I4 _ _ ⟨rfl,rfl⟩ hle hm;have hleI4:=hle;try simp only[F7]at hm|refine D5 ?_|refine D9 ?_|refine A7 ?_|refine H7 ?_|refine H9 ?_)
 exact⟨I4,[],⟨rfl,rfl⟩,hm.left (H:= [])⟩
theorem B0l (a b:Nat) (ha:a<256) (hb:b<256) (w:World):Cal prog 27 #[.int .i64 a,.int .i64 b] w fun v w'=>v=.bool (A3f a b)/\w'=w:=by
 refine enter (N:=9) func27 rfl [(0,.int .i64 a),(1,.int .i64 b)] A1P rfl ?_
 repeat' (first|refine D8 ?_|refine D5 ?_|refine Q5 ?_|refine A0c ?_|refine B14 ?_|refine B15 ?_|refine B45 ?_|refine D9 ?_|refine A7 ?_|refine H5 ?_|refine E8 ?_|refine A8 ?_|refine F9 ?_|refine H7 ?_|refine H9 ?_)
 refine⟨congrArg Value.bool ?_,rfl⟩
 rw[A2x,decide_eq_true_eq,A4K,A4K, <-B1i ha hb];omega
theorem A5b (a b:Nat) (ha:a<256) (hb:b<256) (w:World):Cal prog 74 #[.int .i64 a,.int .i64 b] w fun v w'=>v=.int .i64 ((a|||b:Nat):Int)/\w'=w:=by
 refine enter (N:=8) func74 rfl [(0,.int .i64 a),(1,.int .i64 b)] A1P rfl ?_
 repeat' (first|refine D8 ?_|refine D5 ?_|refine B17 ?_|refine D9 ?_|refine A7 ?_|refine H5 ?_|refine E8 ?_|refine A8 ?_|refine F9 ?_|refine H7 ?_|refine H9 ?_)
 exact⟨rfl,rfl⟩
theorem B71 (a b:Nat) (ha:a<256) (hb:b<256) (w:World):Cal prog 30 #[.int .i64 a,.int .i64 b] w fun v w'=>v=.int .i64 ((a &&& b:Nat):Int)/\w'=w:=by
 refine enter (N:=8) func30 rfl [(0,.int .i64 a),(1,.int .i64 b)] A1P rfl ?_
 repeat' (first|refine D8 ?_|refine D5 ?_|refine B3i ?_|refine D9 ?_|refine A7 ?_|refine H5 ?_|refine E8 ?_|refine A8 ?_|refine F9 ?_|refine H7 ?_|refine H9 ?_)
 exact⟨rfl,rfl⟩
end Go.Proofs
