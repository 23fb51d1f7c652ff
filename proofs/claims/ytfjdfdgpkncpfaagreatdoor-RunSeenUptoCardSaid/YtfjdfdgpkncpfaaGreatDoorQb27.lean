/- Own work: texts FwFork3, SpecInf, SpecInf2, SpecTw, SpecPos, SpecFit, SpecSec, SpecHi, SpecHi2, SpecLo, SpecLo2, SpecScr, one behind the other. -/
import Derived.Test.YtfjdfdgpkncpfaaGreatDoorQb26
set_option maxHeartbeats 64000000
section
namespace Go.Fw
open Go
section
variable {P:Program}{N:Nat}{ds:List Deferred}{X:List Nat}{Q:Exit→Act→World→Prop}{l:Log}{w w' w0:World}{os tail:List Oper}{ops:Array Oper}{E:Ent}{I I0:O5}{G R H:List HItem}{o:Oper}
variable {d:Nat}{ty:TypeId}{pos:String}{af:Array Edge}{g:Option (Nat×Bool)}{t t':TypeId}{x y z:Operand}{n f:Nat}{listed:Array Bool}
theorem B2V {n f i j k:Nat}{o2 o3:Oper}{listed:Array Bool} (hr:Region.ready .any ops listed= [i,j,k]) (hi:ops[i]?=some o) (hj:ops[j]?=some o2) (hk:ops[k]?=some o3) (hn:Nat.blt i n=true) (hn2:Nat.blt j n=true) (hn3:Nat.blt k n=true)
  (h:WU P N ds ops Q X w0 n f (listed.setIfInBounds i true) tail o l w) (h2:WU P N ds ops Q X w0 n f (listed.setIfInBounds j true) tail o2 l w) (h3:WU P N ds ops Q X w0 n f (listed.setIfInBounds k true) tail o3 l w):WA P N ds ops Q X w0 n (f+1) listed tail l w:=
 ⟨fun a ha=>⟨by rw[hr];simp,fun m hm=>by
  rw[hr] at hm
  rcases List.mem_cons.1 hm with rfl|hm
  ·exact⟨by simpa[Nat.blt_eq] using hn,h.run a ha _ hi⟩
  ·rcases List.mem_cons.1 hm with rfl|hm
   ·exact⟨by simpa[Nat.blt_eq] using hn2,h2.run a ha _ hj⟩
   ·obtain rfl:m=k:=by simpa using hm
    exact⟨by simpa[Nat.blt_eq] using hn3,h3.run a ha _ hk⟩⟩⟩
theorem B8a {d f':Nat}{fn:FuncId}{args:Array Value}{Post:Value→World→Prop} (hd:o.dst=some d) (hw:P7 ops l o=some true) (hN:Nat.blt d N=true)
  (hrun:∀a,Fits N ds l a→(execOp a.eval o).run P w=.ok (.enter fn args) w) (hc:Cal P fn args w Post)
  (k:∀v w',Post v w'→Kept X w0 w'∧WA P N ds ops Q X w0 n f' listed tail ((d,v)::l) w'):WU P N ds ops Q X w0 n f' listed tail o l w:=
 ⟨fun a ha i hi=>by
  unfold uOp
  simp only[hi]
  rw[A09 ha hw]
  refine .inr (.inl ⟨fn,args,hrun a ha,Calls.mono hc.run (fun e w' q=>?_)⟩)
  cases e with
  |returned v=>exact⟨v,rfl,(k v w' q).1,by rw[hd];exact(k v w' q).2.run _ (ha.put hN v)⟩
  |panicked c=>exact q.elim
  |outgrown=>exact q.elim⟩
theorem B4I {fn:FuncId} [Own P fn] {xs:List Operand}{tys:Array TypeId}{vs:List Value}{Post:Value→O5→List HItem→Prop} (hm:Mem ⟨w0,X,I0⟩ I G w)
  (hw:P7 ops l ⟨some d,.call ⟨.value (.func fn),xs.toArray,tys⟩,ty,pos,af,g⟩=some true) (hN:Nat.blt d N=true)
  (hx:evs l xs=some vs) (hp:G.Perm (H++R)) (hc:CalM P fn vs.toArray I H Post)
  (k:∀v I' H' w',Post v I' H'→Le I I'→Mem ⟨w0,X,I0⟩ I' (H'++R) w'→WA P N ds ops Q X w0 n f listed tail ((d,v)::l) w'):
  WU P N ds ops Q X w0 n f listed tail ⟨some d,.call ⟨.value (.func fn),xs.toArray,tys⟩,ty,pos,af,g⟩ l w:=
 B8a rfl hw hN (fun a ha=>by
  have:=ha.evs hx
  simp[execOp,resolve,invoke,Act.eval,Deferred.ofValue,this,A1g]) (hc.run w (hm.perm hp).sub) (fun v w' ⟨I',H',h1,h2⟩=>
   have hm':=(hm.perm hp).back h2
   ⟨hm'.kept,k v I' H' w' h1 h2.le hm'⟩)
end
end Go.Fw
end
section
namespace Go.Sp
abbrev Lab:=Nat→Nat
structure Li where
 name:List UInt8
 lab:Nat
 op:Option Nat
def Li.val (o:Lab) (l:Li):Nat:=match l.op with
 |none=>l.lab
 |some f=>o f
abbrev LP:=Lab×Bool
mutual
def C01 (o:Lab):Stm→Stm
 | .mk k nm a lb op e thn els f t=> .mk k nm a (if k=1∧op=true then o f else lb) (if k=1 then false else op) e (B1U o thn) (B1U o els) f t
def B1U (o:Lab):List Stm→List Stm
 | []=> []
 |x::l=>C01 o x::B1U o l
 end
def itI (o:Lab) (it:Itm):Itm:= { it with body:=B1U o it.body}
inductive AllTwo {α β:Type} (R:α→β→Prop):List α→List β→Prop
 |nil:AllTwo R [] []
 |cons {a:α}{b:β}{l:List α}{r:List β} (h:R a b) (t:AllTwo R l r):AllTwo R (a::l) (b::r)
theorem AllTwo.len {α β:Type}{R:α→β→Prop}:∀ {l:List α}{r:List β},AllTwo R l r→r.length=l.length
 |_,_,.nil=>rfl
 |_,_,.cons _ t=>by rw[List.length_cons,List.length_cons,t.len]
def B8R (L:List Nat) (o:Lab):Nat:=(L.map (fun f=>256-o f)).sum
structure Gone (L:List Nat) (p q:LP):Prop where
 le:B8R L q.1≤B8R L p.1
 lt:q.2=true→p.2=true∨B8R L q.1<B8R L p.1
 same:q.2=false→q=p
theorem Gone.refl (L:List Nat) (p:LP):Gone L p p:=⟨Nat.le_refl _,.inl,fun _=>rfl⟩
theorem Gone.trans {L:List Nat}{p q r:LP} (h:Gone L p q) (g:Gone L q r):Gone L p r:=
 ⟨Nat.le_trans g.le h.le,fun e=>by
  have h1:=h.le
  have h2:=g.le
  rcases g.lt e with h3|h3
  ·rcases h.lt h3 with h4|h4
   ·exact .inl h4
   ·exact .inr (by omega)
  ·exact .inr (by omega),fun e=>by
  have h1:=g.same e
  subst h1
  exact h.same e⟩
def InT (T:Src) (a b:Nat) (L:List Nat):Prop:= ∃js:List Nat,js.Pairwise (· < ·)∧(∀j∈js,a≤j∧j<b∧j<T.l.length)∧L=js.map (fun j=>(T.tok j).pos)
theorem InT.nil (T:Src) (a b:Nat):InT T a b []:=⟨[],.nil,fun _ h=>(by cases h),rfl⟩
theorem InT.one {T:Src}{a b:Nat} (h:a<b) (hl:a<T.l.length):InT T a b [(T.tok a).pos]:=⟨[a],List.pairwise_singleton _ _,fun j hj=>by obtain rfl:=List.mem_singleton.1 hj;omega,rfl⟩
theorem InT.mono {T:Src}{a b a' b':Nat}{L:List Nat} (h:InT T a b L) (ha:a'≤a) (hb:b≤b'):InT T a' b' L:=by
 obtain⟨js,h1,h2,rfl⟩:=h
 exact⟨js,h1,fun j hj=>(by have:=h2 j hj;omega),rfl⟩
def A3g (a b:Itm):Prop:=b=a∨∃o,b=itI o a
theorem A3g.kind {a b:Itm} (h:A3g a b):b.kind=a.kind:=by rcases h with rfl|⟨o,rfl⟩<;>rfl
theorem A3g.name {a b:Itm} (h:A3g a b):b.name=a.name:=by rcases h with rfl|⟨o,rfl⟩<;>rfl
theorem A3g.at_ {a b:Itm} (h:A3g a b):b.at_=a.at_:=by rcases h with rfl|⟨o,rfl⟩<;>rfl
theorem A3g.mark {a b:Itm} (h:A3g a b):b.mark=a.mark:=by rcases h with rfl|⟨o,rfl⟩<;>rfl
theorem A3g.params {a b:Itm} (h:A3g a b):b.params=a.params:=by rcases h with rfl|⟨o,rfl⟩<;>rfl
theorem A3g.sends {a b:Itm} (h:A3g a b):b.sends=a.sends:=by rcases h with rfl|⟨o,rfl⟩<;>rfl
theorem A3g.label {a b:Itm} (h:A3g a b):b.label=a.label:=by rcases h with rfl|⟨o,rfl⟩<;>rfl
theorem A3g.body {a b:Itm} (h:A3g a b):b.body=a.body∨∃o,b.body=B1U o a.body:=by
 rcases h with rfl|⟨o,rfl⟩
 ·exact .inl rfl
 ·exact .inr ⟨o,rfl⟩
theorem AllTwo.get {α β:Type}{R:α→β→Prop}:∀ {l:List α}{r:List β}{i:Nat}{a:α},AllTwo R l r→l[i]?=some a→∃b,r[i]?=some b∧R a b
 |_,_,_,_,.nil,h=>by simp at h
 |_,_,0,_,.cons h t,e=>by
  simp only[List.getElem?_cons_zero,Option.some.injEq] at e
  subst e
  exact⟨_,rfl,h⟩
 |_,_,i+1,_,.cons h t,e=>by
  rw[List.getElem?_cons_succ] at e
  obtain⟨b,h1,h2⟩:=t.get e
  exact⟨b,by rw[List.getElem?_cons_succ];exact h1,h2⟩
theorem AllTwo.mem {α β:Type}{R:α→β→Prop}:∀ {l:List α}{r:List β},AllTwo R l r→∀b∈r,∃a∈l,R a b
 |_,_,.nil,b,h=>by cases h
 |_,_,.cons h t,b,hb=>by
  rcases List.mem_cons.1 hb with rfl|hb
  ·exact⟨_,List.mem_cons_self,h⟩
  ·obtain⟨a,h1,h2⟩:=t.mem b hb
   exact⟨a,List.mem_cons_of_mem _ h1,h2⟩
section
variable {its g:List Itm}
end
def A3O (L:Nat→Prop):PE:=fun _ _ _ _ f t=>L f→f=t
structure LetW (T:Src) (L:Nat→Prop):Prop where
 no:∀i,(T.tok i).text≠ [108,101,116]→¬L (T.tok i).pos
 yes:∀i,(T.tok i).text= [108,101,116]→L (T.tok i).pos
 num:∀i,(T.tok i).kind=2→¬L (T.tok i).pos
 zero:¬L 0
 next:∀i j,i<j→(T.tok i).pos+(T.tok i).text.length≤(T.tok j).pos
mutual
theorem A5J (its:List Itm) (at_:Int) (sc:List Lc) (un:Nat):∀(e:Ex) (s:FW),(exF its at_ sc un e s).1=plainF its sc e
 | .mk k nm n args f t,s=>by
  rw[exF,plainF]
  split
  ·rfl
  ·split
   ·exact A9c its at_ sc un args 0 s
   ·split<;>rfl
theorem A9c (its:List Itm) (at_:Int) (sc:List Lc) (un:Nat):∀(l:List Ex) (n:Nat) (s:FW),(opsF its at_ sc un l n s).1=plainsF its sc l n
 | [],n,s=>by rw[opsF,plainsF]
 |e::l,n,s=>by rw[opsF,plainsF,A5J its at_ sc un e s];exact A9c its at_ sc un l _ _
end
section
variable {its g:List Itm}
end
section
variable {its g:List Itm}{L:Nat→Prop}{o:Lab}
end
theorem B6X (s:FW) (f t:Nat) (n:List UInt8):(s.tell f t n).ds≠ []:=by simp[FW.tell]
theorem A7f {s:FW}{a b f t:Nat}{n:List UInt8} (h:(s.ask a b f t n).ds= []):s.ds= []∧S9 a b=true:=by
 rw[FW.ask] at h
 split at h
 ·rename_i hf;exact⟨h,hf⟩
 ·exact absurd h (B6X _ _ _ _)
def A57 (its:List Itm) (sc:List Lc) (un:Nat) (nm:List UInt8):List Ex→Nat→Prop
 | [],_=>True
 |e::es,i=>(∀j p,Q8 its 2 nm=some j→(N9 its j).params[i]?=some p→S9 (plainF its sc e|||un) p.label=true)∧A57 its sc un nm es (i+1)
mutual
def B1P (its:List Itm) (sc:List Lc) (un:Nat):Ex→Prop
 | .mk k nm _ args _ _=>(k=3→A4p its sc un args)∧(k≠2→k≠3→k=4→A4p its sc un args∧A57 its sc un nm args 0∧∀j,Q8 its 2 nm=some j→S9 un (A2z its (N9 its j).sends)=true)
def A4p (its:List Itm) (sc:List Lc) (un:Nat):List Ex→Prop
 | []=>True
 |e::es=>B1P its sc un e∧A4p its sc un es
 end
theorem B9K {its:List Itm}{n:List UInt8}{i a f t:Nat}{s:FW} (h:(askArg its n i a f t s).ds= []):s.ds= []∧∀j p,Q8 its 2 n=some j→(N9 its j).params[i]?=some p→S9 a p.label=true:=by
 rw[askArg] at h
 split at h
 ·rename_i j hj
  split at h
  ·rename_i p hp
   have:=A7f h
   refine⟨this.1,fun j' p' h1 h2=>?_⟩
   rw[hj] at h1
   obtain rfl:=Option.some.inj h1
   rw[hp] at h2
   obtain rfl:=Option.some.inj h2
   exact this.2
  ·rename_i hp
   refine⟨h,fun j' p' h1 h2=>?_⟩
   rw[hj] at h1
   obtain rfl:=Option.some.inj h1
   rw[hp] at h2;cases h2
 ·rename_i hj
  exact⟨h,fun j' p' h1 _=>by rw[hj] at h1;cases h1⟩
theorem B6V {its:List Itm}{un:Nat}{n:List UInt8}{f t:Nat}{s:FW} (h:(askFloor its un n f t s).ds= []):s.ds= []∧∀j,Q8 its 2 n=some j→S9 un (A2z its (N9 its j).sends)=true:=by
 rw[askFloor] at h
 split at h
 ·rename_i j hj
  have:=A7f h
  refine⟨this.1,fun j' h1=>?_⟩
  rw[hj] at h1
  obtain rfl:=Option.some.inj h1
  exact this.2
 ·rename_i hj
  exact⟨h,fun j' h1=>by rw[hj] at h1;cases h1⟩
theorem C0V {its:List Itm}{a:Nat}{n:List UInt8}{f t:Nat}{s:FW} (h:(askCh its a n f t s).ds= []):s.ds= []∧∀j,Q8 its 1 n=some j→S9 a (N9 its j).label=true:=by
 rw[askCh] at h
 split at h
 ·rename_i j hj
  have:=A7f h
  refine⟨this.1,fun j' h1=>?_⟩
  rw[hj] at h1
  obtain rfl:=Option.some.inj h1
  exact this.2
 ·rename_i hj
  exact⟨h,fun j' h1=>by rw[hj] at h1;cases h1⟩
mutual
theorem A2r {its:List Itm}{at_:Int}{sc:List Lc}{un:Nat}:∀(e:Ex) {s:FW},(exF its at_ sc un e s).2.ds= []→s.ds= []∧B1P its sc un e
 | .mk k nm n args f t,s,h=>by
  rw[exF] at h
  rw[B1P]
  by_cases k2:k=2
  ·rw[if_pos k2] at h
   dsimp only at h
   rw[A3F] at h
   exact⟨h,fun h3=>by omega,fun h2=>absurd k2 h2⟩
  rw[if_neg k2] at h
  by_cases k3:k=3
  ·rw[if_pos k3] at h
   dsimp only at h
   rw[A3F] at h
   have:=A9b args h
   exact⟨this.1,fun _=>this.2,fun _ h3=>absurd k3 h3⟩
  rw[if_neg k3] at h
  by_cases k4:k=4
  ·rw[if_pos k4] at h
   dsimp only at h
   rw[A3F] at h
   obtain⟨h1,h2⟩:=B6V h
   obtain⟨h3,h4,h5⟩:=A7Q args 0 h1
   exact⟨h3,fun h3=>absurd h3 k3,fun _ _ _=>⟨h4,h5,h2⟩⟩
  ·rw[if_neg k4] at h
   dsimp only at h
   rw[A3F] at h
   exact⟨h,fun h3=>absurd h3 k3,fun _ _ h4=>absurd h4 k4⟩
theorem A9b {its:List Itm}{at_:Int}{sc:List Lc}{un:Nat}:∀(l:List Ex) {n:Nat}{s:FW},(opsF its at_ sc un l n s).2.ds= []→s.ds= []∧A4p its sc un l
 | [],n,s,h=>by rw[opsF] at h;rw[A4p];exact⟨h,trivial⟩
 |e::l,n,s,h=>by
  rw[opsF] at h
  rw[A4p]
  have h1:=A9b l h
  have h2:=A2r e h1.1
  exact⟨h2.1,h2.2,h1.2⟩
theorem A7Q {its:List Itm}{at_:Int}{sc:List Lc}{un:Nat}{nm:List UInt8}:∀(l:List Ex) (i:Nat) {s:FW},(argsF its at_ sc un nm l i s).ds= []→s.ds= []∧A4p its sc un l∧A57 its sc un nm l i
 | [],i,s,h=>by rw[argsF] at h;rw[A4p,A57];exact⟨h,trivial,trivial⟩
 |e::l,i,s,h=>by
  rw[argsF] at h
  rw[A4p,A57]
  obtain⟨h1,h2,h3⟩:=A7Q l (i+1) h
  obtain⟨h4,h5⟩:=B9K h1
  obtain⟨h6,h7⟩:=A2r e h4
  rw[A5J] at h5
  exact⟨h6,⟨h7,h2⟩,h5,h3⟩
 end
def A2Z (its:List Itm) (sc:List Lc) (k un:Nat) (e:Ex):Nat:=plainF its sc e|||unF its sc k un e
def scF (its:List Itm) (x:Stm) (sc:List Lc) (un:Nat):List Lc:=if x.kind=1 then sc++ [⟨x.name,if x.opn=true then A2Z its sc x.kind un x.e else x.label⟩] else sc
mutual
def A9p (its:List Itm) (own:Nat):Stm→List Lc→Nat→Prop
 | .mk k nm _ lb o e thn els _ _,sc,un=>
  B1P its sc (unF its sc k un e) e∧(k=1→S9 (A2Z its sc k un e) (if o=true then A2Z its sc k un e else lb)=true)∧(k=2→S9 (A2Z its sc k un e) (A3E sc nm)=true)∧
  (k=5→∀j,Q8 its 1 nm=some j→S9 (A2Z its sc k un e) (N9 its j).label=true)∧(k=6→S9 (A2Z its sc k un e) own=true)∧
  (k=3∨k=4→A4j its own thn sc (A2Z its sc k un e)∧A4j its own els sc (A2Z its sc k un e))
def A4j (its:List Itm) (own:Nat):List Stm→List Lc→Nat→Prop
 | [],_,_=>True
 |x::xs,sc,un=>A9p its own x sc un∧A4j its own xs (scF its x sc un) un
 end
theorem B9a (its:List Itm) (own:Nat) (at_:Int) (x:Stm) (sc:List Lc) (un:Nat) (s:FW):(stmF its own at_ x sc un s).1=scF its x sc un:=by
 cases x with
 |mk k nm a lb o e thn els f t=>
  rw[stmF]
  try dsimp only
  rw[A5J]
  show _=if k=1 then sc++ [⟨nm,if o=true then A2Z its sc k un e else lb⟩] else sc
  by_cases k1:k=1
  ·rw[if_pos k1,if_pos k1];rfl
  ·rw[if_neg k1,if_neg k1]
   split
   ·rfl
   ·split
    ·rfl
    ·split
     ·rfl
     ·split<;>rfl
mutual
theorem B3T {its:List Itm}{own:Nat}{at_:Int}:∀(x:Stm) {sc:List Lc}{un:Nat}{s:FW},(stmF its own at_ x sc un s).2.ds= []→s.ds= []∧A9p its own x sc un
 | .mk k nm a lb o e thn els f t,sc,un,s,h=>by
  rw[stmF] at h
  rw[A9p]
  try dsimp only at h
  rw[A5J] at h
  rw[show plainF its sc e|||unF its sc k un e=A2Z its sc k un e from rfl] at h
  by_cases k1:k=1
  ·rw[if_pos k1] at h
   obtain⟨h1,h2⟩:=A7f h
   obtain⟨h3,h4⟩:=A2r e h1
   exact⟨h3,h4,fun _=>h2,fun h=>by omega,fun h=>by omega,fun h=>by omega,fun h=>by omega⟩
  rw[if_neg k1] at h
  by_cases k2:k=2
  ·rw[if_pos k2] at h
   obtain⟨h1,h2⟩:=A7f h
   obtain⟨h3,h4⟩:=A2r e h1
   exact⟨h3,h4,fun h=>by omega,fun _=>h2,fun h=>by omega,fun h=>by omega,fun h=>by omega⟩
  rw[if_neg k2] at h
  by_cases k5:k=5
  ·rw[if_pos k5] at h
   obtain⟨h1,h2⟩:=C0V h
   obtain⟨h3,h4⟩:=A2r e h1
   exact⟨h3,h4,fun h=>by omega,fun h=>by omega,fun _=>h2,fun h=>by omega,fun h=>by omega⟩
  rw[if_neg k5] at h
  by_cases k6:k=6
  ·rw[if_pos k6] at h
   obtain⟨h1,h2⟩:=A7f h
   obtain⟨h3,h4⟩:=A2r e h1
   exact⟨h3,h4,fun h=>by omega,fun h=>by omega,fun h=>by omega,fun _=>h2,fun h=>by omega⟩
  rw[if_neg k6] at h
  by_cases k34:k=3∨k=4
  ·rw[if_pos k34] at h
   obtain⟨h1,h2⟩:=A4d els h
   obtain⟨h3,h4⟩:=A4d thn h1
   obtain⟨h5,h6⟩:=A2r e h3
   exact⟨h5,h6,fun h=>by omega,fun h=>by omega,fun h=>by omega,fun h=>by omega,fun _=>⟨h4,h2⟩⟩
  ·rw[if_neg k34] at h
   obtain⟨h3,h4⟩:=A2r e h
   exact⟨h3,h4,fun h=>by omega,fun h=>by omega,fun h=>by omega,fun h=>by omega,fun h=>absurd h k34⟩
theorem A4d {its:List Itm}{own:Nat}{at_:Int}:∀(l:List Stm) {sc:List Lc}{un:Nat}{s:FW},(stmsF its own at_ l sc un s).2.ds= []→s.ds= []∧A4j its own l sc un
 | [],sc,un,s,h=>by rw[stmsF] at h;rw[A4j];exact⟨h,trivial⟩
 |x::l,sc,un,s,h=>by
  rw[stmsF] at h
  rw[A4j]
  obtain⟨h1,h2⟩:=A4d l h
  obtain⟨h3,h4⟩:=B3T x h1
  rw[B9a] at h2
  exact⟨h3,h4,h2⟩
 end
theorem A2N {m:MR} (h:m.step.err=0):m.go=true:=by
 rw[MR.step] at h
 split at h
 ·rename_i h1;exact absurd h h1
 ·split at h
  ·rename_i h1 h2
   rw[MR.go,Bool.and_eq_true]
   exact⟨decide_eq_true (by omega),decide_eq_true h2⟩
  ·simp at h
theorem B3p {m:MR} (h:m.go=true):m.err=0:=(A8s h).2.1
theorem B3b {C:A0X}{sc:List Cl}{e:Ex}{m:MR} (h:(exR C sc e m).2.err=0):m.go=true:=by
 by_cases hg:m.go=false
 ·rw[B6I,if_pos hg] at h
  exact A2N h
 ·simpa using hg
theorem A8U {C:A0X}{sc:List Cl}:∀ {l:List Ex}{m:MR},(A0e C sc l m).2.err=0→m.err=0
 | [],m,h=>by rw[A0e] at h;exact h
 |e::l,m,h=>by rw[A0e] at h;exact B3p (B3b (A8U h))
theorem A7v {f:List Cl→MR→Int×MR}{b:SR→SR}{k:Nat}{s:SR} (h:(A0F f b k s).m.err=0):s.m.err=0:=by
 cases k with
 |zero=>rw[A0F] at h;exact h
 |succ k=>
  rw[A0F] at h
  by_cases hg:s.m.go=false
  ·rw[if_pos hg] at h;exact B3p (A2N h)
  ·exact B3p (by simpa using hg)
theorem A1c {C:A0X}:∀ {l:List Stm}{s:SR},(goR C l s).1.m.err=0→s.m.err=0∧(goR C l s).2=true
 | [],s,h=>by rw[goR] at h ⊢;exact⟨h,rfl⟩
 |x::l,s,h=>by
  rw[goR] at h ⊢
  by_cases he:s.m.err≠0
  ·rw[if_pos he] at h;exact absurd h he
  ·rw[if_neg he] at h ⊢
   exact⟨by omega,(A1c h).2⟩
def NmS (L:List Lc) (B:List Cl):Prop:=B.map (·.name)=L.map (·.name)
def A2f (n:Nat) (L:List Lc) (A B:List Cl):Prop:= ∀(i:Nat) (a b:Cl) (l:Lc),A[i]?=some a→B[i]?=some b→L[i]?=some l→S9 l.at_ n=true→a.n=b.n
theorem A2f.refl (n:Nat) (L:List Lc) (A:List Cl):A2f n L A A:=fun i a b l h1 h2 _ _=>by rw[h1] at h2;cases h2;rfl
theorem A2f.symm {n:Nat}{L:List Lc}{A B:List Cl} (h:A2f n L A B):A2f n L B A:=fun i a b l h1 h2 h3 h4=>(h i b a l h2 h1 h3 h4).symm
theorem NmS.len {L:List Lc}{B:List Cl} (h:NmS L B):B.length=L.length:=by
 have:=congrArg List.length h
 simpa using this
theorem A7l:∀ {A B:List Cl} (n:List UInt8),A.map (·.name)=B.map (·.name)→A1S A n=A1S B n
 | [],[],_,_=>rfl
 | [],b::B,_,h=>by simp at h
 |a::A,[],_,h=>by simp at h
 |a::A,b::B,n,h=>by
  simp only[List.map_cons,List.cons.injEq] at h
  rw[A1S,A1S,A7l n h.2,h.1]
theorem A5K:∀ {L:List Lc}{B:List Cl} (n:List UInt8),NmS L B→(A1S B n=none∧A0g L n=none)∨∃i l,A1S B n=some i∧A0g L n=some l∧L[i]?=some l
 | [],[],_,_=> .inl ⟨rfl,rfl⟩
 | [],b::B,_,h=>by simp[NmS] at h
 |a::A,[],_,h=>by simp[NmS] at h
 |a::A,b::B,n,h=>by
  simp only[NmS,List.map_cons,List.cons.injEq] at h
  rw[A1S,A0g]
  rcases A5K (L:=A) (B:=B) n h.2 with ⟨h1,h2⟩|⟨i,l,h1,h2,h3⟩
  ·rw[h1,h2]
   dsimp only
   rw[h.1]
   by_cases he:a.name=n
   ·rw[if_pos he,if_pos he];exact .inr ⟨0,a,rfl,rfl,rfl⟩
   ·rw[if_neg he,if_neg he];exact .inl ⟨rfl,rfl⟩
  ·rw[h1,h2]
   exact .inr ⟨i+1,l,rfl,rfl,by rw[List.getElem?_cons_succ];exact h3⟩
theorem B6Z {n:Nat}{L:List Lc}{A B:List Cl} (hA:NmS L A) (hB:NmS L B) (h:A2f n L A B) {nm:List UInt8} (hl:S9 (A3E L nm) n=true):B15 A nm=B15 B nm:=by
 have e:=A7l nm (hA.trans hB.symm)
 rw[B15,B15,e]
 rcases A5K nm hB with ⟨h1,h2⟩|⟨i,l,h1,h2,h3⟩
 ·rw[h1]
 ·rw[h1]
  dsimp only
  rw[A3E,h2] at hl
  have hi:=(List.getElem?_eq_some_iff.1 h3).1
  have ha:i<A.length:=by rw[hA.len];exact hi
  have hb:i<B.length:=by rw[hB.len];exact hi
  rw[List.getD_eq_getElem?_getD,List.getD_eq_getElem?_getD,List.getElem?_eq_getElem ha,List.getElem?_eq_getElem hb]
  exact h i _ _ l (List.getElem?_eq_getElem ha) (List.getElem?_eq_getElem hb) h3 hl
theorem B07 {L:List Lc}{B:List Cl} (h:NmS L B) (nm:List UInt8) (v:Int):NmS L (A7J B nm v):=by
 rw[A7J]
 split
 ·rename_i i hi
  rw[NmS, ←h]
  apply List.ext_getElem?
  intro j
  rw[List.getElem?_map,List.getElem?_map,List.getElem?_set]
  split
  ·rename_i e
   subst e
   split
   ·rename_i hl
    rw[List.getElem?_eq_getElem hl,List.getD_eq_getElem?_getD,List.getElem?_eq_getElem hl];rfl
   ·rename_i hl
    rw[List.getElem?_eq_none (by omega)]
  ·rfl
 ·exact h
theorem B84 {n:Nat}{L:List Lc}{A B:List Cl} (hB:NmS L B) (h:A2f n L A B) {nm:List UInt8} (hl:S9 (A3E L nm) n=false) (v:Int):A2f n L A (A7J B nm v):=by
 rw[A7J]
 rcases A5K nm hB with ⟨h1,h2⟩|⟨i,l,h1,h2,h3⟩
 ·rw[h1];exact h
 ·rw[h1]
  dsimp only
  intro j a b l' h4 h5 h6 h7
  rw[List.getElem?_set] at h5
  split at h5
  ·rename_i e
   subst e
   rw[h3] at h6
   cases h6
   rw[A3E,h2] at hl
   dsimp only at hl
   rw[hl] at h7;cases h7
  ·exact h j a b l' h4 h5 h6 h7
theorem B7P {n:Nat}{L:List Lc}{A B:List Cl} (hA:NmS L A) (hB:NmS L B) (h:A2f n L A B) {nm:List UInt8}{v v':Int} (hl:S9 (A3E L nm) n=true→v=v'):A2f n L (A7J A nm v) (A7J B nm v'):=by
 have e:=A7l nm (hA.trans hB.symm)
 rw[A7J,A7J,e]
 rcases A5K nm hB with ⟨h1,h2⟩|⟨i,l,h1,h2,h3⟩
 ·rw[h1];exact h
 ·rw[h1]
  dsimp only
  intro j a b l' h4 h5 h6 h7
  rw[List.getElem?_set] at h4 h5
  split at h5
  ·rename_i e
   subst e
   rw[if_pos rfl] at h4
   rw[h3] at h6
   cases h6
   rw[A3E,h2] at hl
   split at h4
   ·split at h5
    ·cases h4;cases h5;exact hl h7
    ·cases h5
   ·cases h4
  ·rename_i e
   rw[if_neg e] at h4
   exact h j a b l' h4 h5 h6 h7
def A8w (its:List Itm) (n:Nat) (C:A0X):Prop:= ∀(nm:List UInt8) (j:Nat),Q8 its 2 nm=some j→S9 (A2z its (N9 its j).sends) n=false→∀args m,U1 its (C nm args m).2.ev n=U1 its m.ev n
theorem B17 {u n l:Nat} (hu:S9 u n=false) (h:S9 u l=true):S9 l n=false:=by
 cases hl:S9 l n
 ·rfl
 ·rw[A1w h hl] at hu;cases hu
theorem B4y {a u n:Nat} (hu:S9 u n=false):S9 (a|||u) n=false:=by rw[A2W,hu,Bool.and_false]
theorem A1I (its:List Itm) (n:Nat) (m:MR):U1 its m.step.ev n=U1 its m.ev n:=by rw[A5S]
section
variable {its:List Itm}{n own:Nat}{C:A0X}
mutual
theorem B6J (hC:A8w its n C) {sc:List Lc}{un:Nat} (hu:S9 un n=false):∀(e:Ex) (sc':List Cl) (m:MR),e.all (okE its)→B1P its sc un e→U1 its (exR C sc' e m).2.ev n=U1 its m.ev n
 | .mk k nm nn args f t,sc',m,ha,h=>by
  rw[Ex.all] at ha
  rw[B1P] at h
  rw[exR]
  have hs:=A1I its n m
  split
  ·exact hs
  ·split
   ·exact hs
   ·split
    ·exact hs
    ·rename_i k1 k2
     split
     ·rename_i k3
      exact(B3f hC hu args sc' m.step ha.2 (h.1 k3)).trans hs
     ·rename_i k3
      rcases ha.1 with h1|h1|h1|⟨k4,j,hj,_⟩
      ·exact absurd h1 k1
      ·exact absurd h1 k2
      ·exact absurd h1.1 k3
      ·obtain⟨h1,_,h2⟩:=h.2 k2 k3 k4
       exact((hC nm j hj (B17 hu (h2 j hj)) _ _).trans (B3f hC hu args sc' m.step ha.2 h1)).trans hs
theorem B3f (hC:A8w its n C) {sc:List Lc}{un:Nat} (hu:S9 un n=false):∀(l:List Ex) (sc':List Cl) (m:MR),Y4 (okE its) l→A4p its sc un l→U1 its (A0e C sc' l m).2.ev n=U1 its m.ev n
 | [],sc',m,_,_=>by rw[A0e]
 |e::l,sc',m,ha,h=>by
  rw[Y4] at ha
  rw[A4p] at h
  rw[A0e]
  exact(B3f hC hu l sc' _ ha.2 h.2).trans (B6J hC hu e sc' m ha.1 h.1)
 end
structure HiTo (its:List Itm) (n own:Nat) (L:List Lc) (A:List Cl) (s s':SR):Prop where
 nm:NmS L s'.sc
 low:A2f n L A s'.sc
 len:s.sc.length≤s'.sc.length
 ev:U1 its s'.m.ev n=U1 its s.m.ev n
 back:S9 own n=true→s'.back=s.back
theorem HiTo.trans {L L':List Lc}{A:List Cl}{a b c:SR} (h:HiTo its n own L A a b) (g:HiTo its n own L' A b c):HiTo its n own L' A a c:=
 ⟨g.nm,g.low,Nat.le_trans h.len g.len,g.ev.trans h.ev,fun ho=>(g.back ho).trans (h.back ho)⟩
theorem HiTo.same {L:List Lc}{A:List Cl}{s:SR} (hN:NmS L s.sc) (hL:A2f n L A s.sc) {m:MR} (hm:U1 its m.ev n=U1 its s.m.ev n):HiTo its n own L A s { s with m:=m}:=
 ⟨hN,hL,Nat.le_refl _,hm,fun _=>rfl⟩
def B1m (its:List Itm) (n own:Nat) (L:List Lc) (A:List Cl) (b:SR→SR):Prop:= ∀s:SR,NmS L s.sc→A2f n L A s.sc→A.length≤s.sc.length→(b s).m.err=0→HiTo its n own L A s (b s)
theorem A6P {L:List Lc}{A:List Cl}{f:List Cl→MR→Int×MR}{b:SR→SR} (hf:∀sc m,U1 its (f sc m).2.ev n=U1 its m.ev n) (hb:B1m its n own L A b):
  ∀(k:Nat) (s:SR),NmS L s.sc→A2f n L A s.sc→A.length≤s.sc.length→(A0F f b k s).m.err=0→HiTo its n own L A s (A0F f b k s)
 |0,s,hN,hL,_,_=>by rw[A0F];exact .same hN hL rfl
 |k+1,s,hN,hL,hA,h=>by
  rw[A0F] at h ⊢
  have h1:=(hf s.sc s.m.step).trans (A1I its n s.m)
  by_cases hg:s.m.go=false
  ·rw[if_pos hg];exact .same hN hL (A1I its n s.m)
  rw[if_neg hg] at h ⊢
  split at h
  ·rename_i hc
   rw[if_pos hc]
   have h2:=hb { s with m:=(f s.sc s.m.step).2} hN hL hA (A7v h)
   have h3:=A6P hf hb k _ h2.nm h2.low (Nat.le_trans hA h2.len) h
   exact(HiTo.trans (.same hN hL h1) h2).trans h3
  ·rename_i hc
   rw[if_neg hc]
   exact .same hN hL h1
theorem NmS.snoc {L:List Lc}{B:List Cl} (h:NmS L B) (nm:List UInt8) (lb:Nat) (v:Int):NmS (L++ [⟨nm,lb⟩]) (B++ [⟨nm,v⟩]):=by
 rw[NmS,List.map_append,List.map_append,h];rfl
theorem A2f.snoc {L:List Lc}{A B:List Cl} (hB:NmS L B) (h:A2f n L A B) (hA:A.length≤B.length) (x:Lc) (y:Cl):A2f n (L++ [x]) A (B++ [y]):=by
 intro i a b l h1 h2 h3 h4
 have hi:=(List.getElem?_eq_some_iff.1 h1).1
 rw[List.getElem?_append_left (by omega)] at h2
 rw[List.getElem?_append_left (by have:=hB.len;omega)] at h3
 exact h i a b l h1 h2 h3 h4
theorem NmS.take {L L':List Lc}{B:List Cl} (h:NmS L' B) (hp:L<+:L'):NmS L (B.take L.length):=by
 obtain⟨M,rfl⟩:=hp
 rw[NmS,List.map_take,h,List.map_append,List.take_append_of_le_length (by simp), ←List.map_take,List.take_length]
theorem A2f.take {L L':List Lc}{A B:List Cl} (h:A2f n L' A B) (hp:L<+:L'):A2f n L A (B.take L.length):=by
 obtain⟨M,rfl⟩:=hp
 intro i a b l h1 h2 h3 h4
 have hi:=(List.getElem?_eq_some_iff.1 h3).1
 rw[List.getElem?_take_of_lt hi] at h2
 exact h i a b l h1 h2 (by rw[List.getElem?_append_left hi];exact h3) h4
theorem A8r {L L':List Lc}{A:List Cl}{s:SR}{r:SR×Bool} (hN:NmS L s.sc) (hp:L<+:L') (h:HiTo its n own L' A s r.1) (hr:r.2=true):HiTo its n own L A s (A04 s.sc.length r):=by
 rw[A04,if_pos hr]
 have e:=hN.len
 refine⟨?_,?_,?_,h.ev,h.back⟩
 ·show NmS L (r.1.sc.take s.sc.length)
  rw[e];exact h.nm.take hp
 ·show A2f n L A (r.1.sc.take s.sc.length)
  rw[e];exact h.low.take hp
 ·show s.sc.length≤(r.1.sc.take s.sc.length).length
  rw[List.length_take];have:=h.len;omega
theorem B4S (its:List Itm) (x:Stm) (sc:List Lc) (un:Nat):sc<+:scF its x sc un:=by
 rw[scF]
 split
 ·exact List.prefix_append _ _
 ·exact List.prefix_refl _
mutual
theorem B9d (hC:A8w its n C):∀(x:Stm) {L:List Lc}{un:Nat}{A:List Cl}{s:SR},x.all (okE its) (okS its)→A9p its own x L un→S9 un n=false→NmS L s.sc→A2f n L A s.sc→A.length≤s.sc.length→
  (A3S C x s).m.err=0→HiTo its n own (scF its x L un) A s (A3S C x s)
 | .mk k nm a lb o e thn els f t,L,un,A,s,ha,hx,hu,hN,hL,hA,h=>by
  rw[Stm.all] at ha
  rw[A9p] at hx
  obtain⟨x1,x2,x3,x4,x5,x6⟩:=hx
  have hlab:S9 (A2Z its L k un e) n=false:=by
   rw[A2Z,unF]
   split
   ·exact B4y (B4y hu)
   ·exact B4y hu
  have hun:S9 (unF its L k un e) n=false:=by
   rw[unF]
   split
   ·exact B4y hu
   ·exact hu
  have hq:=fun sc' m=>B6J (C:=C) hC hun e sc' m ha.2.1 x1
  have hT:k=3∨k=4→B1m its n own L A (fun s=>A04 s.sc.length (goR C thn s)):=fun h34 s hN hL hA h=>by
   dsimp only at h ⊢
   rw[A1n] at h
   obtain⟨L',hp,h2⟩:=A8Z hC thn ha.2.2.1 (x6 h34).1 hlab hN hL hA h
   exact A8r hN hp h2 (A1c h).2
  have hE:k=3∨k=4→B1m its n own L A (fun s=>A04 s.sc.length (goR C els s)):=fun h34 s hN hL hA h=>by
   dsimp only at h ⊢
   rw[A1n] at h
   obtain⟨L',hp,h2⟩:=A8Z hC els ha.2.2.2 (x6 h34).2 hlab hN hL hA h
   exact A8r hN hp h2 (A1c h).2
  have hsc:k≠1→scF its (.mk k nm a lb o e thn els f t) L un=L:=fun hk=>by rw[scF];exact if_neg hk
  rw[A3S] at h ⊢
  by_cases k4:k=4
  ·rw[if_pos k4] at h ⊢
   rw[hsc (by omega)]
   exact A6P hq (hT (.inr k4)) _ s hN hL hA h
  rw[if_neg k4] at h ⊢
  by_cases hg:s.m.go=false
  ·rw[if_pos hg] at h
   have:=A2N h
   rw[hg] at this;cases this
  rw[if_neg hg] at h ⊢
  by_cases he:(exR C s.sc e s.m.step).2.err≠0
  ·rw[if_pos he] at h;exact absurd h he
  rw[if_neg he] at h ⊢
  have hm:=(hq s.sc s.m.step).trans (A1I its n s.m)
  by_cases k1:k=1
  ·rw[if_pos k1]
   have e1:scF its (.mk k nm a lb o e thn els f t) L un=L++ [⟨nm,if o=true then A2Z its L k un e else lb⟩]:=by rw[scF];exact if_pos k1
   rw[e1]
   exact⟨hN.snoc _ _ _,hL.snoc hN hA _ _,by dsimp only;rw[List.length_append];omega,hm,fun _=>rfl⟩
  rw[if_neg k1] at h ⊢
  rw[hsc k1]
  by_cases k2:k=2
  ·rw[if_pos k2]
   exact⟨B07 hN _ _,B84 hN hL (B17 hlab (x3 k2)) _,by dsimp only;rw[A9l];exact Nat.le_refl _,hm,fun _=>rfl⟩
  rw[if_neg k2] at h ⊢
  by_cases k5:k=5
  ·rw[if_pos k5]
   refine⟨hN,hL,Nat.le_refl _,?_,fun _=>rfl⟩
   show U1 its ((exR C s.sc e s.m.step).2.ev++ [_]) n=_
   obtain⟨j,hj⟩:=ha.1 k5
   have:A4a its n ⟨nm,(exR C s.sc e s.m.step).1⟩=false:=by
    rw[A4a]
    dsimp only
    rw[hj]
    exact B17 hlab (x4 k5 j hj)
   rw[U1,List.filter_append,List.filter_cons_of_neg (by rw[this];simp),List.filter_nil,List.append_nil]
   exact hm
  rw[if_neg k5] at h ⊢
  by_cases k6:k=6
  ·rw[if_pos k6]
   refine⟨hN,hL,Nat.le_refl _,hm,fun ho=>?_⟩
   have:=B17 hlab (x5 k6)
   rw[this] at ho;cases ho
  rw[if_neg k6] at h ⊢
  by_cases k3:k=3
  ·rw[if_pos k3] at h ⊢
   split at h
   ·rename_i hc
    rw[if_pos hc]
    exact HiTo.trans (.same hN hL hm) (hT (.inl k3) { s with m:=(exR C s.sc e s.m.step).2} hN hL hA h)
   ·rename_i hc
    rw[if_neg hc]
    exact HiTo.trans (.same hN hL hm) (hE (.inl k3) { s with m:=(exR C s.sc e s.m.step).2} hN hL hA h)
  rw[if_neg k3]
  exact .same hN hL hm
theorem A8Z (hC:A8w its n C):∀(l:List Stm) {L:List Lc}{un:Nat}{A:List Cl}{s:SR},P6 (okE its) (okS its) l→A4j its own l L un→S9 un n=false→NmS L s.sc→A2f n L A s.sc→A.length≤s.sc.length→
  (goR C l s).1.m.err=0→∃L',L<+:L'∧HiTo its n own L' A s (goR C l s).1
 | [],L,un,A,s,_,_,_,hN,hL,_,_=>by rw[goR];exact⟨L,List.prefix_refl _,.same hN hL rfl⟩
 |x::l,L,un,A,s,ha,hx,hu,hN,hL,hA,h=>by
  rw[P6] at ha
  rw[A4j] at hx
  have h0:=(A1c h).1
  rw[goR,if_neg (by omega)] at h ⊢
  have h1:=B9d hC x ha.1 hx.1 hu hN hL hA (A1c h).1
  obtain⟨L',hp,h2⟩:=A8Z hC l ha.2 hx.2 hu h1.nm h1.low (Nat.le_trans hA h1.len) h
  exact⟨L',(B4S its x L un).trans hp,h1.trans h2⟩
 end
end
def A8v (its:List Itm) (n:Nat) (C:A0X):Prop:= ∀(nm:List UInt8) (j:Nat),Q8 its 2 nm=some j→∀(args args':List Int) (m m':MR),args.length=(N9 its j).params.length→args'.length=(N9 its j).params.length→
 (∀(i:Nat) (p:Par) (a a':Int),(N9 its j).params[i]?=some p→args[i]?=some a→args'[i]?=some a'→S9 p.label n=true→a=a')→U1 its m.ev n=U1 its m'.ev n→(C nm args m).2.err=0→(C nm args' m').2.err=0→
 U1 its (C nm args m).2.ev n=U1 its (C nm args' m').2.ev n∧(S9 (N9 its j).label n=true→(C nm args m).1=(C nm args' m').1)
def B1o (C:A0X):Prop:= ∀nm args m,(C nm args m).2.err=0→m.err=0
theorem A9f {its:List Itm}{sc:List Lc}{n:Nat}:∀ {l:List Ex}{a:Nat},S9 (plainsF its sc l a) n=true→S9 a n=true∧∀e∈l,S9 (plainF its sc e) n=true
 | [],a,h=>by rw[plainsF] at h;exact⟨h,fun _ h=>(by cases h)⟩
 |e::l,a,h=>by
  rw[plainsF] at h
  obtain⟨h1,h2⟩:=A9f h
  rw[A2W,Bool.and_eq_true] at h1
  refine⟨h1.1,fun x hx=>?_⟩
  rcases List.mem_cons.1 hx with rfl|hx
  ·exact h1.2
  ·exact h2 x hx
theorem B4i {its:List Itm}{sc:List Lc}{un:Nat}{nm:List UInt8}:∀ {l:List Ex}{i0:Nat},A57 its sc un nm l i0→∀(i:Nat) (e:Ex) (j:Nat) (p:Par),l[i]?=some e→Q8 its 2 nm=some j→(N9 its j).params[i0+i]?=some p→S9 (plainF its sc e|||un) p.label=true
 | [],i0,_,i,e,j,p,h1,_,_=>by simp at h1
 |x::l,i0,h,i,e,j,p,h1,h2,h3=>by
  rw[A57] at h
  cases i with
  |zero=>
   simp only[List.getElem?_cons_zero,Option.some.injEq] at h1
   subst h1
   exact h.1 j p h2 h3
  |succ i=>
   rw[List.getElem?_cons_succ] at h1
   exact B4i h.2 i e j p h1 h2 (by rw[←h3];congr 1;omega)
theorem B4t {C:A0X}{sc:List Cl}{k:Nat}{nm:List UInt8}{nn:Nat}{args:List Ex}{f t:Nat}{m:MR} (hg:m.go=true):exR C sc (.mk k nm nn args f t) m=if k=1 then ((nn:Int),m.step) else if k=2 then (B15 sc nm,m.step) else
  if k=3 then (opR nm ((A0e C sc args m.step).1.getD 0 0) ((A0e C sc args m.step).1.getD 1 0),(A0e C sc args m.step).2) else C nm (A0e C sc args m.step).1 (A0e C sc args m.step).2:=by
 rw[exR,if_neg (by rw[hg];simp)]
section
variable {its:List Itm}{n own:Nat}{C:A0X}
mutual
theorem B3c (hC:A8v its n C) (hE:B1o C) {L:List Lc}{A B:List Cl} (hA:NmS L A) (hB:NmS L B) (hL:A2f n L A B) {un:Nat}:∀(e:Ex) {m m':MR},e.all (okE its)→B1P its L un e→(exR C A e m).2.err=0→(exR C B e m').2.err=0→
  U1 its m.ev n=U1 its m'.ev n→U1 its (exR C A e m).2.ev n=U1 its (exR C B e m').2.ev n∧(S9 (plainF its L e) n=true→(exR C A e m).1=(exR C B e m').1)
 | .mk k nm nn args f t,m,m',ha,hx,h,h',hs=>by
  have hg:=B3b h
  have hg':=B3b h'
  have hs1:U1 its m.step.ev n=U1 its m'.step.ev n:=by rw[A1I,A1I];exact hs
  rw[Ex.all] at ha
  rw[B1P] at hx
  rw[B4t hg] at h ⊢
  rw[B4t hg'] at h' ⊢
  by_cases k1:k=1
  ·rw[if_pos k1,if_pos k1];exact⟨hs1,fun _=>rfl⟩
  rw[if_neg k1] at h h' ⊢
  rw[if_neg k1]
  by_cases k2:k=2
  ·rw[if_pos k2,if_pos k2]
   refine⟨hs1,fun hl=>?_⟩
   rw[plainF,if_pos k2] at hl
   exact B6Z hA hB hL hl
  rw[if_neg k2] at h h' ⊢
  rw[if_neg k2]
  by_cases k3:k=3
  ·rw[if_pos k3] at h h' ⊢
   rw[if_pos k3]
   obtain⟨h1,h2⟩:=B0A hC hE hA hB hL args ha.2 (hx.1 k3) h h' hs1
   refine⟨h1,fun hl=>?_⟩
   rw[plainF,if_neg k2,if_pos k3] at hl
   have e:(A0e C A args m.step).1=(A0e C B args m'.step).1:=by
    apply List.ext_getElem (by rw[A2x,A2x])
    intro i hi hi'
    rw[A2x] at hi
    exact h2 i _ _ _ (List.getElem?_eq_getElem hi) (List.getElem?_eq_getElem _) (List.getElem?_eq_getElem _) ((A9f hl).2 _ (List.getElem_mem hi))
   show opR nm _ _=opR nm _ _
   rw[e]
  ·rw[if_neg k3] at h h' ⊢
   rw[if_neg k3]
   rcases ha.1 with q|q|q|⟨k4,j,hj,hlen⟩
   ·exact absurd q k1
   ·exact absurd q k2
   ·exact absurd q.1 k3
   ·obtain⟨x1,x2,_⟩:=hx.2 k2 k3 k4
    obtain⟨h1,h2⟩:=B0A hC hE hA hB hL args ha.2 x1 (hE _ _ _ h) (hE _ _ _ h') hs1
    obtain⟨h3,h4⟩:=hC nm j hj _ _ _ _ (by rw[A2x];exact hlen.symm) (by rw[A2x];exact hlen.symm) (fun i p a a' q1 q2 q3 q4=>by
     have hi:=(List.getElem?_eq_some_iff.1 q2).1
     rw[A2x] at hi
     have q5:=B4i x2 i _ j p (List.getElem?_eq_getElem hi) hj (by rw[Nat.zero_add];exact q1)
     rw[A2W,Bool.and_eq_true] at q5
     exact h2 i _ a a' (List.getElem?_eq_getElem hi) q2 q3 (A1w q5.1 q4)) h1 h h'
    refine⟨h3,fun hl=>h4 ?_⟩
    rw[plainF,if_neg k2,if_neg k3,if_pos k4,callLab,hj] at hl
    exact hl
theorem B0A (hC:A8v its n C) (hE:B1o C) {L:List Lc}{A B:List Cl} (hA:NmS L A) (hB:NmS L B) (hL:A2f n L A B) {un:Nat}:∀(l:List Ex) {m m':MR},Y4 (okE its) l→A4p its L un l→(A0e C A l m).2.err=0→(A0e C B l m').2.err=0→
  U1 its m.ev n=U1 its m'.ev n→U1 its (A0e C A l m).2.ev n=U1 its (A0e C B l m').2.ev n∧∀(i:Nat) (e:Ex) (a a':Int),l[i]?=some e→(A0e C A l m).1[i]?=some a→(A0e C B l m').1[i]?=some a'→S9 (plainF its L e) n=true→a=a'
 | [],m,m',_,_,_,_,hs=>by rw[A0e,A0e];exact⟨hs,fun i e a a' h=>by simp at h⟩
 |x::l,m,m',ha,hx,h,h',hs=>by
  rw[Y4] at ha
  rw[A4p] at hx
  rw[A0e] at h ⊢
  rw[A0e] at h' ⊢
  obtain⟨h1,h2⟩:=B3c hC hE hA hB hL x ha.1 hx.1 (A8U h) (A8U h') hs
  obtain⟨h3,h4⟩:=B0A hC hE hA hB hL l ha.2 hx.2 h h' h1
  refine⟨h3,fun i e a a' q1 q2 q3 q4=>?_⟩
  cases i with
  |zero=>
   simp only[List.getElem?_cons_zero,Option.some.injEq] at q1 q2 q3
   subst q1;subst q2;subst q3
   exact h2 q4
  |succ i=>
   rw[List.getElem?_cons_succ] at q1 q2 q3
   exact h4 i e a a' q1 q2 q3 q4
 end
structure LoTo (its:List Itm) (n own:Nat) (L:List Lc) (s t:SR):Prop where
 a:NmS L s.sc
 b:NmS L t.sc
 low:A2f n L s.sc t.sc
 ev:U1 its s.m.ev n=U1 its t.m.ev n
 back:S9 own n=true→s.back=t.back
theorem LoTo.hi {L:List Lc}{s s' t t':SR} (h:LoTo its n own L s t) (hs:HiTo its n own L s.sc s s') (ht:HiTo its n own L t.sc t t'):LoTo its n own L s' t':=by
 refine⟨hs.nm,ht.nm,fun i a b l h1 h2 h3 h4=>?_,hs.ev.trans (h.ev.trans ht.ev.symm),fun ho=>(hs.back ho).trans ((h.back ho).trans (ht.back ho).symm)⟩
 have hi:=(List.getElem?_eq_some_iff.1 h3).1
 have i1:i<s.sc.length:=by rw[h.a.len];exact hi
 have i2:i<t.sc.length:=by rw[h.b.len];exact hi
 have e1:=List.getElem?_eq_getElem i1
 have e2:=List.getElem?_eq_getElem i2
 exact(hs.low i _ _ l e1 h1 h3 h4).symm.trans ((h.low i _ _ l e1 e2 h3 h4).trans (ht.low i _ _ l e2 h2 h3 h4))
def B56 (its:List Itm) (n own:Nat) (L:List Lc) (b:SR→SR):Prop:= ∀s t:SR,LoTo its n own L s t→(b s).m.err=0→(b t).m.err=0→LoTo its n own L (b s) (b t)
end
section
variable {its:List Itm}{n own:Nat}{C:A0X}
theorem A96 {f:List Cl→MR→Int×MR}{b:SR→SR}{k:Nat}{s:SR} (hg:s.m.go=true):
  A0F f b (k+1) s=if (f s.sc s.m.step).1≠0∧(f s.sc s.m.step).2.err=0 then A0F f b k (b { s with m:=(f s.sc s.m.step).2}) else { s with m:=(f s.sc s.m.step).2}:=by
 rw[A0F,if_neg (by rw[hg];simp)]
theorem B2b {f:List Cl→MR→Int×MR}{b:SR→SR}{k:Nat}{s:SR} (h:(A0F f b (k+1) s).m.err=0):s.m.go=true:=by
 rw[A0F] at h
 by_cases hg:s.m.go=false
 ·rw[if_pos hg] at h;exact A2N h
 ·simpa using hg
theorem LoTo.m {L:List Lc}{s t:SR} (h:LoTo its n own L s t) {m m':MR} (hs:U1 its m.ev n=U1 its m'.ev n):LoTo its n own L { s with m:=m} { t with m:=m'}:=
 ⟨h.a,h.b,h.low,hs,h.back⟩
theorem B2c {L:List Lc}{f:List Cl→MR→Int×MR}{b:SR→SR} (hf:∀(A B:List Cl) (m m':MR),NmS L A→NmS L B→A2f n L A B→U1 its m.ev n=U1 its m'.ev n→(f A m).2.err=0→(f B m').2.err=0→
   U1 its (f A m).2.ev n=U1 its (f B m').2.ev n∧(f A m).1=(f B m').1) (hb:B56 its n own L b):
  ∀(k:Nat) (s t:SR),LoTo its n own L s t→(A0F f b k s).m.err=0→(A0F f b k t).m.err=0→LoTo its n own L (A0F f b k s) (A0F f b k t)
 |0,s,t,h,_,_=>by rw[A0F,A0F];exact h
 |k+1,s,t,h,h1,h2=>by
  have g1:=B2b h1
  have g2:=B2b h2
  rw[A96 g1] at h1 ⊢
  rw[A96 g2] at h2 ⊢
  have e1:(f s.sc s.m.step).2.err=0:=by
   split at h1
   ·rename_i hc;exact hc.2
   ·exact h1
  have e2:(f t.sc t.m.step).2.err=0:=by
   split at h2
   ·rename_i hc;exact hc.2
   ·exact h2
  obtain⟨q1,q2⟩:=hf s.sc t.sc s.m.step t.m.step h.a h.b h.low (by rw[A1I,A1I];exact h.ev) e1 e2
  have q3:(f s.sc s.m.step).1≠0↔(f t.sc t.m.step).1≠0:=by rw[q2]
  by_cases hc:(f t.sc t.m.step).1≠0
  ·have p1:(f s.sc s.m.step).1≠0∧(f s.sc s.m.step).2.err=0:=⟨q3.2 hc,e1⟩
   have p2:(f t.sc t.m.step).1≠0∧(f t.sc t.m.step).2.err=0:=⟨hc,e2⟩
   simp only[if_pos p1] at h1 ⊢
   simp only[if_pos p2] at h2 ⊢
   exact B2c hf hb k _ _ (hb _ _ (h.m q1) (A7v h1) (A7v h2)) h1 h2
  ·have p1:¬((f s.sc s.m.step).1≠0∧(f s.sc s.m.step).2.err=0):=fun x=>hc (q3.1 x.1)
   have p2:¬((f t.sc t.m.step).1≠0∧(f t.sc t.m.step).2.err=0):=fun x=>hc x.1
   simp only[if_neg p1,if_neg p2]
   exact h.m q1
theorem A2f.snoc2 {L:List Lc}{A B:List Cl} (hA:NmS L A) (hB:NmS L B) (h:A2f n L A B) (x:Lc) (y z:Cl) (hyz:S9 x.at_ n=true→y.n=z.n):A2f n (L++ [x]) (A++ [y]) (B++ [z]):=by
 intro i a b l h1 h2 h3 h4
 have l1:=hA.len
 have l2:=hB.len
 by_cases hi:i<L.length
 ·rw[List.getElem?_append_left (by omega)] at h1 h2 h3
  exact h i a b l h1 h2 h3 h4
 ·rw[List.getElem?_append_right (by omega)] at h1 h2 h3
  have hl:=(List.getElem?_eq_some_iff.1 h3).1
  rw[List.length_singleton] at hl
  rw[show i-A.length=0 by omega] at h1
  rw[show i-B.length=0 by omega] at h2
  rw[show i-L.length=0 by omega] at h3
  cases h1;cases h2;cases h3
  exact hyz h4
theorem B08 {L L':List Lc}{s t:SR}{p q:SR×Bool} (hs:LoTo its n own L s t) (hp:L<+:L') (h:LoTo its n own L' p.1 q.1) (h1:p.2=true) (h2:q.2=true):LoTo its n own L (A04 s.sc.length p) (A04 t.sc.length q):=by
 rw[A04,if_pos h1,A04,if_pos h2]
 have e1:=hs.a.len
 have e2:=hs.b.len
 refine⟨?_,?_,?_,h.ev,h.back⟩
 ·show NmS L (p.1.sc.take s.sc.length)
  rw[e1];exact h.a.take hp
 ·show NmS L (q.1.sc.take t.sc.length)
  rw[e2];exact h.b.take hp
 ·show A2f n L (p.1.sc.take s.sc.length) (q.1.sc.take t.sc.length)
  rw[e1,e2]
  intro i a b l q1 q2 q3 q4
  have hi:=(List.getElem?_eq_some_iff.1 q3).1
  rw[List.getElem?_take_of_lt hi] at q1
  exact h.low.take hp i a b l q1 q2 q3 q4
mutual
theorem B9e (hC:A8v its n C) (hQ:A8w its n C) (hE:B1o C):∀(x:Stm) {L:List Lc}{un:Nat}{s t:SR},x.all (okE its) (okS its)→A9p its own x L un→S9 un n=true→LoTo its n own L s t→
  (A3S C x s).m.err=0→(A3S C x t).m.err=0→LoTo its n own (scF its x L un) (A3S C x s) (A3S C x t)
 | .mk k nm a lb o e thn els f t',L,un,s,t,ha,hx,hu,hR,h,h'=>by
  have hx0:=hx
  rw[Stm.all] at ha
  rw[A9p] at hx
  obtain⟨x1,x2,x3,x4,x5,x6⟩:=hx
  have hsc:k≠1→scF its (.mk k nm a lb o e thn els f t') L un=L:=fun hk=>by rw[scF];exact if_neg hk
  have hT:S9 (A2Z its L k un e) n=true→k=3∨k=4→B56 its n own L (fun s=>A04 s.sc.length (goR C thn s)):=fun hl h34 s t hR h h'=>by
   dsimp only at h h' ⊢
   rw[A1n] at h h'
   obtain⟨L',hp,h2⟩:=B0C hC hQ hE thn ha.2.2.1 (x6 h34).1 hl hR h h'
   exact B08 hR hp h2 (A1c h).2 (A1c h').2
  have hF:S9 (A2Z its L k un e) n=true→k=3∨k=4→B56 its n own L (fun s=>A04 s.sc.length (goR C els s)):=fun hl h34 s t hR h h'=>by
   dsimp only at h h' ⊢
   rw[A1n] at h h'
   obtain⟨L',hp,h2⟩:=B0C hC hQ hE els ha.2.2.2 (x6 h34).2 hl hR h h'
   exact B08 hR hp h2 (A1c h).2 (A1c h').2
  have hTq:S9 (A2Z its L k un e) n=false→k=3∨k=4→∀A,B1m its n own L A (fun s=>A04 s.sc.length (goR C thn s)):=fun hl h34 A s hN hL hA h=>by
   dsimp only at h ⊢
   rw[A1n] at h
   obtain⟨L',hp,h2⟩:=A8Z hQ thn ha.2.2.1 (x6 h34).1 hl hN hL hA h
   exact A8r hN hp h2 (A1c h).2
  have hFq:S9 (A2Z its L k un e) n=false→k=3∨k=4→∀A,B1m its n own L A (fun s=>A04 s.sc.length (goR C els s)):=fun hl h34 A s hN hL hA h=>by
   dsimp only at h ⊢
   rw[A1n] at h
   obtain⟨L',hp,h2⟩:=A8Z hQ els ha.2.2.2 (x6 h34).2 hl hN hL hA h
   exact A8r hN hp h2 (A1c h).2
  by_cases k4:k=4
  ·rw[hsc (by omega)]
   have elb:A2Z its L k un e=plainF its L e|||(plainF its L e|||un):=by rw[A2Z,unF,if_pos k4]
   rw[A3S,if_pos k4] at h ⊢
   rw[A3S,if_pos k4] at h' ⊢
   cases hl:S9 (A2Z its L k un e) n
   ·have hun:S9 (unF its L k un e) n=false:=by
     rw[elb,A2W,A2W] at hl
     rw[unF,if_pos k4,A2W]
     cases hp:S9 (plainF its L e) n
     ·rfl
     ·rw[hp] at hl;simpa using hl
    have hq:=fun sc' m=>B6J (C:=C) hQ hun e sc' m ha.2.1 x1
    exact hR.hi (A6P hq (hTq hl (.inr k4) _) _ s hR.a (.refl _ _ _) (Nat.le_refl _) h) (A6P hq (hTq hl (.inr k4) _) _ t hR.b (.refl _ _ _) (Nat.le_refl _) h')
   ·refine B2c (fun A B m m' q1 q2 q3 q4 q5 q6=>?_) (hT hl (.inr k4)) _ s t hR h h'
    obtain⟨r1,r2⟩:=B3c hC hE q1 q2 q3 e ha.2.1 x1 q5 q6 q4
    rw[elb,A2W,Bool.and_eq_true] at hl
    exact⟨r1,r2 hl.1⟩
  have eun:unF its L k un e=un:=by rw[unF,if_neg k4]
  have elb:A2Z its L k un e=plainF its L e|||un:=by rw[A2Z,eun]
  have hlow:S9 (A2Z its L k un e) n=S9 (plainF its L e) n:=by rw[elb,A2W,hu,Bool.and_true]
  rw[A3S,if_neg k4] at h ⊢
  rw[A3S,if_neg k4] at h' ⊢
  have hg:¬s.m.go=false:=fun hg=>by
   rw[if_pos hg] at h
   have:=A2N h
   rw[hg] at this;cases this
  have hg':¬t.m.go=false:=fun hg=>by
   rw[if_pos hg] at h'
   have:=A2N h'
   rw[hg] at this;cases this
  rw[if_neg hg] at h ⊢
  rw[if_neg hg'] at h' ⊢
  have he:¬(exR C s.sc e s.m.step).2.err≠0:=fun he=>by rw[if_pos he] at h;exact absurd h he
  have he':¬(exR C t.sc e t.m.step).2.err≠0:=fun he=>by rw[if_pos he] at h';exact absurd h' he
  rw[if_neg he] at h ⊢
  rw[if_neg he'] at h' ⊢
  obtain⟨r1,r2⟩:=B3c hC hE hR.a hR.b hR.low e ha.2.1 x1 (by omega) (by omega) (show U1 its s.m.step.ev n=U1 its t.m.step.ev n by rw[A1I,A1I];exact hR.ev)
  have r3:S9 (A2Z its L k un e) n=true→(exR C s.sc e s.m.step).1=(exR C t.sc e t.m.step).1:=fun hl=>r2 (hlow ▸ hl)
  have e1:=hR.a.len
  have e2:=hR.b.len
  by_cases k1:k=1
  ·rw[if_pos k1] at h ⊢
   rw[if_pos k1] at h' ⊢
   have e3:scF its (.mk k nm a lb o e thn els f t') L un=L++ [⟨nm,if o=true then A2Z its L k un e else lb⟩]:=by rw[scF];exact if_pos k1
   rw[e3]
   exact⟨hR.a.snoc _ _ _,hR.b.snoc _ _ _,hR.low.snoc2 hR.a hR.b _ _ _ (fun hl=>r3 (A1w (x2 k1) hl)),r1,hR.back⟩
  rw[if_neg k1] at h ⊢
  rw[if_neg k1] at h' ⊢
  rw[hsc k1]
  by_cases k2:k=2
  ·rw[if_pos k2] at h ⊢
   rw[if_pos k2] at h' ⊢
   exact⟨B07 hR.a _ _,B07 hR.b _ _,B7P hR.a hR.b hR.low (fun hl=>r3 (A1w (x3 k2) hl)),r1,hR.back⟩
  rw[if_neg k2] at h ⊢
  rw[if_neg k2] at h' ⊢
  by_cases k5:k=5
  ·rw[if_pos k5] at h ⊢
   rw[if_pos k5] at h' ⊢
   refine⟨hR.a,hR.b,hR.low,?_,hR.back⟩
   show U1 its ((exR C s.sc e s.m.step).2.ev++ [_]) n=U1 its ((exR C t.sc e t.m.step).2.ev++ [_]) n
   obtain⟨j,hj⟩:=ha.1 k5
   have sb:∀v,A4a its n ⟨nm,v⟩=S9 (N9 its j).label n:=fun v=>by
    rw[A4a]
    dsimp only
    rw[hj]
   rw[U1,U1,List.filter_append,List.filter_append]
   have r1':List.filter (A4a its n) (exR C s.sc e s.m.step).2.ev=List.filter (A4a its n) (exR C t.sc e t.m.step).2.ev:=r1
   rw[r1']
   congr 1
   cases hl:S9 (N9 its j).label n
   ·rw[List.filter_cons_of_neg (by rw[sb,hl];simp),List.filter_cons_of_neg (by rw[sb,hl];simp)]
   ·rw[r3 (A1w (x4 k5 j hj) hl)]
  rw[if_neg k5] at h ⊢
  rw[if_neg k5] at h' ⊢
  by_cases k6:k=6
  ·rw[if_pos k6] at h ⊢
   rw[if_pos k6] at h' ⊢
   exact⟨hR.a,hR.b,hR.low,r1,fun ho=>r3 (A1w (x5 k6) ho)⟩
  rw[if_neg k6] at h ⊢
  rw[if_neg k6] at h' ⊢
  have hR1:LoTo its n own L { s with m:=(exR C s.sc e s.m.step).2} { t with m:=(exR C t.sc e t.m.step).2}:=hR.m r1
  by_cases k3:k=3
  ·rw[if_pos k3] at h ⊢
   rw[if_pos k3] at h' ⊢
   cases hl:S9 (A2Z its L k un e) n
   ·have one:∀(s:SR) (m:MR) (c:Prop) [Decidable c],NmS L s.sc→(if c then A04 s.sc.length (goR C thn { s with m:=m}) else A04 s.sc.length (goR C els { s with m:=m})).m.err=0→
      HiTo its n own L s.sc { s with m:=m} (if c then A04 s.sc.length (goR C thn { s with m:=m}) else A04 s.sc.length (goR C els { s with m:=m})):=fun s m c _ hN h=>by
     by_cases hc:c
     ·rw[if_pos hc] at h ⊢;exact hTq hl (.inl k3) _ { s with m:=m} hN (.refl _ _ _) (Nat.le_refl _) h
     ·rw[if_neg hc] at h ⊢;exact hFq hl (.inl k3) _ { s with m:=m} hN (.refl _ _ _) (Nat.le_refl _) h
    exact hR1.hi (one _ _ _ hR.a h) (one _ _ _ hR.b h')
   ·have ev:=r3 hl
    rw[ev] at h ⊢
    by_cases hc:(exR C t.sc e t.m.step).1≠0
    ·rw[if_pos hc] at h h' ⊢
     rw[if_pos hc]
     exact hT hl (.inl k3) _ _ hR1 h h'
    ·rw[if_neg hc] at h h' ⊢
     rw[if_neg hc]
     exact hF hl (.inl k3) _ _ hR1 h h'
  rw[if_neg k3,if_neg k3]
  exact hR1
theorem B0C (hC:A8v its n C) (hQ:A8w its n C) (hE:B1o C):∀(l:List Stm) {L:List Lc}{un:Nat}{s t:SR},P6 (okE its) (okS its) l→A4j its own l L un→S9 un n=true→LoTo its n own L s t→
  (goR C l s).1.m.err=0→(goR C l t).1.m.err=0→∃L',L<+:L'∧LoTo its n own L' (goR C l s).1 (goR C l t).1
 | [],L,un,s,t,_,_,_,hR,_,_=>by rw[goR,goR];exact⟨L,List.prefix_refl _,hR⟩
 |x::l,L,un,s,t,ha,hx,hu,hR,h,h'=>by
  rw[P6] at ha
  rw[A4j] at hx
  have h0:=(A1c h).1
  have h0':=(A1c h').1
  rw[goR,if_neg (by omega)] at h ⊢
  rw[goR,if_neg (by omega)] at h' ⊢
  have h1:=B9e hC hQ hE x ha.1 hx.1 hu hR (A1c h).1 (A1c h').1
  obtain⟨L',hp,h2⟩:=B0C hC hQ hE l ha.2 hx.2 hu h1 h h'
  exact⟨L',(B4S its x L un).trans hp,h2⟩
 end
end
theorem A7g (its:List Itm):∀d,B1o (A0v its d)
 |0=>fun nm args m h=>by
  rw[A0v] at h
  split at h
  ·exact h
  ·simp at h
 |d+1=>fun nm args m h=>by
  rw[A0v] at h
  split at h
  ·exact h
  ·omega
theorem B2h (its:List Itm) (a:Nat) (x:Rf):S9 (A1e its a x) a=true:=by
 rw[A1e]
 split
 ·refine(A0E _ _).2 (fun k _ h=>?_)
  rw[Nat.testBit_and,Bool.and_eq_true] at h
  exact h.1
 ·exact A8X a
theorem B4H (its:List Itm):∀(l:List Rf) (a:Nat),S9 (l.foldl (A1e its) a) a=true∧∀x∈l,∀i,Q8 its 1 x.name=some i→S9 (l.foldl (A1e its) a) (N9 its i).label=true
 | [],a=>⟨A8X a,fun _ h=>(by cases h)⟩
 |y::l,a=>by
  rw[List.foldl_cons]
  obtain⟨h1,h2⟩:=B4H its l (A1e its a y)
  refine⟨A1w h1 (B2h its a y),fun x hx i hi=>?_⟩
  rcases List.mem_cons.1 hx with rfl|hx
  ·refine A1w h1 ?_
   rw[A1e,hi]
   refine(A0E _ _).2 (fun k _ h=>?_)
   rw[Nat.testBit_and,Bool.and_eq_true] at h
   exact h.2
  ·exact h2 x hx i hi
theorem B8n {its:List Itm} (hok:∀it∈its,it.kind=2→P6 (okE its) (okS its) it.body) (he:∀j,j<its.length→A5d its j= []) (n d:Nat):A8w its n (A0v its d):=fun nm j hj hf args m=>by
 obtain⟨r,h1,h2⟩:=A59 hok d nm j hj args m
 rw[h1,U1,U1,List.filter_append]
 have:List.filter (A4a its n) r= []:=by
  rw[List.filter_eq_nil_iff]
  intro e hev
  have hs:=he j (Y8 hj).1
  rw[A5d,List.map_eq_nil_iff,List.filter_eq_nil_iff] at hs
  have h3:=hs _ (h2 e hev)
  have h4:A4z (N9 its j) e.ch=true:=by simpa using h3
  rw[A4z,List.any_eq_true] at h4
  obtain⟨x,hx,hxe⟩:=h4
  have hxe:=of_decide_eq_true hxe
  rw[A4a]
  split
  ·rename_i i hi
   rw[B17 hf ((B4H its (N9 its j).sends 255).2 x hx i (by rw[hxe];exact hi))]
   simp
  ·simp
 rw[this,List.append_nil]
theorem B0Y:∀ {l:List Par}{args:List Int},args.length=l.length→NmS (A2s l) (A2t l args)
 | [],[],_=>rfl
 |p::l,a::args,h=>by
  have:=B0Y (l:=l) (args:=args) (by simpa using h)
  rw[NmS,A2s,A2t] at *
  simp only[List.zipWith_cons_cons,List.map_cons,this]
 | [],_::_,h=>by simp at h
 |_::_,[],h=>by simp at h
theorem B7D {n:Nat}{l:List Par}{args args':List Int} (h:∀(i:Nat) (p:Par) (a a':Int),l[i]?=some p→args[i]?=some a→args'[i]?=some a'→S9 p.label n=true→a=a'):A2f n (A2s l) (A2t l args) (A2t l args'):=by
 intro i a b lc h1 h2 h3 h4
 rw[A2s,List.getElem?_map,Option.map_eq_some_iff] at h3
 obtain⟨p,hp,rfl⟩:=h3
 rw[A2t,List.getElem?_zipWith_eq_some] at h1 h2
 obtain⟨p1,a1,q1,q2,rfl⟩:=h1
 obtain⟨p2,a2,q3,q4,rfl⟩:=h2
 exact h i p a1 a2 hp q2 q4 h4
theorem B1I {its:List Itm} (hok:∀it∈its,it.kind=2→P6 (okE its) (okS its) it.body) (he:∀j,j<its.length→A5d its j= []) (hc:∀j,j<its.length→(A19 its j (-1)).ds= []) (n:Nat):∀d,A8v its n (A0v its d)
 |0=>fun nm j hj args args' m m' _ _ _ hs h h'=>by
  rw[A0v] at h ⊢
  rw[A0v] at h' ⊢
  by_cases h1:m.err≠0
  ·rw[if_pos h1] at h;exact absurd h h1
  ·rw[if_neg h1] at h;simp at h
 |d+1=>fun nm j hj args args' m m' hl hl' ha hs h h'=>by
  have e0:=A7g its (d+1) _ _ _ h
  have e0':=A7g its (d+1) _ _ _ h'
  rw[A0v,if_neg (by omega),hj] at h ⊢
  rw[A0v,if_neg (by omega),hj] at h' ⊢
  dsimp only at h h' ⊢
  obtain⟨hjl,hjk,_,_,hmem⟩:=Y8 hj
  have hk2:(N9 its j).kind=2:=by omega
  have hck:=hc j hjl
  rw[A19,if_pos hk2] at hck
  have hst:=(A4d _ hck).2
  have hR:LoTo its n (N9 its j).label (A2s (N9 its j).params) ⟨A2t (N9 its j).params args,0,m⟩ ⟨A2t (N9 its j).params args',0,m'⟩:=
   ⟨B0Y hl,B0Y hl',B7D ha,hs,fun _=>rfl⟩
  rw[A30,A1n] at h h'
  obtain⟨L',hp,h2⟩:=B0C (B1I hok he hc n d) (B8n hok he n d) (A7g its d) _ (hok _ hmem hk2) hst (B3l n) hR h h'
  have h3:=B08 hR hp h2 (A1c h).2 (A1c h').2
  exact⟨h3.ev,h3.back⟩
theorem B3O {s:List UInt8} (h:A2I (H8 s)= []) (n:Nat) (nm:List UInt8) {j:Nat} (hj:Q8 (H8 s) 2 nm=some j) (args args':List Int) (hl:args.length=(N9 (H8 s) j).params.length) (hl':args'.length=(N9 (H8 s) j).params.length)
  (ha:∀(i:Nat) (p:Par) (a a':Int),(N9 (H8 s) j).params[i]?=some p→args[i]?=some a→args'[i]?=some a'→S9 p.label n=true→a=a')
  (hx:(A0U (H8 s) nm args).err=0) (hy:(A0U (H8 s) nm args').err=0):
  U1 (H8 s) (A0U (H8 s) nm args).ev n=U1 (H8 s) (A0U (H8 s) nm args').ev n∧(S9 (N9 (H8 s) j).label n=true→(A0U (H8 s) nm args).n=(A0U (H8 s) nm args').n):=by
 have hrun:∀a:List Int,a.length=(N9 (H8 s) j).params.length→(A0U (H8 s) nm a).err=0→(A0v (H8 s) 40 nm a MR0).2.err=0∧(A0U (H8 s) nm a).ev=(A0v (H8 s) 40 nm a MR0).2.ev∧(A0U (H8 s) nm a).n=(A0v (H8 s) 40 nm a MR0).1:=fun a e1 e2=>by
  rw[A0U,if_neg (fun hh=>hh h),hj] at e2 ⊢
  dsimp only at e2 ⊢
  rw[if_neg (fun hh=>hh e1)] at e2 ⊢
  split at e2
  ·rename_i q;exact absurd e2 q
  ·rename_i q
   rw[if_neg q]
   exact⟨by omega,rfl,rfl⟩
 obtain⟨x1,x2,x3⟩:=hrun args hl hx
 obtain⟨y1,y2,y3⟩:=hrun args' hl' hy
 rw[x2,x3,y2,y3]
 exact B1I (A8q h) (fun j hj=>(A5j h hj).2.2.1) (fun j hj=>(A5j h hj).2.2.2) n 40 nm j hj args args' MR0 MR0 hl hl' ha rfl x1 y1
end Go.Sp
end
