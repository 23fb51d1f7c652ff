/- Own work. -/
import Derived.Test.YtfgmppgjopchoaaGreatDoorSy8
import Derived.Lib.ItoaLen
import Derived.Test.YtfgmppgjopchoaaGreatDoorProg
import Derived.KernelRfl
set_option maxHeartbeats 64000000
namespace Go.Sp
abbrev Lab:=Nat->Nat
structure Li where
 name:List UInt8
 lab:Nat
 op:Option Nat
def Li.val (o:Lab) (l:Li):Nat:=match l.op with
 |none=>l.lab
 |some f=>o f
def A7N (o:Lab) (sc:List Li):List Lc:=sc.map (fun l=>⟨l.name,l.val o⟩)
def A3w:List Li->List UInt8->Option Li
 | [],_=>none
 |l::sc,n=>match A3w sc n with
  |some x=>some x
  |none=>if l.name=n then some l else none
def A6a (sc:List Li):List Nat:=sc.filterMap (·.op)
def upL (o:Lab) (f n:Nat):Lab:=fun g=>if g=f then n else o g
abbrev LP:=Lab×Bool
def A3V (p:LP) (f n:Nat):LP:=if p.1 f|||n=p.1 f then p else (upL p.1 f (p.1 f|||n),true)
def A4D (p:LP) (op:Option Nat) (n:Nat):LP:=match op with
 |none=>p
 |some f=>A3V p f n
def A73 (o:Bool) (f:Nat):Option Nat:=if o=true then some f else none
def B73 (p:LP) (sc:List Li) (nm:List UInt8) (n:Nat):LP:=match A3w sc nm with
 |some l=>A4D p l.op n
 |none=>p
mutual
def B3S (its:List Itm):Stm->List Li->Nat->LP->List Li×LP
 | .mk k nm _ lb o e thn els f _,sc,un,p=>
  if k=1 then (sc++ [⟨nm,lb,A73 o f⟩],A4D p (A73 o f) (A2z its (A7N p.1 sc) e|||un)) else
  if k=2 then (sc,B73 p sc nm (A2z its (A7N p.1 sc) e|||un)) else
  if k=3\/k=4 then (sc,(A2a its els sc (A2z its (A7N p.1 sc) e|||un) (A2a its thn sc (A2z its (A7N p.1 sc) e|||un) p).2).2) else (sc,p)
def A2a (its:List Itm):List Stm->List Li->Nat->LP->List Li×LP
 | [],sc,_,p=>(sc,p)
 |x::l,sc,un,p=>A2a its l (B3S its x sc un p).1 un (B3S its x sc un p).2
 end
mutual
def Stm.lets:Stm->List Nat
 | .mk k _ _ _ _ _ thn els f _=>(if k=1 then [f] else [])++(A1a thn++A1a els)
def A1a:List Stm->List Nat
 | []=> []
 |x::l=>x.lets++A1a l
 end
def B15 (l:List Par):List Li:=l.map (fun p=>⟨p.name,p.label,none⟩)
def A41 (its:List Itm) (it:Itm) (o:Lab):LP:=(A2a its it.body (B15 it.params) 0 (o,false)).2
def B0S (its:List Itm) (it:Itm):Nat->Lab
 |0=>fun _=>0
 |k+1=>(A41 its it (B0S its it k)).1
def C6Y (its:List Itm) (it:Itm) (o:Lab):Prop:=(∃k,o=B0S its it k)/\A41 its it o=(o,false)
mutual
def A9S (o:Lab):Stm->Stm
 | .mk k nm a lb op e thn els f t=> .mk k nm a (if k=1/\op=true then o f else lb) (if k=1 then false else op) e (A2f o thn) (A2f o els) f t
def A2f (o:Lab):List Stm->List Stm
 | []=> []
 |x::l=>A9S o x::A2f o l
 end
def itI (o:Lab) (it:Itm):Itm:= { it with body:=A2f o it.body}
def C09 (its:List Itm) (it r:Itm):Prop:=(it.kind=2->∃o,C6Y its it o/\r=itI o it)/\(it.kind≠2->r=it)
inductive AllTwo {α β:Type} (R:α->β->Prop):List α->List β->Prop
 |nil:AllTwo R [] []
 |cons {a:α}{b:β}{l:List α}{r:List β} (h:R a b) (t:AllTwo R l r):AllTwo R (a::l) (b::r)
theorem AllTwo.len {α β:Type}{R:α->β->Prop}:∀ {l:List α}{r:List β},AllTwo R l r->r.length=l.length
 |_,_,.nil=>rfl
 |_,_,.cons _ t=>by rw[F9,F9,t.len]
def B1i (its r:List Itm):Prop:=AllTwo (C09 its) its r
theorem B3e {its:List Itm}{it:Itm}{k:Nat} (h:A41 its it (B0S its it k)=(B0S its it k,false)):∀j,B0S its it (k+j)=B0S its it k
 |0=>rfl
 |j+1=>by
  have ih:=B3e h j;show (A41 its it (B0S its it (k+j))).1=_
  rw[ih,h]
theorem C3p {its:List Itm}{it:Itm}{o o':Lab} (h:C6Y its it o) (h':C6Y its it o'):o=o':=by
 obtain⟨⟨k,rfl⟩,hk⟩:=h;obtain⟨⟨j,rfl⟩,hj⟩:=h';rcases Nat.le_total k j with hle|hle
 ·obtain⟨d,rfl⟩:=Nat.le.dest hle
  rw[B3e hk]
 ·obtain⟨d,rfl⟩:=Nat.le.dest hle
  rw[B3e hj]
theorem C1E {its:List Itm}{it a b:Itm} (ha:C09 its it a) (hb:C09 its it b):a=b:=by
 by_cases h:it.kind=2
 ·obtain⟨o,h1,rfl⟩:=ha.1 h
  obtain⟨o',h2,rfl⟩:=hb.1 h;rw[C3p h1 h2]
 ·rw[ha.2 h,hb.2 h]
theorem B4Q {its:List Itm}:∀ {l a b:List Itm},AllTwo (C09 its) l a->AllTwo (C09 its) l b->a=b
 |_,_,_,.nil,.nil=>rfl
 |_,_,_,.cons h1 t1,.cons h2 t2=>by rw[C1E h1 h2,B4Q t1 t2]
theorem B4B (o:Lab) (n:List UInt8):∀(sc:List Li),A1A (A7N o sc) n=(A3w sc n).map (fun l=>⟨l.name,l.val o⟩)
 | []=>rfl
 |l::sc=>by
  have ih:=B4B o n sc;show A1A (⟨l.name,l.val o⟩::A7N o sc) n=_
  rw[A1A,ih,A3w];cases A3w sc n with
  |some x=>rfl
  |none=>
   simp only[Option.map_none];split<;>rfl
theorem A7H {n:List UInt8}{x:Li}:∀ {l:List Li},A3w l n=some x->x∈l/\x.name=n
 | [],h=>by cases h
 |a::l,h=>by
  rw[A3w]at h;split at h
  ·rename_i y hy
   cases h
   obtain⟨h1,h2⟩:=A7H hy;exact⟨A0K _ h1,h2⟩
  ·split at h
   ·rename_i h2;cases h;exact⟨Q7,h2⟩
   ·cases h
theorem B4C {n:List UInt8}{x:Li}:∀ {l:List Li}{i:Nat},l[i]?=some x->x.name=n->(∀j y,i<j->l[j]?=some y->y.name≠n)->A3w l n=some x
 | [],i,h,_,_=>by simp at h
 |a::l,0,h,hn,hl=>by
  simp only[A0A,U3]at h;subst h;have:A3w l n=none:=by
   cases hf:A3w l n with
   |none=>rfl
   |some y=>
    obtain⟨hy,hyn⟩:=A7H hf;obtain⟨j,hj⟩:=A7S.1 hy;exact absurd hyn (hl (j+1) y (by omega) (by rw[A0z];exact hj))
  rw[A3w,this];simp[hn]
 |a::l,i+1,h,hn,hl=>by
  rw[A0z]at h;rw[A3w,B4C h hn (fun j y hj hy=>hl (j+1) y (by omega) (by rw[A0z];exact hy))]
theorem B7i {n:List UInt8}:∀ {l:List Li},(∀(j:Nat) y,l[j]?=some y->y.name≠n)->A3w l n=none:=fun {l} h=>by
 cases hf:A3w l n with
 |none=>rfl
 |some y=>
  obtain⟨hy,hyn⟩:=A7H hf;obtain⟨j,hj⟩:=A7S.1 hy;exact absurd hyn (h j y hj)
theorem C6p (its:List Itm) (x:Stm) (sc:List Li) (un:Nat) (p:LP):B3S its x sc un p=
  if x.kind=1 then (sc++ [⟨x.name,x.label,A73 x.opn x.fr⟩],A4D p (A73 x.opn x.fr) (A2z its (A7N p.1 sc) x.e|||un)) else
  if x.kind=2 then (sc,B73 p sc x.name (A2z its (A7N p.1 sc) x.e|||un)) else
  if x.kind=3\/x.kind=4 then (sc,(A2a its x.els sc (A2z its (A7N p.1 sc) x.e|||un) (A2a its x.thn sc (A2z its (A7N p.1 sc) x.e|||un) p).2).2) else (sc,p):=by
 cases x;rw[B3S];rfl
theorem B5f (its:List Itm):∀(l r:List Stm) (sc:List Li) (un:Nat) (p:LP),A2a its (l++r) sc un p=A2a its r (A2a its l sc un p).1 un (A2a its l sc un p).2
 | [],r,sc,un,p=>by rw[P7,A2a]
 |e::l,r,sc,un,p=>by rw[X8,A2a,A2a,B5f its l r]
theorem B9S (its:List Itm) {l:List Stm}{k:Nat}{x:Stm} (h:l[k]?=some x) (sc:List Li) (un:Nat) (p:LP):
  A2a its (l.take (k+1)) sc un p=B3S its x (A2a its (l.take k) sc un p).1 un (A2a its (l.take k) sc un p).2:=by
 rw[Q9 h,B5f,A2a,A2a]
def okL (p:LP):Prop:= ∀f,p.1 f<256
def B5Q (sc:List Li):Prop:= ∀l∈sc,l.lab<256
theorem B3r {p:LP}{sc:List Li} (hp:okL p) (hs:B5Q sc):A4J (A7N p.1 sc):=fun l hl=>by
 obtain⟨x,hx,rfl⟩:=A0y.1 hl;show x.val p.1<256
 rw[Li.val];split
 ·exact hs x hx
 ·exact hp _
theorem C19 {p:LP} (h:okL p) (f:Nat) {n:Nat} (hn:n<256):okL (A3V p f n):=by
 rw[A3V];split
 ·exact h
 ·intro g
  show upL p.1 f (p.1 f|||n) g<256
  rw[upL];split
  ·exact A9Y (h f) hn
  ·exact h g
theorem B45 {p:LP} (h:okL p) (f:Option Nat) {n:Nat} (hn:n<256):okL (A4D p f n):=by
 cases f with
 |none=>exact h
 |some f=>exact C19 h f hn
theorem C6i {p:LP} (h:okL p) (sc:List Li) (nm:List UInt8) {n:Nat} (hn:n<256):okL (B73 p sc nm n):=by
 rw[B73];split
 ·exact B45 h _ hn
 ·exact h
mutual
theorem C0U {its:List Itm} (hlab:A28 its):∀(x:Stm) {sc:List Li}{un:Nat}{p:LP},x.all B0A B0U->okL p->B5Q sc->un<256->okL (B3S its x sc un p).2/\B5Q (B3S its x sc un p).1
 | .mk k nm a lb o e thn els f t,sc,un,p,ha,hp,hs,hu=>by
  rw[Stm.all]at ha;obtain⟨h1,h2,h3,h4⟩:=ha;have hav:=A9Y (A4I hlab (B3r hp hs) e) hu;rw[B3S];split
  ·rename_i hk
   refine⟨B45 hp _ hav,fun l hl=>?_⟩
   rcases A0d.1 hl with hl|hl
   ·exact hs l hl
   ·obtain rfl:=A0B.1 hl
    exact h1
  ·split
   ·exact⟨C6i hp _ _ hav,hs⟩
   ·split
    ·have q1:=A6O hlab thn h3 hp hs hav
     exact⟨(A6O hlab els h4 q1.1 hs hav).1,hs⟩
    ·exact⟨hp,hs⟩
theorem A6O {its:List Itm} (hlab:A28 its):∀(l:List Stm) {sc:List Li}{un:Nat}{p:LP},Y0 B0A B0U l->okL p->B5Q sc->un<256->okL (A2a its l sc un p).2/\B5Q (A2a its l sc un p).1
 | [],_,_,_,_,hp,hs,_=>by rw[A2a];exact⟨hp,hs⟩
 |x::l,sc,un,p,ha,hp,hs,hu=>by
  rw[Y0]at ha;have q1:=C0U hlab x ha.1 hp hs hu;rw[A2a];exact A6O hlab l ha.2 q1.1 q1.2 hu
end
def B1L (L:List Nat) (o:Lab):Nat:=(L.map (fun f=>256-o f)).sum
theorem C5U {a n:Nat} (h:a|||n≠a):a<a|||n:=by
 have h1:a<=a|||n:=Nat.left_le_or
 omega
theorem C4P {L:List Nat}{o:Lab}{f n:Nat} (h:o f<=n):B1L L (upL o f n)<=B1L L o:=by
 induction L with
 |nil=>exact H6 _
 |cons g L ih=>
  simp only[B1L,X5,A5P]at ih |-;have:256-upL o f n g<=256-o g:=by
   rw[upL];split
   ·rename_i e;subst e;omega
   ·exact H6 _
  omega
theorem C77 {L:List Nat}{o:Lab}{f n:Nat} (hf:f∈L) (h:o f<n) (hn:o f<256):B1L L (upL o f n)<B1L L o:=by
 induction L with
 |nil=>cases hf
 |cons g L ih=>
  have h1:=C4P (L:=L) (o:=o) (f:=f) (n:=n) (by omega);simp only[B1L,X5,A5P]at ih h1 |-;by_cases e:g=f
  ·subst e
   have:upL o g n g=n:=by rw[upL,if_pos rfl]
   rw[this];omega
  ·have h2:upL o f n g=o g:=by rw[upL,if_neg e]
   have:=ih (by rcases V7.1 hf with h|h;exact absurd h.symm e;exact h);rw[h2];omega
structure Gone (L:List Nat) (p q:LP):Prop where
 le:B1L L q.1<=B1L L p.1
 lt:q.2=true->p.2=true\/B1L L q.1<B1L L p.1
 same:q.2=false->q=p
theorem Gone.refl (L:List Nat) (p:LP):Gone L p p:=⟨H6 _,.inl,fun _=>rfl⟩
theorem Gone.trans {L:List Nat}{p q r:LP} (h:Gone L p q) (g:Gone L q r):Gone L p r:=
 ⟨A0N g.le h.le,fun e=>by
  have h1:=h.le;have h2:=g.le;rcases g.lt e with h3|h3
  ·rcases h.lt h3 with h4|h4
   ·exact .inl h4
   ·exact .inr (by omega)
  ·exact .inr (by omega),fun e=>by
  have h1:=g.same e;subst h1;exact h.same e⟩
theorem B7W {L:List Nat}{p:LP} (hp:okL p) {f:Nat} (hf:f∈L) (n:Nat):Gone L p (A3V p f n):=by
 rw[A3V];split
 ·exact .refl _ _
 ·rename_i h
  have h1:=C5U h;exact⟨C4P (by omega),fun _=> .inr (C77 hf h1 (hp f)),fun e=>by cases e⟩
theorem B19 {L:List Nat}{p:LP} (hp:okL p) {f:Option Nat} (hf:∀g,f=some g->g∈L) (n:Nat):Gone L p (A4D p f n):=by
 cases f with
 |none=>exact .refl _ _
 |some f=>exact B7W hp (hf f rfl) n
def inL (L:List Nat) (sc:List Li):Prop:= ∀f∈A6a sc,f∈L
theorem B7M {sc:List Li}{l:Li}{f:Nat} (h:l∈sc) (e:l.op=some f):f∈A6a sc:=A6z.2 ⟨l,h,e⟩
theorem C2d {L:List Nat}{p:LP} (hp:okL p) {sc:List Li} (hs:inL L sc) (nm:List UInt8) (n:Nat):Gone L p (B73 p sc nm n):=by
 rw[B73];split
 ·rename_i l hl
  exact B19 hp (fun g hg=>hs g (B7M (A7H hl).1 hg)) n
 ·exact .refl _ _
theorem B4V (sc:List Li) (l:Li):A6a (sc++ [l])=A6a sc++l.op.toList:=by
 rw[A6a,List.filterMap_append,A6a];cases h:l.op<;>simp[h]
mutual
theorem C2k {its:List Itm} (hlab:A28 its) {L:List Nat}:∀(x:Stm) {sc:List Li}{un:Nat}{p:LP},x.all B0A B0U->okL p->B5Q sc->un<256->(∀f∈x.lets,f∈L)->inL L sc->Gone L p (B3S its x sc un p).2/\inL L (B3S its x sc un p).1
 | .mk k nm a lb o e thn els f t,sc,un,p,ha,hp,hs,hu,hL,hi=>by
  rw[Stm.all]at ha;obtain⟨h1,h2,h3,h4⟩:=ha;have hav:=A9Y (A4I hlab (B3r hp hs) e) hu;rw[Stm.lets]at hL;have hLt:∀f∈A1a thn,f∈L:=fun g hg=>hL g (A11 _ (A1J _ hg))
  have hLe:∀f∈A1a els,f∈L:=fun g hg=>hL g (A11 _ (A11 _ hg))
  rw[B3S];split
  ·rename_i hk
   have hf:f∈L:=hL f (by rw[if_pos hk];exact A1J _ Q7);have hop:∀g,A73 o f=some g->g∈L:=fun g hg=>by
    rw[A73]at hg;split at hg
    ·cases hg;exact hf
    ·cases hg
   refine⟨B19 hp hop _,fun g hg=>?_⟩
   rw[B4V]at hg;rcases A0d.1 hg with hg|hg
   ·exact hi g hg
   ·exact hop g (by simpa using hg)
  ·split
   ·exact⟨C2d hp hi _ _,hi⟩
   ·split
    ·have q1:=A6O hlab thn h3 hp hs hav
     have g1:=A8l hlab thn h3 hp hs hav hLt hi;exact⟨g1.1.trans (A8l hlab els h4 q1.1 hs hav hLe hi).1,hi⟩
    ·exact⟨.refl _ _,hi⟩
theorem A8l {its:List Itm} (hlab:A28 its) {L:List Nat}:∀(l:List Stm) {sc:List Li}{un:Nat}{p:LP},Y0 B0A B0U l->okL p->B5Q sc->un<256->(∀f∈A1a l,f∈L)->inL L sc->Gone L p (A2a its l sc un p).2/\inL L (A2a its l sc un p).1
 | [],_,_,_,_,hp,hs,_,_,hi=>by rw[A2a];exact⟨.refl _ _,hi⟩
 |x::l,sc,un,p,ha,hp,hs,hu,hL,hi=>by
  rw[Y0]at ha;rw[A1a]at hL;have q1:=C0U hlab x ha.1 hp hs hu;have g1:=C2k hlab x ha.1 hp hs hu (fun f hf=>hL f (A1J _ hf)) hi;have g2:=A8l hlab l ha.2 q1.1 q1.2 hu (fun f hf=>hL f (A11 _ hf)) g1.2;rw[A2a];exact⟨g1.1.trans g2.1,g2.2⟩
end
theorem B3F {l:List Par} (h:∀p∈l,p.label<256):B5Q (B15 l):=fun x hx=>by
 obtain⟨p,hp,rfl⟩:=A0y.1 hx;exact h p hp
theorem B4Y (l:List Par):A6a (B15 l)= []:=by
 rw[A6a,B15,List.filterMap_map];exact List.filterMap_eq_nil_iff.2 (fun _ _=>rfl)
theorem B46 {its:List Itm}{it:Itm}{o:Lab} (hlab:A28 its) (hb:Y0 B0A B0U it.body) (hp:∀p∈it.params,p.label<256) (ho:∀f,o f<256):
  okL (A41 its it o)/\((A41 its it o).2=true->B1L (A1a it.body) (A41 its it o).1<B1L (A1a it.body) o)/\((A41 its it o).2=false->(A41 its it o).1=o):=by
 have h1:=A6O hlab it.body (sc:=B15 it.params) (un:=0) (p:=(o,false)) hb ho (B3F hp) (by omega);have h2:=A8l hlab (L:=A1a it.body) it.body (sc:=B15 it.params) (un:=0) (p:=(o,false)) hb ho (B3F hp) (by omega) (fun _ h=>h) (fun f hf=>by rw[B4Y]at hf;cases hf);refine⟨h1.1,fun e=>?_,fun e=>?_⟩
 ·rcases h2.1.lt e with h|h
  ·cases h
  ·exact h
 ·exact congrArg Prod.fst (h2.1.same e)
def A5l (k:Nat):UInt8:=UInt8.ofNat (97+k)
def A4F (n:Nat):List Nat:=(List.range 8).filter (bit n)
def A4R:List UInt8->List UInt8
 | []=> []
 | [c]=> [c]
 |c::d::l=>c::44::A4R (d::l)
def A4C (n:Nat):List UInt8:=123::(A4R ((A4F n).map A5l)++ [125])
end Go.Sp
namespace Go.Sp
open Go.Lib (itoa)
def A24 (nm:List UInt8):Nat:=if nm= [61]\/nm= [60] then 1 else if nm= [43]\/nm= [45] then 2 else 3
def A3A (e:Ex):Nat:=if e.kind≠3 then 4 else A24 e.name
def B0Y (b:Bool) (t:List UInt8):List UInt8:=if b then [40]++t++ [41] else t
def A3E (ws:List (List UInt8)) (k:Nat):List UInt8:=(List.range k).flatMap (fun i=>(if 0<i then [44,32] else [])++ws.getD i [])
theorem A6k (ws:List (List UInt8)) (k:Nat):A3E ws (k+1)=A3E ws k++((if 0<k then [44,32] else [])++ws.getD k []):=by
 rw[A3E,A1N,Y2, <-A3E];simp
mutual
def exW:Ex->List UInt8
 | .mk k nm n args _ _=>
  if k=1 then itoa n else
  if k=3 then
   B0Y (decide (A3A (args.getD 0 default)<A24 nm)) ((A4O args).getD 0 [])++ [32]++nm++ [32]++
    B0Y (decide (A3A (args.getD 1 default)<A24 nm+1)) ((A4O args).getD 1 []) else
  if k=2 then nm else
  if k=4 then nm++ [40]++A3E (A4O args) args.length++ [41] else []
def A4O:List Ex->List (List UInt8)
 | []=> []
 |e::es=>exW e::A4O es
 end
theorem B0K:∀l:List Ex,A4O l=l.map exW
 | []=>by rw[A4O];rfl
 |e::es=>by rw[A4O,B0K es,X5]
theorem A8W {l:List Ex}{i:Nat}{e:Ex} (h:l[i]?=some e):(A4O l).getD i []=exW e:=by
 rw[B0K,O4,A0f,h];rfl
def pad (n:Nat):List UInt8:=(List.replicate n [32,32]).flatten
theorem B2F (n:Nat):(pad n).length=2 *n:=by
 rw[pad,List.length_flatten,List.map_replicate,List.sum_replicate_nat];show n *2=2 *n
 omega
mutual
def B6h:Stm->Nat->List UInt8
 | .mk k nm _ lb o e thn els _ _,d=>pad d++(
  if k=1 then [108,101,116,32]++nm++(if o=true then [] else [58,32]++A4C lb)++ [32,61,32]++exW e++ [59,10] else
  if k=2 then nm++ [32,61,32]++exW e++ [59,10] else
  if k=5 then [115,101,110,100,32]++nm++ [32]++exW e++ [59,10] else
  if k=6 then [114,101,116,117,114,110,32]++exW e++ [59,10] else
  if k=7 then exW e++ [59,10] else
  if k=3\/k=4 then (if k=4 then [119,104,105,108,101,32] else [105,102,32])++exW e++ [32]++([123,10]++A3a thn (d+1)++pad d++ [125])++
   (if 0<els.length then [32,101,108,115,101,32]++([123,10]++A3a els (d+1)++pad d++ [125]) else [])++ [10] else [59,10])
def A3a:List Stm->Nat->List UInt8
 | [],_=> []
 |x::xs,d=>B6h x d++A3a xs d
 end
def B1o (l:List Stm) (d:Nat):List UInt8:= [123,10]++A3a l (d+1)++pad d++ [125]
theorem A8o:∀(l r:List Stm) (d:Nat),A3a (l++r) d=A3a l d++A3a r d
 | [],r,d=>by rw[P7,A3a,P7]
 |x::l,r,d=>by rw[X8,A3a,A3a,A8o l r d,O8]
theorem B9V {l:List Stm}{k:Nat}{x:Stm} (h:l[k]?=some x) (d:Nat):A3a (l.take (k+1)) d=A3a (l.take k) d++B6h x d:=by
 rw[A3f,h,A8o];show _++A3a [x] d=_
 rw[A3a,A3a,J3]
def A9Z (l:List Par):List (List UInt8):=l.map (fun p=>p.name++ [58,32]++A4C p.label)
def A7z (l:List Rf) (k:Nat):List UInt8:=(List.range k).flatMap (fun i=>(if i=0 then [32,115,101,110,100,115,32] else [44,32])++(l.getD i ⟨[],0⟩).name)
theorem B0p (l:List Rf) (k:Nat):A7z l (k+1)=A7z l k++((if k=0 then [32,115,101,110,100,115,32] else [44,32])++(l.getD k ⟨[],0⟩).name):=by
 rw[A7z,A1N,Y2, <-A7z];simp
def A9U (it:Itm):List UInt8:=
 if it.kind=1 then [99,104,97,110,32]++it.name++ [58,32]++A4C it.label++ [59,10] else
 if it.kind=2 then [102,110,32]++it.name++ [40]++A3E (A9Z it.params) it.params.length++ [41,58,32]++A4C it.label++A7z it.sends it.sends.length++ [32]++B1o it.body 0++ [10] else []
def A26 (its:List Itm):List UInt8:=its.flatMap A9U
end Go.Sp
namespace Go.Sp
structure Srv where
 text:List UInt8
 op:Bool
structure Rpl where
 id:Int
 err:Nat
 dgs:List DI
 label:Nat
 fr:Int
 text:List UInt8
 ran:Rn
 fresh:Nat
def A8G:Rpl:=⟨0,0,[],0,0,[],⟨[],0,0,0⟩,0⟩
def B55 (e:Nat):Rpl:= { A8G with err:=e}
def C9j (n:Nat):Rpl:= { A8G with fresh:=n}
def B2r (s:Srv) (t:List UInt8):Srv×Rpl:=if Y7 t≠0 then (s,B55 (Y7 t)) else (⟨t,true⟩,C9j (A4j s.text t))
def C7n (its:List Itm) (at_:Int) (i:Nat):Option Nat:=if (A0q its i).at_<=at_/\at_<(A0q its i).at_+(A0q its i).size then (A3d its i (at_-(A0q its i).at_)).hv else none
def A82 (its:List Itm) (at_:Int) (k:Nat):Option Nat:=(List.range k).findSome? (C7n its at_)
def C3w (its:List Itm) (at_:Int):Rpl:=match A82 its at_ its.length with
 |some n=> { A8G with label:=n}
 |none=>B55 6
theorem B82 {its:List Itm}{at_:Int}{k:Nat} (h:A82 its at_ k=none):A82 its at_ (k+1)=C7n its at_ k:=by
 rw[A82,A1N,List.findSome?_append, <-A82,h];simp
theorem B83 {its:List Itm}{at_:Int}{k n:Nat}{m:Nat} (hk:k<=m) (h:A82 its at_ k=some n):A82 its at_ m=some n:=by
 obtain⟨d,rfl⟩:∃d,m=k+d:=⟨m-k,by omega⟩;rw[A82,List.range_add,List.findSome?_append, <-A82,h];rfl
open Classical in
noncomputable def C3I (its:List Itm):List Itm:=if h:∃r,B1i its r then Classical.choose h else []
theorem C3J {its r:List Itm} (h:B1i its r):C3I its=r:=by
 have h1:∃r,B1i its r:=⟨r,h⟩;rw[C3I,dif_pos h1];exact B4Q (Classical.choose_spec h1) h
def A8N (its:List Itm):Bool:=its.any (fun it=> !it.diags.isEmpty)
noncomputable def C3H (its:List Itm):Rpl:=if A8N its=true then B55 13 else { A8G with text:=A26 (C3I its)}
def C7Q (its:List Itm) (nm:List UInt8) (args:List Int):Rpl:=if (A9K its nm args).err≠0 then B55 (A9K its nm args).err else { A8G with ran:=A9K its nm args}
def B2l (s:Srv) (q:Qn):Srv×Rpl:=
 if q.kind=2 then (if A6V s.text q.fr q.to q.text≠0 then (s,B55 (A6V s.text q.fr q.to q.text)) else B2r s (B22 s.text q.fr q.to q.text))
 else if (toR s.text q.fr q.text).2≠0 then (s,B55 (toR s.text q.fr q.text).2) else B2r s (toR s.text q.fr q.text).1
noncomputable def C5h (t:List UInt8) (q:Qn):Rpl:=
 if q.kind=3 then { A8G with dgs:=A5i (J7 t)}
 else if q.kind=4 then C3w (J7 t) q.fr
 else if q.kind=5 then (match B60 (J7 t) q.fr with|some a=> { A8G with fr:=a}|none=>B55 6)
 else if q.kind=7 then C3H (J7 t)
 else if q.kind=8 then C7Q (J7 t) q.text q.args
 else { A8G with text:=t}
noncomputable def A5j (s:Srv) (q:Qn):Srv×Rpl:=
 if q.kind<1\/9<q.kind then (s,B55 1)
 else if q.kind=1 then B2r s q.text
 else if s.op=false then (s,B55 6)
 else if q.kind=2\/q.kind=6 then B2l s q
 else (s,C5h s.text q)
noncomputable def stQ (s:Srv) (l:List Qn):Srv:=l.foldl (fun s q=>(A5j s q).1) s
noncomputable def rpQ:Srv->List Qn->List Rpl
 |_,[]=> []
 |s,q::l=> { (A5j s q).2 with id:=q.id}::rpQ (A5j s q).1 l
def A15:Srv:=⟨[],false⟩
structure OkQ (s:Srv):Prop where
 err:Y7 s.text=0
 shut:s.op=false->s.text= []
theorem C32:OkQ A15:=⟨by decide+kernel,fun _=>rfl⟩
theorem B6b {s:Srv} (h:OkQ s) (t:List UInt8):OkQ (B2r s t).1:=by
 rw[B2r];split
 ·exact h
 ·rename_i h1
  exact⟨by simpa using h1,fun h2=>by cases h2⟩
theorem C5m {s:Srv} (h:OkQ s) (q:Qn):OkQ (B2l s q).1:=by
 rw[B2l];split
 ·split
  ·exact h
  ·exact B6b h _
 ·split
  ·exact h
  ·exact B6b h _
theorem C0d {s:Srv} (h:OkQ s) (q:Qn):OkQ (A5j s q).1:=by
 rw[A5j];split
 ·exact h
 ·split
  ·exact B6b h _
  ·split
   ·exact h
   ·split
    ·exact C5m h q
    ·exact h
theorem B9O:∀(l:List Qn) {s:Srv},OkQ s->OkQ (stQ s l)
 | [],_,h=>h
 |q::l,s,h=>by rw[stQ,A1e];exact B9O l (C0d h q)
theorem C0S (s:Srv) (l r:List Qn):stQ s (l++r)=stQ (stQ s l) r:=by rw[stQ,A5t];rfl
theorem B2H:∀(s:Srv) (l r:List Qn),rpQ s (l++r)=rpQ s l++rpQ (stQ s l) r
 |_,[],_=>rfl
 |s,q::l,r=>by rw[X8,rpQ,rpQ,B2H,X8];rfl
theorem A8c:∀(s:Srv) (l:List Qn),(rpQ s l).length=l.length
 |_,[]=>rfl
 |s,q::l=>by rw[rpQ,F9,A8c,F9]
noncomputable def B02 (s:Srv) (q:Qn):Rpl:= { (A5j s q).2 with id:=q.id}
theorem C4B (s:Srv) {l:List Qn}{k:Nat}{q:Qn} (h:l[k]?=some q):stQ s (l.take (k+1))=(A5j (stQ s (l.take k)) q).1:=by
 rw[Q9 h,C0S];rfl
theorem C4o (s:Srv) {l:List Qn}{k:Nat}{q:Qn} (h:l[k]?=some q):rpQ s (l.take (k+1))=rpQ s (l.take k)++ [B02 (stQ s (l.take k)) q]:=by
 rw[Q9 h,B2H];rfl
theorem B54:∀(s:Srv) {l:List Qn}{k:Nat}{q:Qn},l[k]?=some q->(rpQ s l)[k]?=some (B02 (stQ s (l.take k)) q)
 |s,x::l,0,q,h=>by
  simp only[A0A,U3]at h;subst h;rfl
 |s,x::l,k+1,q,h=>by
  rw[A0z]at h;rw[rpQ,A0z,B54 _ h,A1g];rfl
theorem C4p (s:Srv) (l:List Qn) (n:Nat):(rpQ s l).take n=rpQ s (l.take n):=by
 have h:=B2H s (l.take n) (l.drop n);rw[A2Q]at h;rcases Nat.le_total n l.length with hn|hn
 ·have e:(rpQ s (l.take n)).length=n:=by rw[A8c,P8];omega
  rw[h];exact List.take_left' e
 ·rw[A0n hn,A0n (by rw[A8c];exact hn)]
theorem C7O {s:Srv}{l:List Qn}{k:Nat}{q:Qn}{r:Rpl} (hq:l[k]?=some q) (hr:(rpQ s l)[k]?=some r):r.id=q.id:=by
 rw[B54 s hq]at hr;obtain rfl:=A0Y hr
 rfl
def chg (q:Qn):Bool:=decide (q.kind=1)||decide (q.kind=2)||decide (q.kind=6)
theorem C1b {s:Srv}{q:Qn} (h:chg q=false):(A5j s q).1=s:=by
 simp only[chg,Bool.or_eq_false_iff,decide_eq_false_iff_not]at h;rw[A5j];split
 ·rfl
 ·rw[if_neg h.1.1]
  split
  ·rfl
  ·rw[if_neg (fun h1=>h1.elim h.1.2 h.2)]
theorem B3N {s:Srv}{t:List UInt8} (h:(B2r s t).2.err≠0):(B2r s t).1=s:=by
 rw[B2r]at h |-;split
 ·rfl
 ·rename_i h1;rw[if_neg h1]at h;exact absurd rfl h
theorem C2W {s:Srv}{q:Qn} (h:(B2l s q).2.err≠0):(B2l s q).1=s:=by
 rw[B2l]at h |-;split
 ·rename_i h1
  rw[if_pos h1]at h;split
  ·rfl
  ·rename_i h2;rw[if_neg h2]at h;exact B3N h
 ·rename_i h1
  rw[if_neg h1]at h;split
  ·rfl
  ·rename_i h2;rw[if_neg h2]at h;exact B3N h
theorem C5e {s:Srv}{q:Qn} (h:(A5j s q).2.err≠0):(A5j s q).1=s:=by
 rw[A5j]at h |-;split
 ·rfl
 ·rename_i h1
  rw[if_neg h1]at h;split
  ·rename_i h2;rw[if_pos h2]at h;exact B3N h
  ·rename_i h2
   rw[if_neg h2]at h;split
   ·rfl
   ·rename_i h3
    rw[if_neg h3]at h;split
    ·rename_i h4;rw[if_pos h4]at h;exact C2W h
    ·rfl
noncomputable def A3G:Srv->List Qn->List Qn
 |_,[]=> []
 |s,q::l=>(if (A5j s q).2.err=0/\chg q=true then [q] else [])++A3G (A5j s q).1 l
theorem B4H:∀(s:Srv) (l r:List Qn),A3G s (l++r)=A3G s l++A3G (stQ s l) r
 |_,[],_=>rfl
 |s,q::l,r=>by rw[X8,A3G,A3G,B4H,O8];rfl
theorem B8Z (s:Srv) {l:List Qn}{k:Nat}{q:Qn} (h:l[k]?=some q):A3G s (l.take (k+1))=A3G s (l.take k)++(if (B02 (stQ s (l.take k)) q).err=0/\chg q=true then [q] else []):=by
 rw[Q9 h,B4H,A3G,A3G,J3];rfl
theorem B1w:∀(s:Srv) (l:List Qn),(A3G s l).length<=l.length
 |_,[]=>H6 _
 |s,q::l=>by
  rw[A3G,E9,F9];have:=B1w (A5j s q).1 l;split
  ·rw[A1s];omega
  ·rw[List.length_nil];omega
theorem B4I:∀(s:Srv) (l:List Qn),∀q∈A3G s l,q∈l
 |_,[],q,h=>by cases h
 |s,x::l,q,h=>by
  rw[A3G]at h;rcases A0d.1 h with h|h
  ·split at h
   ·rw[A0B.1 h];exact Q7
   ·cases h
  ·exact A0K _ (B4I _ l q h)
theorem B3h:∀(s:Srv) (l:List Qn),stQ s (A3G s l)=stQ s l
 |_,[]=>rfl
 |s,q::l=>by
  rw[A3G];by_cases h:(A5j s q).2.err=0/\chg q=true
  ·rw[if_pos h,C0S]
   exact B3h (A5j s q).1 l
  ·have hs:(A5j s q).1=s:=by
    by_cases h1:(A5j s q).2.err=0
    ·exact C1b (by simpa using fun h2=>h ⟨h1,h2⟩)
    ·exact C5e h1
   rw[if_neg h,P7,hs];have:=B3h s l;rw[this];show stQ s l=stQ (A5j s q).1 l
   rw[hs]
def A8D:Qn:=⟨0,9,0,0,[],[]⟩
theorem C6c (s:Srv) (q:Qn) (h:q.kind=9):B02 s q=if s.op=true then { A8G with id:=q.id,text:=s.text} else { A8G with id:=q.id,err:=6}:=by
 rw[B02,A5j,if_neg (by omega),if_neg (by omega)];cases hb:s.op
 ·rfl
 ·rw[if_neg (by decide),if_neg (by omega),C5h,if_neg (by omega),if_neg (by omega),if_neg (by omega),if_neg (by omega),if_neg (by omega)];rfl
theorem C6x (s:List UInt8) (at_:Int) (nm:List UInt8) (h:(toR s at_ nm).2=0):Y7 (toR s at_ nm).1=0:=by
 rw[toR]at h |-;split
 ·rename_i h1;rw[if_pos h1]at h;exact absurd h h1
 ·rename_i h1
  rw[if_neg h1]at h;split
  ·rename_i h2;rw[if_pos h2]at h;cases h
  ·rename_i h2
   rw[if_neg h2]at h;split
   ·rename_i h3;rw[h3]at h;cases h
   ·rename_i df h3
    rw[h3]at h;dsimp only at h |-;split
    ·rename_i h4;rw[if_pos h4]at h;cases h
    ·rename_i h4
     rw[if_neg h4]at h;split
     ·rename_i h5;rw[if_pos h5]at h;exact absurd h h5
     ·rename_i h5
      rw[if_neg h5]at h;split
      ·rename_i h6;rw[if_pos h6]at h;cases h
      ·rename_i h6
       rw[if_neg h6]at h;split
       ·rename_i h7;rw[if_pos h7]at h;cases h
       ·simpa using h5
theorem C0n {t:List UInt8} (h:Y7 t=0):t.length<=4000:=by
 rw[Y7]at h;split at h
 ·cases h
 ·omega
theorem C0D {s:Srv} (h:OkQ s):s.text.length<=4000:=C0n h.err
theorem A9V {F:UInt8->Bool}:∀ {l:List UInt8}{c:UInt8},c∈l.takeWhile F->F c=true
 | [],_,h=>by simp at h
 |a::l,c,h=>by
  rw[A5q]at h;split at h
  ·rename_i ha
   rcases V7.1 h with rfl|h
   ·exact ha
   ·exact A9V h
  ·simp at h
theorem C00 (F:UInt8->Bool):∀r:List UInt8,r.take (r.takeWhile F).length=r.takeWhile F
 | []=>rfl
 |a::r=>by
  rw[A5q];split
  ·rw[F9,A1g,C00 F r]
  ·rfl
theorem B93 {s:List UInt8}{t:Tok} (h:TokOk s t) (hk:t.kind=2):∀c∈t.text,48<=c.toNat/\c.toNat<=57:=by
 have h1:=h.one.1;have h2:=h.one.2;have h3:=h.text;rw[hk]at h1;rw[h2]at h3;intro c hc;rw[h3]at hc;generalize s.drop t.pos=r at h1 hc;cases r with
 |nil=>simp[one]at h1
 |cons a r=>
  simp only[one]at h1 hc;split at h1
  ·simp at h1
  ·split at h1
   ·simp at h1
   ·split at h1
    ·simp at h1
    ·split at h1
     ·rename_i n1 n2 n3 n4
      rw[if_neg n1,if_neg n2,if_neg n3,if_pos n4]at hc;have e:(run A4V r)=1+(r.takeWhile A4V).length:=rfl;rw[e,A3M,A1g,C00]at hc;have:A4V c=true:=by
       rcases V7.1 hc with rfl|hc
       ·exact n4
       ·exact A9V hc
      simpa[A4V] using this
     ·split at h1<;>simp at h1
end Go.Sp
namespace Go.Proofs
open Go.Proofs.Tryz
open Go.Sp
open Go.Fw
abbrev C5r (v:Int):List Value:= [.int .i64 v]
abbrev C2J (i k f t:Int) (s:List UInt8) (a:Option Addr) (n c:Nat):List Value:= [.int .i64 i,.int .i64 k,.int .i64 f,.int .i64 t,str s,.slice a n c]
def A8w (I:P6) (q:Sp.Qn) (c:List Value):Prop:= ∃a cp,c=C2J q.id q.kind q.fr q.to q.text a q.args.length cp/\RowI I 3 1 (.slice a q.args.length cp) q.args.length (q.args.flatMap C5r)
theorem A8w.le {I I':P6}{q:Sp.Qn}{c:List Value} (h:A8w I q c) (m:Le I I'):A8w I' q c:=by
 obtain⟨a,cp,h1,h2⟩:=h;exact⟨a,cp,h1,h2.le m⟩
theorem A8w.len {I:P6}{q:Sp.Qn}{c:List Value} (h:A8w I q c):c.length=6:=by
 obtain⟨a,cp,rfl,_⟩:=h;rfl
def A0T (I:P6):List Sp.Qn->List Value->Prop
 | [],xs=>xs= []
 |q::qs,xs=> ∃c r,xs=c++r/\A8w I q c/\A0T I qs r
theorem A0T.le {I I':P6} (m:Le I I'):∀ {qs:List Sp.Qn}{xs:List Value},A0T I qs xs->A0T I' qs xs
 | [],_,h=>h
 |_::_,_,⟨c,r,e,h1,h2⟩=>⟨c,r,e,h1.le m,A0T.le m h2⟩
theorem A0T.snoc {I:P6}{q:Sp.Qn}{c:List Value} (hq:A8w I q c):∀ {qs:List Sp.Qn}{xs:List Value},A0T I qs xs->A0T I (qs++ [q]) (xs++c)
 | [],xs,h=>by
  obtain rfl:xs= []:=h;exact⟨c,[],by simp,hq,rfl⟩
 |_::_,_,⟨c',r,e,h1,h2⟩=>⟨c',r++c,by rw[e,O8],h1,A0T.snoc hq h2⟩
theorem A0T.get {I:P6}:∀ {qs:List Sp.Qn}{xs:List Value}{i:Nat}{q:Sp.Qn},A0T I qs xs->qs[i]?=some q->A8w I q ((xs.drop (i *6)).take 6)
 | [],_,_,_,_,h=>by simp at h
 |q::qs,_,0,q',⟨c,r,e,h1,h2⟩,h=>by
  simp only[A0A,U3]at h;subst h;rw[e,A1k,A2l,A10 (by rw[h1.len];omega),A0n (by rw[h1.len];omega)];exact h1
 |q::qs,_,i+1,q',⟨c,r,e,h1,h2⟩,h=>by
  rw[A0z]at h;have:=A0T.get h2 h;rw[e,A5x,List.drop_eq_nil_of_le (by rw[h1.len];omega),P7,h1.len,show (i+1) *6-6=i *6 by omega];exact this
theorem A0T.app {I:P6}{rs:List Sp.Qn}{ys:List Value} (hr:A0T I rs ys):∀ {qs:List Sp.Qn}{xs:List Value},A0T I qs xs->A0T I (qs++rs) (xs++ys)
 | [],xs,h=>by
  obtain rfl:xs= []:=h;exact hr
 |_::_,_,⟨c',r,e,h1,h2⟩=>⟨c',r++ys,by rw[e,O8],h1,A0T.app hr h2⟩
theorem A0T.take {I:P6}:∀ {qs:List Sp.Qn}{xs:List Value} (n:Nat),A0T I qs xs->A0T I (qs.take n) (xs.take (n *6))
 | [],xs,n,h=>by
  obtain rfl:xs= []:=h;simp[A0T]
 |_::_,_,0,_=>by simp[A0T]
 |q::qs,_,n+1,⟨c,r,e,h1,h2⟩=>by
  refine⟨c,r.take (n *6),?_,h1,A0T.take n h2⟩
  rw[e,A5y,A0n (by rw[h1.len];omega),h1.len,show (n+1) *6-6=n *6 by omega]
end Go.Proofs
namespace Go.Proofs
open Go.Proofs.Tryz
open Go.Sp
open Go Go.Fw
instance :Mixed prog:=⟨by kernel_rfl⟩
instance :TyInt prog 3 .i64:=⟨by kernel_rfl⟩
instance :TyOne prog 3:=.of
instance :Elem prog 3 1 8:=.of
instance :TyBool prog 4:=⟨by kernel_rfl⟩
instance :TyOne prog 4:=.of
instance :Elem prog 4 1 1:=.of
instance :TyInt prog 5 .u8:=⟨by kernel_rfl⟩
instance :Elem prog 5 1 1:=.of
instance :TyStr prog 9:=⟨by kernel_rfl⟩
instance :TyOne prog 9:=.of
instance :Elem prog 9 1 16:=.of
instance :TySlice prog 23 64:=⟨by kernel_rfl⟩
instance :TyOne prog 23:=.of
instance :Elem prog 23 1 24:=.of
instance :TyAgg prog 25 1:=.of
instance :Elem prog 25 1 24:=.of
instance :StructT prog 25 [(0,1)] [.slice none 0 0]:=.of
instance :Fld prog 25 0 0:=.of
instance :TyOne prog 26:=.of
instance :Elem prog 26 1 8:=.of
instance :TySlice prog 29 35:=⟨by kernel_rfl⟩
instance :TyOne prog 29:=.of
instance :Elem prog 29 1 24:=.of
instance :TyAgg prog 31 4:=.of
instance :Elem prog 31 4 48:=.of
instance :StructT prog 31 [(0,1),(1,1),(2,1),(3,1)] [.slice none 0 0,.int .i64 0,.int .i64 0,.int .i64 0]:=.of
instance :Fld prog 31 0 0:=.of
instance :Fld prog 31 1 1:=.of
instance :Fld prog 31 2 2:=.of
instance :Fld prog 31 3 3:=.of
instance :TySlice prog 33 3:=⟨by kernel_rfl⟩
instance :TyOne prog 33:=.of
instance :Elem prog 33 1 24:=.of
instance :TyAgg prog 35 2:=.of
instance :Elem prog 35 2 24:=.of
instance :StructT prog 35 [(0,1),(1,1)] [str [],.int .i64 0]:=.of
instance :FlatT prog 35 [.str,.int .i64]:=.of
instance :Fld prog 35 1 1:=.of
instance :TyAgg prog 38 6:=.of
instance :Elem prog 38 6 72:=.of
instance :StructT prog 38 [(0,1),(1,1),(2,1),(3,1),(4,1),(5,1)] [.int .i64 0,.int .i64 0,.int .i64 0,.int .i64 0,str [],.slice none 0 0]:=.of
instance :Fld prog 38 0 0:=.of
instance :Fld prog 38 1 1:=.of
instance :Fld prog 38 2 2:=.of
instance :Fld prog 38 3 3:=.of
instance :Fld prog 38 4 4:=.of
instance :Fld prog 38 5 5:=.of
instance :TySlice prog 40 38:=⟨by kernel_rfl⟩
instance :TySlice prog 41 46:=⟨by kernel_rfl⟩
instance :TySlice prog 44 56:=⟨by kernel_rfl⟩
instance :TyOne prog 44:=.of
instance :Elem prog 44 1 24:=.of
instance :TyAgg prog 46 11:=.of
instance :Elem prog 46 11 128:=.of
instance :StructT prog 46 [(0,1),(1,1),(2,1),(3,1),(4,1),(5,1),(6,4),(10,1)] [.int .i64 0,.int .i64 0,.slice none 0 0,.int .i64 0,.int .i64 0,str [],.slice none 0 0,.int .i64 0,.int .i64 0,.int .i64 0,.int .i64 0]:=.of
instance :Fld prog 46 0 0:=.of
instance :Fld prog 46 1 1:=.of
instance :Fld prog 46 2 2:=.of
instance :Fld prog 46 3 3:=.of
instance :Fld prog 46 4 4:=.of
instance :Fld prog 46 5 5:=.of
instance :Fld prog 46 6 6:=.of
instance :Fld prog 46 7 10:=.of
instance :TyAgg prog 56 4:=.of
instance :Elem prog 56 4 40:=.of
instance :StructT prog 56 [(0,1),(1,1),(2,1),(3,1)] [.int .i64 0,.int .i64 0,.int .i64 0,str []]:=.of
instance :FlatT prog 56 [.int .i64,.int .i64,.int .i64,.str]:=.of
instance :Fld prog 56 0 0:=.of
instance :Fld prog 56 1 1:=.of
instance :Fld prog 56 2 2:=.of
instance :TySlice prog 60 90:=⟨by kernel_rfl⟩
instance :TyOne prog 60:=.of
instance :Elem prog 60 1 24:=.of
instance :TySlice prog 61 118:=⟨by kernel_rfl⟩
instance :TyOne prog 61:=.of
instance :Elem prog 61 1 24:=.of
instance :TySlice prog 62 127:=⟨by kernel_rfl⟩
instance :TyOne prog 62:=.of
instance :Elem prog 62 1 24:=.of
instance :TyAgg prog 64 10:=.of
instance :Elem prog 64 10 152:=.of
instance :StructT prog 64 [(0,1),(1,1),(2,1),(3,1),(4,1),(5,1),(6,1),(7,1),(8,1),(9,1)] [.int .i64 0,str [],.int .i64 0,.slice none 0 0,.slice none 0 0,.slice none 0 0,.int .i64 0,.int .i64 0,.int .i64 0,.slice none 0 0]:=.of
instance :Fld prog 64 0 0:=.of
instance :Fld prog 64 1 1:=.of
instance :Fld prog 64 2 2:=.of
instance :Fld prog 64 3 3:=.of
instance :Fld prog 64 4 4:=.of
instance :Fld prog 64 5 5:=.of
instance :Fld prog 64 6 6:=.of
instance :Fld prog 64 7 7:=.of
instance :Fld prog 64 8 8:=.of
instance :Fld prog 64 9 9:=.of
instance :TyOne prog 65:=.of
instance :TyOne prog 66:=.of
instance :StructT prog 68 [(0,1),(1,1),(2,1),(3,1),(4,1)] [.pointer none,.slice none 0 0,.int .i64 0,.int .i64 0,.int .i64 0]:=.of
instance :Fld prog 68 0 0:=.of
instance :Fld prog 68 1 1:=.of
instance :Fld prog 68 2 2:=.of
instance :Fld prog 68 3 3:=.of
instance :Fld prog 68 4 4:=.of
instance :StructT prog 72 [(0,1),(1,1),(2,1)] [str [],.slice none 0 0,.bool false]:=.of
instance :Fld prog 72 0 0:=.of
instance :Fld prog 72 1 1:=.of
instance :Fld prog 72 2 2:=.of
instance :TyOne prog 84:=.of
instance :TySlice prog 86 92:=⟨by kernel_rfl⟩
instance :TyOne prog 86:=.of
instance :Elem prog 86 1 24:=.of
instance :StructT prog 88 [(0,1),(1,1),(2,1)] [.pointer none,.slice none 0 0,.int .i64 0]:=.of
instance :Fld prog 88 0 0:=.of
instance :Fld prog 88 1 1:=.of
instance :Fld prog 88 2 2:=.of
instance :TyAgg prog 90 3:=.of
instance :Elem prog 90 3 32:=.of
instance :StructT prog 90 [(0,1),(1,1),(2,1)] [str [],.int .i64 0,.int .i64 0]:=.of
instance :Fld prog 90 0 0:=.of
instance :Fld prog 90 1 1:=.of
instance :Fld prog 90 2 2:=.of
instance :Elem prog 92 2 24:=.of
instance :StructT prog 92 [(0,1),(1,1)] [str [],.int .i64 0]:=.of
instance :Fld prog 92 0 0:=.of
instance :Fld prog 92 1 1:=.of
instance :TySlice prog 102 44:=⟨by kernel_rfl⟩
instance :TySlice prog 103 106:=⟨by kernel_rfl⟩
instance :TyOne prog 103:=.of
instance :TyAgg prog 106 3:=.of
instance :Elem prog 106 3 32:=.of
instance :StructT prog 106 [(0,1),(1,1),(2,1)] [.int .i64 0,str [],.int .i64 0]:=.of
instance :Fld prog 106 0 0:=.of
instance :Fld prog 106 1 1:=.of
instance :Fld prog 106 2 2:=.of
instance :TyOne prog 107:=.of
instance :StructT prog 109 [(0,1),(1,1),(2,1),(3,1),(4,1)] [.slice none 0 0,.int .i64 0,.int .i64 0,.slice none 0 0,.int .i64 0]:=.of
instance :Fld prog 109 0 0:=.of
instance :Fld prog 109 1 1:=.of
instance :Fld prog 109 2 2:=.of
instance :Fld prog 109 3 3:=.of
instance :Fld prog 109 4 4:=.of
instance :TyAgg prog 118 2:=.of
instance :Elem prog 118 2 24:=.of
instance :StructT prog 118 [(0,1),(1,1)] [str [],.int .i64 0]:=.of
instance :Fld prog 118 0 0:=.of
instance :Fld prog 118 1 1:=.of
instance :TyOne prog 122:=.of
instance :TySlice prog 123 125:=⟨by kernel_rfl⟩
instance :TyOne prog 123:=.of
instance :Elem prog 123 1 24:=.of
instance :TyAgg prog 125 6:=.of
instance :Elem prog 125 6 72:=.of
instance :StructT prog 125 [(0,1),(1,1),(2,1),(3,1),(4,1),(5,1)] [.int .i64 0,str [],.int .i64 0,.slice none 0 0,.int .i64 0,.int .i64 0]:=.of
instance :Fld prog 125 0 0:=.of
instance :Fld prog 125 1 1:=.of
instance :Fld prog 125 2 2:=.of
instance :Fld prog 125 3 3:=.of
instance :Fld prog 125 4 4:=.of
instance :Fld prog 125 5 5:=.of
instance :TyAgg prog 127 15:=.of
instance :Elem prog 127 15 184:=.of
instance :StructT prog 127 [(0,1),(1,1),(2,1),(3,1),(4,1),(5,6),(11,1),(12,1),(13,1),(14,1)] [.int .i64 0,str [],.int .i64 0,.int .i64 0,.bool false,.int .i64 0,str [],.int .i64 0,.slice none 0 0,.int .i64 0,.int .i64 0,.slice none 0 0,.slice none 0 0,.int .i64 0,.int .i64 0]:=.of
instance :Fld prog 127 0 0:=.of
instance :Fld prog 127 1 1:=.of
instance :Fld prog 127 2 2:=.of
instance :Fld prog 127 3 3:=.of
instance :Fld prog 127 4 4:=.of
instance :Fld prog 127 5 5:=.of
instance :Fld prog 127 6 11:=.of
instance :Fld prog 127 7 12:=.of
instance :Fld prog 127 8 13:=.of
instance :Fld prog 127 9 14:=.of
instance :StructT prog 131 [(0,1),(1,1),(2,1)] [.int .i64 0,.int .i64 0,str []]:=.of
instance :Fld prog 131 0 0:=.of
instance :Fld prog 131 1 1:=.of
instance :Fld prog 131 2 2:=.of
instance :TyAgg prog 135 3:=.of
instance :Elem prog 135 3 24:=.of
instance :StructT prog 135 [(0,1),(1,1),(2,1)] [.int .i64 0,.int .i64 0,.int .i64 0]:=.of
instance :Fld prog 135 0 0:=.of
instance :Fld prog 135 1 1:=.of
instance :Fld prog 135 2 2:=.of
instance :TySlice prog 138 141:=⟨by kernel_rfl⟩
instance :TyAgg prog 141 2:=.of
instance :Elem prog 141 2 24:=.of
instance :StructT prog 141 [(0,1),(1,1)] [str [],.int .i64 0]:=.of
instance :Fld prog 141 0 0:=.of
instance :Fld prog 141 1 1:=.of
instance :TySlice prog 144 230:=⟨by kernel_rfl⟩
instance :TyOne prog 144:=.of
instance :Elem prog 144 1 24:=.of
instance :TySlice prog 145 135:=⟨by kernel_rfl⟩
instance :TyOne prog 145:=.of
instance :Elem prog 145 1 24:=.of
instance :StructT prog 147 [(0,1),(1,1),(2,1),(3,1),(4,1)] [.pointer none,.pointer none,.slice none 0 0,.slice none 0 0,.slice none 0 0]:=.of
instance :Fld prog 147 0 0:=.of
instance :Fld prog 147 1 1:=.of
instance :Fld prog 147 2 2:=.of
instance :Fld prog 147 3 3:=.of
instance :Fld prog 147 4 4:=.of
instance :TySlice prog 150 9:=⟨by kernel_rfl⟩
instance :TyOne prog 150:=.of
instance :Elem prog 150 1 24:=.of
instance :TySlice prog 151 150:=⟨by kernel_rfl⟩
instance :TySlice prog 155 196:=⟨by kernel_rfl⟩
instance :TyOne prog 155:=.of
instance :Elem prog 155 1 24:=.of
instance :StructT prog 157 [(0,1),(1,1),(2,1),(3,1),(4,1),(5,1),(6,1),(7,1)] [.pointer none,.pointer none,.slice none 0 0,.slice none 0 0,.slice none 0 0,.int .i64 0,.bool false,.int .i64 0]:=.of
instance :Fld prog 157 0 0:=.of
instance :Fld prog 157 1 1:=.of
instance :Fld prog 157 2 2:=.of
instance :Fld prog 157 3 3:=.of
instance :Fld prog 157 4 4:=.of
instance :Fld prog 157 5 5:=.of
instance :Fld prog 157 6 6:=.of
instance :Fld prog 157 7 7:=.of
instance :TyOne prog 174:=.of
instance :Elem prog 174 1 8:=.of
instance :TySlice prog 175 5:=⟨by kernel_rfl⟩
instance :TyOne prog 175:=.of
instance :Elem prog 175 1 24:=.of
instance :Fld prog 177 0 0:=.of
instance :Fld prog 177 1 1:=.of
instance :StructT prog 179 [(0,2)] [.pointer none,.slice none 0 0]:=.of
instance :Fld prog 179 0 0:=.of
instance :TyOne prog 181:=.of
instance :TySlice prog 182 186:=⟨by kernel_rfl⟩
instance :TyOne prog 182:=.of
instance :Elem prog 182 1 24:=.of
instance :StructT prog 184 [(0,1),(1,1),(2,1),(3,1)] [.pointer none,.slice none 0 0,.map none,.bool false]:=.of
instance :Fld prog 184 0 0:=.of
instance :Fld prog 184 1 1:=.of
instance :Fld prog 184 2 2:=.of
instance :Fld prog 184 3 3:=.of
instance :TyAgg prog 186 3:=.of
instance :Elem prog 186 3 32:=.of
instance :StructT prog 186 [(0,1),(1,1),(2,1)] [str [],.int .i64 0,.pointer none]:=.of
instance :Fld prog 186 0 0:=.of
instance :Fld prog 186 1 1:=.of
instance :Fld prog 186 2 2:=.of
instance :TySlice prog 189 33:=⟨by kernel_rfl⟩
instance :Elem prog 196 2 24:=.of
instance :StructT prog 196 [(0,1),(1,1)] [str [],.int .i64 0]:=.of
instance :Fld prog 196 0 0:=.of
instance :Fld prog 196 1 1:=.of
instance :StructT prog 220 [(0,1),(1,1)] [.slice none 0 0,.slice none 0 0]:=.of
instance :Fld prog 220 0 0:=.of
instance :Fld prog 220 1 1:=.of
instance :TyAgg prog 230 2:=.of
instance :Elem prog 230 2 24:=.of
instance :StructT prog 230 [(0,1),(1,1)] [str [],.int .i64 0]:=.of
instance :Fld prog 230 0 0:=.of
instance :Fld prog 230 1 1:=.of
instance :Own prog 9:=.of
instance :Own prog 10:=.of
instance :Own prog 11:=.of
instance :Own prog 12:=.of
instance :Own prog 13:=.of
instance :Own prog 14:=.of
instance :Own prog 15:=.of
instance :Own prog 16:=.of
instance :Own prog 17:=.of
instance :Own prog 18:=.of
instance :Own prog 19:=.of
instance :Own prog 20:=.of
instance :Own prog 21:=.of
instance :Own prog 22:=.of
instance :Own prog 23:=.of
instance :Own prog 24:=.of
instance :Own prog 25:=.of
instance :Own prog 26:=.of
instance :Own prog 27:=.of
instance :Own prog 28:=.of
instance :Own prog 29:=.of
instance :Own prog 30:=.of
instance :Own prog 31:=.of
instance :Own prog 32:=.of
instance :Own prog 33:=.of
instance :Own prog 34:=.of
instance :Own prog 35:=.of
instance :Own prog 36:=.of
instance :Own prog 37:=.of
instance :Own prog 38:=.of
instance :Own prog 39:=.of
instance :Own prog 40:=.of
instance :Own prog 41:=.of
instance :Own prog 42:=.of
instance :Own prog 43:=.of
instance :Own prog 44:=.of
instance :Own prog 45:=.of
instance :Own prog 46:=.of
instance :Own prog 47:=.of
instance :Own prog 48:=.of
instance :Own prog 49:=.of
instance :Own prog 50:=.of
instance :Own prog 51:=.of
instance :Own prog 52:=.of
instance :Own prog 53:=.of
instance :Own prog 54:=.of
instance :Own prog 55:=.of
instance :Own prog 56:=.of
instance :Own prog 57:=.of
instance :Own prog 58:=.of
instance :Own prog 59:=.of
instance :Own prog 60:=.of
instance :Own prog 61:=.of
instance :Own prog 62:=.of
instance :Own prog 63:=.of
instance :Own prog 64:=.of
instance :Own prog 65:=.of
instance :Own prog 66:=.of
instance :Own prog 67:=.of
instance :Own prog 68:=.of
instance :Own prog 69:=.of
instance :Own prog 70:=.of
instance :Own prog 71:=.of
instance :Own prog 72:=.of
instance :Own prog 73:=.of
instance :Own prog 74:=.of
instance :Own prog 75:=.of
instance :Own prog 76:=.of
instance :Own prog 77:=.of
instance :Own prog 78:=.of
instance :Own prog 79:=.of
instance :Own prog 80:=.of
instance :Own prog 81:=.of
instance :Own prog 82:=.of
instance :Own prog 83:=.of
instance :Own prog 84:=.of
instance :Own prog 85:=.of
instance :Own prog 86:=.of
instance :Own prog 87:=.of
instance :Own prog 88:=.of
instance :Own prog 89:=.of
instance :Own prog 90:=.of
instance :Own prog 91:=.of
instance :Own prog 92:=.of
instance :Own prog 93:=.of
instance :Own prog 94:=.of
instance :Own prog 95:=.of
instance :Own prog 96:=.of
instance :Own prog 97:=.of
instance :Own prog 98:=.of
instance :Own prog 99:=.of
instance :Own prog 100:=.of
instance :Own prog 101:=.of
instance :Own prog 102:=.of
instance :Own prog 103:=.of
instance :Own prog 104:=.of
instance :Own prog 105:=.of
instance :Own prog 106:=.of
instance :Own prog 107:=.of
instance :Own prog 108:=.of
instance :Own prog 109:=.of
instance :Own prog 110:=.of
instance :Own prog 111:=.of
instance :Own prog 112:=.of
instance :Own prog 113:=.of
instance :Own prog 114:=.of
instance :Own prog 115:=.of
instance :Own prog 116:=.of
instance :Own prog 117:=.of
instance :Own prog 118:=.of
instance :Own prog 119:=.of
instance :Own prog 120:=.of
instance :Own prog 121:=.of
instance :Own prog 122:=.of
instance :Own prog 125:=.of
instance :Own prog 126:=.of
instance :Own prog 127:=.of
instance :Own prog 128:=.of
instance :Own prog 129:=.of
instance :Own prog 130:=.of
instance :Own prog 131:=.of
instance :Own prog 132:=.of
instance :Own prog 137:=.of
instance :Own prog 138:=.of
instance :Own prog 139:=.of
instance :Own prog 140:=.of
instance :Own prog 141:=.of
instance :Own prog 142:=.of
instance :Own prog 156:=.of
instance :Own prog 160:=.of
instance :Own prog 161:=.of
instance :Own prog 164:=.of
instance :Own prog 165:=.of
instance :Own prog 166:=.of
instance :Own prog 167:=.of
instance :Own prog 168:=.of
instance :Own prog 169:=.of
instance :Own prog 177:=.of
instance :Own prog 178:=.of
instance :Own prog 179:=.of
end Go.Proofs
namespace Go.Proofs
open Go.Proofs.Tryz
open Go.Sp
open Go.Fw
abbrev ptr (b:Nat):Value:=.pointer (some ⟨b,0,none⟩)
abbrev nt (n:Nat):Value:=.int .i64 (n:Int)
mutual
def A67 (I:P6):Sp.Ex->List Value->Prop
 | .mk k nm n args f t,cs=> ∃a cap xs,cs= [nt k,str nm,nt n,.slice a args.length cap,nt f,nt t]/\RowI I 125 6 (.slice a args.length cap) args.length xs/\Y9 I args xs
def Y9 (I:P6):List Sp.Ex->List Value->Prop
 | [],xs=>xs= []
 |e::es,xs=> ∃c r,xs=c++r/\A67 I e c/\Y9 I es r
 end
mutual
theorem A67.le {I I':P6} (m:Le I I'):∀(e:Sp.Ex) (cs:List Value),A67 I e cs->A67 I' e cs
 | .mk k nm n args f t,cs,h=>by
  rw[A67]at h |-;obtain⟨a,cap,xs,h1,h2,h3⟩:=h;exact⟨a,cap,xs,h1,h2.le m,Y9.le m _ _ h3⟩
theorem Y9.le {I I':P6} (m:Le I I'):∀(es:List Sp.Ex) (xs:List Value),Y9 I es xs->Y9 I' es xs
 | [],xs,h=>by rw[Y9]at h |-;exact h
 |e::es,xs,h=>by
  rw[Y9]at h |-;obtain⟨c,r,h1,h2,h3⟩:=h;exact⟨c,r,h1,A67.le m _ _ h2,Y9.le m _ _ h3⟩
 end
theorem A67.out {I:P6}{e:Sp.Ex}{cs:List Value} (h:A67 I e cs):
  ∃a cap xs,cs= [nt e.kind,str e.name,nt e.n,.slice a e.args.length cap,nt e.fr,nt e.to]/\RowI I 125 6 (.slice a e.args.length cap) e.args.length xs/\Y9 I e.args xs:=by
 cases e with
 |mk k nm n args f t=>rw[A67]at h;exact h
theorem A67.of {I:P6}{k n f t cap:Nat}{nm:List UInt8}{a:Option Addr}{args:List Sp.Ex}{xs:List Value} (h2:RowI I 125 6 (.slice a args.length cap) args.length xs) (h3:Y9 I args xs):
  A67 I (.mk k nm n args f t) [nt k,str nm,nt n,.slice a args.length cap,nt f,nt t]:=by
 rw[A67];exact⟨a,cap,xs,rfl,h2,h3⟩
theorem A67.len {I:P6}{e:Sp.Ex}{cs:List Value} (h:A67 I e cs):cs.length=6:=by
 obtain⟨_,_,_,rfl,_⟩:=h.out;rfl
theorem Y9.nil {I:P6}:Y9 I [] []:=by rw[Y9]
theorem Y9.snoc {I:P6}:∀ {es:List Sp.Ex}{xs c:List Value}{e:Sp.Ex},Y9 I es xs->A67 I e c->Y9 I (es++ [e]) (xs++c)
 | [],xs,c,e,h,he=>by
  rw[Y9]at h;subst h;rw[P7,P7,Y9];exact⟨c,[],by simp,he,by rw[Y9]⟩
 |a::es,xs,c,e,h,he=>by
  rw[Y9]at h;obtain⟨c1,r,rfl,h2,h3⟩:=h;rw[X8,Y9];exact⟨c1,r++c,by rw[O8],h2,h3.snoc he⟩
theorem Y9.get {I:P6}:∀ {es:List Sp.Ex}{xs:List Value}{i:Nat}{e:Sp.Ex},Y9 I es xs->es[i]?=some e->A67 I e ((xs.drop (i *6)).take 6)
 | [],_,_,_,_,he=>by simp at he
 |a::es,xs,0,e,h,he=>by
  rw[Y9]at h;obtain⟨c,r,rfl,h2,h3⟩:=h;simp only[A0A,U3]at he;subst he;rw[A1k,A2l,A10 (by rw[h2.len];omega),A0n (by rw[h2.len];omega)];exact h2
 |a::es,xs,i+1,e,h,he=>by
  rw[Y9]at h;obtain⟨c,r,rfl,h2,h3⟩:=h;rw[A0z]at he;have:=h3.get he;rw[A5x,A4y (by rw[h2.len];omega),P7,h2.len,show (i+1) *6-6=i *6 by omega];exact this
abbrev A2K (k:Nat) (nm:List UInt8) (a lb:Nat) (o:Bool) (e:Sp.Ex) (ea:Option Addr) (ec:Nat) (v1 v2:Value) (f t:Nat):List Value:=
 [nt k,str nm,nt a,nt lb,.bool o,nt e.kind,str e.name,nt e.n,.slice ea e.args.length ec,nt e.fr,nt e.to,v1,v2,nt f,nt t]
mutual
def A5h (I:P6):Sp.Stm->List Value->Prop
 | .mk k nm a lb o e thn els f t,cs=> ∃ea ec ex a1 c1 xs1 a2 c2 xs2,cs=A2K k nm a lb o e ea ec (.slice a1 thn.length c1) (.slice a2 els.length c2) f t/\
  RowI I 125 6 (.slice ea e.args.length ec) e.args.length ex/\Y9 I e.args ex/\
  RowI I 127 15 (.slice a1 thn.length c1) thn.length xs1/\X9 I thn xs1/\RowI I 127 15 (.slice a2 els.length c2) els.length xs2/\X9 I els xs2
def X9 (I:P6):List Sp.Stm->List Value->Prop
 | [],xs=>xs= []
 |e::es,xs=> ∃c r,xs=c++r/\A5h I e c/\X9 I es r
 end
mutual
theorem A5h.le {I I':P6} (m:Le I I'):∀(e:Sp.Stm) (cs:List Value),A5h I e cs->A5h I' e cs
 | .mk k nm a lb o e thn els f t,cs,h=>by
  rw[A5h]at h |-;obtain⟨ea,ec,ex,a1,c1,xs1,a2,c2,xs2,h1,h2,h3,h4,h5,h6,h7⟩:=h;exact⟨ea,ec,ex,a1,c1,xs1,a2,c2,xs2,h1,h2.le m,Y9.le m _ _ h3,h4.le m,X9.le m _ _ h5,h6.le m,X9.le m _ _ h7⟩
theorem X9.le {I I':P6} (m:Le I I'):∀(es:List Sp.Stm) (xs:List Value),X9 I es xs->X9 I' es xs
 | [],xs,h=>by rw[X9]at h |-;exact h
 |e::es,xs,h=>by
  rw[X9]at h |-;obtain⟨c,r,h1,h2,h3⟩:=h;exact⟨c,r,h1,A5h.le m _ _ h2,X9.le m _ _ h3⟩
 end
theorem A5h.out {I:P6}{s:Sp.Stm}{cs:List Value} (h:A5h I s cs):∃ea ec ex a1 c1 xs1 a2 c2 xs2,cs=A2K s.kind s.name s.at_ s.label s.opn s.e ea ec (.slice a1 s.thn.length c1) (.slice a2 s.els.length c2) s.fr s.to/\
  RowI I 125 6 (.slice ea s.e.args.length ec) s.e.args.length ex/\Y9 I s.e.args ex/\
  RowI I 127 15 (.slice a1 s.thn.length c1) s.thn.length xs1/\X9 I s.thn xs1/\RowI I 127 15 (.slice a2 s.els.length c2) s.els.length xs2/\X9 I s.els xs2:=by
 cases s with
 |mk k nm a lb o e thn els f t=>rw[A5h]at h;exact h
theorem A5h.of {I:P6}{k a lb f t ec c1 c2:Nat}{nm:List UInt8}{o:Bool}{e:Sp.Ex}{thn els:List Sp.Stm}{ea a1 a2:Option Addr}{ex xs1 xs2:List Value}
  (h2:RowI I 125 6 (.slice ea e.args.length ec) e.args.length ex) (h3:Y9 I e.args ex)
  (h4:RowI I 127 15 (.slice a1 thn.length c1) thn.length xs1) (h5:X9 I thn xs1) (h6:RowI I 127 15 (.slice a2 els.length c2) els.length xs2) (h7:X9 I els xs2):
  A5h I (.mk k nm a lb o e thn els f t) (A2K k nm a lb o e ea ec (.slice a1 thn.length c1) (.slice a2 els.length c2) f t):=by
 rw[A5h];exact⟨ea,ec,ex,a1,c1,xs1,a2,c2,xs2,rfl,h2,h3,h4,h5,h6,h7⟩
theorem A5h.len {I:P6}{e:Sp.Stm}{cs:List Value} (h:A5h I e cs):cs.length=15:=by
 obtain⟨_,_,_,_,_,_,_,_,_,rfl,_⟩:=h.out;rfl
theorem X9.nil {I:P6}:X9 I [] []:=by rw[X9]
theorem X9.snoc {I:P6}:∀ {es:List Sp.Stm}{xs c:List Value}{e:Sp.Stm},X9 I es xs->A5h I e c->X9 I (es++ [e]) (xs++c)
 | [],xs,c,e,h,he=>by
  rw[X9]at h;subst h;rw[P7,P7,X9];exact⟨c,[],by simp,he,by rw[X9]⟩
 |a::es,xs,c,e,h,he=>by
  rw[X9]at h;obtain⟨c1,r,rfl,h2,h3⟩:=h;rw[X8,X9];exact⟨c1,r++c,by rw[O8],h2,h3.snoc he⟩
theorem X9.get {I:P6}:∀ {es:List Sp.Stm}{xs:List Value}{i:Nat}{e:Sp.Stm},X9 I es xs->es[i]?=some e->A5h I e ((xs.drop (i *15)).take 15)
 | [],_,_,_,_,he=>by simp at he
 |a::es,xs,0,e,h,he=>by
  rw[X9]at h;obtain⟨c,r,rfl,h2,h3⟩:=h;simp only[A0A,U3]at he;subst he;rw[A1k,A2l,A10 (by rw[h2.len];omega),A0n (by rw[h2.len];omega)];exact h2
 |a::es,xs,i+1,e,h,he=>by
  rw[X9]at h;obtain⟨c,r,rfl,h2,h3⟩:=h;rw[A0z]at he;have:=h3.get he;rw[A5x,A4y (by rw[h2.len];omega),P7,h2.len,show (i+1) *15-15=i *15 by omega];exact this
abbrev A5J (d:Sp.Dg):List Value:= [nt d.fr,nt d.to,nt d.err,str d.name]
abbrev A2N (p:Sp.Par):List Value:= [str p.name,nt p.label,nt p.at_]
abbrev A2X (p:Sp.Rf):List Value:= [str p.name,nt p.at_]
abbrev A1z (k:Nat) (nm:List UInt8) (lb:Nat) (vp vs vb:Value) (a:Int) (sz mk:Nat) (vd:Value):List Value:= [nt k,str nm,nt lb,vp,vs,vb,.int .i64 a,nt sz,nt mk,vd]
def A5X (I:P6) (it:Sp.Itm) (cs:List Value):Prop:= ∃ap cp as_ cs' ab cb ad cd xb,cs=A1z it.kind it.name it.label (.slice ap it.params.length cp) (.slice as_ it.sends.length cs') (.slice ab it.body.length cb) it.at_ it.size it.mark (.slice ad it.diags.length cd)/\
 RowI I 90 3 (.slice ap it.params.length cp) it.params.length (it.params.flatMap A2N)/\RowI I 118 2 (.slice as_ it.sends.length cs') it.sends.length (it.sends.flatMap A2X)/\
 RowI I 127 15 (.slice ab it.body.length cb) it.body.length xb/\X9 I it.body xb/\RowI I 56 4 (.slice ad it.diags.length cd) it.diags.length (it.diags.flatMap A5J)
theorem A5X.le {I I':P6} (m:Le I I') {it:Sp.Itm}{cs:List Value} (h:A5X I it cs):A5X I' it cs:=by
 obtain⟨ap,cp,as_,cs',ab,cb,ad,cd,xb,h1,h2,h3,h4,h5,h6⟩:=h;exact⟨ap,cp,as_,cs',ab,cb,ad,cd,xb,h1,h2.le m,h3.le m,h4.le m,h5.le m,h6.le m⟩
theorem A5X.len {I:P6}{it:Sp.Itm}{cs:List Value} (h:A5X I it cs):cs.length=10:=by
 obtain⟨_,_,_,_,_,_,_,_,_,rfl,_⟩:=h;rfl
def A5d (I:P6):List Sp.Itm->List Value->Prop
 | [],xs=>xs= []
 |e::es,xs=> ∃c r,xs=c++r/\A5X I e c/\A5d I es r
theorem A5d.le {I I':P6} (m:Le I I'):∀ {es:List Sp.Itm}{xs:List Value},A5d I es xs->A5d I' es xs
 | [],_,h=>h
 |_::_,_,⟨c,r,h1,h2,h3⟩=>⟨c,r,h1,h2.le m,h3.le m⟩
theorem A5d.snoc {I:P6}:∀ {es:List Sp.Itm}{xs c:List Value}{e:Sp.Itm},A5d I es xs->A5X I e c->A5d I (es++ [e]) (xs++c)
 | [],xs,c,e,h,he=>by
  obtain rfl:xs= []:=h;exact⟨c,[],by simp,he,rfl⟩
 |a::es,xs,c,e,⟨c1,r,e1,h2,h3⟩,he=>⟨c1,r++c,by rw[e1,O8],h2,h3.snoc he⟩
theorem A5d.get {I:P6}:∀ {es:List Sp.Itm}{xs:List Value}{i:Nat}{e:Sp.Itm},A5d I es xs->es[i]?=some e->A5X I e ((xs.drop (i *10)).take 10)
 | [],_,_,_,_,he=>by simp at he
 |a::es,xs,0,e,h,he=>by
  obtain⟨c,r,rfl,h2,h3⟩:=h;simp only[A0A,U3]at he;subst he;rw[A1k,A2l,A10 (by rw[h2.len];omega),A0n (by rw[h2.len];omega)];exact h2
 |a::es,xs,i+1,e,h,he=>by
  obtain⟨c,r,rfl,h2,h3⟩:=h;rw[A0z]at he;have:=h3.get he;rw[A5x,A4y (by rw[h2.len];omega),P7,h2.len,show (i+1) *10-10=i *10 by omega];exact this
theorem toNat_inj {a b:UInt8} (h:(a.toNat:Int)=b.toNat):a=b:=UInt8.toNat_inj.1 (by omega)
def A3F (t:Sp.Tok):List Value:= [.int .i64 (t.kind:Int),str t.text,.int .i64 (t.pos:Int)]
theorem C6F {s:List UInt8}{k:Nat} (h:k<s.length) (hf:A5Y (s.getD k 0)=false):B0u s=false:=by
 have:s.all A5Y=false:=by
  rw[Bool.eq_false_iff];intro h1;have:=(C0b _ _).1 h1 k h;rw[hf]at this;cases this
 simp[B0u,this]
def A1r (n:Nat):List Value:= [.int .i64 (n:Int)]
theorem B8M (l:List Sp.Tok) (k:Nat) (t:Sp.Tok) (h:l[k]?=some t) (j:Nat) (v:Value) (hv:(A3F t)[j]?=some v):(l.flatMap A3F)[k *3+j]?=some v:=by
 induction l generalizing k with
 |nil=>simp at h
 |cons a l ih=>
  have hj:j<3:=by
   have:=(A0w.1 hv).1;simpa[A3F] using this
  cases k with
  |zero=>
   simp at h
   subst h;rw[A0c,A3q (by simp[A3F];omega)];simpa using hv
  |succ k=>
   rw[A0c,A2C (by simp[A3F];omega)];have:=ih k (by simpa using h);rw[<-this]
   congr 1
   simp[A3F];omega
theorem A7D (s:List UInt8):(U9 s).length<=s.length:=by
 have key:∀(n k:Nat),s.length-k=n->(A5C s k).length<=n:=by
  intro n;induction n using Nat.strongRecOn with
  |_ n ih=>
   intro k hn;by_cases h:k<s.length
   ·have hl:=A6G (s.drop k) (by simp;omega)
    simp only[A0s]at hl;have:=ih (s.length-(k+(Sp.one (s.drop k)).2)) (by omega) _ rfl;rw[A5W s k h,E9];split
    ·simp;omega
    ·simp;omega
   ·rw[A6Q s k (by omega)];simp
 have:=key _ 0 rfl;rw[A7C];simpa using this
structure Ok (T:Sp.Src):Prop where
 size:T.size<=1048576
 len:T.l.length<=T.size
 tok:∀t∈T.l,t.pos+t.text.length<=T.size
 len1:∀t∈T.l,1<=t.text.length
 dig:∀t∈T.l,t.kind=2->∀c∈t.text,48<=c.toNat/\c.toNat<=57
theorem Ok.at_ {T:Sp.Src} (h:Ok T) (i:Nat):(T.tok i).pos+(T.tok i).text.length<=T.size:=by
 rcases U2 i T.l.length with h1|h1
 ·rw[Sp.Src.tok,O4,G6 h1]
  exact h.tok _ (O5 h1)
 ·rw[A44 h1];simp
theorem A35 {T:Sp.Src}{i:Nat} (h:i<T.l.length):T.l[i]?=some (T.tok i):=by
 rw[Sp.Src.tok,O4,G6 h];rfl
abbrev A20 (I:P6) (T:Sp.Src) (la:Option Addr) (lc:Nat):Prop:=RowI I 106 3 (.slice la T.l.length lc) T.l.length (T.l.flatMap A3F)
abbrev A37 (ds:List Sp.Dg) (da:Option Addr) (dc:Nat):HItem:=.row (.slice da ds.length dc) 56 4 ds.length (ds.flatMap A5J)
theorem C1R (s:List UInt8) (h:s.length<=1048576):Ok ⟨U9 s,s.length⟩:=
 ⟨h,A7D s,fun t ht=>(A2D s t ht).fit,fun t ht=>(A2D s t ht).len,fun t ht hk=>B93 (A2D s t ht) hk⟩
end Go.Proofs
