/- Own work. -/
import Derived.Test.YtfgmppgjopchoaaGreatDoorSw8
import Derived.Lib.ItoaLen
import Derived.Test.YtfgmppgjopchoaaGreatDoorProg
import Derived.KernelRfl
set_option maxHeartbeats 64000000
namespace Go.Sp
abbrev Lab:=Nat->Nat
structure Li where
 name:List UInt8
 lab:Nat
 op:Option Nat
def Li.val (o:Lab) (l:Li):Nat:=match l.op with
 |none=>l.lab
 |some f=>o f
def A71 (o:Lab) (sc:List Li):List Lc:=sc.map (fun l=>⟨l.name,l.val o⟩)
def A3B:List Li->List UInt8->Option Li
 | [],_=>none
 |l::sc,n=>match A3B sc n with
  |some x=>some x
  |none=>if l.name=n then some l else none
def A6j (sc:List Li):List Nat:=sc.filterMap (·.op)
def upL (o:Lab) (f n:Nat):Lab:=fun g=>if g=f then n else o g
abbrev LP:=Lab×Bool
def A30 (p:LP) (f n:Nat):LP:=if p.1 f|||n=p.1 f then p else (upL p.1 f (p.1 f|||n),true)
def A4I (p:LP) (op:Option Nat) (n:Nat):LP:=match op with
 |none=>p
 |some f=>A30 p f n
def A8h (o:Bool) (f:Nat):Option Nat:=if o=true then some f else none
def B8j (p:LP) (sc:List Li) (nm:List UInt8) (n:Nat):LP:=match A3B sc nm with
 |some l=>A4I p l.op n
 |none=>p
mutual
def B34 (its:List Itm):Stm->List Li->Nat->LP->List Li×LP
 | .mk k nm _ lb o e thn els f _,sc,un,p=>
  if k=1 then (sc++ [⟨nm,lb,A8h o f⟩],A4I p (A8h o f) (A2E its (A71 p.1 sc) e|||un)) else
  if k=2 then (sc,B8j p sc nm (A2E its (A71 p.1 sc) e|||un)) else
  if k=3\/k=4 then (sc,(A2d its els sc (A2E its (A71 p.1 sc) e|||un) (A2d its thn sc (A2E its (A71 p.1 sc) e|||un) p).2).2) else (sc,p)
def A2d (its:List Itm):List Stm->List Li->Nat->LP->List Li×LP
 | [],sc,_,p=>(sc,p)
 |x::l,sc,un,p=>A2d its l (B34 its x sc un p).1 un (B34 its x sc un p).2
 end
mutual
def Stm.lets:Stm->List Nat
 | .mk k _ _ _ _ _ thn els f _=>(if k=1 then [f] else [])++(A1c thn++A1c els)
def A1c:List Stm->List Nat
 | []=> []
 |x::l=>x.lets++A1c l
 end
def B2j (l:List Par):List Li:=l.map (fun p=>⟨p.name,p.label,none⟩)
def A47 (its:List Itm) (it:Itm) (o:Lab):LP:=(A2d its it.body (B2j it.params) 0 (o,false)).2
def B06 (its:List Itm) (it:Itm):Nat->Lab
 |0=>fun _=>0
 |k+1=>(A47 its it (B06 its it k)).1
def C7d (its:List Itm) (it:Itm) (o:Lab):Prop:=(∃k,o=B06 its it k)/\A47 its it o=(o,false)
mutual
def A97 (o:Lab):Stm->Stm
 | .mk k nm a lb op e thn els f t=> .mk k nm a (if k=1/\op=true then o f else lb) (if k=1 then false else op) e (A2h o thn) (A2h o els) f t
def A2h (o:Lab):List Stm->List Stm
 | []=> []
 |x::l=>A97 o x::A2h o l
 end
def itI (o:Lab) (it:Itm):Itm:= { it with body:=A2h o it.body}
def C1p (its:List Itm) (it r:Itm):Prop:=(it.kind=2->∃o,C7d its it o/\r=itI o it)/\(it.kind≠2->r=it)
inductive AllTwo {α β:Type} (R:α->β->Prop):List α->List β->Prop
 |nil:AllTwo R [] []
 |cons {a:α}{b:β}{l:List α}{r:List β} (h:R a b) (t:AllTwo R l r):AllTwo R (a::l) (b::r)
theorem AllTwo.len {α β:Type}{R:α->β->Prop}:∀ {l:List α}{r:List β},AllTwo R l r->r.length=l.length
 |_,_,.nil=>rfl
 |_,_,.cons _ t=>by rw[F9,F9,t.len]
def B1u (its r:List Itm):Prop:=AllTwo (C1p its) its r
theorem B3q {its:List Itm}{it:Itm}{k:Nat} (h:A47 its it (B06 its it k)=(B06 its it k,false)):∀j,B06 its it (k+j)=B06 its it k
 |0=>rfl
 |j+1=>by
  have ih:=B3q h j;show (A47 its it (B06 its it (k+j))).1=_
  rw[ih,h]
theorem C3G {its:List Itm}{it:Itm}{o o':Lab} (h:C7d its it o) (h':C7d its it o'):o=o':=by
 obtain⟨⟨k,rfl⟩,hk⟩:=h;obtain⟨⟨j,rfl⟩,hj⟩:=h';rcases Nat.le_total k j with hle|hle
 ·obtain⟨d,rfl⟩:=Nat.le.dest hle
  rw[B3q hk]
 ·obtain⟨d,rfl⟩:=Nat.le.dest hle
  rw[B3q hj]
theorem C1T {its:List Itm}{it a b:Itm} (ha:C1p its it a) (hb:C1p its it b):a=b:=by
 by_cases h:it.kind=2
 ·obtain⟨o,h1,rfl⟩:=ha.1 h
  obtain⟨o',h2,rfl⟩:=hb.1 h;rw[C3G h1 h2]
 ·rw[ha.2 h,hb.2 h]
theorem B45 {its:List Itm}:∀ {l a b:List Itm},AllTwo (C1p its) l a->AllTwo (C1p its) l b->a=b
 |_,_,_,.nil,.nil=>rfl
 |_,_,_,.cons h1 t1,.cons h2 t2=>by rw[C1T h1 h2,B45 t1 t2]
theorem B4Q (o:Lab) (n:List UInt8):∀(sc:List Li),A1G (A71 o sc) n=(A3B sc n).map (fun l=>⟨l.name,l.val o⟩)
 | []=>rfl
 |l::sc=>by
  have ih:=B4Q o n sc;show A1G (⟨l.name,l.val o⟩::A71 o sc) n=_
  rw[A1G,ih,A3B];cases A3B sc n with
  |some x=>rfl
  |none=>
   simp only[Option.map_none];split<;>rfl
theorem A7V {n:List UInt8}{x:Li}:∀ {l:List Li},A3B l n=some x->x∈l/\x.name=n
 | [],h=>by cases h
 |a::l,h=>by
  rw[A3B]at h;split at h
  ·rename_i y hy
   cases h
   obtain⟨h1,h2⟩:=A7V hy;exact⟨A0L _ h1,h2⟩
  ·split at h
   ·rename_i h2;cases h;exact⟨Q5,h2⟩
   ·cases h
theorem B4R {n:List UInt8}{x:Li}:∀ {l:List Li}{i:Nat},l[i]?=some x->x.name=n->(∀j y,i<j->l[j]?=some y->y.name≠n)->A3B l n=some x
 | [],i,h,_,_=>by simp at h
 |a::l,0,h,hn,hl=>by
  simp only[A0z,U4]at h;subst h;have:A3B l n=none:=by
   cases hf:A3B l n with
   |none=>rfl
   |some y=>
    obtain⟨hy,hyn⟩:=A7V hf;obtain⟨j,hj⟩:=A76.1 hy;exact absurd hyn (hl (j+1) y (by omega) (by rw[A0w];exact hj))
  rw[A3B,this];simp[hn]
 |a::l,i+1,h,hn,hl=>by
  rw[A0w]at h;rw[A3B,B4R h hn (fun j y hj hy=>hl (j+1) y (by omega) (by rw[A0w];exact hy))]
theorem B7y {n:List UInt8}:∀ {l:List Li},(∀(j:Nat) y,l[j]?=some y->y.name≠n)->A3B l n=none:=fun {l} h=>by
 cases hf:A3B l n with
 |none=>rfl
 |some y=>
  obtain⟨hy,hyn⟩:=A7V hf;obtain⟨j,hj⟩:=A76.1 hy;exact absurd hyn (h j y hj)
theorem C6F (its:List Itm) (x:Stm) (sc:List Li) (un:Nat) (p:LP):B34 its x sc un p=
  if x.kind=1 then (sc++ [⟨x.name,x.label,A8h x.opn x.fr⟩],A4I p (A8h x.opn x.fr) (A2E its (A71 p.1 sc) x.e|||un)) else
  if x.kind=2 then (sc,B8j p sc x.name (A2E its (A71 p.1 sc) x.e|||un)) else
  if x.kind=3\/x.kind=4 then (sc,(A2d its x.els sc (A2E its (A71 p.1 sc) x.e|||un) (A2d its x.thn sc (A2E its (A71 p.1 sc) x.e|||un) p).2).2) else (sc,p):=by
 cases x;rw[B34];rfl
theorem B5u (its:List Itm):∀(l r:List Stm) (sc:List Li) (un:Nat) (p:LP),A2d its (l++r) sc un p=A2d its r (A2d its l sc un p).1 un (A2d its l sc un p).2
 | [],r,sc,un,p=>by rw[P9,A2d]
 |e::l,r,sc,un,p=>by rw[X3,A2d,A2d,B5u its l r]
theorem B97 (its:List Itm) {l:List Stm}{k:Nat}{x:Stm} (h:l[k]?=some x) (sc:List Li) (un:Nat) (p:LP):
  A2d its (l.take (k+1)) sc un p=B34 its x (A2d its (l.take k) sc un p).1 un (A2d its (l.take k) sc un p).2:=by
 rw[Q9 h,B5u,A2d,A2d]
def okL (p:LP):Prop:= ∀f,p.1 f<256
def B55 (sc:List Li):Prop:= ∀l∈sc,l.lab<256
theorem B3E {p:LP}{sc:List Li} (hp:okL p) (hs:B55 sc):A4O (A71 p.1 sc):=fun l hl=>by
 obtain⟨x,hx,rfl⟩:=A0x.1 hl;show x.val p.1<256
 rw[Li.val];split
 ·exact hs x hx
 ·exact hp _
theorem C2o {p:LP} (h:okL p) (f:Nat) {n:Nat} (hn:n<256):okL (A30 p f n):=by
 rw[A30];split
 ·exact h
 ·intro g
  show upL p.1 f (p.1 f|||n) g<256
  rw[upL];split
  ·exact B0d (h f) hn
  ·exact h g
theorem B5k {p:LP} (h:okL p) (f:Option Nat) {n:Nat} (hn:n<256):okL (A4I p f n):=by
 cases f with
 |none=>exact h
 |some f=>exact C2o h f hn
theorem C6A {p:LP} (h:okL p) (sc:List Li) (nm:List UInt8) {n:Nat} (hn:n<256):okL (B8j p sc nm n):=by
 rw[B8j];split
 ·exact B5k h _ hn
 ·exact h
mutual
theorem C1a {its:List Itm} (hlab:A3b its):∀(x:Stm) {sc:List Li}{un:Nat}{p:LP},x.all B0O B08->okL p->B55 sc->un<256->okL (B34 its x sc un p).2/\B55 (B34 its x sc un p).1
 | .mk k nm a lb o e thn els f t,sc,un,p,ha,hp,hs,hu=>by
  rw[Stm.all]at ha;obtain⟨h1,h2,h3,h4⟩:=ha;have hav:=B0d (A4N hlab (B3E hp hs) e) hu;rw[B34];split
  ·rename_i hk
   refine⟨B5k hp _ hav,fun l hl=>?_⟩
   rcases Z9.1 hl with hl|hl
   ·exact hs l hl
   ·obtain rfl:=A0B.1 hl
    exact h1
  ·split
   ·exact⟨C6A hp _ _ hav,hs⟩
   ·split
    ·have q1:=A60 hlab thn h3 hp hs hav
     exact⟨(A60 hlab els h4 q1.1 hs hav).1,hs⟩
    ·exact⟨hp,hs⟩
theorem A60 {its:List Itm} (hlab:A3b its):∀(l:List Stm) {sc:List Li}{un:Nat}{p:LP},Y0 B0O B08 l->okL p->B55 sc->un<256->okL (A2d its l sc un p).2/\B55 (A2d its l sc un p).1
 | [],_,_,_,_,hp,hs,_=>by rw[A2d];exact⟨hp,hs⟩
 |x::l,sc,un,p,ha,hp,hs,hu=>by
  rw[Y0]at ha;have q1:=C1a hlab x ha.1 hp hs hu;rw[A2d];exact A60 hlab l ha.2 q1.1 q1.2 hu
end
def B12 (L:List Nat) (o:Lab):Nat:=(L.map (fun f=>256-o f)).sum
theorem C6d {a n:Nat} (h:a|||n≠a):a<a|||n:=by
 have h1:a<=a|||n:=Nat.left_le_or
 omega
theorem C49 {L:List Nat}{o:Lab}{f n:Nat} (h:o f<=n):B12 L (upL o f n)<=B12 L o:=by
 induction L with
 |nil=>exact H6 _
 |cons g L ih=>
  simp only[B12,X7,A5X]at ih |-;have:256-upL o f n g<=256-o g:=by
   rw[upL];split
   ·rename_i e;subst e;omega
   ·exact H6 _
  omega
theorem C8n {L:List Nat}{o:Lab}{f n:Nat} (hf:f∈L) (h:o f<n) (hn:o f<256):B12 L (upL o f n)<B12 L o:=by
 induction L with
 |nil=>cases hf
 |cons g L ih=>
  have h1:=C49 (L:=L) (o:=o) (f:=f) (n:=n) (by omega);simp only[B12,X7,A5X]at ih h1 |-;by_cases e:g=f
  ·subst e
   have:upL o g n g=n:=by rw[upL,if_pos rfl]
   rw[this];omega
  ·have h2:upL o f n g=o g:=by rw[upL,if_neg e]
   have:=ih (by rcases U8.1 hf with h|h;exact absurd h.symm e;exact h);rw[h2];omega
structure Gone (L:List Nat) (p q:LP):Prop where
 le:B12 L q.1<=B12 L p.1
 lt:q.2=true->p.2=true\/B12 L q.1<B12 L p.1
 same:q.2=false->q=p
theorem Gone.refl (L:List Nat) (p:LP):Gone L p p:=⟨H6 _,.inl,fun _=>rfl⟩
theorem Gone.trans {L:List Nat}{p q r:LP} (h:Gone L p q) (g:Gone L q r):Gone L p r:=
 ⟨A0O g.le h.le,fun e=>by
  have h1:=h.le;have h2:=g.le;rcases g.lt e with h3|h3
  ·rcases h.lt h3 with h4|h4
   ·exact .inl h4
   ·exact .inr (by omega)
  ·exact .inr (by omega),fun e=>by
  have h1:=g.same e;subst h1;exact h.same e⟩
theorem B8c {L:List Nat}{p:LP} (hp:okL p) {f:Nat} (hf:f∈L) (n:Nat):Gone L p (A30 p f n):=by
 rw[A30];split
 ·exact .refl _ _
 ·rename_i h
  have h1:=C6d h;exact⟨C49 (by omega),fun _=> .inr (C8n hf h1 (hp f)),fun e=>by cases e⟩
theorem B2n {L:List Nat}{p:LP} (hp:okL p) {f:Option Nat} (hf:∀g,f=some g->g∈L) (n:Nat):Gone L p (A4I p f n):=by
 cases f with
 |none=>exact .refl _ _
 |some f=>exact B8c hp (hf f rfl) n
def inL (L:List Nat) (sc:List Li):Prop:= ∀f∈A6j sc,f∈L
theorem B72 {sc:List Li}{l:Li}{f:Nat} (h:l∈sc) (e:l.op=some f):f∈A6j sc:=A6J.2 ⟨l,h,e⟩
theorem C2s {L:List Nat}{p:LP} (hp:okL p) {sc:List Li} (hs:inL L sc) (nm:List UInt8) (n:Nat):Gone L p (B8j p sc nm n):=by
 rw[B8j];split
 ·rename_i l hl
  exact B2n hp (fun g hg=>hs g (B72 (A7V hl).1 hg)) n
 ·exact .refl _ _
theorem B5a (sc:List Li) (l:Li):A6j (sc++ [l])=A6j sc++l.op.toList:=by
 rw[A6j,List.filterMap_append,A6j];cases h:l.op<;>simp[h]
mutual
theorem C2z {its:List Itm} (hlab:A3b its) {L:List Nat}:∀(x:Stm) {sc:List Li}{un:Nat}{p:LP},x.all B0O B08->okL p->B55 sc->un<256->(∀f∈x.lets,f∈L)->inL L sc->Gone L p (B34 its x sc un p).2/\inL L (B34 its x sc un p).1
 | .mk k nm a lb o e thn els f t,sc,un,p,ha,hp,hs,hu,hL,hi=>by
  rw[Stm.all]at ha;obtain⟨h1,h2,h3,h4⟩:=ha;have hav:=B0d (A4N hlab (B3E hp hs) e) hu;rw[Stm.lets]at hL;have hLt:∀f∈A1c thn,f∈L:=fun g hg=>hL g (A1P _ (A1x _ hg))
  have hLe:∀f∈A1c els,f∈L:=fun g hg=>hL g (A1P _ (A1P _ hg))
  rw[B34];split
  ·rename_i hk
   have hf:f∈L:=hL f (by rw[if_pos hk];exact A1x _ Q5);have hop:∀g,A8h o f=some g->g∈L:=fun g hg=>by
    rw[A8h]at hg;split at hg
    ·cases hg;exact hf
    ·cases hg
   refine⟨B2n hp hop _,fun g hg=>?_⟩
   rw[B5a]at hg;rcases Z9.1 hg with hg|hg
   ·exact hi g hg
   ·exact hop g (by simpa using hg)
  ·split
   ·exact⟨C2s hp hi _ _,hi⟩
   ·split
    ·have q1:=A60 hlab thn h3 hp hs hav
     have g1:=A8y hlab thn h3 hp hs hav hLt hi;exact⟨g1.1.trans (A8y hlab els h4 q1.1 hs hav hLe hi).1,hi⟩
    ·exact⟨.refl _ _,hi⟩
theorem A8y {its:List Itm} (hlab:A3b its) {L:List Nat}:∀(l:List Stm) {sc:List Li}{un:Nat}{p:LP},Y0 B0O B08 l->okL p->B55 sc->un<256->(∀f∈A1c l,f∈L)->inL L sc->Gone L p (A2d its l sc un p).2/\inL L (A2d its l sc un p).1
 | [],_,_,_,_,hp,hs,_,_,hi=>by rw[A2d];exact⟨.refl _ _,hi⟩
 |x::l,sc,un,p,ha,hp,hs,hu,hL,hi=>by
  rw[Y0]at ha;rw[A1c]at hL;have q1:=C1a hlab x ha.1 hp hs hu;have g1:=C2z hlab x ha.1 hp hs hu (fun f hf=>hL f (A1x _ hf)) hi;have g2:=A8y hlab l ha.2 q1.1 q1.2 hu (fun f hf=>hL f (A1P _ hf)) g1.2;rw[A2d];exact⟨g1.1.trans g2.1,g2.2⟩
end
theorem B3R {l:List Par} (h:∀p∈l,p.label<256):B55 (B2j l):=fun x hx=>by
 obtain⟨p,hp,rfl⟩:=A0x.1 hx;exact h p hp
theorem B5d (l:List Par):A6j (B2j l)= []:=by
 rw[A6j,B2j,List.filterMap_map];exact List.filterMap_eq_nil_iff.2 (fun _ _=>rfl)
theorem B5l {its:List Itm}{it:Itm}{o:Lab} (hlab:A3b its) (hb:Y0 B0O B08 it.body) (hp:∀p∈it.params,p.label<256) (ho:∀f,o f<256):
  okL (A47 its it o)/\((A47 its it o).2=true->B12 (A1c it.body) (A47 its it o).1<B12 (A1c it.body) o)/\((A47 its it o).2=false->(A47 its it o).1=o):=by
 have h1:=A60 hlab it.body (sc:=B2j it.params) (un:=0) (p:=(o,false)) hb ho (B3R hp) (by omega);have h2:=A8y hlab (L:=A1c it.body) it.body (sc:=B2j it.params) (un:=0) (p:=(o,false)) hb ho (B3R hp) (by omega) (fun _ h=>h) (fun f hf=>by rw[B5d]at hf;cases hf);refine⟨h1.1,fun e=>?_,fun e=>?_⟩
 ·rcases h2.1.lt e with h|h
  ·cases h
  ·exact h
 ·exact congrArg Prod.fst (h2.1.same e)
def A5o (k:Nat):UInt8:=UInt8.ofNat (97+k)
def A4K (n:Nat):List Nat:=(List.range 8).filter (bit n)
def A4Y:List UInt8->List UInt8
 | []=> []
 | [c]=> [c]
 |c::d::l=>c::44::A4Y (d::l)
def A4H (n:Nat):List UInt8:=123::(A4Y ((A4K n).map A5o)++ [125])
end Go.Sp
namespace Go.Sp
open Go.Lib (itoa)
def A26 (nm:List UInt8):Nat:=if nm= [61]\/nm= [60] then 1 else if nm= [43]\/nm= [45] then 2 else 3
def A3F (e:Ex):Nat:=if e.kind≠3 then 4 else A26 e.name
def B1c (b:Bool) (t:List UInt8):List UInt8:=if b then [40]++t++ [41] else t
def A3I (ws:List (List UInt8)) (k:Nat):List UInt8:=(List.range k).flatMap (fun i=>(if 0<i then [44,32] else [])++ws.getD i [])
theorem A6u (ws:List (List UInt8)) (k:Nat):A3I ws (k+1)=A3I ws k++((if 0<k then [44,32] else [])++ws.getD k []):=by
 rw[A3I,A1C,Y3, <-A3I];simp
mutual
def exW:Ex->List UInt8
 | .mk k nm n args _ _=>
  if k=1 then itoa n else
  if k=3 then
   B1c (decide (A3F (args.getD 0 default)<A26 nm)) ((A4U args).getD 0 [])++ [32]++nm++ [32]++
    B1c (decide (A3F (args.getD 1 default)<A26 nm+1)) ((A4U args).getD 1 []) else
  if k=2 then nm else
  if k=4 then nm++ [40]++A3I (A4U args) args.length++ [41] else []
def A4U:List Ex->List (List UInt8)
 | []=> []
 |e::es=>exW e::A4U es
 end
theorem B0Z:∀l:List Ex,A4U l=l.map exW
 | []=>by rw[A4U];rfl
 |e::es=>by rw[A4U,B0Z es,X7]
theorem A88 {l:List Ex}{i:Nat}{e:Ex} (h:l[i]?=some e):(A4U l).getD i []=exW e:=by
 rw[B0Z,O5,A0e,h];rfl
def pad (n:Nat):List UInt8:=(List.replicate n [32,32]).flatten
theorem B2R (n:Nat):(pad n).length=2 *n:=by
 rw[pad,List.length_flatten,List.map_replicate,List.sum_replicate_nat];show n *2=2 *n
 omega
mutual
def B6x:Stm->Nat->List UInt8
 | .mk k nm _ lb o e thn els _ _,d=>pad d++(
  if k=1 then [108,101,116,32]++nm++(if o=true then [] else [58,32]++A4H lb)++ [32,61,32]++exW e++ [59,10] else
  if k=2 then nm++ [32,61,32]++exW e++ [59,10] else
  if k=5 then [115,101,110,100,32]++nm++ [32]++exW e++ [59,10] else
  if k=6 then [114,101,116,117,114,110,32]++exW e++ [59,10] else
  if k=7 then exW e++ [59,10] else
  if k=3\/k=4 then (if k=4 then [119,104,105,108,101,32] else [105,102,32])++exW e++ [32]++([123,10]++A3d thn (d+1)++pad d++ [125])++
   (if 0<els.length then [32,101,108,115,101,32]++([123,10]++A3d els (d+1)++pad d++ [125]) else [])++ [10] else [59,10])
def A3d:List Stm->Nat->List UInt8
 | [],_=> []
 |x::xs,d=>B6x x d++A3d xs d
 end
def B1B (l:List Stm) (d:Nat):List UInt8:= [123,10]++A3d l (d+1)++pad d++ [125]
theorem A8B:∀(l r:List Stm) (d:Nat),A3d (l++r) d=A3d l d++A3d r d
 | [],r,d=>by rw[P9,A3d,P9]
 |x::l,r,d=>by rw[X3,A3d,A3d,A8B l r d,O4]
theorem C0a {l:List Stm}{k:Nat}{x:Stm} (h:l[k]?=some x) (d:Nat):A3d (l.take (k+1)) d=A3d (l.take k) d++B6x x d:=by
 rw[A3i,h,A8B];show _++A3d [x] d=_
 rw[A3d,A3d,J3]
def B0e (l:List Par):List (List UInt8):=l.map (fun p=>p.name++ [58,32]++A4H p.label)
def A7M (l:List Rf) (k:Nat):List UInt8:=(List.range k).flatMap (fun i=>(if i=0 then [32,115,101,110,100,115,32] else [44,32])++(l.getD i ⟨[],0⟩).name)
theorem B0C (l:List Rf) (k:Nat):A7M l (k+1)=A7M l k++((if k=0 then [32,115,101,110,100,115,32] else [44,32])++(l.getD k ⟨[],0⟩).name):=by
 rw[A7M,A1C,Y3, <-A7M];simp
def A99 (it:Itm):List UInt8:=
 if it.kind=1 then [99,104,97,110,32]++it.name++ [58,32]++A4H it.label++ [59,10] else
 if it.kind=2 then [102,110,32]++it.name++ [40]++A3I (B0e it.params) it.params.length++ [41,58,32]++A4H it.label++A7M it.sends it.sends.length++ [32]++B1B it.body 0++ [10] else []
def A28 (its:List Itm):List UInt8:=its.flatMap A99
end Go.Sp
namespace Go.Sp
structure Srv where
 text:List UInt8
 op:Bool
structure Rpl where
 id:Int
 err:Nat
 dgs:List DI
 label:Nat
 fr:Int
 text:List UInt8
 ran:Rn
 fresh:Nat
def A65:Rpl:=⟨0,0,[],0,0,[],⟨[],0,0,0⟩,0⟩
def B4p (e:Nat):Rpl:= { A65 with err:=e}
def C75 (n:Nat):Rpl:= { A65 with fresh:=n}
def A8S (s:Srv) (t:List UInt8):Srv×Rpl:=if Y4 t≠0 then (s,B4p (Y4 t)) else (⟨t,true⟩,C75 (A3p s.text t))
def C7C (its:List Itm) (at_:Int) (i:Nat):Option Nat:=if (A0t its i).at_<=at_/\at_<(A0t its i).at_+(A0t its i).size then (A3g its i (at_-(A0t its i).at_)).hv else none
def A9f (its:List Itm) (at_:Int) (k:Nat):Option Nat:=(List.range k).findSome? (C7C its at_)
def C3N (its:List Itm) (at_:Int):Rpl:=match A9f its at_ its.length with
 |some n=> { A65 with label:=n}
 |none=>B4p 6
theorem B9i {its:List Itm}{at_:Int}{k:Nat} (h:A9f its at_ k=none):A9f its at_ (k+1)=C7C its at_ k:=by
 rw[A9f,A1C,List.findSome?_append, <-A9f,h];simp
theorem B9j {its:List Itm}{at_:Int}{k n:Nat}{m:Nat} (hk:k<=m) (h:A9f its at_ k=some n):A9f its at_ m=some n:=by
 obtain⟨d,rfl⟩:∃d,m=k+d:=⟨m-k,by omega⟩;rw[A9f,List.range_add,List.findSome?_append, <-A9f,h];rfl
open Classical in
noncomputable def C3Z (its:List Itm):List Itm:=if h:∃r,B1u its r then Classical.choose h else []
theorem C30 {its r:List Itm} (h:B1u its r):C3Z its=r:=by
 have h1:∃r,B1u its r:=⟨r,h⟩;rw[C3Z,dif_pos h1];exact B45 (Classical.choose_spec h1) h
def A8Z (its:List Itm):Bool:=its.any (fun it=> !it.diags.isEmpty)
noncomputable def C3Y (its:List Itm):Rpl:=if A8Z its=true then B4p 13 else { A65 with text:=A28 (C3Z its)}
def C76 (its:List Itm) (nm:List UInt8) (args:List Int):Rpl:=if (A9Y its nm args).err≠0 then B4p (A9Y its nm args).err else { A65 with ran:=A9Y its nm args}
def B1D (s:Srv) (q:Qn):Srv×Rpl:=
 if q.kind=2 then (if A5P s.text q.fr q.to q.text≠0 then (s,B4p (A5P s.text q.fr q.to q.text)) else A8S s (B1C s.text q.fr q.to q.text))
 else if (toR s.text q.fr q.text).2≠0 then (s,B4p (toR s.text q.fr q.text).2) else A8S s (toR s.text q.fr q.text).1
noncomputable def C2Z (t:List UInt8) (q:Qn):Rpl:=
 if q.kind=3 then { A65 with dgs:=A4T (J7 t)}
 else if q.kind=4 then C3N (J7 t) q.fr
 else if q.kind=5 then (match B7j (J7 t) q.fr with|some a=> { A65 with fr:=a}|none=>B4p 6)
 else if q.kind=7 then C3Y (J7 t)
 else if q.kind=8 then C76 (J7 t) q.text q.args
 else { A65 with text:=t}
noncomputable def A3n (s:Srv) (q:Qn):Srv×Rpl:=
 if q.kind<1\/9<q.kind then (s,B4p 1)
 else if q.kind=1 then A8S s q.text
 else if s.op=false then (s,B4p 6)
 else if q.kind=2\/q.kind=6 then B1D s q
 else (s,C2Z s.text q)
noncomputable def stQ (s:Srv) (l:List Qn):Srv:=l.foldl (fun s q=>(A3n s q).1) s
noncomputable def rpQ:Srv->List Qn->List Rpl
 |_,[]=> []
 |s,q::l=> { (A3n s q).2 with id:=q.id}::rpQ (A3n s q).1 l
def A1b:Srv:=⟨[],false⟩
structure OkQ (s:Srv):Prop where
 err:Y4 s.text=0
 shut:s.op=false->s.text= []
theorem C0S:OkQ A1b:=⟨by decide+kernel,fun _=>rfl⟩
theorem B6p {s:Srv} (h:OkQ s) (t:List UInt8):OkQ (A8S s t).1:=by
 rw[A8S];split
 ·exact h
 ·rename_i h1
  exact⟨by simpa using h1,fun h2=>by cases h2⟩
theorem C5F {s:Srv} (h:OkQ s) (q:Qn):OkQ (B1D s q).1:=by
 rw[B1D];split
 ·split
  ·exact h
  ·exact B6p h _
 ·split
  ·exact h
  ·exact B6p h _
theorem C0s {s:Srv} (h:OkQ s) (q:Qn):OkQ (A3n s q).1:=by
 rw[A3n];split
 ·exact h
 ·split
  ·exact B6p h _
  ·split
   ·exact h
   ·split
    ·exact C5F h q
    ·exact h
theorem B6t:∀(l:List Qn) {s:Srv},OkQ s->OkQ (stQ s l)
 | [],_,h=>h
 |q::l,s,h=>by rw[stQ,A1g];exact B6t l (C0s h q)
theorem B6s (s:Srv) (l r:List Qn):stQ s (l++r)=stQ (stQ s l) r:=by rw[stQ,A5w];rfl
theorem A9O:∀(s:Srv) (l r:List Qn),rpQ s (l++r)=rpQ s l++rpQ (stQ s l) r
 |_,[],_=>rfl
 |s,q::l,r=>by rw[X3,rpQ,rpQ,A9O,X3];rfl
theorem A5N:∀(s:Srv) (l:List Qn),(rpQ s l).length=l.length
 |_,[]=>rfl
 |s,q::l=>by rw[rpQ,F9,A5N,F9]
noncomputable def A9X (s:Srv) (q:Qn):Rpl:= { (A3n s q).2 with id:=q.id}
theorem C4S (s:Srv) {l:List Qn}{k:Nat}{q:Qn} (h:l[k]?=some q):stQ s (l.take (k+1))=(A3n (stQ s (l.take k)) q).1:=by
 rw[Q9 h,B6s];rfl
theorem C4F (s:Srv) {l:List Qn}{k:Nat}{q:Qn} (h:l[k]?=some q):rpQ s (l.take (k+1))=rpQ s (l.take k)++ [A9X (stQ s (l.take k)) q]:=by
 rw[Q9 h,A9O];rfl
theorem B6j:∀(s:Srv) {l:List Qn}{k:Nat}{q:Qn},l[k]?=some q->(rpQ s l)[k]?=some (A9X (stQ s (l.take k)) q)
 |s,x::l,0,q,h=>by
  simp only[A0z,U4]at h;subst h;rfl
 |s,x::l,k+1,q,h=>by
  rw[A0w]at h;rw[rpQ,A0w,B6j _ h,A1i];rfl
def chg (q:Qn):Bool:=decide (q.kind=1)||decide (q.kind=2)||decide (q.kind=6)
theorem B4x {s:Srv}{q:Qn} (h:chg q=false):(A3n s q).1=s:=by
 simp only[chg,Bool.or_eq_false_iff,decide_eq_false_iff_not]at h;rw[A3n];split
 ·rfl
 ·rw[if_neg h.1.1]
  split
  ·rfl
  ·rw[if_neg (fun h1=>h1.elim h.1.2 h.2)]
theorem C03 (s:Srv) (q:Qn) (h:q.kind=9):A9X s q=if s.op=true then { A65 with id:=q.id,text:=s.text} else { A65 with id:=q.id,err:=6}:=by
 rw[A9X,A3n,if_neg (by omega),if_neg (by omega)];cases hb:s.op
 ·rfl
 ·rw[if_neg (by decide),if_neg (by omega),C2Z,if_neg (by omega),if_neg (by omega),if_neg (by omega),if_neg (by omega),if_neg (by omega)];rfl
theorem C6N (s:List UInt8) (at_:Int) (nm:List UInt8) (h:(toR s at_ nm).2=0):Y4 (toR s at_ nm).1=0:=by
 rw[toR]at h |-;split
 ·rename_i h1;rw[if_pos h1]at h;exact absurd h h1
 ·rename_i h1
  rw[if_neg h1]at h;split
  ·rename_i h2;rw[if_pos h2]at h;cases h
  ·rename_i h2
   rw[if_neg h2]at h;split
   ·rename_i h3;rw[h3]at h;cases h
   ·rename_i df h3
    rw[h3]at h;dsimp only at h |-;split
    ·rename_i h4;rw[if_pos h4]at h;cases h
    ·rename_i h4
     rw[if_neg h4]at h;split
     ·rename_i h5;rw[if_pos h5]at h;exact absurd h h5
     ·rename_i h5
      rw[if_neg h5]at h;split
      ·rename_i h6;rw[if_pos h6]at h;cases h
      ·rename_i h6
       rw[if_neg h6]at h;split
       ·rename_i h7;rw[if_pos h7]at h;cases h
       ·simpa using h5
theorem C0C {t:List UInt8} (h:Y4 t=0):t.length<=4000:=by
 rw[Y4]at h;split at h
 ·cases h
 ·omega
theorem C0T {s:Srv} (h:OkQ s):s.text.length<=4000:=C0C h.err
theorem B0a {F:UInt8->Bool}:∀ {l:List UInt8}{c:UInt8},c∈l.takeWhile F->F c=true
 | [],_,h=>by simp at h
 |a::l,c,h=>by
  rw[A5t]at h;split at h
  ·rename_i ha
   rcases U8.1 h with rfl|h
   ·exact ha
   ·exact B0a h
  ·simp at h
theorem C1f (F:UInt8->Bool):∀r:List UInt8,r.take (r.takeWhile F).length=r.takeWhile F
 | []=>rfl
 |a::r=>by
  rw[A5t];split
  ·rw[F9,A1i,C1f F r]
  ·rfl
theorem C0i {s:List UInt8}{t:Tok} (h:TokOk s t) (hk:t.kind=2):∀c∈t.text,48<=c.toNat/\c.toNat<=57:=by
 have h1:=h.one.1;have h2:=h.one.2;have h3:=h.text;rw[hk]at h1;rw[h2]at h3;intro c hc;rw[h3]at hc;generalize s.drop t.pos=r at h1 hc;cases r with
 |nil=>simp[one]at h1
 |cons a r=>
  simp only[one]at h1 hc;split at h1
  ·simp at h1
  ·split at h1
   ·simp at h1
   ·split at h1
    ·simp at h1
    ·split at h1
     ·rename_i n1 n2 n3 n4
      rw[if_neg n1,if_neg n2,if_neg n3,if_pos n4]at hc;have e:(run A41 r)=1+(r.takeWhile A41).length:=rfl;rw[e,A3Q,A1i,C1f]at hc;have:A41 c=true:=by
       rcases U8.1 hc with rfl|hc
       ·exact n4
       ·exact B0a hc
      simpa[A41] using this
     ·split at h1<;>simp at h1
end Go.Sp
namespace Go.Proofs
open Go.Proofs.Tryz
open Go.Sp
open Go.Fw
abbrev C5K (v:Int):List Value:= [.int .i64 v]
abbrev B2z (i k f t:Int) (s:List UInt8) (a:Option Addr) (n c:Nat):List Value:= [.int .i64 i,.int .i64 k,.int .i64 f,.int .i64 t,str s,.slice a n c]
def A7r (I:P7) (q:Sp.Qn) (c:List Value):Prop:= ∃a cp,c=B2z q.id q.kind q.fr q.to q.text a q.args.length cp/\RowI I 3 1 (.slice a q.args.length cp) q.args.length (q.args.flatMap C5K)
theorem A7r.le {I I':P7}{q:Sp.Qn}{c:List Value} (h:A7r I q c) (m:Le I I'):A7r I' q c:=by
 obtain⟨a,cp,h1,h2⟩:=h;exact⟨a,cp,h1,h2.le m⟩
theorem A7r.len {I:P7}{q:Sp.Qn}{c:List Value} (h:A7r I q c):c.length=6:=by
 obtain⟨a,cp,rfl,_⟩:=h;rfl
def A0F (I:P7):List Sp.Qn->List Value->Prop
 | [],xs=>xs= []
 |q::qs,xs=> ∃c r,xs=c++r/\A7r I q c/\A0F I qs r
theorem A0F.le {I I':P7} (m:Le I I'):∀ {qs:List Sp.Qn}{xs:List Value},A0F I qs xs->A0F I' qs xs
 | [],_,h=>h
 |_::_,_,⟨c,r,e,h1,h2⟩=>⟨c,r,e,h1.le m,A0F.le m h2⟩
theorem A0F.snoc {I:P7}{q:Sp.Qn}{c:List Value} (hq:A7r I q c):∀ {qs:List Sp.Qn}{xs:List Value},A0F I qs xs->A0F I (qs++ [q]) (xs++c)
 | [],xs,h=>by
  obtain rfl:xs= []:=h;exact⟨c,[],by simp,hq,rfl⟩
 |_::_,_,⟨c',r,e,h1,h2⟩=>⟨c',r++c,by rw[e,O4],h1,A0F.snoc hq h2⟩
theorem A0F.len {I:P7}:∀ {qs:List Sp.Qn}{xs:List Value},A0F I qs xs->xs.length=qs.length *6
 | [],xs,h=>by
  obtain rfl:xs= []:=h
  rfl
 |q::qs,_,⟨c,r,e,h1,h2⟩=>by
  rw[e,E9,h1.len,h2.len,F9];omega
theorem A0F.get {I:P7}:∀ {qs:List Sp.Qn}{xs:List Value}{i:Nat}{q:Sp.Qn},A0F I qs xs->qs[i]?=some q->A7r I q ((xs.drop (i *6)).take 6)
 | [],_,_,_,_,h=>by simp at h
 |q::qs,_,0,q',⟨c,r,e,h1,h2⟩,h=>by
  simp only[A0z,U4]at h;subst h;rw[e,A1o,A2o,A14 (by rw[h1.len];omega),A0q (by rw[h1.len];omega)];exact h1
 |q::qs,_,i+1,q',⟨c,r,e,h1,h2⟩,h=>by
  rw[A0w]at h;have:=A0F.get h2 h;rw[e,A5A,List.drop_eq_nil_of_le (by rw[h1.len];omega),P9,h1.len,show (i+1) *6-6=i *6 by omega];exact this
theorem A0F.app {I:P7}{rs:List Sp.Qn}{ys:List Value} (hr:A0F I rs ys):∀ {qs:List Sp.Qn}{xs:List Value},A0F I qs xs->A0F I (qs++rs) (xs++ys)
 | [],xs,h=>by
  obtain rfl:xs= []:=h;exact hr
 |_::_,_,⟨c',r,e,h1,h2⟩=>⟨c',r++ys,by rw[e,O4],h1,A0F.app hr h2⟩
theorem A0F.take {I:P7}:∀ {qs:List Sp.Qn}{xs:List Value} (n:Nat),A0F I qs xs->A0F I (qs.take n) (xs.take (n *6))
 | [],xs,n,h=>by
  obtain rfl:xs= []:=h;simp[A0F]
 |_::_,_,0,_=>by simp[A0F]
 |q::qs,_,n+1,⟨c,r,e,h1,h2⟩=>by
  refine⟨c,r.take (n *6),?_,h1,A0F.take n h2⟩
  rw[e,A5B,A0q (by rw[h1.len];omega),h1.len,show (n+1) *6-6=n *6 by omega]
end Go.Proofs
namespace Go.Proofs
open Go.Proofs.Tryz
open Go.Sp
open Go Go.Fw
instance :Mixed prog:=⟨by kernel_rfl⟩
instance :TyInt prog 3 .i64:=⟨by kernel_rfl⟩
instance :TyOne prog 3:=.of
instance :Elem prog 3 1 8:=.of
instance :TyBool prog 4:=⟨by kernel_rfl⟩
instance :TyOne prog 4:=.of
instance :Elem prog 4 1 1:=.of
instance :TyInt prog 5 .u8:=⟨by kernel_rfl⟩
instance :Elem prog 5 1 1:=.of
instance :TyStr prog 9:=⟨by kernel_rfl⟩
instance :TyOne prog 9:=.of
instance :Elem prog 9 1 16:=.of
instance :TySlice prog 23 64:=⟨by kernel_rfl⟩
instance :TyOne prog 23:=.of
instance :Elem prog 23 1 24:=.of
instance :TyAgg prog 25 1:=.of
instance :Elem prog 25 1 24:=.of
instance :StructT prog 25 [(0,1)] [.slice none 0 0]:=.of
instance :Fld prog 25 0 0:=.of
instance :TyOne prog 26:=.of
instance :Elem prog 26 1 8:=.of
instance :TySlice prog 29 35:=⟨by kernel_rfl⟩
instance :TyOne prog 29:=.of
instance :Elem prog 29 1 24:=.of
instance :TyAgg prog 31 4:=.of
instance :Elem prog 31 4 48:=.of
instance :StructT prog 31 [(0,1),(1,1),(2,1),(3,1)] [.slice none 0 0,.int .i64 0,.int .i64 0,.int .i64 0]:=.of
instance :Fld prog 31 0 0:=.of
instance :Fld prog 31 1 1:=.of
instance :Fld prog 31 2 2:=.of
instance :Fld prog 31 3 3:=.of
instance :TySlice prog 33 3:=⟨by kernel_rfl⟩
instance :TyOne prog 33:=.of
instance :Elem prog 33 1 24:=.of
instance :TyAgg prog 35 2:=.of
instance :Elem prog 35 2 24:=.of
instance :StructT prog 35 [(0,1),(1,1)] [str [],.int .i64 0]:=.of
instance :FlatT prog 35 [.str,.int .i64]:=.of
instance :Fld prog 35 1 1:=.of
instance :TyAgg prog 38 6:=.of
instance :Elem prog 38 6 72:=.of
instance :StructT prog 38 [(0,1),(1,1),(2,1),(3,1),(4,1),(5,1)] [.int .i64 0,.int .i64 0,.int .i64 0,.int .i64 0,str [],.slice none 0 0]:=.of
instance :Fld prog 38 0 0:=.of
instance :Fld prog 38 1 1:=.of
instance :Fld prog 38 2 2:=.of
instance :Fld prog 38 3 3:=.of
instance :Fld prog 38 4 4:=.of
instance :Fld prog 38 5 5:=.of
instance :TySlice prog 40 38:=⟨by kernel_rfl⟩
instance :TySlice prog 41 46:=⟨by kernel_rfl⟩
instance :TySlice prog 44 56:=⟨by kernel_rfl⟩
instance :TyOne prog 44:=.of
instance :Elem prog 44 1 24:=.of
instance :TyAgg prog 46 11:=.of
instance :Elem prog 46 11 128:=.of
instance :StructT prog 46 [(0,1),(1,1),(2,1),(3,1),(4,1),(5,1),(6,4),(10,1)] [.int .i64 0,.int .i64 0,.slice none 0 0,.int .i64 0,.int .i64 0,str [],.slice none 0 0,.int .i64 0,.int .i64 0,.int .i64 0,.int .i64 0]:=.of
instance :Fld prog 46 0 0:=.of
instance :Fld prog 46 1 1:=.of
instance :Fld prog 46 2 2:=.of
instance :Fld prog 46 3 3:=.of
instance :Fld prog 46 4 4:=.of
instance :Fld prog 46 5 5:=.of
instance :Fld prog 46 6 6:=.of
instance :Fld prog 46 7 10:=.of
instance :TyAgg prog 56 4:=.of
instance :Elem prog 56 4 40:=.of
instance :StructT prog 56 [(0,1),(1,1),(2,1),(3,1)] [.int .i64 0,.int .i64 0,.int .i64 0,str []]:=.of
instance :FlatT prog 56 [.int .i64,.int .i64,.int .i64,.str]:=.of
instance :Fld prog 56 0 0:=.of
instance :Fld prog 56 1 1:=.of
instance :Fld prog 56 2 2:=.of
instance :TySlice prog 60 90:=⟨by kernel_rfl⟩
instance :TyOne prog 60:=.of
instance :Elem prog 60 1 24:=.of
instance :TySlice prog 61 118:=⟨by kernel_rfl⟩
instance :TyOne prog 61:=.of
instance :Elem prog 61 1 24:=.of
instance :TySlice prog 62 127:=⟨by kernel_rfl⟩
instance :TyOne prog 62:=.of
instance :Elem prog 62 1 24:=.of
instance :TyAgg prog 64 10:=.of
instance :Elem prog 64 10 152:=.of
instance :StructT prog 64 [(0,1),(1,1),(2,1),(3,1),(4,1),(5,1),(6,1),(7,1),(8,1),(9,1)] [.int .i64 0,str [],.int .i64 0,.slice none 0 0,.slice none 0 0,.slice none 0 0,.int .i64 0,.int .i64 0,.int .i64 0,.slice none 0 0]:=.of
instance :Fld prog 64 0 0:=.of
instance :Fld prog 64 1 1:=.of
instance :Fld prog 64 2 2:=.of
instance :Fld prog 64 3 3:=.of
instance :Fld prog 64 4 4:=.of
instance :Fld prog 64 5 5:=.of
instance :Fld prog 64 6 6:=.of
instance :Fld prog 64 7 7:=.of
instance :Fld prog 64 8 8:=.of
instance :Fld prog 64 9 9:=.of
instance :TyOne prog 65:=.of
instance :TyOne prog 66:=.of
instance :StructT prog 68 [(0,1),(1,1),(2,1),(3,1),(4,1)] [.pointer none,.slice none 0 0,.int .i64 0,.int .i64 0,.int .i64 0]:=.of
instance :Fld prog 68 0 0:=.of
instance :Fld prog 68 1 1:=.of
instance :Fld prog 68 2 2:=.of
instance :Fld prog 68 3 3:=.of
instance :Fld prog 68 4 4:=.of
instance :StructT prog 72 [(0,1),(1,1),(2,1)] [str [],.slice none 0 0,.bool false]:=.of
instance :Fld prog 72 0 0:=.of
instance :Fld prog 72 1 1:=.of
instance :Fld prog 72 2 2:=.of
instance :TyOne prog 84:=.of
instance :TySlice prog 86 92:=⟨by kernel_rfl⟩
instance :TyOne prog 86:=.of
instance :Elem prog 86 1 24:=.of
instance :StructT prog 88 [(0,1),(1,1),(2,1)] [.pointer none,.slice none 0 0,.int .i64 0]:=.of
instance :Fld prog 88 0 0:=.of
instance :Fld prog 88 1 1:=.of
instance :Fld prog 88 2 2:=.of
instance :TyAgg prog 90 3:=.of
instance :Elem prog 90 3 32:=.of
instance :StructT prog 90 [(0,1),(1,1),(2,1)] [str [],.int .i64 0,.int .i64 0]:=.of
instance :Fld prog 90 0 0:=.of
instance :Fld prog 90 1 1:=.of
instance :Fld prog 90 2 2:=.of
instance :Elem prog 92 2 24:=.of
instance :StructT prog 92 [(0,1),(1,1)] [str [],.int .i64 0]:=.of
instance :Fld prog 92 0 0:=.of
instance :Fld prog 92 1 1:=.of
instance :TySlice prog 102 44:=⟨by kernel_rfl⟩
instance :TySlice prog 103 106:=⟨by kernel_rfl⟩
instance :TyOne prog 103:=.of
instance :TyAgg prog 106 3:=.of
instance :Elem prog 106 3 32:=.of
instance :StructT prog 106 [(0,1),(1,1),(2,1)] [.int .i64 0,str [],.int .i64 0]:=.of
instance :Fld prog 106 0 0:=.of
instance :Fld prog 106 1 1:=.of
instance :Fld prog 106 2 2:=.of
instance :TyOne prog 107:=.of
instance :StructT prog 109 [(0,1),(1,1),(2,1),(3,1),(4,1)] [.slice none 0 0,.int .i64 0,.int .i64 0,.slice none 0 0,.int .i64 0]:=.of
instance :Fld prog 109 0 0:=.of
instance :Fld prog 109 1 1:=.of
instance :Fld prog 109 2 2:=.of
instance :Fld prog 109 3 3:=.of
instance :Fld prog 109 4 4:=.of
instance :TyAgg prog 118 2:=.of
instance :Elem prog 118 2 24:=.of
instance :StructT prog 118 [(0,1),(1,1)] [str [],.int .i64 0]:=.of
instance :Fld prog 118 0 0:=.of
instance :Fld prog 118 1 1:=.of
instance :TyOne prog 122:=.of
instance :TySlice prog 123 125:=⟨by kernel_rfl⟩
instance :TyOne prog 123:=.of
instance :Elem prog 123 1 24:=.of
instance :TyAgg prog 125 6:=.of
instance :Elem prog 125 6 72:=.of
instance :StructT prog 125 [(0,1),(1,1),(2,1),(3,1),(4,1),(5,1)] [.int .i64 0,str [],.int .i64 0,.slice none 0 0,.int .i64 0,.int .i64 0]:=.of
instance :Fld prog 125 0 0:=.of
instance :Fld prog 125 1 1:=.of
instance :Fld prog 125 2 2:=.of
instance :Fld prog 125 3 3:=.of
instance :Fld prog 125 4 4:=.of
instance :Fld prog 125 5 5:=.of
instance :TyAgg prog 127 15:=.of
instance :Elem prog 127 15 184:=.of
instance :StructT prog 127 [(0,1),(1,1),(2,1),(3,1),(4,1),(5,6),(11,1),(12,1),(13,1),(14,1)] [.int .i64 0,str [],.int .i64 0,.int .i64 0,.bool false,.int .i64 0,str [],.int .i64 0,.slice none 0 0,.int .i64 0,.int .i64 0,.slice none 0 0,.slice none 0 0,.int .i64 0,.int .i64 0]:=.of
instance :Fld prog 127 0 0:=.of
instance :Fld prog 127 1 1:=.of
instance :Fld prog 127 2 2:=.of
instance :Fld prog 127 3 3:=.of
instance :Fld prog 127 4 4:=.of
instance :Fld prog 127 5 5:=.of
instance :Fld prog 127 6 11:=.of
instance :Fld prog 127 7 12:=.of
instance :Fld prog 127 8 13:=.of
instance :Fld prog 127 9 14:=.of
instance :StructT prog 131 [(0,1),(1,1),(2,1)] [.int .i64 0,.int .i64 0,str []]:=.of
instance :Fld prog 131 0 0:=.of
instance :Fld prog 131 1 1:=.of
instance :Fld prog 131 2 2:=.of
instance :TyAgg prog 135 3:=.of
instance :Elem prog 135 3 24:=.of
instance :StructT prog 135 [(0,1),(1,1),(2,1)] [.int .i64 0,.int .i64 0,.int .i64 0]:=.of
instance :Fld prog 135 0 0:=.of
instance :Fld prog 135 1 1:=.of
instance :Fld prog 135 2 2:=.of
instance :TySlice prog 138 141:=⟨by kernel_rfl⟩
instance :TyAgg prog 141 2:=.of
instance :Elem prog 141 2 24:=.of
instance :StructT prog 141 [(0,1),(1,1)] [str [],.int .i64 0]:=.of
instance :Fld prog 141 0 0:=.of
instance :Fld prog 141 1 1:=.of
instance :TySlice prog 144 230:=⟨by kernel_rfl⟩
instance :TyOne prog 144:=.of
instance :Elem prog 144 1 24:=.of
instance :TySlice prog 145 135:=⟨by kernel_rfl⟩
instance :TyOne prog 145:=.of
instance :Elem prog 145 1 24:=.of
instance :StructT prog 147 [(0,1),(1,1),(2,1),(3,1),(4,1)] [.pointer none,.pointer none,.slice none 0 0,.slice none 0 0,.slice none 0 0]:=.of
instance :Fld prog 147 0 0:=.of
instance :Fld prog 147 1 1:=.of
instance :Fld prog 147 2 2:=.of
instance :Fld prog 147 3 3:=.of
instance :Fld prog 147 4 4:=.of
instance :TySlice prog 150 9:=⟨by kernel_rfl⟩
instance :TyOne prog 150:=.of
instance :Elem prog 150 1 24:=.of
instance :TySlice prog 151 150:=⟨by kernel_rfl⟩
instance :TySlice prog 155 196:=⟨by kernel_rfl⟩
instance :TyOne prog 155:=.of
instance :Elem prog 155 1 24:=.of
instance :StructT prog 157 [(0,1),(1,1),(2,1),(3,1),(4,1),(5,1),(6,1),(7,1)] [.pointer none,.pointer none,.slice none 0 0,.slice none 0 0,.slice none 0 0,.int .i64 0,.bool false,.int .i64 0]:=.of
instance :Fld prog 157 0 0:=.of
instance :Fld prog 157 1 1:=.of
instance :Fld prog 157 2 2:=.of
instance :Fld prog 157 3 3:=.of
instance :Fld prog 157 4 4:=.of
instance :Fld prog 157 5 5:=.of
instance :Fld prog 157 6 6:=.of
instance :Fld prog 157 7 7:=.of
instance :TyOne prog 174:=.of
instance :Elem prog 174 1 8:=.of
instance :TySlice prog 175 5:=⟨by kernel_rfl⟩
instance :TyOne prog 175:=.of
instance :Elem prog 175 1 24:=.of
instance :Fld prog 177 0 0:=.of
instance :Fld prog 177 1 1:=.of
instance :StructT prog 179 [(0,2)] [.pointer none,.slice none 0 0]:=.of
instance :Fld prog 179 0 0:=.of
instance :TyOne prog 181:=.of
instance :TySlice prog 182 186:=⟨by kernel_rfl⟩
instance :TyOne prog 182:=.of
instance :Elem prog 182 1 24:=.of
instance :StructT prog 184 [(0,1),(1,1),(2,1),(3,1)] [.pointer none,.slice none 0 0,.map none,.bool false]:=.of
instance :Fld prog 184 0 0:=.of
instance :Fld prog 184 1 1:=.of
instance :Fld prog 184 2 2:=.of
instance :Fld prog 184 3 3:=.of
instance :TyAgg prog 186 3:=.of
instance :Elem prog 186 3 32:=.of
instance :StructT prog 186 [(0,1),(1,1),(2,1)] [str [],.int .i64 0,.pointer none]:=.of
instance :Fld prog 186 0 0:=.of
instance :Fld prog 186 1 1:=.of
instance :Fld prog 186 2 2:=.of
instance :TySlice prog 189 33:=⟨by kernel_rfl⟩
instance :Elem prog 196 2 24:=.of
instance :StructT prog 196 [(0,1),(1,1)] [str [],.int .i64 0]:=.of
instance :Fld prog 196 0 0:=.of
instance :Fld prog 196 1 1:=.of
instance :StructT prog 220 [(0,1),(1,1)] [.slice none 0 0,.slice none 0 0]:=.of
instance :Fld prog 220 0 0:=.of
instance :Fld prog 220 1 1:=.of
instance :TyAgg prog 230 2:=.of
instance :Elem prog 230 2 24:=.of
instance :StructT prog 230 [(0,1),(1,1)] [str [],.int .i64 0]:=.of
instance :Fld prog 230 0 0:=.of
instance :Fld prog 230 1 1:=.of
instance :Own prog 9:=.of
instance :Own prog 10:=.of
instance :Own prog 11:=.of
instance :Own prog 12:=.of
instance :Own prog 13:=.of
instance :Own prog 14:=.of
instance :Own prog 15:=.of
instance :Own prog 16:=.of
instance :Own prog 17:=.of
instance :Own prog 18:=.of
instance :Own prog 19:=.of
instance :Own prog 20:=.of
instance :Own prog 21:=.of
instance :Own prog 22:=.of
instance :Own prog 23:=.of
instance :Own prog 24:=.of
instance :Own prog 25:=.of
instance :Own prog 26:=.of
instance :Own prog 27:=.of
instance :Own prog 28:=.of
instance :Own prog 29:=.of
instance :Own prog 30:=.of
instance :Own prog 31:=.of
instance :Own prog 32:=.of
instance :Own prog 33:=.of
instance :Own prog 34:=.of
instance :Own prog 35:=.of
instance :Own prog 36:=.of
instance :Own prog 37:=.of
instance :Own prog 38:=.of
instance :Own prog 39:=.of
instance :Own prog 40:=.of
instance :Own prog 41:=.of
instance :Own prog 42:=.of
instance :Own prog 43:=.of
instance :Own prog 44:=.of
instance :Own prog 45:=.of
instance :Own prog 46:=.of
instance :Own prog 47:=.of
instance :Own prog 48:=.of
instance :Own prog 49:=.of
instance :Own prog 50:=.of
instance :Own prog 51:=.of
instance :Own prog 52:=.of
instance :Own prog 53:=.of
instance :Own prog 54:=.of
instance :Own prog 55:=.of
instance :Own prog 56:=.of
instance :Own prog 57:=.of
instance :Own prog 58:=.of
instance :Own prog 59:=.of
instance :Own prog 60:=.of
instance :Own prog 61:=.of
instance :Own prog 62:=.of
instance :Own prog 63:=.of
instance :Own prog 64:=.of
instance :Own prog 65:=.of
instance :Own prog 66:=.of
instance :Own prog 67:=.of
instance :Own prog 68:=.of
instance :Own prog 69:=.of
instance :Own prog 70:=.of
instance :Own prog 71:=.of
instance :Own prog 72:=.of
instance :Own prog 73:=.of
instance :Own prog 74:=.of
instance :Own prog 75:=.of
instance :Own prog 76:=.of
instance :Own prog 77:=.of
instance :Own prog 78:=.of
instance :Own prog 79:=.of
instance :Own prog 80:=.of
instance :Own prog 81:=.of
instance :Own prog 82:=.of
instance :Own prog 83:=.of
instance :Own prog 84:=.of
instance :Own prog 85:=.of
instance :Own prog 86:=.of
instance :Own prog 87:=.of
instance :Own prog 88:=.of
instance :Own prog 89:=.of
instance :Own prog 90:=.of
instance :Own prog 91:=.of
instance :Own prog 92:=.of
instance :Own prog 93:=.of
instance :Own prog 94:=.of
instance :Own prog 95:=.of
instance :Own prog 96:=.of
instance :Own prog 97:=.of
instance :Own prog 98:=.of
instance :Own prog 99:=.of
instance :Own prog 100:=.of
instance :Own prog 101:=.of
instance :Own prog 102:=.of
instance :Own prog 103:=.of
instance :Own prog 104:=.of
instance :Own prog 105:=.of
instance :Own prog 106:=.of
instance :Own prog 107:=.of
instance :Own prog 108:=.of
instance :Own prog 109:=.of
instance :Own prog 110:=.of
instance :Own prog 111:=.of
instance :Own prog 112:=.of
instance :Own prog 113:=.of
instance :Own prog 114:=.of
instance :Own prog 115:=.of
instance :Own prog 116:=.of
instance :Own prog 117:=.of
instance :Own prog 118:=.of
instance :Own prog 119:=.of
instance :Own prog 120:=.of
instance :Own prog 121:=.of
instance :Own prog 122:=.of
instance :Own prog 125:=.of
instance :Own prog 126:=.of
instance :Own prog 127:=.of
instance :Own prog 128:=.of
instance :Own prog 129:=.of
instance :Own prog 130:=.of
instance :Own prog 131:=.of
instance :Own prog 132:=.of
instance :Own prog 137:=.of
instance :Own prog 138:=.of
instance :Own prog 139:=.of
instance :Own prog 140:=.of
instance :Own prog 141:=.of
instance :Own prog 142:=.of
instance :Own prog 156:=.of
instance :Own prog 160:=.of
instance :Own prog 161:=.of
instance :Own prog 164:=.of
instance :Own prog 165:=.of
instance :Own prog 166:=.of
instance :Own prog 167:=.of
instance :Own prog 168:=.of
instance :Own prog 169:=.of
instance :Own prog 177:=.of
instance :Own prog 178:=.of
instance :Own prog 179:=.of
end Go.Proofs
namespace Go.Proofs
open Go.Proofs.Tryz
open Go.Sp
open Go.Fw
abbrev ptr (b:Nat):Value:=.pointer (some ⟨b,0,none⟩)
abbrev nt (n:Nat):Value:=.int .i64 (n:Int)
mutual
def A7i (I:P7):Sp.Ex->List Value->Prop
 | .mk k nm n args f t,cs=> ∃a cap xs,cs= [nt k,str nm,nt n,.slice a args.length cap,nt f,nt t]/\RowI I 125 6 (.slice a args.length cap) args.length xs/\Z4 I args xs
def Z4 (I:P7):List Sp.Ex->List Value->Prop
 | [],xs=>xs= []
 |e::es,xs=> ∃c r,xs=c++r/\A7i I e c/\Z4 I es r
 end
mutual
theorem A7i.le {I I':P7} (m:Le I I'):∀(e:Sp.Ex) (cs:List Value),A7i I e cs->A7i I' e cs
 | .mk k nm n args f t,cs,h=>by
  rw[A7i]at h |-;obtain⟨a,cap,xs,h1,h2,h3⟩:=h;exact⟨a,cap,xs,h1,h2.le m,Z4.le m _ _ h3⟩
theorem Z4.le {I I':P7} (m:Le I I'):∀(es:List Sp.Ex) (xs:List Value),Z4 I es xs->Z4 I' es xs
 | [],xs,h=>by rw[Z4]at h |-;exact h
 |e::es,xs,h=>by
  rw[Z4]at h |-;obtain⟨c,r,h1,h2,h3⟩:=h;exact⟨c,r,h1,A7i.le m _ _ h2,Z4.le m _ _ h3⟩
 end
theorem A7i.out {I:P7}{e:Sp.Ex}{cs:List Value} (h:A7i I e cs):
  ∃a cap xs,cs= [nt e.kind,str e.name,nt e.n,.slice a e.args.length cap,nt e.fr,nt e.to]/\RowI I 125 6 (.slice a e.args.length cap) e.args.length xs/\Z4 I e.args xs:=by
 cases e with
 |mk k nm n args f t=>rw[A7i]at h;exact h
theorem A7i.of {I:P7}{k n f t cap:Nat}{nm:List UInt8}{a:Option Addr}{args:List Sp.Ex}{xs:List Value} (h2:RowI I 125 6 (.slice a args.length cap) args.length xs) (h3:Z4 I args xs):
  A7i I (.mk k nm n args f t) [nt k,str nm,nt n,.slice a args.length cap,nt f,nt t]:=by
 rw[A7i];exact⟨a,cap,xs,rfl,h2,h3⟩
theorem A7i.len {I:P7}{e:Sp.Ex}{cs:List Value} (h:A7i I e cs):cs.length=6:=by
 obtain⟨_,_,_,rfl,_⟩:=h.out;rfl
theorem Z4.nil {I:P7}:Z4 I [] []:=by rw[Z4]
theorem Z4.snoc {I:P7}:∀ {es:List Sp.Ex}{xs c:List Value}{e:Sp.Ex},Z4 I es xs->A7i I e c->Z4 I (es++ [e]) (xs++c)
 | [],xs,c,e,h,he=>by
  rw[Z4]at h;subst h;rw[P9,P9,Z4];exact⟨c,[],by simp,he,by rw[Z4]⟩
 |a::es,xs,c,e,h,he=>by
  rw[Z4]at h;obtain⟨c1,r,rfl,h2,h3⟩:=h;rw[X3,Z4];exact⟨c1,r++c,by rw[O4],h2,h3.snoc he⟩
theorem Z4.get {I:P7}:∀ {es:List Sp.Ex}{xs:List Value}{i:Nat}{e:Sp.Ex},Z4 I es xs->es[i]?=some e->A7i I e ((xs.drop (i *6)).take 6)
 | [],_,_,_,_,he=>by simp at he
 |a::es,xs,0,e,h,he=>by
  rw[Z4]at h;obtain⟨c,r,rfl,h2,h3⟩:=h;simp only[A0z,U4]at he;subst he;rw[A1o,A2o,A14 (by rw[h2.len];omega),A0q (by rw[h2.len];omega)];exact h2
 |a::es,xs,i+1,e,h,he=>by
  rw[Z4]at h;obtain⟨c,r,rfl,h2,h3⟩:=h;rw[A0w]at he;have:=h3.get he;rw[A5A,A4D (by rw[h2.len];omega),P9,h2.len,show (i+1) *6-6=i *6 by omega];exact this
abbrev A2N (k:Nat) (nm:List UInt8) (a lb:Nat) (o:Bool) (e:Sp.Ex) (ea:Option Addr) (ec:Nat) (v1 v2:Value) (f t:Nat):List Value:=
 [nt k,str nm,nt a,nt lb,.bool o,nt e.kind,str e.name,nt e.n,.slice ea e.args.length ec,nt e.fr,nt e.to,v1,v2,nt f,nt t]
mutual
def A5m (I:P7):Sp.Stm->List Value->Prop
 | .mk k nm a lb o e thn els f t,cs=> ∃ea ec ex a1 c1 xs1 a2 c2 xs2,cs=A2N k nm a lb o e ea ec (.slice a1 thn.length c1) (.slice a2 els.length c2) f t/\
  RowI I 125 6 (.slice ea e.args.length ec) e.args.length ex/\Z4 I e.args ex/\
  RowI I 127 15 (.slice a1 thn.length c1) thn.length xs1/\X9 I thn xs1/\RowI I 127 15 (.slice a2 els.length c2) els.length xs2/\X9 I els xs2
def X9 (I:P7):List Sp.Stm->List Value->Prop
 | [],xs=>xs= []
 |e::es,xs=> ∃c r,xs=c++r/\A5m I e c/\X9 I es r
 end
mutual
theorem A5m.le {I I':P7} (m:Le I I'):∀(e:Sp.Stm) (cs:List Value),A5m I e cs->A5m I' e cs
 | .mk k nm a lb o e thn els f t,cs,h=>by
  rw[A5m]at h |-;obtain⟨ea,ec,ex,a1,c1,xs1,a2,c2,xs2,h1,h2,h3,h4,h5,h6,h7⟩:=h;exact⟨ea,ec,ex,a1,c1,xs1,a2,c2,xs2,h1,h2.le m,Z4.le m _ _ h3,h4.le m,X9.le m _ _ h5,h6.le m,X9.le m _ _ h7⟩
theorem X9.le {I I':P7} (m:Le I I'):∀(es:List Sp.Stm) (xs:List Value),X9 I es xs->X9 I' es xs
 | [],xs,h=>by rw[X9]at h |-;exact h
 |e::es,xs,h=>by
  rw[X9]at h |-;obtain⟨c,r,h1,h2,h3⟩:=h;exact⟨c,r,h1,A5m.le m _ _ h2,X9.le m _ _ h3⟩
 end
theorem A5m.out {I:P7}{s:Sp.Stm}{cs:List Value} (h:A5m I s cs):∃ea ec ex a1 c1 xs1 a2 c2 xs2,cs=A2N s.kind s.name s.at_ s.label s.opn s.e ea ec (.slice a1 s.thn.length c1) (.slice a2 s.els.length c2) s.fr s.to/\
  RowI I 125 6 (.slice ea s.e.args.length ec) s.e.args.length ex/\Z4 I s.e.args ex/\
  RowI I 127 15 (.slice a1 s.thn.length c1) s.thn.length xs1/\X9 I s.thn xs1/\RowI I 127 15 (.slice a2 s.els.length c2) s.els.length xs2/\X9 I s.els xs2:=by
 cases s with
 |mk k nm a lb o e thn els f t=>rw[A5m]at h;exact h
theorem A5m.of {I:P7}{k a lb f t ec c1 c2:Nat}{nm:List UInt8}{o:Bool}{e:Sp.Ex}{thn els:List Sp.Stm}{ea a1 a2:Option Addr}{ex xs1 xs2:List Value}
  (h2:RowI I 125 6 (.slice ea e.args.length ec) e.args.length ex) (h3:Z4 I e.args ex)
  (h4:RowI I 127 15 (.slice a1 thn.length c1) thn.length xs1) (h5:X9 I thn xs1) (h6:RowI I 127 15 (.slice a2 els.length c2) els.length xs2) (h7:X9 I els xs2):
  A5m I (.mk k nm a lb o e thn els f t) (A2N k nm a lb o e ea ec (.slice a1 thn.length c1) (.slice a2 els.length c2) f t):=by
 rw[A5m];exact⟨ea,ec,ex,a1,c1,xs1,a2,c2,xs2,rfl,h2,h3,h4,h5,h6,h7⟩
theorem A5m.len {I:P7}{e:Sp.Stm}{cs:List Value} (h:A5m I e cs):cs.length=15:=by
 obtain⟨_,_,_,_,_,_,_,_,_,rfl,_⟩:=h.out;rfl
theorem X9.nil {I:P7}:X9 I [] []:=by rw[X9]
theorem X9.snoc {I:P7}:∀ {es:List Sp.Stm}{xs c:List Value}{e:Sp.Stm},X9 I es xs->A5m I e c->X9 I (es++ [e]) (xs++c)
 | [],xs,c,e,h,he=>by
  rw[X9]at h;subst h;rw[P9,P9,X9];exact⟨c,[],by simp,he,by rw[X9]⟩
 |a::es,xs,c,e,h,he=>by
  rw[X9]at h;obtain⟨c1,r,rfl,h2,h3⟩:=h;rw[X3,X9];exact⟨c1,r++c,by rw[O4],h2,h3.snoc he⟩
theorem X9.get {I:P7}:∀ {es:List Sp.Stm}{xs:List Value}{i:Nat}{e:Sp.Stm},X9 I es xs->es[i]?=some e->A5m I e ((xs.drop (i *15)).take 15)
 | [],_,_,_,_,he=>by simp at he
 |a::es,xs,0,e,h,he=>by
  rw[X9]at h;obtain⟨c,r,rfl,h2,h3⟩:=h;simp only[A0z,U4]at he;subst he;rw[A1o,A2o,A14 (by rw[h2.len];omega),A0q (by rw[h2.len];omega)];exact h2
 |a::es,xs,i+1,e,h,he=>by
  rw[X9]at h;obtain⟨c,r,rfl,h2,h3⟩:=h;rw[A0w]at he;have:=h3.get he;rw[A5A,A4D (by rw[h2.len];omega),P9,h2.len,show (i+1) *15-15=i *15 by omega];exact this
abbrev A5Q (d:Sp.Dg):List Value:= [nt d.fr,nt d.to,nt d.err,str d.name]
abbrev A2Q (p:Sp.Par):List Value:= [str p.name,nt p.label,nt p.at_]
abbrev A2Y (p:Sp.Rf):List Value:= [str p.name,nt p.at_]
abbrev A1F (k:Nat) (nm:List UInt8) (lb:Nat) (vp vs vb:Value) (a:Int) (sz mk:Nat) (vd:Value):List Value:= [nt k,str nm,nt lb,vp,vs,vb,.int .i64 a,nt sz,nt mk,vd]
def A57 (I:P7) (it:Sp.Itm) (cs:List Value):Prop:= ∃ap cp as_ cs' ab cb ad cd xb,cs=A1F it.kind it.name it.label (.slice ap it.params.length cp) (.slice as_ it.sends.length cs') (.slice ab it.body.length cb) it.at_ it.size it.mark (.slice ad it.diags.length cd)/\
 RowI I 90 3 (.slice ap it.params.length cp) it.params.length (it.params.flatMap A2Q)/\RowI I 118 2 (.slice as_ it.sends.length cs') it.sends.length (it.sends.flatMap A2Y)/\
 RowI I 127 15 (.slice ab it.body.length cb) it.body.length xb/\X9 I it.body xb/\RowI I 56 4 (.slice ad it.diags.length cd) it.diags.length (it.diags.flatMap A5Q)
theorem A57.le {I I':P7} (m:Le I I') {it:Sp.Itm}{cs:List Value} (h:A57 I it cs):A57 I' it cs:=by
 obtain⟨ap,cp,as_,cs',ab,cb,ad,cd,xb,h1,h2,h3,h4,h5,h6⟩:=h;exact⟨ap,cp,as_,cs',ab,cb,ad,cd,xb,h1,h2.le m,h3.le m,h4.le m,h5.le m,h6.le m⟩
theorem A57.len {I:P7}{it:Sp.Itm}{cs:List Value} (h:A57 I it cs):cs.length=10:=by
 obtain⟨_,_,_,_,_,_,_,_,_,rfl,_⟩:=h;rfl
def A5j (I:P7):List Sp.Itm->List Value->Prop
 | [],xs=>xs= []
 |e::es,xs=> ∃c r,xs=c++r/\A57 I e c/\A5j I es r
theorem A5j.le {I I':P7} (m:Le I I'):∀ {es:List Sp.Itm}{xs:List Value},A5j I es xs->A5j I' es xs
 | [],_,h=>h
 |_::_,_,⟨c,r,h1,h2,h3⟩=>⟨c,r,h1,h2.le m,h3.le m⟩
theorem A5j.snoc {I:P7}:∀ {es:List Sp.Itm}{xs c:List Value}{e:Sp.Itm},A5j I es xs->A57 I e c->A5j I (es++ [e]) (xs++c)
 | [],xs,c,e,h,he=>by
  obtain rfl:xs= []:=h;exact⟨c,[],by simp,he,rfl⟩
 |a::es,xs,c,e,⟨c1,r,e1,h2,h3⟩,he=>⟨c1,r++c,by rw[e1,O4],h2,h3.snoc he⟩
theorem A5j.get {I:P7}:∀ {es:List Sp.Itm}{xs:List Value}{i:Nat}{e:Sp.Itm},A5j I es xs->es[i]?=some e->A57 I e ((xs.drop (i *10)).take 10)
 | [],_,_,_,_,he=>by simp at he
 |a::es,xs,0,e,h,he=>by
  obtain⟨c,r,rfl,h2,h3⟩:=h;simp only[A0z,U4]at he;subst he;rw[A1o,A2o,A14 (by rw[h2.len];omega),A0q (by rw[h2.len];omega)];exact h2
 |a::es,xs,i+1,e,h,he=>by
  obtain⟨c,r,rfl,h2,h3⟩:=h;rw[A0w]at he;have:=h3.get he;rw[A5A,A4D (by rw[h2.len];omega),P9,h2.len,show (i+1) *10-10=i *10 by omega];exact this
theorem toNat_inj {a b:UInt8} (h:(a.toNat:Int)=b.toNat):a=b:=UInt8.toNat_inj.1 (by omega)
def A3J (t:Sp.Tok):List Value:= [.int .i64 (t.kind:Int),str t.text,.int .i64 (t.pos:Int)]
theorem C6V {s:List UInt8}{k:Nat} (h:k<s.length) (hf:A58 (s.getD k 0)=false):B0I s=false:=by
 have:s.all A58=false:=by
  rw[Bool.eq_false_iff];intro h1;have:=(C0q _ _).1 h1 k h;rw[hf]at this;cases this
 simp[B0I,this]
def A1v (n:Nat):List Value:= [.int .i64 (n:Int)]
theorem B82 (l:List Sp.Tok) (k:Nat) (t:Sp.Tok) (h:l[k]?=some t) (j:Nat) (v:Value) (hv:(A3J t)[j]?=some v):(l.flatMap A3J)[k *3+j]?=some v:=by
 induction l generalizing k with
 |nil=>simp at h
 |cons a l ih=>
  have hj:j<3:=by
   have:=(A0y.1 hv).1;simpa[A3J] using this
  cases k with
  |zero=>
   simp at h
   subst h;rw[A0b,A23 (by simp[A3J];omega)];simpa using hv
  |succ k=>
   rw[A0b,A16 (by simp[A3J];omega)];have:=ih k (by simpa using h);rw[<-this]
   congr 1
   simp[A3J];omega
theorem A7Q (s:List UInt8):(V3 s).length<=s.length:=by
 have key:∀(n k:Nat),s.length-k=n->(A5F s k).length<=n:=by
  intro n;induction n using Nat.strongRecOn with
  |_ n ih=>
   intro k hn;by_cases h:k<s.length
   ·have hl:=A6Q (s.drop k) (by simp;omega)
    simp only[A0r]at hl;have:=ih (s.length-(k+(Sp.one (s.drop k)).2)) (by omega) _ rfl;rw[A55 s k h,E9];split
    ·simp;omega
    ·simp;omega
   ·rw[A62 s k (by omega)];simp
 have:=key _ 0 rfl;rw[A7P];simpa using this
structure Ok (T:Sp.Src):Prop where
 size:T.size<=1048576
 len:T.l.length<=T.size
 tok:∀t∈T.l,t.pos+t.text.length<=T.size
 len1:∀t∈T.l,1<=t.text.length
 dig:∀t∈T.l,t.kind=2->∀c∈t.text,48<=c.toNat/\c.toNat<=57
theorem Ok.at_ {T:Sp.Src} (h:Ok T) (i:Nat):(T.tok i).pos+(T.tok i).text.length<=T.size:=by
 rcases U2 i T.l.length with h1|h1
 ·rw[Sp.Src.tok,O5,G6 h1]
  exact h.tok _ (O6 h1)
 ·rw[A5a h1];simp
theorem A4a {T:Sp.Src}{i:Nat} (h:i<T.l.length):T.l[i]?=some (T.tok i):=by
 rw[Sp.Src.tok,O5,G6 h];rfl
abbrev A21 (I:P7) (T:Sp.Src) (la:Option Addr) (lc:Nat):Prop:=RowI I 106 3 (.slice la T.l.length lc) T.l.length (T.l.flatMap A3J)
abbrev A4c (ds:List Sp.Dg) (da:Option Addr) (dc:Nat):HItem:=.row (.slice da ds.length dc) 56 4 ds.length (ds.flatMap A5Q)
theorem C18 (s:List UInt8) (h:s.length<=1048576):Ok ⟨V3 s,s.length⟩:=
 ⟨h,A7Q s,fun t ht=>(A2G s t ht).fit,fun t ht=>(A2G s t ht).len,fun t ht hk=>C0i (A2G s t ht) hk⟩
abbrev A59 (pb:Nat) (la:Option Addr) (lc:Nat) (T:Sp.Src) (s:Sp.St) (deep:Nat) (da:Option Addr) (dc:Nat):HItem:=
 .obj pb (.cells [.slice la T.l.length lc,nt s.i,nt T.size,.slice da s.ds.length dc,nt deep].toArray 109 (0,0))
abbrev QSt (pb:Nat) (la:Option Addr) (lc:Nat) (T:Sp.Src) (s:Sp.St) (deep:Nat) (da:Option Addr) (dc:Nat):List HItem:= [A59 pb la lc T s deep da dc,A4c s.ds da dc]
section
variable {I:P7}{pb deep lc dc:Nat}{la da:Option Addr}{T:Sp.Src}
theorem A1s (s:Sp.St) (hr:A21 I T la lc):CalR prog 43 #[ptr pb] I [A59 pb la lc T s deep da dc] (nt (T.tok s.i).pos):=by
 refine CalR.of fun w J hm hl hH hJ=>enter (N:=28) func43 rfl [(0,ptr pb)] A0G rfl ?_
 have hp:=A7z (hH _ Q5);rw[<-hJ]at hp;replace hr:=hr.le hl;by_cases hi:s.i<T.l.length
 ·have htk:=A4a hi
  repeat' (first|refine Z7 ?_ (hr:=by exact hr) (he:=by intro _;rfl) (hz:=by exact htk);intro b1 o1 hp1|refine A0m ?_ hm|refine D6 ?_|refine D9 ?_|refine A7 ?_|refine G8 ?_|refine E5 ?_|refine A8 ?_|refine H9 ?_|refine J9 ?_|refine U3 ?_|refine A0g ?_;intro _ hkq;replace hm:=hm.kept0 hkq;clear hkq|(refine D5 (ht:=fun _=>?_) (hf:=fun _=>?_)<;>try first|contradiction|omega)|refine X6 ?_|refine A1Q ?_|refine A2B ?_|refine V4 ?_|refine O9 ?_|refine L9 ?_)
  exact⟨rfl,hm.kept⟩
 ·have he:T.tok s.i=⟨0,[],T.size⟩:=A5a (by omega)
  rw[he];repeat' (first|refine J5 ?_ hm|refine A0m ?_ hm|refine D8 ?_|refine D6 ?_|refine E8 ?_|refine C9 ?_|refine D9 ?_|refine A7 ?_|refine E5 ?_|refine A8 ?_|refine G5 ?_|refine H9 ?_|refine J9 ?_|refine U3 ?_|refine A0g ?_;intro _ hkq;replace hm:=hm.kept0 hkq;clear hkq|(refine D5 (ht:=fun _=>?_) (hf:=fun _=>?_)<;>try first|contradiction|omega)|refine X6 ?_|refine A2B ?_|refine V4 ?_|refine O9 ?_|refine L9 ?_)
  exact⟨rfl,hm.kept⟩
theorem A2D (s:Sp.St) (hr:A21 I T la lc):CalR prog 66 #[ptr pb] I [A59 pb la lc T s deep da dc] (str (T.tok s.i).text):=by
 refine CalR.of fun w J hm hl hH hJ=>enter (N:=24) func66 rfl [(0,ptr pb)] A0G rfl ?_
 have hp:=A7z (hH _ Q5);rw[<-hJ]at hp;replace hr:=hr.le hl;by_cases hi:s.i<T.l.length
 ·have htk:=A4a hi
  repeat' (first|refine Z7 ?_ (hr:=by exact hr) (he:=by intro _;rfl) (hz:=by exact htk);intro b1 o1 hp1|refine A0m ?_ hm|refine D6 ?_|refine D9 ?_|refine A7 ?_|refine G8 ?_|refine E5 ?_|refine A8 ?_|refine H9 ?_|refine J9 ?_|refine U3 ?_|refine A0g ?_;intro _ hkq;replace hm:=hm.kept0 hkq;clear hkq|(refine D5 (ht:=fun _=>?_) (hf:=fun _=>?_)<;>try first|contradiction|omega)|refine X6 ?_|refine A1Q ?_|refine A2B ?_|refine V4 ?_|refine O9 ?_|refine L9 ?_)
  exact⟨rfl,hm.kept⟩
 ·have he:T.tok s.i=⟨0,[],T.size⟩:=A5a (by omega)
  rw[he];repeat' (first|refine A0m ?_ hm|refine D6 ?_|refine D9 ?_|refine A7 ?_|refine E5 ?_|refine A8 ?_|refine G5 ?_|refine H9 ?_|refine J9 ?_|refine U3 ?_|refine A0g ?_;intro _ hkq;replace hm:=hm.kept0 hkq;clear hkq|(refine D5 (ht:=fun _=>?_) (hf:=fun _=>?_)<;>try first|contradiction|omega)|refine X6 ?_|refine A2B ?_|refine V4 ?_|refine O9 ?_|refine L9 ?_)
  exact⟨rfl,hm.kept⟩
theorem A4F (s:Sp.St) (hr:A21 I T la lc) (hT:Ok T) (hi:s.i<=T.l.length):CalR prog 122 #[ptr pb] I [A59 pb la lc T s deep da dc] (nt (T.endOf s.i)):=by
 refine CalR.of fun w J hm hl hH hJ=>enter (N:=26) func122 rfl [(0,ptr pb)] A0G rfl ?_
 have hp:=A7z (hH _ Q5);rw[<-hJ]at hp;replace hr:=hr.le hl;have h1:=hT.at_ (s.i-1);have h2:=hT.size;have h3:=hT.len;by_cases h0:s.i=0
 ·rw[h0]at hp |-
  repeat' (first|refine J5 ?_ hm|refine D8 ?_|refine D6 ?_|refine O0 ?_|refine E8 ?_|refine C9 ?_|refine D9 ?_|refine A7 ?_|refine G8 ?_|refine E5 ?_|refine A8 ?_|refine H9 ?_|refine J9 ?_|refine H5 ?_)
  exact⟨rfl,hm.kept⟩
 ·have hlt:s.i-1<T.l.length:=by omega
  have htk:=A4a hlt;repeat' (first|refine A0v (id:=3) (hm.perm pm0) 11 12 (h:=?_);clear hm;intro wd hR hm|refine A2J ?_ (hr:=by exact hr) (he:=by intro _;rfl) (hz:=by rw[show ((s.i:Int)-1).toNat=s.i-1 by omega];exact htk);intro b1 o1 hp1|refine A0d ?_ hR|refine A1Z ?_ hR|refine A33 (d:=3) ?_ hm;clear hm;intro b3 _ hm|refine A0A ?_;replace hm:=hR.back hm;clear hR;try simp only[F8]at hm|refine J4 ?_ hm|refine J5 ?_ hm|refine N9 ?_ hm;clear hm;intro _ hm;try simp only[F8]at hm|refine D8 ?_|refine D6 ?_|refine O0 ?_|refine A0C ?_|refine E8 ?_|refine P5 ?_|refine C9 ?_|refine D9 ?_|refine A7 ?_|refine E5 ?_|refine A8 ?_|refine G5 ?_|refine H9 ?_|refine J9 ?_|(refine D5 (ht:=fun _=>?_) (hf:=fun _=>?_)<;>try first|contradiction|omega)|refine Z5 ?_|refine O7 ?_|refine C5d ?_|refine L6 ?_|refine A0c ?_)
  refine⟨?_,hm.kept⟩
  rw[Sp.Src.endOf,if_neg h0,nt,Int.natCast_add]
end
end Go.Proofs
