/- Own work. -/
import Derived.Test.YtbmbnippbldmfaaGreatDoorSn8
import Derived.Lib.ItoaLen
import Derived.Test.YtbmbnippbldmfaaGreatDoorProg
import Derived.KernelRfl
set_option maxHeartbeats 64000000
namespace Go.Sp
abbrev Lab:=Nat->Nat
structure Li where
 name:List UInt8
 lab:Nat
 op:Option Nat
def Li.val (o:Lab) (l:Li):Nat:=match l.op with
 |none=>l.lab
 |some f=>o f
def A7N (o:Lab) (sc:List Li):List Lc:=sc.map (fun l=>⟨l.name,l.val o⟩)
def A3x:List Li->List UInt8->Option Li
 | [],_=>none
 |l::sc,n=>match A3x sc n with
  |some x=>some x
  |none=>if l.name=n then some l else none
def A57 (sc:List Li):List Nat:=sc.filterMap (·.op)
def upL (o:Lab) (f n:Nat):Lab:=fun g=>if g=f then n else o g
abbrev LP:=Lab×Bool
def A3W (p:LP) (f n:Nat):LP:=if p.1 f|||n=p.1 f then p else (upL p.1 f (p.1 f|||n),true)
def A4G (p:LP) (op:Option Nat) (n:Nat):LP:=match op with
 |none=>p
 |some f=>A3W p f n
def A74 (o:Bool) (f:Nat):Option Nat:=if o=true then some f else none
def B7S (p:LP) (sc:List Li) (nm:List UInt8) (n:Nat):LP:=match A3x sc nm with
 |some l=>A4G p l.op n
 |none=>p
mutual
def B3I (its:List Itm):Stm->List Li->Nat->LP->List Li×LP
 | .mk k nm _ lb o e thn els f _,sc,un,p=>
  if k=1 then (sc++ [⟨nm,lb,A74 o f⟩],A4G p (A74 o f) (A2C its (A7N p.1 sc) e|||un)) else
  if k=2 then (sc,B7S p sc nm (A2C its (A7N p.1 sc) e|||un)) else
  if k=3\/k=4 then (sc,(A2b its els sc (A2C its (A7N p.1 sc) e|||un) (A2b its thn sc (A2C its (A7N p.1 sc) e|||un) p).2).2) else (sc,p)
def A2b (its:List Itm):List Stm->List Li->Nat->LP->List Li×LP
 | [],sc,_,p=>(sc,p)
 |x::l,sc,un,p=>A2b its l (B3I its x sc un p).1 un (B3I its x sc un p).2
 end
mutual
def Stm.lets:Stm->List Nat
 | .mk k _ _ _ _ _ thn els f _=>(if k=1 then [f] else [])++(A1a thn++A1a els)
def A1a:List Stm->List Nat
 | []=> []
 |x::l=>x.lets++A1a l
 end
def B1Y (l:List Par):List Li:=l.map (fun p=>⟨p.name,p.label,none⟩)
def A45 (its:List Itm) (it:Itm) (o:Lab):LP:=(A2b its it.body (B1Y it.params) 0 (o,false)).2
def B0N (its:List Itm) (it:Itm):Nat->Lab
 |0=>fun _=>0
 |k+1=>(A45 its it (B0N its it k)).1
def C6x (its:List Itm) (it:Itm) (o:Lab):Prop:=(∃k,o=B0N its it k)/\A45 its it o=(o,false)
mutual
def A9O (o:Lab):Stm->Stm
 | .mk k nm a lb op e thn els f t=> .mk k nm a (if k=1/\op=true then o f else lb) (if k=1 then false else op) e (A2f o thn) (A2f o els) f t
def A2f (o:Lab):List Stm->List Stm
 | []=> []
 |x::l=>A9O o x::A2f o l
 end
def itI (o:Lab) (it:Itm):Itm:= { it with body:=A2f o it.body}
def C0N (its:List Itm) (it r:Itm):Prop:=(it.kind=2->∃o,C6x its it o/\r=itI o it)/\(it.kind≠2->r=it)
inductive AllTwo {α β:Type} (R:α->β->Prop):List α->List β->Prop
 |nil:AllTwo R [] []
 |cons {a:α}{b:β}{l:List α}{r:List β} (h:R a b) (t:AllTwo R l r):AllTwo R (a::l) (b::r)
theorem AllTwo.len {α β:Type}{R:α->β->Prop}:∀ {l:List α}{r:List β},AllTwo R l r->r.length=l.length
 |_,_,.nil=>rfl
 |_,_,.cons _ t=>by rw[F8,F8,t.len]
def B1d (its r:List Itm):Prop:=AllTwo (C0N its) its r
theorem B26 {its:List Itm}{it:Itm}{k:Nat} (h:A45 its it (B0N its it k)=(B0N its it k,false)):∀j,B0N its it (k+j)=B0N its it k
 |0=>rfl
 |j+1=>by
  have ih:=B26 h j;show (A45 its it (B0N its it (k+j))).1=_
  rw[ih,h]
theorem C21 {its:List Itm}{it:Itm}{o o':Lab} (h:C6x its it o) (h':C6x its it o'):o=o':=by
 obtain⟨⟨k,rfl⟩,hk⟩:=h;obtain⟨⟨j,rfl⟩,hj⟩:=h';rcases Nat.le_total k j with hle|hle
 ·obtain⟨d,rfl⟩:=Nat.le.dest hle
  rw[B26 hk]
 ·obtain⟨d,rfl⟩:=Nat.le.dest hle
  rw[B26 hj]
theorem C1i {its:List Itm}{it a b:Itm} (ha:C0N its it a) (hb:C0N its it b):a=b:=by
 by_cases h:it.kind=2
 ·obtain⟨o,h1,rfl⟩:=ha.1 h
  obtain⟨o',h2,rfl⟩:=hb.1 h;rw[C21 h1 h2]
 ·rw[ha.2 h,hb.2 h]
theorem B4D {its:List Itm}:∀ {l a b:List Itm},AllTwo (C0N its) l a->AllTwo (C0N its) l b->a=b
 |_,_,_,.nil,.nil=>rfl
 |_,_,_,.cons h1 t1,.cons h2 t2=>by rw[C1i h1 h2,B4D t1 t2]
theorem B4q (o:Lab) (n:List UInt8):∀(sc:List Li),A1A (A7N o sc) n=(A3x sc n).map (fun l=>⟨l.name,l.val o⟩)
 | []=>rfl
 |l::sc=>by
  have ih:=B4q o n sc;show A1A (⟨l.name,l.val o⟩::A7N o sc) n=_
  rw[A1A,ih,A3x];cases A3x sc n with
  |some x=>rfl
  |none=>
   simp only[Option.map_none];split<;>rfl
theorem A7G {n:List UInt8}{x:Li}:∀ {l:List Li},A3x l n=some x->x∈l/\x.name=n
 | [],h=>by cases h
 |a::l,h=>by
  rw[A3x]at h;split at h
  ·rename_i y hy
   cases h
   obtain⟨h1,h2⟩:=A7G hy;exact⟨A0Q _ h1,h2⟩
  ·split at h
   ·rename_i h2;cases h;exact⟨Q7,h2⟩
   ·cases h
theorem B4r {n:List UInt8}{x:Li}:∀ {l:List Li}{i:Nat},l[i]?=some x->x.name=n->(∀j y,i<j->l[j]?=some y->y.name≠n)->A3x l n=some x
 | [],i,h,_,_=>by simp at h
 |a::l,0,h,hn,hl=>by
  simp only[A0A,U3]at h;subst h;have:A3x l n=none:=by
   cases hf:A3x l n with
   |none=>rfl
   |some y=>
    obtain⟨hy,hyn⟩:=A7G hf;obtain⟨j,hj⟩:=A7S.1 hy;exact absurd hyn (hl (j+1) y (by omega) (by rw[A0E];exact hj))
  rw[A3x,this];simp[hn]
 |a::l,i+1,h,hn,hl=>by
  rw[A0E]at h;rw[A3x,B4r h hn (fun j y hj hy=>hl (j+1) y (by omega) (by rw[A0E];exact hy))]
theorem B62 {n:List UInt8}:∀ {l:List Li},(∀(j:Nat) y,l[j]?=some y->y.name≠n)->A3x l n=none:=fun {l} h=>by
 cases hf:A3x l n with
 |none=>rfl
 |some y=>
  obtain⟨hy,hyn⟩:=A7G hf;obtain⟨j,hj⟩:=A7S.1 hy;exact absurd hyn (h j y hj)
theorem C5Y (its:List Itm) (x:Stm) (sc:List Li) (un:Nat) (p:LP):B3I its x sc un p=
  if x.kind=1 then (sc++ [⟨x.name,x.label,A74 x.opn x.fr⟩],A4G p (A74 x.opn x.fr) (A2C its (A7N p.1 sc) x.e|||un)) else
  if x.kind=2 then (sc,B7S p sc x.name (A2C its (A7N p.1 sc) x.e|||un)) else
  if x.kind=3\/x.kind=4 then (sc,(A2b its x.els sc (A2C its (A7N p.1 sc) x.e|||un) (A2b its x.thn sc (A2C its (A7N p.1 sc) x.e|||un) p).2).2) else (sc,p):=by
 cases x;rw[B3I];rfl
theorem B40 (its:List Itm):∀(l r:List Stm) (sc:List Li) (un:Nat) (p:LP),A2b its (l++r) sc un p=A2b its r (A2b its l sc un p).1 un (A2b its l sc un p).2
 | [],r,sc,un,p=>by rw[P5,A2b]
 |e::l,r,sc,un,p=>by rw[Y0,A2b,A2b,B40 its l r]
theorem B9D (its:List Itm) {l:List Stm}{k:Nat}{x:Stm} (h:l[k]?=some x) (sc:List Li) (un:Nat) (p:LP):
  A2b its (l.take (k+1)) sc un p=B3I its x (A2b its (l.take k) sc un p).1 un (A2b its (l.take k) sc un p).2:=by
 rw[Q8 h,B40,A2b,A2b]
def okL (p:LP):Prop:= ∀f,p.1 f<256
def B5B (sc:List Li):Prop:= ∀l∈sc,l.lab<256
theorem B3j {p:LP}{sc:List Li} (hp:okL p) (hs:B5B sc):A4M (A7N p.1 sc):=fun l hl=>by
 obtain⟨x,hx,rfl⟩:=A0x.1 hl;show x.val p.1<256
 rw[Li.val];split
 ·exact hs x hx
 ·exact hp _
theorem C1N {p:LP} (h:okL p) (f:Nat) {n:Nat} (hn:n<256):okL (A3W p f n):=by
 rw[A3W];split
 ·exact h
 ·intro g
  show upL p.1 f (p.1 f|||n) g<256
  rw[upL];split
  ·exact A9U (h f) hn
  ·exact h g
theorem B4Q {p:LP} (h:okL p) (f:Option Nat) {n:Nat} (hn:n<256):okL (A4G p f n):=by
 cases f with
 |none=>exact h
 |some f=>exact C1N h f hn
theorem C5S {p:LP} (h:okL p) (sc:List Li) (nm:List UInt8) {n:Nat} (hn:n<256):okL (B7S p sc nm n):=by
 rw[B7S];split
 ·exact B4Q h _ hn
 ·exact h
mutual
theorem C0A {its:List Itm} (hlab:A26 its):∀(x:Stm) {sc:List Li}{un:Nat}{p:LP},x.all B0w B0P->okL p->B5B sc->un<256->okL (B3I its x sc un p).2/\B5B (B3I its x sc un p).1
 | .mk k nm a lb o e thn els f t,sc,un,p,ha,hp,hs,hu=>by
  rw[Stm.all]at ha;obtain⟨h1,h2,h3,h4⟩:=ha;have hav:=A9U (A4L hlab (B3j hp hs) e) hu;rw[B3I];split
  ·rename_i hk
   refine⟨B4Q hp _ hav,fun l hl=>?_⟩
   rcases A0d.1 hl with hl|hl
   ·exact hs l hl
   ·obtain rfl:=A0v.1 hl
    exact h1
  ·split
   ·exact⟨C5S hp _ _ hav,hs⟩
   ·split
    ·have q1:=A6O hlab thn h3 hp hs hav
     exact⟨(A6O hlab els h4 q1.1 hs hav).1,hs⟩
    ·exact⟨hp,hs⟩
theorem A6O {its:List Itm} (hlab:A26 its):∀(l:List Stm) {sc:List Li}{un:Nat}{p:LP},X7 B0w B0P l->okL p->B5B sc->un<256->okL (A2b its l sc un p).2/\B5B (A2b its l sc un p).1
 | [],_,_,_,_,hp,hs,_=>by rw[A2b];exact⟨hp,hs⟩
 |x::l,sc,un,p,ha,hp,hs,hu=>by
  rw[X7]at ha;have q1:=C0A hlab x ha.1 hp hs hu;rw[A2b];exact A6O hlab l ha.2 q1.1 q1.2 hu
end
def B1G (L:List Nat) (o:Lab):Nat:=(L.map (fun f=>256-o f)).sum
theorem C5u {a n:Nat} (h:a|||n≠a):a<a|||n:=by
 have h1:a<=a|||n:=Nat.left_le_or
 omega
theorem C4r {L:List Nat}{o:Lab}{f n:Nat} (h:o f<=n):B1G L (upL o f n)<=B1G L o:=by
 induction L with
 |nil=>exact G9 _
 |cons g L ih=>
  simp only[B1G,X8,A5N]at ih |-;have:256-upL o f n g<=256-o g:=by
   rw[upL];split
   ·rename_i e;subst e;omega
   ·exact G9 _
  omega
theorem C7G {L:List Nat}{o:Lab}{f n:Nat} (hf:f∈L) (h:o f<n) (hn:o f<256):B1G L (upL o f n)<B1G L o:=by
 induction L with
 |nil=>cases hf
 |cons g L ih=>
  have h1:=C4r (L:=L) (o:=o) (f:=f) (n:=n) (by omega);simp only[B1G,X8,A5N]at ih h1 |-;by_cases e:g=f
  ·subst e
   have:upL o g n g=n:=by rw[upL,if_pos rfl]
   rw[this];omega
  ·have h2:upL o f n g=o g:=by rw[upL,if_neg e]
   have:=ih (by rcases V8.1 hf with h|h;exact absurd h.symm e;exact h);rw[h2];omega
structure Gone (L:List Nat) (p q:LP):Prop where
 le:B1G L q.1<=B1G L p.1
 lt:q.2=true->p.2=true\/B1G L q.1<B1G L p.1
 same:q.2=false->q=p
theorem Gone.refl (L:List Nat) (p:LP):Gone L p p:=⟨G9 _,.inl,fun _=>rfl⟩
theorem Gone.trans {L:List Nat}{p q r:LP} (h:Gone L p q) (g:Gone L q r):Gone L p r:=
 ⟨A0J g.le h.le,fun e=>by
  have h1:=h.le;have h2:=g.le;rcases g.lt e with h3|h3
  ·rcases h.lt h3 with h4|h4
   ·exact .inl h4
   ·exact .inr (by omega)
  ·exact .inr (by omega),fun e=>by
  have h1:=g.same e;subst h1;exact h.same e⟩
theorem B7L {L:List Nat}{p:LP} (hp:okL p) {f:Nat} (hf:f∈L) (n:Nat):Gone L p (A3W p f n):=by
 rw[A3W];split
 ·exact .refl _ _
 ·rename_i h
  have h1:=C5u h;exact⟨C4r (by omega),fun _=> .inr (C7G hf h1 (hp f)),fun e=>by cases e⟩
theorem B14 {L:List Nat}{p:LP} (hp:okL p) {f:Option Nat} (hf:∀g,f=some g->g∈L) (n:Nat):Gone L p (A4G p f n):=by
 cases f with
 |none=>exact .refl _ _
 |some f=>exact B7L hp (hf f rfl) n
def inL (L:List Nat) (sc:List Li):Prop:= ∀f∈A57 sc,f∈L
theorem B7z {sc:List Li}{l:Li}{f:Nat} (h:l∈sc) (e:l.op=some f):f∈A57 sc:=A6x.2 ⟨l,h,e⟩
theorem C1Q {L:List Nat}{p:LP} (hp:okL p) {sc:List Li} (hs:inL L sc) (nm:List UInt8) (n:Nat):Gone L p (B7S p sc nm n):=by
 rw[B7S];split
 ·rename_i l hl
  exact B14 hp (fun g hg=>hs g (B7z (A7G hl).1 hg)) n
 ·exact .refl _ _
theorem B4H (sc:List Li) (l:Li):A57 (sc++ [l])=A57 sc++l.op.toList:=by
 rw[A57,List.filterMap_append,A57];cases h:l.op<;>simp[h]
mutual
theorem C1X {its:List Itm} (hlab:A26 its) {L:List Nat}:∀(x:Stm) {sc:List Li}{un:Nat}{p:LP},x.all B0w B0P->okL p->B5B sc->un<256->(∀f∈x.lets,f∈L)->inL L sc->Gone L p (B3I its x sc un p).2/\inL L (B3I its x sc un p).1
 | .mk k nm a lb o e thn els f t,sc,un,p,ha,hp,hs,hu,hL,hi=>by
  rw[Stm.all]at ha;obtain⟨h1,h2,h3,h4⟩:=ha;have hav:=A9U (A4L hlab (B3j hp hs) e) hu;rw[Stm.lets]at hL;have hLt:∀f∈A1a thn,f∈L:=fun g hg=>hL g (A12 _ (A1J _ hg))
  have hLe:∀f∈A1a els,f∈L:=fun g hg=>hL g (A12 _ (A12 _ hg))
  rw[B3I];split
  ·rename_i hk
   have hf:f∈L:=hL f (by rw[if_pos hk];exact A1J _ Q7);have hop:∀g,A74 o f=some g->g∈L:=fun g hg=>by
    rw[A74]at hg;split at hg
    ·cases hg;exact hf
    ·cases hg
   refine⟨B14 hp hop _,fun g hg=>?_⟩
   rw[B4H]at hg;rcases A0d.1 hg with hg|hg
   ·exact hi g hg
   ·exact hop g (by simpa using hg)
  ·split
   ·exact⟨C1Q hp hi _ _,hi⟩
   ·split
    ·have q1:=A6O hlab thn h3 hp hs hav
     have g1:=A8j hlab thn h3 hp hs hav hLt hi;exact⟨g1.1.trans (A8j hlab els h4 q1.1 hs hav hLe hi).1,hi⟩
    ·exact⟨.refl _ _,hi⟩
theorem A8j {its:List Itm} (hlab:A26 its) {L:List Nat}:∀(l:List Stm) {sc:List Li}{un:Nat}{p:LP},X7 B0w B0P l->okL p->B5B sc->un<256->(∀f∈A1a l,f∈L)->inL L sc->Gone L p (A2b its l sc un p).2/\inL L (A2b its l sc un p).1
 | [],_,_,_,_,hp,hs,_,_,hi=>by rw[A2b];exact⟨.refl _ _,hi⟩
 |x::l,sc,un,p,ha,hp,hs,hu,hL,hi=>by
  rw[X7]at ha;rw[A1a]at hL;have q1:=C0A hlab x ha.1 hp hs hu;have g1:=C1X hlab x ha.1 hp hs hu (fun f hf=>hL f (A1J _ hf)) hi;have g2:=A8j hlab l ha.2 q1.1 q1.2 hu (fun f hf=>hL f (A12 _ hf)) g1.2;rw[A2b];exact⟨g1.1.trans g2.1,g2.2⟩
end
theorem B3w {l:List Par} (h:∀p∈l,p.label<256):B5B (B1Y l):=fun x hx=>by
 obtain⟨p,hp,rfl⟩:=A0x.1 hx;exact h p hp
theorem B4K (l:List Par):A57 (B1Y l)= []:=by
 rw[A57,B1Y,List.filterMap_map];exact List.filterMap_eq_nil_iff.2 (fun _ _=>rfl)
theorem B4R {its:List Itm}{it:Itm}{o:Lab} (hlab:A26 its) (hb:X7 B0w B0P it.body) (hp:∀p∈it.params,p.label<256) (ho:∀f,o f<256):
  okL (A45 its it o)/\((A45 its it o).2=true->B1G (A1a it.body) (A45 its it o).1<B1G (A1a it.body) o)/\((A45 its it o).2=false->(A45 its it o).1=o):=by
 have h1:=A6O hlab it.body (sc:=B1Y it.params) (un:=0) (p:=(o,false)) hb ho (B3w hp) (by omega);have h2:=A8j hlab (L:=A1a it.body) it.body (sc:=B1Y it.params) (un:=0) (p:=(o,false)) hb ho (B3w hp) (by omega) (fun _ h=>h) (fun f hf=>by rw[B4K]at hf;cases hf);refine⟨h1.1,fun e=>?_,fun e=>?_⟩
 ·rcases h2.1.lt e with h|h
  ·cases h
  ·exact h
 ·exact congrArg Prod.fst (h2.1.same e)
def A5m (k:Nat):UInt8:=UInt8.ofNat (97+k)
def A4I (n:Nat):List Nat:=(List.range 8).filter (bit n)
def A4V:List UInt8->List UInt8
 | []=> []
 | [c]=> [c]
 |c::d::l=>c::44::A4V (d::l)
def A4F (n:Nat):List UInt8:=123::(A4V ((A4I n).map A5m)++ [125])
end Go.Sp
namespace Go.Sp
open Go.Lib (itoa)
def A22 (nm:List UInt8):Nat:=if nm= [61]\/nm= [60] then 1 else if nm= [43]\/nm= [45] then 2 else 3
def A3B (e:Ex):Nat:=if e.kind≠3 then 4 else A22 e.name
def B0T (b:Bool) (t:List UInt8):List UInt8:=if b then [40]++t++ [41] else t
def A3F (ws:List (List UInt8)) (k:Nat):List UInt8:=(List.range k).flatMap (fun i=>(if 0<i then [44,32] else [])++ws.getD i [])
theorem A6j (ws:List (List UInt8)) (k:Nat):A3F ws (k+1)=A3F ws k++((if 0<k then [44,32] else [])++ws.getD k []):=by
 rw[A3F,A1O,X9, <-A3F];simp
mutual
def exW:Ex->List UInt8
 | .mk k nm n args _ _=>
  if k=1 then itoa n else
  if k=3 then
   B0T (decide (A3B (args.getD 0 default)<A22 nm)) ((A4S args).getD 0 [])++ [32]++nm++ [32]++
    B0T (decide (A3B (args.getD 1 default)<A22 nm+1)) ((A4S args).getD 1 []) else
  if k=2 then nm else
  if k=4 then nm++ [40]++A3F (A4S args) args.length++ [41] else []
def A4S:List Ex->List (List UInt8)
 | []=> []
 |e::es=>exW e::A4S es
 end
theorem B0G:∀l:List Ex,A4S l=l.map exW
 | []=>by rw[A4S];rfl
 |e::es=>by rw[A4S,B0G es,X8]
theorem A8U {l:List Ex}{i:Nat}{e:Ex} (h:l[i]?=some e):(A4S l).getD i []=exW e:=by
 rw[B0G,O4,A0f,h];rfl
def pad (n:Nat):List UInt8:=(List.replicate n [32,32]).flatten
theorem B2x (n:Nat):(pad n).length=2 *n:=by
 rw[pad,List.length_flatten,List.map_replicate,List.sum_replicate_nat];show n *2=2 *n
 omega
mutual
def B55:Stm->Nat->List UInt8
 | .mk k nm _ lb o e thn els _ _,d=>pad d++(
  if k=1 then [108,101,116,32]++nm++(if o=true then [] else [58,32]++A4F lb)++ [32,61,32]++exW e++ [59,10] else
  if k=2 then nm++ [32,61,32]++exW e++ [59,10] else
  if k=5 then [115,101,110,100,32]++nm++ [32]++exW e++ [59,10] else
  if k=6 then [114,101,116,117,114,110,32]++exW e++ [59,10] else
  if k=7 then exW e++ [59,10] else
  if k=3\/k=4 then (if k=4 then [119,104,105,108,101,32] else [105,102,32])++exW e++ [32]++([123,10]++A29 thn (d+1)++pad d++ [125])++
   (if 0<els.length then [32,101,108,115,101,32]++([123,10]++A29 els (d+1)++pad d++ [125]) else [])++ [10] else [59,10])
def A29:List Stm->Nat->List UInt8
 | [],_=> []
 |x::xs,d=>B55 x d++A29 xs d
 end
def B1j (l:List Stm) (d:Nat):List UInt8:= [123,10]++A29 l (d+1)++pad d++ [125]
theorem A8m:∀(l r:List Stm) (d:Nat),A29 (l++r) d=A29 l d++A29 r d
 | [],r,d=>by rw[P5,A29,P5]
 |x::l,r,d=>by rw[Y0,A29,A29,A8m l r d,O3]
theorem B9G {l:List Stm}{k:Nat}{x:Stm} (h:l[k]?=some x) (d:Nat):A29 (l.take (k+1)) d=A29 (l.take k) d++B55 x d:=by
 rw[A3f,h,A8m];show _++A29 [x] d=_
 rw[A29,A29,J3]
def A9V (l:List Par):List (List UInt8):=l.map (fun p=>p.name++ [58,32]++A4F p.label)
def A7y (l:List Rf) (k:Nat):List UInt8:=(List.range k).flatMap (fun i=>(if i=0 then [32,115,101,110,100,115,32] else [44,32])++(l.getD i ⟨[],0⟩).name)
theorem B0l (l:List Rf) (k:Nat):A7y l (k+1)=A7y l k++((if k=0 then [32,115,101,110,100,115,32] else [44,32])++(l.getD k ⟨[],0⟩).name):=by
 rw[A7y,A1O,X9, <-A7y];simp
def A9Q (it:Itm):List UInt8:=
 if it.kind=1 then [99,104,97,110,32]++it.name++ [58,32]++A4F it.label++ [59,10] else
 if it.kind=2 then [102,110,32]++it.name++ [40]++A3F (A9V it.params) it.params.length++ [41,58,32]++A4F it.label++A7y it.sends it.sends.length++ [32]++B1j it.body 0++ [10] else []
def A24 (its:List Itm):List UInt8:=its.flatMap A9Q
end Go.Sp
namespace Go.Sp
structure Srv where
 text:List UInt8
 op:Bool
structure Rpl where
 id:Int
 err:Nat
 dgs:List DI
 label:Nat
 fr:Int
 text:List UInt8
 ran:Rn
 fresh:Nat
def A9d:Rpl:=⟨0,0,[],0,0,[],⟨[],0,0,0⟩,0⟩
def B5Q (e:Nat):Rpl:= { A9d with err:=e}
def C8X (n:Nat):Rpl:= { A9d with fresh:=n}
def B32 (s:Srv) (t:List UInt8):Srv×Rpl:=if Z5 t≠0 then (s,B5Q (Z5 t)) else (⟨t,true⟩,C8X (A4l s.text t))
def C6V (its:List Itm) (at_:Int) (i:Nat):Option Nat:=if (A0o its i).at_<=at_/\at_<(A0o its i).at_+(A0o its i).size then (A3c its i (at_-(A0o its i).at_)).hv else none
def A81 (its:List Itm) (at_:Int) (k:Nat):Option Nat:=(List.range k).findSome? (C6V its at_)
def C28 (its:List Itm) (at_:Int):Rpl:=match A81 its at_ its.length with
 |some n=> { A9d with label:=n}
 |none=>B5Q 6
theorem B8P {its:List Itm}{at_:Int}{k:Nat} (h:A81 its at_ k=none):A81 its at_ (k+1)=C6V its at_ k:=by
 rw[A81,A1O,List.findSome?_append, <-A81,h];simp
theorem B8Q {its:List Itm}{at_:Int}{k n:Nat}{m:Nat} (hk:k<=m) (h:A81 its at_ k=some n):A81 its at_ m=some n:=by
 obtain⟨d,rfl⟩:∃d,m=k+d:=⟨m-k,by omega⟩;rw[A81,List.range_add,List.findSome?_append, <-A81,h];rfl
open Classical in
noncomputable def C3k (its:List Itm):List Itm:=if h:∃r,B1d its r then Classical.choose h else []
theorem C3l {its r:List Itm} (h:B1d its r):C3k its=r:=by
 have h1:∃r,B1d its r:=⟨r,h⟩;rw[C3k,dif_pos h1];exact B4D (Classical.choose_spec h1) h
def A8L (its:List Itm):Bool:=its.any (fun it=> !it.diags.isEmpty)
noncomputable def C3j (its:List Itm):Rpl:=if A8L its=true then B5Q 13 else { A9d with text:=A24 (C3k its)}
def C7o (its:List Itm) (nm:List UInt8) (args:List Int):Rpl:=if (B5R its nm args).err≠0 then B5Q (B5R its nm args).err else { A9d with ran:=B5R its nm args}
def B5d (s:Srv) (q:Qn):Srv×Rpl:=
 if q.kind=2 then (if A6W s.text q.fr q.to q.text≠0 then (s,B5Q (A6W s.text q.fr q.to q.text)) else B32 s (B2V s.text q.fr q.to q.text))
 else if (toR s.text q.fr q.text).2≠0 then (s,B5Q (toR s.text q.fr q.text).2) else B32 s (toR s.text q.fr q.text).1
noncomputable def C4Q (t:List UInt8) (q:Qn):Rpl:=
 if q.kind=3 then { A9d with dgs:=A5k (J7 t)}
 else if q.kind=4 then C28 (J7 t) q.fr
 else if q.kind=5 then (match B6N (J7 t) q.fr with|some a=> { A9d with fr:=a}|none=>B5Q 6)
 else if q.kind=7 then C3j (J7 t)
 else if q.kind=8 then C7o (J7 t) q.text q.args
 else { A9d with text:=t}
noncomputable def A8K (s:Srv) (q:Qn):Srv×Rpl:=
 if q.kind<1\/9<q.kind then (s,B5Q 1)
 else if q.kind=1 then B32 s q.text
 else if s.op=false then (s,B5Q 6)
 else if q.kind=2\/q.kind=6 then B5d s q
 else (s,C4Q s.text q)
noncomputable def stQ (s:Srv) (l:List Qn):Srv:=l.foldl (fun s q=>(A8K s q).1) s
noncomputable def rpQ:Srv->List Qn->List Rpl
 |_,[]=> []
 |s,q::l=> { (A8K s q).2 with id:=q.id}::rpQ (A8K s q).1 l
def A2g:Srv:=⟨[],false⟩
structure OkQ (s:Srv):Prop where
 err:Z5 s.text=0
 shut:s.op=false->s.text= []
theorem C3E:OkQ A2g:=⟨by decide+kernel,fun _=>rfl⟩
theorem B5Y {s:Srv} (h:OkQ s) (t:List UInt8):OkQ (B32 s t).1:=by
 rw[B32];split
 ·exact h
 ·rename_i h1
  exact⟨by simpa using h1,fun h2=>by cases h2⟩
theorem C4V {s:Srv} (h:OkQ s) (q:Qn):OkQ (B5d s q).1:=by
 rw[B5d];split
 ·split
  ·exact h
  ·exact B5Y h _
 ·split
  ·exact h
  ·exact B5Y h _
theorem C4N {s:Srv} (h:OkQ s) (q:Qn):OkQ (A8K s q).1:=by
 rw[A8K];split
 ·exact h
 ·split
  ·exact B5Y h _
  ·split
   ·exact h
   ·split
    ·exact C4V h q
    ·exact h
theorem B51:∀(l:List Qn) {s:Srv},OkQ s->OkQ (stQ s l)
 | [],_,h=>h
 |q::l,s,h=>by rw[stQ,A1f];exact B51 l (C4N h q)
theorem C5U (s:Srv) (l r:List Qn):stQ s (l++r)=stQ (stQ s l) r:=by rw[stQ,A5t];rfl
theorem B2z:∀(s:Srv) (l r:List Qn),rpQ s (l++r)=rpQ s l++rpQ (stQ s l) r
 |_,[],_=>rfl
 |s,q::l,r=>by rw[Y0,rpQ,rpQ,B2z,Y0];rfl
theorem A9z:∀(s:Srv) (l:List Qn),(rpQ s l).length=l.length
 |_,[]=>rfl
 |s,q::l=>by rw[rpQ,F8,A9z,F8]
noncomputable def A7w (s:Srv) (q:Qn):Rpl:= { (A8K s q).2 with id:=q.id}
theorem C4e (s:Srv) {l:List Qn}{k:Nat}{q:Qn} (h:l[k]?=some q):stQ s (l.take (k+1))=(A8K (stQ s (l.take k)) q).1:=by
 rw[Q8 h,C5U];rfl
theorem C31 (s:Srv) {l:List Qn}{k:Nat}{q:Qn} (h:l[k]?=some q):rpQ s (l.take (k+1))=rpQ s (l.take k)++ [A7w (stQ s (l.take k)) q]:=by
 rw[Q8 h,B2z];rfl
def A8A:Qn:=⟨0,9,0,0,[],[]⟩
theorem C5M (s:Srv) (q:Qn) (h:q.kind=9):A7w s q=if s.op=true then { A9d with id:=q.id,text:=s.text} else { A9d with id:=q.id,err:=6}:=by
 rw[A7w,A8K,if_neg (by omega),if_neg (by omega)];cases hb:s.op
 ·rfl
 ·rw[if_neg (by decide),if_neg (by omega),C4Q,if_neg (by omega),if_neg (by omega),if_neg (by omega),if_neg (by omega),if_neg (by omega)];rfl
theorem C5t {s:Srv} (h:OkQ s) (hb:s.op=true) (q:Qn) (hq:q.kind=1) (ht:q.text=s.text):(A8K A2g q).1=s:=by
 rw[A8K,if_neg (by omega),if_pos hq,B32,ht,if_neg (by have:=h.err;omega)];obtain⟨t,b⟩:=s;dsimp only at hb |-;rw[hb]
theorem C56 (s:List UInt8) (at_:Int) (nm:List UInt8) (h:(toR s at_ nm).2=0):Z5 (toR s at_ nm).1=0:=by
 rw[toR]at h |-;split
 ·rename_i h1;rw[if_pos h1]at h;exact absurd h h1
 ·rename_i h1
  rw[if_neg h1]at h;split
  ·rename_i h2;rw[if_pos h2]at h;cases h
  ·rename_i h2
   rw[if_neg h2]at h;split
   ·rename_i h3;rw[h3]at h;cases h
   ·rename_i df h3
    rw[h3]at h;dsimp only at h |-;split
    ·rename_i h4;rw[if_pos h4]at h;cases h
    ·rename_i h4
     rw[if_neg h4]at h;split
     ·rename_i h5;rw[if_pos h5]at h;exact absurd h h5
     ·rename_i h5
      rw[if_neg h5]at h;split
      ·rename_i h6;rw[if_pos h6]at h;cases h
      ·rename_i h6
       rw[if_neg h6]at h;split
       ·rename_i h7;rw[if_pos h7]at h;cases h
       ·simpa using h5
theorem B95 {t:List UInt8} (h:Z5 t=0):t.length<=4000:=by
 rw[Z5]at h;split at h
 ·cases h
 ·omega
theorem B5A {s:Srv} (h:OkQ s):s.text.length<=4000:=B95 h.err
theorem A9R {F:UInt8->Bool}:∀ {l:List UInt8}{c:UInt8},c∈l.takeWhile F->F c=true
 | [],_,h=>by simp at h
 |a::l,c,h=>by
  rw[A5r]at h;split at h
  ·rename_i ha
   rcases V8.1 h with rfl|h
   ·exact ha
   ·exact A9R h
  ·simp at h
theorem C0F (F:UInt8->Bool):∀r:List UInt8,r.take (r.takeWhile F).length=r.takeWhile F
 | []=>rfl
 |a::r=>by
  rw[A5r];split
  ·rw[F8,A1l,C0F F r]
  ·rfl
theorem B9N {s:List UInt8}{t:Tok} (h:TokOk s t) (hk:t.kind=2):∀c∈t.text,48<=c.toNat/\c.toNat<=57:=by
 have h1:=h.one.1;have h2:=h.one.2;have h3:=h.text;rw[hk]at h1;rw[h2]at h3;intro c hc;rw[h3]at hc;generalize s.drop t.pos=r at h1 hc;cases r with
 |nil=>simp[one]at h1
 |cons a r=>
  simp only[one]at h1 hc;split at h1
  ·simp at h1
  ·split at h1
   ·simp at h1
   ·split at h1
    ·simp at h1
    ·split at h1
     ·rename_i n1 n2 n3 n4
      rw[if_neg n1,if_neg n2,if_neg n3,if_pos n4]at hc;have e:(run A4Z r)=1+(r.takeWhile A4Z).length:=rfl;rw[e,A3M,A1l,C0F]at hc;have:A4Z c=true:=by
       rcases V8.1 hc with rfl|hc
       ·exact n4
       ·exact A9R hc
      simpa[A4Z] using this
     ·split at h1<;>simp at h1
end Go.Sp
namespace Go.Proofs
open Go.Proofs.Tryz
open Go.Sp
open Go.Fw
abbrev C2G (v:Int):List Value:= [.int .i64 v]
abbrev B6B (i k f t:Int) (s:List UInt8) (a:Option Addr) (n c:Nat):List Value:= [.int .i64 i,.int .i64 k,.int .i64 f,.int .i64 t,str s,.slice a n c]
def A7g (I:P6) (q:Sp.Qn) (c:List Value):Prop:= ∃a cp,c=B6B q.id q.kind q.fr q.to q.text a q.args.length cp/\RowI I 3 1 (.slice a q.args.length cp) q.args.length (q.args.flatMap C2G)
theorem A7g.le {I I':P6}{q:Sp.Qn}{c:List Value} (h:A7g I q c) (m:Le I I'):A7g I' q c:=by
 obtain⟨a,cp,h1,h2⟩:=h;exact⟨a,cp,h1,h2.le m⟩
theorem A7g.len {I:P6}{q:Sp.Qn}{c:List Value} (h:A7g I q c):c.length=6:=by
 obtain⟨a,cp,rfl,_⟩:=h;rfl
def A1d (I:P6):List Sp.Qn->List Value->Prop
 | [],xs=>xs= []
 |q::qs,xs=> ∃c r,xs=c++r/\A7g I q c/\A1d I qs r
theorem A1d.le {I I':P6} (m:Le I I'):∀ {qs:List Sp.Qn}{xs:List Value},A1d I qs xs->A1d I' qs xs
 | [],_,h=>h
 |_::_,_,⟨c,r,e,h1,h2⟩=>⟨c,r,e,h1.le m,A1d.le m h2⟩
theorem A1d.snoc {I:P6}{q:Sp.Qn}{c:List Value} (hq:A7g I q c):∀ {qs:List Sp.Qn}{xs:List Value},A1d I qs xs->A1d I (qs++ [q]) (xs++c)
 | [],xs,h=>by
  obtain rfl:xs= []:=h;exact⟨c,[],by simp,hq,rfl⟩
 |_::_,_,⟨c',r,e,h1,h2⟩=>⟨c',r++c,by rw[e,O3],h1,A1d.snoc hq h2⟩
theorem A1d.len {I:P6}:∀ {qs:List Sp.Qn}{xs:List Value},A1d I qs xs->xs.length=qs.length *6
 | [],xs,h=>by
  obtain rfl:xs= []:=h
  rfl
 |q::qs,_,⟨c,r,e,h1,h2⟩=>by
  rw[e,E9,h1.len,h2.len,F8];omega
theorem A1d.get {I:P6}:∀ {qs:List Sp.Qn}{xs:List Value}{i:Nat}{q:Sp.Qn},A1d I qs xs->qs[i]?=some q->A7g I q ((xs.drop (i *6)).take 6)
 | [],_,_,_,_,h=>by simp at h
 |q::qs,_,0,q',⟨c,r,e,h1,h2⟩,h=>by
  simp only[A0A,U3]at h;subst h;rw[e,A1n,A2o,A11 (by rw[h1.len];omega),A0u (by rw[h1.len];omega)];exact h1
 |q::qs,_,i+1,q',⟨c,r,e,h1,h2⟩,h=>by
  rw[A0E]at h;have:=A1d.get h2 h;rw[e,A5x,List.drop_eq_nil_of_le (by rw[h1.len];omega),P5,h1.len,show (i+1) *6-6=i *6 by omega];exact this
end Go.Proofs
namespace Go.Proofs
open Go.Proofs.Tryz
open Go.Sp
open Go Go.Fw
instance :Mixed prog:=⟨by kernel_rfl⟩
instance :TyInt prog 3 .i64:=⟨by kernel_rfl⟩
instance :TyOne prog 3:=.of
instance :Elem prog 3 1 8:=.of
instance :TyOne prog 4:=.of
instance :Elem prog 4 1 1:=.of
instance :TyInt prog 5 .u8:=⟨by kernel_rfl⟩
instance :Elem prog 5 1 1:=.of
instance :TyStr prog 9:=⟨by kernel_rfl⟩
instance :TyOne prog 9:=.of
instance :Elem prog 9 1 16:=.of
instance :TySlice prog 23 43:=⟨by kernel_rfl⟩
instance :TyOne prog 23:=.of
instance :Elem prog 23 1 24:=.of
instance :TyAgg prog 25 1:=.of
instance :Elem prog 25 1 24:=.of
instance :StructT prog 25 [(0,1)] [.slice none 0 0]:=.of
instance :Fld prog 25 0 0:=.of
instance :TyOne prog 29:=.of
instance :Elem prog 29 1 8:=.of
instance :TySlice prog 35 3:=⟨by kernel_rfl⟩
instance :TyOne prog 35:=.of
instance :Elem prog 35 1 24:=.of
instance :TySlice prog 36 85:=⟨by kernel_rfl⟩
instance :TyOne prog 36:=.of
instance :Elem prog 36 1 24:=.of
instance :TySlice prog 39 103:=⟨by kernel_rfl⟩
instance :TyOne prog 39:=.of
instance :Elem prog 39 1 24:=.of
instance :TySlice prog 40 106:=⟨by kernel_rfl⟩
instance :TyOne prog 40:=.of
instance :Elem prog 40 1 24:=.of
instance :TySlice prog 41 111:=⟨by kernel_rfl⟩
instance :TyOne prog 41:=.of
instance :Elem prog 41 1 24:=.of
instance :TyAgg prog 43 10:=.of
instance :Elem prog 43 10 152:=.of
instance :StructT prog 43 [(0,1),(1,1),(2,1),(3,1),(4,1),(5,1),(6,1),(7,1),(8,1),(9,1)] [.int .i64 0,str [],.int .i64 0,.slice none 0 0,.slice none 0 0,.slice none 0 0,.int .i64 0,.int .i64 0,.int .i64 0,.slice none 0 0]:=.of
instance :Fld prog 43 0 0:=.of
instance :Fld prog 43 1 1:=.of
instance :Fld prog 43 2 2:=.of
instance :Fld prog 43 3 3:=.of
instance :Fld prog 43 4 4:=.of
instance :Fld prog 43 5 5:=.of
instance :Fld prog 43 6 6:=.of
instance :Fld prog 43 7 7:=.of
instance :Fld prog 43 8 8:=.of
instance :Fld prog 43 9 9:=.of
instance :TySlice prog 55 58:=⟨by kernel_rfl⟩
instance :TyOne prog 55:=.of
instance :Elem prog 55 1 24:=.of
instance :TyAgg prog 58 3:=.of
instance :Elem prog 58 3 24:=.of
instance :StructT prog 58 [(0,1),(1,1),(2,1)] [.int .i64 0,.int .i64 0,.int .i64 0]:=.of
instance :Fld prog 58 0 0:=.of
instance :Fld prog 58 1 1:=.of
instance :Fld prog 58 2 2:=.of
instance :TySlice prog 59 62:=⟨by kernel_rfl⟩
instance :TyOne prog 59:=.of
instance :TyAgg prog 62 3:=.of
instance :Elem prog 62 3 32:=.of
instance :StructT prog 62 [(0,1),(1,1),(2,1)] [.int .i64 0,str [],.int .i64 0]:=.of
instance :Fld prog 62 0 0:=.of
instance :Fld prog 62 1 1:=.of
instance :Fld prog 62 2 2:=.of
instance :TySlice prog 65 186:=⟨by kernel_rfl⟩
instance :TyOne prog 65:=.of
instance :Elem prog 65 1 24:=.of
instance :TyAgg prog 67 4:=.of
instance :Elem prog 67 4 48:=.of
instance :StructT prog 67 [(0,1),(1,1),(2,1),(3,1)] [.slice none 0 0,.int .i64 0,.int .i64 0,.int .i64 0]:=.of
instance :Fld prog 67 0 0:=.of
instance :Fld prog 67 1 1:=.of
instance :Fld prog 67 2 2:=.of
instance :Fld prog 67 3 3:=.of
instance :TySlice prog 70 72:=⟨by kernel_rfl⟩
instance :TyAgg prog 72 6:=.of
instance :Elem prog 72 6 72:=.of
instance :StructT prog 72 [(0,1),(1,1),(2,1),(3,1),(4,1),(5,1)] [.int .i64 0,.int .i64 0,.int .i64 0,.int .i64 0,str [],.slice none 0 0]:=.of
instance :Fld prog 72 0 0:=.of
instance :Fld prog 72 1 1:=.of
instance :Fld prog 72 2 2:=.of
instance :Fld prog 72 3 3:=.of
instance :Fld prog 72 4 4:=.of
instance :Fld prog 72 5 5:=.of
instance :TySlice prog 75 80:=⟨by kernel_rfl⟩
instance :TyAgg prog 80 11:=.of
instance :Elem prog 80 11 128:=.of
instance :StructT prog 80 [(0,1),(1,1),(2,1),(3,1),(4,1),(5,1),(6,4),(10,1)] [.int .i64 0,.int .i64 0,.slice none 0 0,.int .i64 0,.int .i64 0,str [],.slice none 0 0,.int .i64 0,.int .i64 0,.int .i64 0,.int .i64 0]:=.of
instance :Fld prog 80 0 0:=.of
instance :Fld prog 80 1 1:=.of
instance :Fld prog 80 2 2:=.of
instance :Fld prog 80 3 3:=.of
instance :Fld prog 80 4 4:=.of
instance :Fld prog 80 5 5:=.of
instance :Fld prog 80 6 6:=.of
instance :Fld prog 80 7 10:=.of
instance :TyAgg prog 85 4:=.of
instance :Elem prog 85 4 40:=.of
instance :StructT prog 85 [(0,1),(1,1),(2,1),(3,1)] [.int .i64 0,.int .i64 0,.int .i64 0,str []]:=.of
instance :FlatT prog 85 [.int .i64,.int .i64,.int .i64,.str]:=.of
instance :Fld prog 85 0 0:=.of
instance :Fld prog 85 1 1:=.of
instance :TyOne prog 88:=.of
instance :Elem prog 88 1 8:=.of
instance :TySlice prog 89 5:=⟨by kernel_rfl⟩
instance :TyOne prog 89:=.of
instance :Elem prog 89 1 24:=.of
instance :Fld prog 91 0 0:=.of
instance :Fld prog 91 1 1:=.of
instance :StructT prog 93 [(0,2)] [.pointer none,.slice none 0 0]:=.of
instance :Fld prog 93 0 0:=.of
instance :TyOne prog 95:=.of
instance :TyAgg prog 103 3:=.of
instance :Elem prog 103 3 32:=.of
instance :StructT prog 103 [(0,1),(1,1),(2,1)] [str [],.int .i64 0,.int .i64 0]:=.of
instance :Fld prog 103 0 0:=.of
instance :Fld prog 103 1 1:=.of
instance :Fld prog 103 2 2:=.of
instance :TyAgg prog 106 2:=.of
instance :Elem prog 106 2 24:=.of
instance :StructT prog 106 [(0,1),(1,1)] [str [],.int .i64 0]:=.of
instance :Fld prog 106 0 0:=.of
instance :Fld prog 106 1 1:=.of
instance :TySlice prog 107 109:=⟨by kernel_rfl⟩
instance :TyOne prog 107:=.of
instance :Elem prog 107 1 24:=.of
instance :TyAgg prog 109 6:=.of
instance :Elem prog 109 6 72:=.of
instance :StructT prog 109 [(0,1),(1,1),(2,1),(3,1),(4,1),(5,1)] [.int .i64 0,str [],.int .i64 0,.slice none 0 0,.int .i64 0,.int .i64 0]:=.of
instance :Fld prog 109 0 0:=.of
instance :Fld prog 109 1 1:=.of
instance :Fld prog 109 2 2:=.of
instance :Fld prog 109 3 3:=.of
instance :Fld prog 109 4 4:=.of
instance :Fld prog 109 5 5:=.of
instance :TyAgg prog 111 15:=.of
instance :Elem prog 111 15 184:=.of
instance :StructT prog 111 [(0,1),(1,1),(2,1),(3,1),(4,1),(5,6),(11,1),(12,1),(13,1),(14,1)] [.int .i64 0,str [],.int .i64 0,.int .i64 0,.bool false,.int .i64 0,str [],.int .i64 0,.slice none 0 0,.int .i64 0,.int .i64 0,.slice none 0 0,.slice none 0 0,.int .i64 0,.int .i64 0]:=.of
instance :Fld prog 111 0 0:=.of
instance :Fld prog 111 1 1:=.of
instance :Fld prog 111 2 2:=.of
instance :Fld prog 111 3 3:=.of
instance :Fld prog 111 4 4:=.of
instance :Fld prog 111 5 5:=.of
instance :Fld prog 111 6 11:=.of
instance :Fld prog 111 7 12:=.of
instance :Fld prog 111 8 13:=.of
instance :Fld prog 111 9 14:=.of
instance :TyOne prog 115:=.of
instance :TyOne prog 116:=.of
instance :TySlice prog 117 122:=⟨by kernel_rfl⟩
instance :TyOne prog 117:=.of
instance :Elem prog 117 1 24:=.of
instance :StructT prog 119 [(0,1),(1,1),(2,1),(3,1)] [.pointer none,.slice none 0 0,.map none,.bool false]:=.of
instance :Fld prog 119 0 0:=.of
instance :Fld prog 119 1 1:=.of
instance :Fld prog 119 2 2:=.of
instance :Fld prog 119 3 3:=.of
instance :TyOne prog 120:=.of
instance :TyAgg prog 122 3:=.of
instance :Elem prog 122 3 32:=.of
instance :StructT prog 122 [(0,1),(1,1),(2,1)] [str [],.int .i64 0,.pointer none]:=.of
instance :Fld prog 122 0 0:=.of
instance :Fld prog 122 1 1:=.of
instance :Fld prog 122 2 2:=.of
instance :TySlice prog 125 128:=⟨by kernel_rfl⟩
instance :TyAgg prog 128 2:=.of
instance :Elem prog 128 2 24:=.of
instance :StructT prog 128 [(0,1),(1,1)] [str [],.int .i64 0]:=.of
instance :Fld prog 128 0 0:=.of
instance :Fld prog 128 1 1:=.of
instance :TySlice prog 133 252:=⟨by kernel_rfl⟩
instance :TyOne prog 133:=.of
instance :Elem prog 133 1 24:=.of
instance :StructT prog 135 [(0,1),(1,1),(2,1),(3,1),(4,1)] [.pointer none,.pointer none,.slice none 0 0,.slice none 0 0,.slice none 0 0]:=.of
instance :Fld prog 135 0 0:=.of
instance :Fld prog 135 1 1:=.of
instance :Fld prog 135 2 2:=.of
instance :Fld prog 135 3 3:=.of
instance :Fld prog 135 4 4:=.of
instance :TyOne prog 141:=.of
instance :StructT prog 143 [(0,1),(1,1),(2,1),(3,1),(4,1)] [.pointer none,.slice none 0 0,.int .i64 0,.int .i64 0,.int .i64 0]:=.of
instance :Fld prog 143 0 0:=.of
instance :Fld prog 143 1 1:=.of
instance :Fld prog 143 2 2:=.of
instance :Fld prog 143 3 3:=.of
instance :Fld prog 143 4 4:=.of
instance :StructT prog 147 [(0,1),(1,1),(2,1)] [str [],.slice none 0 0,.bool false]:=.of
instance :Fld prog 147 0 0:=.of
instance :Fld prog 147 1 1:=.of
instance :Fld prog 147 2 2:=.of
instance :TySlice prog 165 36:=⟨by kernel_rfl⟩
instance :TySlice prog 166 213:=⟨by kernel_rfl⟩
instance :TyOne prog 166:=.of
instance :Elem prog 166 1 24:=.of
instance :StructT prog 168 [(0,1),(1,1),(2,1),(3,1),(4,1),(5,1),(6,1),(7,1)] [.pointer none,.pointer none,.slice none 0 0,.slice none 0 0,.slice none 0 0,.int .i64 0,.bool false,.int .i64 0]:=.of
instance :Fld prog 168 0 0:=.of
instance :Fld prog 168 1 1:=.of
instance :Fld prog 168 2 2:=.of
instance :Fld prog 168 3 3:=.of
instance :Fld prog 168 4 4:=.of
instance :Fld prog 168 5 5:=.of
instance :Fld prog 168 6 6:=.of
instance :Fld prog 168 7 7:=.of
instance :TySlice prog 178 9:=⟨by kernel_rfl⟩
instance :TyOne prog 178:=.of
instance :Elem prog 178 1 24:=.of
instance :TyAgg prog 186 2:=.of
instance :Elem prog 186 2 24:=.of
instance :StructT prog 186 [(0,1),(1,1)] [str [],.int .i64 0]:=.of
instance :FlatT prog 186 [.str,.int .i64]:=.of
instance :TySlice prog 190 194:=⟨by kernel_rfl⟩
instance :TyOne prog 190:=.of
instance :Elem prog 190 1 24:=.of
instance :StructT prog 192 [(0,1),(1,1),(2,1)] [.pointer none,.slice none 0 0,.int .i64 0]:=.of
instance :Fld prog 192 0 0:=.of
instance :Fld prog 192 1 1:=.of
instance :Fld prog 192 2 2:=.of
instance :Elem prog 194 2 24:=.of
instance :StructT prog 194 [(0,1),(1,1)] [str [],.int .i64 0]:=.of
instance :Fld prog 194 0 0:=.of
instance :Fld prog 194 1 1:=.of
instance :TyOne prog 201:=.of
instance :StructT prog 203 [(0,1),(1,1),(2,1),(3,1),(4,1)] [.slice none 0 0,.int .i64 0,.int .i64 0,.slice none 0 0,.int .i64 0]:=.of
instance :Fld prog 203 0 0:=.of
instance :Fld prog 203 1 1:=.of
instance :Fld prog 203 2 2:=.of
instance :Fld prog 203 3 3:=.of
instance :Fld prog 203 4 4:=.of
instance :TySlice prog 207 178:=⟨by kernel_rfl⟩
instance :Elem prog 213 2 24:=.of
instance :StructT prog 213 [(0,1),(1,1)] [str [],.int .i64 0]:=.of
instance :Fld prog 213 0 0:=.of
instance :Fld prog 213 1 1:=.of
instance :StructT prog 222 [(0,1),(1,1),(2,1)] [.int .i64 0,.int .i64 0,str []]:=.of
instance :Fld prog 222 0 0:=.of
instance :Fld prog 222 1 1:=.of
instance :Fld prog 222 2 2:=.of
instance :TySlice prog 235 35:=⟨by kernel_rfl⟩
instance :TyAgg prog 252 2:=.of
instance :Elem prog 252 2 24:=.of
instance :StructT prog 252 [(0,1),(1,1)] [str [],.int .i64 0]:=.of
instance :Fld prog 252 0 0:=.of
instance :Fld prog 252 1 1:=.of
instance :StructT prog 267 [(0,1),(1,1)] [.slice none 0 0,.slice none 0 0]:=.of
instance :Fld prog 267 0 0:=.of
instance :Fld prog 267 1 1:=.of
instance :Own prog 11:=.of
instance :Own prog 12:=.of
instance :Own prog 16:=.of
instance :Own prog 20:=.of
instance :Own prog 22:=.of
instance :Own prog 24:=.of
instance :Own prog 25:=.of
instance :Own prog 27:=.of
instance :Own prog 29:=.of
instance :Own prog 30:=.of
instance :Own prog 31:=.of
instance :Own prog 32:=.of
instance :Own prog 33:=.of
instance :Own prog 34:=.of
instance :Own prog 38:=.of
instance :Own prog 39:=.of
instance :Own prog 40:=.of
instance :Own prog 43:=.of
instance :Own prog 44:=.of
instance :Own prog 45:=.of
instance :Own prog 46:=.of
instance :Own prog 47:=.of
instance :Own prog 48:=.of
instance :Own prog 49:=.of
instance :Own prog 50:=.of
instance :Own prog 51:=.of
instance :Own prog 52:=.of
instance :Own prog 53:=.of
instance :Own prog 54:=.of
instance :Own prog 55:=.of
instance :Own prog 56:=.of
instance :Own prog 60:=.of
instance :Own prog 61:=.of
instance :Own prog 62:=.of
instance :Own prog 63:=.of
instance :Own prog 64:=.of
instance :Own prog 66:=.of
instance :Own prog 67:=.of
instance :Own prog 68:=.of
instance :Own prog 69:=.of
instance :Own prog 70:=.of
instance :Own prog 71:=.of
instance :Own prog 74:=.of
instance :Own prog 75:=.of
instance :Own prog 76:=.of
instance :Own prog 77:=.of
instance :Own prog 78:=.of
instance :Own prog 79:=.of
instance :Own prog 80:=.of
instance :Own prog 81:=.of
instance :Own prog 82:=.of
instance :Own prog 83:=.of
instance :Own prog 84:=.of
instance :Own prog 85:=.of
instance :Own prog 86:=.of
instance :Own prog 87:=.of
instance :Own prog 88:=.of
instance :Own prog 89:=.of
instance :Own prog 90:=.of
instance :Own prog 91:=.of
instance :Own prog 92:=.of
instance :Own prog 93:=.of
instance :Own prog 94:=.of
instance :Own prog 95:=.of
instance :Own prog 96:=.of
instance :Own prog 97:=.of
instance :Own prog 98:=.of
instance :Own prog 99:=.of
instance :Own prog 100:=.of
instance :Own prog 101:=.of
instance :Own prog 102:=.of
instance :Own prog 103:=.of
instance :Own prog 104:=.of
instance :Own prog 105:=.of
instance :Own prog 106:=.of
instance :Own prog 107:=.of
instance :Own prog 108:=.of
instance :Own prog 110:=.of
instance :Own prog 111:=.of
instance :Own prog 112:=.of
instance :Own prog 113:=.of
instance :Own prog 114:=.of
instance :Own prog 115:=.of
instance :Own prog 116:=.of
instance :Own prog 117:=.of
instance :Own prog 120:=.of
instance :Own prog 121:=.of
instance :Own prog 122:=.of
instance :Own prog 123:=.of
instance :Own prog 124:=.of
instance :Own prog 125:=.of
instance :Own prog 126:=.of
instance :Own prog 129:=.of
instance :Own prog 133:=.of
instance :Own prog 134:=.of
instance :Own prog 135:=.of
instance :Own prog 136:=.of
instance :Own prog 137:=.of
instance :Own prog 138:=.of
instance :Own prog 139:=.of
instance :Own prog 140:=.of
instance :Own prog 141:=.of
instance :Own prog 153:=.of
instance :Own prog 154:=.of
instance :Own prog 155:=.of
instance :Own prog 156:=.of
instance :Own prog 157:=.of
instance :Own prog 158:=.of
instance :Own prog 160:=.of
instance :Own prog 161:=.of
instance :Own prog 162:=.of
instance :Own prog 166:=.of
instance :Own prog 167:=.of
instance :Own prog 168:=.of
instance :Own prog 169:=.of
instance :Own prog 170:=.of
instance :Own prog 171:=.of
instance :Own prog 172:=.of
instance :Own prog 173:=.of
instance :Own prog 174:=.of
instance :Own prog 175:=.of
instance :Own prog 176:=.of
instance :Own prog 177:=.of
instance :Own prog 178:=.of
instance :Own prog 179:=.of
instance :Own prog 186:=.of
instance :Own prog 187:=.of
instance :Own prog 188:=.of
instance :Own prog 191:=.of
instance :Own prog 192:=.of
instance :Own prog 193:=.of
instance :Own prog 198:=.of
instance :Own prog 199:=.of
instance :Own prog 202:=.of
instance :Own prog 203:=.of
instance :Own prog 210:=.of
instance :Own prog 211:=.of
instance :Own prog 212:=.of
end Go.Proofs
namespace Go.Proofs
open Go.Proofs.Tryz
open Go.Sp
open Go.Fw
abbrev ptr (b:Nat):Value:=.pointer (some ⟨b,0,none⟩)
abbrev nt (n:Nat):Value:=.int .i64 (n:Int)
mutual
def A67 (I:P6):Sp.Ex->List Value->Prop
 | .mk k nm n args f t,cs=> ∃a cap xs,cs= [nt k,str nm,nt n,.slice a args.length cap,nt f,nt t]/\RowI I 109 6 (.slice a args.length cap) args.length xs/\Y7 I args xs
def Y7 (I:P6):List Sp.Ex->List Value->Prop
 | [],xs=>xs= []
 |e::es,xs=> ∃c r,xs=c++r/\A67 I e c/\Y7 I es r
 end
mutual
theorem A67.le {I I':P6} (m:Le I I'):∀(e:Sp.Ex) (cs:List Value),A67 I e cs->A67 I' e cs
 | .mk k nm n args f t,cs,h=>by
  rw[A67]at h |-;obtain⟨a,cap,xs,h1,h2,h3⟩:=h;exact⟨a,cap,xs,h1,h2.le m,Y7.le m _ _ h3⟩
theorem Y7.le {I I':P6} (m:Le I I'):∀(es:List Sp.Ex) (xs:List Value),Y7 I es xs->Y7 I' es xs
 | [],xs,h=>by rw[Y7]at h |-;exact h
 |e::es,xs,h=>by
  rw[Y7]at h |-;obtain⟨c,r,h1,h2,h3⟩:=h;exact⟨c,r,h1,A67.le m _ _ h2,Y7.le m _ _ h3⟩
 end
theorem A67.out {I:P6}{e:Sp.Ex}{cs:List Value} (h:A67 I e cs):
  ∃a cap xs,cs= [nt e.kind,str e.name,nt e.n,.slice a e.args.length cap,nt e.fr,nt e.to]/\RowI I 109 6 (.slice a e.args.length cap) e.args.length xs/\Y7 I e.args xs:=by
 cases e with
 |mk k nm n args f t=>rw[A67]at h;exact h
theorem A67.of {I:P6}{k n f t cap:Nat}{nm:List UInt8}{a:Option Addr}{args:List Sp.Ex}{xs:List Value} (h2:RowI I 109 6 (.slice a args.length cap) args.length xs) (h3:Y7 I args xs):
  A67 I (.mk k nm n args f t) [nt k,str nm,nt n,.slice a args.length cap,nt f,nt t]:=by
 rw[A67];exact⟨a,cap,xs,rfl,h2,h3⟩
theorem A67.len {I:P6}{e:Sp.Ex}{cs:List Value} (h:A67 I e cs):cs.length=6:=by
 obtain⟨_,_,_,rfl,_⟩:=h.out;rfl
theorem Y7.nil {I:P6}:Y7 I [] []:=by rw[Y7]
theorem Y7.snoc {I:P6}:∀ {es:List Sp.Ex}{xs c:List Value}{e:Sp.Ex},Y7 I es xs->A67 I e c->Y7 I (es++ [e]) (xs++c)
 | [],xs,c,e,h,he=>by
  rw[Y7]at h;subst h;rw[P5,P5,Y7];exact⟨c,[],by simp,he,by rw[Y7]⟩
 |a::es,xs,c,e,h,he=>by
  rw[Y7]at h;obtain⟨c1,r,rfl,h2,h3⟩:=h;rw[Y0,Y7];exact⟨c1,r++c,by rw[O3],h2,h3.snoc he⟩
theorem Y7.get {I:P6}:∀ {es:List Sp.Ex}{xs:List Value}{i:Nat}{e:Sp.Ex},Y7 I es xs->es[i]?=some e->A67 I e ((xs.drop (i *6)).take 6)
 | [],_,_,_,_,he=>by simp at he
 |a::es,xs,0,e,h,he=>by
  rw[Y7]at h;obtain⟨c,r,rfl,h2,h3⟩:=h;simp only[A0A,U3]at he;subst he;rw[A1n,A2o,A11 (by rw[h2.len];omega),A0u (by rw[h2.len];omega)];exact h2
 |a::es,xs,i+1,e,h,he=>by
  rw[Y7]at h;obtain⟨c,r,rfl,h2,h3⟩:=h;rw[A0E]at he;have:=h3.get he;rw[A5x,A4A (by rw[h2.len];omega),P5,h2.len,show (i+1) *6-6=i *6 by omega];exact this
abbrev A2K (k:Nat) (nm:List UInt8) (a lb:Nat) (o:Bool) (e:Sp.Ex) (ea:Option Addr) (ec:Nat) (v1 v2:Value) (f t:Nat):List Value:=
 [nt k,str nm,nt a,nt lb,.bool o,nt e.kind,str e.name,nt e.n,.slice ea e.args.length ec,nt e.fr,nt e.to,v1,v2,nt f,nt t]
mutual
def A5j (I:P6):Sp.Stm->List Value->Prop
 | .mk k nm a lb o e thn els f t,cs=> ∃ea ec ex a1 c1 xs1 a2 c2 xs2,cs=A2K k nm a lb o e ea ec (.slice a1 thn.length c1) (.slice a2 els.length c2) f t/\
  RowI I 109 6 (.slice ea e.args.length ec) e.args.length ex/\Y7 I e.args ex/\
  RowI I 111 15 (.slice a1 thn.length c1) thn.length xs1/\X6 I thn xs1/\RowI I 111 15 (.slice a2 els.length c2) els.length xs2/\X6 I els xs2
def X6 (I:P6):List Sp.Stm->List Value->Prop
 | [],xs=>xs= []
 |e::es,xs=> ∃c r,xs=c++r/\A5j I e c/\X6 I es r
 end
mutual
theorem A5j.le {I I':P6} (m:Le I I'):∀(e:Sp.Stm) (cs:List Value),A5j I e cs->A5j I' e cs
 | .mk k nm a lb o e thn els f t,cs,h=>by
  rw[A5j]at h |-;obtain⟨ea,ec,ex,a1,c1,xs1,a2,c2,xs2,h1,h2,h3,h4,h5,h6,h7⟩:=h;exact⟨ea,ec,ex,a1,c1,xs1,a2,c2,xs2,h1,h2.le m,Y7.le m _ _ h3,h4.le m,X6.le m _ _ h5,h6.le m,X6.le m _ _ h7⟩
theorem X6.le {I I':P6} (m:Le I I'):∀(es:List Sp.Stm) (xs:List Value),X6 I es xs->X6 I' es xs
 | [],xs,h=>by rw[X6]at h |-;exact h
 |e::es,xs,h=>by
  rw[X6]at h |-;obtain⟨c,r,h1,h2,h3⟩:=h;exact⟨c,r,h1,A5j.le m _ _ h2,X6.le m _ _ h3⟩
 end
theorem A5j.out {I:P6}{s:Sp.Stm}{cs:List Value} (h:A5j I s cs):∃ea ec ex a1 c1 xs1 a2 c2 xs2,cs=A2K s.kind s.name s.at_ s.label s.opn s.e ea ec (.slice a1 s.thn.length c1) (.slice a2 s.els.length c2) s.fr s.to/\
  RowI I 109 6 (.slice ea s.e.args.length ec) s.e.args.length ex/\Y7 I s.e.args ex/\
  RowI I 111 15 (.slice a1 s.thn.length c1) s.thn.length xs1/\X6 I s.thn xs1/\RowI I 111 15 (.slice a2 s.els.length c2) s.els.length xs2/\X6 I s.els xs2:=by
 cases s with
 |mk k nm a lb o e thn els f t=>rw[A5j]at h;exact h
theorem A5j.of {I:P6}{k a lb f t ec c1 c2:Nat}{nm:List UInt8}{o:Bool}{e:Sp.Ex}{thn els:List Sp.Stm}{ea a1 a2:Option Addr}{ex xs1 xs2:List Value}
  (h2:RowI I 109 6 (.slice ea e.args.length ec) e.args.length ex) (h3:Y7 I e.args ex)
  (h4:RowI I 111 15 (.slice a1 thn.length c1) thn.length xs1) (h5:X6 I thn xs1) (h6:RowI I 111 15 (.slice a2 els.length c2) els.length xs2) (h7:X6 I els xs2):
  A5j I (.mk k nm a lb o e thn els f t) (A2K k nm a lb o e ea ec (.slice a1 thn.length c1) (.slice a2 els.length c2) f t):=by
 rw[A5j];exact⟨ea,ec,ex,a1,c1,xs1,a2,c2,xs2,rfl,h2,h3,h4,h5,h6,h7⟩
theorem A5j.len {I:P6}{e:Sp.Stm}{cs:List Value} (h:A5j I e cs):cs.length=15:=by
 obtain⟨_,_,_,_,_,_,_,_,_,rfl,_⟩:=h.out;rfl
theorem X6.nil {I:P6}:X6 I [] []:=by rw[X6]
theorem X6.snoc {I:P6}:∀ {es:List Sp.Stm}{xs c:List Value}{e:Sp.Stm},X6 I es xs->A5j I e c->X6 I (es++ [e]) (xs++c)
 | [],xs,c,e,h,he=>by
  rw[X6]at h;subst h;rw[P5,P5,X6];exact⟨c,[],by simp,he,by rw[X6]⟩
 |a::es,xs,c,e,h,he=>by
  rw[X6]at h;obtain⟨c1,r,rfl,h2,h3⟩:=h;rw[Y0,X6];exact⟨c1,r++c,by rw[O3],h2,h3.snoc he⟩
theorem X6.get {I:P6}:∀ {es:List Sp.Stm}{xs:List Value}{i:Nat}{e:Sp.Stm},X6 I es xs->es[i]?=some e->A5j I e ((xs.drop (i *15)).take 15)
 | [],_,_,_,_,he=>by simp at he
 |a::es,xs,0,e,h,he=>by
  rw[X6]at h;obtain⟨c,r,rfl,h2,h3⟩:=h;simp only[A0A,U3]at he;subst he;rw[A1n,A2o,A11 (by rw[h2.len];omega),A0u (by rw[h2.len];omega)];exact h2
 |a::es,xs,i+1,e,h,he=>by
  rw[X6]at h;obtain⟨c,r,rfl,h2,h3⟩:=h;rw[A0E]at he;have:=h3.get he;rw[A5x,A4A (by rw[h2.len];omega),P5,h2.len,show (i+1) *15-15=i *15 by omega];exact this
abbrev A5G (d:Sp.Dg):List Value:= [nt d.fr,nt d.to,nt d.err,str d.name]
abbrev A2N (p:Sp.Par):List Value:= [str p.name,nt p.label,nt p.at_]
abbrev A2V (p:Sp.Rf):List Value:= [str p.name,nt p.at_]
abbrev A1z (k:Nat) (nm:List UInt8) (lb:Nat) (vp vs vb:Value) (a:Int) (sz mk:Nat) (vd:Value):List Value:= [nt k,str nm,nt lb,vp,vs,vb,.int .i64 a,nt sz,nt mk,vd]
def A5W (I:P6) (it:Sp.Itm) (cs:List Value):Prop:= ∃ap cp as_ cs' ab cb ad cd xb,cs=A1z it.kind it.name it.label (.slice ap it.params.length cp) (.slice as_ it.sends.length cs') (.slice ab it.body.length cb) it.at_ it.size it.mark (.slice ad it.diags.length cd)/\
 RowI I 103 3 (.slice ap it.params.length cp) it.params.length (it.params.flatMap A2N)/\RowI I 106 2 (.slice as_ it.sends.length cs') it.sends.length (it.sends.flatMap A2V)/\
 RowI I 111 15 (.slice ab it.body.length cb) it.body.length xb/\X6 I it.body xb/\RowI I 85 4 (.slice ad it.diags.length cd) it.diags.length (it.diags.flatMap A5G)
theorem A5W.le {I I':P6} (m:Le I I') {it:Sp.Itm}{cs:List Value} (h:A5W I it cs):A5W I' it cs:=by
 obtain⟨ap,cp,as_,cs',ab,cb,ad,cd,xb,h1,h2,h3,h4,h5,h6⟩:=h;exact⟨ap,cp,as_,cs',ab,cb,ad,cd,xb,h1,h2.le m,h3.le m,h4.le m,h5.le m,h6.le m⟩
theorem A5W.len {I:P6}{it:Sp.Itm}{cs:List Value} (h:A5W I it cs):cs.length=10:=by
 obtain⟨_,_,_,_,_,_,_,_,_,rfl,_⟩:=h;rfl
def A5f (I:P6):List Sp.Itm->List Value->Prop
 | [],xs=>xs= []
 |e::es,xs=> ∃c r,xs=c++r/\A5W I e c/\A5f I es r
theorem A5f.le {I I':P6} (m:Le I I'):∀ {es:List Sp.Itm}{xs:List Value},A5f I es xs->A5f I' es xs
 | [],_,h=>h
 |_::_,_,⟨c,r,h1,h2,h3⟩=>⟨c,r,h1,h2.le m,h3.le m⟩
theorem A5f.snoc {I:P6}:∀ {es:List Sp.Itm}{xs c:List Value}{e:Sp.Itm},A5f I es xs->A5W I e c->A5f I (es++ [e]) (xs++c)
 | [],xs,c,e,h,he=>by
  obtain rfl:xs= []:=h;exact⟨c,[],by simp,he,rfl⟩
 |a::es,xs,c,e,⟨c1,r,e1,h2,h3⟩,he=>⟨c1,r++c,by rw[e1,O3],h2,h3.snoc he⟩
theorem A5f.get {I:P6}:∀ {es:List Sp.Itm}{xs:List Value}{i:Nat}{e:Sp.Itm},A5f I es xs->es[i]?=some e->A5W I e ((xs.drop (i *10)).take 10)
 | [],_,_,_,_,he=>by simp at he
 |a::es,xs,0,e,h,he=>by
  obtain⟨c,r,rfl,h2,h3⟩:=h;simp only[A0A,U3]at he;subst he;rw[A1n,A2o,A11 (by rw[h2.len];omega),A0u (by rw[h2.len];omega)];exact h2
 |a::es,xs,i+1,e,h,he=>by
  obtain⟨c,r,rfl,h2,h3⟩:=h;rw[A0E]at he;have:=h3.get he;rw[A5x,A4A (by rw[h2.len];omega),P5,h2.len,show (i+1) *10-10=i *10 by omega];exact this
theorem toNat_inj {a b:UInt8} (h:(a.toNat:Int)=b.toNat):a=b:=UInt8.toNat_inj.1 (by omega)
def A3G (t:Sp.Tok):List Value:= [.int .i64 (t.kind:Int),str t.text,.int .i64 (t.pos:Int)]
theorem C6f {s:List UInt8}{k:Nat} (h:k<s.length) (hf:A5X (s.getD k 0)=false):B0q s=false:=by
 have:s.all A5X=false:=by
  rw[Bool.eq_false_iff];intro h1;have:=(B9V _ _).1 h1 k h;rw[hf]at this;cases this
 simp[B0q,this]
def A1t (n:Nat):List Value:= [.int .i64 (n:Int)]
theorem B8A (l:List Sp.Tok) (k:Nat) (t:Sp.Tok) (h:l[k]?=some t) (j:Nat) (v:Value) (hv:(A3G t)[j]?=some v):(l.flatMap A3G)[k *3+j]?=some v:=by
 induction l generalizing k with
 |nil=>simp at h
 |cons a l ih=>
  have hj:j<3:=by
   have:=(A0t.1 hv).1;simpa[A3G] using this
  cases k with
  |zero=>
   simp at h
   subst h;rw[A0a,A3r (by simp[A3G];omega)];simpa using hv
  |succ k=>
   rw[A0a,A19 (by simp[A3G];omega)];have:=ih k (by simpa using h);rw[<-this]
   congr 1
   simp[A3G];omega
theorem A7C (s:List UInt8):(U8 s).length<=s.length:=by
 have key:∀(n k:Nat),s.length-k=n->(A5B s k).length<=n:=by
  intro n;induction n using Nat.strongRecOn with
  |_ n ih=>
   intro k hn;by_cases h:k<s.length
   ·have hl:=A6F (s.drop k) (by simp;omega)
    simp only[A0r]at hl;have:=ih (s.length-(k+(Sp.one (s.drop k)).2)) (by omega) _ rfl;rw[A5U s k h,E9];split
    ·simp;omega
    ·simp;omega
   ·rw[A6Q s k (by omega)];simp
 have:=key _ 0 rfl;rw[A7B];simpa using this
structure Ok (T:Sp.Src):Prop where
 size:T.size<=1048576
 len:T.l.length<=T.size
 tok:∀t∈T.l,t.pos+t.text.length<=T.size
 len1:∀t∈T.l,1<=t.text.length
 dig:∀t∈T.l,t.kind=2->∀c∈t.text,48<=c.toNat/\c.toNat<=57
theorem Ok.at_ {T:Sp.Src} (h:Ok T) (i:Nat):(T.tok i).pos+(T.tok i).text.length<=T.size:=by
 rcases U0 i T.l.length with h1|h1
 ·rw[Sp.Src.tok,O4,G6 h1]
  exact h.tok _ (O7 h1)
 ·rw[A48 h1];simp
theorem A37 {T:Sp.Src}{i:Nat} (h:i<T.l.length):T.l[i]?=some (T.tok i):=by
 rw[Sp.Src.tok,O4,G6 h];rfl
abbrev A2Y (I:P6) (T:Sp.Src) (la:Option Addr) (lc:Nat):Prop:=RowI I 62 3 (.slice la T.l.length lc) T.l.length (T.l.flatMap A3G)
abbrev A39 (ds:List Sp.Dg) (da:Option Addr) (dc:Nat):HItem:=.row (.slice da ds.length dc) 85 4 ds.length (ds.flatMap A5G)
theorem C1w (s:List UInt8) (h:s.length<=1048576):Ok ⟨U8 s,s.length⟩:=
 ⟨h,A7C s,fun t ht=>(A2E s t ht).fit,fun t ht=>(A2E s t ht).len,fun t ht hk=>B9N (A2E s t ht) hk⟩
abbrev A5Y (pb:Nat) (la:Option Addr) (lc:Nat) (T:Sp.Src) (s:Sp.St) (deep:Nat) (da:Option Addr) (dc:Nat):HItem:=
 .obj pb (.cells [.slice la T.l.length lc,nt s.i,nt T.size,.slice da s.ds.length dc,nt deep].toArray 203 (0,0))
abbrev QSt (pb:Nat) (la:Option Addr) (lc:Nat) (T:Sp.Src) (s:Sp.St) (deep:Nat) (da:Option Addr) (dc:Nat):List HItem:= [A5Y pb la lc T s deep da dc,A39 s.ds da dc]
section
variable {I:P6}{pb deep lc dc:Nat}{la da:Option Addr}{T:Sp.Src}
theorem A1q (s:Sp.St) (hr:A2Y I T la lc):CalR prog 104 #[ptr pb] I [A5Y pb la lc T s deep da dc] (nt (T.tok s.i).pos):=by
 refine CalR.of fun w J hm hl hH hJ=>enter (N:=28) func104 rfl [(0,ptr pb)] A0I rfl ?_
 have hp:=A7m (hH _ Q7);rw[<-hJ]at hp;replace hr:=hr.le hl;by_cases hi:s.i<T.l.length
 ·have htk:=A37 hi
  repeat' (first|refine Z7 ?_ (hr:=by exact hr) (he:=by intro _;rfl) (hz:=by exact htk);intro b1 o1 hp1|refine A0q ?_ hm|refine D6 ?_|refine D9 ?_|refine A7 ?_|refine G8 ?_|refine E8 ?_|refine A8 ?_|refine H8 ?_|refine J9 ?_|refine U5 ?_|refine A0j ?_;intro _ hkq;replace hm:=hm.kept0 hkq;clear hkq|(refine D5 (ht:=fun _=>?_) (hf:=fun _=>?_)<;>try first|contradiction|omega)|refine X5 ?_|refine A1X ?_|refine A2y ?_|refine V4 ?_|refine O8 ?_|refine L6 ?_)
  exact⟨rfl,hm.kept⟩
 ·have he:T.tok s.i=⟨0,[],T.size⟩:=A48 (by omega)
  rw[he];repeat' (first|refine J5 ?_ hm|refine A0q ?_ hm|refine D8 ?_|refine D6 ?_|refine E5 ?_|refine C9 ?_|refine D9 ?_|refine A7 ?_|refine E8 ?_|refine A8 ?_|refine G5 ?_|refine H8 ?_|refine J9 ?_|refine U5 ?_|refine A0j ?_;intro _ hkq;replace hm:=hm.kept0 hkq;clear hkq|(refine D5 (ht:=fun _=>?_) (hf:=fun _=>?_)<;>try first|contradiction|omega)|refine X5 ?_|refine A2y ?_|refine V4 ?_|refine O8 ?_|refine L6 ?_)
  exact⟨rfl,hm.kept⟩
theorem A2B (s:Sp.St) (hr:A2Y I T la lc):CalR prog 134 #[ptr pb] I [A5Y pb la lc T s deep da dc] (str (T.tok s.i).text):=by
 refine CalR.of fun w J hm hl hH hJ=>enter (N:=24) func134 rfl [(0,ptr pb)] A0I rfl ?_
 have hp:=A7m (hH _ Q7);rw[<-hJ]at hp;replace hr:=hr.le hl;by_cases hi:s.i<T.l.length
 ·have htk:=A37 hi
  repeat' (first|refine Z7 ?_ (hr:=by exact hr) (he:=by intro _;rfl) (hz:=by exact htk);intro b1 o1 hp1|refine A0q ?_ hm|refine D6 ?_|refine D9 ?_|refine A7 ?_|refine G8 ?_|refine E8 ?_|refine A8 ?_|refine H8 ?_|refine J9 ?_|refine U5 ?_|refine A0j ?_;intro _ hkq;replace hm:=hm.kept0 hkq;clear hkq|(refine D5 (ht:=fun _=>?_) (hf:=fun _=>?_)<;>try first|contradiction|omega)|refine X5 ?_|refine A1X ?_|refine A2y ?_|refine V4 ?_|refine O8 ?_|refine L6 ?_)
  exact⟨rfl,hm.kept⟩
 ·have he:T.tok s.i=⟨0,[],T.size⟩:=A48 (by omega)
  rw[he];repeat' (first|refine A0q ?_ hm|refine D6 ?_|refine D9 ?_|refine A7 ?_|refine E8 ?_|refine A8 ?_|refine G5 ?_|refine H8 ?_|refine J9 ?_|refine U5 ?_|refine A0j ?_;intro _ hkq;replace hm:=hm.kept0 hkq;clear hkq|(refine D5 (ht:=fun _=>?_) (hf:=fun _=>?_)<;>try first|contradiction|omega)|refine X5 ?_|refine A2y ?_|refine V4 ?_|refine O8 ?_|refine L6 ?_)
  exact⟨rfl,hm.kept⟩
theorem A4D (s:Sp.St) (hr:A2Y I T la lc) (hT:Ok T) (hi:s.i<=T.l.length):CalR prog 192 #[ptr pb] I [A5Y pb la lc T s deep da dc] (nt (T.endOf s.i)):=by
 refine CalR.of fun w J hm hl hH hJ=>enter (N:=26) func192 rfl [(0,ptr pb)] A0I rfl ?_
 have hp:=A7m (hH _ Q7);rw[<-hJ]at hp;replace hr:=hr.le hl;have h1:=hT.at_ (s.i-1);have h2:=hT.size;have h3:=hT.len;by_cases h0:s.i=0
 ·rw[h0]at hp |-
  repeat' (first|refine J5 ?_ hm|refine D8 ?_|refine D6 ?_|refine N9 ?_|refine E5 ?_|refine C9 ?_|refine D9 ?_|refine A7 ?_|refine G8 ?_|refine E8 ?_|refine A8 ?_|refine H8 ?_|refine J9 ?_|refine H6 ?_)
  exact⟨rfl,hm.kept⟩
 ·have hlt:s.i-1<T.l.length:=by omega
  have htk:=A37 hlt;repeat' (first|refine A0s (id:=3) (hm.perm pm0) 11 12 (h:=?_);clear hm;intro wd hR hm|refine A2H ?_ (hr:=by exact hr) (he:=by intro _;rfl) (hz:=by rw[show ((s.i:Int)-1).toNat=s.i-1 by omega];exact htk);intro b1 o1 hp1|refine A0c ?_ hR|refine A1W ?_ hR|refine A30 (d:=3) ?_ hm;clear hm;intro b3 _ hm|refine A0w ?_;replace hm:=hR.back hm;clear hR;try simp only[F9]at hm|refine J4 ?_ hm|refine J5 ?_ hm|refine N7 ?_ hm;clear hm;intro _ hm;try simp only[F9]at hm|refine D8 ?_|refine D6 ?_|refine N9 ?_|refine A0G ?_|refine E5 ?_|refine P7 ?_|refine C9 ?_|refine D9 ?_|refine A7 ?_|refine E8 ?_|refine A8 ?_|refine G5 ?_|refine H8 ?_|refine J9 ?_|(refine D5 (ht:=fun _=>?_) (hf:=fun _=>?_)<;>try first|contradiction|omega)|refine Z4 ?_|refine O5 ?_|refine C4v ?_|refine J8 ?_|refine A0b ?_)
  refine⟨?_,hm.kept⟩
  rw[Sp.Src.endOf,if_neg h0,nt,Int.natCast_add]
end
end Go.Proofs
