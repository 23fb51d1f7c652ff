/- Own work: texts FwRow3, FwT, SpecInf, SpecInf2, InfA, InfB, one behind the other. -/
import Derived.Test.YtfjdfdgpkncpfaaGreatDoorQc10
import Derived.Laws.OwnMore
set_option maxHeartbeats 64000000
namespace Go.Fw
open Go.Sp
open Go
section
variable {P:Program}{N:Nat}{ds:List Deferred}{Q:Exit->Act->World->Prop}{K:Act->World->Prop}{KV:Act->Prop}{l l':Log}{w w' w0:World}{ops:Array Oper}{os:List Oper}
variable {d:Nat}{ty:TypeId}{pos:String}{af:Array Edge}{g:Option (Nat×Bool)}{t t':TypeId}{x y z:Operand}
variable {E:Ent}{I I':U0}{H H' R G:List HItem}
class Zero1 (P:Program) (e:TypeId) (v:Value):Prop where out:(P.info? e).bind (·.zero)=some v/\v.cells= #[v]
theorem Mem.rowCell {e:TypeId}{sz n cp b off:Nat}{xs:List Value}{v:Value} (ho:(HItem.row (.slice (some ⟨b,0,none⟩) n cp) e sz n xs).ok w) (hc:xs[off]?=some v):
  ∃c fr,w.heap[b]?=some (.cells c e fr)/\c[off]?=some v:=by
 rcases ho.2 with ⟨_,h0⟩|⟨g,cap,cur,hv,_,hg,_,_,_,ht⟩
 ·have h1:=ho.1
  subst h0;rw[A09]at h1;have:off<xs.length:=(Z8.1 hc).1;omega
 ·injection hv with e1 _ _
  injection e1 with e1
  injection e1 with e1
  subst e1;refine⟨cur,(0,0),hg,?_⟩
  rw[<-ht,A1H]at hc;split at hc
  ·simpa using hc
  ·cases hc
theorem B3e [TyOne P t] {i b off n cp sz:Nat}{e:TypeId}{xs:List Value}{v:Value} (hm:Mem E I H w) (hw:O8 ops l ⟨some d,.load t x,ty,pos,af,g⟩=some true) (hN:Nat.blt d N=true)
  (hx:ev l x=some (.pointer (some ⟨b,off,none⟩))) (hb:H[i]?=some (.row (.slice (some ⟨b,0,none⟩) n cp) e sz n xs)) (hc:xs[off]?=some v)
  (k:WQ P N ds ops w K os ((d,v)::l)):WQ P N ds ops w K (⟨some d,.load t x,ty,pos,af,g⟩::os) l:=by
 obtain⟨c,fr,h1,h2⟩:=Mem.rowCell (hm.ok _ (A0s hb)) hc;exact A1i hw hN hx h1 h2 k
theorem A1U [TyOne P t] {i b off n cp sz:Nat}{e:TypeId}{xs:List Value}{v:Value} (hm:Mem E I H w) (hw:O8 ops l ⟨some d,.load t x,ty,pos,af,g⟩=some true) (hN:Nat.blt d N=true)
  (hx:ev l x=some (.pointer (some ⟨b,off,none⟩))) (hb:H[i]?=some (.row (.slice (some ⟨b,0,none⟩) n cp) e sz n xs)) (hc:xs[off]?=some v)
  (k:WL P N ds ops Q os ((d,v)::l) w):WL P N ds ops Q (⟨some d,.load t x,ty,pos,af,g⟩::os) l w:=by
 obtain⟨c,fr,h1,h2⟩:=Mem.rowCell (hm.ok _ (A0s hb)) hc;exact A0q hw hN hx h1 h2 k
theorem B1V {by_:Nat} [Elem P t 1 by_] {i b off n cap sz:Nat}{e:TypeId}{xs:List Value}{v:Value}{dst:Option Nat} (hm:Mem E I H w) (hd:dst=none) (hw:O8 ops l ⟨dst,.store t x y,ty,pos,af,g⟩=some true)
  (hx:ev l x=some (.pointer (some ⟨b,off,none⟩))) (hy:ev l y=some v) (hi:H[i]?=some (.row (.slice (some ⟨b,0,none⟩) n cap) e sz n xs)) (hn1:v.cells.toList= [v]) (h1:v.oneCell'=true) (ho:off<xs.length)
  (k:∀w',Mem E I (H.set i (.row (.slice (some ⟨b,0,none⟩) n cap) e sz n (xs.set off v))) w'->WL P N ds ops Q os l w'):
  WL P N ds ops Q (⟨dst,.store t x y,ty,pos,af,g⟩::os) l w:=by
 refine A80 (hm.front i hi) hd hw hx hy hn1 h1 ho (fun w2 hm2=>k w2 (hm2.perm ?_))
 have hlt:i<H.length:=(Z8.1 hi).1;have h:=A67 (H.set i (.row (.slice (some ⟨b,0,none⟩) n cap) e sz n (xs.set off v))) i _ (List.getElem?_set_self hlt);rw[List.eraseIdx_set_eq]at h;exact h.symm
end
abbrev Tri (α:Type):=List α×Option Addr×Nat
abbrev Tri.nil {α:Type}:Tri α:=([],none,0)
section
variable {P:Program}{N:Nat}{ds:List Deferred}{Q:Exit->Act->World->Prop}{X:List Nat}{l l':Log}{w w' w0:World}{ops:Array Oper}{os tail:List Oper}{o:Oper}
variable {d:Nat}{ty:TypeId}{pos:String}{af:Array Edge}{g:Option (Nat×Bool)}{t t':TypeId}{x y:Operand}{ik:IntKind}
theorem B6v {x:Operand}{v:Value} (hC:Kept X w0 w) (hw:O8 ops l ⟨some d,.assign x,ty,pos,af,g⟩=some true) (hN:Nat.blt d N=true) (hx:ev l x=some v)
  (k:WS P N ds ops Q X w0 os tail ((d,v)::l) w):WS P N ds ops Q X w0 (⟨some d,.assign x,ty,pos,af,g⟩::os) tail l w:=
 A5z rfl hw hN (fun a ha=>by simp[execOp,ha.ev hx]) hC k
end
end Go.Fw
namespace Go.Sp
abbrev Lab:=Nat->Nat
structure Li where
 name:List UInt8
 lab:Nat
 op:Option Nat
def Li.val (o:Lab) (l:Li):Nat:=match l.op with
 |none=>l.lab
 |some f=>o f
def A5F (o:Lab) (sc:List Li):List Lc:=sc.map (fun l=>⟨l.name,l.val o⟩)
def A2I:List Li->List UInt8->Option Li
 | [],_=>none
 |l::sc,n=>match A2I sc n with
  |some x=>some x
  |none=>if l.name=n then some l else none
def A4q (sc:List Li):List Nat:=sc.filterMap (·.op)
def upL (o:Lab) (f n:Nat):Lab:=fun g=>if g=f then n else o g
abbrev LP:=Lab×Bool
def A2k (p:LP) (f n:Nat):LP:=if p.1 f|||n=p.1 f then p else (upL p.1 f (p.1 f|||n),true)
def A2W (p:LP) (op:Option Nat) (n:Nat):LP:=match op with
 |none=>p
 |some f=>A2k p f n
def A50 (o:Bool) (f:Nat):Option Nat:=if o=true then some f else none
def B0V (p:LP) (sc:List Li) (nm:List UInt8) (n:Nat):LP:=match A2I sc nm with
 |some l=>A2W p l.op n
 |none=>p
mutual
def A7H (its:List Itm):Stm->List Li->Nat->LP->List Li×LP
 | .mk k nm _ lb o e thn els f _,sc,un,p=>
  if k=1 then (sc++ [⟨nm,lb,A50 o f⟩],A2W p (A50 o f) (plainF its (A5F p.1 sc) e|||un)) else
  if k=2 then (sc,B0V p sc nm (plainF its (A5F p.1 sc) e|||un)) else
  if k=3\/k=4 then (sc,(A1l its els sc (plainF its (A5F p.1 sc) e|||un) (A1l its thn sc (plainF its (A5F p.1 sc) e|||un) p).2).2) else (sc,p)
def A1l (its:List Itm):List Stm->List Li->Nat->LP->List Li×LP
 | [],sc,_,p=>(sc,p)
 |x::l,sc,un,p=>A1l its l (A7H its x sc un p).1 un (A7H its x sc un p).2
 end
mutual
def Stm.lets:Stm->List Nat
 | .mk k _ _ _ _ _ thn els f _=>(if k=1 then [f] else [])++(A0w thn++A0w els)
def A0w:List Stm->List Nat
 | []=> []
 |x::l=>x.lets++A0w l
 end
def A7D (l:List Par):List Li:=l.map (fun p=>⟨p.name,p.label,none⟩)
def A3a (its:List Itm) (it:Itm) (o:Lab):LP:=(A1l its it.body (A7D it.params) 0 (o,false)).2
def A6t (its:List Itm) (it:Itm):Nat->Lab
 |0=>fun _=>0
 |k+1=>(A3a its it (A6t its it k)).1
def B7S (its:List Itm) (it:Itm) (o:Lab):Prop:=(∃k,o=A6t its it k)/\A3a its it o=(o,false)
mutual
def A3e (o:Lab):Stm->Stm
 | .mk k nm a lb op e thn els f t=> .mk k nm a (if k=1/\op=true then o f else lb) (if k=1 then false else op) e (A0C o thn) (A0C o els) f t
def A0C (o:Lab):List Stm->List Stm
 | []=> []
 |x::l=>A3e o x::A0C o l
 end
def itI (o:Lab) (it:Itm):Itm:= { it with body:=A0C o it.body}
def A9m (its:List Itm) (it r:Itm):Prop:=(it.kind=2->∃o,B7S its it o/\r=itI o it)/\(it.kind≠2->r=it)
inductive AllTwo {α β:Type} (R:α->β->Prop):List α->List β->Prop
 |nil:AllTwo R [] []
 |cons {a:α}{b:β}{l:List α}{r:List β} (h:R a b) (t:AllTwo R l r):AllTwo R (a::l) (b::r)
theorem AllTwo.len {α β:Type}{R:α->β->Prop}:∀ {l:List α}{r:List β},AllTwo R l r->r.length=l.length
 |_,_,.nil=>rfl
 |_,_,.cons _ t=>by rw[X8,X8,t.len]
def B0h (its r:List Itm):Prop:=AllTwo (A9m its) its r
theorem A8R {its:List Itm}{it:Itm}{k:Nat} (h:A3a its it (A6t its it k)=(A6t its it k,false)):∀j,A6t its it (k+j)=A6t its it k
 |0=>rfl
 |j+1=>by
  have ih:=A8R h j;show (A3a its it (A6t its it (k+j))).1=_
  rw[ih,h]
theorem B5T {its:List Itm}{it:Itm}{o o':Lab} (h:B7S its it o) (h':B7S its it o'):o=o':=by
 obtain⟨⟨k,rfl⟩,hk⟩:=h;obtain⟨⟨j,rfl⟩,hj⟩:=h';rcases Nat.le_total k j with hle|hle
 ·obtain⟨d,rfl⟩:=Nat.le.dest hle
  rw[A8R hk]
 ·obtain⟨d,rfl⟩:=Nat.le.dest hle
  rw[A8R hj]
theorem B4T {its:List Itm}{it a b:Itm} (ha:A9m its it a) (hb:A9m its it b):a=b:=by
 by_cases h:it.kind=2
 ·obtain⟨o,h1,rfl⟩:=ha.1 h
  obtain⟨o',h2,rfl⟩:=hb.1 h;rw[B5T h1 h2]
 ·rw[ha.2 h,hb.2 h]
theorem A9T {its:List Itm}:∀ {l a b:List Itm},AllTwo (A9m its) l a->AllTwo (A9m its) l b->a=b
 |_,_,_,.nil,.nil=>rfl
 |_,_,_,.cons h1 t1,.cons h2 t2=>by rw[B4T h1 h2,A9T t1 t2]
theorem A9H (o:Lab) (n:List UInt8):∀(sc:List Li),A1e (A5F o sc) n=(A2I sc n).map (fun l=>⟨l.name,l.val o⟩)
 | []=>rfl
 |l::sc=>by
  have ih:=A9H o n sc;show A1e (⟨l.name,l.val o⟩::A5F o sc) n=_
  rw[A1e,ih,A2I];cases A2I sc n with
  |some x=>rfl
  |none=>
   simp only[Option.map_none];split<;>rfl
theorem A5C {n:List UInt8}{x:Li}:∀ {l:List Li},A2I l n=some x->x∈l/\x.name=n
 | [],h=>by cases h
 |a::l,h=>by
  rw[A2I]at h;split at h
  ·rename_i y hy
   cases h
   obtain⟨h1,h2⟩:=A5C hy;exact⟨A3L _ h1,h2⟩
  ·split at h
   ·rename_i h2;cases h;exact⟨Y1,h2⟩
   ·cases h
theorem A9I {n:List UInt8}{x:Li}:∀ {l:List Li}{i:Nat},l[i]?=some x->x.name=n->(∀j y,i<j->l[j]?=some y->y.name≠n)->A2I l n=some x
 | [],i,h,_,_=>by simp at h
 |a::l,0,h,hn,hl=>by
  simp only[A0S,U5]at h;subst h;have:A2I l n=none:=by
   cases hf:A2I l n with
   |none=>rfl
   |some y=>
    obtain⟨hy,hyn⟩:=A5C hf;obtain⟨j,hj⟩:=A5K.1 hy;exact absurd hyn (hl (j+1) y (by omega) (by rw[A0E];exact hj))
  rw[A2I,this];simp[hn]
 |a::l,i+1,h,hn,hl=>by
  rw[A0E]at h;rw[A2I,A9I h hn (fun j y hj hy=>hl (j+1) y (by omega) (by rw[A0E];exact hy))]
theorem B1D {n:List UInt8}:∀ {l:List Li},(∀(j:Nat) y,l[j]?=some y->y.name≠n)->A2I l n=none:=fun {l} h=>by
 cases hf:A2I l n with
 |none=>rfl
 |some y=>
  obtain⟨hy,hyn⟩:=A5C hf;obtain⟨j,hj⟩:=A5K.1 hy;exact absurd hyn (h j y hj)
theorem B7w (its:List Itm) (x:Stm) (sc:List Li) (un:Nat) (p:LP):A7H its x sc un p=
  if x.kind=1 then (sc++ [⟨x.name,x.label,A50 x.opn x.fr⟩],A2W p (A50 x.opn x.fr) (plainF its (A5F p.1 sc) x.e|||un)) else
  if x.kind=2 then (sc,B0V p sc x.name (plainF its (A5F p.1 sc) x.e|||un)) else
  if x.kind=3\/x.kind=4 then (sc,(A1l its x.els sc (plainF its (A5F p.1 sc) x.e|||un) (A1l its x.thn sc (plainF its (A5F p.1 sc) x.e|||un) p).2).2) else (sc,p):=by
 cases x;rw[A7H];rfl
theorem B0d (its:List Itm):∀(l r:List Stm) (sc:List Li) (un:Nat) (p:LP),A1l its (l++r) sc un p=A1l its r (A1l its l sc un p).1 un (A1l its l sc un p).2
 | [],r,sc,un,p=>by rw[Y5,A1l]
 |e::l,r,sc,un,p=>by rw[A0a,A1l,A1l,B0d its l r]
theorem B3A (its:List Itm) {l:List Stm}{k:Nat}{x:Stm} (h:l[k]?=some x) (sc:List Li) (un:Nat) (p:LP):
  A1l its (l.take (k+1)) sc un p=A7H its x (A1l its (l.take k) sc un p).1 un (A1l its (l.take k) sc un p).2:=by
 rw[X0 h,B0d,A1l,A1l]
def okL (p:LP):Prop:= ∀f,p.1 f<256
def B0G (sc:List Li):Prop:= ∀l∈sc,l.lab<256
theorem A8Y {p:LP}{sc:List Li} (hp:okL p) (hs:B0G sc):A3x (A5F p.1 sc):=fun l hl=>by
 obtain⟨x,hx,rfl⟩:=A1w.1 hl;show x.val p.1<256
 rw[Li.val];split
 ·exact hs x hx
 ·exact hp _
theorem B5d {p:LP} (h:okL p) (f:Nat) {n:Nat} (hn:n<256):okL (A2k p f n):=by
 rw[A2k];split
 ·exact h
 ·intro g
  show upL p.1 f (p.1 f|||n) g<256
  rw[upL];split
  ·exact A6W (h f) hn
  ·exact h g
theorem A95 {p:LP} (h:okL p) (f:Option Nat) {n:Nat} (hn:n<256):okL (A2W p f n):=by
 cases f with
 |none=>exact h
 |some f=>exact B5d h f hn
theorem B7u {p:LP} (h:okL p) (sc:List Li) (nm:List UInt8) {n:Nat} (hn:n<256):okL (B0V p sc nm n):=by
 rw[B0V];split
 ·exact A95 h _ hn
 ·exact h
mutual
theorem B4m {its:List Itm} (hlab:A2o its):∀(x:Stm) {sc:List Li}{un:Nat}{p:LP},x.all A7Q A7Z->okL p->B0G sc->un<256->okL (A7H its x sc un p).2/\B0G (A7H its x sc un p).1
 | .mk k nm a lb o e thn els f t,sc,un,p,ha,hp,hs,hu=>by
  rw[Stm.all]at ha;obtain⟨h1,h2,h3,h4⟩:=ha;have hav:=A6W (A3w hlab (A8Y hp hs) e) hu;rw[A7H];split
  ·rename_i hk
   refine⟨A95 hp _ hav,fun l hl=>?_⟩
   rcases A0T.1 hl with hl|hl
   ·exact hs l hl
   ·obtain rfl:=A1R.1 hl
    exact h1
  ·split
   ·exact⟨B7u hp _ _ hav,hs⟩
   ·split
    ·have q1:=A4V hlab thn h3 hp hs hav
     exact⟨(A4V hlab els h4 q1.1 hs hav).1,hs⟩
    ·exact⟨hp,hs⟩
theorem A4V {its:List Itm} (hlab:A2o its):∀(l:List Stm) {sc:List Li}{un:Nat}{p:LP},V5 A7Q A7Z l->okL p->B0G sc->un<256->okL (A1l its l sc un p).2/\B0G (A1l its l sc un p).1
 | [],_,_,_,_,hp,hs,_=>by rw[A1l];exact⟨hp,hs⟩
 |x::l,sc,un,p,ha,hp,hs,hu=>by
  rw[V5]at ha;have q1:=B4m hlab x ha.1 hp hs hu;rw[A1l];exact A4V hlab l ha.2 q1.1 q1.2 hu
end
def A77 (L:List Nat) (o:Lab):Nat:=(L.map (fun f=>256-o f)).sum
theorem B7j {a n:Nat} (h:a|||n≠a):a<a|||n:=by
 have h1:a<=a|||n:=Nat.left_le_or
 omega
theorem B6G {L:List Nat}{o:Lab}{f n:Nat} (h:o f<=n):A77 L (upL o f n)<=A77 L o:=by
 induction L with
 |nil=>exact H6 _
 |cons g L ih=>
  simp only[A77,Y2,List.sum_cons]at ih |-;have:256-upL o f n g<=256-o g:=by
   rw[upL];split
   ·rename_i e;subst e;omega
   ·exact H6 _
  omega
theorem B8G {L:List Nat}{o:Lab}{f n:Nat} (hf:f∈L) (h:o f<n) (hn:o f<256):A77 L (upL o f n)<A77 L o:=by
 induction L with
 |nil=>cases hf
 |cons g L ih=>
  have h1:=B6G (L:=L) (o:=o) (f:=f) (n:=n) (by omega);simp only[A77,Y2,List.sum_cons]at ih h1 |-;by_cases e:g=f
  ·subst e
   have:upL o g n g=n:=by rw[upL,if_pos rfl]
   rw[this];omega
  ·have h2:upL o f n g=o g:=by rw[upL,if_neg e]
   have:=ih (by rcases A0D.1 hf with h|h;exact absurd h.symm e;exact h);rw[h2];omega
structure Gone (L:List Nat) (p q:LP):Prop where
 le:A77 L q.1<=A77 L p.1
 lt:q.2=true->p.2=true\/A77 L q.1<A77 L p.1
 same:q.2=false->q=p
theorem Gone.refl (L:List Nat) (p:LP):Gone L p p:=⟨H6 _,.inl,fun _=>rfl⟩
theorem Gone.trans {L:List Nat}{p q r:LP} (h:Gone L p q) (g:Gone L q r):Gone L p r:=
 ⟨A1v g.le h.le,fun e=>by
  have h1:=h.le;have h2:=g.le;rcases g.lt e with h3|h3
  ·rcases h.lt h3 with h4|h4
   ·exact .inl h4
   ·exact .inr (by omega)
  ·exact .inr (by omega),fun e=>by
  have h1:=g.same e;subst h1;exact h.same e⟩
theorem B2m {L:List Nat}{p:LP} (hp:okL p) {f:Nat} (hf:f∈L) (n:Nat):Gone L p (A2k p f n):=by
 rw[A2k];split
 ·exact .refl _ _
 ·rename_i h
  have h1:=B7j h;exact⟨B6G (by omega),fun _=> .inr (B8G hf h1 (hp f)),fun e=>by cases e⟩
theorem A8k {L:List Nat}{p:LP} (hp:okL p) {f:Option Nat} (hf:∀g,f=some g->g∈L) (n:Nat):Gone L p (A2W p f n):=by
 cases f with
 |none=>exact .refl _ _
 |some f=>exact B2m hp (hf f rfl) n
def inL (L:List Nat) (sc:List Li):Prop:= ∀f∈A4q sc,f∈L
theorem B2a {sc:List Li}{l:Li}{f:Nat} (h:l∈sc) (e:l.op=some f):f∈A4q sc:=A5P.2 ⟨l,h,e⟩
theorem B5f {L:List Nat}{p:LP} (hp:okL p) {sc:List Li} (hs:inL L sc) (nm:List UInt8) (n:Nat):Gone L p (B0V p sc nm n):=by
 rw[B0V];split
 ·rename_i l hl
  exact A8k hp (fun g hg=>hs g (B2a (A5C hl).1 hg)) n
 ·exact .refl _ _
theorem A9Z (sc:List Li) (l:Li):A4q (sc++ [l])=A4q sc++l.op.toList:=by
 rw[A4q,List.filterMap_append,A4q];cases h:l.op<;>simp[h]
mutual
theorem B5k {its:List Itm} (hlab:A2o its) {L:List Nat}:∀(x:Stm) {sc:List Li}{un:Nat}{p:LP},x.all A7Q A7Z->okL p->B0G sc->un<256->(∀f∈x.lets,f∈L)->inL L sc->Gone L p (A7H its x sc un p).2/\inL L (A7H its x sc un p).1
 | .mk k nm a lb o e thn els f t,sc,un,p,ha,hp,hs,hu,hL,hi=>by
  rw[Stm.all]at ha;obtain⟨h1,h2,h3,h4⟩:=ha;have hav:=A6W (A3w hlab (A8Y hp hs) e) hu;rw[Stm.lets]at hL;have hLt:∀f∈A0w thn,f∈L:=fun g hg=>hL g (A1E _ (A1p _ hg))
  have hLe:∀f∈A0w els,f∈L:=fun g hg=>hL g (A1E _ (A1E _ hg))
  rw[A7H];split
  ·rename_i hk
   have hf:f∈L:=hL f (by rw[if_pos hk];exact A1p _ Y1);have hop:∀g,A50 o f=some g->g∈L:=fun g hg=>by
    rw[A50]at hg;split at hg
    ·cases hg;exact hf
    ·cases hg
   refine⟨A8k hp hop _,fun g hg=>?_⟩
   rw[A9Z]at hg;rcases A0T.1 hg with hg|hg
   ·exact hi g hg
   ·exact hop g (by simpa using hg)
  ·split
   ·exact⟨B5f hp hi _ _,hi⟩
   ·split
    ·have q1:=A4V hlab thn h3 hp hs hav
     have g1:=A6a hlab thn h3 hp hs hav hLt hi;exact⟨g1.1.trans (A6a hlab els h4 q1.1 hs hav hLe hi).1,hi⟩
    ·exact⟨.refl _ _,hi⟩
theorem A6a {its:List Itm} (hlab:A2o its) {L:List Nat}:∀(l:List Stm) {sc:List Li}{un:Nat}{p:LP},V5 A7Q A7Z l->okL p->B0G sc->un<256->(∀f∈A0w l,f∈L)->inL L sc->Gone L p (A1l its l sc un p).2/\inL L (A1l its l sc un p).1
 | [],_,_,_,_,hp,hs,_,_,hi=>by rw[A1l];exact⟨.refl _ _,hi⟩
 |x::l,sc,un,p,ha,hp,hs,hu,hL,hi=>by
  rw[V5]at ha;rw[A0w]at hL;have q1:=B4m hlab x ha.1 hp hs hu;have g1:=B5k hlab x ha.1 hp hs hu (fun f hf=>hL f (A1p _ hf)) hi;have g2:=A6a hlab l ha.2 q1.1 q1.2 hu (fun f hf=>hL f (A1E _ hf)) g1.2;rw[A1l];exact⟨g1.1.trans g2.1,g2.2⟩
end
theorem A86 {l:List Par} (h:∀p∈l,p.label<256):B0G (A7D l):=fun x hx=>by
 obtain⟨p,hp,rfl⟩:=A1w.1 hx;exact h p hp
theorem A91 (l:List Par):A4q (A7D l)= []:=by
 rw[A4q,A7D,List.filterMap_map];exact List.filterMap_eq_nil_iff.2 (fun _ _=>rfl)
theorem A96 {its:List Itm}{it:Itm}{o:Lab} (hlab:A2o its) (hb:V5 A7Q A7Z it.body) (hp:∀p∈it.params,p.label<256) (ho:∀f,o f<256):
  okL (A3a its it o)/\((A3a its it o).2=true->A77 (A0w it.body) (A3a its it o).1<A77 (A0w it.body) o)/\((A3a its it o).2=false->(A3a its it o).1=o):=by
 have h1:=A4V hlab it.body (sc:=A7D it.params) (un:=0) (p:=(o,false)) hb ho (A86 hp) (by omega);have h2:=A6a hlab (L:=A0w it.body) it.body (sc:=A7D it.params) (un:=0) (p:=(o,false)) hb ho (A86 hp) (by omega) (fun _ h=>h) (fun f hf=>by rw[A91]at hf;cases hf);refine⟨h1.1,fun e=>?_,fun e=>?_⟩
 ·rcases h2.1.lt e with h|h
  ·cases h
  ·exact h
 ·exact congrArg Prod.fst (h2.1.same e)
def InT (T:Src) (a b:Nat) (L:List Nat):Prop:= ∃js:List Nat,js.Pairwise (· < ·)/\(∀j∈js,a<=j/\j<b/\j<T.l.length)/\L=js.map (fun j=>(T.tok j).pos)
theorem InT.nil (T:Src) (a b:Nat):InT T a b []:=⟨[],.nil,fun _ h=>(by cases h),rfl⟩
theorem InT.one {T:Src}{a b:Nat} (h:a<b) (hl:a<T.l.length):InT T a b [(T.tok a).pos]:=⟨[a],List.pairwise_singleton _ _,fun j hj=>by obtain rfl:=A1R.1 hj;omega,rfl⟩
theorem InT.app {T:Src}{a b b' c:Nat}{L R:List Nat} (h:InT T a b L) (g:InT T b' c R) (hb:b<=b') (hab:a<=b) (hc:b'<=c):InT T a c (L++R):=by
 obtain⟨js,h1,h2,rfl⟩:=h;obtain⟨ks,g1,g2,rfl⟩:=g;refine⟨js++ks,A17.2 ⟨h1,g1,fun x hx y hy=>?_⟩,fun j hj=>?_,by rw[A1I]⟩
 ·have:=h2 x hx;have:=g2 y hy;omega
 ·rcases A0T.1 hj with hj|hj
  ·have:=h2 j hj;omega
  ·have:=g2 j hj;omega
theorem InT.mono {T:Src}{a b a' b':Nat}{L:List Nat} (h:InT T a b L) (ha:a'<=a) (hb:b<=b'):InT T a' b' L:=by
 obtain⟨js,h1,h2,rfl⟩:=h;exact⟨js,h1,fun j hj=>(by have:=h2 j hj;omega),rfl⟩
theorem A9U:∀(l r:List Stm),A0w (l++r)=A0w l++A0w r
 | [],r=>by rw[Y5,A0w,Y5]
 |x::l,r=>by rw[A0a,A0w,A0w,A9U l r,Z9]
theorem B4U (x:Stm):A0w [x]=x.lets:=by rw[A0w,A0w,A18]
theorem A4w {k:Nat}{nm:List UInt8}{a lb:Nat}{o:Bool}{e:Ex}{f t:Nat} (hk:k≠1):(Stm.mk k nm a lb o e [] [] f t).lets= []:=by rw[Stm.lets,if_neg hk,A0w];rfl
theorem A8Z (T:Src):∀f,(∀d s,InT T s.i (block T f d s).2.i (A0w (block T f d s).1))/\(∀d l s a,a<=s.i->InT T a s.i (A0w l)->InT T a (A4j T f d l s).2.i (A0w (A4j T f d l s).1))/\
  (∀d s,InT T s.i (stm T f d s).2.i (stm T f d s).1.lets)
 |0=>⟨fun _ _=>by rw[block];dsimp only;rw[A0w];exact .nil _ _ _,fun _ _ _ _ _ h=>by rw[A4j];exact h,
   fun _ s=>by rw[stm];show InT T s.i s.i (Stm.mk 0 [] 0 0 false (.mk 0 [] 0 [] 0 0) [] [] 0 0).lets;rw[A4w (by decide)];exact .nil _ _ _⟩
 |f+1=>by
  obtain⟨hB,hL,hS⟩:=A8Z T f;obtain⟨gB,gL,gS⟩:=A1n T f;have gE:=(A0B T f).2.2.1;refine⟨fun d s=>?_,fun d l s a ha h=>?_,fun d s=>?_⟩
  ·rw[block]
   split
   ·dsimp only;rw[A0w];exact .nil _ _ _
   ·split
    ·dsimp only;rw[A0w];exact .nil _ _ _
    ·have h1:=hL (d+1) [] s.next s.next.i (H6 _) (by rw[A0w];exact .nil _ _ _)
     have h3:=A2z T (A4j T f (d+1) [] s.next).2 [125];exact h1.mono (by rw[N8];omega) h3
  ·rw[A4j]
   split
   ·exact h
   ·split
    ·exact h
    ·have h1:=hS d s
     have h2:=(gS d s).le;try dsimp only
     have h3:InT T a (stm T f d s).2.i (A0w (l++ [(stm T f d s).1])):=by
      rw[A9U,B4U];exact h.app h1 (H6 _) ha h2
     split
     ·rename_i he
      exact hL d _ _ a (by rw[N8];omega) (h3.mono (H6 _) (by rw[N8];omega))
     ·exact hL d _ _ a (by omega) h3
  ·rw[stm]
   dsimp only
   split
   ·rename_i hlet
    have hlt:s.i<T.l.length:=A2J (by rw[hlet];decide);have h1:=(A0R T s.next).le;rw[N8]at h1;generalize s.next.named T=r at h1 |-;generalize hr1:(if (!T.is r.2.i [58])=true then (0,r.2) else lab T r.2.next)=r1;have h2:r.2.i<=r1.2.i:=by
     rw[<-hr1];split
     ·exact H6 _
     ·have:=(A2D T r.2.next).le
      rw[N8]at this;omega
    have h3:=A2z T r1.2 [61];have h5:=(gE d 1 (r1.2.need T [61]).2).le;have h6:=A2z T (A0Q T f d 1 (r1.2.need T [61]).2).2 [59];try dsimp only
    rw[Stm.lets,A0w,if_pos rfl];exact InT.one (by omega) hlt
   ·split
    ·have h2:=(gE d 1 s.next).le
     rw[N8]at h2;generalize A0Q T f d 1 s.next=r at h2 |-;have h3:=hB d r.2;have h4:=(gB d r.2).le;generalize block T f d r.2=r1 at h3 h4 |-;split
     ·have h5:=hB d r1.2.next
      have h6:=(gB d r1.2.next).le;rw[N8]at h5 h6;try dsimp only
      rw[Stm.lets,if_neg (by decide),Y5];exact(h3.app h5 (by omega) (by omega) (by omega)).mono (by omega) (H6 _)
     ·try dsimp only
      rw[Stm.lets,A0w,if_neg (by decide),Y5,A18];exact h3.mono (by omega) (H6 _)
    ·split
     ·have h2:=(gE d 1 s.next).le
      rw[N8]at h2;generalize A0Q T f d 1 s.next=r at h2 |-;have h3:=hB d r.2;try dsimp only
      rw[Stm.lets,A0w,if_neg (by decide),Y5,A18];exact h3.mono (by omega) (H6 _)
     ·split
      ·try dsimp only
       rw[A4w (by decide)];exact .nil _ _ _
      ·split
       ·try dsimp only
        rw[A4w (by decide)];exact .nil _ _ _
       ·split
        ·split
         ·try dsimp only
          rw[A4w (by decide)];exact .nil _ _ _
         ·try dsimp only
          rw[A4w (by decide)];exact .nil _ _ _
        ·show InT T s.i _ (Stm.mk _ _ _ _ _ _ [] [] _ _).lets
         rw[A4w (by decide)];exact .nil _ _ _
theorem B4N {src:List UInt8}{a b:Nat}{L:List Nat} (ha:1<=a) (h:InT ⟨O6 src,src.length⟩ a b L):L.Nodup/\0∉L:=by
 obtain⟨js,h1,h2,rfl⟩:=h;have hs:=A2u.1 (A3k src);have key:∀i j,i<j->j<(O6 src).length->((Src.mk (O6 src) src.length).tok i).pos<((Src.mk (O6 src) src.length).tok j).pos:=fun i j hij hj=>by
  have hi:i<(O6 src).length:=by omega
  have h3:=hs i j hi hj hij;have h4:=(A2l src _ (Q8 hi)).len;rw[Src.tok,Src.tok];dsimp only
  rw[U2,U2,G9 hi,G9 hj];show (O6 src)[i].pos<(O6 src)[j].pos
  omega
 refine⟨?_,fun h0=>?_⟩
 ·rw[List.Nodup,List.pairwise_map]
  refine h1.imp_of_mem (fun {x y} hx hy hxy=>?_)
  have:=key x y hxy (h2 y hy).2.2;omega
 ·obtain⟨j,hj,e⟩:=A1w.1 h0
  have:=h2 j hj;have:=key 0 j (by omega) this.2.2;omega
theorem B4P (src:List UInt8) (at_:Int):(A0w (item src at_).body).Nodup/\0∉A0w (item src at_).body:=by
 have hnil:(A0w []).Nodup/\0∉A0w []:=by rw[A0w];exact⟨List.nodup_nil,fun h=>(by cases h)⟩
 rw[item];generalize hT:(⟨O6 src,src.length⟩:Src)=T;dsimp only
 split
 ·rename_i hfn
  have h0:=is_lt hfn;dsimp only[A5m];have h1:=A0R T ⟨1,[]⟩;have t1:=h1.top (show 1<=_ by omega);have l1:1<=_:=h1.le;generalize (⟨1,[]⟩:St).named T=r at t1 l1 |-;have t2:=A5s [40] t1;have l2:=A2z T r.2 [40];generalize (r.2.need T [40]).2=s1 at t2 l2 |-;have h3:=(A6w T 6 [] s1 (by simp)).2 t2;generalize A5v T 6 [] s1=r2 at h3 |-;have t4:=A5s [41] h3.2.1;have l4:=A2z T r2.2 [41];generalize (r2.2.need T [41]).2=s3 at t4 l4 |-;have t5:=A5s [58] t4;have l5:=A2z T s3 [58];generalize (s3.need T [58]).2=s4 at t5 l5 |-;have g6:=A2D T s4;have t6:=g6.top t5;have l6:=g6.le;clear g6;generalize lab T s4=r5 at t6 l6 |-;generalize hr6:(if T.is r5.2.i [115,101,110,100,115]=true then A40 T 6 [] r5.2.next else ([],r5.2))=r6;have l7:r5.2.i<=r6.2.i:=by
   rw[<-hr6];split
   ·rename_i hs
    have:=is_lt hs;have:=((A6D T 6 [] r5.2.next (by simp)).2 (by rw[N8];omega)).1;rw[N8]at this;omega
   ·exact H6 _
  have h8:=(A8Z T (A68 T)).1 0 r6.2;have h9:=h3.1;subst hT;exact B4N (by omega) h8
 ·split
  ·exact hnil
  ·exact hnil
end Go.Sp
namespace Go.Fw
open Go.Sp
open Go
section
variable {P:Program}{N:Nat}{ds:List Deferred}{Q:Exit->Act->World->Prop}{l:Log}{w:World}{ops:Array Oper}{os:List Oper}
variable {d:Nat}{ty:TypeId}{pos:String}{af:Array Edge}{g:Option (Nat×Bool)}{t t':TypeId}{x:Operand}
theorem A89 {w:World}{e:TypeId} (hT:P.underlying t=some (.pointer e)) (a:Option Addr):(Op.equal t (.pointer a) (.pointer none)).run P w=.ok a.isNone w:=by
 have h1:=run_underlying (P:=P) (w:=w) hT;show (Op.equalIn (9999+1) t (.pointer a) (.pointer none)).run P w=_
 rw[Op.equalIn];cases a<;>simp[h1]
theorem A3Y {e:TypeId} (hT:P.underlying t=some (.pointer e)) {a:Option Addr}{k0:Value} (hw:O8 ops l ⟨some d,.binOp .eql t x (.const k0) t',ty,pos,af,g⟩=some true) (hN:Nat.blt d N=true)
  (hx:ev l x=some (.pointer a)) (hk:k0=.pointer none) (k:WL P N ds ops Q os ((d,.bool a.isNone)::l) w):WL P N ds ops Q (⟨some d,.binOp .eql t x (.const k0) t',ty,pos,af,g⟩::os) l w:=
 O9 rfl hw hN (fun c hc=>by
  subst hk;have e2:c.eval (.const (.pointer none))=.pointer none:=rfl;simp[execOp,hc.ev hx,e2,eqGuard,binOp,A89 hT a]) k
theorem A3Z {e:TypeId} (hT:P.underlying t=some (.pointer e)) {a:Option Addr}{k0:Value} (hw:O8 ops l ⟨some d,.binOp .neq t x (.const k0) t',ty,pos,af,g⟩=some true) (hN:Nat.blt d N=true)
  (hx:ev l x=some (.pointer a)) (hk:k0=.pointer none) (k:WL P N ds ops Q os ((d,.bool a.isSome)::l) w):WL P N ds ops Q (⟨some d,.binOp .neq t x (.const k0) t',ty,pos,af,g⟩::os) l w:=
 O9 rfl hw hN (fun c hc=>by
  subst hk;have e2:c.eval (.const (.pointer none))=.pointer none:=rfl;have e3:(!a.isNone)=a.isSome:=by cases a<;>rfl
  simp[execOp,hc.ev hx,e2,eqGuard,binOp,A89 hT a,e3]) k
end
end Go.Fw
namespace Go.Sp
theorem B60 (o:Lab) (sc:List Li) (n:List UInt8):A6s (A5F o sc) n=(match A2I sc n with|some l=>l.val o|none=>0):=by
 rw[A6s,A9H];cases A2I sc n<;>rfl
theorem B5b (its:List Itm) (sc:List Lc) (e:Ex):plainF its sc e=if e.kind=2 then A6s sc e.name else if e.kind=3 then plainsF its sc e.args 0 else if e.kind=4 then callLab its e.name else 0:=by
 cases e;rw[plainF];rfl
end Go.Sp
namespace Go.Proofs
open Go.Proofs.Tryz
open Go.Sp
open Go.Fw
structure OpenZ (zs:A1b) (o:Sp.Lab):Prop where
 nodup:(zs.map (·.1)).Nodup
 get:∀n:Nat,A73 zs (n:Int) (.int .i64 0)=nt (o n)
theorem OpenZ.nil:OpenZ [] (fun _=>0):=⟨List.nodup_nil,fun n=>rfl⟩
theorem OpenZ.put {zs:A1b}{o:Sp.Lab} (h:OpenZ zs o) (f n:Nat):OpenZ (A38 zs (f:Int) (nt n)) (Sp.upL o f n):=by
 refine⟨B1Z h.nodup,fun m=>?_⟩
 have hg:=h.get m;show (A6j (A38 zs (f:Int) (nt n)) (m:Int)).getD _=nt (if m=f then n else o m)
 rw[B3b _ h.nodup];by_cases e:m=f
 ·subst e;rw[if_pos rfl,if_pos rfl];rfl
 ·rw[if_neg (fun h=>e (by omega)),if_neg e];exact hg
theorem _root_.Go.Fw.pmIn {x y z:HItem}: [x,y,z].Perm [y,z,x]:=A1o (l₁:= [x]) (l₂:= [y,z])
abbrev Loc:=Sp.Li×Value
abbrev A27 (o:Sp.Lab) (p:Loc):List Value:= [str p.1.name,nt (p.1.val o),p.2]
theorem A7u {o:Sp.Lab}:∀ {sc:List Loc}{i:Nat}{p:Loc},sc[i]?=some p->(sc.flatMap (A27 o))[i *3]?=some (str p.1.name)/\(sc.flatMap (A27 o))[i *3+1]?=some (nt (p.1.val o))/\(sc.flatMap (A27 o))[i *3+2]?=some p.2
 | [],i,p,h=>by simp at h
 |a::sc,0,p,h=>by
  simp only[A0S,U5]at h;subst h;exact⟨rfl,rfl,rfl⟩
 |a::sc,i+1,p,h=>by
  rw[A0E]at h;obtain⟨h1,h2,h3⟩:=A7u (o:=o) h;rw[show (i+1) *3=i *3+3 by omega];exact⟨h1,h2,h3⟩
theorem B52 (I:U0) (a b:Nat) (ha:a<256) (hb:b<256):CalR prog 74 #[nt a,nt b] I [] (nt (a|||b)):=
 ⟨fun w _ _=>(A5b a b ha hb w).mono (fun v w' ⟨h1,h2⟩=>⟨h1,by rw[h2];exact Kept.refl _ _⟩)⟩
theorem A48 (w:World):(zeroValue 3).run prog w=.ok (.int .i64 0) w:=by kernel_rfl
abbrev A60 (bd bf:Nat) (sc:List Loc) (o:Sp.Lab) (more:Bool) (sa:Option Addr) (sp bo:Nat) (zs:A1b):List HItem:=
 [.cell bd [ptr bf,.slice sa sc.length sp,.map (some bo),.bool more] 116,.row (.slice sa sc.length sp) 119 3 sc.length (sc.flatMap (A27 o)),.mz bo zs]
def B4y (J:U0) (v:Value) (op:Option Nat):Prop:=(v=.pointer none/\op=none)\/
 ∃(b off tc ec:Nat) (y:Sp.Stm) (ea:Option Addr) (v1 v2:Value),v=.pointer (some ⟨b,off,none⟩)/\PtrI J b off tc (A2M y.kind y.name y.at_ y.label y.opn y.e ea ec v1 v2 y.fr y.to)/\op=A50 y.opn y.fr
theorem B4y.le {J J':U0}{v:Value}{op:Option Nat} (h:B4y J v op) (m:Le J J'):B4y J' v op:=by
 rcases h with h|⟨b,off,tc,ec,y,ea,v1,v2,h1,h2,h3⟩
 ·exact .inl h
 ·exact .inr ⟨b,off,tc,ec,y,ea,v1,v2,h1,h2.le m,h3⟩
section
variable {bd bf sp bo:Nat}{sc:List Loc}{o:Sp.Lab}{more:Bool}{sa:Option Addr}{zs:A1b}
theorem B7L (nm:List UInt8) (I:U0) (hl:sc.length<=1000000000):
  CalM prog 77 #[ptr bd,str nm] I (A60 bd bf sc o more sa sp bo zs) (fun v _ H'=>
   (∃i p b,sc[i]?=some p/\A2I (sc.map (·.1)) nm=some p.1/\sa=some ⟨b,0,none⟩/\v=.pointer (some ⟨b,i *3,none⟩)/\H'=A60 bd bf sc o more sa sp bo zs)\/
   (A2I (sc.map (·.1)) nm=none/\∃bl,v=ptr bl/\H'=.cell bl [str [],nt 0,.pointer none] 119::A60 bd bf sc o more sa sp bo zs)):=by
 refine CalM.of fun w E hm=>enter (N:=34) func77 rfl [(0,ptr bd),(1,str nm)] A1P rfl ?_
 repeat' (first|refine H8 ?_ hm|refine D8 ?_|refine D5 ?_|refine G8 ?_|refine E5 ?_|refine A5h ?_|refine C9 ?_|refine D9 ?_|refine A7 ?_|refine E8 ?_|refine A8 ?_|refine F5 ?_)
 refine X7 (fun x:Nat=> [(0,ptr bd),(1,str nm),(5,.int .i64 ((x:Int)-1))])
  (fun x w'=>Mem E I (A60 bd bf sc o more sa sp bo zs) w'/\x<=sc.length/\∀m y,x<=m->sc[m]?=some y->y.1.name≠nm) (fun x=>x) sc.length (by exact⟨rfl,rfl,rfl,trivial⟩)
  ⟨hm,H6 _,fun m y hm hy=>by rw[A1F hm]at hy;cases hy⟩ ?_
 clear hm;rintro x w1 ⟨hm,hx,hno⟩;try dsimp only at hm hx hno |-
 cases x with
 |zero=>
  repeat' (first|refine A0z (d:=33) ?_ hm;clear hm;intro b33 _ hm|refine D8 ?_|refine D5 ?_|refine A1J ?_|refine X4 ?_|refine D9 ?_|refine A7 ?_|refine G7 ?_|refine G5 ?_|refine E8 ?_|refine A8 ?_|refine O7 ?_|refine H7 ?_|refine H9 ?_|refine E9 ?_)
  all_goals try omega
  refine⟨I,_,.inr ⟨B1D fun j y hy=>?_,b33,rfl,rfl⟩,hm⟩
  rw[A2v]at hy;cases hs:sc[j]? with
  |none=>rw[hs]at hy;cases hy
  |some p=>
   rw[hs]at hy;obtain rfl:=A1g hy;exact hno j p (J7 _) hs
 |succ i=>
  have hg:sc[i]?=some sc[i]:=G9 hx;generalize sc[i]=p at hg;rw[show ((i+1:Nat):Int)-1=(i:Int) by omega];obtain⟨b,rfl⟩:=(hm.front 1 gt1).rowAddr (by omega);obtain⟨q1,q2,q3⟩:=A7u (o:=o) hg;by_cases hn:p.1.name=nm
  ·skip
   repeat' (first|refine A1U (i:=1) (d:=23) hm (by rfl) (by rfl) (by rfl) gt1 (by rw[Y6,A2R];exact q1) ?_|refine H8 ?_ hm|refine D8 ?_|refine D5 ?_|refine A1J ?_|refine A0c ?_|refine E5 ?_|refine C9 ?_|refine U6 (k:=?_)|refine D9 ?_|refine A7 ?_|refine H5 ?_|refine L8 ?_|refine E8 ?_|refine A8 ?_|refine F5 ?_|refine F9 ?_|refine H7 ?_|refine H9 ?_|refine F8 ?_|(refine D6 (ht:=fun _=>?_) (hf:=fun _=>?_)<;>try first|contradiction|omega))
   all_goals try first|omega|contradiction
   refine⟨I,_,.inl ⟨i,p,b,hg,A9I (by rw[A2v,hg];rfl) hn (fun j y hj hy=>?_),rfl,by rw[Y6,A4K],rfl⟩,hm⟩
   rw[A2v]at hy;cases hs:sc[j]? with
   |none=>rw[hs]at hy;cases hy
   |some p=>
    rw[hs]at hy;obtain rfl:=A1g hy;exact hno j p (by omega) hs
  ·skip
   repeat' (first|refine A1U (i:=1) (d:=23) hm (by rfl) (by rfl) (by rfl) gt1 (by rw[Y6,A2R];exact q1) ?_|refine H8 ?_ hm|refine D8 ?_|refine D5 ?_|refine A1J ?_|refine A0c ?_|refine E5 ?_|refine A5h ?_|refine C9 ?_|refine U6 (k:=?_)|refine D9 ?_|refine A7 ?_|refine D7 ?_|refine E8 ?_|refine A8 ?_|refine F5 ?_|refine F9 ?_|refine F8 ?_|(refine D6 (ht:=fun _=>?_) (hf:=fun _=>?_)<;>try first|contradiction|omega))
   all_goals try first|omega|contradiction
   refine N7 (i:Nat) (by exact⟨rfl,rfl,rfl,trivial⟩) ⟨hm,by omega,fun m y hm hy=>?_⟩ (by omega)
   rcases X3 i m with h|h
   ·exact hno m y h hy
   ·obtain rfl:m=i:=by omega
    rw[hg]at hy;obtain rfl:=A1g hy;exact hn
theorem B0t (I:U0) (v:Value) (op:Option Nat) (o1:Sp.Lab) (a:Nat) (ha:a<256) (hv:B4y I v op) (hz:OpenZ zs o1) (ho:∀f,o1 f<256):
  CalM prog 76 #[ptr bd,v,nt a] I (A60 bd bf sc o more sa sp bo zs) (fun u _ H'=>u=.tuple #[]/\∃zs',OpenZ zs' (A2W (o1,more) op a).1/\H'=A60 bd bf sc o (A2W (o1,more) op a).2 sa sp bo zs'):=by
 refine CalM.of fun w E hm=>enter (N:=52) func76 rfl [(0,ptr bd),(1,v),(2,nt a)] A6f rfl ?_
 rcases hv with ⟨rfl,rfl⟩|⟨b,off,tc,ec,y,ea,v1,v2,rfl,hp,rfl⟩
 ·skip
  repeat' (first|refine A3Y (e:=109) (by kernel_rfl) (by rfl) (by rfl) (by rfl) (by rfl) ?_|refine D8 ?_|refine N9 ?_|refine A0p ?_|refine D9 ?_|refine A7 ?_|refine H5 ?_|refine E8 ?_|refine A8 ?_|refine H7 ?_|refine B0j ?_|refine F8 ?_)
  all_goals try first|omega|contradiction
  exact⟨I,_,⟨rfl,zs,hz,rfl⟩,hm⟩
 ·cases hop:y.opn with
  |false=>
   rw[hop]at hp;repeat' (first|refine A3Y (e:=109) (by kernel_rfl) (by rfl) (by rfl) (by rfl) (by rfl) ?_|refine J4 ?_ hm|refine D8 ?_|refine J9 ?_|refine Y7 ?_|refine E5 ?_|refine C9 ?_|refine D9 ?_|refine A7 ?_|refine H5 ?_|refine E8 ?_|refine A8 ?_|refine H7 ?_|refine B0j ?_|refine F8 ?_)
   all_goals try first|omega|contradiction
   exact⟨I,_,⟨rfl,zs,hz,rfl⟩,hm⟩
  |true=>
   rw[hop]at hp;have hlk:=hz.get y.fr;have hj:=B52 I (o1 y.fr) a (ho _) ha;have hqe:A2W (o1,more) (A50 true y.fr) a=A2k (o1,more) y.fr a:=rfl;rw[hqe];obtain⟨n1,hn1⟩:∃n1,n1=o1 y.fr|||a:=⟨_,rfl⟩
   rw[<-hn1]at hj;by_cases heq:n1=o1 y.fr
   ·have hr:A2k (o1,more) y.fr a=(o1,more):=by rw[A2k,if_pos (by rw[<-hn1];exact heq)]
    rw[hr];repeat' (first|refine A3Y (e:=109) (by kernel_rfl) (by rfl) (by rfl) (by rfl) (by rfl) ?_|refine A0K (id:=1) (hm.perm pm0) [0,1,2,3,4,5,6,7,8,9] [10] 11 (h:=?_);clear hm;intro wd hR hm|refine A83 (d:=24) hR (by rfl) (by rfl) (by rfl) (by rfl) gt2 A48 ?_;rw[hlk]|refine A5r (d:=26) ?_ hR hm (hc:=hj);clear hm;intro _ hm|refine Q9 (id:=2) 10 (h:=?_)|refine A5Z (d:=36) hm (by rfl) (by rfl) (by rfl) (by rfl) gt2 A48 ?_;rw[hlk]|refine A0g ?_ hR|refine A1u ?_ hR|refine A1m ?_;replace hm:=hR.back hm;clear hR;try simp only[F7]at hm|refine J4 ?_ hm|refine J8 ?_ hm|refine U1 ?_ hm|refine D8 ?_|refine D5 ?_|refine J9 ?_|refine A1a ?_|refine Y7 ?_|refine E5 ?_|refine C9 ?_|refine D9 ?_|refine A7 ?_|refine E8 ?_|refine A8 ?_|refine F9 ?_|refine A0f ?_|refine L9 ?_;intro _ hkq;replace hm:=hm.kept0 hkq;clear hkq|refine E9 ?_|(refine D6 (ht:=fun _=>?_) (hf:=fun _=>?_)<;>try first|contradiction|omega)|refine P5 ?_|refine J5 ?_|refine G6 ?_|refine A1V ?_|refine Z4 ?_|refine S9 ?_|refine A08 ?_)
    all_goals try first|omega|contradiction
    exact⟨I,_,⟨rfl,zs,hz,rfl⟩,hm⟩
   ·have hr:A2k (o1,more) y.fr a=(Sp.upL o1 y.fr n1,true):=by rw[A2k,if_neg (by rw[<-hn1];exact heq),hn1]
    rw[hr];repeat' (first|refine A3Y (e:=109) (by kernel_rfl) (by rfl) (by rfl) (by rfl) (by rfl) ?_|refine A0K (id:=1) (hm.perm pm0) [0,1,2,3,4,5,6,7,8,9] [10] 11 (h:=?_);clear hm;intro wd hR hm|refine A6H (id:=3) (hm.perm pm1_2) [0,1,2,3,4,5,6,7,8,9] 13 (h:=?_);clear hm;intro wd hR hm|refine A83 (d:=24) hR (by rfl) (by rfl) (by rfl) (by rfl) gt2 A48 ?_;rw[hlk]|refine A5r (d:=26) ?_ hR hm (hc:=hj);clear hm;intro _ hm|refine Q9 (id:=2) 10 (h:=?_)|refine A5Z (d:=36) hm (by rfl) (by rfl) (by rfl) (by rfl) gt2 A48 ?_;rw[hlk]|refine B0C (d:=48) hm (by rfl) (by rfl) (by rfl) (by rfl) gt0 hz.nodup A48 ?_;clear hm;intro es1 j1 u1 _ hj1 hp1 hm;try simp only[F7]at hm|refine B3Q (d:=49) hm.kept (by rfl) (by rfl) (by rfl) (by rfl) ?_|refine A82 hm (by rfl) (by rfl) (by rfl) (by rfl) (by rfl) gt0 hj1 hp1 ?_;clear hm;intro _ hm;try simp only[F7]at hm|refine A4l (i:=10) ?_ (by decide+kernel)|refine A4l (i:=11) ?_ (by decide+kernel)|refine A4l (i:=12) ?_ (by decide+kernel)|refine B04 (by decide+kernel) ?_;replace hm:=hR.back hm;clear hR;try simp only[F7]at hm|refine A0g ?_ hR|refine A1u ?_ hR|refine A1m ?_;replace hm:=hR.back hm;clear hR;try simp only[F7]at hm|refine B07 ?_|refine J4 ?_ hm|refine J8 ?_ hm|refine U1 ?_ hm|refine J6 hm (k:=?_);clear hm;intro _ hm;try simp only[F7]at hm|refine D8 ?_|refine D5 ?_|refine J9 ?_|refine A1a ?_|refine Y7 ?_|refine E5 ?_|refine C9 ?_|refine D9 ?_|refine A7 ?_|refine E8 ?_|refine A8 ?_|refine F9 ?_|refine A0f ?_|refine L9 ?_;intro _ hkq;replace hm:=hm.kept0 hkq;clear hkq|refine E9 ?_|(refine D6 (ht:=fun _=>?_) (hf:=fun _=>?_)<;>try first|contradiction|omega)|refine P5 ?_|refine J5 ?_|refine G6 ?_|refine A1V ?_|refine Z4 ?_|refine S9 ?_|refine A08 ?_)
    all_goals try first|omega|contradiction
    exact⟨I,_,⟨rfl,_,hz.put y.fr n1,rfl⟩,hm.perm pmIn⟩
end
structure InE where
 k:Nat
 I:U0
section
variable {bd bf sp bo:Nat}{sc:List Loc}{o:Sp.Lab}{more:Bool}{sa:Option Addr}{zs:A1b}{its:List Sp.Itm}{a:Option Addr}{cp:Nat}{xs:List Value}
theorem B8a (hlab:A2o its) (hsl:A3x (A5F o (sc.map (·.1)))) (hl:sc.length<=1000000000):∀(n:Nat) (e:Sp.Ex),SizeOf.sizeOf e<=n->e.small->∀(I:U0) (b off tc:Nat) (ea:Option Addr) (ec:Nat) (ys:List Value),
  FE I its a cp xs->PtrI I bf 0 25 [.slice a its.length cp]->PtrI I b off tc (A0G e ea ec)->RowI I 107 6 (.slice ea e.args.length ec) e.args.length ys->V7 I e.args ys->
  CalM prog 75 #[ptr bd,.pointer (some ⟨b,off,none⟩)] I (A60 bd bf sc o more sa sp bo zs) (fun v _ H'=>v=nt (Sp.plainF its (A5F o (sc.map (·.1))) e)/\H'=A60 bd bf sc o more sa sp bo zs):=by
 intro n;induction n with
 |zero=>intro e h;cases e;simp at h
 |succ n ih=>
 intro e hsz hsm I b off tc ea ec ys hfe hpf hp hr hx;obtain⟨hal,hasm⟩:=A3s hsm;have hfew:=hfe.few;refine CalM.of fun w E hm=>enter (N:=71) func75 rfl [(0,ptr bd),(1,.pointer (some ⟨b,off,none⟩))] A1P rfl ?_
 rw[B5b];by_cases k2:e.kind=2
 ·rw[if_pos k2,B60]
  have hG:=B7L (bd:=bd) (bf:=bf) (sc:=sc) (o:=o) (more:=more) (sa:=sa) (sp:=sp) (bo:=bo) (zs:=zs) e.name I hl;repeat' (first|refine F6 (d:=19) ?_ hm (hp:=pm3_0) (hc:=hG);clear hm;rintro _ I2 _ w9 (⟨i,p,b2,hgi,hfl,rfl,rfl,rfl⟩|⟨hfl,bl,rfl,rfl⟩) hleI2 hm|refine A1U (i:=1) (d:=22) hm (by rfl) (by rfl) (by rfl) gt1 (by exact(A7u (o:=o) hgi).2.1) ?_|refine H8 ?_ hm|refine J4 ?_ hm|refine D8 ?_|refine D5 ?_|refine Q5 ?_|refine E5 ?_|refine C9 ?_|refine D9 ?_|refine A7 ?_|refine D7 ?_|refine E8 ?_|refine A8 ?_|refine F5 ?_|refine H7 ?_|refine H9 ?_|(refine D6 (ht:=fun _=>?_) (hf:=fun _=>?_)<;>try first|contradiction|omega))
  all_goals try omega
  all_goals rw[hfl]
  ·exact⟨I2,_,⟨rfl,rfl⟩,hm⟩
  ·exact⟨I2,_,⟨rfl,rfl⟩,Mem.tl hm⟩
 rw[if_neg k2];by_cases k3:e.kind=3
 ·rw[if_pos k3]
  repeat' (first|refine J4 ?_ hm|refine D8 ?_|refine D5 ?_|refine Q5 ?_|refine G8 ?_|refine E5 ?_|refine C9 ?_|refine D9 ?_|refine A7 ?_|refine E8 ?_|refine A8 ?_|refine F5 ?_|(refine D6 (ht:=fun _=>?_) (hf:=fun _=>?_)<;>try first|contradiction|omega))
  all_goals try omega
  refine X7 (fun x:InE=> [(0,ptr bd),(1,.pointer (some ⟨b,off,none⟩)),(5,nt (Sp.plainsF its (A5F o (sc.map (·.1))) (e.args.take x.k) 0)),(29,nt e.args.length),(30,nt x.k)])
   (fun x w'=>Mem E x.I (A60 bd bf sc o more sa sp bo zs) w'/\Le I x.I/\x.k<=e.args.length) (fun x=>e.args.length-x.k) ⟨0,I⟩
   (by dsimp only;rw[A07,Sp.plainsF];exact⟨rfl,rfl,rfl,rfl,rfl,trivial⟩) ⟨hm,Le.refl _,J7 _⟩ ?_
  clear hm;rintro⟨k,I2⟩ w2 ⟨hm,hle2,hk⟩;dsimp only at hm hle2 hk |-;have hp2:=hp.le hle2;have hrow:=hr.le hle2;have hlt1:=A51 hlab hsl (e.args.take k) 0 (by omega);by_cases hlt:k<e.args.length
  ·have hg:e.args[k]?=some e.args[k]:=G9 hlt
   have hsz2:=A3V (Q8 hlt);have hsm2:=A12 hasm hg;obtain⟨ea2,ec2,ys2,hc2,hr2,hx2⟩:=(hx.get hg).out;have hst:=A7E its (A5F o (sc.map (·.1))) hg 0;generalize e.args[k]=y at hg hsz2 hsm2 hc2 hr2 hx2 hst;have hlt2:=A3w hlab hsl y;have hc:=fun (b3 o3:Nat) (hp3:PtrI I2 b3 o3 107 (A0G y ea2 ec2))=>ih y (by omega) hsm2 I2 b3 o3 107 ea2 ec2 ys2 (hfe.le hle2) (hpf.le hle2) hp3 (hr2.le hle2) (V7.le hle2 _ _ hx2)
   generalize Sp.plainF its (A5F o (sc.map (·.1))) y=ny at hc hst hlt2;generalize Sp.plainsF its (A5F o (sc.map (·.1))) (e.args.take k) 0=nk at hst hlt1 |-;have hJ:=fun (J:U0)=>B52 J nk ny hlt1 hlt2
   repeat' (first|refine U3 (d:=40) ?_ (hr:=hrow);intro bt ot hpt;rw[show ((k:Int).toNat *6)=k *6 from rfl,hc2]at hpt|refine F6 (d:=41) ?_ hm (hp:=pm3_0) (hc:=hc bt ot hpt);clear hm;rintro _ I3 _ _ ⟨rfl,rfl⟩ hleI3 hm;try simp only[F7]at hm|refine P9 (d:=42) ?_ hm (hc:=hJ _);clear hm;intro _ hm|refine J4 ?_ hm|refine D8 ?_|refine D5 ?_|refine O0 ?_|refine E5 ?_|refine Q4 ?_|refine C9 ?_|refine D9 ?_|refine A7 ?_|refine D7 ?_|refine E8 ?_|refine A8 ?_|refine F5 ?_|refine F9 ?_|(refine D6 (ht:=fun _=>?_) (hf:=fun _=>?_)<;>try first|contradiction|omega))
   all_goals try omega
   rw[<-hst];exact N7 (⟨k+1,I3⟩:InE) (by exact⟨rfl,rfl,rfl,rfl,rfl,trivial⟩) ⟨hm,hle2.trans hleI3,by dsimp only;omega⟩ (by dsimp only;omega)
  ·obtain rfl:k=e.args.length:=by omega
   rw[A0b];repeat' (first|refine D8 ?_|refine D5 ?_|refine O0 ?_|refine D9 ?_|refine A7 ?_|refine G7 ?_|refine D7 ?_|refine G5 ?_|refine E8 ?_|refine A8 ?_|refine O7 ?_|refine H7 ?_|refine H9 ?_|(refine D6 (ht:=fun _=>?_) (hf:=fun _=>?_)<;>try first|contradiction|omega))
   all_goals try omega
   exact⟨I2,_,⟨rfl,rfl⟩,hm⟩
 rw[if_neg k3];by_cases k4:e.kind=4
 ·rw[if_pos k4,Sp.callLab]
  have hF:=A7g 2 e.name its I a cp xs hfe;have hri:=hfe.row;cases hf:A0M its 2 e.name with
  |some j=>
   rw[show A6h its 2 e.name=(j:Int) by rw[A6h,hf]]at hF;obtain⟨hjl,_⟩:=A2F hf;have hg:its[j]?=some its[j]:=G9 hjl;have hno:Z7 its j=its[j]:=by rw[Z7,U2,hg];rfl
   obtain⟨cs,hcs,hat,hl10⟩:=hfe.get hg;dsimp only
   rw[hno];generalize its[j]=it at hg hat
   obtain⟨ap,cp',as_,cs',ab,cb',ad,cd,xb,rfl,_⟩:=hat
   repeat' (first|refine A0K (id:=12) (hm.perm pm0) [0,1,2,3,4,5,6,7,8,9] [10] 11 (h:=?_);clear hm;intro wd hR hm|refine A0X (d:=51) ?_ hR (hp:=hpf)|refine A02 (d:=56) ?_ hm (hc:=hF);clear hm;rintro _ I2 _ _ ⟨rfl,rfl⟩ hle hm;have hleI2:=hle;try simp only[F7]at hm|refine U3 (d:=67) ?_ (hr:=hri.le hleI2);intro bt ot hpt;rw[show ((j:Int).toNat *10)=j *10 from rfl,hcs]at hpt|refine A0H (d:=65) ?_ hm (hp:=hpf.le hleI2)|refine A0g ?_ hR|refine A1u ?_ hR|refine A1m ?_;replace hm:=hR.back hm;clear hR;try simp only[F7]at hm|refine H8 ?_ hm|refine J4 ?_ hm|refine D8 ?_|refine D5 ?_|refine A1J ?_|refine Q5 ?_|refine E5 ?_|refine C9 ?_|refine D9 ?_|refine A7 ?_|refine D7 ?_|refine E8 ?_|refine A8 ?_|refine F5 ?_|refine H7 ?_|refine H9 ?_|refine F8 ?_|(refine D6 (ht:=fun _=>?_) (hf:=fun _=>?_)<;>try first|contradiction|omega)|refine A1V ?_|refine Z4 ?_|refine S9 ?_|refine A08 ?_)
   all_goals try first|omega|contradiction
   exact⟨I2,_,⟨rfl,rfl⟩,hm⟩
  |none=>
   rw[show A6h its 2 e.name= -1 by rw[A6h,hf]]at hF;repeat' (first|refine A0K (id:=12) (hm.perm pm0) [0,1,2,3,4,5,6,7,8,9] [10] 11 (h:=?_);clear hm;intro wd hR hm|refine A0X (d:=51) ?_ hR (hp:=hpf)|refine A02 (d:=56) ?_ hm (hc:=hF);clear hm;rintro _ I2 _ _ ⟨rfl,rfl⟩ hle hm;have hleI2:=hle;try simp only[F7]at hm|refine A0g ?_ hR|refine A1u ?_ hR|refine A1m ?_;replace hm:=hR.back hm;clear hR;try simp only[F7]at hm|refine J4 ?_ hm|refine D8 ?_|refine D5 ?_|refine A1J ?_|refine Q5 ?_|refine E5 ?_|refine C9 ?_|refine D9 ?_|refine A7 ?_|refine D7 ?_|refine E8 ?_|refine A8 ?_|refine F5 ?_|refine F9 ?_|refine H7 ?_|refine H9 ?_|refine E9 ?_|(refine D6 (ht:=fun _=>?_) (hf:=fun _=>?_)<;>try first|contradiction|omega)|refine A1V ?_|refine Z4 ?_|refine S9 ?_|refine A08 ?_)
   all_goals try first|omega|contradiction
   exact⟨I2,_,⟨rfl,rfl⟩,hm⟩
 ·rw[if_neg k4]
  repeat' (first|refine J4 ?_ hm|refine D8 ?_|refine D5 ?_|refine Q5 ?_|refine E5 ?_|refine C9 ?_|refine D9 ?_|refine A7 ?_|refine D7 ?_|refine E8 ?_|refine A8 ?_|refine F5 ?_|refine F9 ?_|refine H7 ?_|refine H9 ?_|(refine D6 (ht:=fun _=>?_) (hf:=fun _=>?_)<;>try first|contradiction|omega))
  all_goals try omega
  exact⟨I,_,⟨rfl,rfl⟩,hm⟩
end
end Go.Proofs
