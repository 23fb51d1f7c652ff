/- Own work. -/
import Derived.Test.YtbmbnippbldmfaaGreatDoorRa6
set_option maxHeartbeats 64000000
namespace Go.Sp
abbrev PE:=Nat->List UInt8->Nat->Nat->Nat->Nat->Prop
abbrev PS:=Nat->List UInt8->Nat->Nat->Bool->Nat->Nat->Prop
mutual
def Ex.all (p:PE):Ex->Prop
 | .mk k nm n args f t=>p k nm n args.length f t/\A2D p args
def A2D (p:PE):List Ex->Prop
 | []=>True
 |e::es=>e.all p/\A2D p es
 end
mutual
def Stm.all (p:PE) (q:PS):Stm->Prop
 | .mk k nm a lb o e thn els f t=>q k nm a lb o f t/\e.all p/\A0e p q thn/\A0e p q els
def A0e (p:PE) (q:PS):List Stm->Prop
 | []=>True
 |x::xs=>x.all p q/\A0e p q xs
 end
theorem B3v {p:PE}:∀ {l r:List Ex},A2D p l->A2D p r->A2D p (l++r)
 | [],r,_,h=>h
 |e::l,r,h,g=>by
  rw[A2D]at h;rw[Q8,A2D];exact⟨h.1,B3v h.2 g⟩
theorem B3w {p:PE}{e:Ex} (h:e.all p):A2D p [e]:=by rw[A2D,A2D];exact⟨h,trivial⟩
theorem A6D {p:PE}:A2D p []:=by rw[A2D];trivial
theorem A0o {p:PE}{q:PS}:A0e p q []:=by rw[A0e];trivial
theorem B52 {p:PE}{q:PS}:∀ {l r:List Stm},A0e p q l->A0e p q r->A0e p q (l++r)
 | [],r,_,h=>h
 |e::l,r,h,g=>by
  rw[A0e]at h;rw[Q8,A0e];exact⟨h.1,B52 h.2 g⟩
theorem C3Z {p:PE}{q:PS}{e:Stm} (h:e.all p q):A0e p q [e]:=by rw[A0e,A0e];exact⟨h,trivial⟩
theorem A8M {p:PE}:∀ {l:List Ex}{i:Nat}{e:Ex},A2D p l->l[i]?=some e->e.all p
 | [],_,_,_,h=>by simp at h
 |a::l,0,e,h,hg=>by
  rw[A2D]at h;simp only[A08,X4]at hg;subst hg;exact h.1
 |a::l,i+1,e,h,hg=>by
  rw[A2D]at h;rw[A02]at hg;exact A8M h.2 hg
theorem A60 {p:PE}{q:PS}:∀ {l:List Stm}{i:Nat}{e:Stm},A0e p q l->l[i]?=some e->e.all p q
 | [],_,_,_,h=>by simp at h
 |a::l,0,e,h,hg=>by
  rw[A0e]at h;simp only[A08,X4]at hg;subst hg;exact h.1
 |a::l,i+1,e,h,hg=>by
  rw[A0e]at h;rw[A02]at hg;exact A60 h.2 hg
theorem A6o {p:PE}{k n f t:Nat}{nm:List UInt8} (h:p k nm n 0 f t):(Ex.mk k nm n [] f t).all p:=by rw[Ex.all];exact⟨h,A6D⟩
theorem Ex.all_node {p:PE}{e:Ex} (h:e.all p):p e.kind e.name e.n e.args.length e.fr e.to/\A2D p e.args:=by
 cases e;rw[Ex.all]at h;exact h
theorem Stm.all_node {p:PE}{q:PS}{e:Stm} (h:e.all p q):q e.kind e.name e.at_ e.label e.opn e.fr e.to/\e.e.all p/\A0e p q e.thn/\A0e p q e.els:=by
 cases e;rw[Stm.all]at h;exact h
mutual
theorem Ex.all_mono {p q:PE} (h:∀k nm n m f t,p k nm n m f t->q k nm n m f t):∀(e:Ex),e.all p->e.all q
 | .mk k nm n args f t,ha=>by rw[Ex.all]at ha |-;exact⟨h _ _ _ _ _ _ ha.1,B5M h args ha.2⟩
theorem B5M {p q:PE} (h:∀k nm n m f t,p k nm n m f t->q k nm n m f t):∀(l:List Ex),A2D p l->A2D q l
 | [],_=>A6D
 |e::l,ha=>by rw[A2D]at ha |-;exact⟨Ex.all_mono h e ha.1,B5M h l ha.2⟩
 end
mutual
theorem Stm.all_mono {p q:PE}{r s:PS} (h:∀k nm n m f t,p k nm n m f t->q k nm n m f t) (g:∀k nm a l o f t,r k nm a l o f t->s k nm a l o f t):∀(e:Stm),e.all p r->e.all q s
 | .mk k nm a lb o e thn els f t,ha=>by rw[Stm.all]at ha |-;exact⟨g _ _ _ _ _ _ _ ha.1,Ex.all_mono h e ha.2.1,A7l h g thn ha.2.2.1,A7l h g els ha.2.2.2⟩
theorem A7l {p q:PE}{r s:PS} (h:∀k nm n m f t,p k nm n m f t->q k nm n m f t) (g:∀k nm a l o f t,r k nm a l o f t->s k nm a l o f t):∀(l:List Stm),A0e p r l->A0e q s l
 | [],_=>A0o
 |e::l,ha=>by rw[A0e]at ha |-;exact⟨Stm.all_mono h g e ha.1,A7l h g l ha.2⟩
 end
structure AtE (T:Src) (p:PE):Prop where
 zero:p 0 [] 0 0 0 0
 bad:∀i,p 5 [] 0 0 (T.tok i).pos (T.tok i).pos
 num:∀i n,n<=1000000000->(T.tok i).kind=2->p 1 [] n 0 (T.tok i).pos ((T.tok i).pos+(T.tok i).text.length)
 var:∀i,name (T.tok i).text=true->p 2 (T.tok i).text 0 0 (T.tok i).pos ((T.tok i).pos+(T.tok i).text.length)
 call:∀i j m,name (T.tok i).text=true->m<=5->i+2<=j->p 4 (T.tok i).text 0 m (T.tok i).pos (T.endOf j)
 op:∀i k1 n1 v1 m1 f1 t1 k2 n2 v2 m2 f2 t2,A0u (T.tok i).text≠0->p k1 n1 v1 m1 f1 t1->p k2 n2 v2 m2 f2 t2->p 3 (T.tok i).text 0 2 f1 (max t2 t1)
theorem C1R {T:Src}{p:PE} (h:AtE T p):∀f,(∀d s,(A3W T f d s).1.all p)/\(∀d l s,l.length<=5->A2D p l->(A5h T f d l s).1.length<=5/\A2D p (A5h T f d l s).1)/\
  (∀d m s,(A1b T f d m s).1.all p)/\(∀d m e s,e.all p->(opL T f d m e s).1.all p)
 |0=>⟨fun _ _=>by rw[A3W];exact A6o h.zero,fun _ _ _ h1 h2=>by rw[A5h];exact⟨h1,h2⟩,fun _ _ _=>by rw[A1b];exact A6o h.zero,fun _ _ _ _ h1=>by rw[opL];exact h1⟩
 |f+1=>by
  obtain⟨hA,hL,hE,hO⟩:=C1R h f;refine⟨fun d s=>?_,fun d l s h1 h2=>?_,fun d m s=>?_,fun d m e s h1=>?_⟩
  ·rw[A3W]
   dsimp only
   split
   ·exact A6o (h.bad _)
   ·split
    ·exact A6o (h.bad _)
    ·split
     ·rename_i hk
      split
      ·exact A6o (h.num _ 0 (by omega) hk)
      ·exact A6o (h.num _ _ (by omega) hk)
     ·split
      ·exact hE _ _ _
      ·split
       ·exact A6o (h.bad _)
       ·rename_i hn
        have hn':name (T.tok s.i).text=true:=by simpa using hn
        split
        ·exact A6o (h.var _ hn')
        ·obtain⟨h1,h2⟩:=hL (d+1) [] s.next.next (by simp) A6D
         dsimp only
         rw[Ex.all];have h3:=((A13 T f).2.1 (d+1) [] s.next.next).le;have h4:=(A1k T (A5h T f (d+1) [] s.next.next).2 [41]).le;rw[U7,U7]at h3;exact⟨h.call _ _ _ hn' h1 (by omega),h2⟩
  ·rw[A5h]
   split
   ·exact⟨h1,h2⟩
   ·split
    ·exact⟨h1,h2⟩
    ·have h3:=hE d 1 s
     have h4:(l++ [(A1b T f d 1 s).1]).length<=5:=by simp;omega
     have h5:=B3v h2 (B3w h3);dsimp only
     split
     ·exact hL _ _ _ h4 h5
     ·exact⟨h4,h5⟩
  ·rw[A1b]
   try dsimp only
   exact hO _ _ _ _ (hA d s)
  ·rw[opL]
   try dsimp only
   split
   ·exact h1
   ·rename_i ht
    refine hO _ _ _ _ ?_
    have h3:=hE d (A0u (T.tok s.i).text+1) s.next;generalize (A1b T f d (A0u (T.tok s.i).text+1) s.next).1=r at h3 |-;cases e with
    |mk k1 n1 v1 a1 f1 t1=>
    cases r with
    |mk k2 n2 v2 a2 f2 t2=>
    have g1:=h1;have g3:=h3;rw[Ex.all]at g1 g3;rw[Ex.all];exact⟨h.op _ _ _ _ _ _ _ _ _ _ _ _ _ (by omega) g1.1 g3.1,B3v (B3w h1) (B3w h3)⟩
structure AtS (T:Src) (q:PS):Prop where
 zero:q 0 [] 0 0 false 0 0
 let_:∀i (s:St) lb o j,lb<=255->q 1 (s.named T).1 (T.tok s.i).pos lb o (T.tok i).pos (max (T.endOf j) (T.tok i).pos)
 set:∀i j,name (T.tok i).text=true->q 2 (T.tok i).text (T.tok i).pos 0 false (T.tok i).pos (max (T.endOf j) (T.tok i).pos)
 plain:∀k i j,(k=3\/k=4\/k=6\/k=7\/k=8)->q k [] 0 0 false (T.tok i).pos (max (T.endOf j) (T.tok i).pos)
 send:∀i (s:St) j,q 5 (s.named T).1 (T.tok s.i).pos 0 false (T.tok i).pos (max (T.endOf j) (T.tok i).pos)
theorem D66 (a:Nat) (ha:a<256) (q:Nat) (hq:q<8) (h:bit a q=false):a+2 ^ q<256:=by
 have key:∀a<256,∀q<8,bit a q=false->a+2 ^ q<256:=by decide+kernel
 exact key a ha q hq h
theorem B4k (T:Src):∀(f n:Nat) (s:St),n<256->(B0H T f n s).1<256
 |0,n,s,h=>h
 |f+1,n,s,h=>by
  rw[B0H];split
  ·exact h
  ·dsimp only
   split
   ·exact h
   ·rename_i h2
    generalize hqd:((T.tok s.i).text.getD 0 0).toNat-97=q;have hq:q<8:=by
     simp only[C6n,A9s,Bool.not_eq_false',Q3,decide_eq_true_eq]at h2;omega
    cases hb:bit n q with
    |true=>
     simp only[if_true];split
     ·exact B4k T f _ _ h
     ·split
      ·exact B4k T f _ _ h
      ·exact h
    |false=>
     have hn:=D66 n h q hq hb;simp only[A3A,if_false];split
     ·exact B4k T f _ _ hn
     ·split
      ·exact B4k T f _ _ hn
      ·exact hn
theorem B17 (T:Src) (s:St):(lab T s).1<256:=by
 rw[lab];split
 ·exact B4k T _ _ _ (by decide)
 ·dsimp only;omega
theorem B8U {T:Src}{p:PE}{q:PS} (h:AtE T p) (g:AtS T q):∀f,(∀d s,A0e p q (block T f d s).1)/\(∀d l s,A0e p q l->A0e p q (A5U T f d l s).1)/\(∀d s,(stm T f d s).1.all p q)
 |0=>⟨fun _ _=>by rw[block];exact A0o,fun _ _ _ h1=>by rw[A5U];exact h1,fun _ s=>by
   rw[stm];show (Stm.mk 0 [] 0 0 false (.mk 0 [] 0 [] 0 0) [] [] 0 0).all p q
   rw[Stm.all];exact⟨g.zero,A6o h.zero,A0o,A0o⟩⟩
 |f+1=>by
  obtain⟨hB,hL,hS⟩:=B8U h g f;have hE:=(C1R h f).2.2.1;refine⟨fun d s=>?_,fun d l s h1=>?_,fun d s=>?_⟩
  ·rw[block]
   split
   ·exact A0o
   ·split
    ·exact A0o
    ·dsimp only
     exact hL _ _ _ A0o
  ·rw[A5U]
   split
   ·exact h1
   ·split
    ·exact h1
    ·dsimp only
     exact hL _ _ _ (B52 h1 (C3Z (hS d s)))
  ·rw[stm]
   dsimp only
   split
   ·rw[Stm.all]
    refine⟨g.let_ s.i s.next _ _ _ ?_,hE _ _ _,A0o,A0o⟩
    split
    ·dsimp only;omega
    ·exact B0T (B17 T _)
   ·split
    ·split
     ·dsimp only;rw[Stm.all];exact⟨g.plain _ _ _ (.inl rfl),hE _ _ _,hB _ _,hB _ _⟩
     ·dsimp only;rw[Stm.all];exact⟨g.plain _ _ _ (.inl rfl),hE _ _ _,hB _ _,A0o⟩
    ·split
     ·rw[Stm.all];exact⟨g.plain _ _ _ (.inr (.inl rfl)),hE _ _ _,hB _ _,A0o⟩
     ·split
      ·rw[Stm.all];exact⟨g.send s.i s.next _,hE _ _ _,A0o,A0o⟩
      ·split
       ·rw[Stm.all];exact⟨g.plain _ _ _ (.inr (.inr (.inl rfl))),hE _ _ _,A0o,A0o⟩
       ·split
        ·rename_i hn
         split
         ·rw[Stm.all];exact⟨g.set _ _ hn,hE _ _ _,A0o,A0o⟩
         ·rw[Stm.all];exact⟨g.plain _ _ _ (.inr (.inr (.inr (.inl rfl)))),hE _ _ _,A0o,A0o⟩
        ·rw[Stm.all]
         refine⟨g.plain _ _ _ (.inr (.inr (.inr (.inr rfl)))),?_,A0o,A0o⟩
         exact A6o h.zero
theorem C1S {T:Src}{r:Par->Prop} (h:∀(s:St) lb,lb<=255->r ⟨(s.named T).1,lb,(T.tok s.i).pos⟩):∀(f:Nat) (l:List Par) (s:St),(∀x∈l,r x)->∀x∈(A52 T f l s).1,r x
 |0,l,s,h1=>by rw[A52];exact h1
 |f+1,l,s,h1=>by
  rw[A52];split
  ·exact h1
  ·split
   ·exact h1
   ·dsimp only
    split
    ·exact h1
    ·have h2:∀lb,lb<=255->∀x∈l++ [⟨(s.named T).1,lb,(T.tok s.i).pos⟩],r x:=fun lb hl x hx=>by
      rcases Y5.1 hx with hx|hx
      ·exact h1 x hx
      ·obtain rfl:=A0q.1 hx
       exact h s lb hl
     have h3:=fun s=>B0T (B17 T s)
     split
     ·exact C1S h f _ _ (h2 _ (h3 _))
     ·exact h2 _ (h3 _)
theorem C1T {T:Src}{r:Rf->Prop} (h:∀(s:St),r ⟨(s.named T).1,(T.tok s.i).pos⟩):∀(f:Nat) (l:List Rf) (s:St),(∀x∈l,r x)->∀x∈(A5T T f l s).1,r x
 |0,l,s,h1=>by rw[A5T];exact h1
 |f+1,l,s,h1=>by
  rw[A5T];split
  ·exact h1
  ·dsimp only
   have h2:∀x∈l++ [⟨(s.named T).1,(T.tok s.i).pos⟩],r x:=fun x hx=>by
    rcases Y5.1 hx with hx|hx
    ·exact h1 x hx
    ·obtain rfl:=A0q.1 hx
     exact h s
   split
   ·exact C1T h f _ _ h2
   ·exact h2
structure ItAll (T:Src) (p:PE) (q:PS) (r:Par->Prop) (t:Rf->Prop) (it:Itm):Prop where
 body:A0e p q it.body
 params:∀x∈it.params,r x
 sends:∀x∈it.sends,t x
 few:it.params.length<=5/\it.sends.length<=5/\it.body.length<=40
 label:it.label<=255
 kind:1<=it.kind/\it.kind<=3
 mark:(it.name= []/\((∃i,it.mark=(T.tok i).pos)\/it.mark=0))\/∃s:St,it.name=(s.named T).1/\it.mark=(T.tok s.i).pos
 bad:it.kind=3->it.name= []/\it.label=0/\it.params= []/\it.sends= []/\it.body= []
 chan:it.kind=1->it.params= []/\it.sends= []/\it.body= []
theorem B4i {src:List UInt8}{p:PE}{q:PS}{r:Par->Prop}{t:Rf->Prop} (at_:Int) (h:AtE ⟨Q5 src,src.length⟩ p) (g:AtS ⟨Q5 src,src.length⟩ q)
  (hr:∀(s:St) lb,lb<=255->r ⟨(s.named ⟨Q5 src,src.length⟩).1,lb,((⟨Q5 src,src.length⟩:Src).tok s.i).pos⟩)
  (ht:∀(s:St),t ⟨(s.named ⟨Q5 src,src.length⟩).1,((⟨Q5 src,src.length⟩:Src).tok s.i).pos⟩):ItAll ⟨Q5 src,src.length⟩ p q r t (item src at_):=by
 rw[item];generalize (⟨Q5 src,src.length⟩:Src)=T at h g hr ht |-;dsimp only
 split
 ·dsimp only[A7Z]
  have h6:∀(c:Bool) (y z:St),∀x∈(if c=true then A5T T 6 [] y else ([],z)).1,t x:=fun c y z=>by
   split
   ·exact C1T ht _ _ _ (by simp)
   ·simp
  have l6:∀(c:Bool) (y z:St),(if c=true then A5T T 6 [] y else ([],z)).1.length<=5:=fun c y z=>by
   split
   ·exact(B2k T 6 [] _ (by simp)).1
   ·simp
  exact⟨(B8U h g _).1 _ _,C1S hr _ _ _ (by simp),h6 _ _ _,⟨(B2c T 6 [] _ (by simp)).1,l6 _ _ _,((B2j T _).1 _ _).1⟩,B0T (B17 T _),⟨by simp,by simp⟩,.inr ⟨⟨1,[]⟩,rfl,rfl⟩,fun h=>(by simp at h),fun h=>(by simp at h)⟩
 ·split
  ·dsimp only[B29]
   exact⟨A0o,by simp,by simp,⟨by simp,by simp,by simp⟩,B0T (B17 T _),⟨by simp,by simp⟩,.inr ⟨⟨1,[]⟩,rfl,rfl⟩,fun h=>(by simp at h),fun _=>⟨rfl,rfl,rfl⟩⟩
  ·dsimp only
   exact⟨A0o,by simp,by simp,⟨by simp,by simp,by simp⟩,by simp,⟨by simp,by simp⟩,.inl ⟨rfl,.inr rfl⟩,fun _=>⟨rfl,rfl,rfl,rfl,rfl⟩,fun h=>(by simp at h)⟩
def B24:PS:=fun _ _ _ l _ _ _=>l<256
def B1L:PE:=fun _ _ _ _ _ _=>True
mutual
def Ex.spine:Ex->Prop
 | .mk k nm _ args _ _=>k=2\/k=4\/(k=3/\C56 args nm)
def C56:List Ex->List UInt8->Prop
 | [],_=>False
 |a::_,nm=>a.spine/\(a.kind=3->A0u nm<=A0u a.name)/\(a.kind=2->nm≠ [61])
 end
mutual
def Stm.fitS:Stm->Nat->Prop
 | .mk k nm _ lb o e thn els _ _,d=>e.fitE d 1/\
  ((k=1/\name nm=true/\lb<256/\(o=true->lb=0)/\thn= []/\els= [])\/
   (k=2/\name nm=true/\lb=0/\o=false/\thn= []/\els= [])\/
   (k=5/\name nm=true/\lb=0/\o=false/\thn= []/\els= [])\/
   (k=6/\nm= []/\lb=0/\o=false/\thn= []/\els= [])\/
   (k=7/\nm= []/\lb=0/\o=false/\thn= []/\els= []/\e.spine)\/
   ((k=3\/k=4/\els= [])/\nm= []/\lb=0/\o=false/\d<12/\thn.length<=40/\els.length<=40/\A0J thn (d+1)/\A0J els (d+1)))
def A0J:List Stm->Nat->Prop
 | [],_=>True
 |x::xs,d=>x.fitS d/\A0J xs d
 end
theorem B4A:∀ {l:List Stm}{d:Nat}{x:Stm},A0J l d->x.fitS d->A0J (l++ [x]) d
 | [],d,e,_,he=>by rw[L9,A0J,A0J];exact⟨he,trivial⟩
 |a::l,d,e,h,he=>by rw[A0J]at h;rw[Q8,A0J];exact⟨h.1,B4A h.2 he⟩
structure Itm.fitI (it:Itm):Prop where
 named:Sp.name it.name=true
 label:it.label<256
 kind:it.kind=2\/it.kind=1/\it.params= []/\it.sends= []/\it.body= []
 params:it.params.length<=5/\∀p∈it.params,Sp.name p.name=true/\p.label<256
 sends:it.sends.length<=5/\∀p∈it.sends,Sp.name p.name=true
 body:it.body.length<=40/\A0J it.body 1
 none:it.diags= []
def D5Z (T:Src):Prop:= ∀i,(T.tok i).kind=2->name (T.tok i).text=false
theorem C3V {T:Src}:∀f d m (e:Ex) (s:St),e.spine->(e.kind=3->A0u (T.tok s.i).text<=A0u e.name)->(e.kind=2->(T.tok s.i).text≠ [61])->3 *(T.l.length-s.i)+1<=f->(opL T f d m e s).2.ds= []->(opL T f d m e s).1.spine
 |0,_,_,_,_,_,_,_,h,_=>by omega
 |f+1,d,m,e,s,h1,h2,h3,hf,h=>by
  rw[opL]at h |-;dsimp only at h |-;by_cases c1:A0u (T.tok s.i).text<m\/A0u (T.tok s.i).text=0
  ·rw[if_pos c1];exact h1
  rw[if_neg c1]at h |-;have c0:=A3E (B4G (fun e=>c1 (.inr e)));obtain⟨g1,g2,g3⟩:=(B2A T f).2.2.1 d (A0u (T.tok s.i).text+1) s.next (by rw[U7];omega) (((A5q T f).2.2.2 _ _ _ _).clean h);rw[U7]at g2;refine C3V f d m _ _ ?_ (fun _=>?_) (fun h=>(by cases h)) (by omega) h
  ·rw[Ex.spine]
   refine .inr (.inr ⟨rfl,?_⟩)
   rw[C56];exact⟨h1,h2,h3⟩
  ·show A0u _<=A0u (T.tok s.i).text
   rcases g3 with g3|g3<;>omega
theorem C57 {T:Src} (hN:D5Z T) (f d:Nat) (s:St) (hn:name (T.tok s.i).text=true) (he:T.is (s.i+1) [61]=false) (hf:3 *(T.l.length-s.i)+3<=f) (h:(A1b T f d 1 s).2.ds= []):(A1b T f d 1 s).1.spine:=by
 obtain⟨f,rfl⟩:∃g,f=g+1+1:=⟨f-2,by omega⟩;rw[A1b]at h |-;have ha:=((A5q T (f+1)).2.2.2 _ _ _ _).clean h;have hlt:=A3E (A7e hn);have hg:=((B2A T (f+1)).1 d s (by omega) ha).2;have key:(A3W T (f+1) d s).1.spine/\(A3W T (f+1) d s).1.kind≠3/\((A3W T (f+1) d s).1.kind=2->(T.tok (A3W T (f+1) d s).2.i).text≠ [61]):=by
  rw[A3W]at ha |-;dsimp only at ha |-;rw[if_neg (by omega)]at ha |-;by_cases c2:12<=d
  ·rw[if_pos c2]at ha;exact absurd ha (A32 _ _ _)
  rw[if_neg c2]at ha |-;rw[if_neg (fun e=>by rw[hN _ e]at hn;cases hn)]at ha |-;rw[if_neg (fun e=>by rw[e]at hn;revert hn;decide),if_neg (by simp[hn])]at ha |-;by_cases c6:T.is (s.i+1) [40]=true
  ·rw[if_neg (by simp[c6])]
   dsimp only
   refine⟨?_,(fun h=>(by cases h)),(fun h=>(by cases h))⟩
   rw[Ex.spine];exact .inr (.inl rfl)
  ·rw[if_pos (by simp[c6])]
   dsimp only
   refine⟨?_,(fun h=>(by cases h)),fun _ e=>?_⟩
   ·rw[Ex.spine];exact .inl rfl
   ·have:T.is (s.i+1) [61]=true:=by
     have hl:s.i+1<T.l.length:=A3E (i:=s.i+1) (by rw[show (T.tok (s.i+1)).text= [61] from e];simp);rw[Src.is,decide_eq_true hl,decide_eq_true (show (T.tok (s.i+1)).text= [61] from e)];rfl
    rw[he]at this;cases this
 exact C3V _ _ _ _ _ key.1 (fun h=>absurd h key.2.1) key.2.2 (by omega) h
theorem B7w {T:Src} (hN:D5Z T):∀f,(∀d s,5 *(T.l.length-s.i)+2<=f->(block T f d s).2.ds= []->d<12/\(block T f d s).1.length<=40/\A0J (block T f d s).1 (d+1))/\
  (∀d l s,5 *(T.l.length-s.i)+6<=f->(A5U T f d l s).2.ds= []->l.length<=40->A0J l d->(A5U T f d l s).1.length<=40/\A0J (A5U T f d l s).1 d)/\
  (∀d s,5 *(T.l.length-s.i)+5<=f->(stm T f d s).2.ds= []->(stm T f d s).1.fitS d)
 |0=>⟨fun _ _ h=>by omega,fun _ _ _ h=>by omega,fun _ s h=>by omega⟩
 |f+1=>by
  obtain⟨hB,hL,hS⟩:=B7w hN f;obtain⟨rB,rL,rS⟩:=A87 T f;have rE:=(A5q T f).2.2.1;have gE:=(B2A T f).2.2.1;refine⟨fun d s hf h=>?_,fun d l s hf h hl hx=>?_,fun d s hf h=>?_⟩
  ·rw[block]at h |-
   by_cases c1:T.is s.i [123]=true
   ·rw[if_neg (by simp[c1])]at h |-
    have c0:=A22 c1;by_cases c2:12<=d
    ·rw[if_pos c2]at h;exact absurd h (A32 _ _ _)
    rw[if_neg c2]at h |-;dsimp only at h |-;obtain⟨g1,g2⟩:=hL (d+1) [] s.next (by rw[U7];omega) ((A0H T _ _).clean h) (H9 _) (by rw[A0J];trivial);exact⟨by omega,g1,g2⟩
   ·rw[if_pos (by simp[c1])]at h;exact absurd h (A32 _ _ _)
  ·rw[A5U]at h |-
   by_cases c1:T.l.length<=s.i\/T.is s.i [125]=true
   ·rw[if_pos c1];exact⟨hl,hx⟩
   rw[if_neg c1]at h |-;have c0:s.i<T.l.length:=by omega
   by_cases c2:40<=l.length
   ·rw[if_pos c2]at h;exact absurd h (A32 _ _ _)
   rw[if_neg c2]at h |-;dsimp only at h |-;have hs:=(rL _ _ _).clean h;have hs2:(stm T f d s).2.ds= []:=by
    split at hs
    ·exact hs
    ·exact hs
   have ho:s.i+1<=(stm T f d s).2.i:=by
    obtain⟨f',rfl⟩:∃f',f=f'+3:=⟨f-3,by omega⟩;exact(D65 f' d s).resolve_left (fun hh=>hh hs2)
   rw[if_neg (by omega)]at h |-;exact hL d _ _ (by omega) h (by rw[D9,A0X];omega) (B4A hx (hS d s (by omega) hs2))
  ·have lt:∀t:List UInt8,t≠ []->(T.tok s.i).text=t->s.i<T.l.length:=fun t ht e=>A3E (by rw[e];exact ht)
   have hn:s.next.i=s.i+1:=rfl;rw[stm]at h |-;dsimp only at h |-;by_cases c1:(T.tok s.i).text= [108,101,116]
   ·rw[if_pos c1]at h |-
    have h0:=lt _ (by simp) c1;have e2:=(A0H T _ _).clean h;have e1:=(A0H T _ _).clean ((rE _ _ _).clean e2);have u2:=(A0H T (if (!T.is (s.next.named T).2.i [58])=true then ((0:Nat),(s.next.named T).2) else lab T (s.next.named T).2.next).2 [61]).on;have g2:Runs T (s.next.named T).2 (if (!T.is (s.next.named T).2.i [58])=true then ((0:Nat),(s.next.named T).2) else lab T (s.next.named T).2.next).2:=by
     split
     ·exact .refl _
     ·exact(A1l T _).trans (A7j T _)
    have e0:=B0e (g2.clean e1);have u1:=g2.on;have u0:s.next.i+1<=(s.next.named T).2.i:=by rw[e0.2];exact H7 _
    dsimp only at h |-;obtain⟨q1,_⟩:=gE d 1 _ (by omega) e2;rw[Stm.fitS];refine⟨q1,.inl ⟨rfl,by rw[e0.2];exact e0.1,?_,?_,rfl,rfl⟩⟩
    ·split
     ·exact Nat.zero_lt_succ _
     ·exact B17 _ _
    ·intro ho
     rw[if_pos ho]
   rw[if_neg c1]at h |-;by_cases c2:(T.tok s.i).text= [105,102]
   ·rw[if_pos c2]at h |-
    have h0:=lt _ (by simp) c2;have u1:=(rE d 1 s.next).on;have u2:=(rB d (A1b T f d 1 s.next).2).on;by_cases c5:T.is (block T f d (A1b T f d 1 s.next).2).2.i [101,108,115,101]=true
    ·rw[if_pos c5]at h |-
     dsimp only at h |-;have e2:=((A1l T _).trans (rB _ _)).clean h;have e1:=(rB _ _).clean e2;obtain⟨q1,_⟩:=gE d 1 s.next (by omega) e1;obtain⟨b1,b2,b3⟩:=hB d _ (by omega) e2;obtain⟨b4,b5,b6⟩:=hB d _ (by rw[U7];omega) h;rw[Stm.fitS];exact⟨q1,.inr (.inr (.inr (.inr (.inr ⟨.inl rfl,rfl,rfl,rfl,b1,b2,b5,b3,b6⟩))))⟩
    ·rw[if_neg c5]at h |-
     dsimp only at h |-;have e1:=(rB _ _).clean h;obtain⟨q1,_⟩:=gE d 1 s.next (by omega) e1;obtain⟨b1,b2,b3⟩:=hB d _ (by omega) h;rw[Stm.fitS];exact⟨q1,.inr (.inr (.inr (.inr (.inr ⟨.inl rfl,rfl,rfl,rfl,b1,b2,H9 _,b3,by rw[A0J];trivial⟩))))⟩
   rw[if_neg c2]at h |-;by_cases c3:(T.tok s.i).text= [119,104,105,108,101]
   ·rw[if_pos c3]at h |-
    have h0:=lt _ (by simp) c3;have u1:=(rE d 1 s.next).on;dsimp only at h |-;have e1:=(rB _ _).clean h;obtain⟨q1,_⟩:=gE d 1 s.next (by omega) e1;obtain⟨b1,b2,b3⟩:=hB d _ (by omega) h;rw[Stm.fitS];exact⟨q1,.inr (.inr (.inr (.inr (.inr ⟨.inr ⟨rfl,rfl⟩,rfl,rfl,rfl,b1,b2,H9 _,b3,by rw[A0J];trivial⟩))))⟩
   rw[if_neg c3]at h |-;by_cases c4:(T.tok s.i).text= [115,101,110,100]
   ·rw[if_pos c4]at h |-
    have h0:=lt _ (by simp) c4;have e2:=(A0H T _ _).clean h;have e0:=B0e ((rE _ _ _).clean e2);have u0:=(A4t T s.next).on;dsimp only at h |-;obtain⟨q1,_⟩:=gE d 1 _ (by omega) e2;rw[Stm.fitS];exact⟨q1,.inr (.inr (.inl ⟨rfl,by rw[e0.2];exact e0.1,rfl,rfl,rfl,rfl⟩))⟩
   rw[if_neg c4]at h |-;by_cases c5:(T.tok s.i).text= [114,101,116,117,114,110]
   ·rw[if_pos c5]at h |-
    have h0:=lt _ (by simp) c5;have e2:=(A0H T _ _).clean h;dsimp only at h |-;obtain⟨q1,_⟩:=gE d 1 _ (by omega) e2;rw[Stm.fitS];exact⟨q1,.inr (.inr (.inr (.inl ⟨rfl,rfl,rfl,rfl,rfl,rfl⟩)))⟩
   rw[if_neg c5]at h |-;by_cases c6:name (T.tok s.i).text=true
   ·rw[if_pos c6]at h |-
    have h0:=A3E (A7e c6);by_cases c7:T.is (s.i+1) [61]=true
    ·rw[if_pos c7]at h |-
     have h1:=A22 c7;have e2:=(A0H T _ _).clean h;dsimp only at h |-;obtain⟨q1,_⟩:=gE d 1 s.next.next (by rw[U7,U7];omega) e2;rw[Stm.fitS];exact⟨q1,.inr (.inl ⟨rfl,c6,rfl,rfl,rfl,rfl⟩)⟩
    ·rw[if_neg c7]at h |-
     have e2:=(A0H T _ _).clean h;dsimp only at h |-;obtain⟨q1,_⟩:=gE d 1 s (by omega) e2;rw[Stm.fitS];exact⟨q1,.inr (.inr (.inr (.inr (.inl ⟨rfl,rfl,rfl,rfl,rfl,rfl,C57 hN f d s c6 (by simpa using c7) (by omega) e2⟩))))⟩
   ·rw[if_neg c6]at h
    exact absurd h (A32 _ _ _)
theorem B9s (T:Src):∀(f:Nat) (l:List Par) (s:St),(A52 T f l s).2.ds= []->l.length<=5->(∀p∈l,name p.name=true/\p.label<256)->(A52 T f l s).1.length<=5/\∀p∈(A52 T f l s).1,name p.name=true/\p.label<256
 |0,l,s,_,h1,h2=>by rw[A52];exact⟨h1,h2⟩
 |f+1,l,s,h,h1,h2=>by
  rw[A52]at h |-;by_cases c1:T.l.length<=s.i\/T.is s.i [41]=true
  ·rw[if_pos c1];exact⟨h1,h2⟩
  rw[if_neg c1]at h |-;by_cases c2:5<=l.length
  ·rw[if_pos c2]at h;exact absurd h (A32 _ _ _)
  rw[if_neg c2]at h |-;dsimp only at h |-;by_cases c3:(!((s.named T).2.need T [58]).1)=true
  ·rw[if_pos c3]at h
   have:=C0X h;rw[St.need,if_pos this.1]at c3;cases c3
  rw[if_neg c3]at h |-;have hx:∀(h:(lab T ((s.named T).2.need T [58]).2).2.ds= []),∀p∈l++ [⟨(s.named T).1,(lab T ((s.named T).2.need T [58]).2).1,(T.tok s.i).pos⟩],name p.name=true/\p.label<256:=fun h p hp=>by
   have e0:=B0e ((A0H T _ _).clean ((A7j T _).clean h));rcases Y5.1 hp with hp|hp
   ·exact h2 p hp
   ·obtain rfl:=A0q.1 hp
    exact⟨by rw[e0.2];exact e0.1,B17 _ _⟩
  have hl:∀p:Par,(l++ [p]).length<=5:=fun p=>by rw[D9,A0X];omega
  by_cases c4:T.is (lab T ((s.named T).2.need T [58]).2).2.i [44]=true
  ·rw[if_pos c4]at h |-
   have:=(B2N T _ _ _).clean h;exact B9s T f _ _ h (hl _) (hx this)
  ·rw[if_neg c4]at h |-
   exact⟨hl _,hx h⟩
theorem B9t (T:Src):∀(f:Nat) (l:List Rf) (s:St),(A5T T f l s).2.ds= []->l.length<=5->(∀p∈l,name p.name=true)->(A5T T f l s).1.length<=5/\∀p∈(A5T T f l s).1,name p.name=true
 |0,l,s,_,h1,h2=>by rw[A5T];exact⟨h1,h2⟩
 |f+1,l,s,h,h1,h2=>by
  rw[A5T]at h |-;by_cases c2:5<=l.length
  ·rw[if_pos c2]at h;exact absurd h (A32 _ _ _)
  rw[if_neg c2]at h |-;dsimp only at h |-;have hx:∀(h:(s.named T).2.ds= []),∀p∈l++ [⟨(s.named T).1,(T.tok s.i).pos⟩],name p.name=true:=fun h p hp=>by
   have e0:=B0e h;rcases Y5.1 hp with hp|hp
   ·exact h2 p hp
   ·obtain rfl:=A0q.1 hp
    rw[e0.2];exact e0.1
  have hl:∀p:Rf,(l++ [p]).length<=5:=fun p=>by rw[D9,A0X];omega
  by_cases c4:T.is (s.named T).2.i [44]=true
  ·rw[if_pos c4]at h |-
   have:=((A1l T _).trans (B2O T _ _ _)).clean h;exact B9t T f _ _ h (hl _) (hx this)
  ·rw[if_neg c4]at h |-
   exact⟨hl _,hx h⟩
end Go.Sp
namespace Go.Sp
open Go.Lib (itoa decDigits nDigits decDigits_length nDigits_small nDigits_big)
theorem C7p:∀(k u:Nat),u<10 ^ (k+1)->nDigits u<=k+1
 |0,u,h=>by rw[nDigits_small (by simpa using h)];exact H7 _
 |k+1,u,h=>by
  by_cases h1:u<10
  ·rw[nDigits_small h1];omega
  ·rw[nDigits_big h1]
   have:=C7p k (u / 10) (by rw[Nat.pow_succ]at h;omega);omega
theorem C5c {n:Nat} (h:n<=1000000000):(itoa (n:Int)).length<=10:=by
 rw[itoa,if_neg (by omega),decDigits_length,A1R];exact C7p 9 n (by have:(10:Nat) ^ (9+1)=10000000000:=(by decide);omega)
theorem B9a:∀(l:List UInt8),(A2q l).length<=2 *l.length
 | []=>by simp[A2q]
 | [c]=>by simp[A2q]
 |c::d::l=>by have:=B9a (d::l);simp only[A2q,E9]at this |-;omega
theorem A5S (n:Nat):(A2X n).length<=18:=by
 have h:=B9a ((A3D n).map A1Z);have h2:(A3D n).length<=8:=by have:=A4p (bit n) (List.range 8);simpa[A3D] using this
 rw[P7]at h;rw[A2X,E9,D9,A0X];omega
theorem A5Q {t:List UInt8} (h:name t=true):t.length<=12:=by
 rw[name,Q3,A9l]at h;simp only[Q3,decide_eq_true_eq]at h;omega
theorem C3D (b:Bool) (t:List UInt8):(B3K b t).length<=t.length+2:=by
 rw[B3K];split
 ·simp
 ·omega
theorem C8j (ws:List (List UInt8)) (k:Nat):(A4L ws k).length<=2 *k+((ws.take k).map List.length).sum:=by
 induction k with
 |zero=>simp[A4L]
 |succ k ih=>
  rw[A7y,D9,D9];have h1:(if 0<k then [44,32] else []:List UInt8).length<=2:=by split<;>simp
  have h2:((ws.take k).map List.length).sum+(ws.getD k []).length=((ws.take (k+1)).map List.length).sum:=by
   rw[A2N,V5,List.sum_append,N9];cases ws[k]? <;>simp
  omega
theorem C9C {nm:List UInt8} (h:A0u nm≠0):nm.length<=1:=by
 rw[A0u]at h;split at h
 ·rename_i h1;rcases h1 with rfl|rfl<;>simp
 ·split at h
  ·rename_i h1;rcases h1 with rfl|rfl<;>simp
  ·split at h
   ·rename_i h1;subst h1;simp
   ·exact absurd rfl h
mutual
theorem C0y:∀(e:Ex) {d l:Nat},e.fitE d l->(exW e).length+2<=32 *e.cnt
 | .mk k nm n args f t,d,l,h=>by
  rw[Ex.fitE]at h;rw[exW,Ex.cnt];rcases h.2 with ⟨rfl,_,h1,rfl⟩|⟨rfl,h1,_,rfl⟩|⟨rfl,h1,_,h2,h3⟩|⟨rfl,h1,_,h2,h3⟩
  ·rw[if_pos rfl]
   have:=C5c h1;omega
  ·rw[if_neg (by decide),if_neg (by decide),if_pos rfl]
   have:=A5Q h1;omega
  ·rw[if_neg (by decide),if_neg (by decide),if_neg (by decide),if_pos rfl]
   have g1:=A5Q h1;have g2:=C8j (A4D args) args.length;have g3:=C2x args h3;rw[A0W (by rw[B4c,P7];exact H7 _)]at g2;simp only[D9,E9,List.length_nil];omega
  ·rw[if_neg (by decide),if_pos rfl]
   have g1:=C9C h1
   match args,h2 with
   | [a,b],_=>
    have g3:=C3t [a,b] h3;have p1:=C3D (decide (A0N ([a,b].getD 0 default)<A2Y nm)) ((A4D [a,b]).getD 0 []);have p2:=C3D (decide (A0N ([a,b].getD 1 default)<A2Y nm+1)) ((A4D [a,b]).getD 1 []);have e1:(A4D [a,b]).getD 0 []=exW a:=B1V rfl;have e2:(A4D [a,b]).getD 1 []=exW b:=B1V rfl;rw[B4c]at g3;simp only[U4,A5K,A77,List.sum_nil]at g3;rw[e1]at p1;rw[e2]at p2;simp only[D9,E9,List.length_nil,e1,e2];omega
theorem C2x:∀(l:List Ex) {d:Nat},A2f l d->((A4D l).map List.length).sum+2 *l.length<=32 *A1X l
 | [],_,_=>by rw[A4D];simp
 |e::es,d,h=>by
  rw[A2f]at h;have h1:=C0y e h.1;have h2:=C2x es h.2;rw[A4D,A1X,U4,A77,E9];omega
theorem C3t:∀(l:List Ex) {d n:Nat},A2Q l d n->((A4D l).map List.length).sum<=32 *A1X l
 | [],_,_,_=>by rw[A4D];simp
 |e::es,d,n,h=>by
  rw[A2Q]at h;have h1:=C0y e h.1;have h2:=C3t es h.2;rw[A4D,A1X,U4,A77];omega
 end
mutual
theorem D2G:∀(x:Stm) {d:Nat} (k:Nat),x.fitS d->k<=d->d<=12->(B3Q x k).length<=160 *x.cnt
 | .mk kd nm a lb o e thn els f t,d,k,h,hk,hd=>by
  rw[Stm.fitS]at h;obtain⟨h1,h2⟩:=h;have g1:=C0y e h1;have g2:=B6C k;have g3:=A5S lb;have g4:(if o=true then [] else [58,32]++A2X lb:List UInt8).length<=20:=by
   split
   ·simp
   ·rw[D9]
    show 2+_<=20
    omega
  rw[B3Q,Stm.cnt];rcases h2 with ⟨rfl,hn,_⟩|⟨rfl,hn,_⟩|⟨rfl,hn,_⟩|⟨rfl,_⟩|⟨rfl,_⟩|⟨hk2,hn,_,_,hd2,_,_,ht,he⟩
  ·have:=A5Q hn
   rw[if_pos rfl];simp only[D9,E9,List.length_nil]at g4 |-;omega
  ·have:=A5Q hn
   rw[if_neg (by decide),if_pos rfl];simp only[D9,E9,List.length_nil];omega
  ·have:=A5Q hn
   rw[if_neg (by decide),if_neg (by decide),if_pos rfl];simp only[D9,E9,List.length_nil];omega
  ·rw[if_neg (by decide),if_neg (by decide),if_neg (by decide),if_pos rfl]
   simp only[D9,E9,List.length_nil];omega
  ·rw[if_neg (by decide),if_neg (by decide),if_neg (by decide),if_neg (by decide),if_pos rfl]
   simp only[D9,E9,List.length_nil];omega
  ·have q1:=B2U thn (k+1) ht (by omega) (by omega)
   have q2:=B2U els (k+1) he (by omega) (by omega);have hkd:kd=3\/kd=4:=by omega
   rw[if_neg (by omega),if_neg (by omega),if_neg (by omega),if_neg (by omega),if_neg (by omega),if_pos hkd];have w1:(if kd=4 then [119,104,105,108,101,32] else [105,102,32]:List UInt8).length<=6:=by split<;>simp
   have w2:(if 0<els.length then [32,101,108,115,101,32]++([123,10]++A3t els (k+1)++pad k++ [125]) else []:List UInt8).length<=9+(A3t els (k+1)).length+(pad k).length:=by
    split
    ·simp only[D9,E9,List.length_nil]
     omega
    ·simp
   simp only[D9,E9,List.length_nil]at w1 w2 |-;omega
theorem B2U:∀(l:List Stm) {d:Nat} (k:Nat),A0J l d->k<=d->d<=12->(A3t l k).length<=160 *U1 l
 | [],_,_,_,_,_=>by rw[A3t];simp
 |x::xs,d,k,h,hk,hd=>by
  rw[A0J]at h;have h1:=D2G x k h.1 hk hd;have h2:=B2U xs k h.2 hk hd;rw[A3t,U1,D9];omega
 end
theorem B89 (ws:List (List UInt8)) {m:Nat} (h:∀w∈ws,w.length<=m):∀k,(A4L ws k).length<=k *(m+2)
 |0=>by simp[A4L]
 |k+1=>by
  have h1:(if 0<k then [44,32] else []:List UInt8).length<=2:=by split<;>simp
  have h2:(ws.getD k []).length<=m:=by
   rw[N9];cases e:ws[k]? with
   |none=>simp
   |some w=>exact h w (A03 e)
  have h3:=B89 ws h k;rw[A7y,D9,D9,A5J];omega
theorem B9Y {l:List Rf} (h:∀p∈l,name p.name=true):∀k,(A6Z l k).length<=k *19
 |0=>by simp[A6Z]
 |k+1=>by
  have h1:(if k=0 then [32,115,101,110,100,115,32] else [44,32]:List UInt8).length<=7:=by split<;>simp
  have h2:(l.getD k ⟨[],0⟩).name.length<=12:=by
   rw[N9];cases e:l[k]? with
   |none=>simp
   |some w=>exact A5Q (h w (A03 e))
  have h3:=B9Y h k;rw[A89,D9,D9,A5J];omega
theorem D1Y {l:List Par} (h:∀p∈l,name p.name=true/\p.label<256):∀w∈A8o l,w.length<=32:=fun w hw=>by
 obtain⟨p,hp,rfl⟩:=Y7.1 hw;have h1:=A5Q (h p hp).1;have h2:=A5S p.label;simp only[D9,E9,List.length_nil];omega
theorem C8H {it:Itm} (h:it.fitI):(A4Z it).length<=400+160 *U1 it.body:=by
 have h1:=A5Q h.named;have h2:=A5S it.label;have h3:=B89 _ (D1Y h.params.2) it.params.length;have h4:=B9Y h.sends.2 it.sends.length;have h5:=B2U it.body 1 h.body.2 (H7 _) (by decide);have h6:=B6C 0;have h7:=h.params.1;have h8:=h.sends.1;rw[A4Z];split
 ·simp only[D9,E9,List.length_nil]
  omega
 ·split
  ·rw[B1C]
   simp only[D9,E9,List.length_nil,V9];omega
  ·simp
theorem B9h {m:Nat}:∀ {its:List Itm},(∀it∈its,it.fitI/\U1 it.body<=m)->(A0F its).length<=its.length *(400+160 *m)
 | [],_=>by simp[A0F]
 |it::its,h=>by
  have h1:=B9h (fun x hx=>h x (Z4 _ hx));obtain⟨h2,h3⟩:=h it O4;have h4:=C8H h2;rw[A0F,A0c,D9,E9,A5J];rw[A0F]at h1;omega
end Go.Sp
namespace Go.Sp
def shift (n:Nat) (t:Tok):Tok:=⟨t.kind,t.text,t.pos+n⟩
def tk (s:List UInt8) (p:Nat):List Tok:=B1m s.length s p
theorem C6p (p:Nat):tk [] p= []:=rfl
theorem A58 (s:List UInt8) (p:Nat) (hs:s≠ []):tk s p=(if (one s).1>0 then [⟨(one s).1,s.take (one s).2,p⟩] else [])++tk (s.drop (one s).2) (p+(one s).2):=by
 have hl:=A6N s hs;obtain⟨f,hf⟩:∃f,s.length=f+1:=⟨s.length-1,by omega⟩;have e:B1m f (s.drop (one s).2) (p+(one s).2)=tk (s.drop (one s).2) (p+(one s).2):=B5A _ _ _ _ (by simp;omega) (by simp);unfold tk at e |-
 rw[hf];simp only[B1m,hs,if_false];rw[e];split<;>rfl
theorem B2Y (t:List UInt8) (q:Nat):tk t q=tk (t.drop (t.takeWhile A0I).length) (q+(t.takeWhile A0I).length):=by
 cases t with
 |nil=>rfl
 |cons c r=>
  by_cases hb:A0I c=true
  ·have h1:one (c::r)=(0,(List.takeWhile A0I (c::r)).length):=by
    simp only[one,hb,if_true,run,A1F,E9,A2T 1]
   rw[A58 _ _ (by simp),h1];simp
  ·rw[A1F,if_neg hb];simp
theorem B2o (n:Nat):∀(f:Nat) (s:List UInt8) (p:Nat),B1m f s (p+n)=(B1m f s p).map (shift n)
 |0,_,_=>rfl
 |f+1,s,p=>by
  simp only[B1m];split
  ·rfl
  ·split
   ·rw[U4, <-B2o n f,show p+n+(one s).2=p+(one s).2+n by omega];rfl
   ·rw[<-B2o n f,show p+n+(one s).2=p+(one s).2+n by omega]
theorem C1s (F:UInt8->Bool) (a:UInt8) (t:List UInt8) (ha:F a=false) (r:List UInt8):(r++a::t).takeWhile F=r.takeWhile F:=by
 induction r with
 |nil=>simp[ha]
 |cons c r ih=>rw[Q8,A1F,A1F,ih]
theorem B8s (F:UInt8->Bool) (m:List UInt8) (r:List UInt8):(r++m).takeWhile F=(if r.all F then r++m.takeWhile F else r.takeWhile F):=by
 induction r with
 |nil=>simp
 |cons c r ih=>
  rw[Q8,A1F,A1F,ih,A42];cases F c<;>simp
  split<;>simp
theorem D5e (t:List UInt8):∀(n:Nat) (r:List UInt8) (p:Nat),r.length=n->tk (r++10::t) p=tk r p++tk t (p+r.length+1):=by
 have hB:A0I 10=true:=by decide
 have hend:∀(r:List UInt8) (p:Nat),r.all A0I=true->tk (r++10::t) p=tk t (p+r.length+1):=by
  intro r p hr;rw[B2Y,B8s,if_pos hr,A1F,if_pos hB,B2Y t]
  congr 1
  ·rw[D9,A6L,E9];simp
  ·rw[D9,E9];omega
 intro n;induction n using Nat.strongRecOn with
 |_ n ih=>
  intro r p hn;by_cases hr:r.all A0I=true
  ·rw[hend r p hr]
   have:tk r p= []:=by
    rw[B2Y];have h2:=B8s A0I [] r;rw[J4,if_pos hr,List.takeWhile_nil,J4]at h2;rw[h2,A40]
    rfl
   rw[this,L9]
  ·have hne:r≠ []:=fun e=>hr (by rw[e];rfl)
   have hl:=A6N r hne;have ho:one (r++10::t)=one r:=by
    cases r with
    |nil=>exact absurd rfl hne
    |cons c r=>
     simp only[Q8,one];have h1:=C1s A6M 10 t (by decide) r;have h2:=C1s A01 10 t (by decide) r;have h3:=C1s A0C 10 t (by decide) r;by_cases hb:A0I c=true
     ·have h4:=B8s A0I (10::t) r
      rw[A42,hb,A3M]at hr;rw[if_neg hr]at h4;simp only[if_pos hb,run,h4]
     ·simp only[if_neg hb,run,h1,h2,h3]
   have hd:(r++10::t).drop (one r).2=r.drop (one r).2++10::t:=List.drop_append_of_le_length hl.2;have htk:(r++10::t).take (one r).2=r.take (one r).2:=A26 hl.2;rw[A58 _ _ (by simp),ho,hd,htk,ih (r.drop (one r).2).length (by simp;omega) _ _ rfl,A58 r p hne,J5,A0v,
    show p+(one r).2+(r.length-(one r).2)+1=p+r.length+1 by omega]
theorem A9C (s t:List UInt8):Q5 (s++ [10]++t)=Q5 s++(Q5 t).map (shift (s.length+1)):=by
 have h:=D5e t _ s 0 rfl;have h2:=B2o (s.length+1) t.length t 0;rw[J5,A3z];unfold tk at h
 unfold Q5
 rw[h, <-h2,V9,V9]
end Go.Sp
namespace Go.Sp
open Go.Lib (itoa decDigits)
abbrev KT:=Nat×List UInt8
def kt (t:Tok):KT:=(t.kind,t.text)
def tx (s:List UInt8):List KT:=(tk s 0).map kt
theorem D5U (s:List UInt8) (p:Nat):(tk s p).map kt=tx s:=by
 have:=B2o p s.length s 0;rw[V9]at this;rw[tk,this,A3s]
 rfl
theorem C1t:tx []= []:=rfl
theorem B4J (s:List UInt8) (hs:s≠ []):tx s=(if (one s).1>0 then [((one s).1,s.take (one s).2)] else [])++tx (s.drop (one s).2):=by
 rw[tx,A58 s 0 hs,V5,D5U]
 congr 1
 split<;>rfl
theorem C0c (s:List UInt8):tx s=tx (s.dropWhile A0I):=by
 rw[tx,B2Y,D5U]
 congr 1
 have h:=List.takeWhile_append_dropWhile (p:=A0I) (l:=s);generalize s.takeWhile A0I=a at h |-;generalize s.dropWhile A0I=b at h |-;rw[<-h,List.drop_left]
theorem A1p {c:UInt8} (hc:A0I c=true) (r:List UInt8):tx (c::r)=tx r:=by
 rw[C0c,List.dropWhile_cons,if_pos hc, <-C0c]
def A4j (r:List UInt8):Prop:=r= []\/A01 (r.getD 0 0)=false
theorem B6X {r:List UInt8} (h:A4j r):r.takeWhile A01= []/\r.takeWhile A0C= []:=by
 rcases h with rfl|h
 ·exact⟨rfl,rfl⟩
 ·cases r with
  |nil=>exact⟨rfl,rfl⟩
  |cons c r=>
   have h1:A01 c=false:=h;have h2:A0C c=false:=by
    rw[A01,Bool.or_eq_false_iff]at h1;exact h1.2
   rw[A1F,A1F,h1,h2];exact⟨rfl,rfl⟩
theorem C4t {F:UInt8->Bool}{w r:List UInt8} (hw:w.all F=true) (hr:r.takeWhile F= []):(w++r).takeWhile F=w:=by
 rw[B8s,if_pos hw,hr,J4]
theorem B4K {c:UInt8}{w r:List UInt8} (hc:A0n c=true) (hw:w.all A01=true) (hr:A4j r):tx (c::(w++r))=(1,c::w)::tx r:=by
 have h1:A0I c=false/\c.toNat≠35:=by
  simp only[A0n,A1f,Q3,decide_eq_true_eq]at hc;refine⟨?_,by omega⟩
  simp only[A0I,Bool.or_eq_false_iff,decide_eq_false_iff_not];omega
 have h2:one (c::(w++r))=(1,w.length+1):=by
  rw[one,if_neg (by rw[h1.1];decide),if_neg h1.2,if_pos hc,run,C4t hw (B6X hr).1,A2T]
 rw[B4J _ (by simp),h2];simp
theorem D7d {c:UInt8}{w r:List UInt8} (hc:A0C c=true) (hw:w.all A0C=true) (hr:A4j r):tx (c::(w++r))=(2,c::w)::tx r:=by
 have h1:A0I c=false/\c.toNat≠35/\A0n c=false:=by
  simp only[A0C,Q3,decide_eq_true_eq]at hc;refine⟨?_,by omega,?_⟩
  ·simp only[A0I,Bool.or_eq_false_iff,decide_eq_false_iff_not];omega
  ·simp only[A0n,Bool.or_eq_false_iff,Bool.and_eq_false_iff,decide_eq_false_iff_not];omega
 have h2:one (c::(w++r))=(2,w.length+1):=by
  rw[one,if_neg (by rw[h1.1];decide),if_neg h1.2.1,if_neg (by rw[h1.2.2];decide),if_pos hc,run,C4t hw (B6X hr).2,A2T]
 rw[B4J _ (by simp),h2];simp
theorem B8h:∀c∈A7k,A0I c=false/\c.toNat≠35/\A0n c=false/\A0C c=false/\A6h c=true:=by decide
theorem A19 {c:UInt8} (hc:c∈A7k) (r:List UInt8):tx (c::r)=(3,[c])::tx r:=by
 obtain⟨h1,h2,h3,h4,h5⟩:=B8h c hc;have h6:one (c::r)=(3,1):=by
  rw[one,if_neg (by rw[h1];decide),if_neg h2,if_neg (by rw[h3];decide),if_neg (by rw[h4];decide),if_pos h5]
 rw[B4J _ (by simp),h6];simp
theorem A4X {c:UInt8} (hc:A0I c=true) (r:List UInt8):A4j (c::r):=by
 refine .inr ?_
 show A01 c=false
 simp only[A0I,A1f,decide_eq_true_eq]at hc;simp only[A01,A0n,A0C,Bool.or_eq_false_iff,Bool.and_eq_false_iff,decide_eq_false_iff_not];omega
theorem A3i {c:UInt8} (hc:c∈A7k) (r:List UInt8):A4j (c::r):=by
 obtain⟨h1,h2,h3,h4,h5⟩:=B8h c hc;refine .inr ?_
 show A01 c=false
 rw[A01,h3,h4];rfl
theorem C1u (n:Nat) (r:List UInt8):tx (pad n++r)=tx r:=by
 induction n with
 |zero=>rfl
 |succ n ih=>
  rw[pad,B0O,List.flatten_cons,J5];show tx (32::32::(pad n++r))=_
  rw[A1p (by decide),A1p (by decide),ih]
theorem C5z {t:List UInt8} (h:name t=true):∃c w,t=c::w/\A0n c=true/\w.all A01=true:=by
 rw[name,Q3,A9l]at h;simp only[Q3,decide_eq_true_eq]at h;cases t with
 |nil=>simp at h
 |cons c w=>
  refine⟨c,w,rfl,?_,?_⟩
  ·have:=h
   simp_all
  ·have:=h
   simp_all
theorem A7m {t r:List UInt8} (h:name t=true) (hr:A4j r):tx (t++r)=(1,t)::tx r:=by
 obtain⟨c,w,rfl,h1,h2⟩:=C5z h;exact B4K h1 h2 hr
theorem C2h {u:Nat} (h:¬u<10):decDigits u=decDigits (u / 10)++ [UInt8.ofNat (48+u % 10)]:=by rw[decDigits,dif_neg h]
theorem C0t {k:Nat} (h:k<10):A0C (UInt8.ofNat (48+k))=true/\(UInt8.ofNat (48+k)).toNat-48=k:=by
 have:(UInt8.ofNat (48+k)).toNat=48+k:=by rw[UInt8.toNat_ofNat'];omega
 rw[A0C,this];refine⟨?_,by omega⟩
 simp only[Q3,decide_eq_true_eq];omega
theorem C6R (u:Nat):∃c w,decDigits u=c::w/\A0C c=true/\w.all A0C=true:=by
 induction u using Nat.strongRecOn with
 |_ u ih=>
  by_cases h:u<10
  ·rw[Go.Lib.decDigits_one h]
   exact⟨_,[],rfl,(C0t h).1,rfl⟩
  ·obtain⟨c,w,h1,h2,h3⟩:=ih (u / 10) (by omega)
   rw[C2h h,h1];refine⟨c,w++ [_],rfl,h2,?_⟩
   rw[A5G,h3,A42,(C0t (Nat.mod_lt u (by decide:0<10))).1]
   rfl
theorem D3H {u:Nat} (h:u<=1000000000):A4M (decDigits u)=u:=by
 induction u using Nat.strongRecOn with
 |_ u ih=>
  by_cases h1:u<10
  ·rw[Go.Lib.decDigits_one h1,A4M,A07,List.foldl_nil,if_pos (by decide),(C0t h1).2];omega
  ·have h2:=ih (u / 10) (by omega) (by omega)
   rw[A4M]at h2;rw[C2h h1,A4M,A5c,h2,A07,List.foldl_nil,if_pos (by omega),(C0t (Nat.mod_lt u (by decide:0<10))).2];omega
theorem B7E (n:Nat):itoa (n:Int)=decDigits n:=by rw[itoa,if_neg (by omega)];rfl
theorem D5j (n:Nat) {r:List UInt8} (hr:A4j r):tx (itoa (n:Int)++r)=(2,itoa (n:Int))::tx r:=by
 rw[B7E];obtain⟨c,w,h1,h2,h3⟩:=C6R n;rw[h1];exact D7d h2 h3 hr
def sg (c:UInt8):KT:=(3,[c])
def A5D (b:Bool) (l:List KT):List KT:=if b then [sg 40]++l++ [sg 41] else l
def B41 (ws:List (List KT)) (k:Nat):List KT:=(List.range k).flatMap (fun i=>(if 0<i then [sg 44] else [])++ws.getD i [])
theorem B87 (ws:List (List KT)) (k:Nat):B41 ws (k+1)=B41 ws k++((if 0<k then [sg 44] else [])++ws.getD k []):=by
 rw[B41,A28,X0, <-B41];simp
mutual
def exK:Ex->List KT
 | .mk k nm n args _ _=>
  if k=1 then [(2,itoa n)] else
  if k=3 then A5D (decide (A0N (args.getD 0 default)<A2Y nm)) ((A3d args).getD 0 [])++ [(3,nm)]++A5D (decide (A0N (args.getD 1 default)<A2Y nm+1)) ((A3d args).getD 1 []) else
  if k=2 then [(1,nm)] else
  if k=4 then [(1,nm),sg 40]++B41 (A3d args) args.length++ [sg 41] else []
def A3d:List Ex->List (List KT)
 | []=> []
 |e::es=>exK e::A3d es
 end
theorem C2t:∀l:List Ex,A3d l=l.map exK
 | []=>by rw[A3d];rfl
 |e::es=>by rw[A3d,C2t es,U4]
theorem A7K {nm:List UInt8} (h:A0u nm≠0):∃c∈A7k,nm= [c]/\A2Y nm=A0u nm:=by
 rw[A0u]at h;rw[A0u,A2Y];split at h
 ·rename_i h1
  rcases h1 with rfl|rfl<;>exact⟨_,by decide,rfl,rfl⟩
 ·split at h
  ·rename_i h1
   rcases h1 with rfl|rfl<;>exact⟨_,by decide,rfl,rfl⟩
  ·split at h
   ·rename_i h1;subst h1;exact⟨_,by decide,rfl,rfl⟩
   ·exact absurd rfl h
theorem D23 {b:Bool}{w:List UInt8}{l:List KT} (h:∀ {r},A4j r->tx (w++r)=l++tx r) {r:List UInt8} (hr:A4j r):tx (B3K b w++r)=A5D b l++tx r:=by
 cases b with
 |false=>exact h hr
 |true=>
  show tx (([40]++w++ [41])++r)=([sg 40]++l++ [sg 41])++tx r
  rw[J5,J5,A3z,A3z,A19 (c:=40) (by decide),h (A3i (c:=41) (by decide) r),A19 (c:=41) (by decide)];simp[sg]
theorem C6s {ws:List (List UInt8)}{ls:List (List KT)}:∀(k:Nat),(∀i,i<k->∀ {r},A4j r->tx (ws.getD i []++r)=ls.getD i []++tx r)->∀ {r},A4j r->tx (A4L ws k++r)=B41 ls k++tx r
 |0,_,r,_=>rfl
 |k+1,h,r,hr=>by
  have ih:=fun {r} (hr:A4j r)=>C6s (ws:=ws) (ls:=ls) k (fun i hi=>h i (by omega)) (r:=r) hr
  have hk:=h k (by omega) hr;rw[A7y,B87,J5,J5];cases k with
  |zero=>
   show tx ([]++_)=_
   rw[if_neg (by decide),if_neg (by decide),L9,L9,L9];show _= []++(ls.getD 0 []++tx r)
   rw[L9];exact hk
  |succ k=>
   rw[if_pos (by omega),if_pos (by omega),J5];show tx (A4L ws (k+1)++(44::32::(ws.getD (k+1) []++r)))=_
   rw[ih (A3i (by decide) _),A19 (by decide),A1p (by decide),hk];show B41 ls (k+1)++_=_
   rw[J5]
   rfl
mutual
theorem D2U:∀(e:Ex) {d l:Nat},e.fitE d l->∀ {r},A4j r->tx (exW e++r)=exK e++tx r
 | .mk k nm n args f t,d,l,h,r,hr=>by
  rw[Ex.fitE]at h;rw[exW,exK];rcases h.2 with ⟨rfl,_,h1,rfl⟩|⟨rfl,h1,_,rfl⟩|⟨rfl,h1,_,h2,h3⟩|⟨rfl,h1,_,h2,h3⟩
  ·rw[if_pos rfl,if_pos rfl,D5j n hr];rfl
  ·rw[if_neg (by decide),if_neg (by decide),if_pos rfl,if_neg (by decide),if_neg (by decide),if_pos rfl,A7m h1 hr];rfl
  ·rw[if_neg (by decide),if_neg (by decide),if_neg (by decide),if_pos rfl,if_neg (by decide),if_neg (by decide),if_neg (by decide),if_pos rfl]
   rw[J5,J5,J5,A3z,A3z,A7m h1 (A3i (by decide) _),A19 (by decide),C6s args.length (fun i hi=>D2V args h3 i) (A3i (c:=41) (by decide) _),A19 (by decide)];simp[sg]
  ·obtain⟨c,hc,rfl,e1⟩:=A7K h1
   rw[if_neg (by decide),if_pos rfl,if_neg (by decide),if_pos rfl];have h4:=D22 args h3;simp only[J5,Q8,L9];rw[D23 (fun hr=>h4 0 hr) (A4X (c:=32) (by decide) _)];rw[A1p (by decide),A19 hc,A1p (by decide),D23 (fun hr=>h4 1 hr) hr]
theorem D2V:∀(l:List Ex) {d:Nat},A2f l d->∀(i:Nat) {r},A4j r->tx ((A4D l).getD i []++r)=(A3d l).getD i []++tx r
 | [],d,_,i,r,_=>by rw[A4D,A3d];simp
 |e::l,d,h,0,r,hr=>by
  rw[A2f]at h;rw[A4D,A3d];exact D2U e h.1 hr
 |e::l,d,h,i+1,r,hr=>by
  rw[A2f]at h;rw[A4D,A3d];exact D2V l h.2 i hr
theorem D22:∀(l:List Ex) {d n:Nat},A2Q l d n->∀(i:Nat) {r},A4j r->tx ((A4D l).getD i []++r)=(A3d l).getD i []++tx r
 | [],d,n,_,i,r,_=>by rw[A4D,A3d];simp
 |e::l,d,n,h,0,r,hr=>by
  rw[A2Q]at h;rw[A4D,A3d];exact D2U e h.1 hr
 |e::l,d,n,h,i+1,r,hr=>by
  rw[A2Q]at h;rw[A4D,A3d];exact D22 l h.2 i hr
 end
end Go.Sp
namespace Go.Sp
open Go.Lib (itoa)
def chK (c:UInt8):KT:=if A7k.contains c then (3,[c]) else (1,[c])
def lone:List UInt8->Bool
 | []=>true
 | [c]=>A7k.contains c
 |c::x::r=>(A7k.contains c||(A0n c && A7k.contains x)) && lone (x::r)
theorem D2T {c:UInt8} (hs:A7k.contains c=true) (r:List UInt8):tx (c::r)=chK c::tx r:=by
 rw[chK,if_pos hs];exact A19 (A3l.1 hs) _
theorem C73:∀(w:List UInt8) {r:List UInt8},lone w=true->tx (w++r)=w.map chK++tx r
 | [],r,_=>rfl
 | [c],r,h=>by
  rw[lone]at h;exact D2T h r
 |c::x::w,r,h=>by
  rw[lone,Q3]at h;obtain⟨h1,h2⟩:=h;have ih:=C73 (x::w) (r:=r) h2;show tx (c::(x::w++r))=chK c::(List.map chK (x::w)++tx r)
  rw[<-ih];by_cases hs:A7k.contains c=true
  ·exact D2T hs _
  ·rw[chK,if_neg hs]
   rw[A1f,Q3]at h1;rcases h1 with h1|⟨h1,h3⟩
   ·exact absurd h1 hs
   ·exact B4K (w:= []) h1 rfl (A3i (A3l.1 h3) _)
def A5k (n:Nat):List KT:=(A2X n).map chK
theorem C5o:∀n,n<256->lone (A2X n)=true:=by decide+kernel
theorem B3T {n:Nat} (h:n<256) {r:List UInt8}:tx (A2X n++r)=A5k n++tx r:=C73 _ (C5o n h)
theorem B4I {c:UInt8}{w r:List UInt8} (hc:A0n c=true) (hw:w.all A01=true):tx (c::(w++32::r))=(1,c::w)::tx r:=by
 rw[B4K hc hw (A4X (by decide) r),A1p (by decide)]
def C2X:KT:=(1,[108,101,116])
def C2W:KT:=(1,[105,102])
def C0M:KT:=(1,[101,108,115,101])
def B0G:KT:=(1,[119,104,105,108,101])
def C0N:KT:=(1,[115,101,110,100])
def C7g:KT:=(1,[114,101,116,117,114,110])
def A7P:KT:=(1,[115,101,110,100,115])
def C8M:KT:=(1,[102,110])
def C5g:KT:=(1,[99,104,97,110])
theorem D2W (r:List UInt8):tx (108::101::116::32::r)=C2X::tx r:=B4I (c:=108) (w:= [101,116]) (by decide) (by decide)
theorem D5l (r:List UInt8):tx (105::102::32::r)=C2W::tx r:=B4I (c:=105) (w:= [102]) (by decide) (by decide)
theorem C9G (r:List UInt8):tx (101::108::115::101::32::r)=C0M::tx r:=B4I (c:=101) (w:= [108,115,101]) (by decide) (by decide)
theorem C6u (r:List UInt8):tx (119::104::105::108::101::32::r)=B0G::tx r:=B4I (c:=119) (w:= [104,105,108,101]) (by decide) (by decide)
theorem C9H (r:List UInt8):tx (115::101::110::100::32::r)=C0N::tx r:=B4I (c:=115) (w:= [101,110,100]) (by decide) (by decide)
theorem D2X (r:List UInt8):tx (114::101::116::117::114::110::32::r)=C7g::tx r:=B4I (c:=114) (w:= [101,116,117,114,110]) (by decide) (by decide)
theorem C6t (r:List UInt8):tx (115::101::110::100::115::32::r)=A7P::tx r:=B4I (c:=115) (w:= [101,110,100,115]) (by decide) (by decide)
theorem D5k (r:List UInt8):tx (102::110::32::r)=C8M::tx r:=B4I (c:=102) (w:= [110]) (by decide) (by decide)
theorem C9F (r:List UInt8):tx (99::104::97::110::32::r)=C5g::tx r:=B4I (c:=99) (w:= [104,97,110]) (by decide) (by decide)
mutual
def B1c:Stm->List KT
 | .mk k nm _ lb o e thn els _ _=>
  if k=1 then C2X::(1,nm)::((if o=true then [] else sg 58::A5k lb)++sg 61::(exK e++ [sg 59])) else
  if k=2 then (1,nm)::sg 61::(exK e++ [sg 59]) else
  if k=5 then C0N::(1,nm)::(exK e++ [sg 59]) else
  if k=6 then C7g::(exK e++ [sg 59]) else
  if k=7 then exK e++ [sg 59] else
  if k=3\/k=4 then (if k=4 then B0G else C2W)::(exK e++(sg 123::(A2l thn++ [sg 125]))++(if 0<els.length then C0M::sg 123::(A2l els++ [sg 125]) else [])) else [sg 59]
def A2l:List Stm->List KT
 | []=> []
 |x::xs=>B1c x++A2l xs
 end
def B8J (l:List Stm):List KT:=sg 123::(A2l l++ [sg 125])
mutual
theorem D7f:∀(x:Stm) {d:Nat} (dd:Nat),x.fitS d->∀ {r},tx (B3Q x dd++r)=B1c x++tx r
 | .mk k nm a lb o e thn els f t,d,dd,h,r=>by
  rw[Stm.fitS]at h;obtain⟨he,h⟩:=h;have hE:∀ {r:List UInt8},A4j r->tx (exW e++r)=exK e++tx r:=D2U e he;have hS:∀(r:List UInt8),tx (exW e++59::10::r)=exK e++sg 59::tx r:=fun r=>by
   rw[hE (A3i (by decide) _),A19 (by decide),A1p (by decide)];rfl
  rw[B3Q,B1c,J5,C1u];rcases h with ⟨rfl,h1,h2,h3,rfl,rfl⟩|⟨rfl,h1,_,_,rfl,rfl⟩|⟨rfl,h1,_,_,rfl,rfl⟩|⟨rfl,_,_,_,rfl,rfl⟩|⟨rfl,_,_,_,rfl,rfl,_⟩|⟨hk,_,_,_,_,_,_,hT,hL⟩
  ·rw[if_pos rfl,if_pos rfl]
   simp only[J5,Q8,L9];rw[D2W];cases o with
   |true=>
    simp only[if_true,L9];rw[A7m h1 (A4X (by decide) _),A1p (by decide),A19 (by decide),A1p (by decide),hS]
    rfl
   |false=>
    simp only[A3A,if_false,Q8];rw[A7m h1 (A3i (by decide) _),A19 (by decide),A1p (by decide),B3T h2,A1p (by decide),A19 (by decide),A1p (by decide),hS]
    rfl
  ·rw[if_neg (by decide),if_pos rfl,if_neg (by decide),if_pos rfl]
   simp only[J5,Q8,L9];rw[A7m h1 (A4X (by decide) _),A1p (by decide),A19 (by decide),A1p (by decide),hS]
   rfl
  ·rw[if_neg (by decide),if_neg (by decide),if_pos rfl,if_neg (by decide),if_neg (by decide),if_pos rfl]
   simp only[J5,Q8,L9];rw[C9H,A7m h1 (A4X (by decide) _),A1p (by decide),hS]
  ·rw[if_neg (by decide),if_neg (by decide),if_neg (by decide),if_pos rfl,if_neg (by decide),if_neg (by decide),if_neg (by decide),if_pos rfl]
   simp only[J5,Q8,L9];rw[D2X,hS]
  ·rw[if_neg (by decide),if_neg (by decide),if_neg (by decide),if_neg (by decide),if_pos rfl,if_neg (by decide),if_neg (by decide),if_neg (by decide),if_neg (by decide),if_pos rfl]
   simp only[J5,Q8,L9];rw[hS]
  ·have hk34:k=3\/k=4:=by rcases hk with hk|⟨hk,_⟩<;>omega
   have hB:∀(r:List UInt8),tx (A3t thn (dd+1)++(pad dd++125::r))=A2l thn++sg 125::tx r:=fun r=>by
    rw[B6J thn (dd+1) hT,C1u,A19 (by decide)];rfl
   have hB2:∀(r:List UInt8),tx (A3t els (dd+1)++(pad dd++125::r))=A2l els++sg 125::tx r:=fun r=>by
    rw[B6J els (dd+1) hL,C1u,A19 (by decide)];rfl
   have hkw:∀(r:List UInt8),tx ((if k=4 then [119,104,105,108,101,32] else [105,102,32])++r)=(if k=4 then B0G else C2W)::tx r:=fun r=>by
    split
    ·exact C6u _
    ·exact D5l _
   have n1:¬k=1:=by omega
   have n2:¬k=2:=by omega
   have n5:¬k=5:=by omega
   have n6:¬k=6:=by omega
   have n7:¬k=7:=by omega
   rw[if_neg n1,if_neg n2,if_neg n5,if_neg n6,if_neg n7,if_pos hk34,if_neg n1,if_neg n2,if_neg n5,if_neg n6,if_neg n7,if_pos hk34];simp only[J5,Q8,L9];rw[hkw,hE (A4X (by decide) _),A1p (by decide),A19 (by decide),A1p (by decide),hB];by_cases hl:0<els.length
   ·rw[if_pos hl,if_pos hl]
    simp only[J5,Q8,L9];rw[A1p (by decide),C9G,A19 (by decide),A1p (by decide),hB2,A1p (by decide)]
    rfl
   ·rw[if_neg hl,if_neg hl]
    simp only[L9];rw[A1p (by decide)]
    rfl
theorem B6J:∀(l:List Stm) {d:Nat} (dd:Nat),A0J l d->∀ {r},tx (A3t l dd++r)=A2l l++tx r
 | [],d,dd,_,r=>by rw[A3t,A2l];rfl
 |x::l,d,dd,h,r=>by
  rw[A0J]at h;rw[A3t,A2l,J5,J5,D7f x dd h.1,B6J l dd h.2]
 end
theorem D7c (l:List Stm) {d:Nat} (dd:Nat) (h:A0J l d) {r:List UInt8}:tx (B1C l dd++r)=B8J l++tx r:=by
 rw[B1C,B8J];simp only[J5,Q8,L9];rw[A19 (by decide),A1p (by decide),B6J l (dd+1) h,C1u,A19 (by decide)]
 rfl
def C3A (p:Par):List KT:=(1,p.name)::sg 58::A5k p.label
def A4B (l:List Par):List (List KT):=l.map C3A
def B6j (l:List Rf) (k:Nat):List KT:=(List.range k).flatMap (fun i=> [if i=0 then A7P else sg 44,(1,(l.getD i ⟨[],0⟩).name)])
theorem B5x (l:List Rf) (k:Nat):B6j l (k+1)=B6j l k++ [if k=0 then A7P else sg 44,(1,(l.getD k ⟨[],0⟩).name)]:=by
 rw[B6j,A28,X0, <-B6j];simp
def A7u (it:Itm):List KT:=
 if it.kind=1 then C5g::(1,it.name)::sg 58::(A5k it.label++ [sg 59]) else
 if it.kind=2 then C8M::(1,it.name)::sg 40::(B41 (A4B it.params) it.params.length++sg 41::sg 58::(A5k it.label++(B6j it.sends it.sends.length++B8J it.body))) else []
theorem D5m {l:List Par} (h:∀p∈l,name p.name=true/\p.label<256) {r:List UInt8} (hr:A4j r):tx (A4L (A8o l) l.length++r)=B41 (A4B l) l.length++tx r:=by
 refine C6s l.length (fun i hi r _=>?_) hr
 have hg:l[i]?=some l[i]:=F9 hi;obtain⟨h1,h2⟩:=h _ (O1 hi);rw[A8o,A4B,N9,N9,Y6,Y6,hg];simp only[A1g,Option.getD_some,J5,Q8,L9];rw[A7m h1 (A3i (by decide) _),A19 (by decide),A1p (by decide),B3T h2]
 rfl
theorem C74 {l:List Rf} (h:∀p∈l,name p.name=true):∀k,k<l.length->∀ {r},A4j r->tx (A6Z l (k+1)++r)=B6j l (k+1)++tx r
 |0,hk,r,hr=>by
  have hg:l[0]?=some l[0]:=F9 hk;have h1:=h _ (O1 hk);have hn:(l.getD 0 ⟨[],0⟩).name=l[0].name:=by rw[N9,hg];rfl
  rw[A89,B5x,hn,if_pos rfl,if_pos rfl];show tx ((([]:List UInt8)++(([32,115,101,110,100,115,32]:List UInt8)++l[0].name))++r)=([]++ [A7P,(1,l[0].name)])++tx r
  simp only[Q8,L9];rw[A1p (by decide),C6t,A7m h1 hr]
 |k+1,hk,r,hr=>by
  have hg:l[k+1]?=some l[k+1]:=F9 hk;have h1:=h _ (O1 hk);have hn:(l.getD (k+1) ⟨[],0⟩).name=l[k+1].name:=by rw[N9,hg];rfl
  rw[A89,B5x,hn,if_neg (by omega),if_neg (by omega)];simp only[J5,Q8,L9];rw[C74 h k (by omega) (A3i (by decide) _),A19 (by decide),A1p (by decide),A7m h1 hr]
  rfl
theorem D7e {l:List Rf} (h:∀p∈l,name p.name=true) {r:List UInt8} (hr:A4j r):tx (A6Z l l.length++r)=B6j l l.length++tx r:=by
 cases hl:l.length with
 |zero=>rfl
 |succ k=>exact C74 h k (by omega) hr
def A8l (it:Itm):List UInt8:=
 if it.kind=1 then [99,104,97,110,32]++it.name++ [58,32]++A2X it.label++ [59] else
 [102,110,32]++it.name++ [40]++A4L (A8o it.params) it.params.length++ [41,58,32]++A2X it.label++A6Z it.sends it.sends.length++ [32]++B1C it.body 0
theorem B6w {it:Itm} (h:it.fitI):A4Z it=A8l it++ [10]:=by
 rw[A4Z,A8l];rcases h.kind with h2|⟨h1,_⟩
 ·rw[if_neg (by omega),if_pos h2,if_neg (by omega)]
 ·rw[if_pos h1,if_pos h1];simp
theorem C72 {it:Itm} (h:it.fitI):tx (A8l it)=A7u it:=by
 rw[A8l,A7u];rcases h.kind with h2|⟨h1,_⟩
 ·rw[if_neg (by omega),if_neg (by omega),if_pos h2]
  simp only[J5,Q8,L9];rw[D5k,A7m h.named (A3i (by decide) _),A19 (by decide),D5m h.params.2 (A3i (by decide) _),A19 (by decide),A19 (by decide),A1p (by decide),B3T h.label,
   D7e h.sends.2 (A4X (by decide) _),A1p (by decide)]
  have:=D7c it.body (r:= []) 0 h.body.2;rw[J4,C1t,J4]at this;rw[this]
  rfl
 ·rw[if_pos h1,if_pos h1]
  simp only[J5,Q8,L9];rw[C9F,A7m h.named (A3i (by decide) _),A19 (by decide),A1p (by decide),B3T h.label,A19 (by decide),C1t]
  rfl
end Go.Sp
