/- Own work. -/
import Derived.Test.YtbmbnippbldmfaaGreatDoorSn6
set_option maxHeartbeats 64000000
namespace Go.Sp
mutual
def Ex.cnt:Ex->Nat
 | .mk _ _ _ args _ _=>A03 args+1
def A03:List Ex->Nat
 | []=>0
 |e::es=>e.cnt+A03 es
 end
mutual
def Stm.cnt:Stm->Nat
 | .mk _ _ _ _ _ e thn els _ _=>e.cnt+P8 thn+P8 els+1
def P8:List Stm->Nat
 | []=>0
 |x::xs=>x.cnt+P8 xs
 end
theorem A4y:∀(l r:List Ex),A03 (l++r)=A03 l+A03 r
 | [],r=>by rw[A03];simp
 |e::l,r=>by rw[Y0,A03,A03,A4y l r];omega
theorem A2L:∀(l r:List Stm),P8 (l++r)=P8 l+P8 r
 | [],r=>by rw[P8];simp
 |e::l,r=>by rw[Y0,P8,P8,A2L l r];omega
theorem A6o (e:Ex):A03 [e]=e.cnt:=by rw[A03,A03];omega
theorem A4O (e:Stm):P8 [e]=e.cnt:=by rw[P8,P8];omega
theorem A4n (k n f t:Nat) (nm:List UInt8):(Ex.mk k nm n [] f t).cnt=1:=by rw[Ex.cnt,A03]
theorem A3h (T:Src) (s:St) (w:List UInt8):s.i<=(s.need T w).2.i:=(A0C T s w).le
theorem B6I (T:Src):∀f,(∀d s,(A2Z T f d s).1.cnt<=2 *((A2Z T f d s).2.i-s.i)+1)/\(∀d l s,A03 (A4e T f d l s).1<=A03 l+2 *((A4e T f d l s).2.i-s.i)+1)/\
  (∀d m s,(A0O T f d m s).1.cnt<=2 *((A0O T f d m s).2.i-s.i)+1)/\(∀d m e s,(opL T f d m e s).1.cnt<=e.cnt+2 *((opL T f d m e s).2.i-s.i))
 |0=>⟨fun _ _=>by rw[A2Z];show (Ex.mk 0 [] 0 [] 0 0).cnt<=_;rw[A4n];omega,fun _ _ _=>by rw[A4e];dsimp only;omega,
   fun _ _ _=>by rw[A0O];show (Ex.mk 0 [] 0 [] 0 0).cnt<=_;rw[A4n];omega,fun _ _ _ _=>by rw[opL];dsimp only;omega⟩
 |f+1=>by
  obtain⟨hA,hL,hE,hO⟩:=B6I T f;obtain⟨gA,gL,gE,gO⟩:=A06 T f;refine⟨fun d s=>?_,fun d l s=>?_,fun d m s=>?_,fun d m e s=>?_⟩
  ·rw[A2Z]
   dsimp only
   split
   ·rw[A9T];dsimp only;rw[A4n];omega
   ·split
    ·rw[A9T];dsimp only;rw[A4n];omega
    ·split
     ·split
      ·dsimp only;rw[A4n];omega
      ·dsimp only;rw[A4n];omega
     ·split
      ·have h1:=hE (d+1) 1 s.next
       have h2:=(gE (d+1) 1 s.next).le;have h3:=A3h T (A0O T f (d+1) 1 s.next).2 [41];rw[Q5]at h1 h2;dsimp only
       omega
      ·split
       ·rw[A9T];dsimp only;rw[A4n];omega
       ·split
        ·dsimp only;rw[A4n];omega
        ·have h1:=hL (d+1) [] s.next.next
         have h2:=(gL (d+1) [] s.next.next).le;have h3:=A3h T (A4e T f (d+1) [] s.next.next).2 [41];rw[Q5,Q5]at h1 h2;rw[A03]at h1;dsimp only
         rw[Ex.cnt];omega
  ·rw[A4e]
   split
   ·dsimp only;omega
   ·split
    ·dsimp only;omega
    ·have h1:=hE d 1 s
     have h2:=(gE d 1 s).le;try dsimp only
     split
     ·have h3:=hL d (l++ [(A0O T f d 1 s).1]) (A0O T f d 1 s).2.next
      have h4:=(gL d (l++ [(A0O T f d 1 s).1]) (A0O T f d 1 s).2.next).le;rw[Q5]at h3 h4;rw[A4y,A6o]at h3;omega
     ·dsimp only
      rw[A4y,A6o];omega
  ·rw[A0O]
   try dsimp only
   have h1:=hA d s;have h2:=(gA d s).le;have h3:=hO d m (A2Z T f d s).1 (A2Z T f d s).2;have h4:=(gO d m (A2Z T f d s).1 (A2Z T f d s).2).le;omega
  ·rw[opL]
   try dsimp only
   split
   ·dsimp only;omega
   ·have h1:=hE d (A1i (T.tok s.i).text+1) s.next
    have h2:=(gE d (A1i (T.tok s.i).text+1) s.next).le;rw[Q5]at h1 h2;generalize A0O T f d (A1i (T.tok s.i).text+1) s.next=r at h1 h2 |-;have h3:=hO d m (.mk 3 (T.tok s.i).text 0 [e,r.1] e.fr (max r.1.to e.to)) r.2;have h4:=(gO d m (.mk 3 (T.tok s.i).text 0 [e,r.1] e.fr (max r.1.to e.to)) r.2).le;rw[Ex.cnt,A03,A6o]at h3;omega
theorem B4e (T:Src):∀f,(∀d s,P8 (block T f d s).1<=8 *((block T f d s).2.i-s.i))/\(∀d l s,P8 (A4q T f d l s).1<=P8 l+8 *((A4q T f d l s).2.i-s.i))/\
  (∀d s,(stm T f d s).1.cnt<=8 *max ((stm T f d s).2.i-s.i) 1)
 |0=>⟨fun _ _=>by rw[block];dsimp only;rw[P8];omega,fun _ _ _=>by rw[A4q];dsimp only;omega,
   fun _ s=>by rw[stm];show (Stm.mk 0 [] 0 0 false (.mk 0 [] 0 [] 0 0) [] [] 0 0).cnt<=_;rw[Stm.cnt,A4n,P8];omega⟩
 |f+1=>by
  obtain⟨hB,hL,hS⟩:=B4e T f;obtain⟨gB,gL,gS⟩:=A10 T f;have hE:=(B6I T f).2.2.1;have gE:=(A06 T f).2.2.1;refine⟨fun d s=>?_,fun d l s=>?_,fun d s=>?_⟩
  ·rw[block]
   split
   ·dsimp only;rw[P8];omega
   ·split
    ·dsimp only;rw[P8];omega
    ·have h1:=hL (d+1) [] s.next
     have h2:=(gL (d+1) [] s.next).le;have h3:=A3h T (A4q T f (d+1) [] s.next).2 [125];rw[Q5]at h1 h2;rw[P8]at h1;try dsimp only
     omega
  ·rw[A4q]
   split
   ·dsimp only;omega
   ·split
    ·dsimp only;omega
    ·have h1:=hS d s
     have h2:=(gS d s).le;try dsimp only
     split
     ·rename_i he
      have h3:=hL d (l++ [(stm T f d s).1]) (stm T f d s).2.next;have h4:=(gL d (l++ [(stm T f d s).1]) (stm T f d s).2.next).le;rw[Q5]at h3 h4;rw[A2L,A4O]at h3;omega
     ·rename_i he
      have h3:=hL d (l++ [(stm T f d s).1]) (stm T f d s).2;have h4:=(gL d (l++ [(stm T f d s).1]) (stm T f d s).2).le;rw[A2L,A4O]at h3;omega
  ·rw[stm]
   dsimp only
   split
   ·have h1:=(A1e T s.next).le
    rw[Q5]at h1;generalize s.next.named T=r at h1 |-;generalize hr1:(if (!T.is r.2.i [58])=true then (0,r.2) else lab T r.2.next)=r1;have h2:r.2.i<=r1.2.i:=by
     rw[<-hr1];split
     ·exact G9 _
     ·have:=(A3l T r.2.next).le
      rw[Q5]at this;omega
    have h3:=A3h T r1.2 [61];have h4:=hE d 1 (r1.2.need T [61]).2;have h5:=(gE d 1 (r1.2.need T [61]).2).le;have h6:=A3h T (A0O T f d 1 (r1.2.need T [61]).2).2 [59];try dsimp only
    rw[Stm.cnt,P8];omega
   ·split
    ·have h1:=hE d 1 s.next
     have h2:=(gE d 1 s.next).le;rw[Q5]at h1 h2;generalize A0O T f d 1 s.next=r at h1 h2 |-;have h3:=hB d r.2;have h4:=(gB d r.2).le;generalize block T f d r.2=r1 at h3 h4 |-;split
     ·have h5:=hB d r1.2.next
      have h6:=(gB d r1.2.next).le;rw[Q5]at h5 h6;dsimp only
      try dsimp only
      rw[Stm.cnt];omega
     ·dsimp only
      try dsimp only
      rw[Stm.cnt,P8];omega
    ·split
     ·have h1:=hE d 1 s.next
      have h2:=(gE d 1 s.next).le;rw[Q5]at h1 h2;generalize A0O T f d 1 s.next=r at h1 h2 |-;have h3:=hB d r.2;have h4:=(gB d r.2).le;try dsimp only
      rw[Stm.cnt,P8];omega
     ·split
      ·have h1:=(A1e T s.next).le
       rw[Q5]at h1;generalize s.next.named T=r at h1 |-;have h4:=hE d 1 r.2;have h5:=(gE d 1 r.2).le;have h6:=A3h T (A0O T f d 1 r.2).2 [59];try dsimp only
       rw[Stm.cnt,P8];omega
      ·split
       ·have h4:=hE d 1 s.next
        have h5:=(gE d 1 s.next).le;have h6:=A3h T (A0O T f d 1 s.next).2 [59];rw[Q5]at h4 h5;try dsimp only
        rw[Stm.cnt,P8];omega
       ·split
        ·split
         ·have h4:=hE d 1 s.next.next
          have h5:=(gE d 1 s.next.next).le;have h6:=A3h T (A0O T f d 1 s.next.next).2 [59];rw[Q5,Q5]at h4 h5;try dsimp only
          rw[Stm.cnt,P8];omega
         ·have h4:=hE d 1 s
          have h5:=(gE d 1 s).le;have h6:=A3h T (A0O T f d 1 s).2 [59];try dsimp only
          rw[Stm.cnt,P8];omega
        ·rw[Stm.cnt,P8]
         show (Ex.mk 0 [] 0 [] 0 0).cnt+0+0+1<=_
         rw[A4n];omega
theorem A7r {T:Src}{s:St} (w:List UInt8) (h:s.i<=T.l.length):(s.need T w).2.i<=T.l.length:=(A0C T s w).top h
theorem B0L (src:List UInt8) (at_:Int):P8 (item src at_).body<=8 *src.length:=by
 have htl:(U8 src).length<=src.length:=A7C src;rw[item];generalize hT:(⟨U8 src,src.length⟩:Src)=T;have hTl:T.l.length<=src.length:=by rw[<-hT];exact htl
 dsimp only
 split
 ·rename_i hfn
  have h0:=A1H hfn;dsimp only[A51];have h1:=(A1e T ⟨1,[]⟩).top (show 1<=_ by omega);generalize (⟨1,[]⟩:St).named T=r at h1 |-;have h2:=A7r [40] h1;generalize (r.2.need T [40]).2=s1 at h2 |-;have h3:=((A88 T 6 [] s1 (by simp)).2 h2).2.1;generalize A4E T 6 [] s1=r2 at h3 |-;have h4:=A7r [41] h3;generalize (r2.2.need T [41]).2=s3 at h4 |-;have h5:=A7r [58] h4;generalize (s3.need T [58]).2=s4 at h5 |-;have h6:=(A3l T s4).top h5;generalize lab T s4=r5 at h6 |-;generalize hr6:(if T.is r5.2.i [115,101,110,100,115]=true then A4H T 6 [] r5.2.next else ([],r5.2))=r6;have h7:r6.2.i<=T.l.length:=by
   rw[<-hr6];split
   ·rename_i hs
    have:=A1H hs;exact((A9h T 6 [] r5.2.next (by simp)).2 (by rw[Q5];omega)).2.1
   ·exact h6
  have h8:=(B4e T (A6S T)).1 0 r6.2;have h9:=((A10 T (A6S T)).1 0 r6.2).top h7;omega
 ·split
  ·dsimp only[B0A]
   rw[P8];omega
  ·dsimp only
   rw[P8];omega
abbrev PE:=Nat->List UInt8->Nat->Nat->Nat->Nat->Prop
abbrev PS:=Nat->List UInt8->Nat->Nat->Bool->Nat->Nat->Prop
mutual
def Ex.all (p:PE):Ex->Prop
 | .mk k nm n args f t=>p k nm n args.length f t/\A1p p args
def A1p (p:PE):List Ex->Prop
 | []=>True
 |e::es=>e.all p/\A1p p es
 end
mutual
def Stm.all (p:PE) (q:PS):Stm->Prop
 | .mk k nm a lb o e thn els f t=>q k nm a lb o f t/\e.all p/\X7 p q thn/\X7 p q els
def X7 (p:PE) (q:PS):List Stm->Prop
 | []=>True
 |x::xs=>x.all p q/\X7 p q xs
 end
theorem A98 {p:PE}:∀ {l r:List Ex},A1p p l->A1p p r->A1p p (l++r)
 | [],r,_,h=>h
 |e::l,r,h,g=>by
  rw[A1p]at h;rw[Y0,A1p];exact⟨h.1,A98 h.2 g⟩
theorem A99 {p:PE}{e:Ex} (h:e.all p):A1p p [e]:=by rw[A1p,A1p];exact⟨h,trivial⟩
theorem A4x {p:PE}:A1p p []:=by rw[A1p];trivial
theorem X4 {p:PE}{q:PS}:X7 p q []:=by rw[X7];trivial
theorem B17 {p:PE}{q:PS}:∀ {l r:List Stm},X7 p q l->X7 p q r->X7 p q (l++r)
 | [],r,_,h=>h
 |e::l,r,h,g=>by
  rw[X7]at h;rw[Y0,X7];exact⟨h.1,B17 h.2 g⟩
theorem B72 {p:PE}{q:PS}{e:Stm} (h:e.all p q):X7 p q [e]:=by rw[X7,X7];exact⟨h,trivial⟩
theorem A6n {p:PE}:∀ {l:List Ex}{i:Nat}{e:Ex},A1p p l->l[i]?=some e->e.all p
 | [],_,_,_,h=>by simp at h
 |a::l,0,e,h,hg=>by
  rw[A1p]at h;simp only[A0A,U3]at hg;subst hg;exact h.1
 |a::l,i+1,e,h,hg=>by
  rw[A1p]at h;rw[A0E]at hg;exact A6n h.2 hg
theorem A4N {p:PE}{q:PS}:∀ {l:List Stm}{i:Nat}{e:Stm},X7 p q l->l[i]?=some e->e.all p q
 | [],_,_,_,h=>by simp at h
 |a::l,0,e,h,hg=>by
  rw[X7]at h;simp only[A0A,U3]at hg;subst hg;exact h.1
 |a::l,i+1,e,h,hg=>by
  rw[X7]at h;rw[A0E]at hg;exact A4N h.2 hg
theorem A4j {p:PE}{k n f t:Nat}{nm:List UInt8} (h:p k nm n 0 f t):(Ex.mk k nm n [] f t).all p:=by rw[Ex.all];exact⟨h,A4x⟩
theorem Ex.all_node {p:PE}{e:Ex} (h:e.all p):p e.kind e.name e.n e.args.length e.fr e.to/\A1p p e.args:=by
 cases e;rw[Ex.all]at h;exact h
theorem Stm.all_node {p:PE}{q:PS}{e:Stm} (h:e.all p q):q e.kind e.name e.at_ e.label e.opn e.fr e.to/\e.e.all p/\X7 p q e.thn/\X7 p q e.els:=by
 cases e;rw[Stm.all]at h;exact h
mutual
theorem Ex.all_mono {p q:PE} (h:∀k nm n m f t,p k nm n m f t->q k nm n m f t):∀(e:Ex),e.all p->e.all q
 | .mk k nm n args f t,ha=>by rw[Ex.all]at ha |-;exact⟨h _ _ _ _ _ _ ha.1,B1T h args ha.2⟩
theorem B1T {p q:PE} (h:∀k nm n m f t,p k nm n m f t->q k nm n m f t):∀(l:List Ex),A1p p l->A1p q l
 | [],_=>A4x
 |e::l,ha=>by rw[A1p]at ha |-;exact⟨Ex.all_mono h e ha.1,B1T h l ha.2⟩
 end
mutual
theorem Stm.all_mono {p q:PE}{r s:PS} (h:∀k nm n m f t,p k nm n m f t->q k nm n m f t) (g:∀k nm a l o f t,r k nm a l o f t->s k nm a l o f t):∀(e:Stm),e.all p r->e.all q s
 | .mk k nm a lb o e thn els f t,ha=>by rw[Stm.all]at ha |-;exact⟨g _ _ _ _ _ _ _ ha.1,Ex.all_mono h e ha.2.1,A47 h g thn ha.2.2.1,A47 h g els ha.2.2.2⟩
theorem A47 {p q:PE}{r s:PS} (h:∀k nm n m f t,p k nm n m f t->q k nm n m f t) (g:∀k nm a l o f t,r k nm a l o f t->s k nm a l o f t):∀(l:List Stm),X7 p r l->X7 q s l
 | [],_=>X4
 |e::l,ha=>by rw[X7]at ha |-;exact⟨Stm.all_mono h g e ha.1,A47 h g l ha.2⟩
 end
structure AtE (T:Src) (p:PE):Prop where
 zero:p 0 [] 0 0 0 0
 bad:∀i,p 5 [] 0 0 (T.tok i).pos (T.tok i).pos
 num:∀i n,n<=1000000000->(T.tok i).kind=2->p 1 [] n 0 (T.tok i).pos ((T.tok i).pos+(T.tok i).text.length)
 var:∀i,name (T.tok i).text=true->p 2 (T.tok i).text 0 0 (T.tok i).pos ((T.tok i).pos+(T.tok i).text.length)
 call:∀i j m,name (T.tok i).text=true->m<=5->i+2<=j->p 4 (T.tok i).text 0 m (T.tok i).pos (T.endOf j)
 op:∀i k1 n1 v1 m1 f1 t1 k2 n2 v2 m2 f2 t2,A1i (T.tok i).text≠0->p k1 n1 v1 m1 f1 t1->p k2 n2 v2 m2 f2 t2->p 3 (T.tok i).text 0 2 f1 (max t2 t1)
theorem B6t {T:Src}{p:PE} (h:AtE T p):∀f,(∀d s,(A2Z T f d s).1.all p)/\(∀d l s,l.length<=5->A1p p l->(A4e T f d l s).1.length<=5/\A1p p (A4e T f d l s).1)/\
  (∀d m s,(A0O T f d m s).1.all p)/\(∀d m e s,e.all p->(opL T f d m e s).1.all p)
 |0=>⟨fun _ _=>by rw[A2Z];exact A4j h.zero,fun _ _ _ h1 h2=>by rw[A4e];exact⟨h1,h2⟩,fun _ _ _=>by rw[A0O];exact A4j h.zero,fun _ _ _ _ h1=>by rw[opL];exact h1⟩
 |f+1=>by
  obtain⟨hA,hL,hE,hO⟩:=B6t h f;refine⟨fun d s=>?_,fun d l s h1 h2=>?_,fun d m s=>?_,fun d m e s h1=>?_⟩
  ·rw[A2Z]
   dsimp only
   split
   ·exact A4j (h.bad _)
   ·split
    ·exact A4j (h.bad _)
    ·split
     ·rename_i hk
      split
      ·exact A4j (h.num _ 0 (by omega) hk)
      ·exact A4j (h.num _ _ (by omega) hk)
     ·split
      ·exact hE _ _ _
      ·split
       ·exact A4j (h.bad _)
       ·rename_i hn
        have hn':name (T.tok s.i).text=true:=by simpa using hn
        split
        ·exact A4j (h.var _ hn')
        ·obtain⟨h1,h2⟩:=hL (d+1) [] s.next.next (by simp) A4x
         dsimp only
         rw[Ex.all];have h3:=((A06 T f).2.1 (d+1) [] s.next.next).le;have h4:=(A0C T (A4e T f (d+1) [] s.next.next).2 [41]).le;rw[Q5,Q5]at h3;exact⟨h.call _ _ _ hn' h1 (by omega),h2⟩
  ·rw[A4e]
   split
   ·exact⟨h1,h2⟩
   ·split
    ·exact⟨h1,h2⟩
    ·have h3:=hE d 1 s
     have h4:(l++ [(A0O T f d 1 s).1]).length<=5:=by simp;omega
     have h5:=A98 h2 (A99 h3);dsimp only
     split
     ·exact hL _ _ _ h4 h5
     ·exact⟨h4,h5⟩
  ·rw[A0O]
   try dsimp only
   exact hO _ _ _ _ (hA d s)
  ·rw[opL]
   try dsimp only
   split
   ·exact h1
   ·rename_i ht
    refine hO _ _ _ _ ?_
    have h3:=hE d (A1i (T.tok s.i).text+1) s.next;generalize (A0O T f d (A1i (T.tok s.i).text+1) s.next).1=r at h3 |-;cases e with
    |mk k1 n1 v1 a1 f1 t1=>
    cases r with
    |mk k2 n2 v2 a2 f2 t2=>
    have g1:=h1;have g3:=h3;rw[Ex.all]at g1 g3;rw[Ex.all];exact⟨h.op _ _ _ _ _ _ _ _ _ _ _ _ _ (by omega) g1.1 g3.1,A98 (A99 h1) (A99 h3)⟩
structure AtS (T:Src) (q:PS):Prop where
 zero:q 0 [] 0 0 false 0 0
 let_:∀i (s:St) lb o j,lb<=255->q 1 (s.named T).1 (T.tok s.i).pos lb o (T.tok i).pos (max (T.endOf j) (T.tok i).pos)
 set:∀i j,name (T.tok i).text=true->q 2 (T.tok i).text (T.tok i).pos 0 false (T.tok i).pos (max (T.endOf j) (T.tok i).pos)
 plain:∀k i j,(k=3\/k=4\/k=6\/k=7\/k=8)->q k [] 0 0 false (T.tok i).pos (max (T.endOf j) (T.tok i).pos)
 send:∀i (s:St) j,q 5 (s.named T).1 (T.tok s.i).pos 0 false (T.tok i).pos (max (T.endOf j) (T.tok i).pos)
theorem C7D (a:Nat) (ha:a<256) (q:Nat) (hq:q<8) (h:bit a q=false):a+2 ^ q<256:=by
 have key:∀a<256,∀q<8,bit a q=false->a+2 ^ q<256:=by decide+kernel
 exact key a ha q hq h
theorem B0O (T:Src):∀(f n:Nat) (s:St),n<256->(B2g T f n s).1<256
 |0,n,s,h=>h
 |f+1,n,s,h=>by
  rw[B2g];split
  ·exact h
  ·dsimp only
   split
   ·exact h
   ·rename_i h2
    generalize hqd:((T.tok s.i).text.getD 0 0).toNat-97=q;have hq:q<8:=by
     simp only[C1Z,Bool.not_eq_true,Bool.not_eq_false',U9,decide_eq_true_eq]at h2;omega
    cases hb:bit n q with
    |true=>
     simp only[if_true];split
     ·exact B0O T f _ _ h
     ·split
      ·exact B0O T f _ _ h
      ·exact h
    |false=>
     have hn:=C7D n h q hq hb;simp only[A6y,if_false];split
     ·exact B0O T f _ _ hn
     ·split
      ·exact B0O T f _ _ hn
      ·exact hn
theorem A84 (T:Src) (s:St):(lab T s).1<256:=by
 rw[lab];split
 ·exact B0O T _ _ _ (by decide)
 ·dsimp only;omega
theorem B37 {T:Src}{p:PE}{q:PS} (h:AtE T p) (g:AtS T q):∀f,(∀d s,X7 p q (block T f d s).1)/\(∀d l s,X7 p q l->X7 p q (A4q T f d l s).1)/\(∀d s,(stm T f d s).1.all p q)
 |0=>⟨fun _ _=>by rw[block];exact X4,fun _ _ _ h1=>by rw[A4q];exact h1,fun _ s=>by
   rw[stm];show (Stm.mk 0 [] 0 0 false (.mk 0 [] 0 [] 0 0) [] [] 0 0).all p q
   rw[Stm.all];exact⟨g.zero,A4j h.zero,X4,X4⟩⟩
 |f+1=>by
  obtain⟨hB,hL,hS⟩:=B37 h g f;have hE:=(B6t h f).2.2.1;refine⟨fun d s=>?_,fun d l s h1=>?_,fun d s=>?_⟩
  ·rw[block]
   split
   ·exact X4
   ·split
    ·exact X4
    ·dsimp only
     exact hL _ _ _ X4
  ·rw[A4q]
   split
   ·exact h1
   ·split
    ·exact h1
    ·dsimp only
     exact hL _ _ _ (B17 h1 (B72 (hS d s)))
  ·rw[stm]
   dsimp only
   split
   ·rw[Stm.all]
    refine⟨g.let_ s.i s.next _ _ _ ?_,hE _ _ _,X4,X4⟩
    split
    ·dsimp only;omega
    ·exact A7Z (A84 T _)
   ·split
    ·split
     ·dsimp only;rw[Stm.all];exact⟨g.plain _ _ _ (.inl rfl),hE _ _ _,hB _ _,hB _ _⟩
     ·dsimp only;rw[Stm.all];exact⟨g.plain _ _ _ (.inl rfl),hE _ _ _,hB _ _,X4⟩
    ·split
     ·rw[Stm.all];exact⟨g.plain _ _ _ (.inr (.inl rfl)),hE _ _ _,hB _ _,X4⟩
     ·split
      ·rw[Stm.all];exact⟨g.send s.i s.next _,hE _ _ _,X4,X4⟩
      ·split
       ·rw[Stm.all];exact⟨g.plain _ _ _ (.inr (.inr (.inl rfl))),hE _ _ _,X4,X4⟩
       ·split
        ·rename_i hn
         split
         ·rw[Stm.all];exact⟨g.set _ _ hn,hE _ _ _,X4,X4⟩
         ·rw[Stm.all];exact⟨g.plain _ _ _ (.inr (.inr (.inr (.inl rfl)))),hE _ _ _,X4,X4⟩
        ·rw[Stm.all]
         refine⟨g.plain _ _ _ (.inr (.inr (.inr (.inr rfl)))),?_,X4,X4⟩
         exact A4j h.zero
theorem B6u {T:Src}{r:Par->Prop} (h:∀(s:St) lb,lb<=255->r ⟨(s.named T).1,lb,(T.tok s.i).pos⟩):∀(f:Nat) (l:List Par) (s:St),(∀x∈l,r x)->∀x∈(A4E T f l s).1,r x
 |0,l,s,h1=>by rw[A4E];exact h1
 |f+1,l,s,h1=>by
  rw[A4E];split
  ·exact h1
  ·split
   ·exact h1
   ·dsimp only
    split
    ·exact h1
    ·have h2:∀lb,lb<=255->∀x∈l++ [⟨(s.named T).1,lb,(T.tok s.i).pos⟩],r x:=fun lb hl x hx=>by
      rcases A0d.1 hx with hx|hx
      ·exact h1 x hx
      ·obtain rfl:=A0v.1 hx
       exact h s lb hl
     have h3:=fun s=>A7Z (A84 T s)
     split
     ·exact B6u h f _ _ (h2 _ (h3 _))
     ·exact h2 _ (h3 _)
theorem B6v {T:Src}{r:Rf->Prop} (h:∀(s:St),r ⟨(s.named T).1,(T.tok s.i).pos⟩):∀(f:Nat) (l:List Rf) (s:St),(∀x∈l,r x)->∀x∈(A4H T f l s).1,r x
 |0,l,s,h1=>by rw[A4H];exact h1
 |f+1,l,s,h1=>by
  rw[A4H];split
  ·exact h1
  ·dsimp only
   have h2:∀x∈l++ [⟨(s.named T).1,(T.tok s.i).pos⟩],r x:=fun x hx=>by
    rcases A0d.1 hx with hx|hx
    ·exact h1 x hx
    ·obtain rfl:=A0v.1 hx
     exact h s
   split
   ·exact B6v h f _ _ h2
   ·exact h2
structure ItAll (T:Src) (p:PE) (q:PS) (r:Par->Prop) (t:Rf->Prop) (it:Itm):Prop where
 body:X7 p q it.body
 params:∀x∈it.params,r x
 sends:∀x∈it.sends,t x
 few:it.params.length<=5/\it.sends.length<=5/\it.body.length<=40
 label:it.label<=255
 kind:1<=it.kind/\it.kind<=3
 mark:(it.name= []/\((∃i,it.mark=(T.tok i).pos)\/it.mark=0))\/∃s:St,it.name=(s.named T).1/\it.mark=(T.tok s.i).pos
 bad:it.kind=3->it.name= []/\it.label=0/\it.params= []/\it.sends= []/\it.body= []
 chan:it.kind=1->it.params= []/\it.sends= []/\it.body= []
theorem B3f {src:List UInt8}{p:PE}{q:PS}{r:Par->Prop}{t:Rf->Prop} (at_:Int) (h:AtE ⟨U8 src,src.length⟩ p) (g:AtS ⟨U8 src,src.length⟩ q)
  (hr:∀(s:St) lb,lb<=255->r ⟨(s.named ⟨U8 src,src.length⟩).1,lb,((⟨U8 src,src.length⟩:Src).tok s.i).pos⟩)
  (ht:∀(s:St),t ⟨(s.named ⟨U8 src,src.length⟩).1,((⟨U8 src,src.length⟩:Src).tok s.i).pos⟩):ItAll ⟨U8 src,src.length⟩ p q r t (item src at_):=by
 rw[item];generalize (⟨U8 src,src.length⟩:Src)=T at h g hr ht |-;dsimp only
 split
 ·dsimp only[A51]
  have h6:∀(c:Bool) (y z:St),∀x∈(if c=true then A4H T 6 [] y else ([],z)).1,t x:=fun c y z=>by
   split
   ·exact B6v ht _ _ _ (by simp)
   ·simp
  have l6:∀(c:Bool) (y z:St),(if c=true then A4H T 6 [] y else ([],z)).1.length<=5:=fun c y z=>by
   split
   ·exact(A9h T 6 [] _ (by simp)).1
   ·simp
  exact⟨(B37 h g _).1 _ _,B6u hr _ _ _ (by simp),h6 _ _ _,⟨(A88 T 6 [] _ (by simp)).1,l6 _ _ _,((A9g T _).1 _ _).1⟩,A7Z (A84 T _),⟨by simp,by simp⟩,.inr ⟨⟨1,[]⟩,rfl,rfl⟩,fun h=>(by simp at h),fun h=>(by simp at h)⟩
 ·split
  ·dsimp only[B0A]
   exact⟨X4,by simp,by simp,⟨by simp,by simp,by simp⟩,A7Z (A84 T _),⟨by simp,by simp⟩,.inr ⟨⟨1,[]⟩,rfl,rfl⟩,fun h=>(by simp at h),fun _=>⟨rfl,rfl,rfl⟩⟩
  ·dsimp only
   exact⟨X4,by simp,by simp,⟨by simp,by simp,by simp⟩,by simp,⟨by simp,by simp⟩,.inl ⟨rfl,.inr rfl⟩,fun _=>⟨rfl,rfl,rfl,rfl,rfl⟩,fun h=>(by simp at h)⟩
def B0P:PS:=fun _ _ _ l _ _ _=>l<256
def B0w:PE:=fun _ _ _ _ _ _=>True
inductive Runs (T:Src):St->St->Prop where
 |refl (s:St):Runs T s s
 |bad {s r:St} (e:Nat):Runs T s r->Runs T s (r.bad T e)
 |next {s r:St}:Runs T s r->Runs T s r.next
theorem Runs.trans {T:Src}{s r q:St} (h:Runs T s r) (g:Runs T r q):Runs T s q:=by
 induction g with
 |refl=>exact h
 |bad e _ ih=>exact .bad e ih
 |next _ ih=>exact .next ih
theorem Runs.on {T:Src}{s r:St} (h:Runs T s r):s.i<=r.i:=by
 induction h with
 |refl=>exact G9 _
 |bad e _ ih=>exact ih
 |next _ ih=>exact Nat.le_succ_of_le ih
theorem A2A (T:Src) (s:St) (e:Nat):(s.bad T e).ds≠ []:=by simp[St.bad]
theorem Runs.told {T:Src}{s r:St} (h:Runs T s r) (hs:s.ds≠ []):r.ds≠ []:=by
 induction h with
 |refl=>exact hs
 |bad e _ _=>exact A2A _ _ _
 |next _ ih=>exact ih
theorem Runs.clean {T:Src}{s r:St} (h:Runs T s r) (hr:r.ds= []):s.ds= []:=by
 cases hs:s.ds with
 |nil=>rfl
 |cons a l=>exact absurd hr (h.told (by rw[hs];simp))
theorem A1Y (T:Src) (s:St) (e:Nat):Runs T s (s.bad T e):=.bad e (.refl s)
theorem A0D (T:Src) (s:St):Runs T s s.next:=.next (.refl s)
theorem A0h (T:Src) (s:St) (w:List UInt8):Runs T s (s.need T w).2:=by
 rw[St.need];split
 ·exact A0D T s
 ·exact A1Y T s 2
theorem A2U (T:Src) (s:St):Runs T s (s.named T).2:=by
 rw[St.named];split
 ·exact A0D T s
 ·split
  ·exact .next (A1Y T s 7)
  ·exact A1Y T s 2
theorem B1I (T:Src):∀(f n:Nat) (s:St),Runs T s (B2g T f n s).2
 |0,n,s=> .refl s
 |f+1,n,s=>by
  rw[B2g];split
  ·exact A0D T s
  ·dsimp only
   split
   ·exact A1Y T s 2
   ·generalize (if bit n ((T.tok s.i).text.getD 0 0|>.toNat|>(· -97))=true then n else n+2 ^ ((T.tok s.i).text.getD 0 0|>.toNat|>(· -97)))=n1
    have g:Runs T s (if bit n ((T.tok s.i).text.getD 0 0|>.toNat|>(· -97))=true then s.bad T 7 else s).next:=by
     split
     ·exact .next (A1Y T s 7)
     ·exact A0D T s
    generalize (if bit n ((T.tok s.i).text.getD 0 0|>.toNat|>(· -97))=true then s.bad T 7 else s).next=s2 at g;split
    ·exact g.trans (B1I T f n1 s2)
    ·split
     ·exact(Runs.next g).trans (B1I T f n1 s2.next)
     ·exact g.trans (A1Y T s2 2)
theorem A46 (T:Src) (s:St):Runs T s (lab T s).2:=by
 rw[lab];split
 ·exact(A0D T s).trans (B1I T _ 0 s.next)
 ·exact A1Y T s 2
theorem A3t (T:Src):∀f,(∀d s,Runs T s (A2Z T f d s).2)/\(∀d l s,Runs T s (A4e T f d l s).2)/\(∀d m s,Runs T s (A0O T f d m s).2)/\(∀d m e s,Runs T s (opL T f d m e s).2)
 |0=>⟨fun _ _=>by rw[A2Z];exact .refl _,fun _ _ _=>by rw[A4e];exact .refl _,fun _ _ _=>by rw[A0O];exact .refl _,fun _ _ _ _=>by rw[opL];exact .refl _⟩
 |f+1=>by
  obtain⟨hA,hL,hE,hO⟩:=A3t T f;refine⟨fun d s=>?_,fun d l s=>?_,fun d m s=>?_,fun d m e s=>?_⟩
  ·rw[A2Z]
   dsimp only
   split
   ·exact A1Y T s 2
   ·split
    ·exact A1Y T s 12
    ·split
     ·split
      ·exact .next (A1Y T s 3)
      ·exact A0D T s
     ·split
      ·exact((A0D T s).trans (hE _ _ _)).trans (A0h T _ _)
      ·split
       ·exact A1Y T s 2
       ·split
        ·exact A0D T s
        ·exact((Runs.next (A0D T s)).trans (hL _ _ _)).trans (A0h T _ _)
  ·rw[A4e]
   split
   ·exact .refl _
   ·split
    ·exact A1Y T s 5
    ·try dsimp only
     split
     ·exact(Runs.next (hE _ _ _)).trans (hL _ _ _)
     ·exact hE _ _ _
  ·rw[A0O]
   try dsimp only
   exact(hA d s).trans (hO _ _ _ _)
  ·rw[opL]
   try dsimp only
   split
   ·exact .refl _
   ·exact((A0D T s).trans (hE _ _ _)).trans (hO _ _ _ _)
theorem A6M (T:Src):∀f,(∀d s,Runs T s (block T f d s).2)/\(∀d l s,Runs T s (A4q T f d l s).2)/\(∀d s,Runs T s (stm T f d s).2)
 |0=>⟨fun _ _=>by rw[block];exact .refl _,fun _ _ _=>by rw[A4q];exact .refl _,fun _ s=>by rw[stm];exact .refl _⟩
 |f+1=>by
  obtain⟨hB,hL,hS⟩:=A6M T f;have hE:=(A3t T f).2.2.1;refine⟨fun d s=>?_,fun d l s=>?_,fun d s=>?_⟩
  ·rw[block]
   split
   ·exact A1Y T s 2
   ·split
    ·exact(A0D T s).trans (A1Y T _ 12)
    ·dsimp only
     exact((A0D T s).trans (hL _ _ _)).trans (A0h T _ _)
  ·rw[A4q]
   split
   ·exact .refl _
   ·split
    ·exact A1Y T s 5
    ·dsimp only
     split
     ·exact(Runs.next (hS d s)).trans (hL _ _ _)
     ·exact(hS d s).trans (hL _ _ _)
  ·rw[stm]
   dsimp only
   split
   ·have g1:=A2U T s.next
    have g2:Runs T (s.next.named T).2 (if (!T.is (s.next.named T).2.i [58])=true then ((0:Nat),(s.next.named T).2) else lab T (s.next.named T).2.next).2:=by
     split
     ·exact .refl _
     ·exact(A0D T _).trans (A46 T _)
    exact(((((A0D T s).trans g1).trans g2).trans (A0h T _ _)).trans (hE _ _ _)).trans (A0h T _ _)
   ·split
    ·have g1:=((A0D T s).trans (hE d 1 s.next)).trans (hB d (A0O T f d 1 s.next).2)
     split
     ·exact(Runs.next g1).trans (hB d _)
     ·exact g1
    ·split
     ·exact((A0D T s).trans (hE d 1 s.next)).trans (hB d (A0O T f d 1 s.next).2)
     ·split
      ·exact(((A0D T s).trans (A2U T s.next)).trans (hE d 1 _)).trans (A0h T _ _)
      ·split
       ·exact((A0D T s).trans (hE d 1 s.next)).trans (A0h T _ _)
       ·split
        ·split
         ·exact((Runs.next (A0D T s)).trans (hE d 1 _)).trans (A0h T _ [59])
         ·exact(hE d 1 s).trans (A0h T _ [59])
        ·exact A1Y T s 2
theorem A9A (T:Src):∀(f:Nat) (l:List Par) (s:St),Runs T s (A4E T f l s).2
 |0,l,s=> .refl _
 |f+1,l,s=>by
  rw[A4E];split
  ·exact .refl _
  ·split
   ·exact A1Y T s 5
   ·dsimp only
    have g:=(A2U T s).trans (A0h T (s.named T).2 [58]);split
    ·exact g
    ·have g2:=g.trans (A46 T _)
     split
     ·exact(Runs.next g2).trans (A9A T f _ _)
     ·exact g2
theorem A9B (T:Src):∀(f:Nat) (l:List Rf) (s:St),Runs T s (A4H T f l s).2
 |0,l,s=> .refl _
 |f+1,l,s=>by
  rw[A4H];split
  ·exact A1Y T s 5
  ·dsimp only
   split
   ·exact(Runs.next (A2U T s)).trans (A9B T f _ _)
   ·exact A2U T s
theorem C5R (T:Src) (at_:Int) (size:Nat) (s:St):Runs T s (A51 T at_ size s).2:=by
 rw[A51];dsimp only
 have g6:∀r5:Nat×St,Runs T r5.2 (if T.is r5.2.i [115,101,110,100,115]=true then A4H T 6 [] r5.2.next else ([],r5.2)).2:=fun r5=>by
  split
  ·exact(A0D T _).trans (A9B T _ _ _)
  ·exact .refl _
 exact(((((((A2U T s).trans (A0h T _ _)).trans (A9A T 6 [] _)).trans (A0h T _ _)).trans (A0h T _ _)).trans (A46 T _)).trans (g6 _)).trans ((A6M T _).1 _ _)
theorem C5Q (T:Src) (at_:Int) (size:Nat) (s:St):Runs T s (B0A T at_ size s).2:=by
 rw[B0A];dsimp only
 exact(((A2U T s).trans (A0h T _ _)).trans (A46 T _)).trans (A0h T _ _)
def B6P (size:Nat) (d:Dg):Prop:=d.fr<=d.to/\d.to<=size
theorem B8v {T:Src}{s:St}{e:Nat} (hT:∀i,(T.tok i).pos+(T.tok i).text.length<=T.size) (h:∀d∈s.ds,B6P T.size d):∀d∈(s.bad T e).ds,B6P T.size d:=by
 intro d hd;rcases A0d.1 (show d∈s.ds++ [_] from hd) with h1|h1
 ·exact h d h1
 ·have e1:=A0v.1 h1
  rw[e1];exact⟨Nat.le_add_right _ _,hT s.i⟩
theorem C0v {T:Src}{s r:St} (hT:∀i,(T.tok i).pos+(T.tok i).text.length<=T.size) (h:Runs T s r) (hs:∀d∈s.ds,B6P T.size d):∀d∈r.ds,B6P T.size d:=by
 induction h with
 |refl=>exact hs
 |bad e _ ih=>exact B8v hT ih
 |next _ ih=>exact ih
theorem C57 (s:List UInt8) (i:Nat):((⟨U8 s,s.length⟩:Src).tok i).pos+((⟨U8 s,s.length⟩:Src).tok i).text.length<=s.length:=by
 rcases U0 i (U8 s).length with h|h
 ·rw[Src.tok,O4,G6 h]
  exact(A2E s _ (O7 h)).fit
 ·rw[A48 h];simp
theorem C5d (s:List UInt8) (at_:Int):∀d∈(item s at_).diags,B6P s.length d:=by
 have hT:=C57 s;have g:∀q:Itm×St,(∀d∈q.2.ds,B6P s.length d)->∀d∈(if q.2.i<(⟨U8 s,s.length⟩:Src).l.length then q.2.bad ⟨U8 s,s.length⟩ 2 else q.2).ds,B6P s.length d:=fun q hq=>by
  split
  ·exact B8v (T:=⟨U8 s,s.length⟩) hT hq
  ·exact hq
 rw[item];dsimp only
 refine g _ ?_
 split
 ·exact C0v (T:=⟨U8 s,s.length⟩) hT (C5R _ _ _ _) (by simp)
 ·split
  ·exact C0v (T:=⟨U8 s,s.length⟩) hT (C5Q _ _ _ _) (by simp)
  ·exact B8v (T:=⟨U8 s,s.length⟩) (s:=⟨0,[]⟩) (e:=2) hT (by simp)
def A6W (s:List UInt8) (f u:Int) (x:List UInt8):Nat:=if f<0\/u<f\/u>s.length then 3 else if x.length>4000\/(s.length:Int)-(u-f)+x.length>4000 then 4 else 0
def B2V (s:List UInt8) (f u:Int) (x:List UInt8):List UInt8:=if A6W s f u x=0 then s.take f.toNat++x++s.drop u.toNat else []
theorem A9q (s:List UInt8) (cs:List Nat):(A3I s cs).length=cs.length:=by simp[A3I]
theorem B1t (s:List UInt8) (cs:List Nat) {k:Nat} (h:k<cs.length):(A3I s cs)[k]?=some (A0S s cs k):=by
 simp[A3I,h]
theorem B6Z (s:List UInt8):(J7 s).length<=30:=by
 rw[J7];split
 ·rename_i h
  rw[A9q];rw[Z5]at h;split at h
  ·omega
  ·split at h<;>omega
 ·simp
structure ItIn (s:List UInt8) (k:Nat) (it:Itm):Prop where
 at0:0<=it.at_
 size:1<=it.size
 top:it.at_+it.size<=s.length
 ends:it.at_+it.size=(match (J7 s)[k+1]? with|some j=>j.at_|none=>(s.length:Int))
 diags:∀d∈it.diags,d.fr<=d.to/\d.to<=it.size
 small:it.small
 len:s.length<=4000
theorem A6c (src:List UInt8) (at_:Int):(item src at_).size=src.length/\(item src at_).at_=at_:=⟨C1f src at_,B2t src at_⟩
theorem C0a (s:List UInt8) (h0:Z5 s=0) {k:Nat}{it:Itm} (h:(J7 s)[k]?=some it):ItIn s k it:=by
 have e:J7 s=A3I s (Y2 s):=by rw[J7,if_pos h0]
 have hk:k<(Y2 s).length:=by
  have:=(A0t.1 h).1
  rwa [e,A9q]at this
 have hi:it=A0S s (Y2 s) k:=by
  rw[e,B1t s _ hk]at h;exact(A0Y h).symm
 obtain⟨h1,h2⟩:=A7E s hk;have hsz:(A0S s (Y2 s) k).size=(Y2 s).getD (k+1) s.length-(Y2 s).getD k 0:=by
  rw[A0S,(A6c _ _).1,A1b,Q4,A0r];omega
 have hat:(A0S s (Y2 s) k).at_=((Y2 s).getD k 0:Nat):=by rw[A0S,(A6c _ _).2]
 have hlen:s.length<=4000:=by
  rw[Z5]at h0;split at h0
  ·cases h0
  ·omega
 have hsm:(A0S s (Y2 s) k).small:=A4z _ _ (by rw[A1b,Q4,A0r];omega);have hdg:∀d∈(A0S s (Y2 s) k).diags,B6P (A1b s (Y2 s) k).length d:=C5d _ _;have hpl:(A1b s (Y2 s) k).length=(A0S s (Y2 s) k).size:=by rw[A0S,(A6c _ _).1]
 subst hi;refine⟨by rw[hat];omega,by rw[hsz];omega,by rw[hat,hsz];omega,?_,fun d hd=>(by have:=hdg d hd;rw[hpl]at this;exact this),hsm,hlen⟩
 rw[hat,hsz];rcases U0 (k+1) (Y2 s).length with h4|h4
 ·have e2:(J7 s)[k+1]?=some (A0S s (Y2 s) (k+1)):=by rw[e,B1t s _ h4]
  rw[e2];dsimp only
  have hat2:(A0S s (Y2 s) (k+1)).at_=((Y2 s).getD (k+1) 0:Nat):=by rw[A0S,(A6c _ _).2]
  have e3:(Y2 s).getD (k+1) s.length=(Y2 s).getD (k+1) 0:=by
   rw[O4,O4,G6 h4];rfl
  rw[hat2,e3];rw[e3]at h1 h2;omega
 ·have e2:(J7 s)[k+1]?=none:=by rw[e];exact A07 (by rw[A9q];omega)
  rw[e2];have e3:(Y2 s).getD (k+1) s.length=s.length:=by rw[O4,A07 h4];rfl
  dsimp only
  rw[e3]at h1 |-;omega
def C3c (k:Int) (n:List UInt8) (it:Itm):Bool:=decide ((it.kind:Int)=k) && (decide (it.name=n) && decide (n≠ []))
def A0Z (its:List Itm) (k:Int) (n:List UInt8):Option Nat:=its.findIdx? (C3c k n)
structure Lc where
 name:List UInt8
 at_:Nat
structure Us where
 fr:Int
 to:Int
 df:Int
 deriving DecidableEq
structure NW where
 ds:List Dg
 us:List Us
def NW.tell (s:NW) (a e:Nat) (n:List UInt8):NW:= { s with ds:=s.ds++ [⟨a,a+n.length,e,n⟩]}
def NW.use (s:NW) (b:Int) (a:Nat) (n:List UInt8) (d:Int):NW:= { s with us:=s.us++ [⟨b+a,b+a+n.length,d⟩]}
def A1A:List Lc->List UInt8->Option Lc
 | [],_=>none
 |l::sc,n=>match A1A sc n with
  |some x=>some x
  |none=>if l.name=n then some l else none
def C7U:Itm:=⟨0,[],0,[],[],[],0,0,0,[]⟩
def A0o (its:List Itm) (j:Nat):Itm:=its.getD j C7U
def A72 (b:Int) (sc:List Lc) (a:Nat) (n:List UInt8) (s:NW):NW:=match A1A sc n with
 |some l=>s.use b a n (b+l.at_)
 |none=>if n= [] then s else s.tell a 6 n
def A5e (its:List Itm) (b:Int) (k:Int) (a:Nat) (n:List UInt8) (s:NW):NW:=match A0Z its k n with
 |some j=>s.use b a n ((A0o its j).at_+(A0o its j).mark)
 |none=>if n= [] then s else s.tell a 6 n
def A5h (its:List Itm) (b:Int) (a:Nat) (n:List UInt8) (m:Nat) (s:NW):NW:=match A0Z its 2 n with
 |some j=>if (A0o its j).params.length≠m then (A5e its b 2 a n s).tell a 5 n else A5e its b 2 a n s
 |none=>A5e its b 2 a n s
def mkN (n:List UInt8) (a:Nat) (sc:List Lc) (s:NW):List Lc×NW:=
 if n= [] then (sc,s) else (sc++ [⟨n,a⟩],match A1A sc n with|some _=>s.tell a 7 n|none=>s)
mutual
def exN (its:List Itm) (b:Int) (sc:List Lc):Ex->NW->NW
 | .mk k nm _ args fr _,s=>A5d its b sc args (if k=2 then A72 b sc fr nm s else if k=4 then A5h its b fr nm args.length s else s)
def A5d (its:List Itm) (b:Int) (sc:List Lc):List Ex->NW->NW
 | [],s=>s
 |e::es,s=>A5d its b sc es (exN its b sc e s)
 end
mutual
def A5Z (its:List Itm) (b:Int):Stm->List Lc->NW->List Lc×NW
 | .mk k nm a _ _ e thn els _ _,sc,s=>
  if k=1 then mkN nm a sc (exN its b sc e s) else
  if k=2 then (sc,A72 b sc a nm (exN its b sc e s)) else
  if k=5 then (sc,A5e its b 1 a nm (exN its b sc e s)) else
  if k=3\/k=4 then (sc,(A1c its b els sc (A1c its b thn sc (exN its b sc e s)).2).2) else (sc,exN its b sc e s)
def A1c (its:List Itm) (b:Int):List Stm->List Lc->NW->List Lc×NW
 | [],sc,s=>(sc,s)
 |x::xs,sc,s=>A1c its b xs (A5Z its b x sc s).1 (A5Z its b x sc s).2
 end
def A3V:List Par->List Lc->NW->List Lc×NW
 | [],sc,s=>(sc,s)
 |p::ps,sc,s=>A3V ps (mkN p.name p.at_ sc s).1 (mkN p.name p.at_ sc s).2
def A63 (its:List Itm) (b:Int) (dn:List Rf) (c:Rf) (s:NW):NW:=
 if c.name≠ []/\dn.any (fun x=>decide (x.name=c.name))=true then (A5e its b 1 c.at_ c.name s).tell c.at_ 7 c.name else A5e its b 1 c.at_ c.name s
def A6a (its:List Itm) (b:Int):List Rf->List Rf->NW->NW
 |_,[],s=>s
 |dn,c::cs,s=>A6a its b (dn++ [c]) cs (A63 its b dn c s)
def NW0:NW:=⟨[],[]⟩
def B04 (its:List Itm) (i:Nat) (it:Itm):Bool:=decide (it.kind≠3) && (decide (it.name≠ []) && (its.take i).any (fun x=>decide (x.kind=it.kind) && decide (x.name=it.name)))
def fnN (its:List Itm) (it:Itm) (s:NW):NW:=
 (A1c its it.at_ it.body (A3V it.params [] s).1 (A6a its it.at_ [] it.sends (A3V it.params [] s).2)).2
def A3a (its:List Itm) (i:Nat):NW:=
 if (A0o its i).kind=2 then fnN its (A0o its i) (if B04 its i (A0o its i)=true then NW0.tell (A0o its i).mark 7 (A0o its i).name else NW0)
 else if B04 its i (A0o its i)=true then NW0.tell (A0o its i).mark 7 (A0o its i).name else NW0
def A49 (its:List Itm) (k:Nat):List Us:=(List.range k).flatMap (fun i=>(A3a its i).us)
def A1Z (its:List Itm):List Us:=A49 its its.length
def B2b (l:List Us) (at_:Int):Option Us:=l.find? (fun u=>decide (u.fr<=at_) && decide (at_<u.to))
theorem B2c (its:List Itm) (k:Nat):A49 its (k+1)=A49 its k++(A3a its k).us:=by
 rw[A49,A1O,X9, <-A49];simp
theorem B6W (its:List Itm) (b:Int) (sc:List Lc):∀(l r:List Ex) (s:NW),A5d its b sc (l++r) s=A5d its b sc r (A5d its b sc l s)
 | [],r,s=>by rw[P5,A5d]
 |e::l,r,s=>by rw[Y0,A5d,A5d,B6W its b sc l r]
theorem B41 (its:List Itm) (b:Int):∀(l r:List Stm) (sc:List Lc) (s:NW),A1c its b (l++r) sc s=A1c its b r (A1c its b l sc s).1 (A1c its b l sc s).2
 | [],r,sc,s=>by rw[P5,A1c]
 |e::l,r,sc,s=>by rw[Y0,A1c,A1c,B41 its b l r]
theorem Q8 {α:Type}{l:List α}{k:Nat}{x:α} (h:l[k]?=some x):l.take (k+1)=l.take k++ [x]:=by rw[A3f,h];rfl
theorem C0Y (its:List Itm) (b:Int) (sc:List Lc) {l:List Ex}{k:Nat}{e:Ex} (h:l[k]?=some e) (s:NW):A5d its b sc (l.take (k+1)) s=exN its b sc e (A5d its b sc (l.take k) s):=by
 rw[Q8 h,B6W,A5d,A5d]
theorem B9F (its:List Itm) (b:Int) {l:List Stm}{k:Nat}{x:Stm} (h:l[k]?=some x) (sc:List Lc) (s:NW):
  A1c its b (l.take (k+1)) sc s=A5Z its b x (A1c its b (l.take k) sc s).1 (A1c its b (l.take k) sc s).2:=by
 rw[Q8 h,B41,A1c,A1c]
theorem B7G:∀(l r:List Par) (sc:List Lc) (s:NW),A3V (l++r) sc s=A3V r (A3V l sc s).1 (A3V l sc s).2
 | [],r,sc,s=>by rw[P5,A3V]
 |e::l,r,sc,s=>by rw[Y0,A3V,A3V,B7G l r]
theorem C1C {l:List Par}{k:Nat}{x:Par} (h:l[k]?=some x) (sc:List Lc) (s:NW):A3V (l.take (k+1)) sc s=mkN x.name x.at_ (A3V (l.take k) sc s).1 (A3V (l.take k) sc s).2:=by
 rw[Q8 h,B7G,A3V,A3V]
theorem B7U (its:List Itm) (b:Int):∀(l r:List Rf) (dn:List Rf) (s:NW),A6a its b dn (l++r) s=A6a its b (dn++l) r (A6a its b dn l s)
 | [],r,dn,s=>by rw[P5,J3,A6a]
 |e::l,r,dn,s=>by rw[Y0,A6a,A6a,B7U its b l r];simp
theorem C1R (its:List Itm) (b:Int) {l:List Rf}{k:Nat}{x:Rf} (h:l[k]?=some x) (s:NW):A6a its b [] (l.take (k+1)) s=A63 its b (l.take k) x (A6a its b [] (l.take k) s):=by
 rw[Q8 h,B7U,P5,A6a,A6a]
theorem A8X (n:List UInt8) (x:Lc):∀(l:List Lc),A1A (l++ [x]) n=if x.name=n then some x else A1A l n
 | []=>by simp[A1A]
 |a::l=>by
  rw[Y0,A1A,A8X n x l,A1A];split<;>rename_i h
  ·split at h
   ·rename_i h2;rw[if_pos h2];exact h.symm
   ·rename_i h2;rw[if_neg h2,h]
  ·split at h
   ·cases h
   ·rename_i h2;rw[if_neg h2,h]
theorem A7F {n:List UInt8}{x:Lc}:∀ {l:List Lc},A1A l n=some x->x∈l/\x.name=n
 | [],h=>by cases h
 |a::l,h=>by
  rw[A1A]at h;split at h
  ·rename_i y hy
   obtain rfl:=A0Y h;have:=A7F hy;exact⟨A0Q _ this.1,this.2⟩
  ·split at h
   ·rename_i hn
    obtain rfl:=A0Y h;exact⟨Q7,hn⟩
   ·cases h
def NW.n (s:NW):Nat:=s.ds.length+s.us.length
theorem B0o (s:NW) (a e:Nat) (n:List UInt8):(s.tell a e n).n=s.n+1:=by simp[NW.tell,NW.n];omega
theorem C6v (s:NW) (b:Int) (a:Nat) (n:List UInt8) (d:Int):(s.use b a n d).n=s.n+1:=by simp[NW.use,NW.n];omega
theorem B83 (b:Int) (sc:List Lc) (a:Nat) (n:List UInt8) (s:NW):s.n<=(A72 b sc a n s).n/\(A72 b sc a n s).n<=s.n+1:=by
 rw[A72];split
 ·rw[C6v];omega
 ·split
  ·omega
  ·rw[B0o];omega
theorem B3h (its:List Itm) (b:Int) (k:Int) (a:Nat) (n:List UInt8) (s:NW):s.n<=(A5e its b k a n s).n/\(A5e its b k a n s).n<=s.n+1:=by
 rw[A5e];split
 ·rw[C6v];omega
 ·split
  ·omega
  ·rw[B0o];omega
theorem B9Y (its:List Itm) (b:Int) (a:Nat) (n:List UInt8) (m:Nat) (s:NW):s.n<=(A5h its b a n m s).n/\(A5h its b a n m s).n<=s.n+2:=by
 have:=B3h its b 2 a n s;rw[A5h];split
 ·split
  ·rw[B0o];omega
  ·omega
 ·omega
theorem C6r (n:List UInt8) (a:Nat) (sc:List Lc) (s:NW):s.n<=(mkN n a sc s).2.n/\(mkN n a sc s).2.n<=s.n+1/\sc.length<=(mkN n a sc s).1.length/\(mkN n a sc s).1.length<=sc.length+1:=by
 rw[mkN];split
 ·exact⟨G9 _,by dsimp only;omega,G9 _,by dsimp only;omega⟩
 ·dsimp only
  rw[E9,A1I];split
  ·rw[B0o];omega
  ·omega
mutual
theorem C2M (its:List Itm) (b:Int) (sc:List Lc):∀(e:Ex) (s:NW),s.n<=(exN its b sc e s).n/\(exN its b sc e s).n<=s.n+2 *e.cnt
 | .mk k nm n args fr to,s=>by
  rw[exN,Ex.cnt];have h1:=B83 b sc fr nm s;have h2:=B9Y its b fr nm args.length s;have h3:=B8F its b sc args (if k=2 then A72 b sc fr nm s else if k=4 then A5h its b fr nm args.length s else s);generalize hq:(if k=2 then A72 b sc fr nm s else if k=4 then A5h its b fr nm args.length s else s)=q at h3 |-;have h4:s.n<=q.n/\q.n<=s.n+2:=by
   rw[<-hq];split
   ·omega
   ·split<;>omega
  omega
theorem B8F (its:List Itm) (b:Int) (sc:List Lc):∀(l:List Ex) (s:NW),s.n<=(A5d its b sc l s).n/\(A5d its b sc l s).n<=s.n+2 *A03 l
 | [],s=>by rw[A5d,A03];omega
 |e::l,s=>by
  rw[A5d,A03];have h1:=C2M its b sc e s;have h2:=B8F its b sc l (exN its b sc e s);omega
 end
mutual
theorem C7z (its:List Itm) (b:Int):∀(x:Stm) (sc:List Lc) (s:NW),s.n<=(A5Z its b x sc s).2.n/\(A5Z its b x sc s).2.n<=s.n+2 *x.cnt/\sc.length<=(A5Z its b x sc s).1.length/\(A5Z its b x sc s).1.length<=sc.length+1
 | .mk k nm a lb o e thn els f t,sc,s=>by
  rw[A5Z,Stm.cnt];have h1:=C2M its b sc e s;generalize exN its b sc e s=q at h1 |-;have h2:=C6r nm a sc q;have h3:=B83 b sc a nm q;have h4:=B3h its b 1 a nm q;have h5:=A8k its b thn sc q;have h6:=A8k its b els sc (A1c its b thn sc q).2;split
  ·omega
  ·split
   ·dsimp only;omega
   ·split
    ·dsimp only;omega
    ·split
     ·dsimp only;omega
     ·dsimp only;omega
theorem A8k (its:List Itm) (b:Int):∀(l:List Stm) (sc:List Lc) (s:NW),s.n<=(A1c its b l sc s).2.n/\(A1c its b l sc s).2.n<=s.n+2 *P8 l/\sc.length<=(A1c its b l sc s).1.length/\(A1c its b l sc s).1.length<=sc.length+l.length
 | [],sc,s=>by rw[A1c,P8];exact⟨by dsimp only;omega,by dsimp only;omega,by dsimp only;omega,by dsimp only;simp⟩
 |x::l,sc,s=>by
  rw[A1c,P8,F8];have h1:=C7z its b x sc s;have h2:=A8k its b l (A5Z its b x sc s).1 (A5Z its b x sc s).2;omega
 end
theorem C5i (n:List UInt8) (a:Nat) (sc:List Lc) (s:NW):sc<+:(mkN n a sc s).1:=by
 rw[mkN];split
 ·exact A2u _
 ·exact List.prefix_append _ _
theorem C4j (its:List Itm) (b:Int) (x:Stm) (sc:List Lc) (s:NW):sc<+:(A5Z its b x sc s).1:=by
 cases x with
 |mk k nm a lb o e thn els f t=>
 rw[A5Z];split
 ·exact C5i _ _ _ _
 ·split
  ·exact A2u _
  ·split
   ·exact A2u _
   ·split
    ·exact A2u _
    ·exact A2u _
theorem B42 (its:List Itm) (b:Int):∀(l:List Stm) (sc:List Lc) (s:NW),sc<+:(A1c its b l sc s).1
 | [],sc,s=>by rw[A1c];exact A2u _
 |x::l,sc,s=>by rw[A1c];exact(C4j its b x sc s).trans (B42 its b l _ _)
theorem B9E (its:List Itm) (b:Int) (l:List Stm) (sc:List Lc) (s:NW):(A1c its b l sc s).1.take sc.length=sc:=
 (List.prefix_iff_eq_take.1 (B42 its b l sc s)).symm
theorem Ex.cnt_eq (e:Ex):e.cnt=A03 e.args+1:=by cases e;rw[Ex.cnt];rfl
theorem A6p {l:List Ex}{k:Nat}{y:Ex} (h:l[k]?=some y):A03 (l.take k)+y.cnt<=A03 l:=by
 have e:l=l.take (k+1)++l.drop (k+1):=(A3e _ _).symm;have h2:=congrArg A03 e;rw[A4y,Q8 h,A4y,A6o]at h2;omega
theorem Stm.cnt_eq (x:Stm):x.cnt=x.e.cnt+P8 x.thn+P8 x.els+1:=by cases x;rw[Stm.cnt];rfl
theorem A4t {l:List Stm}{k:Nat}{y:Stm} (h:l[k]?=some y):P8 (l.take k)+y.cnt<=P8 l:=by
 have e:l=l.take (k+1)++l.drop (k+1):=(A3e _ _).symm;have h2:=congrArg P8 e;rw[A2L,Q8 h,A2L,A4O]at h2;omega
theorem A8h {p:PE}{q:PS}:∀ {l:List Stm} (k:Nat),X7 p q l->X7 p q (l.take k)
 | [],k,h=>by rw[List.take_nil];exact h
 |x::l,0,h=>by rw[Z9];exact X4
 |x::l,k+1,h=>by
  rw[X7]at h;rw[A1l,X7];exact⟨h.1,A8h k h.2⟩
def A80 (sc:List Lc) (n:List UInt8):Nat:=match A1A sc n with
 |some l=>l.at_
 |none=>0
def A85 (its:List Itm) (n:Nat) (x:Rf):Nat:=match A0Z its 1 x.name with
 |some j=>n &&& (A0o its j).label
 |none=>n
def A6Z (its:List Itm) (l:List Rf):Nat:=l.foldl (A85 its) 255
def A4W (its:List Itm):List Nat:=its.map (fun it=>A6Z its it.sends)
structure FW where
 ds:List Dg
 hv:Option Nat
def FW.tell (s:FW) (f t:Nat) (n:List UInt8):FW:= { s with ds:=s.ds++ [⟨f,t,9,n⟩]}
def FW.hit (s:FW) (at_:Int) (f t n:Nat):FW:=if s.hv=none/\(f:Int)<=at_/\at_<t then { s with hv:=some n} else s
def FW.ask (s:FW) (a b f t:Nat) (n:List UInt8):FW:=if B1V a b=true then s else s.tell f t n
def A3b (its:List Itm) (n:List UInt8):Nat:=match A0Z its 2 n with
 |some j=>(A0o its j).label
 |none=>0
def A4T (its:List Itm) (un:Nat) (n:List UInt8) (f t:Nat) (s:FW):FW:=match A0Z its 2 n with
 |some j=>s.ask un (A6Z its (A0o its j).sends) f t n
 |none=>s
def A96 (its:List Itm) (n:List UInt8) (i a f t:Nat) (s:FW):FW:=match A0Z its 2 n with
 |some j=>match (A0o its j).params[i]? with
  |some p=>s.ask a p.label f t p.name
  |none=>s
 |none=>s
mutual
def exF (its:List Itm) (at_:Int) (sc:List Lc) (un:Nat):Ex->FW->Nat×FW
 | .mk k nm _ args f t,s=>
  if k=2 then (A80 sc nm,s.hit at_ f t (A80 sc nm|||un)) else
  if k=3 then ((A4C its at_ sc un args 0 s).1,(A4C its at_ sc un args 0 s).2.hit at_ f t ((A4C its at_ sc un args 0 s).1|||un)) else
  if k=4 then (A3b its nm,(A4T its un nm f t (A3k its at_ sc un nm args 0 s)).hit at_ f t (A3b its nm|||un)) else
  (0,s.hit at_ f t (0|||un))
def A4C (its:List Itm) (at_:Int) (sc:List Lc) (un:Nat):List Ex->Nat->FW->Nat×FW
 | [],n,s=>(n,s)
 |e::es,n,s=>A4C its at_ sc un es (n|||(exF its at_ sc un e s).1) (exF its at_ sc un e s).2
def A3k (its:List Itm) (at_:Int) (sc:List Lc) (un:Nat) (nm:List UInt8):List Ex->Nat->FW->FW
 | [],_,s=>s
 |e::es,i,s=>A3k its at_ sc un nm es (i+1) (A96 its nm i ((exF its at_ sc un e s).1|||un) e.fr e.to (exF its at_ sc un e s).2)
 end
mutual
def A2C (its:List Itm) (sc:List Lc):Ex->Nat
 | .mk k nm _ args _ _=>if k=2 then A80 sc nm else if k=3 then A1V its sc args 0 else if k=4 then A3b its nm else 0
def A1V (its:List Itm) (sc:List Lc):List Ex->Nat->Nat
 | [],n=>n
 |e::es,n=>A1V its sc es (n|||A2C its sc e)
 end
def unF (its:List Itm) (sc:List Lc) (k un:Nat) (e:Ex):Nat:=if k=4 then A2C its sc e|||un else un
def B4b (its:List Itm) (a:Nat) (n:List UInt8) (f t:Nat) (s:FW):FW:=match A0Z its 1 n with
 |some j=>s.ask a (A0o its j).label f t n
 |none=>s
mutual
def A8g (its:List Itm) (own:Nat) (at_:Int):Stm->List Lc->Nat->FW->List Lc×FW
 | .mk k nm _ lb o e thn els f t,sc,un,s=>
  let un1:=unF its sc k un e
  let r:=exF its at_ sc un1 e s
  let a:=r.1|||un1
  if k=1 then (sc++ [⟨nm,if o=true then a else lb⟩],r.2.ask a (if o=true then a else lb) f t nm) else
  if k=2 then (sc,r.2.ask a (A80 sc nm) f t nm) else
  if k=5 then (sc,B4b its a nm f t r.2) else
  if k=6 then (sc,r.2.ask a own f t nm) else
  if k=3\/k=4 then (sc,(A1C its own at_ els sc a (A1C its own at_ thn sc a r.2).2).2) else (sc,r.2)
def A1C (its:List Itm) (own:Nat) (at_:Int):List Stm->List Lc->Nat->FW->List Lc×FW
 | [],sc,_,s=>(sc,s)
 |x::xs,sc,un,s=>A1C its own at_ xs (A8g its own at_ x sc un s).1 un (A8g its own at_ x sc un s).2
 end
def FW0:FW:=⟨[],none⟩
def A6J (l:List Par):List Lc:=l.map (fun p=>⟨p.name,p.label⟩)
def A3c (its:List Itm) (i:Nat) (at_:Int):FW:=
 if (A0o its i).kind=2 then (A1C its (A0o its i).label at_ (A0o its i).body (A6J (A0o its i).params) 0 FW0).2 else FW0
theorem B7y (its:List Itm) (at_:Int) (sc:List Lc) (un:Nat):∀(l r:List Ex) (n:Nat) (s:FW),A4C its at_ sc un (l++r) n s=A4C its at_ sc un r (A4C its at_ sc un l n s).1 (A4C its at_ sc un l n s).2
 | [],r,n,s=>by rw[P5,A4C]
 |e::l,r,n,s=>by rw[Y0,A4C,A4C,B7y its at_ sc un l r]
theorem C1B (its:List Itm) (at_:Int) (sc:List Lc) (un:Nat) {l:List Ex}{k:Nat}{e:Ex} (h:l[k]?=some e) (n:Nat) (s:FW):
  A4C its at_ sc un (l.take (k+1)) n s=((A4C its at_ sc un (l.take k) n s).1|||(exF its at_ sc un e (A4C its at_ sc un (l.take k) n s).2).1,(exF its at_ sc un e (A4C its at_ sc un (l.take k) n s).2).2):=by
 rw[Q8 h,B7y,A4C,A4C]
theorem B4a (its:List Itm) (at_:Int) (sc:List Lc) (un:Nat) (nm:List UInt8):∀(l r:List Ex) (i:Nat) (s:FW),A3k its at_ sc un nm (l++r) i s=A3k its at_ sc un nm r (i+l.length) (A3k its at_ sc un nm l i s)
 | [],r,i,s=>by rw[P5,A3k];rfl
 |e::l,r,i,s=>by rw[Y0,A3k,A3k,B4a its at_ sc un nm l r,F8,show i+1+l.length=i+(l.length+1) by omega]
theorem B8s (its:List Itm) (at_:Int) (sc:List Lc) (un:Nat) (nm:List UInt8) {l:List Ex}{k:Nat}{e:Ex} (h:l[k]?=some e) (s:FW):
  A3k its at_ sc un nm (l.take (k+1)) 0 s=A96 its nm k ((exF its at_ sc un e (A3k its at_ sc un nm (l.take k) 0 s)).1|||un) e.fr e.to (exF its at_ sc un e (A3k its at_ sc un nm (l.take k) 0 s)).2:=by
 have hk:=(A0t.1 h).1;rw[Q8 h,B4a,A3k,A3k,Q4,A1g (by omega),V6]
theorem B12 (its:List Itm) (sc:List Lc):∀(l r:List Ex) (n:Nat),A1V its sc (l++r) n=A1V its sc r (A1V its sc l n)
 | [],r,n=>by rw[P5,A1V]
 |e::l,r,n=>by rw[Y0,A1V,A1V,B12 its sc l r]
theorem B0U (its:List Itm) (sc:List Lc) {l:List Ex}{k:Nat}{e:Ex} (h:l[k]?=some e) (n:Nat):A1V its sc (l.take (k+1)) n=A1V its sc (l.take k) n|||A2C its sc e:=by
 rw[Q8 h,B12,A1V,A1V]
theorem B4X (its:List Itm) (own:Nat) (at_:Int):∀(l r:List Stm) (sc:List Lc) (un:Nat) (s:FW),A1C its own at_ (l++r) sc un s=A1C its own at_ r (A1C its own at_ l sc un s).1 un (A1C its own at_ l sc un s).2
 | [],r,sc,un,s=>by rw[P5,A1C]
 |e::l,r,sc,un,s=>by rw[Y0,A1C,A1C,B4X its own at_ l r]
theorem B9C (its:List Itm) (own:Nat) (at_:Int) {l:List Stm}{k:Nat}{x:Stm} (h:l[k]?=some x) (sc:List Lc) (un:Nat) (s:FW):
  A1C its own at_ (l.take (k+1)) sc un s=A8g its own at_ x (A1C its own at_ (l.take k) sc un s).1 un (A1C its own at_ (l.take k) sc un s).2:=by
 rw[Q8 h,B4X,A1C,A1C]
theorem B3b (s:FW) (at_:Int) (f t n:Nat):(s.hit at_ f t n).ds=s.ds:=by rw[FW.hit];split<;>rfl
theorem B4c (s:FW) (a b f t:Nat) (n:List UInt8):s.ds.length<=(s.ask a b f t n).ds.length/\(s.ask a b f t n).ds.length<=s.ds.length+1:=by
 rw[FW.ask];split
 ·omega
 ·simp[FW.tell]
theorem B8t (its:List Itm) (un:Nat) (n:List UInt8) (f t:Nat) (s:FW):s.ds.length<=(A4T its un n f t s).ds.length/\(A4T its un n f t s).ds.length<=s.ds.length+1:=by
 rw[A4T];split
 ·exact B4c _ _ _ _ _ _
 ·omega
theorem C4P (its:List Itm) (a:Nat) (n:List UInt8) (f t:Nat) (s:FW):s.ds.length<=(B4b its a n f t s).ds.length/\(B4b its a n f t s).ds.length<=s.ds.length+1:=by
 rw[B4b];split
 ·exact B4c _ _ _ _ _ _
 ·omega
theorem C2k (its:List Itm) (n:List UInt8) (i a f t:Nat) (s:FW):s.ds.length<=(A96 its n i a f t s).ds.length/\(A96 its n i a f t s).ds.length<=s.ds.length+1:=by
 rw[A96];split
 ·split
  ·exact B4c _ _ _ _ _ _
  ·omega
 ·omega
mutual
theorem B4l (its:List Itm) (at_:Int) (sc:List Lc) (un:Nat):∀(e:Ex) (s:FW),s.ds.length<=(exF its at_ sc un e s).2.ds.length/\(exF its at_ sc un e s).2.ds.length+1<=s.ds.length+2 *e.cnt
 | .mk k nm n args f t,s=>by
  rw[exF,Ex.cnt];have h1:=B9k its at_ sc un args 0 s;have h2:=B2n its at_ sc un nm args 0 s;have h3:=B8t its un nm f t (A3k its at_ sc un nm args 0 s);split
  ·dsimp only;rw[B3b];omega
  ·split
   ·dsimp only;rw[B3b];omega
   ·split
    ·dsimp only;rw[B3b];omega
    ·dsimp only;rw[B3b];omega
theorem B9k (its:List Itm) (at_:Int) (sc:List Lc) (un:Nat):∀(l:List Ex) (n:Nat) (s:FW),s.ds.length<=(A4C its at_ sc un l n s).2.ds.length/\(A4C its at_ sc un l n s).2.ds.length<=s.ds.length+2 *A03 l
 | [],n,s=>by rw[A4C,A03];exact⟨by dsimp only;omega,by dsimp only;omega⟩
 |e::l,n,s=>by
  rw[A4C,A03];have h1:=B4l its at_ sc un e s;have h2:=B9k its at_ sc un l (n|||(exF its at_ sc un e s).1) (exF its at_ sc un e s).2;omega
theorem B2n (its:List Itm) (at_:Int) (sc:List Lc) (un:Nat) (nm:List UInt8):∀(l:List Ex) (i:Nat) (s:FW),s.ds.length<=(A3k its at_ sc un nm l i s).ds.length/\(A3k its at_ sc un nm l i s).ds.length<=s.ds.length+2 *A03 l
 | [],i,s=>by rw[A3k,A03];omega
 |e::l,i,s=>by
  rw[A3k,A03];have h1:=B4l its at_ sc un e s;have h3:=C2k its nm i ((exF its at_ sc un e s).1|||un) e.fr e.to (exF its at_ sc un e s).2;have h2:=B2n its at_ sc un nm l (i+1) (A96 its nm i ((exF its at_ sc un e s).1|||un) e.fr e.to (exF its at_ sc un e s).2);omega
 end
mutual
theorem C7y (its:List Itm) (own:Nat) (at_:Int):∀(x:Stm) (sc:List Lc) (un:Nat) (s:FW),s.ds.length<=(A8g its own at_ x sc un s).2.ds.length/\(A8g its own at_ x sc un s).2.ds.length<=s.ds.length+2 *x.cnt/\
   sc.length<=(A8g its own at_ x sc un s).1.length/\(A8g its own at_ x sc un s).1.length<=sc.length+1
 | .mk k nm a lb o e thn els f t,sc,un,s=>by
  rw[A8g,Stm.cnt];try dsimp only
  generalize unF its sc k un e=un1;have h1:=B4l its at_ sc un1 e s;generalize exF its at_ sc un1 e s=r at h1 |-;have h2:=B4c r.2 (r.1|||un1) (if o=true then r.1|||un1 else lb) f t nm;have h3:=B4c r.2 (r.1|||un1) (A80 sc nm) f t nm;have h4:=B4c r.2 (r.1|||un1) own f t nm;have h5:=C4P its (r.1|||un1) nm f t r.2;have h6:=A8i its own at_ thn sc (r.1|||un1) r.2;have h7:=A8i its own at_ els sc (r.1|||un1) (A1C its own at_ thn sc (r.1|||un1) r.2).2;split
  ·dsimp only;rw[E9,A1I];omega
  ·split
   ·dsimp only;omega
   ·split
    ·dsimp only;omega
    ·split
     ·dsimp only;omega
     ·split
      ·dsimp only;omega
      ·dsimp only;omega
theorem A8i (its:List Itm) (own:Nat) (at_:Int):∀(l:List Stm) (sc:List Lc) (un:Nat) (s:FW),s.ds.length<=(A1C its own at_ l sc un s).2.ds.length/\(A1C its own at_ l sc un s).2.ds.length<=s.ds.length+2 *P8 l/\
   sc.length<=(A1C its own at_ l sc un s).1.length/\(A1C its own at_ l sc un s).1.length<=sc.length+l.length
 | [],sc,un,s=>by rw[A1C,P8];exact⟨by dsimp only;omega,by dsimp only;omega,by dsimp only;omega,by dsimp only;simp⟩
 |x::l,sc,un,s=>by
  rw[A1C,P8,F8];have h1:=C7y its own at_ x sc un s;have h2:=A8i its own at_ l (A8g its own at_ x sc un s).1 un (A8g its own at_ x sc un s).2;omega
 end
theorem C4i (its:List Itm) (own:Nat) (at_:Int) (x:Stm) (sc:List Lc) (un:Nat) (s:FW):sc<+:(A8g its own at_ x sc un s).1:=by
 cases x with
 |mk k nm a lb o e thn els f t=>
 rw[A8g];try dsimp only
 split
 ·exact List.prefix_append _ _
 ·split
  ·exact A2u _
  ·split
   ·exact A2u _
   ·split
    ·exact A2u _
    ·split<;>exact A2u _
theorem B4Z (its:List Itm) (own:Nat) (at_:Int):∀(l:List Stm) (sc:List Lc) (un:Nat) (s:FW),sc<+:(A1C its own at_ l sc un s).1
 | [],sc,un,s=>by rw[A1C];exact A2u _
 |x::l,sc,un,s=>by rw[A1C];exact(C4i its own at_ x sc un s).trans (B4Z its own at_ l _ _ _)
theorem B9B (its:List Itm) (own:Nat) (at_:Int) (l:List Stm) (sc:List Lc) (un:Nat) (s:FW):(A1C its own at_ l sc un s).1.take sc.length=sc:=
 (List.prefix_iff_eq_take.1 (B4Z its own at_ l sc un s)).symm
def A4M (sc:List Lc):Prop:= ∀l∈sc,l.at_<256
def A26 (its:List Itm):Prop:= ∀it∈its,it.label<256/\∀p∈it.params,p.label<256
theorem B5j {sc:List Lc} (h:A4M sc) (n:List UInt8):A80 sc n<256:=by
 rw[A80];split
 ·rename_i l hl
  exact h l (A7F hl).1
 ·omega
theorem A2D {its:List Itm}{k:Int}{n:List UInt8}{j:Nat} (h:A0Z its k n=some j):j<its.length/\((A0o its j).kind:Int)=k/\(A0o its j).name=n/\n≠ []/\A0o its j∈its:=by
 obtain⟨h1,h2,_⟩:=A2q.1 h;have e:A0o its j=its[j]:=by rw[A0o,O4,G6 h1];rfl
 rw[e];simp only[C3c,U9,decide_eq_true_eq]at h2;exact⟨h1,h2.1,h2.2.1,h2.2.2,O7 h1⟩
theorem B2T {its:List Itm} (h:A26 its) (n:List UInt8):A3b its n<256:=by
 rw[A3b];split
 ·rename_i j hj
  exact(h _ (A2D hj).2.2.2.2).1
 ·omega
mutual
theorem B1k {its:List Itm} (h:A26 its) (at_:Int) {sc:List Lc} (hs:A4M sc) (un:Nat):∀(e:Ex) (s:FW),(exF its at_ sc un e s).1<256
 | .mk k nm n args f t,s=>by
  rw[exF];split
  ·exact B5j hs _
  ·split
   ·exact B5G h at_ hs un args 0 s (by omega)
   ·split
    ·exact B2T h _
    ·dsimp only;omega
theorem B5G {its:List Itm} (h:A26 its) (at_:Int) {sc:List Lc} (hs:A4M sc) (un:Nat):∀(l:List Ex) (n:Nat) (s:FW),n<256->(A4C its at_ sc un l n s).1<256
 | [],n,s,hn=>by rw[A4C];exact hn
 |e::l,n,s,hn=>by rw[A4C];exact B5G h at_ hs un l _ _ (A9U hn (B1k h at_ hs un e s))
 end
mutual
theorem A4L {its:List Itm} (h:A26 its) {sc:List Lc} (hs:A4M sc):∀(e:Ex),A2C its sc e<256
 | .mk k nm n args f t=>by
  rw[A2C];split
  ·exact B5j hs _
  ·split
   ·exact A77 h hs args 0 (by omega)
   ·split
    ·exact B2T h _
    ·omega
theorem A77 {its:List Itm} (h:A26 its) {sc:List Lc} (hs:A4M sc):∀(l:List Ex) (n:Nat),n<256->A1V its sc l n<256
 | [],n,hn=>by rw[A1V];exact hn
 |e::l,n,hn=>by rw[A1V];exact A77 h hs l _ (A9U hn (A4L h hs e))
 end
theorem B7n (its:List Itm) (l:List Rf):A6Z its l<256:=by
 have key:∀(l:List Rf) (n:Nat),n<256->l.foldl (A85 its) n<256:=by
  intro l;induction l with
  |nil=>intro n h;exact h
  |cons x l ih=>
   intro n h;rw[A1f];refine ih _ ?_
   rw[A85];split
   ·exact C2i h
   ·exact h
 exact key l 255 (by omega)
theorem C4q {its:List Itm} (h:A26 its) {sc:List Lc} (hs:A4M sc) (k:Nat) {un:Nat} (hu:un<256) (e:Ex):unF its sc k un e<256:=by
 rw[unF];split
 ·exact A9U (A4L h hs e) hu
 ·exact hu
theorem B9y {sc:List Lc} (h:A4M sc) {n:List UInt8}{a:Nat} (ha:a<256):A4M (sc++ [⟨n,a⟩]):=fun l hl=>by
 rcases A0d.1 hl with hl|hl
 ·exact h l hl
 ·obtain rfl:=A0v.1 hl
  exact ha
theorem C4h {its:List Itm} (h:A26 its) (own:Nat) (at_:Int) (x:Stm) {sc:List Lc} (hs:A4M sc) {un:Nat} (hu:un<256) (hx:x.label<256) (s:FW):A4M (A8g its own at_ x sc un s).1:=by
 cases x with
 |mk k nm a lb o e thn els f t=>
 rw[A8g];try dsimp only
 have h1:=C4q h hs k hu e;generalize unF its sc k un e=un1 at h1 |-;have h2:=B1k h at_ hs un1 e s;split
 ·refine B9y hs ?_
  split
  ·exact A9U h2 h1
  ·exact hx
 ·split
  ·exact hs
  ·split
   ·exact hs
   ·split
    ·exact hs
    ·split<;>exact hs
theorem C1D {its:List Itm} (h:A26 its) {it:Itm} (hi:it∈its):A4M (A6J it.params):=fun l hl=>by
 obtain⟨p,hp,rfl⟩:=A0x.1 hl;exact(h it hi).2 p hp
def w64 (n:Int):Int:=(n+9223372036854775808) % 18446744073709551616-9223372036854775808
structure Cl where
 name:List UInt8
 n:Int
structure Ev where
 ch:List UInt8
 n:Int
 deriving DecidableEq
structure MR where
 ev:List Ev
 steps:Nat
 err:Nat
def MR.go (m:MR):Bool:=decide (m.err=0) && decide (m.steps<3000)
def MR.step (m:MR):MR:=if m.err≠0 then m else if m.steps<3000 then { m with steps:=m.steps+1} else { m with err:=11}
def A7a:List Cl->List UInt8->Option Nat
 | [],_=>none
 |c::sc,n=>match A7a sc n with
  |some i=>some (i+1)
  |none=>if c.name=n then some 0 else none
def C6U (sc:List Cl) (n:List UInt8):Int:=match A7a sc n with
 |some i=>(sc.getD i ⟨[],0⟩).n
 |none=>0
def C39 (sc:List Cl) (n:List UInt8) (v:Int):List Cl:=match A7a sc n with
 |some i=>sc.set i ⟨(sc.getD i ⟨[],0⟩).name,v⟩
 |none=>sc
def opR (nm:List UInt8) (a b:Int):Int:=
 if nm= [43] then w64 (a+b) else if nm= [45] then w64 (a-b) else if nm= [42] then w64 (a *b) else
 if nm= [60] then (if a<b then 1 else 0) else if a=b then 1 else 0
abbrev A6h:=List UInt8->List Int->MR->Int×MR
mutual
def exR (C:A6h) (sc:List Cl):Ex->MR->Int×MR
 | .mk k nm n args _ _,m=>
  if m.go=false then (0,m.step) else
  if k=1 then ((n:Int),m.step) else
  if k=2 then (C6U sc nm,m.step) else
  if k=3 then (opR nm ((A2X C sc args m.step).1.getD 0 0) ((A2X C sc args m.step).1.getD 1 0),(A2X C sc args m.step).2) else
  C nm (A2X C sc args m.step).1 (A2X C sc args m.step).2
def A2X (C:A6h) (sc:List Cl):List Ex->MR->List Int×MR
 | [],m=>([],m)
 |e::es,m=>((exR C sc e m).1::(A2X C sc es (exR C sc e m).2).1,(A2X C sc es (exR C sc e m).2).2)
 end
structure SR where
 sc:List Cl
 back:Int
 m:MR
def A8w (f:List Cl->MR->Int×MR) (b:SR->SR):Nat->SR->SR
 |0,s=>s
 |k+1,s=>
  if s.m.go=false then { s with m:=s.m.step} else
  if (f s.sc s.m.step).1≠0/\(f s.sc s.m.step).2.err=0 then A8w f b k (b { s with m:=(f s.sc s.m.step).2}) else { s with m:=(f s.sc s.m.step).2}
def A8z (n:Nat) (r:SR×Bool):SR:=if r.2=true then { r.1 with sc:=r.1.sc.take n} else r.1
mutual
def B71 (C:A6h):Stm->SR->SR
 | .mk k nm _ _ _ e thn els _ _,s=>
  if k=4 then A8w (fun sc m=>exR C sc e m) (fun s=>A8z s.sc.length (goR C thn s)) 3001 s else
  if s.m.go=false then { s with m:=s.m.step} else
  if (exR C s.sc e s.m.step).2.err≠0 then { s with m:=(exR C s.sc e s.m.step).2} else
  if k=1 then { s with sc:=s.sc++ [⟨nm,(exR C s.sc e s.m.step).1⟩],m:=(exR C s.sc e s.m.step).2} else
  if k=2 then { s with sc:=C39 s.sc nm (exR C s.sc e s.m.step).1,m:=(exR C s.sc e s.m.step).2} else
  if k=5 then { s with m:= { (exR C s.sc e s.m.step).2 with ev:=(exR C s.sc e s.m.step).2.ev++ [⟨nm,(exR C s.sc e s.m.step).1⟩]}} else
  if k=6 then { s with back:=(exR C s.sc e s.m.step).1,m:=(exR C s.sc e s.m.step).2} else
  if k=3 then
   if (exR C s.sc e s.m.step).1≠0 then A8z s.sc.length (goR C thn { s with m:=(exR C s.sc e s.m.step).2})
   else A8z s.sc.length (goR C els { s with m:=(exR C s.sc e s.m.step).2})
  else { s with m:=(exR C s.sc e s.m.step).2}
def goR (C:A6h):List Stm->SR->SR×Bool
 | [],s=>(s,true)
 |x::xs,s=>if s.m.err≠0 then (s,false) else goR C xs (B71 C x s)
 end
def A8C (C:A6h) (l:List Stm) (s:SR):SR:=A8z s.sc.length (goR C l s)
def A7u (l:List Par) (args:List Int):List Cl:=List.zipWith (fun p n=>⟨p.name,n⟩) l args
def A50 (its:List Itm):Nat->A6h
 |0,_,_,m=>(0,if m.err≠0 then m else { m with err:=12})
 |d+1,nm,args,m=>
  if m.err≠0 then (0,m) else
  match A0Z its 2 nm with
  |none=>(0,m)
  |some j=>((A8C (A50 its d) (A0o its j).body ⟨A7u (A0o its j).params args,0,m⟩).back,(A8C (A50 its d) (A0o its j).body ⟨A7u (A0o its j).params args,0,m⟩).m)
structure Rn where
 ev:List Ev
 n:Int
 err:Nat
 steps:Nat
def MR0:MR:=⟨[],0,0⟩
end Go.Sp
