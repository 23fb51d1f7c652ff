/- Own work. -/
import Derived.Test.YtfgmppgjopchoaaGreatDoorSy6
set_option maxHeartbeats 64000000
namespace Go.Sp
mutual
def Ex.cnt:Ex->Nat
 | .mk _ _ _ args _ _=>A02 args+1
def A02:List Ex->Nat
 | []=>0
 |e::es=>e.cnt+A02 es
 end
mutual
def Stm.cnt:Stm->Nat
 | .mk _ _ _ _ _ e thn els _ _=>e.cnt+Q3 thn+Q3 els+1
def Q3:List Stm->Nat
 | []=>0
 |x::xs=>x.cnt+Q3 xs
 end
theorem A4w:∀(l r:List Ex),A02 (l++r)=A02 l+A02 r
 | [],r=>by rw[A02];simp
 |e::l,r=>by rw[X8,A02,A02,A4w l r];omega
theorem A2L:∀(l r:List Stm),Q3 (l++r)=Q3 l+Q3 r
 | [],r=>by rw[Q3];simp
 |e::l,r=>by rw[X8,Q3,Q3,A2L l r];omega
theorem A6o (e:Ex):A02 [e]=e.cnt:=by rw[A02,A02];omega
theorem A4L (e:Stm):Q3 [e]=e.cnt:=by rw[Q3,Q3];omega
theorem A4l (k n f t:Nat) (nm:List UInt8):(Ex.mk k nm n [] f t).cnt=1:=by rw[Ex.cnt,A02]
theorem A3h (T:Src) (s:St) (w:List UInt8):s.i<=(s.need T w).2.i:=(A0F T s w).le
theorem B6U (T:Src):∀f,(∀d s,(A21 T f d s).1.cnt<=2 *((A21 T f d s).2.i-s.i)+1)/\(∀d l s,A02 (A4c T f d l s).1<=A02 l+2 *((A4c T f d l s).2.i-s.i)+1)/\
  (∀d m s,(A0P T f d m s).1.cnt<=2 *((A0P T f d m s).2.i-s.i)+1)/\(∀d m e s,(opL T f d m e s).1.cnt<=e.cnt+2 *((opL T f d m e s).2.i-s.i))
 |0=>⟨fun _ _=>by rw[A21];show (Ex.mk 0 [] 0 [] 0 0).cnt<=_;rw[A4l];omega,fun _ _ _=>by rw[A4c];dsimp only;omega,
   fun _ _ _=>by rw[A0P];show (Ex.mk 0 [] 0 [] 0 0).cnt<=_;rw[A4l];omega,fun _ _ _ _=>by rw[opL];dsimp only;omega⟩
 |f+1=>by
  obtain⟨hA,hL,hE,hO⟩:=B6U T f;obtain⟨gA,gL,gE,gO⟩:=A05 T f;refine⟨fun d s=>?_,fun d l s=>?_,fun d m s=>?_,fun d m e s=>?_⟩
  ·rw[A21]
   dsimp only
   split
   ·rw[A9X];dsimp only;rw[A4l];omega
   ·split
    ·rw[A9X];dsimp only;rw[A4l];omega
    ·split
     ·split
      ·dsimp only;rw[A4l];omega
      ·dsimp only;rw[A4l];omega
     ·split
      ·have h1:=hE (d+1) 1 s.next
       have h2:=(gE (d+1) 1 s.next).le;have h3:=A3h T (A0P T f (d+1) 1 s.next).2 [41];rw[Q5]at h1 h2;dsimp only
       omega
      ·split
       ·rw[A9X];dsimp only;rw[A4l];omega
       ·split
        ·dsimp only;rw[A4l];omega
        ·have h1:=hL (d+1) [] s.next.next
         have h2:=(gL (d+1) [] s.next.next).le;have h3:=A3h T (A4c T f (d+1) [] s.next.next).2 [41];rw[Q5,Q5]at h1 h2;rw[A02]at h1;dsimp only
         rw[Ex.cnt];omega
  ·rw[A4c]
   split
   ·dsimp only;omega
   ·split
    ·dsimp only;omega
    ·have h1:=hE d 1 s
     have h2:=(gE d 1 s).le;try dsimp only
     split
     ·have h3:=hL d (l++ [(A0P T f d 1 s).1]) (A0P T f d 1 s).2.next
      have h4:=(gL d (l++ [(A0P T f d 1 s).1]) (A0P T f d 1 s).2.next).le;rw[Q5]at h3 h4;rw[A4w,A6o]at h3;omega
     ·dsimp only
      rw[A4w,A6o];omega
  ·rw[A0P]
   try dsimp only
   have h1:=hA d s;have h2:=(gA d s).le;have h3:=hO d m (A21 T f d s).1 (A21 T f d s).2;have h4:=(gO d m (A21 T f d s).1 (A21 T f d s).2).le;omega
  ·rw[opL]
   try dsimp only
   split
   ·dsimp only;omega
   ·have h1:=hE d (A1i (T.tok s.i).text+1) s.next
    have h2:=(gE d (A1i (T.tok s.i).text+1) s.next).le;rw[Q5]at h1 h2;generalize A0P T f d (A1i (T.tok s.i).text+1) s.next=r at h1 h2 |-;have h3:=hO d m (.mk 3 (T.tok s.i).text 0 [e,r.1] e.fr (max r.1.to e.to)) r.2;have h4:=(gO d m (.mk 3 (T.tok s.i).text 0 [e,r.1] e.fr (max r.1.to e.to)) r.2).le;rw[Ex.cnt,A02,A6o]at h3;omega
theorem B4o (T:Src):∀f,(∀d s,Q3 (block T f d s).1<=8 *((block T f d s).2.i-s.i))/\(∀d l s,Q3 (A4n T f d l s).1<=Q3 l+8 *((A4n T f d l s).2.i-s.i))/\
  (∀d s,(stm T f d s).1.cnt<=8 *max ((stm T f d s).2.i-s.i) 1)
 |0=>⟨fun _ _=>by rw[block];dsimp only;rw[Q3];omega,fun _ _ _=>by rw[A4n];dsimp only;omega,
   fun _ s=>by rw[stm];show (Stm.mk 0 [] 0 0 false (.mk 0 [] 0 [] 0 0) [] [] 0 0).cnt<=_;rw[Stm.cnt,A4l,Q3];omega⟩
 |f+1=>by
  obtain⟨hB,hL,hS⟩:=B4o T f;obtain⟨gB,gL,gS⟩:=A1Z T f;have hE:=(B6U T f).2.2.1;have gE:=(A05 T f).2.2.1;refine⟨fun d s=>?_,fun d l s=>?_,fun d s=>?_⟩
  ·rw[block]
   split
   ·dsimp only;rw[Q3];omega
   ·split
    ·dsimp only;rw[Q3];omega
    ·have h1:=hL (d+1) [] s.next
     have h2:=(gL (d+1) [] s.next).le;have h3:=A3h T (A4n T f (d+1) [] s.next).2 [125];rw[Q5]at h1 h2;rw[Q3]at h1;try dsimp only
     omega
  ·rw[A4n]
   split
   ·dsimp only;omega
   ·split
    ·dsimp only;omega
    ·have h1:=hS d s
     have h2:=(gS d s).le;try dsimp only
     split
     ·rename_i he
      have h3:=hL d (l++ [(stm T f d s).1]) (stm T f d s).2.next;have h4:=(gL d (l++ [(stm T f d s).1]) (stm T f d s).2.next).le;rw[Q5]at h3 h4;rw[A2L,A4L]at h3;omega
     ·rename_i he
      have h3:=hL d (l++ [(stm T f d s).1]) (stm T f d s).2;have h4:=(gL d (l++ [(stm T f d s).1]) (stm T f d s).2).le;rw[A2L,A4L]at h3;omega
  ·rw[stm]
   dsimp only
   split
   ·have h1:=(A1d T s.next).le
    rw[Q5]at h1;generalize s.next.named T=r at h1 |-;generalize hr1:(if (!T.is r.2.i [58])=true then (0,r.2) else lab T r.2.next)=r1;have h2:r.2.i<=r1.2.i:=by
     rw[<-hr1];split
     ·exact H6 _
     ·have:=(A3l T r.2.next).le
      rw[Q5]at this;omega
    have h3:=A3h T r1.2 [61];have h4:=hE d 1 (r1.2.need T [61]).2;have h5:=(gE d 1 (r1.2.need T [61]).2).le;have h6:=A3h T (A0P T f d 1 (r1.2.need T [61]).2).2 [59];try dsimp only
    rw[Stm.cnt,Q3];omega
   ·split
    ·have h1:=hE d 1 s.next
     have h2:=(gE d 1 s.next).le;rw[Q5]at h1 h2;generalize A0P T f d 1 s.next=r at h1 h2 |-;have h3:=hB d r.2;have h4:=(gB d r.2).le;generalize block T f d r.2=r1 at h3 h4 |-;split
     ·have h5:=hB d r1.2.next
      have h6:=(gB d r1.2.next).le;rw[Q5]at h5 h6;dsimp only
      try dsimp only
      rw[Stm.cnt];omega
     ·dsimp only
      try dsimp only
      rw[Stm.cnt,Q3];omega
    ·split
     ·have h1:=hE d 1 s.next
      have h2:=(gE d 1 s.next).le;rw[Q5]at h1 h2;generalize A0P T f d 1 s.next=r at h1 h2 |-;have h3:=hB d r.2;have h4:=(gB d r.2).le;try dsimp only
      rw[Stm.cnt,Q3];omega
     ·split
      ·have h1:=(A1d T s.next).le
       rw[Q5]at h1;generalize s.next.named T=r at h1 |-;have h4:=hE d 1 r.2;have h5:=(gE d 1 r.2).le;have h6:=A3h T (A0P T f d 1 r.2).2 [59];try dsimp only
       rw[Stm.cnt,Q3];omega
      ·split
       ·have h4:=hE d 1 s.next
        have h5:=(gE d 1 s.next).le;have h6:=A3h T (A0P T f d 1 s.next).2 [59];rw[Q5]at h4 h5;try dsimp only
        rw[Stm.cnt,Q3];omega
       ·split
        ·split
         ·have h4:=hE d 1 s.next.next
          have h5:=(gE d 1 s.next.next).le;have h6:=A3h T (A0P T f d 1 s.next.next).2 [59];rw[Q5,Q5]at h4 h5;try dsimp only
          rw[Stm.cnt,Q3];omega
         ·have h4:=hE d 1 s
          have h5:=(gE d 1 s).le;have h6:=A3h T (A0P T f d 1 s).2 [59];try dsimp only
          rw[Stm.cnt,Q3];omega
        ·rw[Stm.cnt,Q3]
         show (Ex.mk 0 [] 0 [] 0 0).cnt+0+0+1<=_
         rw[A4l];omega
theorem A7t {T:Src}{s:St} (w:List UInt8) (h:s.i<=T.l.length):(s.need T w).2.i<=T.l.length:=(A0F T s w).top h
theorem B0Q (src:List UInt8) (at_:Int):Q3 (item src at_).body<=8 *src.length:=by
 have htl:(U9 src).length<=src.length:=A7D src;rw[item];generalize hT:(⟨U9 src,src.length⟩:Src)=T;have hTl:T.l.length<=src.length:=by rw[<-hT];exact htl
 dsimp only
 split
 ·rename_i hfn
  have h0:=A1I hfn;dsimp only[A53];have h1:=(A1d T ⟨1,[]⟩).top (show 1<=_ by omega);generalize (⟨1,[]⟩:St).named T=r at h1 |-;have h2:=A7t [40] h1;generalize (r.2.need T [40]).2=s1 at h2 |-;have h3:=((A9a T 6 [] s1 (by simp)).2 h2).2.1;generalize A4B T 6 [] s1=r2 at h3 |-;have h4:=A7t [41] h3;generalize (r2.2.need T [41]).2=s3 at h4 |-;have h5:=A7t [58] h4;generalize (s3.need T [58]).2=s4 at h5 |-;have h6:=(A3l T s4).top h5;generalize lab T s4=r5 at h6 |-;generalize hr6:(if T.is r5.2.i [115,101,110,100,115]=true then A4E T 6 [] r5.2.next else ([],r5.2))=r6;have h7:r6.2.i<=T.l.length:=by
   rw[<-hr6];split
   ·rename_i hs
    have:=A1I hs;exact((A9i T 6 [] r5.2.next (by simp)).2 (by rw[Q5];omega)).2.1
   ·exact h6
  have h8:=(B4o T (A7b T)).1 0 r6.2;have h9:=((A1Z T (A7b T)).1 0 r6.2).top h7;omega
 ·split
  ·dsimp only[B0E]
   rw[Q3];omega
  ·dsimp only
   rw[Q3];omega
abbrev PE:=Nat->List UInt8->Nat->Nat->Nat->Nat->Prop
abbrev PS:=Nat->List UInt8->Nat->Nat->Bool->Nat->Nat->Prop
mutual
def Ex.all (p:PE):Ex->Prop
 | .mk k nm n args f t=>p k nm n args.length f t/\A1n p args
def A1n (p:PE):List Ex->Prop
 | []=>True
 |e::es=>e.all p/\A1n p es
 end
mutual
def Stm.all (p:PE) (q:PS):Stm->Prop
 | .mk k nm a lb o e thn els f t=>q k nm a lb o f t/\e.all p/\Y0 p q thn/\Y0 p q els
def Y0 (p:PE) (q:PS):List Stm->Prop
 | []=>True
 |x::xs=>x.all p q/\Y0 p q xs
 end
theorem B0d {p:PE}:∀ {l r:List Ex},A1n p l->A1n p r->A1n p (l++r)
 | [],r,_,h=>h
 |e::l,r,h,g=>by
  rw[A1n]at h;rw[X8,A1n];exact⟨h.1,B0d h.2 g⟩
theorem B0e {p:PE}{e:Ex} (h:e.all p):A1n p [e]:=by rw[A1n,A1n];exact⟨h,trivial⟩
theorem A4v {p:PE}:A1n p []:=by rw[A1n];trivial
theorem X6 {p:PE}{q:PS}:Y0 p q []:=by rw[Y0];trivial
theorem B2c {p:PE}{q:PS}:∀ {l r:List Stm},Y0 p q l->Y0 p q r->Y0 p q (l++r)
 | [],r,_,h=>h
 |e::l,r,h,g=>by
  rw[Y0]at h;rw[X8,Y0];exact⟨h.1,B2c h.2 g⟩
theorem B8d {p:PE}{q:PS}{e:Stm} (h:e.all p q):Y0 p q [e]:=by rw[Y0,Y0];exact⟨h,trivial⟩
theorem A6n {p:PE}:∀ {l:List Ex}{i:Nat}{e:Ex},A1n p l->l[i]?=some e->e.all p
 | [],_,_,_,h=>by simp at h
 |a::l,0,e,h,hg=>by
  rw[A1n]at h;simp only[A0A,U3]at hg;subst hg;exact h.1
 |a::l,i+1,e,h,hg=>by
  rw[A1n]at h;rw[A0z]at hg;exact A6n h.2 hg
theorem A4K {p:PE}{q:PS}:∀ {l:List Stm}{i:Nat}{e:Stm},Y0 p q l->l[i]?=some e->e.all p q
 | [],_,_,_,h=>by simp at h
 |a::l,0,e,h,hg=>by
  rw[Y0]at h;simp only[A0A,U3]at hg;subst hg;exact h.1
 |a::l,i+1,e,h,hg=>by
  rw[Y0]at h;rw[A0z]at hg;exact A4K h.2 hg
theorem A4h {p:PE}{k n f t:Nat}{nm:List UInt8} (h:p k nm n 0 f t):(Ex.mk k nm n [] f t).all p:=by rw[Ex.all];exact⟨h,A4v⟩
theorem Ex.all_node {p:PE}{e:Ex} (h:e.all p):p e.kind e.name e.n e.args.length e.fr e.to/\A1n p e.args:=by
 cases e;rw[Ex.all]at h;exact h
theorem Stm.all_node {p:PE}{q:PS}{e:Stm} (h:e.all p q):q e.kind e.name e.at_ e.label e.opn e.fr e.to/\e.e.all p/\Y0 p q e.thn/\Y0 p q e.els:=by
 cases e;rw[Stm.all]at h;exact h
mutual
theorem Ex.all_mono {p q:PE} (h:∀k nm n m f t,p k nm n m f t->q k nm n m f t):∀(e:Ex),e.all p->e.all q
 | .mk k nm n args f t,ha=>by rw[Ex.all]at ha |-;exact⟨h _ _ _ _ _ _ ha.1,B1Y h args ha.2⟩
theorem B1Y {p q:PE} (h:∀k nm n m f t,p k nm n m f t->q k nm n m f t):∀(l:List Ex),A1n p l->A1n q l
 | [],_=>A4v
 |e::l,ha=>by rw[A1n]at ha |-;exact⟨Ex.all_mono h e ha.1,B1Y h l ha.2⟩
 end
mutual
theorem Stm.all_mono {p q:PE}{r s:PS} (h:∀k nm n m f t,p k nm n m f t->q k nm n m f t) (g:∀k nm a l o f t,r k nm a l o f t->s k nm a l o f t):∀(e:Stm),e.all p r->e.all q s
 | .mk k nm a lb o e thn els f t,ha=>by rw[Stm.all]at ha |-;exact⟨g _ _ _ _ _ _ _ ha.1,Ex.all_mono h e ha.2.1,A43 h g thn ha.2.2.1,A43 h g els ha.2.2.2⟩
theorem A43 {p q:PE}{r s:PS} (h:∀k nm n m f t,p k nm n m f t->q k nm n m f t) (g:∀k nm a l o f t,r k nm a l o f t->s k nm a l o f t):∀(l:List Stm),Y0 p r l->Y0 q s l
 | [],_=>X6
 |e::l,ha=>by rw[Y0]at ha |-;exact⟨Stm.all_mono h g e ha.1,A43 h g l ha.2⟩
 end
structure AtE (T:Src) (p:PE):Prop where
 zero:p 0 [] 0 0 0 0
 bad:∀i,p 5 [] 0 0 (T.tok i).pos (T.tok i).pos
 num:∀i n,n<=1000000000->(T.tok i).kind=2->p 1 [] n 0 (T.tok i).pos ((T.tok i).pos+(T.tok i).text.length)
 var:∀i,name (T.tok i).text=true->p 2 (T.tok i).text 0 0 (T.tok i).pos ((T.tok i).pos+(T.tok i).text.length)
 call:∀i j m,name (T.tok i).text=true->m<=5->i+2<=j->p 4 (T.tok i).text 0 m (T.tok i).pos (T.endOf j)
 op:∀i k1 n1 v1 m1 f1 t1 k2 n2 v2 m2 f2 t2,A1i (T.tok i).text≠0->p k1 n1 v1 m1 f1 t1->p k2 n2 v2 m2 f2 t2->p 3 (T.tok i).text 0 2 f1 (max t2 t1)
theorem B6G {T:Src}{p:PE} (h:AtE T p):∀f,(∀d s,(A21 T f d s).1.all p)/\(∀d l s,l.length<=5->A1n p l->(A4c T f d l s).1.length<=5/\A1n p (A4c T f d l s).1)/\
  (∀d m s,(A0P T f d m s).1.all p)/\(∀d m e s,e.all p->(opL T f d m e s).1.all p)
 |0=>⟨fun _ _=>by rw[A21];exact A4h h.zero,fun _ _ _ h1 h2=>by rw[A4c];exact⟨h1,h2⟩,fun _ _ _=>by rw[A0P];exact A4h h.zero,fun _ _ _ _ h1=>by rw[opL];exact h1⟩
 |f+1=>by
  obtain⟨hA,hL,hE,hO⟩:=B6G h f;refine⟨fun d s=>?_,fun d l s h1 h2=>?_,fun d m s=>?_,fun d m e s h1=>?_⟩
  ·rw[A21]
   dsimp only
   split
   ·exact A4h (h.bad _)
   ·split
    ·exact A4h (h.bad _)
    ·split
     ·rename_i hk
      split
      ·exact A4h (h.num _ 0 (by omega) hk)
      ·exact A4h (h.num _ _ (by omega) hk)
     ·split
      ·exact hE _ _ _
      ·split
       ·exact A4h (h.bad _)
       ·rename_i hn
        have hn':name (T.tok s.i).text=true:=by simpa using hn
        split
        ·exact A4h (h.var _ hn')
        ·obtain⟨h1,h2⟩:=hL (d+1) [] s.next.next (by simp) A4v
         dsimp only
         rw[Ex.all];have h3:=((A05 T f).2.1 (d+1) [] s.next.next).le;have h4:=(A0F T (A4c T f (d+1) [] s.next.next).2 [41]).le;rw[Q5,Q5]at h3;exact⟨h.call _ _ _ hn' h1 (by omega),h2⟩
  ·rw[A4c]
   split
   ·exact⟨h1,h2⟩
   ·split
    ·exact⟨h1,h2⟩
    ·have h3:=hE d 1 s
     have h4:(l++ [(A0P T f d 1 s).1]).length<=5:=by simp;omega
     have h5:=B0d h2 (B0e h3);dsimp only
     split
     ·exact hL _ _ _ h4 h5
     ·exact⟨h4,h5⟩
  ·rw[A0P]
   try dsimp only
   exact hO _ _ _ _ (hA d s)
  ·rw[opL]
   try dsimp only
   split
   ·exact h1
   ·rename_i ht
    refine hO _ _ _ _ ?_
    have h3:=hE d (A1i (T.tok s.i).text+1) s.next;generalize (A0P T f d (A1i (T.tok s.i).text+1) s.next).1=r at h3 |-;cases e with
    |mk k1 n1 v1 a1 f1 t1=>
    cases r with
    |mk k2 n2 v2 a2 f2 t2=>
    have g1:=h1;have g3:=h3;rw[Ex.all]at g1 g3;rw[Ex.all];exact⟨h.op _ _ _ _ _ _ _ _ _ _ _ _ _ (by omega) g1.1 g3.1,B0d (B0e h1) (B0e h3)⟩
structure AtS (T:Src) (q:PS):Prop where
 zero:q 0 [] 0 0 false 0 0
 let_:∀i (s:St) lb o j,lb<=255->q 1 (s.named T).1 (T.tok s.i).pos lb o (T.tok i).pos (max (T.endOf j) (T.tok i).pos)
 set:∀i j,name (T.tok i).text=true->q 2 (T.tok i).text (T.tok i).pos 0 false (T.tok i).pos (max (T.endOf j) (T.tok i).pos)
 plain:∀k i j,(k=3\/k=4\/k=6\/k=7\/k=8)->q k [] 0 0 false (T.tok i).pos (max (T.endOf j) (T.tok i).pos)
 send:∀i (s:St) j,q 5 (s.named T).1 (T.tok s.i).pos 0 false (T.tok i).pos (max (T.endOf j) (T.tok i).pos)
theorem C73 (a:Nat) (ha:a<256) (q:Nat) (hq:q<8) (h:bit a q=false):a+2 ^ q<256:=by
 have key:∀a<256,∀q<8,bit a q=false->a+2 ^ q<256:=by decide+kernel
 exact key a ha q hq h
theorem B0T (T:Src):∀(f n:Nat) (s:St),n<256->(B2n T f n s).1<256
 |0,n,s,h=>h
 |f+1,n,s,h=>by
  rw[B2n];split
  ·exact h
  ·dsimp only
   split
   ·exact h
   ·rename_i h2
    generalize hqd:((T.tok s.i).text.getD 0 0).toNat-97=q;have hq:q<8:=by
     simp only[C2m,Bool.not_eq_true,Bool.not_eq_false',V3,decide_eq_true_eq]at h2;omega
    cases hb:bit n q with
    |true=>
     simp only[if_true];split
     ·exact B0T T f _ _ h
     ·split
      ·exact B0T T f _ _ h
      ·exact h
    |false=>
     have hn:=C73 n h q hq hb;simp only[A6A,if_false];split
     ·exact B0T T f _ _ hn
     ·split
      ·exact B0T T f _ _ hn
      ·exact hn
theorem A85 (T:Src) (s:St):(lab T s).1<256:=by
 rw[lab];split
 ·exact B0T T _ _ _ (by decide)
 ·dsimp only;omega
theorem B4h {T:Src}{p:PE}{q:PS} (h:AtE T p) (g:AtS T q):∀f,(∀d s,Y0 p q (block T f d s).1)/\(∀d l s,Y0 p q l->Y0 p q (A4n T f d l s).1)/\(∀d s,(stm T f d s).1.all p q)
 |0=>⟨fun _ _=>by rw[block];exact X6,fun _ _ _ h1=>by rw[A4n];exact h1,fun _ s=>by
   rw[stm];show (Stm.mk 0 [] 0 0 false (.mk 0 [] 0 [] 0 0) [] [] 0 0).all p q
   rw[Stm.all];exact⟨g.zero,A4h h.zero,X6,X6⟩⟩
 |f+1=>by
  obtain⟨hB,hL,hS⟩:=B4h h g f;have hE:=(B6G h f).2.2.1;refine⟨fun d s=>?_,fun d l s h1=>?_,fun d s=>?_⟩
  ·rw[block]
   split
   ·exact X6
   ·split
    ·exact X6
    ·dsimp only
     exact hL _ _ _ X6
  ·rw[A4n]
   split
   ·exact h1
   ·split
    ·exact h1
    ·dsimp only
     exact hL _ _ _ (B2c h1 (B8d (hS d s)))
  ·rw[stm]
   dsimp only
   split
   ·rw[Stm.all]
    refine⟨g.let_ s.i s.next _ _ _ ?_,hE _ _ _,X6,X6⟩
    split
    ·dsimp only;omega
    ·exact A7Y (A85 T _)
   ·split
    ·split
     ·dsimp only;rw[Stm.all];exact⟨g.plain _ _ _ (.inl rfl),hE _ _ _,hB _ _,hB _ _⟩
     ·dsimp only;rw[Stm.all];exact⟨g.plain _ _ _ (.inl rfl),hE _ _ _,hB _ _,X6⟩
    ·split
     ·rw[Stm.all];exact⟨g.plain _ _ _ (.inr (.inl rfl)),hE _ _ _,hB _ _,X6⟩
     ·split
      ·rw[Stm.all];exact⟨g.send s.i s.next _,hE _ _ _,X6,X6⟩
      ·split
       ·rw[Stm.all];exact⟨g.plain _ _ _ (.inr (.inr (.inl rfl))),hE _ _ _,X6,X6⟩
       ·split
        ·rename_i hn
         split
         ·rw[Stm.all];exact⟨g.set _ _ hn,hE _ _ _,X6,X6⟩
         ·rw[Stm.all];exact⟨g.plain _ _ _ (.inr (.inr (.inr (.inl rfl)))),hE _ _ _,X6,X6⟩
        ·rw[Stm.all]
         refine⟨g.plain _ _ _ (.inr (.inr (.inr (.inr rfl)))),?_,X6,X6⟩
         exact A4h h.zero
theorem B6H {T:Src}{r:Par->Prop} (h:∀(s:St) lb,lb<=255->r ⟨(s.named T).1,lb,(T.tok s.i).pos⟩):∀(f:Nat) (l:List Par) (s:St),(∀x∈l,r x)->∀x∈(A4B T f l s).1,r x
 |0,l,s,h1=>by rw[A4B];exact h1
 |f+1,l,s,h1=>by
  rw[A4B];split
  ·exact h1
  ·split
   ·exact h1
   ·dsimp only
    split
    ·exact h1
    ·have h2:∀lb,lb<=255->∀x∈l++ [⟨(s.named T).1,lb,(T.tok s.i).pos⟩],r x:=fun lb hl x hx=>by
      rcases A0d.1 hx with hx|hx
      ·exact h1 x hx
      ·obtain rfl:=A0B.1 hx
       exact h s lb hl
     have h3:=fun s=>A7Y (A85 T s)
     split
     ·exact B6H h f _ _ (h2 _ (h3 _))
     ·exact h2 _ (h3 _)
theorem B6I {T:Src}{r:Rf->Prop} (h:∀(s:St),r ⟨(s.named T).1,(T.tok s.i).pos⟩):∀(f:Nat) (l:List Rf) (s:St),(∀x∈l,r x)->∀x∈(A4E T f l s).1,r x
 |0,l,s,h1=>by rw[A4E];exact h1
 |f+1,l,s,h1=>by
  rw[A4E];split
  ·exact h1
  ·dsimp only
   have h2:∀x∈l++ [⟨(s.named T).1,(T.tok s.i).pos⟩],r x:=fun x hx=>by
    rcases A0d.1 hx with hx|hx
    ·exact h1 x hx
    ·obtain rfl:=A0B.1 hx
     exact h s
   split
   ·exact B6I h f _ _ h2
   ·exact h2
structure ItAll (T:Src) (p:PE) (q:PS) (r:Par->Prop) (t:Rf->Prop) (it:Itm):Prop where
 body:Y0 p q it.body
 params:∀x∈it.params,r x
 sends:∀x∈it.sends,t x
 few:it.params.length<=5/\it.sends.length<=5/\it.body.length<=40
 label:it.label<=255
 kind:1<=it.kind/\it.kind<=3
 mark:(it.name= []/\((∃i,it.mark=(T.tok i).pos)\/it.mark=0))\/∃s:St,it.name=(s.named T).1/\it.mark=(T.tok s.i).pos
 bad:it.kind=3->it.name= []/\it.label=0/\it.params= []/\it.sends= []/\it.body= []
 chan:it.kind=1->it.params= []/\it.sends= []/\it.body= []
theorem B3o {src:List UInt8}{p:PE}{q:PS}{r:Par->Prop}{t:Rf->Prop} (at_:Int) (h:AtE ⟨U9 src,src.length⟩ p) (g:AtS ⟨U9 src,src.length⟩ q)
  (hr:∀(s:St) lb,lb<=255->r ⟨(s.named ⟨U9 src,src.length⟩).1,lb,((⟨U9 src,src.length⟩:Src).tok s.i).pos⟩)
  (ht:∀(s:St),t ⟨(s.named ⟨U9 src,src.length⟩).1,((⟨U9 src,src.length⟩:Src).tok s.i).pos⟩):ItAll ⟨U9 src,src.length⟩ p q r t (item src at_):=by
 rw[item];generalize (⟨U9 src,src.length⟩:Src)=T at h g hr ht |-;dsimp only
 split
 ·dsimp only[A53]
  have h6:∀(c:Bool) (y z:St),∀x∈(if c=true then A4E T 6 [] y else ([],z)).1,t x:=fun c y z=>by
   split
   ·exact B6I ht _ _ _ (by simp)
   ·simp
  have l6:∀(c:Bool) (y z:St),(if c=true then A4E T 6 [] y else ([],z)).1.length<=5:=fun c y z=>by
   split
   ·exact(A9i T 6 [] _ (by simp)).1
   ·simp
  exact⟨(B4h h g _).1 _ _,B6H hr _ _ _ (by simp),h6 _ _ _,⟨(A9a T 6 [] _ (by simp)).1,l6 _ _ _,((A9h T _).1 _ _).1⟩,A7Y (A85 T _),⟨by simp,by simp⟩,.inr ⟨⟨1,[]⟩,rfl,rfl⟩,fun h=>(by simp at h),fun h=>(by simp at h)⟩
 ·split
  ·dsimp only[B0E]
   exact⟨X6,by simp,by simp,⟨by simp,by simp,by simp⟩,A7Y (A85 T _),⟨by simp,by simp⟩,.inr ⟨⟨1,[]⟩,rfl,rfl⟩,fun h=>(by simp at h),fun _=>⟨rfl,rfl,rfl⟩⟩
  ·dsimp only
   exact⟨X6,by simp,by simp,⟨by simp,by simp,by simp⟩,by simp,⟨by simp,by simp⟩,.inl ⟨rfl,.inr rfl⟩,fun _=>⟨rfl,rfl,rfl,rfl,rfl⟩,fun h=>(by simp at h)⟩
def B0U:PS:=fun _ _ _ l _ _ _=>l<256
def B0A:PE:=fun _ _ _ _ _ _=>True
inductive Runs (T:Src):St->St->Prop where
 |refl (s:St):Runs T s s
 |bad {s r:St} (e:Nat):Runs T s r->Runs T s (r.bad T e)
 |next {s r:St}:Runs T s r->Runs T s r.next
theorem Runs.trans {T:Src}{s r q:St} (h:Runs T s r) (g:Runs T r q):Runs T s q:=by
 induction g with
 |refl=>exact h
 |bad e _ ih=>exact .bad e ih
 |next _ ih=>exact .next ih
theorem Runs.on {T:Src}{s r:St} (h:Runs T s r):s.i<=r.i:=by
 induction h with
 |refl=>exact H6 _
 |bad e _ ih=>exact ih
 |next _ ih=>exact Nat.le_succ_of_le ih
theorem A2x (T:Src) (s:St) (e:Nat):(s.bad T e).ds≠ []:=by simp[St.bad]
theorem Runs.told {T:Src}{s r:St} (h:Runs T s r) (hs:s.ds≠ []):r.ds≠ []:=by
 induction h with
 |refl=>exact hs
 |bad e _ _=>exact A2x _ _ _
 |next _ ih=>exact ih
theorem Runs.clean {T:Src}{s r:St} (h:Runs T s r) (hr:r.ds= []):s.ds= []:=by
 cases hs:s.ds with
 |nil=>rfl
 |cons a l=>exact absurd hr (h.told (by rw[hs];simp))
theorem A1W (T:Src) (s:St) (e:Nat):Runs T s (s.bad T e):=.bad e (.refl s)
theorem A0G (T:Src) (s:St):Runs T s s.next:=.next (.refl s)
theorem A0i (T:Src) (s:St) (w:List UInt8):Runs T s (s.need T w).2:=by
 rw[St.need];split
 ·exact A0G T s
 ·exact A1W T s 2
theorem A2W (T:Src) (s:St):Runs T s (s.named T).2:=by
 rw[St.named];split
 ·exact A0G T s
 ·split
  ·exact .next (A1W T s 7)
  ·exact A1W T s 2
theorem B1M (T:Src):∀(f n:Nat) (s:St),Runs T s (B2n T f n s).2
 |0,n,s=> .refl s
 |f+1,n,s=>by
  rw[B2n];split
  ·exact A0G T s
  ·dsimp only
   split
   ·exact A1W T s 2
   ·generalize (if bit n ((T.tok s.i).text.getD 0 0|>.toNat|>(· -97))=true then n else n+2 ^ ((T.tok s.i).text.getD 0 0|>.toNat|>(· -97)))=n1
    have g:Runs T s (if bit n ((T.tok s.i).text.getD 0 0|>.toNat|>(· -97))=true then s.bad T 7 else s).next:=by
     split
     ·exact .next (A1W T s 7)
     ·exact A0G T s
    generalize (if bit n ((T.tok s.i).text.getD 0 0|>.toNat|>(· -97))=true then s.bad T 7 else s).next=s2 at g;split
    ·exact g.trans (B1M T f n1 s2)
    ·split
     ·exact(Runs.next g).trans (B1M T f n1 s2.next)
     ·exact g.trans (A1W T s2 2)
theorem A42 (T:Src) (s:St):Runs T s (lab T s).2:=by
 rw[lab];split
 ·exact(A0G T s).trans (B1M T _ 0 s.next)
 ·exact A1W T s 2
theorem A3s (T:Src):∀f,(∀d s,Runs T s (A21 T f d s).2)/\(∀d l s,Runs T s (A4c T f d l s).2)/\(∀d m s,Runs T s (A0P T f d m s).2)/\(∀d m e s,Runs T s (opL T f d m e s).2)
 |0=>⟨fun _ _=>by rw[A21];exact .refl _,fun _ _ _=>by rw[A4c];exact .refl _,fun _ _ _=>by rw[A0P];exact .refl _,fun _ _ _ _=>by rw[opL];exact .refl _⟩
 |f+1=>by
  obtain⟨hA,hL,hE,hO⟩:=A3s T f;refine⟨fun d s=>?_,fun d l s=>?_,fun d m s=>?_,fun d m e s=>?_⟩
  ·rw[A21]
   dsimp only
   split
   ·exact A1W T s 2
   ·split
    ·exact A1W T s 12
    ·split
     ·split
      ·exact .next (A1W T s 3)
      ·exact A0G T s
     ·split
      ·exact((A0G T s).trans (hE _ _ _)).trans (A0i T _ _)
      ·split
       ·exact A1W T s 2
       ·split
        ·exact A0G T s
        ·exact((Runs.next (A0G T s)).trans (hL _ _ _)).trans (A0i T _ _)
  ·rw[A4c]
   split
   ·exact .refl _
   ·split
    ·exact A1W T s 5
    ·try dsimp only
     split
     ·exact(Runs.next (hE _ _ _)).trans (hL _ _ _)
     ·exact hE _ _ _
  ·rw[A0P]
   try dsimp only
   exact(hA d s).trans (hO _ _ _ _)
  ·rw[opL]
   try dsimp only
   split
   ·exact .refl _
   ·exact((A0G T s).trans (hE _ _ _)).trans (hO _ _ _ _)
theorem A6M (T:Src):∀f,(∀d s,Runs T s (block T f d s).2)/\(∀d l s,Runs T s (A4n T f d l s).2)/\(∀d s,Runs T s (stm T f d s).2)
 |0=>⟨fun _ _=>by rw[block];exact .refl _,fun _ _ _=>by rw[A4n];exact .refl _,fun _ s=>by rw[stm];exact .refl _⟩
 |f+1=>by
  obtain⟨hB,hL,hS⟩:=A6M T f;have hE:=(A3s T f).2.2.1;refine⟨fun d s=>?_,fun d l s=>?_,fun d s=>?_⟩
  ·rw[block]
   split
   ·exact A1W T s 2
   ·split
    ·exact(A0G T s).trans (A1W T _ 12)
    ·dsimp only
     exact((A0G T s).trans (hL _ _ _)).trans (A0i T _ _)
  ·rw[A4n]
   split
   ·exact .refl _
   ·split
    ·exact A1W T s 5
    ·dsimp only
     split
     ·exact(Runs.next (hS d s)).trans (hL _ _ _)
     ·exact(hS d s).trans (hL _ _ _)
  ·rw[stm]
   dsimp only
   split
   ·have g1:=A2W T s.next
    have g2:Runs T (s.next.named T).2 (if (!T.is (s.next.named T).2.i [58])=true then ((0:Nat),(s.next.named T).2) else lab T (s.next.named T).2.next).2:=by
     split
     ·exact .refl _
     ·exact(A0G T _).trans (A42 T _)
    exact(((((A0G T s).trans g1).trans g2).trans (A0i T _ _)).trans (hE _ _ _)).trans (A0i T _ _)
   ·split
    ·have g1:=((A0G T s).trans (hE d 1 s.next)).trans (hB d (A0P T f d 1 s.next).2)
     split
     ·exact(Runs.next g1).trans (hB d _)
     ·exact g1
    ·split
     ·exact((A0G T s).trans (hE d 1 s.next)).trans (hB d (A0P T f d 1 s.next).2)
     ·split
      ·exact(((A0G T s).trans (A2W T s.next)).trans (hE d 1 _)).trans (A0i T _ _)
      ·split
       ·exact((A0G T s).trans (hE d 1 s.next)).trans (A0i T _ _)
       ·split
        ·split
         ·exact((Runs.next (A0G T s)).trans (hE d 1 _)).trans (A0i T _ [59])
         ·exact(hE d 1 s).trans (A0i T _ [59])
        ·exact A1W T s 2
theorem A9C (T:Src):∀(f:Nat) (l:List Par) (s:St),Runs T s (A4B T f l s).2
 |0,l,s=> .refl _
 |f+1,l,s=>by
  rw[A4B];split
  ·exact .refl _
  ·split
   ·exact A1W T s 5
   ·dsimp only
    have g:=(A2W T s).trans (A0i T (s.named T).2 [58]);split
    ·exact g
    ·have g2:=g.trans (A42 T _)
     split
     ·exact(Runs.next g2).trans (A9C T f _ _)
     ·exact g2
theorem A9D (T:Src):∀(f:Nat) (l:List Rf) (s:St),Runs T s (A4E T f l s).2
 |0,l,s=> .refl _
 |f+1,l,s=>by
  rw[A4E];split
  ·exact A1W T s 5
  ·dsimp only
   split
   ·exact(Runs.next (A2W T s)).trans (A9D T f _ _)
   ·exact A2W T s
theorem C6h (T:Src) (at_:Int) (size:Nat) (s:St):Runs T s (A53 T at_ size s).2:=by
 rw[A53];dsimp only
 have g6:∀r5:Nat×St,Runs T r5.2 (if T.is r5.2.i [115,101,110,100,115]=true then A4E T 6 [] r5.2.next else ([],r5.2)).2:=fun r5=>by
  split
  ·exact(A0G T _).trans (A9D T _ _ _)
  ·exact .refl _
 exact(((((((A2W T s).trans (A0i T _ _)).trans (A9C T 6 [] _)).trans (A0i T _ _)).trans (A0i T _ _)).trans (A42 T _)).trans (g6 _)).trans ((A6M T _).1 _ _)
theorem C6g (T:Src) (at_:Int) (size:Nat) (s:St):Runs T s (B0E T at_ size s).2:=by
 rw[B0E];dsimp only
 exact(((A2W T s).trans (A0i T _ _)).trans (A42 T _)).trans (A0i T _ _)
def B62 (size:Nat) (d:Dg):Prop:=d.fr<=d.to/\d.to<=size
theorem B8H {T:Src}{s:St}{e:Nat} (hT:∀i,(T.tok i).pos+(T.tok i).text.length<=T.size) (h:∀d∈s.ds,B62 T.size d):∀d∈(s.bad T e).ds,B62 T.size d:=by
 intro d hd;rcases A0d.1 (show d∈s.ds++ [_] from hd) with h1|h1
 ·exact h d h1
 ·have e1:=A0B.1 h1
  rw[e1];exact⟨Nat.le_add_right _ _,hT s.i⟩
theorem C0O {T:Src}{s r:St} (hT:∀i,(T.tok i).pos+(T.tok i).text.length<=T.size) (h:Runs T s r) (hs:∀d∈s.ds,B62 T.size d):∀d∈r.ds,B62 T.size d:=by
 induction h with
 |refl=>exact hs
 |bad e _ ih=>exact B8H hT ih
 |next _ ih=>exact ih
theorem C6y (s:List UInt8) (i:Nat):((⟨U9 s,s.length⟩:Src).tok i).pos+((⟨U9 s,s.length⟩:Src).tok i).text.length<=s.length:=by
 rcases U2 i (U9 s).length with h|h
 ·rw[Src.tok,O4,G6 h]
  exact(A2D s _ (O5 h)).fit
 ·rw[A44 h];simp
theorem C5E (s:List UInt8) (at_:Int):∀d∈(item s at_).diags,B62 s.length d:=by
 have hT:=C6y s;have g:∀q:Itm×St,(∀d∈q.2.ds,B62 s.length d)->∀d∈(if q.2.i<(⟨U9 s,s.length⟩:Src).l.length then q.2.bad ⟨U9 s,s.length⟩ 2 else q.2).ds,B62 s.length d:=fun q hq=>by
  split
  ·exact B8H (T:=⟨U9 s,s.length⟩) hT hq
  ·exact hq
 rw[item];dsimp only
 refine g _ ?_
 split
 ·exact C0O (T:=⟨U9 s,s.length⟩) hT (C6h _ _ _ _) (by simp)
 ·split
  ·exact C0O (T:=⟨U9 s,s.length⟩) hT (C6g _ _ _ _) (by simp)
  ·exact B8H (T:=⟨U9 s,s.length⟩) (s:=⟨0,[]⟩) (e:=2) hT (by simp)
def A6V (s:List UInt8) (f u:Int) (x:List UInt8):Nat:=if f<0\/u<f\/u>s.length then 3 else if x.length>4000\/(s.length:Int)-(u-f)+x.length>4000 then 4 else 0
def B22 (s:List UInt8) (f u:Int) (x:List UInt8):List UInt8:=if A6V s f u x=0 then s.take f.toNat++x++s.drop u.toNat else []
theorem A9s (s:List UInt8) (cs:List Nat):(A3I s cs).length=cs.length:=by simp[A3I]
theorem B1y (s:List UInt8) (cs:List Nat) {k:Nat} (h:k<cs.length):(A3I s cs)[k]?=some (A0S s cs k):=by
 simp[A3I,h]
theorem B7f (s:List UInt8):(J7 s).length<=30:=by
 rw[J7];split
 ·rename_i h
  rw[A9s];rw[Y7]at h;split at h
  ·omega
  ·split at h<;>omega
 ·simp
structure ItIn (s:List UInt8) (k:Nat) (it:Itm):Prop where
 at0:0<=it.at_
 size:1<=it.size
 top:it.at_+it.size<=s.length
 ends:it.at_+it.size=(match (J7 s)[k+1]? with|some j=>j.at_|none=>(s.length:Int))
 diags:∀d∈it.diags,d.fr<=d.to/\d.to<=it.size
 small:it.small
 len:s.length<=4000
theorem A6e (src:List UInt8) (at_:Int):(item src at_).size=src.length/\(item src at_).at_=at_:=⟨C1B src at_,B2B src at_⟩
theorem C0r (s:List UInt8) (h0:Y7 s=0) {k:Nat}{it:Itm} (h:(J7 s)[k]?=some it):ItIn s k it:=by
 have e:J7 s=A3I s (Y5 s):=by rw[J7,if_pos h0]
 have hk:k<(Y5 s).length:=by
  have:=(A0w.1 h).1
  rwa [e,A9s]at this
 have hi:it=A0S s (Y5 s) k:=by
  rw[e,B1y s _ hk]at h;exact(A0Y h).symm
 obtain⟨h1,h2⟩:=A7F s hk;have hsz:(A0S s (Y5 s) k).size=(Y5 s).getD (k+1) s.length-(Y5 s).getD k 0:=by
  rw[A0S,(A6e _ _).1,A1b,P8,A0s];omega
 have hat:(A0S s (Y5 s) k).at_=((Y5 s).getD k 0:Nat):=by rw[A0S,(A6e _ _).2]
 have hlen:s.length<=4000:=by
  rw[Y7]at h0;split at h0
  ·cases h0
  ·omega
 have hsm:(A0S s (Y5 s) k).small:=A4x _ _ (by rw[A1b,P8,A0s];omega);have hdg:∀d∈(A0S s (Y5 s) k).diags,B62 (A1b s (Y5 s) k).length d:=C5E _ _;have hpl:(A1b s (Y5 s) k).length=(A0S s (Y5 s) k).size:=by rw[A0S,(A6e _ _).1]
 subst hi;refine⟨by rw[hat];omega,by rw[hsz];omega,by rw[hat,hsz];omega,?_,fun d hd=>(by have:=hdg d hd;rw[hpl]at this;exact this),hsm,hlen⟩
 rw[hat,hsz];rcases U2 (k+1) (Y5 s).length with h4|h4
 ·have e2:(J7 s)[k+1]?=some (A0S s (Y5 s) (k+1)):=by rw[e,B1y s _ h4]
  rw[e2];dsimp only
  have hat2:(A0S s (Y5 s) (k+1)).at_=((Y5 s).getD (k+1) 0:Nat):=by rw[A0S,(A6e _ _).2]
  have e3:(Y5 s).getD (k+1) s.length=(Y5 s).getD (k+1) 0:=by
   rw[O4,O4,G6 h4];rfl
  rw[hat2,e3];rw[e3]at h1 h2;omega
 ·have e2:(J7 s)[k+1]?=none:=by rw[e];exact A07 (by rw[A9s];omega)
  rw[e2];have e3:(Y5 s).getD (k+1) s.length=s.length:=by rw[O4,A07 h4];rfl
  dsimp only
  rw[e3]at h1 |-;omega
def C3A (k:Int) (n:List UInt8) (it:Itm):Bool:=decide ((it.kind:Int)=k) && (decide (it.name=n) && decide (n≠ []))
def A0Z (its:List Itm) (k:Int) (n:List UInt8):Option Nat:=its.findIdx? (C3A k n)
structure Lc where
 name:List UInt8
 at_:Nat
structure Us where
 fr:Int
 to:Int
 df:Int
 deriving DecidableEq
structure NW where
 ds:List Dg
 us:List Us
def NW.tell (s:NW) (a e:Nat) (n:List UInt8):NW:= { s with ds:=s.ds++ [⟨a,a+n.length,e,n⟩]}
def NW.use (s:NW) (b:Int) (a:Nat) (n:List UInt8) (d:Int):NW:= { s with us:=s.us++ [⟨b+a,b+a+n.length,d⟩]}
def A1A:List Lc->List UInt8->Option Lc
 | [],_=>none
 |l::sc,n=>match A1A sc n with
  |some x=>some x
  |none=>if l.name=n then some l else none
def C8j:Itm:=⟨0,[],0,[],[],[],0,0,0,[]⟩
def A0q (its:List Itm) (j:Nat):Itm:=its.getD j C8j
def A71 (b:Int) (sc:List Lc) (a:Nat) (n:List UInt8) (s:NW):NW:=match A1A sc n with
 |some l=>s.use b a n (b+l.at_)
 |none=>if n= [] then s else s.tell a 6 n
def A5c (its:List Itm) (b:Int) (k:Int) (a:Nat) (n:List UInt8) (s:NW):NW:=match A0Z its k n with
 |some j=>s.use b a n ((A0q its j).at_+(A0q its j).mark)
 |none=>if n= [] then s else s.tell a 6 n
def A5f (its:List Itm) (b:Int) (a:Nat) (n:List UInt8) (m:Nat) (s:NW):NW:=match A0Z its 2 n with
 |some j=>if (A0q its j).params.length≠m then (A5c its b 2 a n s).tell a 5 n else A5c its b 2 a n s
 |none=>A5c its b 2 a n s
def mkN (n:List UInt8) (a:Nat) (sc:List Lc) (s:NW):List Lc×NW:=
 if n= [] then (sc,s) else (sc++ [⟨n,a⟩],match A1A sc n with|some _=>s.tell a 7 n|none=>s)
mutual
def exN (its:List Itm) (b:Int) (sc:List Lc):Ex->NW->NW
 | .mk k nm _ args fr _,s=>A5b its b sc args (if k=2 then A71 b sc fr nm s else if k=4 then A5f its b fr nm args.length s else s)
def A5b (its:List Itm) (b:Int) (sc:List Lc):List Ex->NW->NW
 | [],s=>s
 |e::es,s=>A5b its b sc es (exN its b sc e s)
 end
mutual
def A50 (its:List Itm) (b:Int):Stm->List Lc->NW->List Lc×NW
 | .mk k nm a _ _ e thn els _ _,sc,s=>
  if k=1 then mkN nm a sc (exN its b sc e s) else
  if k=2 then (sc,A71 b sc a nm (exN its b sc e s)) else
  if k=5 then (sc,A5c its b 1 a nm (exN its b sc e s)) else
  if k=3\/k=4 then (sc,(A1c its b els sc (A1c its b thn sc (exN its b sc e s)).2).2) else (sc,exN its b sc e s)
def A1c (its:List Itm) (b:Int):List Stm->List Lc->NW->List Lc×NW
 | [],sc,s=>(sc,s)
 |x::xs,sc,s=>A1c its b xs (A50 its b x sc s).1 (A50 its b x sc s).2
 end
def A3U:List Par->List Lc->NW->List Lc×NW
 | [],sc,s=>(sc,s)
 |p::ps,sc,s=>A3U ps (mkN p.name p.at_ sc s).1 (mkN p.name p.at_ sc s).2
def A62 (its:List Itm) (b:Int) (dn:List Rf) (c:Rf) (s:NW):NW:=
 if c.name≠ []/\dn.any (fun x=>decide (x.name=c.name))=true then (A5c its b 1 c.at_ c.name s).tell c.at_ 7 c.name else A5c its b 1 c.at_ c.name s
def A6d (its:List Itm) (b:Int):List Rf->List Rf->NW->NW
 |_,[],s=>s
 |dn,c::cs,s=>A6d its b (dn++ [c]) cs (A62 its b dn c s)
def NW0:NW:=⟨[],[]⟩
def B1b (its:List Itm) (i:Nat) (it:Itm):Bool:=decide (it.kind≠3) && (decide (it.name≠ []) && (its.take i).any (fun x=>decide (x.kind=it.kind) && decide (x.name=it.name)))
def fnN (its:List Itm) (it:Itm) (s:NW):NW:=
 (A1c its it.at_ it.body (A3U it.params [] s).1 (A6d its it.at_ [] it.sends (A3U it.params [] s).2)).2
def A3b (its:List Itm) (i:Nat):NW:=
 if (A0q its i).kind=2 then fnN its (A0q its i) (if B1b its i (A0q its i)=true then NW0.tell (A0q its i).mark 7 (A0q its i).name else NW0)
 else if B1b its i (A0q its i)=true then NW0.tell (A0q its i).mark 7 (A0q its i).name else NW0
def A45 (its:List Itm) (k:Nat):List Us:=(List.range k).flatMap (fun i=>(A3b its i).us)
def A1X (its:List Itm):List Us:=A45 its its.length
def B2g (l:List Us) (at_:Int):Option Us:=l.find? (fun u=>decide (u.fr<=at_) && decide (at_<u.to))
theorem B2h (its:List Itm) (k:Nat):A45 its (k+1)=A45 its k++(A3b its k).us:=by
 rw[A45,A1N,Y2, <-A45];simp
theorem B69 (its:List Itm) (b:Int) (sc:List Lc):∀(l r:List Ex) (s:NW),A5b its b sc (l++r) s=A5b its b sc r (A5b its b sc l s)
 | [],r,s=>by rw[P7,A5b]
 |e::l,r,s=>by rw[X8,A5b,A5b,B69 its b sc l r]
theorem B5g (its:List Itm) (b:Int):∀(l r:List Stm) (sc:List Lc) (s:NW),A1c its b (l++r) sc s=A1c its b r (A1c its b l sc s).1 (A1c its b l sc s).2
 | [],r,sc,s=>by rw[P7,A1c]
 |e::l,r,sc,s=>by rw[X8,A1c,A1c,B5g its b l r]
theorem Q9 {α:Type}{l:List α}{k:Nat}{x:α} (h:l[k]?=some x):l.take (k+1)=l.take k++ [x]:=by rw[A3f,h];rfl
theorem C1k (its:List Itm) (b:Int) (sc:List Lc) {l:List Ex}{k:Nat}{e:Ex} (h:l[k]?=some e) (s:NW):A5b its b sc (l.take (k+1)) s=exN its b sc e (A5b its b sc (l.take k) s):=by
 rw[Q9 h,B69,A5b,A5b]
theorem B9U (its:List Itm) (b:Int) {l:List Stm}{k:Nat}{x:Stm} (h:l[k]?=some x) (sc:List Lc) (s:NW):
  A1c its b (l.take (k+1)) sc s=A50 its b x (A1c its b (l.take k) sc s).1 (A1c its b (l.take k) sc s).2:=by
 rw[Q9 h,B5g,A1c,A1c]
theorem B7S:∀(l r:List Par) (sc:List Lc) (s:NW),A3U (l++r) sc s=A3U r (A3U l sc s).1 (A3U l sc s).2
 | [],r,sc,s=>by rw[P7,A3U]
 |e::l,r,sc,s=>by rw[X8,A3U,A3U,B7S l r]
theorem C1W {l:List Par}{k:Nat}{x:Par} (h:l[k]?=some x) (sc:List Lc) (s:NW):A3U (l.take (k+1)) sc s=mkN x.name x.at_ (A3U (l.take k) sc s).1 (A3U (l.take k) sc s).2:=by
 rw[Q9 h,B7S,A3U,A3U]
theorem B75 (its:List Itm) (b:Int):∀(l r:List Rf) (dn:List Rf) (s:NW),A6d its b dn (l++r) s=A6d its b (dn++l) r (A6d its b dn l s)
 | [],r,dn,s=>by rw[P7,J3,A6d]
 |e::l,r,dn,s=>by rw[X8,A6d,A6d,B75 its b l r];simp
theorem C2e (its:List Itm) (b:Int) {l:List Rf}{k:Nat}{x:Rf} (h:l[k]?=some x) (s:NW):A6d its b [] (l.take (k+1)) s=A62 its b (l.take k) x (A6d its b [] (l.take k) s):=by
 rw[Q9 h,B75,P7,A6d,A6d]
theorem A8Z (n:List UInt8) (x:Lc):∀(l:List Lc),A1A (l++ [x]) n=if x.name=n then some x else A1A l n
 | []=>by simp[A1A]
 |a::l=>by
  rw[X8,A1A,A8Z n x l,A1A];split<;>rename_i h
  ·split at h
   ·rename_i h2;rw[if_pos h2];exact h.symm
   ·rename_i h2;rw[if_neg h2,h]
  ·split at h
   ·cases h
   ·rename_i h2;rw[if_neg h2,h]
theorem A7G {n:List UInt8}{x:Lc}:∀ {l:List Lc},A1A l n=some x->x∈l/\x.name=n
 | [],h=>by cases h
 |a::l,h=>by
  rw[A1A]at h;split at h
  ·rename_i y hy
   obtain rfl:=A0Y h;have:=A7G hy;exact⟨A0K _ this.1,this.2⟩
  ·split at h
   ·rename_i hn
    obtain rfl:=A0Y h;exact⟨Q7,hn⟩
   ·cases h
def NW.n (s:NW):Nat:=s.ds.length+s.us.length
theorem B0s (s:NW) (a e:Nat) (n:List UInt8):(s.tell a e n).n=s.n+1:=by simp[NW.tell,NW.n];omega
theorem C6W (s:NW) (b:Int) (a:Nat) (n:List UInt8) (d:Int):(s.use b a n d).n=s.n+1:=by simp[NW.use,NW.n];omega
theorem B9f (b:Int) (sc:List Lc) (a:Nat) (n:List UInt8) (s:NW):s.n<=(A71 b sc a n s).n/\(A71 b sc a n s).n<=s.n+1:=by
 rw[A71];split
 ·rw[C6W];omega
 ·split
  ·omega
  ·rw[B0s];omega
theorem B3q (its:List Itm) (b:Int) (k:Int) (a:Nat) (n:List UInt8) (s:NW):s.n<=(A5c its b k a n s).n/\(A5c its b k a n s).n<=s.n+1:=by
 rw[A5c];split
 ·rw[C6W];omega
 ·split
  ·omega
  ·rw[B0s];omega
theorem C0g (its:List Itm) (b:Int) (a:Nat) (n:List UInt8) (m:Nat) (s:NW):s.n<=(A5f its b a n m s).n/\(A5f its b a n m s).n<=s.n+2:=by
 have:=B3q its b 2 a n s;rw[A5f];split
 ·split
  ·rw[B0s];omega
  ·omega
 ·omega
theorem C6Q (n:List UInt8) (a:Nat) (sc:List Lc) (s:NW):s.n<=(mkN n a sc s).2.n/\(mkN n a sc s).2.n<=s.n+1/\sc.length<=(mkN n a sc s).1.length/\(mkN n a sc s).1.length<=sc.length+1:=by
 rw[mkN];split
 ·exact⟨H6 _,by dsimp only;omega,H6 _,by dsimp only;omega⟩
 ·dsimp only
  rw[E9,A1s];split
  ·rw[B0s];omega
  ·omega
mutual
theorem C3a (its:List Itm) (b:Int) (sc:List Lc):∀(e:Ex) (s:NW),s.n<=(exN its b sc e s).n/\(exN its b sc e s).n<=s.n+2 *e.cnt
 | .mk k nm n args fr to,s=>by
  rw[exN,Ex.cnt];have h1:=B9f b sc fr nm s;have h2:=C0g its b fr nm args.length s;have h3:=B8R its b sc args (if k=2 then A71 b sc fr nm s else if k=4 then A5f its b fr nm args.length s else s);generalize hq:(if k=2 then A71 b sc fr nm s else if k=4 then A5f its b fr nm args.length s else s)=q at h3 |-;have h4:s.n<=q.n/\q.n<=s.n+2:=by
   rw[<-hq];split
   ·omega
   ·split<;>omega
  omega
theorem B8R (its:List Itm) (b:Int) (sc:List Lc):∀(l:List Ex) (s:NW),s.n<=(A5b its b sc l s).n/\(A5b its b sc l s).n<=s.n+2 *A02 l
 | [],s=>by rw[A5b,A02];omega
 |e::l,s=>by
  rw[A5b,A02];have h1:=C3a its b sc e s;have h2:=B8R its b sc l (exN its b sc e s);omega
 end
mutual
theorem C70 (its:List Itm) (b:Int):∀(x:Stm) (sc:List Lc) (s:NW),s.n<=(A50 its b x sc s).2.n/\(A50 its b x sc s).2.n<=s.n+2 *x.cnt/\sc.length<=(A50 its b x sc s).1.length/\(A50 its b x sc s).1.length<=sc.length+1
 | .mk k nm a lb o e thn els f t,sc,s=>by
  rw[A50,Stm.cnt];have h1:=C3a its b sc e s;generalize exN its b sc e s=q at h1 |-;have h2:=C6Q nm a sc q;have h3:=B9f b sc a nm q;have h4:=B3q its b 1 a nm q;have h5:=A8m its b thn sc q;have h6:=A8m its b els sc (A1c its b thn sc q).2;split
  ·omega
  ·split
   ·dsimp only;omega
   ·split
    ·dsimp only;omega
    ·split
     ·dsimp only;omega
     ·dsimp only;omega
theorem A8m (its:List Itm) (b:Int):∀(l:List Stm) (sc:List Lc) (s:NW),s.n<=(A1c its b l sc s).2.n/\(A1c its b l sc s).2.n<=s.n+2 *Q3 l/\sc.length<=(A1c its b l sc s).1.length/\(A1c its b l sc s).1.length<=sc.length+l.length
 | [],sc,s=>by rw[A1c,Q3];exact⟨by dsimp only;omega,by dsimp only;omega,by dsimp only;omega,by dsimp only;simp⟩
 |x::l,sc,s=>by
  rw[A1c,Q3,F9];have h1:=C70 its b x sc s;have h2:=A8m its b l (A50 its b x sc s).1 (A50 its b x sc s).2;omega
 end
theorem C5J (n:List UInt8) (a:Nat) (sc:List Lc) (s:NW):sc<+:(mkN n a sc s).1:=by
 rw[mkN];split
 ·exact A2r _
 ·exact List.prefix_append _ _
theorem C4G (its:List Itm) (b:Int) (x:Stm) (sc:List Lc) (s:NW):sc<+:(A50 its b x sc s).1:=by
 cases x with
 |mk k nm a lb o e thn els f t=>
 rw[A50];split
 ·exact C5J _ _ _ _
 ·split
  ·exact A2r _
  ·split
   ·exact A2r _
   ·split
    ·exact A2r _
    ·exact A2r _
theorem B5h (its:List Itm) (b:Int):∀(l:List Stm) (sc:List Lc) (s:NW),sc<+:(A1c its b l sc s).1
 | [],sc,s=>by rw[A1c];exact A2r _
 |x::l,sc,s=>by rw[A1c];exact(C4G its b x sc s).trans (B5h its b l _ _)
theorem B9T (its:List Itm) (b:Int) (l:List Stm) (sc:List Lc) (s:NW):(A1c its b l sc s).1.take sc.length=sc:=
 (List.prefix_iff_eq_take.1 (B5h its b l sc s)).symm
theorem Ex.cnt_eq (e:Ex):e.cnt=A02 e.args+1:=by cases e;rw[Ex.cnt];rfl
theorem A6p {l:List Ex}{k:Nat}{y:Ex} (h:l[k]?=some y):A02 (l.take k)+y.cnt<=A02 l:=by
 have e:l=l.take (k+1)++l.drop (k+1):=(A2Q _ _).symm;have h2:=congrArg A02 e;rw[A4w,Q9 h,A4w,A6o]at h2;omega
theorem Stm.cnt_eq (x:Stm):x.cnt=x.e.cnt+Q3 x.thn+Q3 x.els+1:=by cases x;rw[Stm.cnt];rfl
theorem A4r {l:List Stm}{k:Nat}{y:Stm} (h:l[k]?=some y):Q3 (l.take k)+y.cnt<=Q3 l:=by
 have e:l=l.take (k+1)++l.drop (k+1):=(A2Q _ _).symm;have h2:=congrArg Q3 e;rw[A2L,Q9 h,A2L,A4L]at h2;omega
theorem A8j {p:PE}{q:PS}:∀ {l:List Stm} (k:Nat),Y0 p q l->Y0 p q (l.take k)
 | [],k,h=>by rw[List.take_nil];exact h
 |x::l,0,h=>by rw[Z9];exact X6
 |x::l,k+1,h=>by
  rw[Y0]at h;rw[A1g,Y0];exact⟨h.1,A8j k h.2⟩
def A81 (sc:List Lc) (n:List UInt8):Nat:=match A1A sc n with
 |some l=>l.at_
 |none=>0
def A87 (its:List Itm) (n:Nat) (x:Rf):Nat:=match A0Z its 1 x.name with
 |some j=>n &&& (A0q its j).label
 |none=>n
def A6X (its:List Itm) (l:List Rf):Nat:=l.foldl (A87 its) 255
def A4S (its:List Itm):List Nat:=its.map (fun it=>A6X its it.sends)
structure FW where
 ds:List Dg
 hv:Option Nat
def FW.tell (s:FW) (f t:Nat) (n:List UInt8):FW:= { s with ds:=s.ds++ [⟨f,t,9,n⟩]}
def FW.hit (s:FW) (at_:Int) (f t n:Nat):FW:=if s.hv=none/\(f:Int)<=at_/\at_<t then { s with hv:=some n} else s
def FW.ask (s:FW) (a b f t:Nat) (n:List UInt8):FW:=if B12 a b=true then s else s.tell f t n
def A3c (its:List Itm) (n:List UInt8):Nat:=match A0Z its 2 n with
 |some j=>(A0q its j).label
 |none=>0
def A4P (its:List Itm) (un:Nat) (n:List UInt8) (f t:Nat) (s:FW):FW:=match A0Z its 2 n with
 |some j=>s.ask un (A6X its (A0q its j).sends) f t n
 |none=>s
def B0b (its:List Itm) (n:List UInt8) (i a f t:Nat) (s:FW):FW:=match A0Z its 2 n with
 |some j=>match (A0q its j).params[i]? with
  |some p=>s.ask a p.label f t p.name
  |none=>s
 |none=>s
mutual
def exF (its:List Itm) (at_:Int) (sc:List Lc) (un:Nat):Ex->FW->Nat×FW
 | .mk k nm _ args f t,s=>
  if k=2 then (A81 sc nm,s.hit at_ f t (A81 sc nm|||un)) else
  if k=3 then ((A4z its at_ sc un args 0 s).1,(A4z its at_ sc un args 0 s).2.hit at_ f t ((A4z its at_ sc un args 0 s).1|||un)) else
  if k=4 then (A3c its nm,(A4P its un nm f t (A3k its at_ sc un nm args 0 s)).hit at_ f t (A3c its nm|||un)) else
  (0,s.hit at_ f t (0|||un))
def A4z (its:List Itm) (at_:Int) (sc:List Lc) (un:Nat):List Ex->Nat->FW->Nat×FW
 | [],n,s=>(n,s)
 |e::es,n,s=>A4z its at_ sc un es (n|||(exF its at_ sc un e s).1) (exF its at_ sc un e s).2
def A3k (its:List Itm) (at_:Int) (sc:List Lc) (un:Nat) (nm:List UInt8):List Ex->Nat->FW->FW
 | [],_,s=>s
 |e::es,i,s=>A3k its at_ sc un nm es (i+1) (B0b its nm i ((exF its at_ sc un e s).1|||un) e.fr e.to (exF its at_ sc un e s).2)
 end
mutual
def A2z (its:List Itm) (sc:List Lc):Ex->Nat
 | .mk k nm _ args _ _=>if k=2 then A81 sc nm else if k=3 then A1T its sc args 0 else if k=4 then A3c its nm else 0
def A1T (its:List Itm) (sc:List Lc):List Ex->Nat->Nat
 | [],n=>n
 |e::es,n=>A1T its sc es (n|||A2z its sc e)
 end
def unF (its:List Itm) (sc:List Lc) (k un:Nat) (e:Ex):Nat:=if k=4 then A2z its sc e|||un else un
def B4l (its:List Itm) (a:Nat) (n:List UInt8) (f t:Nat) (s:FW):FW:=match A0Z its 1 n with
 |some j=>s.ask a (A0q its j).label f t n
 |none=>s
mutual
def A8i (its:List Itm) (own:Nat) (at_:Int):Stm->List Lc->Nat->FW->List Lc×FW
 | .mk k nm _ lb o e thn els f t,sc,un,s=>
  let un1:=unF its sc k un e
  let r:=exF its at_ sc un1 e s
  let a:=r.1|||un1
  if k=1 then (sc++ [⟨nm,if o=true then a else lb⟩],r.2.ask a (if o=true then a else lb) f t nm) else
  if k=2 then (sc,r.2.ask a (A81 sc nm) f t nm) else
  if k=5 then (sc,B4l its a nm f t r.2) else
  if k=6 then (sc,r.2.ask a own f t nm) else
  if k=3\/k=4 then (sc,(A1D its own at_ els sc a (A1D its own at_ thn sc a r.2).2).2) else (sc,r.2)
def A1D (its:List Itm) (own:Nat) (at_:Int):List Stm->List Lc->Nat->FW->List Lc×FW
 | [],sc,_,s=>(sc,s)
 |x::xs,sc,un,s=>A1D its own at_ xs (A8i its own at_ x sc un s).1 un (A8i its own at_ x sc un s).2
 end
def FW0:FW:=⟨[],none⟩
def A6K (l:List Par):List Lc:=l.map (fun p=>⟨p.name,p.label⟩)
def A3d (its:List Itm) (i:Nat) (at_:Int):FW:=
 if (A0q its i).kind=2 then (A1D its (A0q its i).label at_ (A0q its i).body (A6K (A0q its i).params) 0 FW0).2 else FW0
theorem B7L (its:List Itm) (at_:Int) (sc:List Lc) (un:Nat):∀(l r:List Ex) (n:Nat) (s:FW),A4z its at_ sc un (l++r) n s=A4z its at_ sc un r (A4z its at_ sc un l n s).1 (A4z its at_ sc un l n s).2
 | [],r,n,s=>by rw[P7,A4z]
 |e::l,r,n,s=>by rw[X8,A4z,A4z,B7L its at_ sc un l r]
theorem C1V (its:List Itm) (at_:Int) (sc:List Lc) (un:Nat) {l:List Ex}{k:Nat}{e:Ex} (h:l[k]?=some e) (n:Nat) (s:FW):
  A4z its at_ sc un (l.take (k+1)) n s=((A4z its at_ sc un (l.take k) n s).1|||(exF its at_ sc un e (A4z its at_ sc un (l.take k) n s).2).1,(exF its at_ sc un e (A4z its at_ sc un (l.take k) n s).2).2):=by
 rw[Q9 h,B7L,A4z,A4z]
theorem B4k (its:List Itm) (at_:Int) (sc:List Lc) (un:Nat) (nm:List UInt8):∀(l r:List Ex) (i:Nat) (s:FW),A3k its at_ sc un nm (l++r) i s=A3k its at_ sc un nm r (i+l.length) (A3k its at_ sc un nm l i s)
 | [],r,i,s=>by rw[P7,A3k];rfl
 |e::l,r,i,s=>by rw[X8,A3k,A3k,B4k its at_ sc un nm l r,F9,show i+1+l.length=i+(l.length+1) by omega]
theorem B8D (its:List Itm) (at_:Int) (sc:List Lc) (un:Nat) (nm:List UInt8) {l:List Ex}{k:Nat}{e:Ex} (h:l[k]?=some e) (s:FW):
  A3k its at_ sc un nm (l.take (k+1)) 0 s=B0b its nm k ((exF its at_ sc un e (A3k its at_ sc un nm (l.take k) 0 s)).1|||un) e.fr e.to (exF its at_ sc un e (A3k its at_ sc un nm (l.take k) 0 s)).2:=by
 have hk:=(A0w.1 h).1;rw[Q9 h,B4k,A3k,A3k,P8,A1f (by omega),W9]
theorem B17 (its:List Itm) (sc:List Lc):∀(l r:List Ex) (n:Nat),A1T its sc (l++r) n=A1T its sc r (A1T its sc l n)
 | [],r,n=>by rw[P7,A1T]
 |e::l,r,n=>by rw[X8,A1T,A1T,B17 its sc l r]
theorem B0Z (its:List Itm) (sc:List Lc) {l:List Ex}{k:Nat}{e:Ex} (h:l[k]?=some e) (n:Nat):A1T its sc (l.take (k+1)) n=A1T its sc (l.take k) n|||A2z its sc e:=by
 rw[Q9 h,B17,A1T,A1T]
theorem B5c (its:List Itm) (own:Nat) (at_:Int):∀(l r:List Stm) (sc:List Lc) (un:Nat) (s:FW),A1D its own at_ (l++r) sc un s=A1D its own at_ r (A1D its own at_ l sc un s).1 un (A1D its own at_ l sc un s).2
 | [],r,sc,un,s=>by rw[P7,A1D]
 |e::l,r,sc,un,s=>by rw[X8,A1D,A1D,B5c its own at_ l r]
theorem B9R (its:List Itm) (own:Nat) (at_:Int) {l:List Stm}{k:Nat}{x:Stm} (h:l[k]?=some x) (sc:List Lc) (un:Nat) (s:FW):
  A1D its own at_ (l.take (k+1)) sc un s=A8i its own at_ x (A1D its own at_ (l.take k) sc un s).1 un (A1D its own at_ (l.take k) sc un s).2:=by
 rw[Q9 h,B5c,A1D,A1D]
theorem B3k (s:FW) (at_:Int) (f t n:Nat):(s.hit at_ f t n).ds=s.ds:=by rw[FW.hit];split<;>rfl
theorem B4m (s:FW) (a b f t:Nat) (n:List UInt8):s.ds.length<=(s.ask a b f t n).ds.length/\(s.ask a b f t n).ds.length<=s.ds.length+1:=by
 rw[FW.ask];split
 ·omega
 ·simp[FW.tell]
theorem B8F (its:List Itm) (un:Nat) (n:List UInt8) (f t:Nat) (s:FW):s.ds.length<=(A4P its un n f t s).ds.length/\(A4P its un n f t s).ds.length<=s.ds.length+1:=by
 rw[A4P];split
 ·exact B4m _ _ _ _ _ _
 ·omega
theorem C5g (its:List Itm) (a:Nat) (n:List UInt8) (f t:Nat) (s:FW):s.ds.length<=(B4l its a n f t s).ds.length/\(B4l its a n f t s).ds.length<=s.ds.length+1:=by
 rw[B4l];split
 ·exact B4m _ _ _ _ _ _
 ·omega
theorem C2H (its:List Itm) (n:List UInt8) (i a f t:Nat) (s:FW):s.ds.length<=(B0b its n i a f t s).ds.length/\(B0b its n i a f t s).ds.length<=s.ds.length+1:=by
 rw[B0b];split
 ·split
  ·exact B4m _ _ _ _ _ _
  ·omega
 ·omega
mutual
theorem B4w (its:List Itm) (at_:Int) (sc:List Lc) (un:Nat):∀(e:Ex) (s:FW),s.ds.length<=(exF its at_ sc un e s).2.ds.length/\(exF its at_ sc un e s).2.ds.length+1<=s.ds.length+2 *e.cnt
 | .mk k nm n args f t,s=>by
  rw[exF,Ex.cnt];have h1:=B9w its at_ sc un args 0 s;have h2:=B2v its at_ sc un nm args 0 s;have h3:=B8F its un nm f t (A3k its at_ sc un nm args 0 s);split
  ·dsimp only;rw[B3k];omega
  ·split
   ·dsimp only;rw[B3k];omega
   ·split
    ·dsimp only;rw[B3k];omega
    ·dsimp only;rw[B3k];omega
theorem B9w (its:List Itm) (at_:Int) (sc:List Lc) (un:Nat):∀(l:List Ex) (n:Nat) (s:FW),s.ds.length<=(A4z its at_ sc un l n s).2.ds.length/\(A4z its at_ sc un l n s).2.ds.length<=s.ds.length+2 *A02 l
 | [],n,s=>by rw[A4z,A02];exact⟨by dsimp only;omega,by dsimp only;omega⟩
 |e::l,n,s=>by
  rw[A4z,A02];have h1:=B4w its at_ sc un e s;have h2:=B9w its at_ sc un l (n|||(exF its at_ sc un e s).1) (exF its at_ sc un e s).2;omega
theorem B2v (its:List Itm) (at_:Int) (sc:List Lc) (un:Nat) (nm:List UInt8):∀(l:List Ex) (i:Nat) (s:FW),s.ds.length<=(A3k its at_ sc un nm l i s).ds.length/\(A3k its at_ sc un nm l i s).ds.length<=s.ds.length+2 *A02 l
 | [],i,s=>by rw[A3k,A02];omega
 |e::l,i,s=>by
  rw[A3k,A02];have h1:=B4w its at_ sc un e s;have h3:=C2H its nm i ((exF its at_ sc un e s).1|||un) e.fr e.to (exF its at_ sc un e s).2;have h2:=B2v its at_ sc un nm l (i+1) (B0b its nm i ((exF its at_ sc un e s).1|||un) e.fr e.to (exF its at_ sc un e s).2);omega
 end
mutual
theorem C7Z (its:List Itm) (own:Nat) (at_:Int):∀(x:Stm) (sc:List Lc) (un:Nat) (s:FW),s.ds.length<=(A8i its own at_ x sc un s).2.ds.length/\(A8i its own at_ x sc un s).2.ds.length<=s.ds.length+2 *x.cnt/\
   sc.length<=(A8i its own at_ x sc un s).1.length/\(A8i its own at_ x sc un s).1.length<=sc.length+1
 | .mk k nm a lb o e thn els f t,sc,un,s=>by
  rw[A8i,Stm.cnt];try dsimp only
  generalize unF its sc k un e=un1;have h1:=B4w its at_ sc un1 e s;generalize exF its at_ sc un1 e s=r at h1 |-;have h2:=B4m r.2 (r.1|||un1) (if o=true then r.1|||un1 else lb) f t nm;have h3:=B4m r.2 (r.1|||un1) (A81 sc nm) f t nm;have h4:=B4m r.2 (r.1|||un1) own f t nm;have h5:=C5g its (r.1|||un1) nm f t r.2;have h6:=A8k its own at_ thn sc (r.1|||un1) r.2;have h7:=A8k its own at_ els sc (r.1|||un1) (A1D its own at_ thn sc (r.1|||un1) r.2).2;split
  ·dsimp only;rw[E9,A1s];omega
  ·split
   ·dsimp only;omega
   ·split
    ·dsimp only;omega
    ·split
     ·dsimp only;omega
     ·split
      ·dsimp only;omega
      ·dsimp only;omega
theorem A8k (its:List Itm) (own:Nat) (at_:Int):∀(l:List Stm) (sc:List Lc) (un:Nat) (s:FW),s.ds.length<=(A1D its own at_ l sc un s).2.ds.length/\(A1D its own at_ l sc un s).2.ds.length<=s.ds.length+2 *Q3 l/\
   sc.length<=(A1D its own at_ l sc un s).1.length/\(A1D its own at_ l sc un s).1.length<=sc.length+l.length
 | [],sc,un,s=>by rw[A1D,Q3];exact⟨by dsimp only;omega,by dsimp only;omega,by dsimp only;omega,by dsimp only;simp⟩
 |x::l,sc,un,s=>by
  rw[A1D,Q3,F9];have h1:=C7Z its own at_ x sc un s;have h2:=A8k its own at_ l (A8i its own at_ x sc un s).1 un (A8i its own at_ x sc un s).2;omega
 end
theorem C4F (its:List Itm) (own:Nat) (at_:Int) (x:Stm) (sc:List Lc) (un:Nat) (s:FW):sc<+:(A8i its own at_ x sc un s).1:=by
 cases x with
 |mk k nm a lb o e thn els f t=>
 rw[A8i];try dsimp only
 split
 ·exact List.prefix_append _ _
 ·split
  ·exact A2r _
  ·split
   ·exact A2r _
   ·split
    ·exact A2r _
    ·split<;>exact A2r _
theorem B5e (its:List Itm) (own:Nat) (at_:Int):∀(l:List Stm) (sc:List Lc) (un:Nat) (s:FW),sc<+:(A1D its own at_ l sc un s).1
 | [],sc,un,s=>by rw[A1D];exact A2r _
 |x::l,sc,un,s=>by rw[A1D];exact(C4F its own at_ x sc un s).trans (B5e its own at_ l _ _ _)
theorem B9Q (its:List Itm) (own:Nat) (at_:Int) (l:List Stm) (sc:List Lc) (un:Nat) (s:FW):(A1D its own at_ l sc un s).1.take sc.length=sc:=
 (List.prefix_iff_eq_take.1 (B5e its own at_ l sc un s)).symm
def A4J (sc:List Lc):Prop:= ∀l∈sc,l.at_<256
def A28 (its:List Itm):Prop:= ∀it∈its,it.label<256/\∀p∈it.params,p.label<256
theorem B5y {sc:List Lc} (h:A4J sc) (n:List UInt8):A81 sc n<256:=by
 rw[A81];split
 ·rename_i l hl
  exact h l (A7G hl).1
 ·omega
theorem A2B {its:List Itm}{k:Int}{n:List UInt8}{j:Nat} (h:A0Z its k n=some j):j<its.length/\((A0q its j).kind:Int)=k/\(A0q its j).name=n/\n≠ []/\A0q its j∈its:=by
 obtain⟨h1,h2,_⟩:=A2n.1 h;have e:A0q its j=its[j]:=by rw[A0q,O4,G6 h1];rfl
 rw[e];simp only[C3A,V3,decide_eq_true_eq]at h2;exact⟨h1,h2.1,h2.2.1,h2.2.2,O5 h1⟩
theorem B20 {its:List Itm} (h:A28 its) (n:List UInt8):A3c its n<256:=by
 rw[A3c];split
 ·rename_i j hj
  exact(h _ (A2B hj).2.2.2.2).1
 ·omega
mutual
theorem B1p {its:List Itm} (h:A28 its) (at_:Int) {sc:List Lc} (hs:A4J sc) (un:Nat):∀(e:Ex) (s:FW),(exF its at_ sc un e s).1<256
 | .mk k nm n args f t,s=>by
  rw[exF];split
  ·exact B5y hs _
  ·split
   ·exact B5V h at_ hs un args 0 s (by omega)
   ·split
    ·exact B20 h _
    ·dsimp only;omega
theorem B5V {its:List Itm} (h:A28 its) (at_:Int) {sc:List Lc} (hs:A4J sc) (un:Nat):∀(l:List Ex) (n:Nat) (s:FW),n<256->(A4z its at_ sc un l n s).1<256
 | [],n,s,hn=>by rw[A4z];exact hn
 |e::l,n,s,hn=>by rw[A4z];exact B5V h at_ hs un l _ _ (A9Y hn (B1p h at_ hs un e s))
 end
mutual
theorem A4I {its:List Itm} (h:A28 its) {sc:List Lc} (hs:A4J sc):∀(e:Ex),A2z its sc e<256
 | .mk k nm n args f t=>by
  rw[A2z];split
  ·exact B5y hs _
  ·split
   ·exact A76 h hs args 0 (by omega)
   ·split
    ·exact B20 h _
    ·omega
theorem A76 {its:List Itm} (h:A28 its) {sc:List Lc} (hs:A4J sc):∀(l:List Ex) (n:Nat),n<256->A1T its sc l n<256
 | [],n,hn=>by rw[A1T];exact hn
 |e::l,n,hn=>by rw[A1T];exact A76 h hs l _ (A9Y hn (A4I h hs e))
 end
theorem B7A (its:List Itm) (l:List Rf):A6X its l<256:=by
 have key:∀(l:List Rf) (n:Nat),n<256->l.foldl (A87 its) n<256:=by
  intro l;induction l with
  |nil=>intro n h;exact h
  |cons x l ih=>
   intro n h;rw[A1e];refine ih _ ?_
   rw[A87];split
   ·exact C2E h
   ·exact h
 exact key l 255 (by omega)
theorem C4O {its:List Itm} (h:A28 its) {sc:List Lc} (hs:A4J sc) (k:Nat) {un:Nat} (hu:un<256) (e:Ex):unF its sc k un e<256:=by
 rw[unF];split
 ·exact A9Y (A4I h hs e) hu
 ·exact hu
theorem B9M {sc:List Lc} (h:A4J sc) {n:List UInt8}{a:Nat} (ha:a<256):A4J (sc++ [⟨n,a⟩]):=fun l hl=>by
 rcases A0d.1 hl with hl|hl
 ·exact h l hl
 ·obtain rfl:=A0B.1 hl
  exact ha
theorem C4E {its:List Itm} (h:A28 its) (own:Nat) (at_:Int) (x:Stm) {sc:List Lc} (hs:A4J sc) {un:Nat} (hu:un<256) (hx:x.label<256) (s:FW):A4J (A8i its own at_ x sc un s).1:=by
 cases x with
 |mk k nm a lb o e thn els f t=>
 rw[A8i];try dsimp only
 have h1:=C4O h hs k hu e;generalize unF its sc k un e=un1 at h1 |-;have h2:=B1p h at_ hs un1 e s;split
 ·refine B9M hs ?_
  split
  ·exact A9Y h2 h1
  ·exact hx
 ·split
  ·exact hs
  ·split
   ·exact hs
   ·split
    ·exact hs
    ·split<;>exact hs
theorem C1X {its:List Itm} (h:A28 its) {it:Itm} (hi:it∈its):A4J (A6K it.params):=fun l hl=>by
 obtain⟨p,hp,rfl⟩:=A0y.1 hl;exact(h it hi).2 p hp
def w64 (n:Int):Int:=(n+9223372036854775808) % 18446744073709551616-9223372036854775808
structure Cl where
 name:List UInt8
 n:Int
structure Ev where
 ch:List UInt8
 n:Int
 deriving DecidableEq
structure MR where
 ev:List Ev
 steps:Nat
 err:Nat
def MR.go (m:MR):Bool:=decide (m.err=0) && decide (m.steps<3000)
def MR.step (m:MR):MR:=if m.err≠0 then m else if m.steps<3000 then { m with steps:=m.steps+1} else { m with err:=11}
def A7a:List Cl->List UInt8->Option Nat
 | [],_=>none
 |c::sc,n=>match A7a sc n with
  |some i=>some (i+1)
  |none=>if c.name=n then some 0 else none
def C7m (sc:List Cl) (n:List UInt8):Int:=match A7a sc n with
 |some i=>(sc.getD i ⟨[],0⟩).n
 |none=>0
def C4v (sc:List Cl) (n:List UInt8) (v:Int):List Cl:=match A7a sc n with
 |some i=>sc.set i ⟨(sc.getD i ⟨[],0⟩).name,v⟩
 |none=>sc
def opR (nm:List UInt8) (a b:Int):Int:=
 if nm= [43] then w64 (a+b) else if nm= [45] then w64 (a-b) else if nm= [42] then w64 (a *b) else
 if nm= [60] then (if a<b then 1 else 0) else if a=b then 1 else 0
abbrev A6i:=List UInt8->List Int->MR->Int×MR
mutual
def exR (C:A6i) (sc:List Cl):Ex->MR->Int×MR
 | .mk k nm n args _ _,m=>
  if m.go=false then (0,m.step) else
  if k=1 then ((n:Int),m.step) else
  if k=2 then (C7m sc nm,m.step) else
  if k=3 then (opR nm ((A2Z C sc args m.step).1.getD 0 0) ((A2Z C sc args m.step).1.getD 1 0),(A2Z C sc args m.step).2) else
  C nm (A2Z C sc args m.step).1 (A2Z C sc args m.step).2
def A2Z (C:A6i) (sc:List Cl):List Ex->MR->List Int×MR
 | [],m=>([],m)
 |e::es,m=>((exR C sc e m).1::(A2Z C sc es (exR C sc e m).2).1,(A2Z C sc es (exR C sc e m).2).2)
 end
structure SR where
 sc:List Cl
 back:Int
 m:MR
def A8z (f:List Cl->MR->Int×MR) (b:SR->SR):Nat->SR->SR
 |0,s=>s
 |k+1,s=>
  if s.m.go=false then { s with m:=s.m.step} else
  if (f s.sc s.m.step).1≠0/\(f s.sc s.m.step).2.err=0 then A8z f b k (b { s with m:=(f s.sc s.m.step).2}) else { s with m:=(f s.sc s.m.step).2}
def A8C (n:Nat) (r:SR×Bool):SR:=if r.2=true then { r.1 with sc:=r.1.sc.take n} else r.1
mutual
def B8c (C:A6i):Stm->SR->SR
 | .mk k nm _ _ _ e thn els _ _,s=>
  if k=4 then A8z (fun sc m=>exR C sc e m) (fun s=>A8C s.sc.length (goR C thn s)) 3001 s else
  if s.m.go=false then { s with m:=s.m.step} else
  if (exR C s.sc e s.m.step).2.err≠0 then { s with m:=(exR C s.sc e s.m.step).2} else
  if k=1 then { s with sc:=s.sc++ [⟨nm,(exR C s.sc e s.m.step).1⟩],m:=(exR C s.sc e s.m.step).2} else
  if k=2 then { s with sc:=C4v s.sc nm (exR C s.sc e s.m.step).1,m:=(exR C s.sc e s.m.step).2} else
  if k=5 then { s with m:= { (exR C s.sc e s.m.step).2 with ev:=(exR C s.sc e s.m.step).2.ev++ [⟨nm,(exR C s.sc e s.m.step).1⟩]}} else
  if k=6 then { s with back:=(exR C s.sc e s.m.step).1,m:=(exR C s.sc e s.m.step).2} else
  if k=3 then
   if (exR C s.sc e s.m.step).1≠0 then A8C s.sc.length (goR C thn { s with m:=(exR C s.sc e s.m.step).2})
   else A8C s.sc.length (goR C els { s with m:=(exR C s.sc e s.m.step).2})
  else { s with m:=(exR C s.sc e s.m.step).2}
def goR (C:A6i):List Stm->SR->SR×Bool
 | [],s=>(s,true)
 |x::xs,s=>if s.m.err≠0 then (s,false) else goR C xs (B8c C x s)
 end
def A8E (C:A6i) (l:List Stm) (s:SR):SR:=A8C s.sc.length (goR C l s)
def A7w (l:List Par) (args:List Int):List Cl:=List.zipWith (fun p n=>⟨p.name,n⟩) l args
def A51 (its:List Itm):Nat->A6i
 |0,_,_,m=>(0,if m.err≠0 then m else { m with err:=12})
 |d+1,nm,args,m=>
  if m.err≠0 then (0,m) else
  match A0Z its 2 nm with
  |none=>(0,m)
  |some j=>((A8E (A51 its d) (A0q its j).body ⟨A7w (A0q its j).params args,0,m⟩).back,(A8E (A51 its d) (A0q its j).body ⟨A7w (A0q its j).params args,0,m⟩).m)
structure Rn where
 ev:List Ev
 n:Int
 err:Nat
 steps:Nat
def MR0:MR:=⟨[],0,0⟩
end Go.Sp
