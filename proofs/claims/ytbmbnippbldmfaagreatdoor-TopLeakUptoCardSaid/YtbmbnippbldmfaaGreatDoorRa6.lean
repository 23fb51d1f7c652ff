/- Own work. -/
import Derived.Test.YtbmbnippbldmfaaGreatDoorRa5
import Derived.Lib.ItoaLen
set_option maxHeartbeats 64000000
namespace Go.Sp
mutual
def Ex.small:Ex->Prop
 | .mk _ _ _ args _ _=>args.length<=64/\A2g args
def A2g:List Ex->Prop
 | []=>True
 |e::es=>e.small/\A2g es
 end
mutual
def Stm.small:Stm->Prop
 | .mk _ _ _ _ _ e thn els _ _=>e.small/\thn.length<=64/\A0j thn/\els.length<=64/\A0j els
def A0j:List Stm->Prop
 | []=>True
 |e::es=>e.small/\A0j es
 end
theorem B3b:∀ {l:List Ex}{e:Ex},A2g l->e.small->A2g (l++ [e])
 | [],e,_,h=>by rw[L9,A2g,A2g];exact⟨h,trivial⟩
 |a::l,e,h,he=>by
  rw[A2g]at h;rw[Q8,A2g];exact⟨h.1,B3b h.2 he⟩
theorem B2n:∀ {l:List Stm}{e:Stm},A0j l->e.small->A0j (l++ [e])
 | [],e,_,h=>by rw[L9,A0j,A0j];exact⟨h,trivial⟩
 |a::l,e,h,he=>by
  rw[A0j]at h;rw[Q8,A0j];exact⟨h.1,B2n h.2 he⟩
theorem A2m:∀ {l:List Ex}{i:Nat}{e:Ex},A2g l->l[i]?=some e->e.small
 | [],_,_,_,h=>by simp at h
 |a::l,0,e,h,he=>by
  rw[A2g]at h;simp only[A08,X4]at he;exact he ▸ h.1
 |a::l,i+1,e,h,he=>by
  rw[A2g]at h;exact A2m h.2 (by simpa using he)
theorem A1W:∀ {l:List Stm}{i:Nat}{e:Stm},A0j l->l[i]?=some e->e.small
 | [],_,_,_,h=>by simp at h
 |a::l,0,e,h,he=>by
  rw[A0j]at h;simp only[A08,X4]at he;exact he ▸ h.1
 |a::l,i+1,e,h,he=>by
  rw[A0j]at h;exact A1W h.2 (by simpa using he)
theorem A48 (k n f t:Nat) (nm:List UInt8):(Ex.mk k nm n [] f t).small:=by rw[Ex.small,A2g];exact⟨by simp,trivial⟩
theorem B8i (T:Src):∀f,(∀d s,(A3W T f d s).1.small)/\(∀d l s,l.length<=5->A2g l->(A5h T f d l s).1.length<=5/\A2g (A5h T f d l s).1)/\(∀d m s,(A1b T f d m s).1.small)/\(∀d m e s,Ex.small e->(opL T f d m e s).1.small)
 |0=>⟨fun _ _=>by rw[A3W];exact A48 _ _ _ _ _,fun _ _ _ h1 h2=>by rw[A5h];exact⟨h1,h2⟩,fun _ _ _=>by rw[A1b];exact A48 _ _ _ _ _,fun _ _ _ _ h=>by rw[opL];exact h⟩
 |f+1=>by
  obtain⟨hA,hL,hE,hO⟩:=B8i T f;refine⟨fun d s=>?_,fun d l s h1 h2=>?_,fun d m s=>?_,fun d m e s h=>?_⟩
  ·rw[A3W]
   dsimp only
   split
   ·exact A48 _ _ _ _ _
   ·split
    ·exact A48 _ _ _ _ _
    ·split
     ·split<;>exact A48 _ _ _ _ _
     ·split
      ·exact hE _ _ _
      ·split
       ·exact A48 _ _ _ _ _
       ·split
        ·exact A48 _ _ _ _ _
        ·have:=hL (d+1) [] s.next.next (by simp) (by rw[A2g];trivial)
         rw[Ex.small];exact⟨by omega,this.2⟩
  ·rw[A5h]
   split
   ·exact⟨h1,h2⟩
   ·split
    ·exact⟨h1,h2⟩
    ·rename_i h5
     have hs:=B3b h2 (hE d 1 s);have hl:(l++ [(A1b T f d 1 s).1]).length<=5:=by simp;omega
     try dsimp only
     split
     ·exact hL _ _ _ hl hs
     ·exact⟨hl,hs⟩
  ·rw[A1b]
   try dsimp only
   exact hO _ _ _ _ (hA _ _)
  ·rw[opL]
   try dsimp only
   split
   ·exact h
   ·refine hO _ _ _ _ ?_
    rw[Ex.small,A2g,A2g,A2g];exact⟨by simp,h,hE _ _ _,trivial⟩
theorem A3p:A0j []:=by rw[A0j];trivial
theorem B07 (k a lb f t:Nat) (o:Bool) (nm:List UInt8) (e:Ex) (h:e.small):(Stm.mk k nm a lb o e [] [] f t).small:=by
 rw[Stm.small];exact⟨h,by simp,A3p,by simp,A3p⟩
theorem B2j (T:Src):∀f,(∀d s,(block T f d s).1.length<=40/\A0j (block T f d s).1)/\(∀d l s,l.length<=40->A0j l->(A5U T f d l s).1.length<=40/\A0j (A5U T f d l s).1)/\(∀d s,(stm T f d s).1.small)
 |0=>⟨fun _ _=>by rw[block];exact⟨by simp,A3p⟩,fun _ _ _ h1 h2=>by rw[A5U];exact⟨h1,h2⟩,fun _ s=>by rw[stm];exact B07 _ _ _ _ _ _ _ _ (A48 _ _ _ _ _)⟩
 |f+1=>by
  obtain⟨hB,hL,hS⟩:=B2j T f;have hE:=(B8i T f).2.2.1;refine⟨fun d s=>?_,fun d l s h1 h2=>?_,fun d s=>?_⟩
  ·rw[block]
   split
   ·exact⟨by simp,A3p⟩
   ·split
    ·exact⟨by simp,A3p⟩
    ·dsimp only
     exact hL _ _ _ (by simp) A3p
  ·rw[A5U]
   split
   ·exact⟨h1,h2⟩
   ·split
    ·exact⟨h1,h2⟩
    ·dsimp only
     exact hL _ _ _ (by simp;omega) (B2n h2 (hS d s))
  ·rw[stm]
   dsimp only
   have two:∀(k a lb f t:Nat) (o:Bool) (nm:List UInt8) (e:Ex) (b c:List Stm),e.small->b.length<=40/\A0j b->c.length<=40/\A0j c->(Stm.mk k nm a lb o e b c f t).small:=fun k a lb f t o nm e b c h1 h2 h3=>by
    rw[Stm.small];exact⟨h1,by omega,h2.2,by omega,h3.2⟩
   have nil2:([]:List Stm).length<=40/\A0j []:=⟨by simp,A3p⟩;repeat' split
   all_goals first
    |exact B07 _ _ _ _ _ _ _ _ (hE _ _ _)
    |exact two _ _ _ _ _ _ _ _ _ _ (hE _ _ _) (hB _ _) (hB _ _)
    |exact two _ _ _ _ _ _ _ _ _ _ (hE _ _ _) (hB _ _) nil2
    |exact B07 _ _ _ _ _ _ _ _ (A48 _ _ _ _ _)
theorem B2c (T:Src):∀(f:Nat) (l:List Par) (s:St),l.length<=5->(A52 T f l s).1.length<=5/\(s.i<=T.l.length->s.i<=(A52 T f l s).2.i/\(A52 T f l s).2.i<=T.l.length/\(A52 T f l s).2.ds.length<=s.ds.length+2 *((A52 T f l s).2.i-s.i)+3 *f)
 |0,l,s,h=>by rw[A52];exact⟨h,fun hi=>⟨H7 _,hi,by dsimp only;omega⟩⟩
 |f+1,l,s,h=>by
  rw[A52];split
  ·exact⟨h,fun hi=>⟨H7 _,hi,by dsimp only;omega⟩⟩
  ·split
   ·exact⟨h,fun hi=>⟨H7 _,hi,by simp[St.bad];omega⟩⟩
   ·dsimp only
    have g1:=A2h T s;have g2:=A1k T (s.named T).2 [58];have g3:=A5i T ((s.named T).2.need T [58]).2;have a1:=g1.le;have a2:=g1.top;have a3:=g1.ds;have b1:=g2.le;have b2:=g2.top;have b3:=g2.ds;have c1:=g3.le;have c2:=g3.top;have c3:=g3.ds;split
    ·exact⟨h,fun hi=>⟨by dsimp only;omega,b2 (a2 hi),by dsimp only;omega⟩⟩
    ·split
     ·rename_i h5
      have h6:=A22 h5;have ih:=B2c T f (l++ [⟨(s.named T).1,(lab T ((s.named T).2.need T [58]).2).1,(T.tok s.i).pos⟩]) (lab T ((s.named T).2.need T [58]).2).2.next (by simp;omega);refine⟨ih.1,fun hi=>?_⟩
      have e1:(lab T ((s.named T).2.need T [58]).2).2.next.i=(lab T ((s.named T).2.need T [58]).2).2.i+1:=rfl;have e2:(lab T ((s.named T).2.need T [58]).2).2.next.ds.length=(lab T ((s.named T).2.need T [58]).2).2.ds.length:=rfl;obtain⟨i1,i2,i3⟩:=ih.2 (by omega);exact⟨by omega,i2,by omega⟩
     ·exact⟨by simp;omega,fun hi=>⟨by dsimp only;omega,c2 (b2 (a2 hi)),by dsimp only;omega⟩⟩
theorem B2k (T:Src):∀(f:Nat) (l:List Rf) (s:St),l.length<=5->(A5T T f l s).1.length<=5/\(s.i<=T.l.length->s.i<=(A5T T f l s).2.i/\(A5T T f l s).2.i<=T.l.length/\(A5T T f l s).2.ds.length<=s.ds.length+2 *((A5T T f l s).2.i-s.i)+3 *f)
 |0,l,s,h=>by rw[A5T];exact⟨h,fun hi=>⟨H7 _,hi,by dsimp only;omega⟩⟩
 |f+1,l,s,h=>by
  rw[A5T];split
  ·exact⟨h,fun hi=>⟨H7 _,hi,by simp[St.bad];omega⟩⟩
  ·dsimp only
   have g1:=A2h T s;have a1:=g1.le;have a2:=g1.top;have a3:=g1.ds;split
   ·rename_i h5
    have h6:=A22 h5;have ih:=B2k T f (l++ [⟨(s.named T).1,(T.tok s.i).pos⟩]) (s.named T).2.next (by simp;omega);refine⟨ih.1,fun hi=>?_⟩
    have e1:(s.named T).2.next.i=(s.named T).2.i+1:=rfl;have e2:(s.named T).2.next.ds.length=(s.named T).2.ds.length:=rfl;obtain⟨i1,i2,i3⟩:=ih.2 (by omega);exact⟨by omega,i2,by omega⟩
   ·exact⟨by simp;omega,fun hi=>⟨by dsimp only;omega,a2 hi,by dsimp only;omega⟩⟩
structure Itm.small (it:Itm):Prop where
 params:it.params.length<=5
 sends:it.sends.length<=5
 body:it.body.length<=40
 stms:A0j it.body
 diags:it.diags.length<=40000000
theorem C2K (T:Src) (at_:Int) (size:Nat) (s:St) (hT:T.l.length<=1048576) (hi:s.i<=T.l.length) (hd:s.ds= []):
  (A7Z T at_ size s).1.params.length<=5/\(A7Z T at_ size s).1.sends.length<=5/\(A7Z T at_ size s).1.body.length<=40/\A0j (A7Z T at_ size s).1.body/\(A7Z T at_ size s).2.ds.length<=39000000:=by
 rw[A7Z];dsimp only
 have g1:=A2h T s;generalize s.named T=r at g1 |-;have g2:=A1k T r.2 [40];generalize r.2.need T [40]=s1 at g2 |-;have p:=B2c T 6 [] s1.2 (by simp);generalize A52 T 6 [] s1.2=r2 at p |-;have g3:=A1k T r2.2 [41];generalize r2.2.need T [41]=s3 at g3 |-;have g4:=A1k T s3.2 [58];generalize s3.2.need T [58]=s4 at g4 |-;have g5:=A5i T s4.2;generalize lab T s4.2=r5 at g5 |-;have hd0:s.ds.length=0:=by rw[hd];rfl
 have a2:=g1.top hi;have a3:=g1.ds;have a1:=g1.le;have b2:=g2.top a2;have b3:=g2.ds;have b1:=g2.le;obtain⟨p1,p2⟩:=p;obtain⟨p3,p4,p5⟩:=p2 b2;have c2:=g3.top p4;have c3:=g3.ds;have c1:=g3.le;have d2:=g4.top c2;have d3:=g4.ds;have d1:=g4.le;have e2:=g5.top d2;have e3:=g5.ds;have e1:=g5.le;have q:∀r6:List Rf×St,r6=(if T.is r5.2.i [115,101,110,100,115]=true then A5T T 6 [] r5.2.next else ([],r5.2))->r6.1.length<=5/\r6.2.i<=T.l.length/\r6.2.ds.length<=r5.2.ds.length+2 *(T.l.length)+18:=fun r6 h=>by
  by_cases hs:T.is r5.2.i [115,101,110,100,115]=true
  ·rw[if_pos hs]at h
   have hlt:=A22 hs;have q:=B2k T 6 [] r5.2.next (by simp);have f1:r5.2.next.i=r5.2.i+1:=rfl;have f2:r5.2.next.ds.length=r5.2.ds.length:=rfl;obtain⟨q3,q4,q5⟩:=q.2 (by omega);rw[h];exact⟨q.1,q4,by omega⟩
  ·rw[if_neg hs]at h
   rw[h];exact⟨by simp,e2,by dsimp only;omega⟩
 obtain⟨r6,h6⟩:∃r6,r6=(if T.is r5.2.i [115,101,110,100,115]=true then A5T T 6 [] r5.2.next else ([],r5.2)):=⟨_,rfl⟩;obtain⟨q1,q2,q3⟩:=q r6 h6;rw[<-h6];have hb:=(B2j T (A8s T)).1 0 r6.2;have gb:=(A3j T (A8s T)).1 0 r6.2;have h1:=gb.ds;have h2:=gb.top q2;exact⟨p1,q1,hb.1,hb.2,by omega⟩
theorem C2T (T:Src) (at_:Int) (size:Nat) (hT:T.l.length<=1048576):
  (A6t T at_ size).1.params.length<=5/\(A6t T at_ size).1.sends.length<=5/\(A6t T at_ size).1.body.length<=40/\A0j (A6t T at_ size).1.body/\(A6t T at_ size).2.ds.length<=39000000:=by
 rw[A6t];split
 ·rename_i h
  exact C2K T at_ size ⟨1,[]⟩ hT (A22 h) rfl
 ·split
  ·rename_i h
   have hlt:=A22 h;rw[B29];dsimp only
   have g1:=A2h T ⟨1,[]⟩;generalize (⟨1,[]⟩:St).named T=r at g1 |-;have g2:=A1k T r.2 [58];generalize r.2.need T [58]=s1 at g2 |-;have g3:=A5i T s1.2;generalize lab T s1.2=r2 at g3 |-;have g4:=A1k T r2.2 [59];generalize r2.2.need T [59]=s3 at g4 |-;have a2:=g1.top hlt;have a3:=g1.ds;have a1:=g1.le;have b2:=g2.top a2;have b3:=g2.ds;have b1:=g2.le;have c2:=g3.top b2;have c3:=g3.ds;have c1:=g3.le;have d2:=g4.top c2;have d3:=g4.ds;have d1:=g4.le;dsimp only[List.length_nil]at a1 a3;exact⟨by simp,by simp,by simp,A3p,by omega⟩
  ·exact⟨by simp,by simp,by simp,A3p,by simp[St.bad]⟩
theorem A6G (src:List UInt8) (at_:Int) (h:src.length<=1048576):(item src at_).small:=by
 have hl:=A8f src;rw[A9r];have hT:(Src.mk (Q5 src) src.length).l.length<=1048576:=by dsimp only;omega
 generalize Src.mk (Q5 src) src.length=T at hT |-;obtain⟨h1,h2,h3,h4,h5⟩:=C2T T at_ src.length hT;rw[B5S];refine⟨h1,h2,h3,h4,?_⟩
 dsimp only
 split
 ·simp[St.bad];omega
 ·omega
theorem B6x (src:List UInt8) (at_:Int):(item src at_).at_=at_:=by
 rw[A9r];show (A6t _ at_ _).1.at_=at_
 rw[A6t];split
 ·rfl
 ·split<;>rfl
theorem C8J (src:List UInt8) (at_:Int):(item src at_).size=src.length:=by
 rw[A9r];show (A6t _ at_ _).1.size=src.length
 rw[A6t];split
 ·rfl
 ·split<;>rfl
theorem A4u {e:Ex} (h:e.small):e.args.length<=64/\A2g e.args:=by
 cases e with
 |mk k n m a f t=>rw[Ex.small]at h;exact h
theorem A3o {e a:Ex} (h:a∈e.args):SizeOf.sizeOf a<SizeOf.sizeOf e:=by
 cases e with
 |mk k n m l f t=>
  have h':a∈l:=h;have:=List.sizeOf_lt_of_mem h';simp only[Ex.mk.sizeOf_spec];omega
theorem A15 {s:Stm} (h:s.small):s.e.small/\s.thn.length<=64/\A0j s.thn/\s.els.length<=64/\A0j s.els:=by
 cases s with
 |mk k n a l o e t x f u=>rw[Stm.small]at h;exact h
theorem A5n {s:Stm}:SizeOf.sizeOf s.thn<SizeOf.sizeOf s/\SizeOf.sizeOf s.els<SizeOf.sizeOf s:=by
 cases s with
 |mk k n a l o e t x f u=>
  simp only[Stm.mk.sizeOf_spec,Stm.thn,Stm.els];omega
theorem A3v {l:List Stm}{s:Stm} (h:s∈l):SizeOf.sizeOf s<SizeOf.sizeOf l:=List.sizeOf_lt_of_mem h
def A1Z (k:Nat):UInt8:=UInt8.ofNat (97+k)
def A3D (n:Nat):List Nat:=(List.range 8).filter (bit n)
def A2q:List UInt8->List UInt8
 | []=> []
 | [c]=> [c]
 |c::d::l=>c::44::A2q (d::l)
def A2X (n:Nat):List UInt8:=123::(A2q ((A3D n).map A1Z)++ [125])
end Go.Sp
namespace Go.Sp
open Go.Lib (itoa)
def A2Y (nm:List UInt8):Nat:=if nm= [61]\/nm= [60] then 1 else if nm= [43]\/nm= [45] then 2 else 3
def A0N (e:Ex):Nat:=if e.kind≠3 then 4 else A2Y e.name
def B3K (b:Bool) (t:List UInt8):List UInt8:=if b then [40]++t++ [41] else t
def A4L (ws:List (List UInt8)) (k:Nat):List UInt8:=(List.range k).flatMap (fun i=>(if 0<i then [44,32] else [])++ws.getD i [])
theorem A7y (ws:List (List UInt8)) (k:Nat):A4L ws (k+1)=A4L ws k++((if 0<k then [44,32] else [])++ws.getD k []):=by
 rw[A4L,A28,X0, <-A4L];simp
mutual
def exW:Ex->List UInt8
 | .mk k nm n args _ _=>
  if k=1 then itoa n else
  if k=3 then
   B3K (decide (A0N (args.getD 0 default)<A2Y nm)) ((A4D args).getD 0 [])++ [32]++nm++ [32]++
    B3K (decide (A0N (args.getD 1 default)<A2Y nm+1)) ((A4D args).getD 1 []) else
  if k=2 then nm else
  if k=4 then nm++ [40]++A4L (A4D args) args.length++ [41] else []
def A4D:List Ex->List (List UInt8)
 | []=> []
 |e::es=>exW e::A4D es
 end
theorem B4c:∀l:List Ex,A4D l=l.map exW
 | []=>by rw[A4D];rfl
 |e::es=>by rw[A4D,B4c es,U4]
theorem B1V {l:List Ex}{i:Nat}{e:Ex} (h:l[i]?=some e):(A4D l).getD i []=exW e:=by
 rw[B4c,N9,Y6,h];rfl
def pad (n:Nat):List UInt8:=(List.replicate n [32,32]).flatten
theorem B6C (n:Nat):(pad n).length=2 *n:=by
 rw[pad,List.length_flatten,List.map_replicate,List.sum_replicate_nat];show n *2=2 *n
 omega
mutual
def B3Q:Stm->Nat->List UInt8
 | .mk k nm _ lb o e thn els _ _,d=>pad d++(
  if k=1 then [108,101,116,32]++nm++(if o=true then [] else [58,32]++A2X lb)++ [32,61,32]++exW e++ [59,10] else
  if k=2 then nm++ [32,61,32]++exW e++ [59,10] else
  if k=5 then [115,101,110,100,32]++nm++ [32]++exW e++ [59,10] else
  if k=6 then [114,101,116,117,114,110,32]++exW e++ [59,10] else
  if k=7 then exW e++ [59,10] else
  if k=3\/k=4 then (if k=4 then [119,104,105,108,101,32] else [105,102,32])++exW e++ [32]++([123,10]++A3t thn (d+1)++pad d++ [125])++
   (if 0<els.length then [32,101,108,115,101,32]++([123,10]++A3t els (d+1)++pad d++ [125]) else [])++ [10] else [59,10])
def A3t:List Stm->Nat->List UInt8
 | [],_=> []
 |x::xs,d=>B3Q x d++A3t xs d
 end
def B1C (l:List Stm) (d:Nat):List UInt8:= [123,10]++A3t l (d+1)++pad d++ [125]
theorem B1i:∀(l r:List Stm) (d:Nat),A3t (l++r) d=A3t l d++A3t r d
 | [],r,d=>by rw[L9,A3t,L9]
 |x::l,r,d=>by rw[Q8,A3t,A3t,B1i l r d,J5]
theorem C6g {l:List Stm}{k:Nat}{x:Stm} (h:l[k]?=some x) (d:Nat):A3t (l.take (k+1)) d=A3t (l.take k) d++B3Q x d:=by
 rw[A2N,h,B1i];show _++A3t [x] d=_
 rw[A3t,A3t,J4]
def A8o (l:List Par):List (List UInt8):=l.map (fun p=>p.name++ [58,32]++A2X p.label)
def A6Z (l:List Rf) (k:Nat):List UInt8:=(List.range k).flatMap (fun i=>(if i=0 then [32,115,101,110,100,115,32] else [44,32])++(l.getD i ⟨[],0⟩).name)
theorem A89 (l:List Rf) (k:Nat):A6Z l (k+1)=A6Z l k++((if k=0 then [32,115,101,110,100,115,32] else [44,32])++(l.getD k ⟨[],0⟩).name):=by
 rw[A6Z,A28,X0, <-A6Z];simp
def A4Z (it:Itm):List UInt8:=
 if it.kind=1 then [99,104,97,110,32]++it.name++ [58,32]++A2X it.label++ [59,10] else
 if it.kind=2 then [102,110,32]++it.name++ [40]++A4L (A8o it.params) it.params.length++ [41,58,32]++A2X it.label++A6Z it.sends it.sends.length++ [32]++B1C it.body 0++ [10] else []
def A0F (its:List Itm):List UInt8:=its.flatMap A4Z
end Go.Sp
namespace Go.Sp
inductive Runs (T:Src):St->St->Prop where
 |refl (s:St):Runs T s s
 |bad {s r:St} (e:Nat):Runs T s r->Runs T s (r.bad T e)
 |next {s r:St}:Runs T s r->Runs T s r.next
theorem Runs.trans {T:Src}{s r q:St} (h:Runs T s r) (g:Runs T r q):Runs T s q:=by
 induction g with
 |refl=>exact h
 |bad e _ ih=>exact .bad e ih
 |next _ ih=>exact .next ih
theorem Runs.on {T:Src}{s r:St} (h:Runs T s r):s.i<=r.i:=by
 induction h with
 |refl=>exact H7 _
 |bad e _ ih=>exact ih
 |next _ ih=>exact Nat.le_succ_of_le ih
theorem A32 (T:Src) (s:St) (e:Nat):(s.bad T e).ds≠ []:=by simp[St.bad]
theorem Runs.told {T:Src}{s r:St} (h:Runs T s r) (hs:s.ds≠ []):r.ds≠ []:=by
 induction h with
 |refl=>exact hs
 |bad e _ _=>exact A32 _ _ _
 |next _ ih=>exact ih
theorem Runs.clean {T:Src}{s r:St} (h:Runs T s r) (hr:r.ds= []):s.ds= []:=by
 cases hs:s.ds with
 |nil=>rfl
 |cons a l=>exact absurd hr (h.told (by rw[hs];simp))
theorem A3h (T:Src) (s:St) (e:Nat):Runs T s (s.bad T e):=.bad e (.refl s)
theorem A1l (T:Src) (s:St):Runs T s s.next:=.next (.refl s)
theorem A0H (T:Src) (s:St) (w:List UInt8):Runs T s (s.need T w).2:=by
 rw[St.need];split
 ·exact A1l T s
 ·exact A3h T s 2
theorem A4t (T:Src) (s:St):Runs T s (s.named T).2:=by
 rw[St.named];split
 ·exact A1l T s
 ·split
  ·exact .next (A3h T s 7)
  ·exact A3h T s 2
theorem B5t (T:Src):∀(f n:Nat) (s:St),Runs T s (B0H T f n s).2
 |0,n,s=> .refl s
 |f+1,n,s=>by
  rw[B0H];split
  ·exact A1l T s
  ·dsimp only
   split
   ·exact A3h T s 2
   ·generalize (if bit n ((T.tok s.i).text.getD 0 0|>.toNat|>(· -97))=true then n else n+2 ^ ((T.tok s.i).text.getD 0 0|>.toNat|>(· -97)))=n1
    have g:Runs T s (if bit n ((T.tok s.i).text.getD 0 0|>.toNat|>(· -97))=true then s.bad T 7 else s).next:=by
     split
     ·exact .next (A3h T s 7)
     ·exact A1l T s
    generalize (if bit n ((T.tok s.i).text.getD 0 0|>.toNat|>(· -97))=true then s.bad T 7 else s).next=s2 at g;split
    ·exact g.trans (B5t T f n1 s2)
    ·split
     ·exact(Runs.next g).trans (B5t T f n1 s2.next)
     ·exact g.trans (A3h T s2 2)
theorem A7j (T:Src) (s:St):Runs T s (lab T s).2:=by
 rw[lab];split
 ·exact(A1l T s).trans (B5t T _ 0 s.next)
 ·exact A3h T s 2
theorem A5q (T:Src):∀f,(∀d s,Runs T s (A3W T f d s).2)/\(∀d l s,Runs T s (A5h T f d l s).2)/\(∀d m s,Runs T s (A1b T f d m s).2)/\(∀d m e s,Runs T s (opL T f d m e s).2)
 |0=>⟨fun _ _=>by rw[A3W];exact .refl _,fun _ _ _=>by rw[A5h];exact .refl _,fun _ _ _=>by rw[A1b];exact .refl _,fun _ _ _ _=>by rw[opL];exact .refl _⟩
 |f+1=>by
  obtain⟨hA,hL,hE,hO⟩:=A5q T f;refine⟨fun d s=>?_,fun d l s=>?_,fun d m s=>?_,fun d m e s=>?_⟩
  ·rw[A3W]
   dsimp only
   split
   ·exact A3h T s 2
   ·split
    ·exact A3h T s 12
    ·split
     ·split
      ·exact .next (A3h T s 3)
      ·exact A1l T s
     ·split
      ·exact((A1l T s).trans (hE _ _ _)).trans (A0H T _ _)
      ·split
       ·exact A3h T s 2
       ·split
        ·exact A1l T s
        ·exact((Runs.next (A1l T s)).trans (hL _ _ _)).trans (A0H T _ _)
  ·rw[A5h]
   split
   ·exact .refl _
   ·split
    ·exact A3h T s 5
    ·try dsimp only
     split
     ·exact(Runs.next (hE _ _ _)).trans (hL _ _ _)
     ·exact hE _ _ _
  ·rw[A1b]
   try dsimp only
   exact(hA d s).trans (hO _ _ _ _)
  ·rw[opL]
   try dsimp only
   split
   ·exact .refl _
   ·exact((A1l T s).trans (hE _ _ _)).trans (hO _ _ _ _)
theorem A87 (T:Src):∀f,(∀d s,Runs T s (block T f d s).2)/\(∀d l s,Runs T s (A5U T f d l s).2)/\(∀d s,Runs T s (stm T f d s).2)
 |0=>⟨fun _ _=>by rw[block];exact .refl _,fun _ _ _=>by rw[A5U];exact .refl _,fun _ s=>by rw[stm];exact .refl _⟩
 |f+1=>by
  obtain⟨hB,hL,hS⟩:=A87 T f;have hE:=(A5q T f).2.2.1;refine⟨fun d s=>?_,fun d l s=>?_,fun d s=>?_⟩
  ·rw[block]
   split
   ·exact A3h T s 2
   ·split
    ·exact(A1l T s).trans (A3h T _ 12)
    ·dsimp only
     exact((A1l T s).trans (hL _ _ _)).trans (A0H T _ _)
  ·rw[A5U]
   split
   ·exact .refl _
   ·split
    ·exact A3h T s 5
    ·dsimp only
     split
     ·exact(Runs.next (hS d s)).trans (hL _ _ _)
     ·exact(hS d s).trans (hL _ _ _)
  ·rw[stm]
   dsimp only
   split
   ·have g1:=A4t T s.next
    have g2:Runs T (s.next.named T).2 (if (!T.is (s.next.named T).2.i [58])=true then ((0:Nat),(s.next.named T).2) else lab T (s.next.named T).2.next).2:=by
     split
     ·exact .refl _
     ·exact(A1l T _).trans (A7j T _)
    exact(((((A1l T s).trans g1).trans g2).trans (A0H T _ _)).trans (hE _ _ _)).trans (A0H T _ _)
   ·split
    ·have g1:=((A1l T s).trans (hE d 1 s.next)).trans (hB d (A1b T f d 1 s.next).2)
     split
     ·exact(Runs.next g1).trans (hB d _)
     ·exact g1
    ·split
     ·exact((A1l T s).trans (hE d 1 s.next)).trans (hB d (A1b T f d 1 s.next).2)
     ·split
      ·exact(((A1l T s).trans (A4t T s.next)).trans (hE d 1 _)).trans (A0H T _ _)
      ·split
       ·exact((A1l T s).trans (hE d 1 s.next)).trans (A0H T _ _)
       ·split
        ·split
         ·exact((Runs.next (A1l T s)).trans (hE d 1 _)).trans (A0H T _ [59])
         ·exact(hE d 1 s).trans (A0H T _ [59])
        ·exact A3h T s 2
theorem B2N (T:Src):∀(f:Nat) (l:List Par) (s:St),Runs T s (A52 T f l s).2
 |0,l,s=> .refl _
 |f+1,l,s=>by
  rw[A52];split
  ·exact .refl _
  ·split
   ·exact A3h T s 5
   ·dsimp only
    have g:=(A4t T s).trans (A0H T (s.named T).2 [58]);split
    ·exact g
    ·have g2:=g.trans (A7j T _)
     split
     ·exact(Runs.next g2).trans (B2N T f _ _)
     ·exact g2
theorem B2O (T:Src):∀(f:Nat) (l:List Rf) (s:St),Runs T s (A5T T f l s).2
 |0,l,s=> .refl _
 |f+1,l,s=>by
  rw[A5T];split
  ·exact A3h T s 5
  ·dsimp only
   split
   ·exact(Runs.next (A4t T s)).trans (B2O T f _ _)
   ·exact A4t T s
theorem D4S (T:Src) (at_:Int) (size:Nat) (s:St):Runs T s (A7Z T at_ size s).2:=by
 rw[A7Z];dsimp only
 have g6:∀r5:Nat×St,Runs T r5.2 (if T.is r5.2.i [115,101,110,100,115]=true then A5T T 6 [] r5.2.next else ([],r5.2)).2:=fun r5=>by
  split
  ·exact(A1l T _).trans (B2O T _ _ _)
  ·exact .refl _
 exact(((((((A4t T s).trans (A0H T _ _)).trans (B2N T 6 [] _)).trans (A0H T _ _)).trans (A0H T _ _)).trans (A7j T _)).trans (g6 _)).trans ((A87 T _).1 _ _)
theorem D4R (T:Src) (at_:Int) (size:Nat) (s:St):Runs T s (B29 T at_ size s).2:=by
 rw[B29];dsimp only
 exact(((A4t T s).trans (A0H T _ _)).trans (A7j T _)).trans (A0H T _ _)
def C2j (size:Nat) (d:Dg):Prop:=d.fr<=d.to/\d.to<=size
theorem C4A {T:Src}{s:St}{e:Nat} (hT:∀i,(T.tok i).pos+(T.tok i).text.length<=T.size) (h:∀d∈s.ds,C2j T.size d):∀d∈(s.bad T e).ds,C2j T.size d:=by
 intro d hd;rcases Y5.1 (show d∈s.ds++ [_] from hd) with h1|h1
 ·exact h d h1
 ·have e1:=A0q.1 h1
  rw[e1];exact⟨A73 _ _,hT s.i⟩
theorem C7L {T:Src}{s r:St} (hT:∀i,(T.tok i).pos+(T.tok i).text.length<=T.size) (h:Runs T s r) (hs:∀d∈s.ds,C2j T.size d):∀d∈r.ds,C2j T.size d:=by
 induction h with
 |refl=>exact hs
 |bad e _ ih=>exact C4A hT ih
 |next _ ih=>exact ih
theorem D5f (s:List UInt8) (i:Nat):((⟨Q5 s,s.length⟩:Src).tok i).pos+((⟨Q5 s,s.length⟩:Src).tok i).text.length<=s.length:=by
 rcases U9 i (Q5 s).length with h|h
 ·rw[Src.tok,N9,F9 h]
  exact(A2C s _ (O1 h)).fit
 ·rw[A6A h];simp
theorem D33 (s:List UInt8) (at_:Int):∀d∈(item s at_).diags,C2j s.length d:=by
 have hT:=D5f s;have g:∀q:Itm×St,(∀d∈q.2.ds,C2j s.length d)->∀d∈(if q.2.i<(⟨Q5 s,s.length⟩:Src).l.length then q.2.bad ⟨Q5 s,s.length⟩ 2 else q.2).ds,C2j s.length d:=fun q hq=>by
  split
  ·exact C4A (T:=⟨Q5 s,s.length⟩) hT hq
  ·exact hq
 rw[item];dsimp only
 refine g _ ?_
 split
 ·exact C7L (T:=⟨Q5 s,s.length⟩) hT (D4S _ _ _ _) (by simp)
 ·split
  ·exact C7L (T:=⟨Q5 s,s.length⟩) hT (D4R _ _ _ _) (by simp)
  ·exact C4A (T:=⟨Q5 s,s.length⟩) (s:=⟨0,[]⟩) (e:=2) hT (by simp)
mutual
def Ex.fitE:Ex->Nat->Nat->Prop
 | .mk k nm n args _ _,d,least=>d<12/\
  ((k=1/\nm= []/\n<=1000000000/\args= [])\/(k=2/\name nm=true/\n=0/\args= [])\/
   (k=4/\name nm=true/\n=0/\args.length<=5/\A2f args (d+1))\/
   (k=3/\A0u nm≠0/\n=0/\args.length=2/\A2Q args (if A0u nm<least then d+1 else d) (A0u nm)))
def A2f:List Ex->Nat->Prop
 | [],_=>True
 |e::es,d=>e.fitE d 1/\A2f es d
def A2Q:List Ex->Nat->Nat->Prop
 | [],_,_=>True
 |e::es,d,n=>e.fitE d n/\A2Q es d (n+1)
 end
mutual
theorem Ex.fit_down:∀(e:Ex) {d l:Nat},e.fitE (d+1) l->e.fitE d l
 | .mk k nm n args _ _,d,l,h=>by
  rw[Ex.fitE]at h |-;refine⟨by omega,?_⟩
  rcases h.2 with h|h|h|h
  ·exact .inl h
  ·exact .inr (.inl h)
  ·exact .inr (.inr (.inl ⟨h.1,h.2.1,h.2.2.1,h.2.2.2.1,B1T args h.2.2.2.2⟩))
  ·refine .inr (.inr (.inr ⟨h.1,h.2.1,h.2.2.1,h.2.2.2.1,?_⟩))
   have h5:=h.2.2.2.2;split
   ·rename_i hl;rw[if_pos hl]at h5;exact A9u args h5
   ·rename_i hl;rw[if_neg hl]at h5;exact A9u args h5
theorem B1T:∀(l:List Ex) {d:Nat},A2f l (d+1)->A2f l d
 | [],d,_=>by rw[A2f];trivial
 |e::l,d,h=>by rw[A2f]at h |-;exact⟨e.fit_down h.1,B1T l h.2⟩
theorem A9u:∀(l:List Ex) {d n:Nat},A2Q l (d+1) n->A2Q l d n
 | [],d,n,_=>by rw[A2Q];trivial
 |e::l,d,n,h=>by rw[A2Q]at h |-;exact⟨e.fit_down h.1,A9u l h.2⟩
 end
theorem Ex.fit_par {e:Ex}{d:Nat} (h:e.fitE (d+1) 1) (l:Nat):e.fitE d l:=by
 cases e with
 |mk k nm n args f t=>
  rw[Ex.fitE]at h |-;refine⟨by omega,?_⟩
  rcases h.2 with h|h|h|h
  ·exact .inl h
  ·exact .inr (.inl h)
  ·exact .inr (.inr (.inl ⟨h.1,h.2.1,h.2.2.1,h.2.2.2.1,B1T args h.2.2.2.2⟩))
  ·refine .inr (.inr (.inr ⟨h.1,h.2.1,h.2.2.1,h.2.2.2.1,?_⟩))
   have h5:=h.2.2.2.2;rw[if_neg (by have:=h.2.1;omega)]at h5;split
   ·exact h5
   ·exact A9u args h5
theorem B1U:∀ {l:List Ex}{d:Nat}{e:Ex},A2f l d->e.fitE d 1->A2f (l++ [e]) d
 | [],d,e,_,he=>by rw[L9,A2f,A2f];exact⟨he,trivial⟩
 |a::l,d,e,h,he=>by rw[A2f]at h;rw[Q8,A2f];exact⟨h.1,B1U h.2 he⟩
theorem C0X {T:Src}{s:St}{w:List UInt8} (h:(s.need T w).2.ds= []):T.is s.i w=true/\(s.need T w).2=s.next:=by
 rw[St.need]at h |-;by_cases hw:T.is s.i w=true
 ·rw[if_pos hw];exact⟨hw,rfl⟩
 ·rw[if_neg hw]at h;exact absurd h (A32 _ _ _)
theorem B0e {T:Src}{s:St} (h:(s.named T).2.ds= []):name (T.tok s.i).text=true/\s.named T=((T.tok s.i).text,s.next):=by
 rw[St.named]at h |-;by_cases hw:name (T.tok s.i).text=true
 ·rw[if_pos hw];exact⟨hw,rfl⟩
 ·rw[if_neg hw]at h
  split at h
  ·exact absurd h (A32 _ _ _)
  ·exact absurd h (A32 _ _ _)
def D5A (T:Src) (s:St) (m:Nat):Prop:=A0u (T.tok s.i).text<m\/A0u (T.tok s.i).text=0
theorem B2A (T:Src):∀f,(∀d s,3 *(T.l.length-s.i)+2<=f->(A3W T f d s).2.ds= []->(∀l,(A3W T f d s).1.fitE d l)/\s.i<(A3W T f d s).2.i)/\
  (∀d l s,3 *(T.l.length-s.i)+4<=f->(A5h T f d l s).2.ds= []->l.length<=5->A2f l d->(A5h T f d l s).1.length<=5/\A2f (A5h T f d l s).1 d)/\
  (∀d m s,3 *(T.l.length-s.i)+3<=f->(A1b T f d m s).2.ds= []->(A1b T f d m s).1.fitE d m/\s.i<(A1b T f d m s).2.i/\D5A T (A1b T f d m s).2 m)/\
  (∀d m e s,3 *(T.l.length-s.i)+1<=f->(opL T f d m e s).2.ds= []->((∀l,e.fitE d l)\/∃n1,m<=n1/\(∀l,l<=n1->e.fitE d l)/\A0u (T.tok s.i).text<=n1)->(opL T f d m e s).1.fitE d m/\D5A T (opL T f d m e s).2 m)
 |0=>⟨fun _ _ h=>by omega,fun _ _ _ h=>by omega,fun _ _ _ h=>by omega,fun _ _ _ _ h=>by omega⟩
 |f+1=>by
  obtain⟨hA,hL,hE,hO⟩:=B2A T f;obtain⟨rA,rL,rE,rO⟩:=A5q T f;refine⟨fun d s hf h=>?_,fun d l s hf h hl hx=>?_,fun d m s hf h=>?_,fun d m e s hf h he=>?_⟩
  ·rw[A3W]at h |-
   dsimp only at h |-;by_cases c1:T.l.length<=s.i
   ·rw[if_pos c1]at h;exact absurd h (A32 _ _ _)
   rw[if_neg c1]at h |-;by_cases c2:12<=d
   ·rw[if_pos c2]at h;exact absurd h (A32 _ _ _)
   rw[if_neg c2]at h |-;by_cases c3:(T.tok s.i).kind=2
   ·rw[if_pos c3]at h |-
    by_cases c4:1000000000<A4M (T.tok s.i).text
    ·rw[if_pos c4]at h;exact absurd h (A32 _ _ _)
    rw[if_neg c4];refine⟨fun l=>?_,Nat.lt_succ_self _⟩
    rw[Ex.fitE];exact⟨by omega,.inl ⟨rfl,rfl,by omega,rfl⟩⟩
   rw[if_neg c3]at h |-;by_cases c4:(T.tok s.i).text= [40]
   ·rw[if_pos c4]at h |-
    obtain⟨h1,h2⟩:=C0X h;dsimp only at h |-;rw[h2]at h |-;obtain⟨g1,g2,_⟩:=hE (d+1) 1 s.next (by rw[U7];omega) h;rw[U7]at g2;exact⟨fun l=>Ex.fit_par g1 l,by rw[U7];omega⟩
   rw[if_neg c4]at h |-;by_cases c5:name (T.tok s.i).text=true
   ·rw[if_neg (by simp[c5])]at h |-
    by_cases c6:T.is (s.i+1) [40]=true
    ·rw[if_neg (by simp[c6])]at h |-
     obtain⟨h1,h2⟩:=C0X h;dsimp only at h |-;rw[h2]at h |-;have c7:=A22 c6;obtain⟨g1,g2⟩:=hL (d+1) [] s.next.next (by rw[U7,U7];omega) h (H9 _) (by rw[A2f];trivial);have g3:=(rL (d+1) [] s.next.next).on;rw[U7,U7]at g3;refine⟨fun l=>?_,by rw[U7];omega⟩
     rw[Ex.fitE];exact⟨by omega,.inr (.inr (.inl ⟨rfl,c5,rfl,g1,g2⟩))⟩
    ·rw[if_pos (by simp[c6])]
     refine⟨fun l=>?_,Nat.lt_succ_self _⟩
     rw[Ex.fitE];exact⟨by omega,.inr (.inl ⟨rfl,c5,rfl,rfl⟩)⟩
   ·rw[if_pos (by simp[c5])]at h;exact absurd h (A32 _ _ _)
  ·rw[A5h]at h |-
   by_cases c1:T.l.length<=s.i\/T.is s.i [41]=true
   ·rw[if_pos c1];exact⟨hl,hx⟩
   rw[if_neg c1]at h |-;have c0:s.i<T.l.length:=by omega
   by_cases c2:l.length=5
   ·rw[if_pos c2]at h;exact absurd h (A32 _ _ _)
   rw[if_neg c2]at h |-;dsimp only at h |-;have hsn:∀e:Ex,(l++ [e]).length<=5:=fun e=>by rw[D9,A0X];omega
   by_cases c3:T.is (A1b T f d 1 s).2.i [44]=true
   ·rw[if_pos c3]at h |-
    obtain⟨g1,g2,_⟩:=hE d 1 s (by omega) (((A1l T _).trans (rL _ _ _)).clean h);have:=A22 c3;exact hL d _ _ (by rw[U7];omega) h (hsn _) (B1U hx g1)
   ·rw[if_neg c3]at h |-
    obtain⟨g1,g2,_⟩:=hE d 1 s (by omega) h;exact⟨hsn _,B1U hx g1⟩
  ·rw[A1b]at h |-
   obtain⟨g1,g2⟩:=hA d s (by omega) ((rO _ _ _ _).clean h);have g3:=(rO d m (A3W T f d s).1 (A3W T f d s).2).on;obtain⟨g4,g5⟩:=hO d m _ _ (by omega) h (.inl g1);exact⟨g4,by omega,g5⟩
  ·rw[opL]at h |-
   dsimp only at h |-;by_cases c1:A0u (T.tok s.i).text<m\/A0u (T.tok s.i).text=0
   ·rw[if_pos c1]at h |-
    refine⟨?_,c1⟩
    rcases he with he|⟨n1,h1,h2,_⟩
    ·exact he m
    ·exact h2 m h1
   rw[if_neg c1]at h |-;have c0:=A3E (B4G (fun e=>c1 (.inr e)));obtain⟨g1,g2,g3⟩:=hE d (A0u (T.tok s.i).text+1) s.next (by rw[U7];omega) ((rO _ _ _ _).clean h);rw[U7]at g2;refine hO d m _ _ (by omega) h (.inr ⟨A0u (T.tok s.i).text,by omega,fun l hl=>?_,by rcases g3 with g3|g3<;>omega⟩)
   have ge:e.fitE d (A0u (T.tok s.i).text):=by
    rcases he with he|⟨n1,h1,h2,h3⟩
    ·exact he _
    ·exact h2 _ h3
   rw[Ex.fitE];have hd:d<12:=by cases e;rw[Ex.fitE]at ge;exact ge.1
   refine⟨hd,.inr (.inr (.inr ⟨rfl,fun e=>c1 (.inr e),rfl,rfl,?_⟩))⟩
   rw[if_neg (by omega),A2Q,A2Q,A2Q];exact⟨ge,g1,trivial⟩
theorem B2B (s:List UInt8) (cs:List Nat):(A3Z s cs).length=cs.length:=by simp[A3Z]
theorem B5b (s:List UInt8) (cs:List Nat) {k:Nat} (h:k<cs.length):(A3Z s cs)[k]?=some (A1d s cs k):=by
 simp[A3Z,h]
theorem A7a (s:List UInt8):(G8 s).length<=30:=by
 rw[G8];split
 ·rename_i h
  rw[B2B];rw[Y1]at h;split at h
  ·omega
  ·split at h<;>omega
 ·simp
structure ItIn (s:List UInt8) (k:Nat) (it:Itm):Prop where
 at0:0<=it.at_
 size:1<=it.size
 top:it.at_+it.size<=s.length
 ends:it.at_+it.size=(match (G8 s)[k+1]? with|some j=>j.at_|none=>(s.length:Int))
 diags:∀d∈it.diags,d.fr<=d.to/\d.to<=it.size
 small:it.small
 len:s.length<=4000
theorem A8B (src:List UInt8) (at_:Int):(item src at_).size=src.length/\(item src at_).at_=at_:=⟨C8J src at_,B6x src at_⟩
theorem C65 (s:List UInt8) (h0:Y1 s=0) {k:Nat}{it:Itm} (h:(G8 s)[k]?=some it):ItIn s k it:=by
 have e:G8 s=A3Z s (A0l s):=by rw[G8,if_pos h0]
 have hk:k<(A0l s).length:=by
  have:=(A0D.1 h).1
  rwa [e,B2B]at this
 have hi:it=A1d s (A0l s) k:=by
  rw[e,B5b s _ hk]at h;exact(Z8 h).symm
 obtain⟨h1,h2⟩:=B0x s hk;have hsz:(A1d s (A0l s) k).size=(A0l s).getD (k+1) s.length-(A0l s).getD k 0:=by
  rw[A1d,(A8B _ _).1,A1v,P9,A0v];omega
 have hat:(A1d s (A0l s) k).at_=((A0l s).getD k 0:Nat):=by rw[A1d,(A8B _ _).2]
 have hlen:s.length<=4000:=by
  rw[Y1]at h0;split at h0
  ·cases h0
  ·omega
 have hsm:(A1d s (A0l s) k).small:=A6G _ _ (by rw[A1v,P9,A0v];omega);have hdg:∀d∈(A1d s (A0l s) k).diags,C2j (A1v s (A0l s) k).length d:=D33 _ _;have hpl:(A1v s (A0l s) k).length=(A1d s (A0l s) k).size:=by rw[A1d,(A8B _ _).1]
 subst hi;refine⟨by rw[hat];omega,by rw[hsz];omega,by rw[hat,hsz];omega,?_,fun d hd=>(by have:=hdg d hd;rw[hpl]at this;exact this),hsm,hlen⟩
 rw[hat,hsz];rcases U9 (k+1) (A0l s).length with h4|h4
 ·have e2:(G8 s)[k+1]?=some (A1d s (A0l s) (k+1)):=by rw[e,B5b s _ h4]
  rw[e2];dsimp only
  have hat2:(A1d s (A0l s) (k+1)).at_=((A0l s).getD (k+1) 0:Nat):=by rw[A1d,(A8B _ _).2]
  have e3:(A0l s).getD (k+1) s.length=(A0l s).getD (k+1) 0:=by
   rw[N9,N9,F9 h4];rfl
  rw[hat2,e3];rw[e3]at h1 h2;omega
 ·have e2:(G8 s)[k+1]?=none:=by rw[e];exact A1n (by rw[B2B];omega)
  rw[e2];have e3:(A0l s).getD (k+1) s.length=s.length:=by rw[N9,A1n h4];rfl
  dsimp only
  rw[e3]at h1 |-;omega
inductive Well (T:Src):St->St->Prop where
 |refl (s:St):Well T s s
 |bad {s r:St} (e:Nat):Well T s r->Well T s (r.bad T e)
 |next {s r:St}:Well T s r->(r.ds≠ []\/(T.tok r.i).kind≠4)->Well T s r.next
section
variable {T:Src}
theorem D3A (f d:Nat) (s:St) (h:name (T.tok s.i).text=true):(A3W T (f+1) d s).2.ds≠ []\/s.i+1<=(A3W T (f+1) d s).2.i:=by
 have hl:=A3E (A7e h);rw[A3W];dsimp only
 rw[if_neg (by omega)];split
 ·exact .inl (A32 _ _ _)
 ·split
  ·split
   ·exact .inl (A32 _ _ _)
   ·exact .inr (H7 _)
  ·split
   ·have:=(((A5q T f).2.2.1 (d+1) 1 s.next).trans (A0H T _ [41])).on
    exact .inr this
   ·split
    ·exact .inl (A32 _ _ _)
    ·split
     ·exact .inr (H7 _)
     ·have:=(((A1l T s.next).trans ((A5q T f).2.1 (d+1) [] s.next.next)).trans (A0H T _ [41])).on
      exact .inr this
theorem D65 (f d:Nat) (s:St):(stm T (f+3) d s).2.ds≠ []\/s.i+1<=(stm T (f+3) d s).2.i:=by
 have hE:=(A5q T (f+2)).2.2.1;have hB:=(A87 T (f+2)).1;rw[stm];dsimp only
 split
 ·right
  have g2:Runs T (s.next.named T).2 (if (!T.is (s.next.named T).2.i [58])=true then ((0:Nat),(s.next.named T).2) else lab T (s.next.named T).2.next).2:=by
   split
   ·exact .refl _
   ·exact(A1l T _).trans (A7j T _)
  exact(((((A4t T s.next).trans g2).trans (A0H T _ _)).trans (hE _ _ _)).trans (A0H T _ _)).on
 ·split
  ·right
   have g1:=(hE d 1 s.next).trans (hB d (A1b T (f+2) d 1 s.next).2);split
   ·exact((Runs.next g1).trans (hB d _)).on
   ·exact g1.on
  ·split
   ·exact .inr ((hE d 1 s.next).trans (hB d (A1b T (f+2) d 1 s.next).2)).on
   ·split
    ·exact .inr (((A4t T s.next).trans (hE d 1 _)).trans (A0H T _ _)).on
    ·split
     ·exact .inr ((hE d 1 s.next).trans (A0H T _ _)).on
     ·split
      ·rename_i hn
       split
       ·exact .inr (((A1l T s.next).trans (hE d 1 _)).trans (A0H T _ [59])).on
       ·have ha:=D3A (T:=T) f d s hn
        have hr:Runs T (A3W T (f+1) d s).2 ((A1b T (f+2) d 1 s).2.need T [59]).2:=by
         rw[A1b];exact((A5q T (f+1)).2.2.2 d 1 _ _).trans (A0H T _ _)
        rcases ha with ha|ha
        ·exact .inl (hr.told ha)
        ·exact .inr (A1A ha hr.on)
      ·exact .inl (A32 _ _ _)
end
mutual
def Ex.cnt:Ex->Nat
 | .mk _ _ _ args _ _=>A1X args+1
def A1X:List Ex->Nat
 | []=>0
 |e::es=>e.cnt+A1X es
 end
mutual
def Stm.cnt:Stm->Nat
 | .mk _ _ _ _ _ e thn els _ _=>e.cnt+U1 thn+U1 els+1
def U1:List Stm->Nat
 | []=>0
 |x::xs=>x.cnt+U1 xs
 end
theorem A6E:∀(l r:List Ex),A1X (l++r)=A1X l+A1X r
 | [],r=>by rw[A1X];simp
 |e::l,r=>by rw[Q8,A1X,A1X,A6E l r];omega
theorem A4g:∀(l r:List Stm),U1 (l++r)=U1 l+U1 r
 | [],r=>by rw[U1];simp
 |e::l,r=>by rw[Q8,U1,U1,A4g l r];omega
theorem A8N (e:Ex):A1X [e]=e.cnt:=by rw[A1X,A1X];omega
theorem A61 (e:Stm):U1 [e]=e.cnt:=by rw[U1,U1];omega
theorem A6u (k n f t:Nat) (nm:List UInt8):(Ex.mk k nm n [] f t).cnt=1:=by rw[Ex.cnt,A1X]
theorem A5d (T:Src) (s:St) (w:List UInt8):s.i<=(s.need T w).2.i:=(A1k T s w).le
theorem C19 (T:Src):∀f,(∀d s,(A3W T f d s).1.cnt<=2 *((A3W T f d s).2.i-s.i)+1)/\(∀d l s,A1X (A5h T f d l s).1<=A1X l+2 *((A5h T f d l s).2.i-s.i)+1)/\
  (∀d m s,(A1b T f d m s).1.cnt<=2 *((A1b T f d m s).2.i-s.i)+1)/\(∀d m e s,(opL T f d m e s).1.cnt<=e.cnt+2 *((opL T f d m e s).2.i-s.i))
 |0=>⟨fun _ _=>by rw[A3W];show (Ex.mk 0 [] 0 [] 0 0).cnt<=_;rw[A6u];omega,fun _ _ _=>by rw[A5h];dsimp only;omega,
   fun _ _ _=>by rw[A1b];show (Ex.mk 0 [] 0 [] 0 0).cnt<=_;rw[A6u];omega,fun _ _ _ _=>by rw[opL];dsimp only;omega⟩
 |f+1=>by
  obtain⟨hA,hL,hE,hO⟩:=C19 T f;obtain⟨gA,gL,gE,gO⟩:=A13 T f;refine⟨fun d s=>?_,fun d l s=>?_,fun d m s=>?_,fun d m e s=>?_⟩
  ·rw[A3W]
   dsimp only
   split
   ·rw[B3g];dsimp only;rw[A6u];omega
   ·split
    ·rw[B3g];dsimp only;rw[A6u];omega
    ·split
     ·split
      ·dsimp only;rw[A6u];omega
      ·dsimp only;rw[A6u];omega
     ·split
      ·have h1:=hE (d+1) 1 s.next
       have h2:=(gE (d+1) 1 s.next).le;have h3:=A5d T (A1b T f (d+1) 1 s.next).2 [41];rw[U7]at h1 h2;dsimp only
       omega
      ·split
       ·rw[B3g];dsimp only;rw[A6u];omega
       ·split
        ·dsimp only;rw[A6u];omega
        ·have h1:=hL (d+1) [] s.next.next
         have h2:=(gL (d+1) [] s.next.next).le;have h3:=A5d T (A5h T f (d+1) [] s.next.next).2 [41];rw[U7,U7]at h1 h2;rw[A1X]at h1;dsimp only
         rw[Ex.cnt];omega
  ·rw[A5h]
   split
   ·dsimp only;omega
   ·split
    ·dsimp only;omega
    ·have h1:=hE d 1 s
     have h2:=(gE d 1 s).le;try dsimp only
     split
     ·have h3:=hL d (l++ [(A1b T f d 1 s).1]) (A1b T f d 1 s).2.next
      have h4:=(gL d (l++ [(A1b T f d 1 s).1]) (A1b T f d 1 s).2.next).le;rw[U7]at h3 h4;rw[A6E,A8N]at h3;omega
     ·dsimp only
      rw[A6E,A8N];omega
  ·rw[A1b]
   try dsimp only
   have h1:=hA d s;have h2:=(gA d s).le;have h3:=hO d m (A3W T f d s).1 (A3W T f d s).2;have h4:=(gO d m (A3W T f d s).1 (A3W T f d s).2).le;omega
  ·rw[opL]
   try dsimp only
   split
   ·dsimp only;omega
   ·have h1:=hE d (A0u (T.tok s.i).text+1) s.next
    have h2:=(gE d (A0u (T.tok s.i).text+1) s.next).le;rw[U7]at h1 h2;generalize A1b T f d (A0u (T.tok s.i).text+1) s.next=r at h1 h2 |-;have h3:=hO d m (.mk 3 (T.tok s.i).text 0 [e,r.1] e.fr (max r.1.to e.to)) r.2;have h4:=(gO d m (.mk 3 (T.tok s.i).text 0 [e,r.1] e.fr (max r.1.to e.to)) r.2).le;rw[Ex.cnt,A1X,A8N]at h3;omega
theorem B86 (T:Src):∀f,(∀d s,U1 (block T f d s).1<=8 *((block T f d s).2.i-s.i))/\(∀d l s,U1 (A5U T f d l s).1<=U1 l+8 *((A5U T f d l s).2.i-s.i))/\
  (∀d s,(stm T f d s).1.cnt<=8 *max ((stm T f d s).2.i-s.i) 1)
 |0=>⟨fun _ _=>by rw[block];dsimp only;rw[U1];omega,fun _ _ _=>by rw[A5U];dsimp only;omega,
   fun _ s=>by rw[stm];show (Stm.mk 0 [] 0 0 false (.mk 0 [] 0 [] 0 0) [] [] 0 0).cnt<=_;rw[Stm.cnt,A6u,U1];omega⟩
 |f+1=>by
  obtain⟨hB,hL,hS⟩:=B86 T f;obtain⟨gB,gL,gS⟩:=A3j T f;have hE:=(C19 T f).2.2.1;have gE:=(A13 T f).2.2.1;refine⟨fun d s=>?_,fun d l s=>?_,fun d s=>?_⟩
  ·rw[block]
   split
   ·dsimp only;rw[U1];omega
   ·split
    ·dsimp only;rw[U1];omega
    ·have h1:=hL (d+1) [] s.next
     have h2:=(gL (d+1) [] s.next).le;have h3:=A5d T (A5U T f (d+1) [] s.next).2 [125];rw[U7]at h1 h2;rw[U1]at h1;try dsimp only
     omega
  ·rw[A5U]
   split
   ·dsimp only;omega
   ·split
    ·dsimp only;omega
    ·have h1:=hS d s
     have h2:=(gS d s).le;try dsimp only
     split
     ·rename_i he
      have h3:=hL d (l++ [(stm T f d s).1]) (stm T f d s).2.next;have h4:=(gL d (l++ [(stm T f d s).1]) (stm T f d s).2.next).le;rw[U7]at h3 h4;rw[A4g,A61]at h3;omega
     ·rename_i he
      have h3:=hL d (l++ [(stm T f d s).1]) (stm T f d s).2;have h4:=(gL d (l++ [(stm T f d s).1]) (stm T f d s).2).le;rw[A4g,A61]at h3;omega
  ·rw[stm]
   dsimp only
   split
   ·have h1:=(A2h T s.next).le
    rw[U7]at h1;generalize s.next.named T=r at h1 |-;generalize hr1:(if (!T.is r.2.i [58])=true then (0,r.2) else lab T r.2.next)=r1;have h2:r.2.i<=r1.2.i:=by
     rw[<-hr1];split
     ·exact H7 _
     ·have:=(A5i T r.2.next).le
      rw[U7]at this;omega
    have h3:=A5d T r1.2 [61];have h4:=hE d 1 (r1.2.need T [61]).2;have h5:=(gE d 1 (r1.2.need T [61]).2).le;have h6:=A5d T (A1b T f d 1 (r1.2.need T [61]).2).2 [59];try dsimp only
    rw[Stm.cnt,U1];omega
   ·split
    ·have h1:=hE d 1 s.next
     have h2:=(gE d 1 s.next).le;rw[U7]at h1 h2;generalize A1b T f d 1 s.next=r at h1 h2 |-;have h3:=hB d r.2;have h4:=(gB d r.2).le;generalize block T f d r.2=r1 at h3 h4 |-;split
     ·have h5:=hB d r1.2.next
      have h6:=(gB d r1.2.next).le;rw[U7]at h5 h6;dsimp only
      try dsimp only
      rw[Stm.cnt];omega
     ·dsimp only
      try dsimp only
      rw[Stm.cnt,U1];omega
    ·split
     ·have h1:=hE d 1 s.next
      have h2:=(gE d 1 s.next).le;rw[U7]at h1 h2;generalize A1b T f d 1 s.next=r at h1 h2 |-;have h3:=hB d r.2;have h4:=(gB d r.2).le;try dsimp only
      rw[Stm.cnt,U1];omega
     ·split
      ·have h1:=(A2h T s.next).le
       rw[U7]at h1;generalize s.next.named T=r at h1 |-;have h4:=hE d 1 r.2;have h5:=(gE d 1 r.2).le;have h6:=A5d T (A1b T f d 1 r.2).2 [59];try dsimp only
       rw[Stm.cnt,U1];omega
      ·split
       ·have h4:=hE d 1 s.next
        have h5:=(gE d 1 s.next).le;have h6:=A5d T (A1b T f d 1 s.next).2 [59];rw[U7]at h4 h5;try dsimp only
        rw[Stm.cnt,U1];omega
       ·split
        ·split
         ·have h4:=hE d 1 s.next.next
          have h5:=(gE d 1 s.next.next).le;have h6:=A5d T (A1b T f d 1 s.next.next).2 [59];rw[U7,U7]at h4 h5;try dsimp only
          rw[Stm.cnt,U1];omega
         ·have h4:=hE d 1 s
          have h5:=(gE d 1 s).le;have h6:=A5d T (A1b T f d 1 s).2 [59];try dsimp only
          rw[Stm.cnt,U1];omega
        ·rw[Stm.cnt,U1]
         show (Ex.mk 0 [] 0 [] 0 0).cnt+0+0+1<=_
         rw[A6u];omega
theorem B0f {T:Src}{s:St} (w:List UInt8) (h:s.i<=T.l.length):(s.need T w).2.i<=T.l.length:=(A1k T s w).top h
theorem B15 (src:List UInt8) (at_:Int):U1 (item src at_).body<=8 *src.length:=by
 have htl:(Q5 src).length<=src.length:=A8f src;rw[item];generalize hT:(⟨Q5 src,src.length⟩:Src)=T;have hTl:T.l.length<=src.length:=by rw[<-hT];exact htl
 dsimp only
 split
 ·rename_i hfn
  have h0:=A22 hfn;dsimp only[A7Z];have h1:=(A2h T ⟨1,[]⟩).top (show 1<=_ by omega);generalize (⟨1,[]⟩:St).named T=r at h1 |-;have h2:=B0f [40] h1;generalize (r.2.need T [40]).2=s1 at h2 |-;have h3:=((B2c T 6 [] s1 (by simp)).2 h2).2.1;generalize A52 T 6 [] s1=r2 at h3 |-;have h4:=B0f [41] h3;generalize (r2.2.need T [41]).2=s3 at h4 |-;have h5:=B0f [58] h4;generalize (s3.need T [58]).2=s4 at h5 |-;have h6:=(A5i T s4).top h5;generalize lab T s4=r5 at h6 |-;generalize hr6:(if T.is r5.2.i [115,101,110,100,115]=true then A5T T 6 [] r5.2.next else ([],r5.2))=r6;have h7:r6.2.i<=T.l.length:=by
   rw[<-hr6];split
   ·rename_i hs
    have:=A22 hs;exact((B2k T 6 [] r5.2.next (by simp)).2 (by rw[U7];omega)).2.1
   ·exact h6
  have h8:=(B86 T (A8s T)).1 0 r6.2;have h9:=((A3j T (A8s T)).1 0 r6.2).top h7;omega
 ·split
  ·dsimp only[B29]
   rw[U1];omega
  ·dsimp only
   rw[U1];omega
end Go.Sp
namespace Go.Proofs
open Go.Proofs.Tryz
open Go.Sp
open Go.Fw
theorem _root_.Go.Fw.RowI.none {I:P8}{ty:TypeId}{sz n cp:Nat}{us:List Value} (h:RowI I ty sz (.slice none n cp) n us):n=0:=by
 obtain⟨_,a,cap,e1,_,e3⟩:=h;rcases A6I n with h0|h0
 ·exact h0
 ·obtain⟨b,off,c,fr,f1,_⟩:=e3 h0
  injection e1 with e1
  rw[f1]at e1;cases e1
abbrev C9W (ty:TypeId) (sz n:Nat) (us:List Value):Value->P8->List HItem->Prop:=fun v I' H'=>H'= []/\∃a cp,v=.slice a n cp/\RowI I' ty sz (.slice a n cp) n us
theorem D1T (I:P8) (a:Option Addr) (n cp:Nat) (us:List Value) (hr:RowI I 103 3 (.slice a n cp) n us) (h1:us.all (·.oneCell')=true) (hn:n<=1099511627776):
  CalM prog 43 #[.slice a n cp] I [] (C9W 103 3 n us):=by
 refine CalM.of fun w E hm=>enter (N:=8) func43 rfl [(0,.slice a n cp)] A0Z rfl ?_
 cases a with
 |none=>
  have h0:n=0:=hr.none;subst h0;have hu:us= []:=A05 (by have:=hr.len;simpa using this);subst hu;repeat' (first|refine A2k ?_|refine D8 ?_|refine D6 ?_|refine E5 ?_|refine A7 ?_|refine H8 ?_|refine E8 ?_|refine A8 ?_|refine J3 ?_|refine J7 ?_|refine H5 ?_)
  exact⟨I,[],⟨rfl,none,0,rfl,A1L _ _ _ _ _⟩,hm⟩
 |some ad=>
  repeat' (first|refine A2k ?_|refine A5O ?_ hm;clear hm;intro bb _ hm|refine B0d ?_ hm (hr:=hr) (h1:=h1);clear hm;intro a2 cp2 _ hm;try simp only[G5]at hm|refine D8 ?_|refine D6 ?_|refine E5 ?_|refine A7 ?_|refine E8 ?_|refine A8 ?_|refine G7 ?_|refine J3 ?_|refine J7 ?_|refine F7 ?_)
  simp only[V9]at hm |-;obtain⟨I3,hle3,hm3,hrow3⟩:=(hm.front 0 rfl).freeze;exact⟨I3,[],⟨rfl,a2,cp2,rfl,hrow3⟩,hm3.left (H:= [])⟩
theorem C3w (I:P8) (a:Option Addr) (n cp:Nat) (us:List Value) (hr:RowI I 106 2 (.slice a n cp) n us) (h1:us.all (·.oneCell')=true) (hn:n<=1099511627776):
  CalM prog 44 #[.slice a n cp] I [] (C9W 106 2 n us):=by
 refine CalM.of fun w E hm=>enter (N:=8) func44 rfl [(0,.slice a n cp)] A0Z rfl ?_
 cases a with
 |none=>
  have h0:n=0:=hr.none;subst h0;have hu:us= []:=A05 (by have:=hr.len;simpa using this);subst hu;repeat' (first|refine A2k ?_|refine D8 ?_|refine D6 ?_|refine E5 ?_|refine A7 ?_|refine H8 ?_|refine E8 ?_|refine A8 ?_|refine J3 ?_|refine J7 ?_|refine H5 ?_)
  exact⟨I,[],⟨rfl,none,0,rfl,A1L _ _ _ _ _⟩,hm⟩
 |some ad=>
  repeat' (first|refine A2k ?_|refine A5O ?_ hm;clear hm;intro bb _ hm|refine B0d ?_ hm (hr:=hr) (h1:=h1);clear hm;intro a2 cp2 _ hm;try simp only[G5]at hm|refine D8 ?_|refine D6 ?_|refine E5 ?_|refine A7 ?_|refine E8 ?_|refine A8 ?_|refine G7 ?_|refine J3 ?_|refine J7 ?_|refine F7 ?_)
  simp only[V9]at hm |-;obtain⟨I3,hle3,hm3,hrow3⟩:=(hm.front 0 rfl).freeze;exact⟨I3,[],⟨rfl,a2,cp2,rfl,hrow3⟩,hm3.left (H:= [])⟩
theorem C3v (I:P8) (a:Option Addr) (n cp:Nat) (us:List Value) (hr:RowI I 85 4 (.slice a n cp) n us) (h1:us.all (·.oneCell')=true) (hn:n<=1099511627776):
  CalM prog 76 #[.slice a n cp] I [] (C9W 85 4 n us):=by
 refine CalM.of fun w E hm=>enter (N:=8) func76 rfl [(0,.slice a n cp)] A0Z rfl ?_
 cases a with
 |none=>
  have h0:n=0:=hr.none;subst h0;have hu:us= []:=A05 (by have:=hr.len;simpa using this);subst hu;repeat' (first|refine A2k ?_|refine D8 ?_|refine D6 ?_|refine E5 ?_|refine A7 ?_|refine H8 ?_|refine E8 ?_|refine A8 ?_|refine J3 ?_|refine J7 ?_|refine H5 ?_)
  exact⟨I,[],⟨rfl,none,0,rfl,A1L _ _ _ _ _⟩,hm⟩
 |some ad=>
  repeat' (first|refine A2k ?_|refine A5O ?_ hm;clear hm;intro bb _ hm|refine B0d ?_ hm (hr:=hr) (h1:=h1);clear hm;intro a2 cp2 _ hm;try simp only[G5]at hm|refine D8 ?_|refine D6 ?_|refine E5 ?_|refine A7 ?_|refine E8 ?_|refine A8 ?_|refine G7 ?_|refine J3 ?_|refine J7 ?_|refine F7 ?_)
  simp only[V9]at hm |-;obtain⟨I3,hle3,hm3,hrow3⟩:=(hm.front 0 rfl).freeze;exact⟨I3,[],⟨rfl,a2,cp2,rfl,hrow3⟩,hm3.left (H:= [])⟩
theorem B71 (l:List Sp.Par):(l.flatMap A2L).all (·.oneCell')=true:=by
 induction l with
 |nil=>rfl
 |cons p l ih=>rw[A0c,A5G,ih];rfl
theorem C1c (l:List Sp.Rf):(l.flatMap A27).all (·.oneCell')=true:=by
 induction l with
 |nil=>rfl
 |cons p l ih=>rw[A0c,A5G,ih];rfl
theorem C6S (l:List Sp.Dg):(l.flatMap A5F).all (·.oneCell')=true:=by
 induction l with
 |nil=>rfl
 |cons p l ih=>rw[A0c,A5G,ih];rfl
structure CpX where
 k:Nat
 I:P8
 a:Option Addr
 cp:Nat
 xs:List Value
abbrev D7w (e:Sp.Ex):Value->P8->List HItem->Prop:=fun v I' H'=>H'= []/\∃ea ec xs,v=.agg (A0E e ea ec).toArray/\RowI I' 109 6 (.slice ea e.args.length ec) e.args.length xs/\Z7 I' e.args xs
theorem B9I:∀(n:Nat) (e:Sp.Ex),SizeOf.sizeOf e<=n->e.small->∀(I:P8) (ea:Option Addr) (ec:Nat) (xs:List Value),RowI I 109 6 (.slice ea e.args.length ec) e.args.length xs->Z7 I e.args xs->
  CalM prog 115 #[.agg (A0E e ea ec).toArray] I [] (D7w e):=by
 intro n;induction n with
 |zero=>intro e h;cases e;simp at h
 |succ n ih=>
 intro e hsz hsm I ea ec xs hr hx;obtain⟨hal,hasm⟩:=A4u hsm;refine CalM.of fun w E hm=>enter (N:=22) func115 rfl [(0,.agg (A0E e ea ec).toArray)] A0Z rfl ?_
 repeat' (first|refine A0T (d:=1) ?_ hm;clear hm;intro b1 _ hm|refine X8 (d:=2) ?_ hm;clear hm;intro b2 _ hm|refine J6 ?_ hm|refine D8 ?_|refine D6 ?_|refine G6 ?_|refine D5 ?_|refine E5 ?_|refine A7 ?_|refine E8 ?_|refine A8 ?_|refine F6 ?_)
 have hm:=hm.nil 109 6;refine U3 (fun x:CpX=> [(1,ptr b1),(2,ptr b2),(3,.slice x.a x.k x.cp),(7,.slice ea e.args.length ec),(8,nt e.args.length),(9,nt x.k)])
  (fun x w'=>Mem E x.I [C0m x.k x.a x.cp x.xs,.cell b2 ex0 109,.cell b1 (A0E e ea ec) 109] w'/\Le I x.I/\Z7 x.I (e.args.take x.k) x.xs/\x.k<=e.args.length)
  (fun x=>e.args.length-x.k) ⟨0,I,none,0,[]⟩ (by exact⟨rfl,rfl,rfl,rfl,rfl,rfl,trivial⟩) ⟨hm,Le.refl _,.nil,H9 _⟩ ?_
 clear hm;rintro⟨k,I1,a1,cp1,xs1⟩ w2 ⟨hm,hle1,hxs,hk⟩;dsimp only at hm hle1 hxs hk |-;by_cases hlt:k<e.args.length
 ·have hg:e.args[k]?=some e.args[k]:=F9 hlt
  have hme:e.args[k]∈e.args:=O1 hlt;obtain⟨ea2,ec2,xs2,hc2,hr2,hx2⟩:=(hx.get hg).out;have hsm2:=A2m hasm hg;have hsz2:=A3o hme;generalize e.args[k]=y at hg hc2 hr2 hx2 hsm2 hsz2;have hcall:=fun (I':P8) (m:Le I I')=>ih y (by omega) hsm2 I' ea2 ec2 xs2 (hr2.le m) (Z7.le m _ _ hx2)
  have htk:e.args.take (k+1)=e.args.take k++ [y]:=by rw[A2N,hg];rfl
  have hri:=hr.le hle1;repeat' (first|refine O7 ?_ (hr:=hri);intro bt ot hpt;rw[show ((k:Int).toNat *6)=k *6 from rfl,hc2]at hpt|refine F8 ?_ hm (hc:=hcall _ hle1);clear hm;rintro _ I2 _ _ ⟨rfl,ea3,ec3,xs3,rfl,hr3,hx3⟩ hle hm;have hleI2:=hle;try simp only[G5]at hm|refine Y2 (d:=5) ?_ hm;clear hm;intro b5 _ hm|refine A2P (d:=17) ?_ hm;clear hm;intro a17 cp17 _ _ hm;try simp only[G5]at hm|refine Q7 ?_ hm|refine U0 ?_ hm|refine D8 ?_|refine D6 ?_|refine J8 ?_|refine O9 ?_|refine E5 ?_|refine A7 ?_|refine D7 ?_|refine E8 ?_|refine A8 ?_|refine F6 ?_|refine G7 ?_|(refine C9 (ht:=fun _=>?_) (hf:=fun _=>?_)<;>try first|contradiction|omega))
  refine L6 (⟨k+1,I2,_,_,_⟩:CpX) (by exact⟨rfl,rfl,rfl,rfl,rfl,rfl,trivial⟩) ⟨hm.tl,hle1.trans hleI2,?_,by dsimp only;omega⟩ (by dsimp only;omega)
  dsimp only
  rw[htk];exact(Z7.le hleI2 _ _ hxs).snoc (A8J hr3 hx3)
 ·obtain rfl:k=e.args.length:=by omega
  rw[V7]at hxs;repeat' (first|refine Q7 ?_ hm|refine P6 ?_ hm;clear hm;intro _ hm;try simp only[G5]at hm|refine P5 hm (k:=?_);clear hm;intro _ hm;try simp only[G5]at hm|refine A0a ?_ hm|refine D8 ?_|refine J8 ?_|refine D5 ?_|refine E5 ?_|refine A7 ?_|refine H6 ?_|refine G9 ?_|refine E8 ?_|refine A8 ?_|refine O8 ?_|refine J3 ?_|(refine C9 (ht:=fun _=>?_) (hf:=fun _=>?_)<;>try first|contradiction|omega))
  obtain⟨I3,hle3,hm3,hrow3⟩:=(hm.front 0 rfl).freeze;exact⟨I3,[],⟨rfl,a1,cp1,xs1,rfl,hrow3,Z7.le hle3 _ _ hxs⟩,hm3.left (H:= [])⟩
abbrev D7x (l:List Sp.Stm):Value->P8->List HItem->Prop:=fun v I' H'=>H'= []/\∃a c xs,v=.slice a l.length c/\RowI I' 111 15 (.slice a l.length c) l.length xs/\V4 I' l xs
theorem C5M:∀(n:Nat) (l:List Sp.Stm),SizeOf.sizeOf l<=n->l.length<=64->A0j l->∀(I:P8) (a:Option Addr) (c:Nat) (xs:List Value),RowI I 111 15 (.slice a l.length c) l.length xs->V4 I l xs->
  CalM prog 77 #[.slice a l.length c] I [] (D7x l):=by
 intro n;induction n with
 |zero=>intro l h;cases l<;>simp at h
 |succ n ih=>
 intro l hsz hll hsm I a c xs hr hx;refine CalM.of fun w E hm=>enter (N:=30) func77 rfl [(0,.slice a l.length c)] A0Z rfl ?_
 repeat' (first|refine D8 ?_|refine D6 ?_|refine G6 ?_|refine E5 ?_|refine A7 ?_|refine E8 ?_|refine A8 ?_|refine F6 ?_)
 have hm:=hm.nil 111 15;refine U3 (fun x:CpX=> [(3,.slice x.a x.k x.cp),(6,.slice a l.length c),(7,nt l.length),(8,nt x.k)])
  (fun x w'=>Mem E x.I [B8k x.k x.a x.cp x.xs] w'/\Le I x.I/\V4 x.I (l.take x.k) x.xs/\x.k<=l.length)
  (fun x=>l.length-x.k) ⟨0,I,none,0,[]⟩ (by exact⟨rfl,rfl,rfl,rfl,trivial⟩) ⟨hm,Le.refl _,.nil,H9 _⟩ ?_
 clear hm;rintro⟨k,I1,a1,cp1,xs1⟩ w2 ⟨hm,hle1,hxs,hk⟩;dsimp only at hm hle1 hxs hk |-;by_cases hlt:k<l.length
 ·have hg:l[k]?=some l[k]:=F9 hlt
  have hme:=A3v (O1 hlt);obtain⟨ea2,ec2,ex2,a2,c2,xs2,a3,c3,xs3,hc2,hr2,hx2,hr3,hx3,hr4,hx4⟩:=(hx.get hg).out;have hsm2:=A1W hsm hg;generalize l[k]=y at hg hc2 hr2 hx2 hr3 hx3 hr4 hx4 hsm2 hme;obtain⟨s1,s2,s3,s4,s5⟩:=A15 hsm2;obtain⟨z1,z2⟩:=A5n (s:=y);have hce:=fun (I':P8) (m:Le I I')=>B9I (SizeOf.sizeOf y.e) y.e (H7 _) s1 I' ea2 ec2 ex2 (hr2.le m) (Z7.le m _ _ hx2)
  have hct:=fun (I':P8) (m:Le I I')=>ih y.thn (by omega) s2 s3 I' a2 c2 xs2 (hr3.le m) (V4.le m _ _ hx3)
  have hcl:=fun (I':P8) (m:Le I I')=>ih y.els (by omega) s4 s5 I' a3 c3 xs3 (hr4.le m) (V4.le m _ _ hx4)
  have htk:l.take (k+1)=l.take k++ [y]:=by rw[A2N,hg];rfl
  have hri:=hr.le hle1;repeat' (first|refine A6T (id:=5) (hm.perm pm0) [([0,1,3,4,6,7],[2]),([9],[5]),([],[8])] 10 (h:=?_);clear hm;intro wd hR hm|refine O7 ?_ (hr:=hri);intro bt ot hpt;rw[show ((k:Int).toNat *15)=k *15 from rfl,hc2]at hpt|refine V8 (d:=14) ?_ hm (hc:=hce _ hle1);clear hm;rintro _ I2 _ _ ⟨rfl,ea3,ec3,ex3,rfl,hr5,hx5⟩ hle hm;have hleI2:=hle;try simp only[G5]at hm|refine V8 (d:=17) ?_ hm (hc:=hct _ (hle1.trans hleI2));clear hm;rintro _ I3 _ _ ⟨rfl,a4,c4,xs4,rfl,hr6,hx6⟩ hle hm;have hleI3:=hle;try simp only[G5]at hm|refine V8 (d:=20) ?_ hm (hc:=hcl _ ((hle1.trans hleI2).trans hleI3));clear hm;rintro _ I4 _ _ ⟨rfl,a5,c5,xs5,rfl,hr7,hx7⟩ hle hm;have hleI4:=hle;try simp only[G5]at hm|refine A0k ?_ hR|refine B7N ?_ hR|refine B1s ?_|refine B1r ?_|refine A0K ?_|refine C4y ?_|refine B3U ?_;replace hm:=hR.back hm;clear hR;try simp only[G5]at hm|refine Y2 (d:=5) ?_ hm;clear hm;intro b5 _ hm|refine A2P (d:=27) ?_ hm;clear hm;intro a27 cp27 _ _ hm;try simp only[G5]at hm|refine Q7 ?_ hm|refine U0 ?_ hm|refine P5 hm (k:=?_);clear hm;intro _ hm;try simp only[G5]at hm|refine A3f ?_ hm;clear hm;intro _ hm;try simp only[G5]at hm|refine D8 ?_|refine D6 ?_|refine J8 ?_|refine O9 ?_|refine D5 ?_|refine E5 ?_|refine A7 ?_|refine D7 ?_|refine E8 ?_|refine A8 ?_|refine F6 ?_|refine G7 ?_|(refine C9 (ht:=fun _=>?_) (hf:=fun _=>?_)<;>try first|contradiction|omega)|refine N8 ?_)
  refine L6 (⟨k+1,I4,_,_,_⟩:CpX) (by exact⟨rfl,rfl,rfl,rfl,trivial⟩) ⟨hm.tl,((hle1.trans hleI2).trans hleI3).trans hleI4,?_,by dsimp only;omega⟩ (by dsimp only;omega)
  dsimp only
  rw[htk];exact(V4.le ((hleI2.trans hleI3).trans hleI4) _ _ hxs).snoc (B09 (hr5.le (hleI3.trans hleI4)) (Z7.le (hleI3.trans hleI4) _ _ hx5) (hr6.le hleI4) (V4.le hleI4 _ _ hx6) hr7 hx7)
 ·obtain rfl:k=l.length:=by omega
  rw[V7]at hxs;repeat' (first|refine D8 ?_|refine D6 ?_|refine J8 ?_|refine E5 ?_|refine A7 ?_|refine H6 ?_|refine G9 ?_|refine E8 ?_|refine A8 ?_|refine O8 ?_|refine J3 ?_|refine J7 ?_|(refine C9 (ht:=fun _=>?_) (hf:=fun _=>?_)<;>try first|contradiction|omega))
  obtain⟨I3,hle3,hm3,hrow3⟩:=(hm.front 0 rfl).freeze;exact⟨I3,[],⟨rfl,a1,cp1,xs1,rfl,hrow3,V4.le hle3 _ _ hxs⟩,hm3.left (H:= [])⟩
end Go.Proofs
