/- Own work: texts SpecSmall, SpecCnt, SpecAll, SpecRuns, SpecChange, SpecNames, one behind the other. -/
import Derived.Test.YtfjdfdgpkncpfaaGreatDoorQb7
set_option maxHeartbeats 64000000
section
namespace Go.Sp
mutual
def Ex.small:Ex→Prop
 | .mk _ _ _ args _ _=>args.length≤64∧A0w args
def A0w:List Ex→Prop
 | []=>True
 |e::es=>e.small∧A0w es
 end
mutual
def Stm.small:Stm→Prop
 | .mk _ _ _ _ _ e thn els _ _=>e.small∧thn.length≤64∧X4 thn∧els.length≤64∧X4 els
def X4:List Stm→Prop
 | []=>True
 |e::es=>e.small∧X4 es
 end
theorem A5X:∀ {l:List Ex}{e:Ex},A0w l→e.small→A0w (l++ [e])
 | [],e,_,h=>by rw[List.nil_append,A0w,A0w];exact⟨h,trivial⟩
 |a::l,e,h,he=>by
  rw[A0w] at h
  rw[List.cons_append,A0w]
  exact⟨h.1,A5X h.2 he⟩
theorem A5E:∀ {l:List Stm}{e:Stm},X4 l→e.small→X4 (l++ [e])
 | [],e,_,h=>by rw[List.nil_append,X4,X4];exact⟨h,trivial⟩
 |a::l,e,h,he=>by
  rw[X4] at h
  rw[List.cons_append,X4]
  exact⟨h.1,A5E h.2 he⟩
theorem A0G:∀ {l:List Ex}{i:Nat}{e:Ex},A0w l→l[i]?=some e→e.small
 | [],_,_,_,h=>by simp at h
 |a::l,0,e,h,he=>by
  rw[A0w] at h
  simp only[List.getElem?_cons_zero,Option.some.injEq] at he
  exact he ▸ h.1
 |a::l,i+1,e,h,he=>by
  rw[A0w] at h
  exact A0G h.2 (by simpa using he)
theorem A1J:∀ {l:List Stm}{i:Nat}{e:Stm},X4 l→l[i]?=some e→e.small
 | [],_,_,_,h=>by simp at h
 |a::l,0,e,h,he=>by
  rw[X4] at h
  simp only[List.getElem?_cons_zero,Option.some.injEq] at he
  exact he ▸ h.1
 |a::l,i+1,e,h,he=>by
  rw[X4] at h
  exact A1J h.2 (by simpa using he)
theorem A1C (k n f t:Nat) (nm:List UInt8):(Ex.mk k nm n [] f t).small:=by rw[Ex.small,A0w];exact⟨by simp,trivial⟩
theorem A9n (T:Src):∀f,(∀d s,(A1p T f d s).1.small)∧(∀d l s,l.length≤5→A0w l→(A17 T f d l s).1.length≤5∧A0w (A17 T f d l s).1)∧(∀d m s,(Y2 T f d m s).1.small)∧(∀d m e s,Ex.small e→(opL T f d m e s).1.small)
 |0=>⟨fun _ _=>by rw[A1p];exact A1C _ _ _ _ _,fun _ _ _ h1 h2=>by rw[A17];exact⟨h1,h2⟩,fun _ _ _=>by rw[Y2];exact A1C _ _ _ _ _,fun _ _ _ _ h=>by rw[opL];exact h⟩
 |f+1=>by
  obtain⟨hA,hL,hE,hO⟩:=A9n T f
  refine⟨fun d s=>?_,fun d l s h1 h2=>?_,fun d m s=>?_,fun d m e s h=>?_⟩
  ·rw[A1p]
   dsimp only
   split
   ·exact A1C _ _ _ _ _
   ·split
    ·exact A1C _ _ _ _ _
    ·split
     ·split<;>exact A1C _ _ _ _ _
     ·split
      ·exact hE _ _ _
      ·split
       ·exact A1C _ _ _ _ _
       ·split
        ·exact A1C _ _ _ _ _
        ·have:=hL (d+1) [] s.next.next (by simp) (by rw[A0w];trivial)
         rw[Ex.small]
         exact⟨by omega,this.2⟩
  ·rw[A17]
   split
   ·exact⟨h1,h2⟩
   ·split
    ·exact⟨h1,h2⟩
    ·rename_i h5
     have hs:=A5X h2 (hE d 1 s)
     have hl:(l++ [(Y2 T f d 1 s).1]).length≤5:=by simp;omega
     try dsimp only
     split
     ·exact hL _ _ _ hl hs
     ·exact⟨hl,hs⟩
  ·rw[Y2]
   try dsimp only
   exact hO _ _ _ _ (hA _ _)
  ·rw[opL]
   try dsimp only
   split
   ·exact h
   ·refine hO _ _ _ _ ?_
    rw[Ex.small,A0w,A0w,A0w]
    exact⟨by simp,h,hE _ _ _,trivial⟩
theorem A0H:X4 []:=by rw[X4];trivial
theorem A41 (k a lb f t:Nat) (o:Bool) (nm:List UInt8) (e:Ex) (h:e.small):(Stm.mk k nm a lb o e [] [] f t).small:=by
 rw[Stm.small];exact⟨h,by simp,A0H,by simp,A0H⟩
theorem A5D (T:Src):∀f,(∀d s,(block T f d s).1.length≤40∧X4 (block T f d s).1)∧(∀d l s,l.length≤40→X4 l→(A2O T f d l s).1.length≤40∧X4 (A2O T f d l s).1)∧(∀d s,(stm T f d s).1.small)
 |0=>⟨fun _ _=>by rw[block];exact⟨by simp,A0H⟩,fun _ _ _ h1 h2=>by rw[A2O];exact⟨h1,h2⟩,fun _ s=>by rw[stm];exact A41 _ _ _ _ _ _ _ _ (A1C _ _ _ _ _)⟩
 |f+1=>by
  obtain⟨hB,hL,hS⟩:=A5D T f
  have hE:=(A9n T f).2.2.1
  refine⟨fun d s=>?_,fun d l s h1 h2=>?_,fun d s=>?_⟩
  ·rw[block]
   split
   ·exact⟨by simp,A0H⟩
   ·split
    ·exact⟨by simp,A0H⟩
    ·dsimp only
     exact hL _ _ _ (by simp) A0H
  ·rw[A2O]
   split
   ·exact⟨h1,h2⟩
   ·split
    ·exact⟨h1,h2⟩
    ·dsimp only
     exact hL _ _ _ (by simp;omega) (A5E h2 (hS d s))
  ·rw[stm]
   dsimp only
   have two:∀(k a lb f t:Nat) (o:Bool) (nm:List UInt8) (e:Ex) (b c:List Stm),e.small→b.length≤40∧X4 b→c.length≤40∧X4 c→(Stm.mk k nm a lb o e b c f t).small:=fun k a lb f t o nm e b c h1 h2 h3=>by
    rw[Stm.small];exact⟨h1,by omega,h2.2,by omega,h3.2⟩
   have nil2:([]:List Stm).length≤40∧X4 []:=⟨by simp,A0H⟩
   repeat' split
   all_goals first
    |exact A41 _ _ _ _ _ _ _ _ (hE _ _ _)
    |exact two _ _ _ _ _ _ _ _ _ _ (hE _ _ _) (hB _ _) (hB _ _)
    |exact two _ _ _ _ _ _ _ _ _ _ (hE _ _ _) (hB _ _) nil2
    |exact A41 _ _ _ _ _ _ _ _ (A1C _ _ _ _ _)
theorem A6R (T:Src):∀(f:Nat) (l:List Par) (s:St),l.length≤5→(A2v T f l s).1.length≤5∧(s.i≤T.l.length→s.i≤(A2v T f l s).2.i∧(A2v T f l s).2.i≤T.l.length∧(A2v T f l s).2.ds.length≤s.ds.length+2 *((A2v T f l s).2.i-s.i)+3 *f)
 |0,l,s,h=>by rw[A2v];exact⟨h,fun hi=>⟨Nat.le_refl _,hi,by dsimp only;omega⟩⟩
 |f+1,l,s,h=>by
  rw[A2v]
  split
  ·exact⟨h,fun hi=>⟨Nat.le_refl _,hi,by dsimp only;omega⟩⟩
  ·split
   ·exact⟨h,fun hi=>⟨Nat.le_refl _,hi,by simp[St.bad];omega⟩⟩
   ·dsimp only
    have g1:=A0q T s
    have g2:=X6 T (s.named T).2 [58]
    have g3:=A2i T ((s.named T).2.need T [58]).2
    have a1:=g1.le;have a2:=g1.top;have a3:=g1.ds
    have b1:=g2.le;have b2:=g2.top;have b3:=g2.ds
    have c1:=g3.le;have c2:=g3.top;have c3:=g3.ds
    split
    ·exact⟨h,fun hi=>⟨by dsimp only;omega,b2 (a2 hi),by dsimp only;omega⟩⟩
    ·split
     ·rename_i h5
      have h6:=is_lt h5
      have ih:=A6R T f (l++ [⟨(s.named T).1,(lab T ((s.named T).2.need T [58]).2).1,(T.tok s.i).pos⟩]) (lab T ((s.named T).2.need T [58]).2).2.next (by simp;omega)
      refine⟨ih.1,fun hi=>?_⟩
      have e1:(lab T ((s.named T).2.need T [58]).2).2.next.i=(lab T ((s.named T).2.need T [58]).2).2.i+1:=rfl
      have e2:(lab T ((s.named T).2.need T [58]).2).2.next.ds.length=(lab T ((s.named T).2.need T [58]).2).2.ds.length:=rfl
      obtain⟨i1,i2,i3⟩:=ih.2 (by omega)
      exact⟨by omega,i2,by omega⟩
     ·exact⟨by simp;omega,fun hi=>⟨by dsimp only;omega,c2 (b2 (a2 hi)),by dsimp only;omega⟩⟩
theorem A6V (T:Src):∀(f:Nat) (l:List Rf) (s:St),l.length≤5→(A2E T f l s).1.length≤5∧(s.i≤T.l.length→s.i≤(A2E T f l s).2.i∧(A2E T f l s).2.i≤T.l.length∧(A2E T f l s).2.ds.length≤s.ds.length+2 *((A2E T f l s).2.i-s.i)+3 *f)
 |0,l,s,h=>by rw[A2E];exact⟨h,fun hi=>⟨Nat.le_refl _,hi,by dsimp only;omega⟩⟩
 |f+1,l,s,h=>by
  rw[A2E]
  split
  ·exact⟨h,fun hi=>⟨Nat.le_refl _,hi,by simp[St.bad];omega⟩⟩
  ·dsimp only
   have g1:=A0q T s
   have a1:=g1.le;have a2:=g1.top;have a3:=g1.ds
   split
   ·rename_i h5
    have h6:=is_lt h5
    have ih:=A6V T f (l++ [⟨(s.named T).1,(T.tok s.i).pos⟩]) (s.named T).2.next (by simp;omega)
    refine⟨ih.1,fun hi=>?_⟩
    have e1:(s.named T).2.next.i=(s.named T).2.i+1:=rfl
    have e2:(s.named T).2.next.ds.length=(s.named T).2.ds.length:=rfl
    obtain⟨i1,i2,i3⟩:=ih.2 (by omega)
    exact⟨by omega,i2,by omega⟩
   ·exact⟨by simp;omega,fun hi=>⟨by dsimp only;omega,a2 hi,by dsimp only;omega⟩⟩
structure Itm.small (it:Itm):Prop where
 params:it.params.length≤5
 sends:it.sends.length≤5
 body:it.body.length≤40
 stms:X4 it.body
 diags:it.diags.length≤40000000
theorem B12 (T:Src) (at_:Int) (size:Nat) (s:St) (hT:T.l.length≤1048576) (hi:s.i≤T.l.length) (hd:s.ds= []):
  (A4q T at_ size s).1.params.length≤5∧(A4q T at_ size s).1.sends.length≤5∧(A4q T at_ size s).1.body.length≤40∧X4 (A4q T at_ size s).1.body∧(A4q T at_ size s).2.ds.length≤39000000:=by
 rw[A4q]
 dsimp only
 have g1:=A0q T s
 generalize s.named T=r at g1 ⊢
 have g2:=X6 T r.2 [40]
 generalize r.2.need T [40]=s1 at g2 ⊢
 have p:=A6R T 6 [] s1.2 (by simp)
 generalize A2v T 6 [] s1.2=r2 at p ⊢
 have g3:=X6 T r2.2 [41]
 generalize r2.2.need T [41]=s3 at g3 ⊢
 have g4:=X6 T s3.2 [58]
 generalize s3.2.need T [58]=s4 at g4 ⊢
 have g5:=A2i T s4.2
 generalize lab T s4.2=r5 at g5 ⊢
 have hd0:s.ds.length=0:=by rw[hd];rfl
 have a2:=g1.top hi;have a3:=g1.ds;have a1:=g1.le
 have b2:=g2.top a2;have b3:=g2.ds;have b1:=g2.le
 obtain⟨p1,p2⟩:=p
 obtain⟨p3,p4,p5⟩:=p2 b2
 have c2:=g3.top p4;have c3:=g3.ds;have c1:=g3.le
 have d2:=g4.top c2;have d3:=g4.ds;have d1:=g4.le
 have e2:=g5.top d2;have e3:=g5.ds;have e1:=g5.le
 have q:∀r6:List Rf×St,r6=(if T.is r5.2.i [115,101,110,100,115]=true then A2E T 6 [] r5.2.next else ([],r5.2))→r6.1.length≤5∧r6.2.i≤T.l.length∧r6.2.ds.length≤r5.2.ds.length+2 *(T.l.length)+18:=fun r6 h=>by
  by_cases hs:T.is r5.2.i [115,101,110,100,115]=true
  ·rw[if_pos hs] at h
   have hlt:=is_lt hs
   have q:=A6V T 6 [] r5.2.next (by simp)
   have f1:r5.2.next.i=r5.2.i+1:=rfl
   have f2:r5.2.next.ds.length=r5.2.ds.length:=rfl
   obtain⟨q3,q4,q5⟩:=q.2 (by omega)
   rw[h]
   exact⟨q.1,q4,by omega⟩
  ·rw[if_neg hs] at h
   rw[h]
   exact⟨by simp,e2,by dsimp only;omega⟩
 obtain⟨r6,h6⟩:∃r6,r6=(if T.is r5.2.i [115,101,110,100,115]=true then A2E T 6 [] r5.2.next else ([],r5.2)):=⟨_,rfl⟩
 obtain⟨q1,q2,q3⟩:=q r6 h6
 rw[←h6]
 have hb:=(A5D T (A4P T)).1 0 r6.2
 have gb:=(A0N T (A4P T)).1 0 r6.2
 have h1:=gb.ds
 have h2:=gb.top q2
 exact⟨p1,q1,hb.1,hb.2,by omega⟩
theorem B18 (T:Src) (at_:Int) (size:Nat) (hT:T.l.length≤1048576):
  (A3H T at_ size).1.params.length≤5∧(A3H T at_ size).1.sends.length≤5∧(A3H T at_ size).1.body.length≤40∧X4 (A3H T at_ size).1.body∧(A3H T at_ size).2.ds.length≤39000000:=by
 rw[A3H]
 split
 ·rename_i h
  exact B12 T at_ size ⟨1,[]⟩ hT (is_lt h) rfl
 ·split
  ·rename_i h
   have hlt:=is_lt h
   rw[A8N]
   dsimp only
   have g1:=A0q T ⟨1,[]⟩
   generalize (⟨1,[]⟩:St).named T=r at g1 ⊢
   have g2:=X6 T r.2 [58]
   generalize r.2.need T [58]=s1 at g2 ⊢
   have g3:=A2i T s1.2
   generalize lab T s1.2=r2 at g3 ⊢
   have g4:=X6 T r2.2 [59]
   generalize r2.2.need T [59]=s3 at g4 ⊢
   have a2:=g1.top hlt;have a3:=g1.ds;have a1:=g1.le
   have b2:=g2.top a2;have b3:=g2.ds;have b1:=g2.le
   have c2:=g3.top b2;have c3:=g3.ds;have c1:=g3.le
   have d2:=g4.top c2;have d3:=g4.ds;have d1:=g4.le
   dsimp only[List.length_nil] at a1 a3
   exact⟨by simp,by simp,by simp,A0H,by omega⟩
  ·exact⟨by simp,by simp,by simp,A0H,by simp[St.bad]⟩
theorem A4S (src:List UInt8) (at_:Int) (h:src.length≤1048576):(item src at_).small:=by
 have hl:=A4F src
 rw[A6L]
 have hT:(Src.mk (O3 src) src.length).l.length≤1048576:=by dsimp only;omega
 generalize Src.mk (O3 src) src.length=T at hT ⊢
 obtain⟨h1,h2,h3,h4,h5⟩:=B18 T at_ src.length hT
 rw[B4A]
 refine⟨h1,h2,h3,h4,?_⟩
 dsimp only
 split
 ·simp[St.bad];omega
 ·omega
theorem B0G (src:List UInt8) (at_:Int):(item src at_).at_=at_:=by
 rw[A6L]
 show (A3H _ at_ _).1.at_=at_
 rw[A3H]
 split
 ·rfl
 ·split<;>rfl
theorem B5t (src:List UInt8) (at_:Int):(item src at_).size=src.length:=by
 rw[A6L]
 show (A3H _ at_ _).1.size=src.length
 rw[A3H]
 split
 ·rfl
 ·split<;>rfl
theorem A2q {e:Ex} (h:e.small):e.args.length≤64∧A0w e.args:=by
 cases e with
 |mk k n m a f t=>rw[Ex.small] at h;exact h
theorem A12 {e a:Ex} (h:a∈e.args):SizeOf.sizeOf a<SizeOf.sizeOf e:=by
 cases e with
 |mk k n m l f t=>
  have h':a∈l:=h
  have:=List.sizeOf_lt_of_mem h'
  simp only[Ex.mk.sizeOf_spec]
  omega
theorem A1h {s:Stm} (h:s.small):s.e.small∧s.thn.length≤64∧X4 s.thn∧s.els.length≤64∧X4 s.els:=by
 cases s with
 |mk k n a l o e t x f u=>rw[Stm.small] at h;exact h
theorem A5C {s:Stm}:SizeOf.sizeOf s.thn<SizeOf.sizeOf s∧SizeOf.sizeOf s.els<SizeOf.sizeOf s:=by
 cases s with
 |mk k n a l o e t x f u=>
  simp only[Stm.mk.sizeOf_spec,Stm.thn,Stm.els]
  omega
theorem A4B {l:List Stm}{s:Stm} (h:s∈l):SizeOf.sizeOf s<SizeOf.sizeOf l:=List.sizeOf_lt_of_mem h
mutual
def Ex.cnt:Ex→Nat
 | .mk _ _ _ args _ _=>A0b args+1
def A0b:List Ex→Nat
 | []=>0
 |e::es=>e.cnt+A0b es
 end
mutual
def Stm.cnt:Stm→Nat
 | .mk _ _ _ _ _ e thn els _ _=>e.cnt+N7 thn+N7 els+1
def N7:List Stm→Nat
 | []=>0
 |x::xs=>x.cnt+N7 xs
 end
theorem A2m:∀(l r:List Ex),A0b (l++r)=A0b l+A0b r
 | [],r=>by rw[A0b];simp
 |e::l,r=>by rw[List.cons_append,A0b,A0b,A2m l r];omega
theorem A1z:∀(l r:List Stm),N7 (l++r)=N7 l+N7 r
 | [],r=>by rw[N7];simp
 |e::l,r=>by rw[List.cons_append,N7,N7,A1z l r];omega
theorem A3A (e:Ex):A0b [e]=e.cnt:=by rw[A0b,A0b];omega
theorem A24 (e:Stm):N7 [e]=e.cnt:=by rw[N7,N7];omega
theorem A2j (k n f t:Nat) (nm:List UInt8):(Ex.mk k nm n [] f t).cnt=1:=by rw[Ex.cnt,A0b]
theorem A3n (T:Src) (s:St) (w:List UInt8):s.i≤(s.need T w).2.i:=(X6 T s w).le
theorem B1J (T:Src):∀f,(∀d s,(A1p T f d s).1.cnt≤2 *((A1p T f d s).2.i-s.i)+1)∧(∀d l s,A0b (A17 T f d l s).1≤A0b l+2 *((A17 T f d l s).2.i-s.i)+1)∧
  (∀d m s,(Y2 T f d m s).1.cnt≤2 *((Y2 T f d m s).2.i-s.i)+1)∧(∀d m e s,(opL T f d m e s).1.cnt≤e.cnt+2 *((opL T f d m e s).2.i-s.i))
 |0=>⟨fun _ _=>by rw[A1p];show (Ex.mk 0 [] 0 [] 0 0).cnt≤_;rw[A2j];omega,fun _ _ _=>by rw[A17];dsimp only;omega,
   fun _ _ _=>by rw[Y2];show (Ex.mk 0 [] 0 [] 0 0).cnt≤_;rw[A2j];omega,fun _ _ _ _=>by rw[opL];dsimp only;omega⟩
 |f+1=>by
  obtain⟨hA,hL,hE,hO⟩:=B1J T f
  obtain⟨gA,gL,gE,gO⟩:=A0c T f
  refine⟨fun d s=>?_,fun d l s=>?_,fun d m s=>?_,fun d m e s=>?_⟩
  ·rw[A1p]
   dsimp only
   split
   ·rw[A52];dsimp only;rw[A2j];omega
   ·split
    ·rw[A52];dsimp only;rw[A2j];omega
    ·split
     ·split
      ·dsimp only;rw[A2j];omega
      ·dsimp only;rw[A2j];omega
     ·split
      ·have h1:=hE (d+1) 1 s.next
       have h2:=(gE (d+1) 1 s.next).le
       have h3:=A3n T (Y2 T f (d+1) 1 s.next).2 [41]
       rw[J7] at h1 h2
       dsimp only
       omega
      ·split
       ·rw[A52];dsimp only;rw[A2j];omega
       ·split
        ·dsimp only;rw[A2j];omega
        ·have h1:=hL (d+1) [] s.next.next
         have h2:=(gL (d+1) [] s.next.next).le
         have h3:=A3n T (A17 T f (d+1) [] s.next.next).2 [41]
         rw[J7,J7] at h1 h2
         rw[A0b] at h1
         dsimp only
         rw[Ex.cnt]
         omega
  ·rw[A17]
   split
   ·dsimp only;omega
   ·split
    ·dsimp only;omega
    ·have h1:=hE d 1 s
     have h2:=(gE d 1 s).le
     try dsimp only
     split
     ·have h3:=hL d (l++ [(Y2 T f d 1 s).1]) (Y2 T f d 1 s).2.next
      have h4:=(gL d (l++ [(Y2 T f d 1 s).1]) (Y2 T f d 1 s).2.next).le
      rw[J7] at h3 h4
      rw[A2m,A3A] at h3
      omega
     ·dsimp only
      rw[A2m,A3A]
      omega
  ·rw[Y2]
   try dsimp only
   have h1:=hA d s
   have h2:=(gA d s).le
   have h3:=hO d m (A1p T f d s).1 (A1p T f d s).2
   have h4:=(gO d m (A1p T f d s).1 (A1p T f d s).2).le
   omega
  ·rw[opL]
   try dsimp only
   split
   ·dsimp only;omega
   ·have h1:=hE d (A0l (T.tok s.i).text+1) s.next
    have h2:=(gE d (A0l (T.tok s.i).text+1) s.next).le
    rw[J7] at h1 h2
    generalize Y2 T f d (A0l (T.tok s.i).text+1) s.next=r at h1 h2 ⊢
    have h3:=hO d m (.mk 3 (T.tok s.i).text 0 [e,r.1] e.fr (max r.1.to e.to)) r.2
    have h4:=(gO d m (.mk 3 (T.tok s.i).text 0 [e,r.1] e.fr (max r.1.to e.to)) r.2).le
    rw[Ex.cnt,A0b,A3A] at h3
    omega
theorem A9Q (T:Src):∀f,(∀d s,N7 (block T f d s).1≤8 *((block T f d s).2.i-s.i))∧(∀d l s,N7 (A2O T f d l s).1≤N7 l+8 *((A2O T f d l s).2.i-s.i))∧
  (∀d s,(stm T f d s).1.cnt≤8 *max ((stm T f d s).2.i-s.i) 1)
 |0=>⟨fun _ _=>by rw[block];dsimp only;rw[N7];omega,fun _ _ _=>by rw[A2O];dsimp only;omega,
   fun _ s=>by rw[stm];show (Stm.mk 0 [] 0 0 false (.mk 0 [] 0 [] 0 0) [] [] 0 0).cnt≤_;rw[Stm.cnt,A2j,N7];omega⟩
 |f+1=>by
  obtain⟨hB,hL,hS⟩:=A9Q T f
  obtain⟨gB,gL,gS⟩:=A0N T f
  have hE:=(B1J T f).2.2.1
  have gE:=(A0c T f).2.2.1
  refine⟨fun d s=>?_,fun d l s=>?_,fun d s=>?_⟩
  ·rw[block]
   split
   ·dsimp only;rw[N7];omega
   ·split
    ·dsimp only;rw[N7];omega
    ·have h1:=hL (d+1) [] s.next
     have h2:=(gL (d+1) [] s.next).le
     have h3:=A3n T (A2O T f (d+1) [] s.next).2 [125]
     rw[J7] at h1 h2
     rw[N7] at h1
     try dsimp only
     omega
  ·rw[A2O]
   split
   ·dsimp only;omega
   ·split
    ·dsimp only;omega
    ·have h1:=hS d s
     have h2:=(gS d s).le
     try dsimp only
     split
     ·rename_i he
      have h3:=hL d (l++ [(stm T f d s).1]) (stm T f d s).2.next
      have h4:=(gL d (l++ [(stm T f d s).1]) (stm T f d s).2.next).le
      rw[J7] at h3 h4
      rw[A1z,A24] at h3
      omega
     ·rename_i he
      have h3:=hL d (l++ [(stm T f d s).1]) (stm T f d s).2
      have h4:=(gL d (l++ [(stm T f d s).1]) (stm T f d s).2).le
      rw[A1z,A24] at h3
      omega
  ·rw[stm]
   dsimp only
   split
   ·have h1:=(A0q T s.next).le
    rw[J7] at h1
    generalize s.next.named T=r at h1 ⊢
    generalize hr1:(if (!T.is r.2.i [58])=true then (0,r.2) else lab T r.2.next)=r1
    have h2:r.2.i≤r1.2.i:=by
     rw[←hr1]
     split
     ·exact Nat.le_refl _
     ·have:=(A2i T r.2.next).le
      rw[J7] at this
      omega
    have h3:=A3n T r1.2 [61]
    have h4:=hE d 1 (r1.2.need T [61]).2
    have h5:=(gE d 1 (r1.2.need T [61]).2).le
    have h6:=A3n T (Y2 T f d 1 (r1.2.need T [61]).2).2 [59]
    try dsimp only
    rw[Stm.cnt,N7]
    omega
   ·split
    ·have h1:=hE d 1 s.next
     have h2:=(gE d 1 s.next).le
     rw[J7] at h1 h2
     generalize Y2 T f d 1 s.next=r at h1 h2 ⊢
     have h3:=hB d r.2
     have h4:=(gB d r.2).le
     generalize block T f d r.2=r1 at h3 h4 ⊢
     split
     ·have h5:=hB d r1.2.next
      have h6:=(gB d r1.2.next).le
      rw[J7] at h5 h6
      dsimp only
      try dsimp only
      rw[Stm.cnt]
      omega
     ·dsimp only
      try dsimp only
      rw[Stm.cnt,N7]
      omega
    ·split
     ·have h1:=hE d 1 s.next
      have h2:=(gE d 1 s.next).le
      rw[J7] at h1 h2
      generalize Y2 T f d 1 s.next=r at h1 h2 ⊢
      have h3:=hB d r.2
      have h4:=(gB d r.2).le
      try dsimp only
      rw[Stm.cnt,N7]
      omega
     ·split
      ·have h1:=(A0q T s.next).le
       rw[J7] at h1
       generalize s.next.named T=r at h1 ⊢
       have h4:=hE d 1 r.2
       have h5:=(gE d 1 r.2).le
       have h6:=A3n T (Y2 T f d 1 r.2).2 [59]
       try dsimp only
       rw[Stm.cnt,N7]
       omega
      ·split
       ·have h4:=hE d 1 s.next
        have h5:=(gE d 1 s.next).le
        have h6:=A3n T (Y2 T f d 1 s.next).2 [59]
        rw[J7] at h4 h5
        try dsimp only
        rw[Stm.cnt,N7]
        omega
       ·split
        ·split
         ·have h4:=hE d 1 s.next.next
          have h5:=(gE d 1 s.next.next).le
          have h6:=A3n T (Y2 T f d 1 s.next.next).2 [59]
          rw[J7,J7] at h4 h5
          try dsimp only
          rw[Stm.cnt,N7]
          omega
         ·have h4:=hE d 1 s
          have h5:=(gE d 1 s).le
          have h6:=A3n T (Y2 T f d 1 s).2 [59]
          try dsimp only
          rw[Stm.cnt,N7]
          omega
        ·rw[Stm.cnt,N7]
         show (Ex.mk 0 [] 0 [] 0 0).cnt+0+0+1≤_
         rw[A2j]
         omega
theorem A89 {T:Src}{s:St} (w:List UInt8) (h:s.i≤T.l.length):(s.need T w).2.i≤T.l.length:=(X6 T s w).top h
theorem A84 (src:List UInt8) (at_:Int):N7 (item src at_).body≤8 *src.length:=by
 have htl:(O3 src).length≤src.length:=A4F src
 rw[item]
 generalize hT:(⟨O3 src,src.length⟩:Src)=T
 have hTl:T.l.length≤src.length:=by rw[←hT];exact htl
 dsimp only
 split
 ·rename_i hfn
  have h0:=is_lt hfn
  dsimp only[A4q]
  have h1:=(A0q T ⟨1,[]⟩).top (show 1≤_ by omega)
  generalize (⟨1,[]⟩:St).named T=r at h1 ⊢
  have h2:=A89 [40] h1
  generalize (r.2.need T [40]).2=s1 at h2 ⊢
  have h3:=((A6R T 6 [] s1 (by simp)).2 h2).2.1
  generalize A2v T 6 [] s1=r2 at h3 ⊢
  have h4:=A89 [41] h3
  generalize (r2.2.need T [41]).2=s3 at h4 ⊢
  have h5:=A89 [58] h4
  generalize (s3.need T [58]).2=s4 at h5 ⊢
  have h6:=(A2i T s4).top h5
  generalize lab T s4=r5 at h6 ⊢
  generalize hr6:(if T.is r5.2.i [115,101,110,100,115]=true then A2E T 6 [] r5.2.next else ([],r5.2))=r6
  have h7:r6.2.i≤T.l.length:=by
   rw[←hr6]
   split
   ·rename_i hs
    have:=is_lt hs
    exact((A6V T 6 [] r5.2.next (by simp)).2 (by rw[J7];omega)).2.1
   ·exact h6
  have h8:=(A9Q T (A4P T)).1 0 r6.2
  have h9:=((A0N T (A4P T)).1 0 r6.2).top h7
  omega
 ·split
  ·dsimp only[A8N]
   rw[N7];omega
  ·dsimp only
   rw[N7];omega
abbrev PE:=Nat→List UInt8→Nat→Nat→Nat→Nat→Prop
abbrev PS:=Nat→List UInt8→Nat→Nat→Bool→Nat→Nat→Prop
mutual
def Ex.all (p:PE):Ex→Prop
 | .mk k nm n args f t=>p k nm n args.length f t∧Y4 p args
def Y4 (p:PE):List Ex→Prop
 | []=>True
 |e::es=>e.all p∧Y4 p es
 end
mutual
def Stm.all (p:PE) (q:PS):Stm→Prop
 | .mk k nm a lb o e thn els f t=>q k nm a lb o f t∧e.all p∧P6 p q thn∧P6 p q els
def P6 (p:PE) (q:PS):List Stm→Prop
 | []=>True
 |x::xs=>x.all p q∧P6 p q xs
 end
theorem A6b {p:PE}:∀ {l r:List Ex},Y4 p l→Y4 p r→Y4 p (l++r)
 | [],r,_,h=>h
 |e::l,r,h,g=>by
  rw[Y4] at h
  rw[List.cons_append,Y4]
  exact⟨h.1,A6b h.2 g⟩
theorem A6c {p:PE}{e:Ex} (h:e.all p):Y4 p [e]:=by rw[Y4,Y4];exact⟨h,trivial⟩
theorem A1B {p:PE}:Y4 p []:=by rw[Y4];trivial
theorem O7 {p:PE}{q:PS}:P6 p q []:=by rw[P6];trivial
theorem A73 {p:PE}{q:PS}:∀ {l r:List Stm},P6 p q l→P6 p q r→P6 p q (l++r)
 | [],r,_,h=>h
 |e::l,r,h,g=>by
  rw[P6] at h
  rw[List.cons_append,P6]
  exact⟨h.1,A73 h.2 g⟩
theorem B2M {p:PE}{q:PS}{e:Stm} (h:e.all p q):P6 p q [e]:=by rw[P6,P6];exact⟨h,trivial⟩
theorem A3z {p:PE}:∀ {l:List Ex}{i:Nat}{e:Ex},Y4 p l→l[i]?=some e→e.all p
 | [],_,_,_,h=>by simp at h
 |a::l,0,e,h,hg=>by
  rw[Y4] at h
  simp only[List.getElem?_cons_zero,Option.some.injEq] at hg
  subst hg;exact h.1
 |a::l,i+1,e,h,hg=>by
  rw[Y4] at h
  rw[List.getElem?_cons_succ] at hg
  exact A3z h.2 hg
theorem A4c {p:PE}{q:PS}:∀ {l:List Stm}{i:Nat}{e:Stm},P6 p q l→l[i]?=some e→e.all p q
 | [],_,_,_,h=>by simp at h
 |a::l,0,e,h,hg=>by
  rw[P6] at h
  simp only[List.getElem?_cons_zero,Option.some.injEq] at hg
  subst hg;exact h.1
 |a::l,i+1,e,h,hg=>by
  rw[P6] at h
  rw[List.getElem?_cons_succ] at hg
  exact A4c h.2 hg
theorem A2g {p:PE}{k n f t:Nat}{nm:List UInt8} (h:p k nm n 0 f t):(Ex.mk k nm n [] f t).all p:=by rw[Ex.all];exact⟨h,A1B⟩
theorem Ex.all_node {p:PE}{e:Ex} (h:e.all p):p e.kind e.name e.n e.args.length e.fr e.to∧Y4 p e.args:=by
 cases e;rw[Ex.all] at h;exact h
theorem Stm.all_node {p:PE}{q:PS}{e:Stm} (h:e.all p q):q e.kind e.name e.at_ e.label e.opn e.fr e.to∧e.e.all p∧P6 p q e.thn∧P6 p q e.els:=by
 cases e;rw[Stm.all] at h;exact h
mutual
theorem Ex.all_mono {p q:PE} (h:∀k nm n m f t,p k nm n m f t→q k nm n m f t):∀(e:Ex),e.all p→e.all q
 | .mk k nm n args f t,ha=>by rw[Ex.all] at ha ⊢;exact⟨h _ _ _ _ _ _ ha.1,A7V h args ha.2⟩
theorem A7V {p q:PE} (h:∀k nm n m f t,p k nm n m f t→q k nm n m f t):∀(l:List Ex),Y4 p l→Y4 q l
 | [],_=>A1B
 |e::l,ha=>by rw[Y4] at ha ⊢;exact⟨Ex.all_mono h e ha.1,A7V h l ha.2⟩
 end
mutual
theorem Stm.all_mono {p q:PE}{r s:PS} (h:∀k nm n m f t,p k nm n m f t→q k nm n m f t) (g:∀k nm a l o f t,r k nm a l o f t→s k nm a l o f t):∀(e:Stm),e.all p r→e.all q s
 | .mk k nm a lb o e thn els f t,ha=>by rw[Stm.all] at ha ⊢;exact⟨g _ _ _ _ _ _ _ ha.1,Ex.all_mono h e ha.2.1,A13 h g thn ha.2.2.1,A13 h g els ha.2.2.2⟩
theorem A13 {p q:PE}{r s:PS} (h:∀k nm n m f t,p k nm n m f t→q k nm n m f t) (g:∀k nm a l o f t,r k nm a l o f t→s k nm a l o f t):∀(l:List Stm),P6 p r l→P6 q s l
 | [],_=>O7
 |e::l,ha=>by rw[P6] at ha ⊢;exact⟨Stm.all_mono h g e ha.1,A13 h g l ha.2⟩
 end
structure AtE (T:Src) (p:PE):Prop where
 zero:p 0 [] 0 0 0 0
 bad:∀i,p 5 [] 0 0 (T.tok i).pos (T.tok i).pos
 num:∀i n,n≤1000000000→(T.tok i).kind=2→p 1 [] n 0 (T.tok i).pos ((T.tok i).pos+(T.tok i).text.length)
 var:∀i,name (T.tok i).text=true→p 2 (T.tok i).text 0 0 (T.tok i).pos ((T.tok i).pos+(T.tok i).text.length)
 call:∀i j m,name (T.tok i).text=true→m≤5→i+2≤j→p 4 (T.tok i).text 0 m (T.tok i).pos (T.endOf j)
 op:∀i k1 n1 v1 m1 f1 t1 k2 n2 v2 m2 f2 t2,A0l (T.tok i).text≠0→p k1 n1 v1 m1 f1 t1→p k2 n2 v2 m2 f2 t2→p 3 (T.tok i).text 0 2 f1 (max t2 t1)
theorem B1v {T:Src}{p:PE} (h:AtE T p):∀f,(∀d s,(A1p T f d s).1.all p)∧(∀d l s,l.length≤5→Y4 p l→(A17 T f d l s).1.length≤5∧Y4 p (A17 T f d l s).1)∧
  (∀d m s,(Y2 T f d m s).1.all p)∧(∀d m e s,e.all p→(opL T f d m e s).1.all p)
 |0=>⟨fun _ _=>by rw[A1p];exact A2g h.zero,fun _ _ _ h1 h2=>by rw[A17];exact⟨h1,h2⟩,fun _ _ _=>by rw[Y2];exact A2g h.zero,fun _ _ _ _ h1=>by rw[opL];exact h1⟩
 |f+1=>by
  obtain⟨hA,hL,hE,hO⟩:=B1v h f
  refine⟨fun d s=>?_,fun d l s h1 h2=>?_,fun d m s=>?_,fun d m e s h1=>?_⟩
  ·rw[A1p]
   dsimp only
   split
   ·exact A2g (h.bad _)
   ·split
    ·exact A2g (h.bad _)
    ·split
     ·rename_i hk
      split
      ·exact A2g (h.num _ 0 (by omega) hk)
      ·exact A2g (h.num _ _ (by omega) hk)
     ·split
      ·exact hE _ _ _
      ·split
       ·exact A2g (h.bad _)
       ·rename_i hn
        have hn':name (T.tok s.i).text=true:=by simpa using hn
        split
        ·exact A2g (h.var _ hn')
        ·obtain⟨h1,h2⟩:=hL (d+1) [] s.next.next (by simp) A1B
         dsimp only
         rw[Ex.all]
         have h3:=((A0c T f).2.1 (d+1) [] s.next.next).le
         have h4:=(X6 T (A17 T f (d+1) [] s.next.next).2 [41]).le
         rw[J7,J7] at h3
         exact⟨h.call _ _ _ hn' h1 (by omega),h2⟩
  ·rw[A17]
   split
   ·exact⟨h1,h2⟩
   ·split
    ·exact⟨h1,h2⟩
    ·have h3:=hE d 1 s
     have h4:(l++ [(Y2 T f d 1 s).1]).length≤5:=by simp;omega
     have h5:=A6b h2 (A6c h3)
     dsimp only
     split
     ·exact hL _ _ _ h4 h5
     ·exact⟨h4,h5⟩
  ·rw[Y2]
   try dsimp only
   exact hO _ _ _ _ (hA d s)
  ·rw[opL]
   try dsimp only
   split
   ·exact h1
   ·rename_i ht
    refine hO _ _ _ _ ?_
    have h3:=hE d (A0l (T.tok s.i).text+1) s.next
    generalize (Y2 T f d (A0l (T.tok s.i).text+1) s.next).1=r at h3 ⊢
    cases e with
    |mk k1 n1 v1 a1 f1 t1=>
    cases r with
    |mk k2 n2 v2 a2 f2 t2=>
    have g1:=h1
    have g3:=h3
    rw[Ex.all] at g1 g3
    rw[Ex.all]
    exact⟨h.op _ _ _ _ _ _ _ _ _ _ _ _ _ (by omega) g1.1 g3.1,A6b (A6c h1) (A6c h3)⟩
structure AtS (T:Src) (q:PS):Prop where
 zero:q 0 [] 0 0 false 0 0
 let_:∀i (s:St) lb o j,lb≤255→q 1 (s.named T).1 (T.tok s.i).pos lb o (T.tok i).pos (max (T.endOf j) (T.tok i).pos)
 set:∀i j,name (T.tok i).text=true→q 2 (T.tok i).text (T.tok i).pos 0 false (T.tok i).pos (max (T.endOf j) (T.tok i).pos)
 plain:∀k i j,(k=3∨k=4∨k=6∨k=7∨k=8)→q k [] 0 0 false (T.tok i).pos (max (T.endOf j) (T.tok i).pos)
 send:∀i (s:St) j,q 5 (s.named T).1 (T.tok s.i).pos 0 false (T.tok i).pos (max (T.endOf j) (T.tok i).pos)
theorem C0v (a:Nat) (ha:a<256) (q:Nat) (hq:q<8) (h:bit a q=false):a+2 ^ q<256:=by
 have key:∀a<256,∀q<8,bit a q=false→a+2 ^ q<256:=by decide+kernel
 exact key a ha q hq h
theorem A6N (T:Src):∀(f n:Nat) (s:St),n<256→(A8c T f n s).1<256
 |0,n,s,h=>h
 |f+1,n,s,h=>by
  rw[A8c]
  split
  ·exact h
  ·dsimp only
   split
   ·exact h
   ·rename_i h2
    generalize hqd:((T.tok s.i).text.getD 0 0).toNat-97=q
    have hq:q<8:=by
     simp only[B52,Bool.not_eq_true,Bool.not_eq_false',Bool.and_eq_true,decide_eq_true_eq] at h2
     omega
    cases hb:bit n q with
    |true=>
     simp only[if_true]
     split
     ·exact A6N T f _ _ h
     ·split
      ·exact A6N T f _ _ h
      ·exact h
    |false=>
     have hn:=C0v n h q hq hb
     simp only[Bool.false_eq_true,if_false]
     split
     ·exact A6N T f _ _ hn
     ·split
      ·exact A6N T f _ _ hn
      ·exact hn
theorem A5w (T:Src) (s:St):(lab T s).1<256:=by
 rw[lab]
 split
 ·exact A6N T _ _ _ (by decide)
 ·dsimp only;omega
theorem A9M {T:Src}{p:PE}{q:PS} (h:AtE T p) (g:AtS T q):∀f,(∀d s,P6 p q (block T f d s).1)∧(∀d l s,P6 p q l→P6 p q (A2O T f d l s).1)∧(∀d s,(stm T f d s).1.all p q)
 |0=>⟨fun _ _=>by rw[block];exact O7,fun _ _ _ h1=>by rw[A2O];exact h1,fun _ s=>by
   rw[stm]
   show (Stm.mk 0 [] 0 0 false (.mk 0 [] 0 [] 0 0) [] [] 0 0).all p q
   rw[Stm.all];exact⟨g.zero,A2g h.zero,O7,O7⟩⟩
 |f+1=>by
  obtain⟨hB,hL,hS⟩:=A9M h g f
  have hE:=(B1v h f).2.2.1
  refine⟨fun d s=>?_,fun d l s h1=>?_,fun d s=>?_⟩
  ·rw[block]
   split
   ·exact O7
   ·split
    ·exact O7
    ·dsimp only
     exact hL _ _ _ O7
  ·rw[A2O]
   split
   ·exact h1
   ·split
    ·exact h1
    ·dsimp only
     exact hL _ _ _ (A73 h1 (B2M (hS d s)))
  ·rw[stm]
   dsimp only
   split
   ·rw[Stm.all]
    refine⟨g.let_ s.i s.next _ _ _ ?_,hE _ _ _,O7,O7⟩
    split
    ·dsimp only;omega
    ·exact Nat.le_of_lt_succ (A5w T _)
   ·split
    ·split
     ·dsimp only;rw[Stm.all];exact⟨g.plain _ _ _ (.inl rfl),hE _ _ _,hB _ _,hB _ _⟩
     ·dsimp only;rw[Stm.all];exact⟨g.plain _ _ _ (.inl rfl),hE _ _ _,hB _ _,O7⟩
    ·split
     ·rw[Stm.all];exact⟨g.plain _ _ _ (.inr (.inl rfl)),hE _ _ _,hB _ _,O7⟩
     ·split
      ·rw[Stm.all];exact⟨g.send s.i s.next _,hE _ _ _,O7,O7⟩
      ·split
       ·rw[Stm.all];exact⟨g.plain _ _ _ (.inr (.inr (.inl rfl))),hE _ _ _,O7,O7⟩
       ·split
        ·rename_i hn
         split
         ·rw[Stm.all];exact⟨g.set _ _ hn,hE _ _ _,O7,O7⟩
         ·rw[Stm.all];exact⟨g.plain _ _ _ (.inr (.inr (.inr (.inl rfl)))),hE _ _ _,O7,O7⟩
        ·rw[Stm.all]
         refine⟨g.plain _ _ _ (.inr (.inr (.inr (.inr rfl)))),?_,O7,O7⟩
         exact A2g h.zero
theorem B1w {T:Src}{r:Par→Prop} (h:∀(s:St) lb,lb≤255→r ⟨(s.named T).1,lb,(T.tok s.i).pos⟩):∀(f:Nat) (l:List Par) (s:St),(∀x∈l,r x)→∀x∈(A2v T f l s).1,r x
 |0,l,s,h1=>by rw[A2v];exact h1
 |f+1,l,s,h1=>by
  rw[A2v]
  split
  ·exact h1
  ·split
   ·exact h1
   ·dsimp only
    split
    ·exact h1
    ·have h2:∀lb,lb≤255→∀x∈l++ [⟨(s.named T).1,lb,(T.tok s.i).pos⟩],r x:=fun lb hl x hx=>by
      rcases List.mem_append.1 hx with hx|hx
      ·exact h1 x hx
      ·obtain rfl:=List.mem_singleton.1 hx
       exact h s lb hl
     have h3:=fun s=>Nat.le_of_lt_succ (A5w T s)
     split
     ·exact B1w h f _ _ (h2 _ (h3 _))
     ·exact h2 _ (h3 _)
theorem B1x {T:Src}{r:Rf→Prop} (h:∀(s:St),r ⟨(s.named T).1,(T.tok s.i).pos⟩):∀(f:Nat) (l:List Rf) (s:St),(∀x∈l,r x)→∀x∈(A2E T f l s).1,r x
 |0,l,s,h1=>by rw[A2E];exact h1
 |f+1,l,s,h1=>by
  rw[A2E]
  split
  ·exact h1
  ·dsimp only
   have h2:∀x∈l++ [⟨(s.named T).1,(T.tok s.i).pos⟩],r x:=fun x hx=>by
    rcases List.mem_append.1 hx with hx|hx
    ·exact h1 x hx
    ·obtain rfl:=List.mem_singleton.1 hx
     exact h s
   split
   ·exact B1x h f _ _ h2
   ·exact h2
structure ItAll (T:Src) (p:PE) (q:PS) (r:Par→Prop) (t:Rf→Prop) (it:Itm):Prop where
 body:P6 p q it.body
 params:∀x∈it.params,r x
 sends:∀x∈it.sends,t x
 few:it.params.length≤5∧it.sends.length≤5∧it.body.length≤40
 label:it.label≤255
 kind:1≤it.kind∧it.kind≤3
 mark:(it.name= []∧((∃i,it.mark=(T.tok i).pos)∨it.mark=0))∨∃s:St,it.name=(s.named T).1∧it.mark=(T.tok s.i).pos
 bad:it.kind=3→it.name= []∧it.label=0∧it.params= []∧it.sends= []∧it.body= []
 chan:it.kind=1→it.params= []∧it.sends= []∧it.body= []
theorem B19 {src:List UInt8}{p:PE}{q:PS}{r:Par→Prop}{t:Rf→Prop} (at_:Int) (h:AtE ⟨O3 src,src.length⟩ p) (g:AtS ⟨O3 src,src.length⟩ q)
  (hr:∀(s:St) lb,lb≤255→r ⟨(s.named ⟨O3 src,src.length⟩).1,lb,((⟨O3 src,src.length⟩:Src).tok s.i).pos⟩)
  (ht:∀(s:St),t ⟨(s.named ⟨O3 src,src.length⟩).1,((⟨O3 src,src.length⟩:Src).tok s.i).pos⟩):ItAll ⟨O3 src,src.length⟩ p q r t (item src at_):=by
 rw[item]
 generalize (⟨O3 src,src.length⟩:Src)=T at h g hr ht ⊢
 dsimp only
 split
 ·dsimp only[A4q]
  have h6:∀(c:Bool) (y z:St),∀x∈(if c=true then A2E T 6 [] y else ([],z)).1,t x:=fun c y z=>by
   split
   ·exact B1x ht _ _ _ (by simp)
   ·simp
  have l6:∀(c:Bool) (y z:St),(if c=true then A2E T 6 [] y else ([],z)).1.length≤5:=fun c y z=>by
   split
   ·exact(A6V T 6 [] _ (by simp)).1
   ·simp
  exact⟨(A9M h g _).1 _ _,B1w hr _ _ _ (by simp),h6 _ _ _,⟨(A6R T 6 [] _ (by simp)).1,l6 _ _ _,((A5D T _).1 _ _).1⟩,Nat.le_of_lt_succ (A5w T _),⟨by simp,by simp⟩,.inr ⟨⟨1,[]⟩,rfl,rfl⟩,fun h=>(by simp at h),fun h=>(by simp at h)⟩
 ·split
  ·dsimp only[A8N]
   exact⟨O7,by simp,by simp,⟨by simp,by simp,by simp⟩,Nat.le_of_lt_succ (A5w T _),⟨by simp,by simp⟩,.inr ⟨⟨1,[]⟩,rfl,rfl⟩,fun h=>(by simp at h),fun _=>⟨rfl,rfl,rfl⟩⟩
  ·dsimp only
   exact⟨O7,by simp,by simp,⟨by simp,by simp,by simp⟩,by simp,⟨by simp,by simp⟩,.inl ⟨rfl,.inr rfl⟩,fun _=>⟨rfl,rfl,rfl,rfl,rfl⟩,fun h=>(by simp at h)⟩
def B66:PS:=fun _ _ _ l _ _ _=>l<256
def B6i:PE:=fun _ _ _ _ _ _=>True
inductive Runs (T:Src):St→St→Prop where
 |refl (s:St):Runs T s s
 |bad {s r:St} (e:Nat):Runs T s r→Runs T s (r.bad T e)
 |next {s r:St}:Runs T s r→Runs T s r.next
theorem Runs.trans {T:Src}{s r q:St} (h:Runs T s r) (g:Runs T r q):Runs T s q:=by
 induction g with
 |refl=>exact h
 |bad e _ ih=>exact .bad e ih
 |next _ ih=>exact .next ih
theorem Runs.on {T:Src}{s r:St} (h:Runs T s r):s.i≤r.i:=by
 induction h with
 |refl=>exact Nat.le_refl _
 |bad e _ ih=>exact ih
 |next _ ih=>exact Nat.le_succ_of_le ih
theorem A05 (T:Src) (s:St) (e:Nat):(s.bad T e).ds≠ []:=by simp[St.bad]
theorem Runs.told {T:Src}{s r:St} (h:Runs T s r) (hs:s.ds≠ []):r.ds≠ []:=by
 induction h with
 |refl=>exact hs
 |bad e _ _=>exact A05 _ _ _
 |next _ ih=>exact ih
theorem Runs.clean {T:Src}{s r:St} (h:Runs T s r) (hr:r.ds= []):s.ds= []:=by
 cases hs:s.ds with
 |nil=>rfl
 |cons a l=>exact absurd hr (h.told (by rw[hs];simp))
theorem A0D (T:Src) (s:St) (e:Nat):Runs T s (s.bad T e):=.bad e (.refl s)
theorem X7 (T:Src) (s:St):Runs T s s.next:=.next (.refl s)
theorem X0 (T:Src) (s:St) (w:List UInt8):Runs T s (s.need T w).2:=by
 rw[St.need];split
 ·exact X7 T s
 ·exact A0D T s 2
theorem A1W (T:Src) (s:St):Runs T s (s.named T).2:=by
 rw[St.named];split
 ·exact X7 T s
 ·split
  ·exact .next (A0D T s 7)
  ·exact A0D T s 2
theorem A7F (T:Src):∀(f n:Nat) (s:St),Runs T s (A8c T f n s).2
 |0,n,s=> .refl s
 |f+1,n,s=>by
  rw[A8c];split
  ·exact X7 T s
  ·dsimp only
   split
   ·exact A0D T s 2
   ·generalize (if bit n ((T.tok s.i).text.getD 0 0|>.toNat|>(· -97))=true then n else n+2 ^ ((T.tok s.i).text.getD 0 0|>.toNat|>(· -97)))=n1
    have g:Runs T s (if bit n ((T.tok s.i).text.getD 0 0|>.toNat|>(· -97))=true then s.bad T 7 else s).next:=by
     split
     ·exact .next (A0D T s 7)
     ·exact X7 T s
    generalize (if bit n ((T.tok s.i).text.getD 0 0|>.toNat|>(· -97))=true then s.bad T 7 else s).next=s2 at g
    split
    ·exact g.trans (A7F T f n1 s2)
    ·split
     ·exact(Runs.next g).trans (A7F T f n1 s2.next)
     ·exact g.trans (A0D T s2 2)
theorem A3Q (T:Src) (s:St):Runs T s (lab T s).2:=by
 rw[lab];split
 ·exact(X7 T s).trans (A7F T _ 0 s.next)
 ·exact A0D T s 2
theorem A1F (T:Src):∀f,(∀d s,Runs T s (A1p T f d s).2)∧(∀d l s,Runs T s (A17 T f d l s).2)∧(∀d m s,Runs T s (Y2 T f d m s).2)∧(∀d m e s,Runs T s (opL T f d m e s).2)
 |0=>⟨fun _ _=>by rw[A1p];exact .refl _,fun _ _ _=>by rw[A17];exact .refl _,fun _ _ _=>by rw[Y2];exact .refl _,fun _ _ _ _=>by rw[opL];exact .refl _⟩
 |f+1=>by
  obtain⟨hA,hL,hE,hO⟩:=A1F T f
  refine⟨fun d s=>?_,fun d l s=>?_,fun d m s=>?_,fun d m e s=>?_⟩
  ·rw[A1p]
   dsimp only
   split
   ·exact A0D T s 2
   ·split
    ·exact A0D T s 12
    ·split
     ·split
      ·exact .next (A0D T s 3)
      ·exact X7 T s
     ·split
      ·exact((X7 T s).trans (hE _ _ _)).trans (X0 T _ _)
      ·split
       ·exact A0D T s 2
       ·split
        ·exact X7 T s
        ·exact((Runs.next (X7 T s)).trans (hL _ _ _)).trans (X0 T _ _)
  ·rw[A17]
   split
   ·exact .refl _
   ·split
    ·exact A0D T s 5
    ·try dsimp only
     split
     ·exact(Runs.next (hE _ _ _)).trans (hL _ _ _)
     ·exact hE _ _ _
  ·rw[Y2]
   try dsimp only
   exact(hA d s).trans (hO _ _ _ _)
  ·rw[opL]
   try dsimp only
   split
   ·exact .refl _
   ·exact((X7 T s).trans (hE _ _ _)).trans (hO _ _ _ _)
theorem A40 (T:Src):∀f,(∀d s,Runs T s (block T f d s).2)∧(∀d l s,Runs T s (A2O T f d l s).2)∧(∀d s,Runs T s (stm T f d s).2)
 |0=>⟨fun _ _=>by rw[block];exact .refl _,fun _ _ _=>by rw[A2O];exact .refl _,fun _ s=>by rw[stm];exact .refl _⟩
 |f+1=>by
  obtain⟨hB,hL,hS⟩:=A40 T f
  have hE:=(A1F T f).2.2.1
  refine⟨fun d s=>?_,fun d l s=>?_,fun d s=>?_⟩
  ·rw[block]
   split
   ·exact A0D T s 2
   ·split
    ·exact(X7 T s).trans (A0D T _ 12)
    ·dsimp only
     exact((X7 T s).trans (hL _ _ _)).trans (X0 T _ _)
  ·rw[A2O]
   split
   ·exact .refl _
   ·split
    ·exact A0D T s 5
    ·dsimp only
     split
     ·exact(Runs.next (hS d s)).trans (hL _ _ _)
     ·exact(hS d s).trans (hL _ _ _)
  ·rw[stm]
   dsimp only
   split
   ·have g1:=A1W T s.next
    have g2:Runs T (s.next.named T).2 (if (!T.is (s.next.named T).2.i [58])=true then ((0:Nat),(s.next.named T).2) else lab T (s.next.named T).2.next).2:=by
     split
     ·exact .refl _
     ·exact(X7 T _).trans (A3Q T _)
    exact(((((X7 T s).trans g1).trans g2).trans (X0 T _ _)).trans (hE _ _ _)).trans (X0 T _ _)
   ·split
    ·have g1:=((X7 T s).trans (hE d 1 s.next)).trans (hB d (Y2 T f d 1 s.next).2)
     split
     ·exact(Runs.next g1).trans (hB d _)
     ·exact g1
    ·split
     ·exact((X7 T s).trans (hE d 1 s.next)).trans (hB d (Y2 T f d 1 s.next).2)
     ·split
      ·exact(((X7 T s).trans (A1W T s.next)).trans (hE d 1 _)).trans (X0 T _ _)
      ·split
       ·exact((X7 T s).trans (hE d 1 s.next)).trans (X0 T _ _)
       ·split
        ·split
         ·exact((Runs.next (X7 T s)).trans (hE d 1 _)).trans (X0 T _ [59])
         ·exact(hE d 1 s).trans (X0 T _ [59])
        ·exact A0D T s 2
theorem A7G (T:Src):∀(f:Nat) (l:List Par) (s:St),Runs T s (A2v T f l s).2
 |0,l,s=> .refl _
 |f+1,l,s=>by
  rw[A2v]
  split
  ·exact .refl _
  ·split
   ·exact A0D T s 5
   ·dsimp only
    have g:=(A1W T s).trans (X0 T (s.named T).2 [58])
    split
    ·exact g
    ·have g2:=g.trans (A3Q T _)
     split
     ·exact(Runs.next g2).trans (A7G T f _ _)
     ·exact g2
theorem A7H (T:Src):∀(f:Nat) (l:List Rf) (s:St),Runs T s (A2E T f l s).2
 |0,l,s=> .refl _
 |f+1,l,s=>by
  rw[A2E]
  split
  ·exact A0D T s 5
  ·dsimp only
   split
   ·exact(Runs.next (A1W T s)).trans (A7H T f _ _)
   ·exact A1W T s
def B6s (s:List UInt8) (f u:Int) (x:List UInt8):Nat:=if f<0∨u<f∨u>s.length then 3 else if x.length>4000∨(s.length:Int)-(u-f)+x.length>4000 then 4 else 0
def C0U (s:List UInt8) (f u:Int) (x:List UInt8):List UInt8:=if B6s s f u x=0 then s.take f.toNat++x++s.drop u.toNat else []
theorem A7s (s:List UInt8) (cs:List Nat):(A3j s cs).length=cs.length:=by simp[A3j]
theorem A94 (s:List UInt8) (cs:List Nat) {k:Nat} (h:k<cs.length):(A3j s cs)[k]?=some (A1L s cs k):=by
 simp[A3j,h]
structure ItIn (s:List UInt8) (k:Nat) (it:Itm):Prop where
 at0:0≤it.at_
 size:1≤it.size
 top:it.at_+it.size≤s.length
 ends:it.at_+it.size=(match (H8 s)[k+1]? with|some j=>j.at_|none=>(s.length:Int))
 diags:∀d∈it.diags,d.fr≤d.to∧d.to≤it.size
 small:it.small
 len:s.length≤4000
theorem A93 (src:List UInt8) (at_:Int):(item src at_).size=src.length∧(item src at_).at_=at_:=⟨B5t src at_,B0G src at_⟩
def A9E (k:Int) (n:List UInt8) (it:Itm):Bool:=decide ((it.kind:Int)=k) && (decide (it.name=n) && decide (n≠ []))
def Q8 (its:List Itm) (k:Int) (n:List UInt8):Option Nat:=its.findIdx? (A9E k n)
structure Lc where
 name:List UInt8
 at_:Nat
structure Us where
 fr:Int
 to:Int
 df:Int
 deriving DecidableEq
structure NW where
 ds:List Dg
 us:List Us
def NW.tell (s:NW) (a e:Nat) (n:List UInt8):NW:= { s with ds:=s.ds++ [⟨a,a+n.length,e,n⟩]}
def NW.use (s:NW) (b:Int) (a:Nat) (n:List UInt8) (d:Int):NW:= { s with us:=s.us++ [⟨b+a,b+a+n.length,d⟩]}
def A0g:List Lc→List UInt8→Option Lc
 | [],_=>none
 |l::sc,n=>match A0g sc n with
  |some x=>some x
  |none=>if l.name=n then some l else none
def C0B:Itm:=⟨0,[],0,[],[],[],0,0,0,[]⟩
def N9 (its:List Itm) (j:Nat):Itm:=its.getD j C0B
def A5x (b:Int) (sc:List Lc) (a:Nat) (n:List UInt8) (s:NW):NW:=match A0g sc n with
 |some l=>s.use b a n (b+l.at_)
 |none=>if n= [] then s else s.tell a 6 n
def A2X (its:List Itm) (b:Int) (k:Int) (a:Nat) (n:List UInt8) (s:NW):NW:=match Q8 its k n with
 |some j=>s.use b a n ((N9 its j).at_+(N9 its j).mark)
 |none=>if n= [] then s else s.tell a 6 n
def A3i (its:List Itm) (b:Int) (a:Nat) (n:List UInt8) (m:Nat) (s:NW):NW:=match Q8 its 2 n with
 |some j=>if (N9 its j).params.length≠m then (A2X its b 2 a n s).tell a 5 n else A2X its b 2 a n s
 |none=>A2X its b 2 a n s
def mkN (n:List UInt8) (a:Nat) (sc:List Lc) (s:NW):List Lc×NW:=
 if n= [] then (sc,s) else (sc++ [⟨n,a⟩],match A0g sc n with|some _=>s.tell a 7 n|none=>s)
mutual
def exN (its:List Itm) (b:Int) (sc:List Lc):Ex→NW→NW
 | .mk k nm _ args fr _,s=>A3a its b sc args (if k=2 then A5x b sc fr nm s else if k=4 then A3i its b fr nm args.length s else s)
def A3a (its:List Itm) (b:Int) (sc:List Lc):List Ex→NW→NW
 | [],s=>s
 |e::es,s=>A3a its b sc es (exN its b sc e s)
 end
mutual
def A31 (its:List Itm) (b:Int):Stm→List Lc→NW→List Lc×NW
 | .mk k nm a _ _ e thn els _ _,sc,s=>
  if k=1 then mkN nm a sc (exN its b sc e s) else
  if k=2 then (sc,A5x b sc a nm (exN its b sc e s)) else
  if k=5 then (sc,A2X its b 1 a nm (exN its b sc e s)) else
  if k=3∨k=4 then (sc,(A0j its b els sc (A0j its b thn sc (exN its b sc e s)).2).2) else (sc,exN its b sc e s)
def A0j (its:List Itm) (b:Int):List Stm→List Lc→NW→List Lc×NW
 | [],sc,s=>(sc,s)
 |x::xs,sc,s=>A0j its b xs (A31 its b x sc s).1 (A31 its b x sc s).2
 end
def A2p:List Par→List Lc→NW→List Lc×NW
 | [],sc,s=>(sc,s)
 |p::ps,sc,s=>A2p ps (mkN p.name p.at_ sc s).1 (mkN p.name p.at_ sc s).2
def A42 (its:List Itm) (b:Int) (dn:List Rf) (c:Rf) (s:NW):NW:=
 if c.name≠ []∧dn.any (fun x=>decide (x.name=c.name))=true then (A2X its b 1 c.at_ c.name s).tell c.at_ 7 c.name else A2X its b 1 c.at_ c.name s
def A4i (its:List Itm) (b:Int):List Rf→List Rf→NW→NW
 |_,[],s=>s
 |dn,c::cs,s=>A4i its b (dn++ [c]) cs (A42 its b dn c s)
def NW0:NW:=⟨[],[]⟩
def A75 (its:List Itm) (i:Nat) (it:Itm):Bool:=decide (it.kind≠3) && (decide (it.name≠ []) && (its.take i).any (fun x=>decide (x.kind=it.kind) && decide (x.name=it.name)))
def fnN (its:List Itm) (it:Itm) (s:NW):NW:=
 (A0j its it.at_ it.body (A2p it.params [] s).1 (A4i its it.at_ [] it.sends (A2p it.params [] s).2)).2
def A27 (its:List Itm) (i:Nat):NW:=
 if (N9 its i).kind=2 then fnN its (N9 its i) (if A75 its i (N9 its i)=true then NW0.tell (N9 its i).mark 7 (N9 its i).name else NW0)
 else if A75 its i (N9 its i)=true then NW0.tell (N9 its i).mark 7 (N9 its i).name else NW0
theorem B1S (its:List Itm) (b:Int) (sc:List Lc):∀(l r:List Ex) (s:NW),A3a its b sc (l++r) s=A3a its b sc r (A3a its b sc l s)
 | [],r,s=>by rw[List.nil_append,A3a]
 |e::l,r,s=>by rw[List.cons_append,A3a,A3a,B1S its b sc l r]
theorem B0n (its:List Itm) (b:Int):∀(l r:List Stm) (sc:List Lc) (s:NW),A0j its b (l++r) sc s=A0j its b r (A0j its b l sc s).1 (A0j its b l sc s).2
 | [],r,sc,s=>by rw[List.nil_append,A0j]
 |e::l,r,sc,s=>by rw[List.cons_append,A0j,A0j,B0n its b l r]
theorem P9 {α:Type}{l:List α}{k:Nat}{x:α} (h:l[k]?=some x):l.take (k+1)=l.take k++ [x]:=by rw[List.take_add_one,h];rfl
theorem B5g (its:List Itm) (b:Int) (sc:List Lc) {l:List Ex}{k:Nat}{e:Ex} (h:l[k]?=some e) (s:NW):A3a its b sc (l.take (k+1)) s=exN its b sc e (A3a its b sc (l.take k) s):=by
 rw[P9 h,B1S,A3a,A3a]
theorem B3Y (its:List Itm) (b:Int) {l:List Stm}{k:Nat}{x:Stm} (h:l[k]?=some x) (sc:List Lc) (s:NW):
  A0j its b (l.take (k+1)) sc s=A31 its b x (A0j its b (l.take k) sc s).1 (A0j its b (l.take k) sc s).2:=by
 rw[P9 h,B0n,A0j,A0j]
theorem B2x:∀(l r:List Par) (sc:List Lc) (s:NW),A2p (l++r) sc s=A2p r (A2p l sc s).1 (A2p l sc s).2
 | [],r,sc,s=>by rw[List.nil_append,A2p]
 |e::l,r,sc,s=>by rw[List.cons_append,A2p,A2p,B2x l r]
theorem B5L {l:List Par}{k:Nat}{x:Par} (h:l[k]?=some x) (sc:List Lc) (s:NW):A2p (l.take (k+1)) sc s=mkN x.name x.at_ (A2p (l.take k) sc s).1 (A2p (l.take k) sc s).2:=by
 rw[P9 h,B2x,A2p,A2p]
theorem B2I (its:List Itm) (b:Int):∀(l r:List Rf) (dn:List Rf) (s:NW),A4i its b dn (l++r) s=A4i its b (dn++l) r (A4i its b dn l s)
 | [],r,dn,s=>by rw[List.nil_append,List.append_nil,A4i]
 |e::l,r,dn,s=>by rw[List.cons_append,A4i,A4i,B2I its b l r];simp
theorem B5Y (its:List Itm) (b:Int) {l:List Rf}{k:Nat}{x:Rf} (h:l[k]?=some x) (s:NW):A4i its b [] (l.take (k+1)) s=A42 its b (l.take k) x (A4i its b [] (l.take k) s):=by
 rw[P9 h,B2I,List.nil_append,A4i,A4i]
theorem A2U (n:List UInt8) (x:Lc):∀(l:List Lc),A0g (l++ [x]) n=if x.name=n then some x else A0g l n
 | []=>by simp[A0g]
 |a::l=>by
  rw[List.cons_append,A0g,A2U n x l,A0g]
  split<;>rename_i h
  ·split at h
   ·rename_i h2;rw[if_pos h2];exact h.symm
   ·rename_i h2;rw[if_neg h2,h]
  ·split at h
   ·cases h
   ·rename_i h2;rw[if_neg h2,h]
theorem A4M {n:List UInt8}{x:Lc}:∀ {l:List Lc},A0g l n=some x→x∈l∧x.name=n
 | [],h=>by cases h
 |a::l,h=>by
  rw[A0g] at h
  split at h
  ·rename_i y hy
   obtain rfl:=Option.some.inj h
   have:=A4M hy
   exact⟨List.mem_cons_of_mem _ this.1,this.2⟩
  ·split at h
   ·rename_i hn
    obtain rfl:=Option.some.inj h
    exact⟨List.mem_cons_self,hn⟩
   ·cases h
def NW.n (s:NW):Nat:=s.ds.length+s.us.length
theorem A6q (s:NW) (a e:Nat) (n:List UInt8):(s.tell a e n).n=s.n+1:=by simp[NW.tell,NW.n];omega
theorem B9C (s:NW) (b:Int) (a:Nat) (n:List UInt8) (d:Int):(s.use b a n d).n=s.n+1:=by simp[NW.use,NW.n];omega
theorem B3w (b:Int) (sc:List Lc) (a:Nat) (n:List UInt8) (s:NW):s.n≤(A5x b sc a n s).n∧(A5x b sc a n s).n≤s.n+1:=by
 rw[A5x]
 split
 ·rw[B9C];omega
 ·split
  ·omega
  ·rw[A6q];omega
theorem A85 (its:List Itm) (b:Int) (k:Int) (a:Nat) (n:List UInt8) (s:NW):s.n≤(A2X its b k a n s).n∧(A2X its b k a n s).n≤s.n+1:=by
 rw[A2X]
 split
 ·rw[B9C];omega
 ·split
  ·omega
  ·rw[A6q];omega
theorem B4m (its:List Itm) (b:Int) (a:Nat) (n:List UInt8) (m:Nat) (s:NW):s.n≤(A3i its b a n m s).n∧(A3i its b a n m s).n≤s.n+2:=by
 have:=A85 its b 2 a n s
 rw[A3i]
 split
 ·split
  ·rw[A6q];omega
  ·omega
 ·omega
theorem B9u (n:List UInt8) (a:Nat) (sc:List Lc) (s:NW):s.n≤(mkN n a sc s).2.n∧(mkN n a sc s).2.n≤s.n+1∧sc.length≤(mkN n a sc s).1.length∧(mkN n a sc s).1.length≤sc.length+1:=by
 rw[mkN]
 split
 ·exact⟨Nat.le_refl _,by dsimp only;omega,Nat.le_refl _,by dsimp only;omega⟩
 ·dsimp only
  rw[List.length_append,List.length_singleton]
  split
  ·rw[A6q];omega
  ·omega
mutual
theorem B6G (its:List Itm) (b:Int) (sc:List Lc):∀(e:Ex) (s:NW),s.n≤(exN its b sc e s).n∧(exN its b sc e s).n≤s.n+2 *e.cnt
 | .mk k nm n args fr to,s=>by
  rw[exN,Ex.cnt]
  have h1:=B3w b sc fr nm s
  have h2:=B4m its b fr nm args.length s
  have h3:=B3e its b sc args (if k=2 then A5x b sc fr nm s else if k=4 then A3i its b fr nm args.length s else s)
  generalize hq:(if k=2 then A5x b sc fr nm s else if k=4 then A3i its b fr nm args.length s else s)=q at h3 ⊢
  have h4:s.n≤q.n∧q.n≤s.n+2:=by
   rw[←hq]
   split
   ·omega
   ·split<;>omega
  omega
theorem B3e (its:List Itm) (b:Int) (sc:List Lc):∀(l:List Ex) (s:NW),s.n≤(A3a its b sc l s).n∧(A3a its b sc l s).n≤s.n+2 *A0b l
 | [],s=>by rw[A3a,A0b];omega
 |e::l,s=>by
  rw[A3a,A0b]
  have h1:=B6G its b sc e s
  have h2:=B3e its b sc l (exN its b sc e s)
  omega
 end
mutual
theorem C0r (its:List Itm) (b:Int):∀(x:Stm) (sc:List Lc) (s:NW),s.n≤(A31 its b x sc s).2.n∧(A31 its b x sc s).2.n≤s.n+2 *x.cnt∧sc.length≤(A31 its b x sc s).1.length∧(A31 its b x sc s).1.length≤sc.length+1
 | .mk k nm a lb o e thn els f t,sc,s=>by
  rw[A31,Stm.cnt]
  have h1:=B6G its b sc e s
  generalize exN its b sc e s=q at h1 ⊢
  have h2:=B9u nm a sc q
  have h3:=B3w b sc a nm q
  have h4:=A85 its b 1 a nm q
  have h5:=A46 its b thn sc q
  have h6:=A46 its b els sc (A0j its b thn sc q).2
  split
  ·omega
  ·split
   ·dsimp only;omega
   ·split
    ·dsimp only;omega
    ·split
     ·dsimp only;omega
     ·dsimp only;omega
theorem A46 (its:List Itm) (b:Int):∀(l:List Stm) (sc:List Lc) (s:NW),s.n≤(A0j its b l sc s).2.n∧(A0j its b l sc s).2.n≤s.n+2 *N7 l∧sc.length≤(A0j its b l sc s).1.length∧(A0j its b l sc s).1.length≤sc.length+l.length
 | [],sc,s=>by rw[A0j,N7];exact⟨by dsimp only;omega,by dsimp only;omega,by dsimp only;omega,by dsimp only;simp⟩
 |x::l,sc,s=>by
  rw[A0j,N7,List.length_cons]
  have h1:=C0r its b x sc s
  have h2:=A46 its b l (A31 its b x sc s).1 (A31 its b x sc s).2
  omega
 end
theorem B8C (n:List UInt8) (a:Nat) (sc:List Lc) (s:NW):sc<+:(mkN n a sc s).1:=by
 rw[mkN]
 split
 ·exact List.prefix_refl _
 ·exact List.prefix_append _ _
theorem B7X (its:List Itm) (b:Int) (x:Stm) (sc:List Lc) (s:NW):sc<+:(A31 its b x sc s).1:=by
 cases x with
 |mk k nm a lb o e thn els f t=>
 rw[A31]
 split
 ·exact B8C _ _ _ _
 ·split
  ·exact List.prefix_refl _
  ·split
   ·exact List.prefix_refl _
   ·split
    ·exact List.prefix_refl _
    ·exact List.prefix_refl _
theorem B0o (its:List Itm) (b:Int):∀(l:List Stm) (sc:List Lc) (s:NW),sc<+:(A0j its b l sc s).1
 | [],sc,s=>by rw[A0j];exact List.prefix_refl _
 |x::l,sc,s=>by rw[A0j];exact(B7X its b x sc s).trans (B0o its b l _ _)
theorem B3X (its:List Itm) (b:Int) (l:List Stm) (sc:List Lc) (s:NW):(A0j its b l sc s).1.take sc.length=sc:=
 (List.prefix_iff_eq_take.1 (B0o its b l sc s)).symm
theorem Ex.cnt_eq (e:Ex):e.cnt=A0b e.args+1:=by cases e;rw[Ex.cnt];rfl
theorem A3B {l:List Ex}{k:Nat}{y:Ex} (h:l[k]?=some y):A0b (l.take k)+y.cnt≤A0b l:=by
 have e:l=l.take (k+1)++l.drop (k+1):=(List.take_append_drop _ _).symm
 have h2:=congrArg A0b e
 rw[A2m,P9 h,A2m,A3A] at h2
 omega
theorem Stm.cnt_eq (x:Stm):x.cnt=x.e.cnt+N7 x.thn+N7 x.els+1:=by cases x;rw[Stm.cnt];rfl
theorem A3e {l:List Stm}{k:Nat}{y:Stm} (h:l[k]?=some y):N7 (l.take k)+y.cnt≤N7 l:=by
 have e:l=l.take (k+1)++l.drop (k+1):=(List.take_append_drop _ _).symm
 have h2:=congrArg N7 e
 rw[A1z,P9 h,A1z,A24] at h2
 omega
theorem A6X {p:PE}{q:PS}:∀ {l:List Stm} (k:Nat),P6 p q l→P6 p q (l.take k)
 | [],k,h=>by rw[List.take_nil];exact h
 |x::l,0,h=>by rw[List.take_zero];exact O7
 |x::l,k+1,h=>by
  rw[P6] at h
  rw[List.take_succ_cons,P6]
  exact⟨h.1,A6X k h.2⟩
end Go.Sp
end
