/- Own work. -/
import Derived.Test.YtbmbnippbldmfaaGreatDoorSn11
set_option maxHeartbeats 64000000
namespace Go.Sp
mutual
def Ex.spine:Ex->Prop
 | .mk k nm _ args _ _=>k=2\/k=4\/(k=3/\C4b args nm)
def C4b:List Ex->List UInt8->Prop
 | [],_=>False
 |a::_,nm=>a.spine/\(a.kind=3->A1i nm<=A1i a.name)/\(a.kind=2->nm≠ [61])
 end
mutual
def Stm.fitS:Stm->Nat->Prop
 | .mk k nm _ lb o e thn els _ _,d=>e.fitE d 1/\
  ((k=1/\name nm=true/\lb<256/\(o=true->lb=0)/\thn= []/\els= [])\/
   (k=2/\name nm=true/\lb=0/\o=false/\thn= []/\els= [])\/
   (k=5/\name nm=true/\lb=0/\o=false/\thn= []/\els= [])\/
   (k=6/\nm= []/\lb=0/\o=false/\thn= []/\els= [])\/
   (k=7/\nm= []/\lb=0/\o=false/\thn= []/\els= []/\e.spine)\/
   ((k=3\/k=4/\els= [])/\nm= []/\lb=0/\o=false/\d<12/\thn.length<=40/\els.length<=40/\A0M thn (d+1)/\A0M els (d+1)))
def A0M:List Stm->Nat->Prop
 | [],_=>True
 |x::xs,d=>x.fitS d/\A0M xs d
 end
theorem B01:∀ {l:List Stm}{d:Nat}{x:Stm},A0M l d->x.fitS d->A0M (l++ [x]) d
 | [],d,e,_,he=>by rw[P5,A0M,A0M];exact⟨he,trivial⟩
 |a::l,d,e,h,he=>by rw[A0M]at h;rw[Y0,A0M];exact⟨h.1,B01 h.2 he⟩
structure Itm.fitI (it:Itm):Prop where
 named:Sp.name it.name=true
 label:it.label<256
 kind:it.kind=2\/it.kind=1/\it.params= []/\it.sends= []/\it.body= []
 params:it.params.length<=5/\∀p∈it.params,Sp.name p.name=true/\p.label<256
 sends:it.sends.length<=5/\∀p∈it.sends,Sp.name p.name=true
 body:it.body.length<=40/\A0M it.body 1
 none:it.diags= []
def C6y (T:Src):Prop:= ∀i,(T.tok i).kind=2->name (T.tok i).text=false
theorem B7W {T:Src}:∀f d m (e:Ex) (s:St),e.spine->(e.kind=3->A1i (T.tok s.i).text<=A1i e.name)->(e.kind=2->(T.tok s.i).text≠ [61])->3 *(T.l.length-s.i)+1<=f->(opL T f d m e s).2.ds= []->(opL T f d m e s).1.spine
 |0,_,_,_,_,_,_,_,h,_=>by omega
 |f+1,d,m,e,s,h1,h2,h3,hf,h=>by
  rw[opL]at h |-;dsimp only at h |-;by_cases c1:A1i (T.tok s.i).text<m\/A1i (T.tok s.i).text=0
  ·rw[if_pos c1];exact h1
  rw[if_neg c1]at h |-;have c0:=A2e (B05 (fun e=>c1 (.inr e)));obtain⟨g1,g2,g3⟩:=(A9o T f).2.2.1 d (A1i (T.tok s.i).text+1) s.next (by rw[Q5];omega) (((A3t T f).2.2.2 _ _ _ _).clean h);rw[Q5]at g2;refine B7W f d m _ _ ?_ (fun _=>?_) (fun h=>(by cases h)) (by omega) h
  ·rw[Ex.spine]
   refine .inr (.inr ⟨rfl,?_⟩)
   rw[C4b];exact⟨h1,h2,h3⟩
  ·show A1i _<=A1i (T.tok s.i).text
   rcases g3 with g3|g3<;>omega
theorem B9z {T:Src} (hN:C6y T) (f d:Nat) (s:St) (hn:name (T.tok s.i).text=true) (he:T.is (s.i+1) [61]=false) (hf:3 *(T.l.length-s.i)+3<=f) (h:(A0O T f d 1 s).2.ds= []):(A0O T f d 1 s).1.spine:=by
 obtain⟨f,rfl⟩:∃g,f=g+1+1:=⟨f-2,by omega⟩;rw[A0O]at h |-;have ha:=((A3t T (f+1)).2.2.2 _ _ _ _).clean h;have hlt:=A2e (A56 hn);have hg:=((A9o T (f+1)).1 d s (by omega) ha).2;have key:(A2Z T (f+1) d s).1.spine/\(A2Z T (f+1) d s).1.kind≠3/\((A2Z T (f+1) d s).1.kind=2->(T.tok (A2Z T (f+1) d s).2.i).text≠ [61]):=by
  rw[A2Z]at ha |-;dsimp only at ha |-;rw[if_neg (by omega)]at ha |-;by_cases c2:12<=d
  ·rw[if_pos c2]at ha;exact absurd ha (A2A _ _ _)
  rw[if_neg c2]at ha |-;rw[if_neg (fun e=>by rw[hN _ e]at hn;cases hn)]at ha |-;rw[if_neg (fun e=>by rw[e]at hn;revert hn;decide),if_neg (by simp[hn])]at ha |-;by_cases c6:T.is (s.i+1) [40]=true
  ·rw[if_neg (by simp[c6])]
   dsimp only
   refine⟨?_,(fun h=>(by cases h)),(fun h=>(by cases h))⟩
   rw[Ex.spine];exact .inr (.inl rfl)
  ·rw[if_pos (by simp[c6])]
   dsimp only
   refine⟨?_,(fun h=>(by cases h)),fun _ e=>?_⟩
   ·rw[Ex.spine];exact .inl rfl
   ·have:T.is (s.i+1) [61]=true:=by
     have hl:s.i+1<T.l.length:=A2e (i:=s.i+1) (by rw[show (T.tok (s.i+1)).text= [61] from e];simp);rw[Src.is,decide_eq_true hl,decide_eq_true (show (T.tok (s.i+1)).text= [61] from e)];rfl
    rw[he]at this;cases this
 exact B7W _ _ _ _ _ key.1 (fun h=>absurd h key.2.1) key.2.2 (by omega) h
theorem B29 {T:Src} (hN:C6y T):∀f,(∀d s,5 *(T.l.length-s.i)+2<=f->(block T f d s).2.ds= []->d<12/\(block T f d s).1.length<=40/\A0M (block T f d s).1 (d+1))/\
  (∀d l s,5 *(T.l.length-s.i)+6<=f->(A4q T f d l s).2.ds= []->l.length<=40->A0M l d->(A4q T f d l s).1.length<=40/\A0M (A4q T f d l s).1 d)/\
  (∀d s,5 *(T.l.length-s.i)+5<=f->(stm T f d s).2.ds= []->(stm T f d s).1.fitS d)
 |0=>⟨fun _ _ h=>by omega,fun _ _ _ h=>by omega,fun _ s h=>by omega⟩
 |f+1=>by
  obtain⟨hB,hL,hS⟩:=B29 hN f;obtain⟨rB,rL,rS⟩:=A6M T f;have rE:=(A3t T f).2.2.1;have gE:=(A9o T f).2.2.1;refine⟨fun d s hf h=>?_,fun d l s hf h hl hx=>?_,fun d s hf h=>?_⟩
  ·rw[block]at h |-
   by_cases c1:T.is s.i [123]=true
   ·rw[if_neg (by simp[c1])]at h |-
    have c0:=A1H c1;by_cases c2:12<=d
    ·rw[if_pos c2]at h;exact absurd h (A2A _ _ _)
    rw[if_neg c2]at h |-;dsimp only at h |-;obtain⟨g1,g2⟩:=hL (d+1) [] s.next (by rw[Q5];omega) ((A0h T _ _).clean h) (H7 _) (by rw[A0M];trivial);exact⟨by omega,g1,g2⟩
   ·rw[if_pos (by simp[c1])]at h;exact absurd h (A2A _ _ _)
  ·rw[A4q]at h |-
   by_cases c1:T.l.length<=s.i\/T.is s.i [125]=true
   ·rw[if_pos c1];exact⟨hl,hx⟩
   rw[if_neg c1]at h |-;have c0:s.i<T.l.length:=by omega
   by_cases c2:40<=l.length
   ·rw[if_pos c2]at h;exact absurd h (A2A _ _ _)
   rw[if_neg c2]at h |-;dsimp only at h |-;have hs:=(rL _ _ _).clean h;have hs2:(stm T f d s).2.ds= []:=by
    split at hs
    ·exact hs
    ·exact hs
   have ho:s.i+1<=(stm T f d s).2.i:=by
    obtain⟨f',rfl⟩:∃f',f=f'+3:=⟨f-3,by omega⟩;exact(C7B f' d s).resolve_left (fun hh=>hh hs2)
   rw[if_neg (by omega)]at h |-;exact hL d _ _ (by omega) h (by rw[E9,A1I];omega) (B01 hx (hS d s (by omega) hs2))
  ·have lt:∀t:List UInt8,t≠ []->(T.tok s.i).text=t->s.i<T.l.length:=fun t ht e=>A2e (by rw[e];exact ht)
   have hn:s.next.i=s.i+1:=rfl;rw[stm]at h |-;dsimp only at h |-;by_cases c1:(T.tok s.i).text= [108,101,116]
   ·rw[if_pos c1]at h |-
    have h0:=lt _ (by simp) c1;have e2:=(A0h T _ _).clean h;have e1:=(A0h T _ _).clean ((rE _ _ _).clean e2);have u2:=(A0h T (if (!T.is (s.next.named T).2.i [58])=true then ((0:Nat),(s.next.named T).2) else lab T (s.next.named T).2.next).2 [61]).on;have g2:Runs T (s.next.named T).2 (if (!T.is (s.next.named T).2.i [58])=true then ((0:Nat),(s.next.named T).2) else lab T (s.next.named T).2.next).2:=by
     split
     ·exact .refl _
     ·exact(A0D T _).trans (A46 T _)
    have e0:=A7q (g2.clean e1);have u1:=g2.on;have u0:s.next.i+1<=(s.next.named T).2.i:=by rw[e0.2];exact G9 _
    dsimp only at h |-;obtain⟨q1,_⟩:=gE d 1 _ (by omega) e2;rw[Stm.fitS];refine⟨q1,.inl ⟨rfl,by rw[e0.2];exact e0.1,?_,?_,rfl,rfl⟩⟩
    ·split
     ·exact Nat.zero_lt_succ _
     ·exact A84 _ _
    ·intro ho
     rw[if_pos ho]
   rw[if_neg c1]at h |-;by_cases c2:(T.tok s.i).text= [105,102]
   ·rw[if_pos c2]at h |-
    have h0:=lt _ (by simp) c2;have u1:=(rE d 1 s.next).on;have u2:=(rB d (A0O T f d 1 s.next).2).on;by_cases c5:T.is (block T f d (A0O T f d 1 s.next).2).2.i [101,108,115,101]=true
    ·rw[if_pos c5]at h |-
     dsimp only at h |-;have e2:=((A0D T _).trans (rB _ _)).clean h;have e1:=(rB _ _).clean e2;obtain⟨q1,_⟩:=gE d 1 s.next (by omega) e1;obtain⟨b1,b2,b3⟩:=hB d _ (by omega) e2;obtain⟨b4,b5,b6⟩:=hB d _ (by rw[Q5];omega) h;rw[Stm.fitS];exact⟨q1,.inr (.inr (.inr (.inr (.inr ⟨.inl rfl,rfl,rfl,rfl,b1,b2,b5,b3,b6⟩))))⟩
    ·rw[if_neg c5]at h |-
     dsimp only at h |-;have e1:=(rB _ _).clean h;obtain⟨q1,_⟩:=gE d 1 s.next (by omega) e1;obtain⟨b1,b2,b3⟩:=hB d _ (by omega) h;rw[Stm.fitS];exact⟨q1,.inr (.inr (.inr (.inr (.inr ⟨.inl rfl,rfl,rfl,rfl,b1,b2,H7 _,b3,by rw[A0M];trivial⟩))))⟩
   rw[if_neg c2]at h |-;by_cases c3:(T.tok s.i).text= [119,104,105,108,101]
   ·rw[if_pos c3]at h |-
    have h0:=lt _ (by simp) c3;have u1:=(rE d 1 s.next).on;dsimp only at h |-;have e1:=(rB _ _).clean h;obtain⟨q1,_⟩:=gE d 1 s.next (by omega) e1;obtain⟨b1,b2,b3⟩:=hB d _ (by omega) h;rw[Stm.fitS];exact⟨q1,.inr (.inr (.inr (.inr (.inr ⟨.inr ⟨rfl,rfl⟩,rfl,rfl,rfl,b1,b2,H7 _,b3,by rw[A0M];trivial⟩))))⟩
   rw[if_neg c3]at h |-;by_cases c4:(T.tok s.i).text= [115,101,110,100]
   ·rw[if_pos c4]at h |-
    have h0:=lt _ (by simp) c4;have e2:=(A0h T _ _).clean h;have e0:=A7q ((rE _ _ _).clean e2);have u0:=(A2U T s.next).on;dsimp only at h |-;obtain⟨q1,_⟩:=gE d 1 _ (by omega) e2;rw[Stm.fitS];exact⟨q1,.inr (.inr (.inl ⟨rfl,by rw[e0.2];exact e0.1,rfl,rfl,rfl,rfl⟩))⟩
   rw[if_neg c4]at h |-;by_cases c5:(T.tok s.i).text= [114,101,116,117,114,110]
   ·rw[if_pos c5]at h |-
    have h0:=lt _ (by simp) c5;have e2:=(A0h T _ _).clean h;dsimp only at h |-;obtain⟨q1,_⟩:=gE d 1 _ (by omega) e2;rw[Stm.fitS];exact⟨q1,.inr (.inr (.inr (.inl ⟨rfl,rfl,rfl,rfl,rfl,rfl⟩)))⟩
   rw[if_neg c5]at h |-;by_cases c6:name (T.tok s.i).text=true
   ·rw[if_pos c6]at h |-
    have h0:=A2e (A56 c6);by_cases c7:T.is (s.i+1) [61]=true
    ·rw[if_pos c7]at h |-
     have h1:=A1H c7;have e2:=(A0h T _ _).clean h;dsimp only at h |-;obtain⟨q1,_⟩:=gE d 1 s.next.next (by rw[Q5,Q5];omega) e2;rw[Stm.fitS];exact⟨q1,.inr (.inl ⟨rfl,c6,rfl,rfl,rfl,rfl⟩)⟩
    ·rw[if_neg c7]at h |-
     have e2:=(A0h T _ _).clean h;dsimp only at h |-;obtain⟨q1,_⟩:=gE d 1 s (by omega) e2;rw[Stm.fitS];exact⟨q1,.inr (.inr (.inr (.inr (.inl ⟨rfl,rfl,rfl,rfl,rfl,rfl,B9z hN f d s c6 (by simpa using c7) (by omega) e2⟩))))⟩
   ·rw[if_neg c6]at h
    exact absurd h (A2A _ _ _)
theorem B4x (T:Src):∀(f:Nat) (l:List Par) (s:St),(A4E T f l s).2.ds= []->l.length<=5->(∀p∈l,name p.name=true/\p.label<256)->(A4E T f l s).1.length<=5/\∀p∈(A4E T f l s).1,name p.name=true/\p.label<256
 |0,l,s,_,h1,h2=>by rw[A4E];exact⟨h1,h2⟩
 |f+1,l,s,h,h1,h2=>by
  rw[A4E]at h |-;by_cases c1:T.l.length<=s.i\/T.is s.i [41]=true
  ·rw[if_pos c1];exact⟨h1,h2⟩
  rw[if_neg c1]at h |-;by_cases c2:5<=l.length
  ·rw[if_pos c2]at h;exact absurd h (A2A _ _ _)
  rw[if_neg c2]at h |-;dsimp only at h |-;by_cases c3:(!((s.named T).2.need T [58]).1)=true
  ·rw[if_pos c3]at h
   have:=B5y h;rw[St.need,if_pos this.1]at c3;cases c3
  rw[if_neg c3]at h |-;have hx:∀(h:(lab T ((s.named T).2.need T [58]).2).2.ds= []),∀p∈l++ [⟨(s.named T).1,(lab T ((s.named T).2.need T [58]).2).1,(T.tok s.i).pos⟩],name p.name=true/\p.label<256:=fun h p hp=>by
   have e0:=A7q ((A0h T _ _).clean ((A46 T _).clean h));rcases A0d.1 hp with hp|hp
   ·exact h2 p hp
   ·obtain rfl:=A0v.1 hp
    exact⟨by rw[e0.2];exact e0.1,A84 _ _⟩
  have hl:∀p:Par,(l++ [p]).length<=5:=fun p=>by rw[E9,A1I];omega
  by_cases c4:T.is (lab T ((s.named T).2.need T [58]).2).2.i [44]=true
  ·rw[if_pos c4]at h |-
   have:=(A9A T _ _ _).clean h;exact B4x T f _ _ h (hl _) (hx this)
  ·rw[if_neg c4]at h |-
   exact⟨hl _,hx h⟩
theorem B4y (T:Src):∀(f:Nat) (l:List Rf) (s:St),(A4H T f l s).2.ds= []->l.length<=5->(∀p∈l,name p.name=true)->(A4H T f l s).1.length<=5/\∀p∈(A4H T f l s).1,name p.name=true
 |0,l,s,_,h1,h2=>by rw[A4H];exact⟨h1,h2⟩
 |f+1,l,s,h,h1,h2=>by
  rw[A4H]at h |-;by_cases c2:5<=l.length
  ·rw[if_pos c2]at h;exact absurd h (A2A _ _ _)
  rw[if_neg c2]at h |-;dsimp only at h |-;have hx:∀(h:(s.named T).2.ds= []),∀p∈l++ [⟨(s.named T).1,(T.tok s.i).pos⟩],name p.name=true:=fun h p hp=>by
   have e0:=A7q h;rcases A0d.1 hp with hp|hp
   ·exact h2 p hp
   ·obtain rfl:=A0v.1 hp
    rw[e0.2];exact e0.1
  have hl:∀p:Rf,(l++ [p]).length<=5:=fun p=>by rw[E9,A1I];omega
  by_cases c4:T.is (s.named T).2.i [44]=true
  ·rw[if_pos c4]at h |-
   have:=((A0D T _).trans (A9B T _ _ _)).clean h;exact B4y T f _ _ h (hl _) (hx this)
  ·rw[if_neg c4]at h |-
   exact⟨hl _,hx h⟩
theorem C4p (s:List UInt8):C6y ⟨U8 s,s.length⟩:=fun i h2=>by
 rcases U0 i (U8 s).length with h|h
 ·rw[Src.tok,O4,G6 h]at h2 |-
  have ok:=A2E s _ (O7 h);dsimp only[Option.getD_some]at h2 |-;generalize (U8 s)[i]=t at ok h2 |-;have o1:=ok.one.1;have ol:=ok.len;rw[h2]at o1;cases hd:s.drop t.pos with
  |nil=>rw[hd]at o1;cases o1
  |cons c r=>
   have ht:=ok.text;rw[hd]at o1 ht;obtain⟨m,hm⟩:∃m,t.text.length=m+1:=⟨t.text.length-1,by omega⟩;rw[hm,A1l]at ht;have hc:A40 c=false:=by
    simp only[one]at o1;split at o1
    ·cases o1
    ·split at o1
     ·cases o1
     ·split at o1
      ·cases o1
      ·rename_i h3;simpa using h3
   rw[ht,name,B0q];simp[hc]
 ·rw[A48 h]at h2;cases h2
theorem C2z {T:Src}{s:St} (h:(if s.i<T.l.length then s.bad T 2 else s).ds= []):s.ds= []/\T.l.length<=s.i:=by
 split at h
 ·exact absurd h (A2A _ _ _)
 ·exact⟨h,by omega⟩
theorem B4w (src:List UInt8) (at_:Int) (h:(item src at_).diags= []):(item src at_).fitI:=by
 have hN:=C4p src;have hI:=A7M src at_;rw[hI]at h |-;generalize (⟨U8 src,src.length⟩:Src)=T at h hN |-;have hc:=C2z (T:=T) (s:=(A41 T at_ src.length).2) h;refine { none:=h,named:=?_,label:=?_,kind:=?_,params:=?_,sends:=?_,body:=?_}<;>clear h<;>show _
 all_goals
  dsimp only[B4B];rw[A41]at hc |-;by_cases c1:T.is 0 [102,110]=true
  ·rw[if_pos c1]at hc |-
   have hc:=hc.1;dsimp only[A51]at hc |-;have e5:=(A6M T _).1 _ _|>.clean hc
   have gB:=(B29 hN _).1 _ _ (by rw[A6S];omega) hc;have g4:(lab T (((A4E T 6 [] ((St.named T ⟨1,[]⟩).2.need T [40]).2).2.need T [41]).2.need T [58]).2).2.ds= []/\∀r:List Rf×St,r=(if T.is (lab T (((A4E T 6 [] ((St.named T ⟨1,[]⟩).2.need T [40]).2).2.need T [41]).2.need T [58]).2).2.i [115,101,110,100,115]=true then A4H T 6 [] (lab T (((A4E T 6 [] ((St.named T ⟨1,[]⟩).2.need T [40]).2).2.need T [41]).2.need T [58]).2).2.next else ([],(lab T (((A4E T 6 [] ((St.named T ⟨1,[]⟩).2.need T [40]).2).2.need T [41]).2.need T [58]).2).2))->r.1.length<=5/\∀p∈r.1,name p.name=true:=by
    split at e5
    ·rename_i hs
     refine⟨((A0D T _).trans (A9B T _ _ _)).clean e5,fun r hr=>?_⟩
     rw[if_pos hs]at hr;subst hr;exact B4y T _ _ _ e5 (H7 _) (fun _ h=>(by cases h))
    ·rename_i hs
     refine⟨e5,fun r hr=>?_⟩
     rw[if_neg hs]at hr;subst hr;exact⟨H7 _,fun _ h=>(by cases h)⟩
   have e3:=(A0h T _ _).clean ((A0h T _ _).clean ((A46 T _).clean g4.1));have gP:=B4x T _ _ _ e3 (H7 _) (fun _ h=>(by cases h));have e1:=A7q ((A0h T _ _).clean ((A9A T _ _ _).clean e3));first
    |exact(by rw[e1.2];exact e1.1)
    |exact A84 _ _
    |exact .inl rfl
    |exact gP
    |exact g4.2 _ rfl
    |exact⟨gB.2.1,gB.2.2⟩
  ·rw[if_neg c1]at hc |-
   by_cases c2:T.is 0 [99,104,97,110]=true
   ·rw[if_pos c2]at hc |-
    have hc:=hc.1;dsimp only[B0A]at hc |-;have e1:=A7q ((A0h T _ _).clean ((A46 T _).clean ((A0h T _ _).clean hc)));first
     |exact(by rw[e1.2];exact e1.1)
     |exact A84 _ _
     |exact .inr ⟨rfl,rfl,rfl,rfl⟩
     |exact⟨H7 _,fun _ h=>(by cases h)⟩
     |exact⟨H7 _,by rw[A0M];trivial⟩
   ·rw[if_neg c2]at hc
    exact absurd hc.1 (A2A _ _ _)
def C8a:PE:=fun _ _ _ _ _ _=>True
theorem A83 {its:List Itm}{i:Nat} (h:i<its.length):A0o its i∈its:=by
 rw[A0o,O4,G6 h];exact O7 h
theorem A2G {its:List Itm}{i:Nat} (h:i<its.length):its[i]?=some (A0o its i):=by
 rw[A0o,O4,G6 h];rfl
section
variable {its:List Itm}{at_:Int}
theorem B2C (s:NW) (a e:Nat) (n:List UInt8):(s.tell a e n).ds≠ []:=by simp[NW.tell]
theorem B5r {b:Int}{sc:List Lc}{a:Nat}{n:List UInt8}{s:NW} (h:(A72 b sc a n s).ds= []):s.ds= []/\(n≠ []->A1A sc n≠none):=by
 rw[A72]at h;split at h
 ·rename_i l hl
  exact⟨h,fun _=>by rw[hl];simp⟩
 ·split at h
  ·rename_i hn
   exact⟨h,fun h1=>absurd hn h1⟩
  ·exact absurd h (B2C _ _ _ _)
theorem B2u {its:List Itm}{b k:Int}{a:Nat}{n:List UInt8}{s:NW} (h:(A5e its b k a n s).ds= []):s.ds= []:=by
 rw[A5e]at h;split at h
 ·exact h
 ·split at h
  ·exact h
  ·exact absurd h (B2C _ _ _ _)
theorem C2w {its:List Itm}{b:Int}{a:Nat}{n:List UInt8}{m:Nat}{s:NW} (h:(A5h its b a n m s).ds= []):s.ds= []:=by
 rw[A5h]at h;split at h
 ·split at h
  ·exact absurd h (B2C _ _ _ _)
  ·exact B2u h
 ·exact B2u h
theorem C3q {n:List UInt8}{a:Nat}{sc:List Lc}{s:NW} (h:(mkN n a sc s).2.ds= []):s.ds= []:=by
 rw[mkN]at h;split at h
 ·exact h
 ·dsimp only at h
  split at h
  ·exact absurd h (B2C _ _ _ _)
  ·exact h
mutual
theorem B1l {its:List Itm}{b:Int}{sc:List Lc}:∀(e:Ex) {s:NW},(exN its b sc e s).ds= []->s.ds= []
 | .mk k nm n args f t,s,h=>by
  rw[exN]at h;have h1:=B2q args h;split at h1
  ·exact(B5r h1).1
  ·split at h1
   ·exact C2w h1
   ·exact h1
theorem B2q {its:List Itm}{b:Int}{sc:List Lc}:∀(l:List Ex) {s:NW},(A5d its b sc l s).ds= []->s.ds= []
 | [],s,h=>by rw[A5d]at h;exact h
 |e::l,s,h=>by rw[A5d]at h;exact B1l e (B2q l h)
 end
mutual
theorem C5Z {its:List Itm}{b:Int}:∀(x:Stm) {sc:List Lc}{s:NW},(A5Z its b x sc s).2.ds= []->s.ds= []
 | .mk k nm a lb o e thn els f t,sc,s,h=>by
  rw[A5Z]at h;split at h
  ·exact B1l e (C3q h)
  ·split at h
   ·exact B1l e (B5r h).1
   ·split at h
    ·exact B1l e (B2u h)
    ·split at h
     ·exact B1l e (A7z thn (A7z els h))
     ·exact B1l e h
theorem A7z {its:List Itm}{b:Int}:∀(l:List Stm) {sc:List Lc}{s:NW},(A1c its b l sc s).2.ds= []->s.ds= []
 | [],sc,s,h=>by rw[A1c]at h;exact h
 |x::l,sc,s,h=>by rw[A1c]at h;exact C5Z x (A7z l h)
 end
end
def C4O:PS:=fun _ _ _ _ _ _ _=>True
def C2u (its:List Itm):PE:=fun k nm _ na _ _=>k=4->nm≠ []->∃j,A0Z its 2 nm=some j/\(A0o its j).params.length=na
theorem B76 (s:NW) (a e:Nat) (n:List UInt8):(s.tell a e n).ds≠ []:=by simp[NW.tell]
theorem C0e {its:List Itm}{b k:Int}{a:Nat}{n:List UInt8}{s:NW} (h:(A5e its b k a n s).ds= []) (hn:n≠ []):∃j,A0Z its k n=some j:=by
 rw[A5e]at h;split at h
 ·rename_i j hj;exact⟨j,hj⟩
 ·rw[if_neg hn]at h;exact absurd h (B76 _ _ _ _)
theorem C4U {its:List Itm}{b:Int}{a:Nat}{n:List UInt8}{m:Nat}{s:NW} (h:(A5h its b a n m s).ds= []) (hn:n≠ []):∃j,A0Z its 2 n=some j/\(A0o its j).params.length=m:=by
 rw[A5h]at h;split at h
 ·rename_i j hj
  split at h
  ·exact absurd h (B76 _ _ _ _)
  ·rename_i hl;exact⟨j,hj,by omega⟩
 ·rename_i hj
  obtain⟨j,hj2⟩:=C0e h hn;rw[hj]at hj2;cases hj2
mutual
theorem A6m {its:List Itm}{b:Int}{sc:List Lc}:∀(e:Ex) {s:NW},(exN its b sc e s).ds= []->e.all (C2u its)
 | .mk k nm n args f t,s,h=>by
  rw[exN]at h;rw[Ex.all];refine⟨fun hk hn=>?_,B4m args h⟩
  have h1:=B2q args h;rw[if_neg (by omega),if_pos hk]at h1;exact C4U h1 hn
theorem B4m {its:List Itm}{b:Int}{sc:List Lc}:∀(l:List Ex) {s:NW},(A5d its b sc l s).ds= []->A1p (C2u its) l
 | [],s,h=>by rw[A1p];trivial
 |e::l,s,h=>by
  rw[A5d]at h;rw[A1p];exact⟨A6m e (B2q l h),B4m l h⟩
 end
mutual
theorem B1S {its:List Itm}:∀(e:Ex) {d l:Nat},e.fitE d l->e.all (C2u its)->e.all (okE its)
 | .mk k nm n args f t,d,l,h,hc=>by
  rw[Ex.fitE]at h;rw[Ex.all]at hc |-;rcases h.2 with h|h|h|h
  ·obtain⟨h1,_,_,h4⟩:=h
   subst h4;exact⟨.inl h1,A4x⟩
  ·obtain⟨h1,_,_,h4⟩:=h
   subst h4;exact⟨.inr (.inl h1),A4x⟩
  ·exact⟨.inr (.inr (.inr ⟨h.1,hc.1 h.1 (A56 h.2.1)⟩)),C2P args h.2.2.2.2 hc.2⟩
  ·exact⟨.inr (.inr (.inl ⟨h.1,h.2.2.2.1⟩)),C3M args h.2.2.2.2 hc.2⟩
theorem C2P {its:List Itm}:∀(l:List Ex) {d:Nat},A2k l d->A1p (C2u its) l->A1p (okE its) l
 | [],d,_,_=>A4x
 |e::l,d,h,hc=>by
  rw[A2k]at h;rw[A1p]at hc |-;exact⟨B1S e h.1 hc.1,C2P l h.2 hc.2⟩
theorem C3M {its:List Itm}:∀(l:List Ex) {d n:Nat},A3z l d n->A1p (C2u its) l->A1p (okE its) l
 | [],d,_,_,_=>A4x
 |e::l,d,n,h,hc=>by
  rw[A3z]at h;rw[A1p]at hc |-;exact⟨B1S e h.1 hc.1,C3M l h.2 hc.2⟩
 end
def okS (its:List Itm):PS:=fun k nm _ _ _ _ _=>k=5->∃j,A0Z its 1 nm=some j
mutual
theorem C7A {its:List Itm}{b:Int}:∀(x:Stm) {d:Nat}{sc:List Lc}{s:NW},x.fitS d->(A5Z its b x sc s).2.ds= []->x.all (okE its) (okS its)
 | .mk k nm a lb o e thn els f t,d,sc,s,hf,h=>by
  rw[Stm.fitS]at hf;rw[A5Z]at h;rw[Stm.all];obtain⟨h0,hf⟩:=hf;rcases hf with hf|hf|hf|hf|hf|hf
  ·obtain⟨k1,_,_,_,rfl,rfl⟩:=hf
   rw[if_pos k1]at h;exact⟨fun h5=>by omega,B1S e h0 (A6m e (C3q h)),X4,X4⟩
  ·obtain⟨k1,_,_,_,rfl,rfl⟩:=hf
   rw[if_neg (by omega),if_pos k1]at h;exact⟨fun h5=>by omega,B1S e h0 (A6m e (B5r h).1),X4,X4⟩
  ·obtain⟨k1,hn,_,_,rfl,rfl⟩:=hf
   rw[if_neg (by omega),if_neg (by omega),if_pos k1]at h;exact⟨fun _=>C0e h (A56 hn),B1S e h0 (A6m e (B2u h)),X4,X4⟩
  ·obtain⟨k1,_,_,_,rfl,rfl⟩:=hf
   rw[if_neg (by omega),if_neg (by omega),if_neg (by omega),if_neg (by omega)]at h;exact⟨fun h5=>by omega,B1S e h0 (A6m e h),X4,X4⟩
  ·obtain⟨k1,_,_,_,rfl,rfl,_⟩:=hf
   rw[if_neg (by omega),if_neg (by omega),if_neg (by omega),if_neg (by omega)]at h;exact⟨fun h5=>by omega,B1S e h0 (A6m e h),X4,X4⟩
  ·obtain⟨k1,_,_,_,_,_,_,ht,he⟩:=hf
   have k34:k=3\/k=4:=by omega
   rw[if_neg (by omega),if_neg (by omega),if_neg (by omega),if_pos k34]at h;have hT:=A7z els h;exact⟨fun h5=>by omega,B1S e h0 (A6m e (A7z thn hT)),B2B thn ht hT,B2B els he h⟩
theorem B2B {its:List Itm}{b:Int}:∀(l:List Stm) {d:Nat}{sc:List Lc}{s:NW},A0M l d->(A1c its b l sc s).2.ds= []->X7 (okE its) (okS its) l
 | [],d,sc,s,_,_=>X4
 |x::l,d,sc,s,hf,h=>by
  rw[A1c]at h;rw[A0M]at hf;rw[X7];exact⟨C7A x hf.1 (A7z l h),B2B l hf.2 h⟩
 end
theorem C00 {s:List UInt8} (h:A5k (J7 s)= []):∀it∈J7 s,it.fitI:=fun it hit=>by
 obtain⟨i,hi,rfl⟩:=A1K hit;have hg:=G6 hi;have e:A0o (J7 s) i=(J7 s)[i]:=by rw[A0o,O4,hg];rfl
 have h1:=(B6p h hi).1;rw[e]at h1;have hm:=O7 hi;generalize (J7 s)[i]=it at h1 hm;rw[J7]at hm;split at hm
 ·rw[A3I]at hm
  obtain⟨j,_,rfl⟩:=A0x.1 hm;exact B4w _ _ h1
 ·cases hm
theorem C5P {s:List UInt8} (h:A5k (J7 s)= []):∀it∈J7 s,it.kind=2->X7 (okE (J7 s)) (okS (J7 s)) it.body:=fun it hit hk=>by
 have hfit:=C00 h it hit;obtain⟨i,hi,rfl⟩:=A1K hit;have hg:=G6 hi;have e:A0o (J7 s) i=(J7 s)[i]:=by rw[A0o,O4,hg];rfl
 have h1:=(B6p h hi).2.1;rw[A3a,e,if_pos hk,fnN]at h1;exact B2B _ hfit.body.2 h1
theorem C7q {s:List UInt8} (h:A5k (J7 s)= []):∀it∈J7 s,it.kind=2->X7 (okE (J7 s)) C4O it.body:=fun it hit hk=>
 A47 (fun _ _ _ _ _ _ h=>h) (fun _ _ _ _ _ _ _ _=>trivial) _ (C5P h it hit hk)
end Go.Sp
namespace Go.Fw
open Go.Sp
open Go
theorem B5H {w:World}{base e sz n m cp:Nat}{a:Option Addr}{xs:List Value} (ho:w.ownsRow base e sz (.slice a n cp) n xs) (hmn:m<=n):
  w.ownsRow base e sz (.slice a m cp) m (xs.take (m *sz))/\n<=cp/\(a=none\/∃g,a=some ⟨g,0,none⟩):=by
 have h0:=ho.1;have hle:m *sz<=n *sz:=A3Q _ hmn;have hlen:(xs.take (m *sz)).length=m *sz:=by rw[Q4];omega
 rcases ho.2 with ⟨hv,hn⟩|⟨g,cap,cur,hv,hb,hg,hc,hcm,hs,ht⟩
 ·obtain⟨rfl,rfl,rfl⟩:=Value.slice.inj hv
  obtain rfl:m=0:=by omega
  exact⟨⟨hlen,.inl ⟨rfl,rfl⟩⟩,G9 _,.inl rfl⟩
 ·obtain⟨rfl,_,rfl⟩:=Value.slice.inj hv
  refine⟨⟨hlen,.inr ⟨g,cp,cur,rfl,hb,hg,by omega,hcm,hs,?_⟩⟩,hc,.inr ⟨g,rfl⟩⟩
  rw[<-ht,A28,A1g hle]
section
variable {P:Program}{N:Nat}{ds:List Deferred}{Q:Exit->Act->World->Prop}{l:Log}{w:World}{ops:Array Oper}{os:List Oper}
variable {d:Nat}{ty:TypeId}{pos:String}{af:Array Edge}{g:Option (Nat×Bool)}{t:TypeId}{x y:Operand}{E:Ent}{I:P6}{H:List HItem}
theorem A9u {e:TypeId}{sz by_:Nat} [TySlice P t e] [Elem P e sz by_] {i n m cp:Nat}{a:Option Addr}{xs:List Value} (k:Mem E I (H.set i (.row (.slice a m cp) e sz m (xs.take (m *sz)))) w->WL P N ds ops Q os ((d,.slice a m cp)::l) w) (hm:Mem E I H w)
  (hw:U4 ops l ⟨some d,.slice t x none (some y) none,ty,pos,af,g⟩=some true:=by rfl) (hN:Nat.blt d N=true:=by rfl)
  (hx:ev l x=some (.slice a n cp):=by rfl) (hy:ev l y=some (.int .i64 (m:Int)):=by rfl) (hi:H[i]?=some (.row (.slice a n cp) e sz n xs):=by first|exact gt0|exact gt1|exact gt2|exact gt3|exact gt4|exact gt5|exact gt6) (hmn:m<=n)
   :
  WL P N ds ops Q (⟨some d,.slice t x none (some y) none,ty,pos,af,g⟩::os) l w:=by
 obtain⟨h1,h2,h3⟩:=B5H (hm.ok _ (A0B hi)) hmn;have hm':=hm.turn (h':=.row (.slice a m cp) e sz m (xs.take (m *sz))) hi (Kept.refl _ w) h1 (.inl (by rcases a with _|a<;>rfl));refine U6 (w':=w) (v:=.slice a m cp) rfl hw hN (fun c hc=>?_) (k hm')
 obtain⟨inf,z,hinf,_,hs,_,_,_⟩:=Elem.out (P:=P) (e:=e);have h6:=run_underlying (P:=P) (w:=w) (TySlice.out (P:=P) (t:=t));have h7:m<=cp:=by omega
 rcases h3 with rfl|⟨g,rfl⟩
 ·simp[execOp,Instr.sliceAt,Instr.slice,Instr.sliceBounds,Instr.sliceBound,hc.ev hx,hc.ev hy,h6,asIntOf,h7,sizeOf,typeInfo,hinf]
 ·simp[execOp,Instr.sliceAt,Instr.slice,Instr.sliceBounds,Instr.sliceBound,hc.ev hx,hc.ev hy,h6,asIntOf,h7,sizeOf,typeInfo,hinf,Addr.add_lit]
end
end Go.Fw
namespace Go.Sp
theorem C0C (C:A6h) (x:Stm) (s:SR):B71 C x s=if x.kind=4 then A8w (fun sc m=>exR C sc x.e m) (A8C C x.thn) 3001 s else
  if s.m.go=false then { s with m:=s.m.step} else
  if (exR C s.sc x.e s.m.step).2.err≠0 then { s with m:=(exR C s.sc x.e s.m.step).2} else
  if x.kind=1 then { s with sc:=s.sc++ [⟨x.name,(exR C s.sc x.e s.m.step).1⟩],m:=(exR C s.sc x.e s.m.step).2} else
  if x.kind=2 then { s with sc:=C39 s.sc x.name (exR C s.sc x.e s.m.step).1,m:=(exR C s.sc x.e s.m.step).2} else
  if x.kind=5 then { s with m:= { (exR C s.sc x.e s.m.step).2 with ev:=(exR C s.sc x.e s.m.step).2.ev++ [⟨x.name,(exR C s.sc x.e s.m.step).1⟩]}} else
  if x.kind=6 then { s with back:=(exR C s.sc x.e s.m.step).1,m:=(exR C s.sc x.e s.m.step).2} else
  if x.kind=3 then if (exR C s.sc x.e s.m.step).1≠0 then A8C C x.thn { s with m:=(exR C s.sc x.e s.m.step).2} else A8C C x.els { s with m:=(exR C s.sc x.e s.m.step).2}
  else { s with m:=(exR C s.sc x.e s.m.step).2}:=by
 cases x;rw[B71];rfl
theorem B9p {l:List Par}{k:Nat}{p:Par}{args:List Int}{n:Int} (h:l[k]?=some p) (ha:args[k]?=some n):A7u (l.take (k+1)) args=A7u (l.take k) args++ [⟨p.name,n⟩]:=by
 induction l generalizing k args with
 |nil=>simp at h
 |cons a l ih=>
  cases args with
  |nil=>simp at ha
  |cons b args=>
   cases k with
   |zero=>
    simp only[A0A,U3]at h ha;subst h;subst ha;simp[A7u]
   |succ k=>
    rw[A0E]at h ha;have:=ih h ha;simp only[A7u,A1l,List.zipWith_cons_cons,Y0]at this |-;rw[this]
theorem C1E {l:List Par}{k:Nat}{args:List Int} (hk:k<=l.length) (ha:l.length=args.length):(A7u (l.take k) args).length=k:=by
 rw[A7u,List.length_zipWith,Q4];omega
end Go.Sp
namespace Go.Fw
open Go.Sp
open Go
section
variable {P:Program}{N:Nat}{ds:List Deferred}{Q:Exit->Act->World->Prop}{K:Act->World->Prop}{l l':Log}{w w':World}{ops:Array Oper}{os:List Oper}
variable {d:Nat}{ty:TypeId}{pos:String}{af:Array Edge}{g:Option (Nat×Bool)}{t t':TypeId}{x y z:Operand}
theorem A78 {e:TypeId} (hT:P.underlying t=some (.pointer e):=by kernel_rfl) {a:Option Addr}{k0:Value} (hw:U4 ops l ⟨some d,.binOp .neq t x (.const k0) t',ty,pos,af,g⟩=some true:=by rfl) (hN:Nat.blt d N=true:=by rfl)
  (hx:ev l x=some (.pointer a):=by rfl) (hk:k0=.pointer none:=by rfl) (k:WQ P N ds ops w K os ((d,.bool a.isSome)::l)):WQ P N ds ops w K (⟨some d,.binOp .neq t x (.const k0) t',ty,pos,af,g⟩::os) l:=
 A0X rfl hw hN (fun w' hkq c hc=>by
  subst hk;have h1:=run_underlying (P:=P) (w:=w') hT;have e2:c.eval (.const (.pointer none))=.pointer none:=rfl;have h2:(Op.equal t (.pointer a) (.pointer none)).run P w'=.ok a.isNone w':=by
   show (Op.equalIn (9999+1) t (.pointer a) (.pointer none)).run P w'=_
   rw[Op.equalIn];cases a<;>simp[h1]
  cases a<;>simp[execOp,hc.ev hx,e2,eqGuard,binOp,h2]) k
end
end Go.Fw
namespace Go.Proofs
open Go.Proofs.Tryz
open Go.Sp
open Go.Fw
theorem B7Z {I:P6}{x:Sp.Stm}{b o tc ec:Nat}{ea:Option Addr}{v1 v2:Value} (hp:PtrI I b o tc (A2K x.kind x.name x.at_ x.label x.opn x.e ea ec v1 v2 x.fr x.to)):PtrI I b (o+5) tc (A0z x.e ea ec):=
 hp.sub (cs':=A0z x.e ea ec) 5 (fun j u hj=>by
  match j,hj with
  |0,hj=>exact hj
  |1,hj=>exact hj
  |2,hj=>exact hj
  |3,hj=>exact hj
  |4,hj=>exact hj
  |5,hj=>exact hj
  |j+6,hj=>cases hj)
structure RsX where
 k:Nat
 I:P6
 s:Sp.SR
 sa:Option Addr
 sp:Nat
 va:Option Addr
 vp:Nat
abbrev ToR (br bm bf:Nat) (s:Sp.SR) (deep:Nat):Value->P6->List HItem->Prop:=fun v _ H'=>v=.tuple #[]/\∃sa sp va vp,H'=RSt br bm bf s.sc s.back s.m sa sp va vp deep
section
variable (I0:P6) (C:A6h) (br bm bf deep:Nat)
def B8q (x:Sp.Stm):Prop:=
 ∀(I:P6) (b o tc:Nat) (cs:List Value) (s:Sp.SR) (sa:Option Addr) (sp:Nat) (va:Option Addr) (vp:Nat),Le I0 I->s.m.steps<=3000->s.m.ev.length<=s.m.steps->s.sc.length+x.cnt<=1000000000->
  PtrI I b o tc cs->A5j I x cs->
  CalM prog 124 #[ptr br,.pointer (some ⟨b,o,none⟩)] I (RSt br bm bf s.sc s.back s.m sa sp va vp deep) (ToR br bm bf (B71 C x s) deep)
def B2I (l:List Sp.Stm):Prop:=
 ∀(I:P6) (ab:Option Addr) (cb:Nat) (xb:List Value) (s:Sp.SR) (sa:Option Addr) (sp:Nat) (va:Option Addr) (vp:Nat),Le I0 I->s.m.steps<=3000->s.m.ev.length<=s.m.steps->s.sc.length+P8 l<=1000000000->
  RowI I 111 15 (.slice ab l.length cb) l.length xb->X6 I l xb->
  CalM prog 92 #[ptr br,.slice ab l.length cb] I (RSt br bm bf s.sc s.back s.m sa sp va vp deep) (ToR br bm bf (A8C C l s) deep)
end
section
variable {I0:P6}{its:List Sp.Itm}{C:A6h}{br bm bf deep:Nat}
theorem C5H (hC:A6g C) (l:List Sp.Stm) (hl:l.length<=64) (hS:∀y∈l,B8q I0 C br bm bf deep y):B2I I0 C br bm bf deep l:=by
 intro I ab cb xb s sa sp va vp hle0 hst hev hsc hr hx;refine CalM.of fun w E hm=>enter (N:=39) func92 rfl [(0,ptr br),(1,.slice ab l.length cb)] A0T rfl ?_
 repeat' (first|refine J4 ?_ hm|refine D8 ?_|refine D6 ?_|refine G7 ?_|refine E5 ?_|refine C9 ?_|refine D9 ?_|refine A7 ?_|refine E8 ?_|refine A8 ?_|refine F5 ?_)
 refine U2 (fun x:RsX=> [(0,ptr br),(1,.slice ab l.length cb),(4,nt s.sc.length),(12,nt l.length),(13,nt x.k)])
  (fun x w'=>Mem E x.I (RSt br bm bf x.s.sc x.s.back x.s.m x.sa x.sp x.va x.vp deep) w'/\Le I x.I/\x.k<=l.length/\Sp.goR C l s=Sp.goR C (l.drop x.k) x.s/\Sp.SR.To (P8 (l.take x.k)) s x.s) (fun x=>l.length-x.k) ⟨0,I,s,sa,sp,va,vp⟩
  (by exact⟨rfl,rfl,rfl,rfl,rfl,trivial⟩) ⟨hm,Le.refl _,H7 _,rfl,.refl hst,G9 _,Nat.le_add_right _ _⟩ ?_
 clear hm;rintro⟨k,I1,s1,sa1,sp1,va1,vp1⟩ w1 ⟨hm,hle1,hk,hgo,hto⟩;dsimp only at hm hle1 hk hgo hto |-;have hrow:=hr.le hle1;have hm1:=hto.m;have hev1:s1.m.ev.length<=s1.m.steps:=by have:=hm1.ev;omega
 by_cases hlt:k<l.length
 ·have hg:l[k]?=some l[k]:=G6 hlt
  rw[A6t hlt,Sp.goR]at hgo;have hmem:=O7 hlt;obtain⟨cs,hcs⟩:∃cs,cs=(xb.drop (k *15)).take 15:=⟨_,rfl⟩;have hat:=hx.get hg;rw[<-hcs]at hat
  have hSk:=hS _ hmem;generalize l[k]=y at hg hgo hat hSk;have hcy:=A4t hg;have hhi:=hto.hi;by_cases he:s1.m.err≠0
  ·rw[if_pos he]at hgo
   have hfin:A8C C l s=s1:=by rw[A8C,hgo,A8z,if_neg (by simp)]
   rw[hfin];repeat' (first|refine J4 ?_ hm|refine D8 ?_|refine D6 ?_|refine J6 ?_|refine A0y ?_|refine E5 ?_|refine C9 ?_|refine D9 ?_|refine A7 ?_|refine G8 ?_|refine O1 ?_|refine E8 ?_|refine A8 ?_|refine F5 ?_|refine G5 ?_|refine H8 ?_|refine A4U ?_|(refine D5 (ht:=fun _=>?_) (hf:=fun _=>?_)<;>try first|contradiction|omega))
   exact⟨I1,_,⟨rfl,sa1,sp1,va1,vp1,rfl⟩,hm⟩
  ·rw[if_neg he]at hgo
   have he0:s1.m.err=0:=by omega
   have hcl:=fun b o (hpt:PtrI I1 b o 111 cs)=>hSk I1 b o 111 cs s1 sa1 sp1 va1 vp1 (hle0.trans hle1) hm1.top hev1 (by omega) hpt (A5j.le hle1 _ _ hat)
   have hty:=C0D hC y s1 hm1.top;have hcs1:P8 (l.take (k+1))=P8 (l.take k)+y.cnt:=by rw[Q8 hg,A2L,A4O]
   generalize B71 C y s1=s2 at hcl hgo hty;repeat' (first|refine O0 (d:=27) ?_ (hr:=hrow);intro bt ot hpt;rw[show ((k:Int).toNat *15)=k *15 from rfl, <-hcs]at hpt|refine F6 (d:=28) ?_ hm (hp:=pmR4) (hc:=hcl _ _ hpt);clear hm;rintro _ I2 _ _ ⟨rfl,sa2,sp2,va2,vp2,rfl⟩ hleI2 hm;try simp only[F9]at hm|refine J4 ?_ hm|refine D8 ?_|refine D6 ?_|refine J6 ?_|refine A0y ?_|refine E5 ?_|refine P7 ?_|refine C9 ?_|refine D9 ?_|refine A7 ?_|refine D7 ?_|refine E8 ?_|refine A8 ?_|refine F5 ?_|refine G5 ?_|(refine D5 (ht:=fun _=>?_) (hf:=fun _=>?_)<;>try first|contradiction|omega))
   exact L9 (⟨k+1,I2,s2,sa2,sp2,va2,vp2⟩:RsX) (by exact⟨rfl,rfl,rfl,rfl,rfl,trivial⟩)
    ⟨hm,hle1.trans hleI2,by dsimp only;omega,hgo,⟨hm1.trans hty.m,by have:=hto.lo;have:=hty.lo;dsimp only;omega,by have:=hty.hi;dsimp only;omega⟩⟩ (by dsimp only;omega)
 ·obtain rfl:k=l.length:=by omega
  rw[A6D,Sp.goR]at hgo;have hlo:=hto.lo;have hfin:A8C C l s= { s1 with sc:=s1.sc.take s.sc.length}:=by rw[A8C,hgo,A8z,if_pos rfl]
  rw[hfin];have htl:(s1.sc.take s.sc.length).length=s.sc.length:=by rw[Q4];omega
  repeat' (first|refine A9u (d:=36) ?_ hm (hmn:=hlo);clear hm;intro hm;try simp only[F9]at hm|refine J4 ?_ hm|refine O6 hm (k:=?_);clear hm;intro _ hm;try simp only[F9]at hm|refine D8 ?_|refine J6 ?_|refine E5 ?_|refine C9 ?_|refine D9 ?_|refine A7 ?_|refine H9 ?_|refine H5 ?_|refine E8 ?_|refine A8 ?_|refine P9 ?_|refine X0 ?_|(refine D5 (ht:=fun _=>?_) (hf:=fun _=>?_)<;>try first|contradiction|omega))
  refine⟨I1,_,⟨rfl,sa1,sp1,va1,vp1,?_⟩,hm⟩
  have e:(s1.sc.flatMap A8Q).take (s.sc.length *2)=(s1.sc.take s.sc.length).flatMap A8Q:=by
   have key:∀(l:List Sp.Cl) (n:Nat),(l.flatMap A8Q).take (n *2)=(l.take n).flatMap A8Q:=by
    intro l;induction l with
    |nil=>intro n;simp
    |cons x l ih=>
     intro n;cases n with
     |zero=>simp
     |succ n=>
      rw[A0a,A1l,A0a,show (n+1) *2=2+n *2 by omega,A6C,A0u (by show 2<=2+n *2;omega),show 2+n *2-(A8Q x).length=n *2 by (show 2+n *2-2=n *2;omega),ih]
   exact key _ _
  dsimp only[RSt,A9M,A9Y];rw[e,htl]
theorem C5K (hW:B6i I0 its C bm bf deep) (hC:A6g C) (x:Sp.Stm) (hsm:x.small) (hok:x.e.all (Sp.okE its)) (hT:B2I I0 C br bm bf deep x.thn) (k4:x.kind=4):B8q I0 C br bm bf deep x:=by
 intro I b o tc cs s sa sp va vp hle0 hst hev hsc hp hx;refine CalM.of fun w E hm=>enter (N:=135) func124 rfl [(0,ptr br),(1,.pointer (some ⟨b,o,none⟩))] A0T rfl ?_
 obtain⟨s1,s2,s3,s4,s5⟩:=A1S hsm;have hcn:=Sp.Stm.cnt_eq x;obtain⟨ea,ec,ex,a1',c1,xs1,a2',c2,xs2,rfl,hr3,hx3,hr4,hx4,hr5,hx5⟩:=hx.out;rw[C0C,if_pos k4];generalize hfin:A8w (fun sc m=>Sp.exR C sc x.e m) (A8C C x.thn) 3001 s=fin;have hbt:B9T (P8 x.thn) (A8C C x.thn):=fun s h=>B5a hC x.thn s h
 repeat' (first|refine J5 ?_ hm|refine D8 ?_|refine N9 ?_|refine E5 ?_|refine C9 ?_|refine D9 ?_|refine A7 ?_|refine E8 ?_|refine A8 ?_|refine F5 ?_|(refine D5 (ht:=fun _=>?_) (hf:=fun _=>?_)<;>try first|contradiction|omega))
 refine U2 (fun _:RsX=> [(0,ptr br),(1,.pointer (some ⟨b,o,none⟩))])
  (fun y w'=>Mem E y.I (RSt br bm bf y.s.sc y.s.back y.s.m y.sa y.sp y.va y.vp deep) w'/\Le I y.I/\3000<y.k+y.s.m.steps/\fin=A8w (fun sc m=>Sp.exR C sc x.e m) (A8C C x.thn) y.k y.s/\
   s.m.To y.s.m/\(y.s.m.err=0->y.s.sc.length=s.sc.length)) (fun y=>3001-y.s.m.steps) ⟨3001,I,s,sa,sp,va,vp⟩
  (by exact⟨rfl,rfl,trivial⟩) ⟨hm,Le.refl _,by dsimp only;omega,hfin.symm,.refl hst,fun _=>rfl⟩ ?_
 clear hm;rintro⟨j,I1,y,sa1,sp1,va1,vp1⟩ w1 ⟨hm,hle1,hj,hlp,hto,hln⟩;dsimp only at hm hle1 hj hlp hto hln |-;have hst1:=hto.top;have hev1:y.m.ev.length<=y.m.steps:=by have:=hto.ev;omega
 obtain⟨j,rfl⟩:∃i,j=i+1:=⟨j-1,by omega⟩;have hp1:=hp.le hle1;have hS:=fun (J:P6)=>B9v (bm:=bm) (bf:=bf) (m:=y.m) (ea:=va1) (ep:=vp1) (deep:=deep) hst1 J
 have hstt:=A9C hst1;have hse:=B53 y.m;have hgg:= @B54 y.m;rw[A8w]at hlp;obtain⟨sc,back,m⟩:=y;dsimp only at hm hj hlp hto hln hst1 hev1 hS hstt hse hgg;generalize hm1:m.step=m1 at hS hstt hse hlp hgg;have hevr:A6Y m1 va1 vp1=A6Y m va1 vp1:=by unfold A6Y;rw[hse]
 have hev2:m1.ev.length<=m1.steps:=by have:=hstt.ev;omega
 cases hgo:m.go with
 |false=>
  rw[hgo,if_pos rfl]at hlp;rw[hgo]at hS;rw[hlp];repeat' (first|refine F6 (d:=14) ?_ hm (hp:=pm1_2) (hc:=hS _);clear hm;rintro _ I2 _ _ ⟨rfl,rfl⟩ hleI2 hm;try simp only[F9]at hm;rw[<-hevr]at hm|refine J4 ?_ hm|refine D8 ?_|refine L8 ?_|refine E5 ?_|refine C9 ?_|refine A0N ?_|refine D9 ?_|refine A7 ?_|refine G8 ?_|refine H9 ?_|refine H5 ?_|refine E8 ?_|refine A8 ?_|refine P9 ?_|refine H8 ?_|refine A4U ?_|refine F7 ?_)
  exact⟨I2,_,⟨rfl,sa1,sp1,va1,vp1,rfl⟩,hm.perm pm2_1⟩
 |true=>
 rw[hgo,if_neg (by simp)]at hlp;rw[hgo]at hS;obtain⟨hg1,hg2,hg3⟩:=hgg hgo;have hsl:=hln hg2;have hE:=fun (J:P6) (mm:Le I1 J) (b o tc:Nat) (hpt:PtrI J b o tc (A0z x.e ea ec))=>C3Z (br:=br) hW hC _ x.e (G9 _) s1 hok J b o tc ea ec ex sc back m1 sa1 sp1 va1 vp1 ((hle0.trans hle1).trans mm) hstt.top hev2 (by omega) hpt ((hr3.le hle1).le mm) (Y7.le mm _ _ (Y7.le hle1 _ _ hx3))
 have hte:=B1m hC sc x.e m1 hstt.top;generalize Sp.exR C sc x.e m1=r at hE hlp hte;have hev3:r.2.ev.length<=r.2.steps:=by have:=hte.ev;omega
 have hpe:=fun (J:P6) (mm:Le I1 J)=>B7Z (hp1.le mm)
 by_cases hn:r.1=0
 ·rw[if_neg (fun h=>h.1 hn)]at hlp
  rw[hlp];rw[hn]at hE;repeat' (first|refine F6 (d:=14) ?_ hm (hp:=pm1_2) (hc:=hS _);clear hm;rintro _ I2 _ _ ⟨rfl,rfl⟩ hleI2 hm;try simp only[F9]at hm;rw[<-hevr]at hm;replace hm:=hm.perm pm2_1;have hp2:=hp1.le hleI2|refine F6 (d:=20) ?_ hm (hp:=pmR4) (hc:=hE I2 hleI2 _ _ _ (hpe _ hleI2));clear hm;rintro _ I3 _ _ ⟨rfl,va3,vp3,rfl⟩ hleI3 hm;try simp only[F9]at hm|refine J4 ?_ hm|refine D8 ?_|refine O9 ?_|refine L8 ?_|refine A0y ?_|refine E5 ?_|refine C9 ?_|refine A0N ?_|refine D9 ?_|refine A7 ?_|refine G8 ?_|refine H9 ?_|refine H5 ?_|refine E8 ?_|refine A8 ?_|refine P9 ?_|refine H8 ?_|refine A4U ?_|refine F7 ?_)
  exact⟨I3,_,⟨rfl,sa1,sp1,va3,vp3,rfl⟩,hm⟩
 by_cases he:r.2.err=0
 ·rw[if_pos ⟨hn,he⟩]at hlp
  have hB:=fun (J:P6) (mm:Le I1 J) (va:Option Addr) (vp:Nat)=>hT J a1' c1 xs1 ⟨sc,back,r.2⟩ sa1 sp1 va vp ((hle0.trans hle1).trans mm) hte.top hev3 (by dsimp only;omega) ((hr4.le hle1).le mm) (X6.le mm _ _ (X6.le hle1 _ _ hx4))
  dsimp only at hB;have htb:=hbt ⟨sc,back,r.2⟩ hte.top;generalize A8C C x.thn ⟨sc,back,r.2⟩=s9 at hB hlp htb;dsimp only at htb;repeat' (first|refine F6 (d:=14) ?_ hm (hp:=pm1_2) (hc:=hS _);clear hm;rintro _ I2 _ _ ⟨rfl,rfl⟩ hleI2 hm;try simp only[F9]at hm;rw[<-hevr]at hm;replace hm:=hm.perm pm2_1;have hp2:=hp1.le hleI2|refine F6 (d:=20) ?_ hm (hp:=pmR4) (hc:=hE I2 hleI2 _ _ _ (hpe _ hleI2));clear hm;rintro _ I3 _ _ ⟨rfl,va3,vp3,rfl⟩ hleI3 hm;try simp only[F9]at hm;have hp3:=hp2.le hleI3|refine F6 (d:=38) ?_ hm (hp:=pmR4) (hc:=hB I3 (hleI2.trans hleI3) va3 vp3);clear hm;rintro _ I4 _ _ ⟨rfl,sa4,sp4,va4,vp4,rfl⟩ hleI4 hm;try simp only[F9]at hm|refine J4 ?_ hm|refine J5 ?_ hm|refine D8 ?_|refine O9 ?_|refine N9 ?_|refine A0y ?_|refine E5 ?_|refine C9 ?_|(refine N8 (h1:=fun _=>?_) (h0:=fun _=>?_)<;>try first|contradiction|omega)|refine D9 ?_|refine A7 ?_|refine D7 ?_|refine E8 ?_|refine A8 ?_|refine F5 ?_|refine G5 ?_|(refine D5 (ht:=fun _=>?_) (hf:=fun _=>?_)<;>try first|contradiction|omega))
  have hup:=hte.up;have hup2:=htb.1.m.up;have hup3:m1.steps=m.steps+1:=by rw[hg1]
  exact L9 (⟨j,I4,s9,sa4,sp4,va4,vp4⟩:RsX) (by exact⟨rfl,rfl,trivial⟩)
   ⟨hm,((hle1.trans hleI2).trans hleI3).trans hleI4,by dsimp only at hup2 |-;omega,hlp,((hto.trans hstt).trans hte).trans htb.1.m,fun h=>by have:=htb.2 h;dsimp only at this |-;omega⟩ (by dsimp only at hup2 |-;omega)
 ·rw[if_neg (fun h=>he h.2)]at hlp
  rw[hlp];repeat' (first|refine F6 (d:=14) ?_ hm (hp:=pm1_2) (hc:=hS _);clear hm;rintro _ I2 _ _ ⟨rfl,rfl⟩ hleI2 hm;try simp only[F9]at hm;rw[<-hevr]at hm;replace hm:=hm.perm pm2_1;have hp2:=hp1.le hleI2|refine F6 (d:=20) ?_ hm (hp:=pmR4) (hc:=hE I2 hleI2 _ _ _ (hpe _ hleI2));clear hm;rintro _ I3 _ _ ⟨rfl,va3,vp3,rfl⟩ hleI3 hm;try simp only[F9]at hm|refine J4 ?_ hm|refine D8 ?_|refine O9 ?_|refine N9 ?_|refine A0y ?_|refine E5 ?_|refine C9 ?_|(refine N8 (h1:=fun _=>?_) (h0:=fun _=>?_)<;>try first|contradiction|omega)|refine D9 ?_|refine A7 ?_|refine G8 ?_|refine H9 ?_|refine H5 ?_|refine E8 ?_|refine A8 ?_|refine P9 ?_|refine H8 ?_|refine A4U ?_|(refine D5 (ht:=fun _=>?_) (hf:=fun _=>?_)<;>try first|contradiction|omega))
  exact⟨I3,_,⟨rfl,sa1,sp1,va3,vp3,rfl⟩,hm⟩
end
section
variable {I0:P6}{its:List Sp.Itm}{C:A6h}{br bm bf deep:Nat}
theorem C7l (hW:B6i I0 its C bm bf deep) (hC:A6g C) (x:Sp.Stm) (hsm:x.small) (hok:x.e.all (Sp.okE its)) (hT:B2I I0 C br bm bf deep x.thn) (hL:B2I I0 C br bm bf deep x.els):B8q I0 C br bm bf deep x:=by
 by_cases k4:x.kind=4
 ·exact C5K hW hC x hsm hok hT k4
 intro I b o tc cs s sa sp va vp hle0 hst hev hsc hp hx;refine CalM.of fun w E hm=>enter (N:=135) func124 rfl [(0,ptr br),(1,.pointer (some ⟨b,o,none⟩))] A0T rfl ?_
 obtain⟨s1,s2,s3,s4,s5⟩:=A1S hsm;have hcn:=Sp.Stm.cnt_eq x;obtain⟨ea,ec,ex,a1',c1,xs1,a2',c2,xs2,rfl,hr3,hx3,hr4,hx4,hr5,hx5⟩:=hx.out;have hS:=fun (J:P6)=>B9v (bm:=bm) (bf:=bf) (m:=s.m) (ea:=va) (ep:=vp) (deep:=deep) hst J
 have hstt:=A9C hst;have hse:=B53 s.m;have hgg:= @B54 s.m;have heq:=C0C C x s;rw[if_neg k4]at heq;obtain⟨fin,hfin⟩:∃fin,fin=B71 C x s:=⟨_,rfl⟩;rw[<-hfin]at heq |-;clear hfin;obtain⟨sc,back,m⟩:=s;dsimp only at hm hst hev hsc hS hstt hse hgg heq;generalize hm1:m.step=m1 at hS hstt hse heq hgg;have hevr:A6Y m1 va vp=A6Y m va vp:=by unfold A6Y;rw[hse]
 have hev2:m1.ev.length<=m1.steps:=by have:=hstt.ev;omega
 cases hgo:m.go with
 |false=>
  rw[hgo,if_pos rfl]at heq;rw[hgo]at hS;subst heq;repeat' (first|refine F6 (d:=43) ?_ hm (hp:=pm1_2) (hc:=hS _);clear hm;rintro _ I2 _ _ ⟨rfl,rfl⟩ hleI2 hm;try simp only[F9]at hm;rw[<-hevr]at hm|refine J4 ?_ hm|refine J5 ?_ hm|refine D8 ?_|refine N9 ?_|refine Y9 ?_|refine E5 ?_|refine C9 ?_|refine D9 ?_|refine A7 ?_|refine G8 ?_|refine E8 ?_|refine A8 ?_|refine G5 ?_|refine H8 ?_|refine A4U ?_|refine H6 ?_|(refine D5 (ht:=fun _=>?_) (hf:=fun _=>?_)<;>try first|contradiction|omega))
  exact⟨I2,_,⟨rfl,sa,sp,va,vp,rfl⟩,hm.perm pm2_1⟩
 |true=>
 rw[hgo,if_neg (by simp)]at heq;rw[hgo]at hS;obtain⟨hg1,hg2,hg3⟩:=hgg hgo;have hE:=fun (J:P6) (mm:Le I J) (b o tc:Nat) (hpt:PtrI J b o tc (A0z x.e ea ec))=>C3Z (br:=br) hW hC _ x.e (G9 _) s1 hok J b o tc ea ec ex sc back m1 sa sp va vp (hle0.trans mm) hstt.top hev2 (by omega) hpt (hr3.le mm) (Y7.le mm _ _ hx3)
 have hte:=B1m hC sc x.e m1 hstt.top;generalize Sp.exR C sc x.e m1=r at hE heq hte;have hte2:=hte.ev;have hst4:=hte.top;have hst3:m1.steps=m.steps+1:=by rw[hg1]
 have hev3:r.2.ev.length<=r.2.steps:=by omega
 have hpe:=fun (J:P6) (mm:Le I J)=>B7Z (hp.le mm)
 by_cases he:r.2.err≠0
 ·rw[if_pos he]at heq
  subst heq;repeat' (first|refine F6 (d:=43) ?_ hm (hp:=pm1_2) (hc:=hS _);clear hm;rintro _ I2 _ _ ⟨rfl,rfl⟩ hleI2 hm;try simp only[F9]at hm;rw[<-hevr]at hm;replace hm:=hm.perm pm2_1;have hp2:=hp.le hleI2|refine F6 (d:=49) ?_ hm (hp:=pmR4) (hc:=hE I2 hleI2 _ _ _ (hpe _ hleI2));clear hm;rintro _ I3 _ _ ⟨rfl,va3,vp3,rfl⟩ hleI3 hm;try simp only[F9]at hm|refine J4 ?_ hm|refine J5 ?_ hm|refine D8 ?_|refine D6 ?_|refine N9 ?_|refine A0y ?_|refine Y9 ?_|refine E5 ?_|refine C9 ?_|refine D9 ?_|refine A7 ?_|refine G8 ?_|refine E8 ?_|refine A8 ?_|refine G5 ?_|refine H8 ?_|refine A4U ?_|refine F7 ?_|(refine D5 (ht:=fun _=>?_) (hf:=fun _=>?_)<;>try first|contradiction|omega))
  exact⟨I3,_,⟨rfl,sa,sp,va3,vp3,rfl⟩,hm⟩
 rw[if_neg he]at heq;have he0:r.2.err=0:=by omega
 repeat' (first|refine F6 (d:=43) ?_ hm (hp:=pm1_2) (hc:=hS _);clear hm;rintro _ I2 _ _ ⟨rfl,rfl⟩ hleI2 hm;try simp only[F9]at hm;rw[<-hevr]at hm;replace hm:=hm.perm pm2_1;have hp2:=hp.le hleI2|refine F6 (d:=49) ?_ hm (hp:=pmR4) (hc:=hE I2 hleI2 _ _ _ (hpe _ hleI2));clear hm;rintro _ I3 _ _ ⟨rfl,va3,vp3,rfl⟩ hleI3 hm;try simp only[F9]at hm;have hp3:=hp2.le hleI3|refine A0H 6 ?_|refine J4 ?_ hm|refine J5 ?_ hm|refine D8 ?_|refine D6 ?_|refine N9 ?_|refine A0y ?_|refine Y9 ?_|refine E5 ?_|refine C9 ?_|refine D9 ?_|refine A7 ?_|refine E8 ?_|refine A8 ?_|refine G5 ?_|refine F7 ?_|(refine D5 (ht:=fun _=>?_) (hf:=fun _=>?_)<;>try first|contradiction|omega))
 refine⟨?_⟩
 have hle3:=hleI2.trans hleI3;by_cases k1:x.kind=1
 ·rw[if_pos k1]at heq
  subst heq;repeat' (first|refine A0s (id:=8) (hm.perm pm1_1) 11 13 (h:=?_);clear hm;intro wd hR hm|refine Y3 ?_ hR|refine A0c ?_ hR|refine A1U (d:=76) ?_ hm;clear hm;intro a76 cp76 _ _ hm;replace hm:=hR.back hm;clear hR;try simp only[F9]at hm|refine J5 ?_ hm|refine O6 hm (k:=?_);clear hm;intro _ hm;try simp only[F9]at hm|refine D8 ?_|refine D6 ?_|refine N9 ?_|refine E5 ?_|refine C9 ?_|refine D9 ?_|refine A7 ?_|refine D7 ?_|refine E8 ?_|refine A8 ?_|refine F5 ?_|refine X0 ?_|(refine D5 (ht:=fun _=>?_) (hf:=fun _=>?_)<;>try first|contradiction|omega)|refine Z4 ?_|refine O5 ?_|refine J8 ?_|refine A2M ?_|refine A0b ?_)
  refine⟨I3,_,⟨rfl,a76,cp76,va3,vp3,?_⟩,hm.swap⟩
  dsimp only[RSt,A9M,A9Y];rw[X9,E9];rfl
 rw[if_neg k1]at heq;by_cases k2:x.kind=2
 ·rw[if_pos k2]at heq
  have hG:=fun (J:P6)=>C6u (br:=br) (bm:=bm) (sc:=sc) (sa:=sa) (sp:=sp) (back:=back) x.name J (by omega)
  rw[C39]at heq;repeat' (first|refine F6 (d:=86) ?_ hm (hp:=pm2_0) (hc:=hG _);clear hm;rintro _ I4 _ _ (⟨i,p,b2,hgi,hfl,rfl,rfl,rfl⟩|⟨hfl,bl,rfl,rfl⟩) hleI4 hm<;>try simp only[F9]at hm|refine A5P (i:=1) hm (by rfl) (by rfl) (by rfl) (by rfl) gt1 (by rfl) (by rfl) (by rw[C0U];have:=(A0t.1 hgi).1;omega) ?_;clear hm;intro _ hm;try simp only[F9]at hm|refine J5 ?_ hm|refine O6 hm (k:=?_);clear hm;intro _ hm;try simp only[F9]at hm|refine D8 ?_|refine D6 ?_|refine N9 ?_|refine E5 ?_|refine C9 ?_|refine D9 ?_|refine A7 ?_|refine D7 ?_|refine E8 ?_|refine A8 ?_|refine F5 ?_|refine X0 ?_|(refine D5 (ht:=fun _=>?_) (hf:=fun _=>?_)<;>try first|contradiction|omega))
  ·rw[hfl]at heq
   have hd:sc.getD i ⟨[],0⟩=p:=by rw[O4,hgi];rfl
   dsimp only at heq;rw[hd]at heq;subst heq;refine⟨I4,_,⟨rfl,some ⟨b2,0,none⟩,sp,va3,vp3,?_⟩,hm⟩
   dsimp only[RSt,A9M,A9Y];rw[<-B4j r.1 hgi,A2n]
  ·rw[hfl]at heq
   subst heq;exact⟨I4,_,⟨rfl,sa,sp,va3,vp3,rfl⟩,hm.tl⟩
 rw[if_neg k2]at heq;by_cases k5:x.kind=5
 ·rw[if_pos k5]at heq
  subst heq;repeat' (first|refine A0s (id:=12) (hm.perm pm1_3) 17 19 (h:=?_);clear hm;intro wd hR hm|refine Y3 ?_ hR|refine A0c ?_ hR|refine A1U (d:=110) ?_ hm;clear hm;intro a110 cp110 _ _ hm;replace hm:=hR.back hm;clear hR;try simp only[F9]at hm|refine J5 ?_ hm|refine O6 hm (k:=?_);clear hm;intro _ hm;try simp only[F9]at hm|refine D8 ?_|refine D6 ?_|refine N9 ?_|refine E5 ?_|refine C9 ?_|refine D9 ?_|refine A7 ?_|refine D7 ?_|refine E8 ?_|refine A8 ?_|refine F5 ?_|refine X0 ?_|(refine D5 (ht:=fun _=>?_) (hf:=fun _=>?_)<;>try first|contradiction|omega)|refine Z4 ?_|refine O5 ?_|refine J8 ?_|refine A2M ?_|refine A0b ?_)
  refine⟨I3,_,⟨rfl,sa,sp,a110,cp110,?_⟩,hm.perm pm1_3.symm⟩
  dsimp only[RSt,B3l,A6Y];rw[X9,E9];rfl
 rw[if_neg k5]at heq;by_cases k6:x.kind=6
 ·rw[if_pos k6]at heq
  subst heq;repeat' (first|refine J5 ?_ hm|refine O6 hm (k:=?_);clear hm;intro _ hm;try simp only[F9]at hm|refine D8 ?_|refine D6 ?_|refine N9 ?_|refine E5 ?_|refine C9 ?_|refine D9 ?_|refine A7 ?_|refine D7 ?_|refine E8 ?_|refine A8 ?_|refine F5 ?_|refine X0 ?_|(refine D5 (ht:=fun _=>?_) (hf:=fun _=>?_)<;>try first|contradiction|omega))
  exact⟨I3,_,⟨rfl,sa,sp,va3,vp3,rfl⟩,hm⟩
 rw[if_neg k6]at heq;by_cases k3:x.kind=3
 ·rw[if_pos k3]at heq
  by_cases hn:r.1≠0
  ·rw[if_pos hn]at heq
   have hB:=hT I3 a1' c1 xs1 ⟨sc,back,r.2⟩ sa sp va3 vp3 (hle0.trans hle3) hte.top hev3 (by dsimp only;omega) (hr4.le hle3) (X6.le hle3 _ _ hx4);dsimp only at hB;rw[<-heq]at hB;repeat' (first|refine F6 (d:=128) ?_ hm (hp:=pmR4) (hc:=hB);clear hm;rintro _ I4 _ _ ⟨rfl,sa4,sp4,va4,vp4,rfl⟩ hleI4 hm;try simp only[F9]at hm|refine J5 ?_ hm|refine D8 ?_|refine D6 ?_|refine N9 ?_|refine A0y ?_|refine E5 ?_|refine C9 ?_|refine D9 ?_|refine A7 ?_|refine D7 ?_|refine E8 ?_|refine A8 ?_|refine F5 ?_|refine X0 ?_|(refine D5 (ht:=fun _=>?_) (hf:=fun _=>?_)<;>try first|contradiction|omega))
   exact⟨I4,_,⟨rfl,sa4,sp4,va4,vp4,rfl⟩,hm⟩
  ·rw[if_neg hn]at heq
   have hn0:r.1=0:=by omega
   have hB:=hL I3 a2' c2 xs2 ⟨sc,back,r.2⟩ sa sp va3 vp3 (hle0.trans hle3) hte.top hev3 (by dsimp only;omega) (hr5.le hle3) (X6.le hle3 _ _ hx5);dsimp only at hB;rw[<-heq]at hB;repeat' (first|refine F6 (d:=134) ?_ hm (hp:=pmR4) (hc:=hB);clear hm;rintro _ I4 _ _ ⟨rfl,sa4,sp4,va4,vp4,rfl⟩ hleI4 hm;try simp only[F9]at hm|refine J5 ?_ hm|refine D8 ?_|refine D6 ?_|refine N9 ?_|refine A0y ?_|refine E5 ?_|refine C9 ?_|refine D9 ?_|refine A7 ?_|refine D7 ?_|refine E8 ?_|refine A8 ?_|refine F5 ?_|refine X0 ?_|(refine D5 (ht:=fun _=>?_) (hf:=fun _=>?_)<;>try first|contradiction|omega))
   exact⟨I4,_,⟨rfl,sa4,sp4,va4,vp4,rfl⟩,hm⟩
 rw[if_neg k3]at heq;subst heq;repeat' (first|refine J5 ?_ hm|refine D8 ?_|refine D6 ?_|refine N9 ?_|refine E5 ?_|refine C9 ?_|refine D9 ?_|refine A7 ?_|refine D7 ?_|refine E8 ?_|refine A8 ?_|refine F5 ?_|refine G5 ?_|refine X0 ?_|(refine D5 (ht:=fun _=>?_) (hf:=fun _=>?_)<;>try first|contradiction|omega))
 exact⟨I3,_,⟨rfl,sa,sp,va3,vp3,rfl⟩,hm⟩
theorem C8w (hW:B6i I0 its C bm bf deep) (hC:A6g C):∀(n:Nat) (l:List Sp.Stm),SizeOf.sizeOf l<=n->l.length<=64->A0i l->X7 (Sp.okE its) C4O l->B2I I0 C br bm bf deep l:=by
 intro n;induction n with
 |zero=>intro l h;cases l<;>simp at h
 |succ n ih=>
 intro l hsz hll hsm hal;refine C5H hC l hll (fun y hy=>?_)
 obtain⟨j,hj,rfl⟩:=A1K hy;have hg:=G6 hj;have h1:=A1D hsm hg;have h2:=Sp.Stm.all_node (A4N hal hg);have h3:=A3w (O7 hj);generalize l[j]=y at h1 h2 h3;obtain⟨s1,s2,s3,s4,s5⟩:=A1S h1;obtain⟨z1,z2⟩:=A5T (s:=y);exact C7l hW hC y h1 h2.2.1 (ih y.thn (by omega) s2 s3 h2.2.2.1) (ih y.els (by omega) s4 s5 h2.2.2.2)
end
theorem C1c (l:List Int):B8S l=l.flatMap (fun n=> [.int .i64 n]):=by
 induction l with
 |nil=>rfl
 |cons a l ih=>
  rw[A0a, <-ih];rfl
structure RFile (I:P6) (its:List Sp.Itm) (bf:Nat) (a:Option Addr) (cp:Nat) (xs:List Value):Prop where
 file:PtrI I bf 0 25 [.slice a its.length cp]
 fe:FE I its a cp xs
 ok:∀it∈its,it.small/\P8 it.body<=400000000/\(it.kind=2->X7 (Sp.okE its) C4O it.body)
structure RcX where
 k:Nat
 sa:Option Addr
 sp:Nat
section
variable {I0:P6}{its:List Sp.Itm}{bm bf:Nat}{a:Option Addr}{cp:Nat}{xs:List Value}
theorem C5I (hF:RFile I0 its bf a cp xs):∀d,d<=40->B6i I0 its (A50 its d) bm bf (40-d):=by
 intro d;induction d with
 |zero=>
  intro _ J nm args m va vp aa ac hle hfd hra hst hev;refine CalM.of fun w E hm=>enter (N:=94) func62 rfl [(0,ptr bm),(1,str nm),(2,.slice aa args.length ac)] A3C rfl ?_
  rw[A50];by_cases he:m.err≠0
  ·rw[if_pos he]
   repeat' (first|refine J4 ?_ hm|refine D8 ?_|refine D6 ?_|refine A0y ?_|refine E5 ?_|refine C9 ?_|refine D9 ?_|refine A7 ?_|refine G8 ?_|refine E8 ?_|refine A8 ?_|refine H8 ?_|refine J9 ?_|(refine D5 (ht:=fun _=>?_) (hf:=fun _=>?_)<;>try first|contradiction|omega))
   exact⟨J,_,⟨rfl,va,vp,rfl⟩,hm⟩
  ·rw[if_neg he]
   have he0:m.err=0:=by omega
   repeat' (first|refine J4 ?_ hm|refine O6 hm (k:=?_);clear hm;intro _ hm;try simp only[F9]at hm|refine D8 ?_|refine D6 ?_|refine N9 ?_|refine A0y ?_|refine E5 ?_|refine C9 ?_|refine D9 ?_|refine A7 ?_|refine G8 ?_|refine E8 ?_|refine A8 ?_|refine G5 ?_|refine H8 ?_|refine J9 ?_|refine H6 ?_|(refine D5 (ht:=fun _=>?_) (hf:=fun _=>?_)<;>try first|contradiction|omega))
   exact⟨J,_,⟨rfl,va,vp,rfl⟩,hm⟩
 |succ d ihd=>
  intro hd J nm args m va vp aa ac hle hfd hra hst hev;have ih:=ihd (by omega);refine CalM.of fun w E hm=>enter (N:=94) func62 rfl [(0,ptr bm),(1,str nm),(2,.slice aa args.length ac)] A3C rfl ?_
  have heq:∃fin,fin=A50 its (d+1) nm args m:=⟨_,rfl⟩;obtain⟨fin,heq⟩:=heq;rw[<-heq];rw[A50]at heq;by_cases he:m.err≠0
  ·rw[if_pos he]at heq
   subst heq;repeat' (first|refine J4 ?_ hm|refine D8 ?_|refine D6 ?_|refine A0y ?_|refine E5 ?_|refine C9 ?_|refine D9 ?_|refine A7 ?_|refine G8 ?_|refine E8 ?_|refine A8 ?_|refine H8 ?_|refine J9 ?_|(refine D5 (ht:=fun _=>?_) (hf:=fun _=>?_)<;>try first|contradiction|omega))
   exact⟨J,_,⟨rfl,va,vp,rfl⟩,hm⟩
  rw[if_neg he]at heq;have he0:m.err=0:=by omega
  obtain⟨j,hf,hpl⟩:=hfd;rw[hf]at heq;dsimp only at heq;obtain⟨hjl,hjk,_,_,hmem⟩:=A2D hf;have hfind:=(A7b 2 nm its J a cp xs (hF.fe.le hle)).read;rw[show A4c its 2 nm=(j:Int) by rw[A4c,hf]]at hfind;have hfile:=hF.file.le hle;have hri:=(hF.fe.le hle).row;have hfew:=hF.fe.few;obtain⟨ci,hci,hat,_⟩:=(hF.fe.le hle).get (A2G hjl);obtain⟨hsm,hcnt,hokk⟩:=hF.ok _ hmem;have hok:=hokk (by omega);have hto:=B5a (A8O its d) (A0o its j).body ⟨A7u (A0o its j).params args,0,m⟩ hst;generalize A0o its j=it at heq hpl hat hsm hcnt hok hto;obtain⟨pa,pc,sa9,sc9,ba,bc9,da9,dc9,xb,rfl,hpar,_,hrb,hbs,_⟩:=hat
  have hsp:=hsm.params;have hsb:=hsm.body;have hBk:=fun (br:Nat)=>C8w (br:=br) ih (A8O its d) _ it.body (G9 _) (by omega) hsm.stms hok
  have hra2:=hra;rw[C1c]at hra2;repeat' (first|refine A0m (id:=6) (hm.perm pm0) [0,1,2,3,4,5,6,7,8,9,10,11,12,13] [14,15] 16 (h:=?_);clear hm;intro wd hR hm|refine A0c (j:=0) (d:=30) ?_ hR (hp:=hfile)|refine A1W (d:=36) ?_ hR (hp:=hfile)|refine A3p (d:=38) ?_ hR hm (hc:=hfind);clear hm;intro _ hm|refine B5o (d:=39) hm.kept (by rfl) (by rfl) (by rfl) (by rfl) hri (by omega) (by omega) ?_;intro bt ot hpt;rw[show ((j:Int).toNat *10)=j *10 from rfl,hci]at hpt|refine A0H 8 ?_|refine Y3 ?_ hR|refine A0w ?_;replace hm:=hR.back hm;clear hR;try simp only[F9]at hm|refine A0K (d:=42) ?_ hm;clear hm;intro b42 _ hm|refine J4 ?_ hm|refine D8 ?_|refine D6 ?_|refine N9 ?_|refine A0y ?_|refine E5 ?_|refine C9 ?_|refine Q3 ?_|refine D9 ?_|refine A7 ?_|refine E8 ?_|refine A8 ?_|refine G5 ?_|(refine D5 (ht:=fun _=>?_) (hf:=fun _=>?_)<;>try first|contradiction|omega)|refine Z4 ?_|refine O5 ?_|refine J8 ?_|refine A0b ?_)
  have hm:=(hm.nil 194 2).swap;refine⟨?_⟩
  repeat' (first|refine J5 ?_ hm|refine D8 ?_|refine G7 ?_|refine E5 ?_|refine C9 ?_|refine D9 ?_|refine A7 ?_|refine A8 ?_|refine F5 ?_)
  refine U2 (fun x:RcX=> [(0,ptr bm),(2,.slice aa args.length ac),(7,.pointer (some ⟨bt,ot,none⟩)),(8,ptr b42),(46,.slice pa it.params.length pc),(47,nt it.params.length),(48,nt x.k)])
   (fun x w'=>Mem E J [A9M b42 bm (A7u (it.params.take x.k) args) x.sa x.sp 0,A9Y (A7u (it.params.take x.k) args) x.sa x.sp,B3l bm bf m va vp (40-(d+1)),A6Y m va vp] w'/\x.k<=it.params.length) (fun x=>it.params.length-x.k) ⟨0,none,0⟩
   (by exact⟨rfl,rfl,rfl,rfl,rfl,rfl,rfl,trivial⟩) ⟨hm,H7 _⟩ ?_
  clear hm;rintro⟨k,sa,sp⟩ w1 ⟨hm,hk⟩;dsimp only at hm hk |-;have hpln:=C1E hk hpl;by_cases hlt:k<it.params.length
  ·have hg:it.params[k]?=some it.params[k]:=G6 hlt
   have hga:args[k]?=some args[k]:=G6 (by omega);generalize it.params[k]=p at hg;generalize args[k]=n at hga;have hstp:=B9p hg hga;generalize A7u (it.params.take k) args=sc at hm hpln hstp;repeat' (first|refine Q9 (d:=51) (enc:=A2N) (z:=p) ?_ (hr:=hpar) (he:=fun _=>rfl) (hz:=by exact hg);intro bz oz hpz|refine A0s (id:=11) (hm.perm pm1_2) 12 14 (h:=?_);clear hm;intro wd hR hm|refine A2H (d:=62) (enc:=fun n=> [.int .i64 n]) (z:=n) ?_ (hr:=hra2) (he:=fun _=>rfl) (hz:=by exact hga);intro by_ oy hpy|refine A0c (j:=0) (d:=63) ?_ hR (hp:=hpy)|refine Y3 ?_ hR|refine A1U (d:=66) ?_ hm;clear hm;intro a66 cp66 _ _ hm;replace hm:=hR.back hm;clear hR;try simp only[F9]at hm|refine U1 (d:=10) ?_ hm;clear hm;intro b10 _ hm|refine X3 ?_ hm|refine N7 ?_ hm;clear hm;intro _ hm;try simp only[F9]at hm|refine O6 hm (k:=?_);clear hm;intro _ hm;try simp only[F9]at hm|refine D8 ?_|refine D6 ?_|refine J6 ?_|refine E5 ?_|refine P7 ?_|refine C9 ?_|refine D9 ?_|refine A7 ?_|refine D7 ?_|refine E8 ?_|refine A8 ?_|refine F5 ?_|refine G5 ?_|(refine D5 (ht:=fun _=>?_) (hf:=fun _=>?_)<;>try first|contradiction|omega)|refine Z4 ?_|refine O5 ?_|refine J8 ?_|refine A2M ?_|refine A0b ?_)
   refine L9 (⟨k+1,a66,cp66⟩:RcX) (by exact⟨rfl,rfl,rfl,rfl,rfl,rfl,rfl,trivial⟩) ⟨?_,by dsimp only;omega⟩ (by dsimp only;omega)
   dsimp only[A9M,A9Y];rw[hstp,X9,E9];exact hm.snd.swap
  obtain rfl:k=it.params.length:=by omega
  rw[V5]at hm hpln;generalize A7u it.params args=sc at hm hpln heq hto;have hB:=hBk b42 J ba bc9 xb ⟨sc,0,m⟩ sa sp va vp hle hst hev (by dsimp only;omega) hrb hbs;dsimp only at hB;generalize A8C (A50 its d) it.body ⟨sc,0,m⟩=s9 at hB heq hto;subst heq;have e1:(((40-(d+1):Nat):Int)+1)=((40-d:Nat):Int):=by omega
  have e2:(((40-d:Nat):Int)-1)=((40-(d+1):Nat):Int):=by omega
  repeat' (first|refine A0H 14 ?_|refine J4 ?_ hm|refine O6 hm (k:=?_);clear hm;intro _ hm;try simp only[F9]at hm|refine D8 ?_|refine J6 ?_|refine E5 ?_|refine P7 ?_|refine C9 ?_|refine D9 ?_|refine A7 ?_|refine H9 ?_|refine H5 ?_|refine E8 ?_|refine A8 ?_|refine P9 ?_|(refine D5 (ht:=fun _=>?_) (hf:=fun _=>?_)<;>try first|contradiction|omega))
  rw[e1]at hm;refine⟨?_⟩
  repeat' (first|refine F6 (d:=82) ?_ hm (hp:=pmR4) (hc:=hB);clear hm;rintro _ I4 _ _ ⟨rfl,sa4,sp4,va4,vp4,rfl⟩ hleI4 hm;try simp only[F9]at hm|refine A0H 16 ?_|refine J4 ?_ hm|refine J5 ?_ hm|refine O6 hm (k:=?_);clear hm;intro _ hm;try simp only[F9]at hm|refine D8 ?_|refine E5 ?_|refine A3i ?_|refine C9 ?_|refine D9 ?_|refine A7 ?_|refine E8 ?_|refine A8 ?_)
  rw[e2]at hm;refine⟨?_⟩
  repeat' (first|refine J4 ?_ hm|refine D8 ?_|refine D6 ?_|refine E5 ?_|refine C9 ?_|refine D9 ?_|refine A7 ?_|refine A8 ?_|refine H8 ?_|refine J9 ?_)
  exact⟨I4,_,⟨rfl,va4,vp4,rfl⟩,hm.right (H:= [_,_])⟩
end
end Go.Proofs
