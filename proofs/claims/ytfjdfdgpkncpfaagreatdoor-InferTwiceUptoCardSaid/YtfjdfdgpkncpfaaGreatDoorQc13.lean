/- Own work: texts InfE, SpecAgain, SpecBad, SpecJoin, SpecCutoff, SpecFew, SpecPiece, SpecStand, SpecTw, InfS, SpecPos, SpecFit, SpecInfT, SpecStand2, FwNil, FwCut2, one behind the other. -/
import Derived.Test.YtfjdfdgpkncpfaaGreatDoorQc12
set_option maxHeartbeats 64000000
namespace Go.Sp
theorem AllTwo.snoc {α β:Type}{R:α->β->Prop}:∀ {l:List α}{r:List β}{a:α}{b:β},AllTwo R l r->R a b->AllTwo R (l++ [a]) (r++ [b])
 |_,_,_,_,.nil,h=> .cons h .nil
 |_,_,_,_,.cons h1 t1,h=> .cons h1 (t1.snoc h)
structure ItI (x:Itm):Prop where
 small:x.small
 body:V5 A7Q A7Z x.body
 cnt:P6 x.body<=400000000
 lets:(A0w x.body).Nodup
 none:0∉A0w x.body
theorem B0w {its:List Itm}{it:Itm} (hlab:A2o its) (hb:V5 A7Q A7Z it.body) (hp:∀p∈it.params,p.label<256):∀(k f:Nat),A6t its it k f<256
 |0,_=>by show 0<256;omega
 |k+1,f=>(A96 hlab hb hp (B0w hlab hb hp k)).1 f
def B6r (s:List UInt8):List (List UInt8):=(List.range (U9 s).length).map (A1s s (U9 s))
def B5x (s t:List UInt8) (j:Nat):Bool:= !(B6r s).contains (A1s t (U9 t) j)
def fresh (s t:List UInt8) (k:Nat):Nat:=(List.range k).countP (B5x s t)
def B1H (s t:List UInt8):Nat:=if A1d t=0 then fresh s t (U9 t).length else 0
theorem B21 (s t:List UInt8):fresh s t 0=0:=rfl
theorem B20 (s t:List UInt8) (k:Nat):fresh s t (k+1)=fresh s t k+if B5x s t k then 1 else 0:=by
 rw[fresh,List.range_succ,List.countP_append, <-fresh,List.countP_singleton]
theorem A9L (s t:List UInt8) (i m:Nat) (h:∀j,j<m->B5x s t j=true->j=i):∀k,k<=m->fresh s t k<=if i<k then 1 else 0
 |0,_=>by simp[B21]
 |k+1,hk=>by
  have:=A9L s t i m h k (by omega);rw[B20];by_cases ha:B5x s t k=true
  ·obtain rfl:=h k (by omega) ha
   rw[if_neg (by omega)]at this;rw[if_pos ha,if_pos (by omega)];omega
  ·rw[if_neg ha]
   by_cases hik:i<k
   ·rw[if_pos hik]at this
    rw[if_pos (by omega)];omega
   ·rw[if_neg hik]at this
    omega
inductive Well (T:Src):St->St->Prop where
 |refl (s:St):Well T s s
 |bad {s r:St} (e:Nat):Well T s r->Well T s (r.bad T e)
 |next {s r:St}:Well T s r->(r.ds≠ []\/(T.tok r.i).kind≠4)->Well T s r.next
theorem Well.trans {T:Src}{s r q:St} (h:Well T s r) (g:Well T r q):Well T s q:=by
 induction g with
 |refl=>exact h
 |bad e _ ih=>exact .bad e ih
 |next _ k ih=>exact .next ih k
structure BadT (T:Src):Prop where
 out:∀i,(T.tok i).kind=4->∃c,(T.tok i).text= [c]/\A3h c=false/\A20 c=false/\A7X c=false
section
variable {T:Src}
def B79:List UInt8->Bool
 | []=>true
 |c::_=>A3h c||A20 c||A7X c
theorem BadT.ok (h:BadT T) {i:Nat}{w:List UInt8} (hw:(T.tok i).text=w) (hf:B79 w=true):(T.tok i).kind≠4:=fun h4=>by
 obtain⟨c,h1,h2,h3,h5⟩:=h.out i h4;rw[hw]at h1;subst h1;simp[B79,h2,h3,h5]at hf
theorem BadT.is (h:BadT T) {i:Nat}{w:List UInt8} (hw:T.is i w=true) (hf:B79 w=true):(T.tok i).kind≠4:=by
 simp only[Src.is,Q7,decide_eq_true_eq]at hw;exact h.ok hw.2 hf
end
def shift (n:Nat) (t:Tok):Tok:=⟨t.kind,t.text,t.pos+n⟩
def tk (s:List UInt8) (p:Nat):List Tok:=A6e s.length s p
theorem B3N (p:Nat):tk [] p= []:=rfl
theorem B00 (s:List UInt8) (p:Nat) (hs:s≠ []):tk s p=(if (one s).1>0 then [⟨(one s).1,s.take (one s).2,p⟩] else [])++tk (s.drop (one s).2) (p+(one s).2):=by
 have hl:=A4R s hs;obtain⟨f,hf⟩:∃f,s.length=f+1:=⟨s.length-1,by omega⟩;have e:A6e f (s.drop (one s).2) (p+(one s).2)=tk (s.drop (one s).2) (p+(one s).2):=A79 _ _ _ _ (by simp;omega) (by simp);unfold tk at e |-
 rw[hf];simp only[A6e,hs,if_false];rw[e];split<;>rfl
theorem A7I (n:Nat):∀(f:Nat) (s:List UInt8) (p:Nat),A6e f s (p+n)=(A6e f s p).map (shift n)
 |0,_,_=>rfl
 |f+1,s,p=>by
  simp only[A6e];split
  ·rfl
  ·split
   ·rw[Y2, <-A7I n f,show p+n+(one s).2=p+(one s).2+n by omega];rfl
   ·rw[<-A7I n f,show p+n+(one s).2=p+(one s).2+n by omega]
theorem B4q (F:UInt8->Bool):∀(r:List UInt8) (m:Nat),(r.takeWhile F).length<=m->(r.take m).takeWhile F=r.takeWhile F
 | [],m,_=>by simp
 |c::r,0,h=>by
  rw[A3N]at h |-;split at h
  ·simp at h
  ·rename_i hc;simp[hc]
 |c::r,m+1,h=>by
  rw[A1G,A3N,A3N];rw[A3N]at h;split at h
  ·rename_i hc
   rw[if_pos hc,if_pos hc,B4q F r m (by simpa using h)]
  ·rename_i hc;rw[if_neg hc,if_neg hc]
theorem B6h (s:List UInt8) (m:Nat) (hs:s≠ []) (h:(one s).2<=m):one (s.take m)=one s:=by
 cases s with
 |nil=>exact absurd rfl hs
 |cons c r=>
  have hm:1<=m:=A1v (A4R (c::r) hs).1 h;obtain⟨m,rfl⟩:∃k,m=k+1:=⟨m-1,by omega⟩;rw[A1G];have key:∀F:UInt8->Bool,run F r<=m+1->run F (r.take m)=run F r:=fun F hF=>by
   unfold run at hF |-
   rw[B4q F r m (by omega)]
  simp only[one]at h |-;by_cases h1:A6K c=true
  ·rw[if_pos h1]at h |-;rw[key _ h,if_pos h1]
  ·rw[if_neg h1]at h |-;rw[if_neg h1]
   by_cases h2:c.toNat=35
   ·rw[if_pos h2]at h |-;rw[key _ h,if_pos h2]
   ·rw[if_neg h2]at h |-;rw[if_neg h2]
    by_cases h3:A3h c=true
    ·rw[if_pos h3]at h |-;rw[key _ h,if_pos h3]
    ·rw[if_neg h3]at h |-;rw[if_neg h3]
     by_cases h4:A20 c=true
     ·rw[if_pos h4]at h |-;rw[key _ h,if_pos h4]
     ·rw[if_neg h4]at h |-;rw[if_neg h4]
theorem B8F:∀(k:Nat) (s:List UInt8) (p n:Nat) (t:Tok),s.length=k->(tk s p)[n]?=some t->p<=t.pos/\tk (s.take (t.pos-p)) p=(tk s p).take n:=by
 intro k;induction k using Nat.strongRecOn with
 |_ k ih=>
  intro s p n t hk ht;by_cases hs:s= []
  ·subst hs;rw[B3N]at ht;simp at ht
  have hl:=A4R s hs;have step:=B00 s p hs;have rest:∀(n:Nat),(tk (s.drop (one s).2) (p+(one s).2))[n]?=some t->p<=t.pos/\tk (s.take (t.pos-p)) p=(if (one s).1>0 then [⟨(one s).1,s.take (one s).2,p⟩] else [])++(tk (s.drop (one s).2) (p+(one s).2)).take n:=fun n hn=>by
   obtain⟨h1,h2⟩:=ih (s.drop (one s).2).length (by simp;omega) (s.drop (one s).2) (p+(one s).2) n t rfl hn;refine⟨by omega,?_⟩
   have hm:(one s).2<=t.pos-p:=by omega
   have hne:s.take (t.pos-p)≠ []:=by
    intro e;have:=congrArg List.length e;simp at this
    rcases this with this|this
    ·omega
    ·exact hs this
   have e3:((s.drop (one s).2).take (t.pos-(p+(one s).2)))=(s.take (t.pos-p)).drop (one s).2:=by
    rw[A35];congr 1;omega
   have e4:(s.take (t.pos-p)).take (one s).2=s.take (one s).2:=by rw[A3u,A19 hm]
   rw[B00 _ _ hne,B6h s _ hs hm,e4, <-e3,h2]
  rw[step]at ht |-;by_cases hp:(one s).1>0
  ·rw[if_pos hp]at ht rest |-
   cases n with
   |zero=>
    simp only[List.singleton_append,A0S,U5]at ht;subst ht;exact⟨H6 _,by simp[B3N]⟩
   |succ n=>
    obtain⟨h1,h2⟩:=rest n (by simpa using ht);exact⟨h1,by rw[h2];simp⟩
  ·rw[if_neg hp]at ht rest |-
   exact rest n (by simpa using ht)
theorem A9c (s:List UInt8) (n:Nat) (t:Tok) (h:(O6 s)[n]?=some t):O6 (s.take t.pos)=(O6 s).take n:=by
 have:=(B8F _ s 0 n t rfl h).2;rw[Nat.sub_zero]at this;exact this
structure Cut (T T':Src) (n:Nat):Prop where
 l:T'.l=T.l.take n
 lt:n<T.l.length
section
variable {T T':Src}{n:Nat}
theorem Cut.len (C:Cut T T' n):T'.l.length=n:=by rw[C.l,Y9];have:=C.lt;omega
theorem Cut.tok (C:Cut T T' n) {i:Nat} (h:i<n):T.tok i=T'.tok i:=by
 have:=C.lt;rw[Src.tok,Src.tok,C.l,U2,U2,A1H,if_pos h,G9 (by omega)];rfl
theorem Cut.is (C:Cut T T' n) {i:Nat} (w:List UInt8) (h:i<n):T.is i w=T'.is i w:=by
 have h1:=C.lt;have h2:=C.len;rw[Src.is,Src.is,C.tok h,h2,decide_eq_true (by omega:i<T.l.length),decide_eq_true h]
theorem Cut.is_lt (C:Cut T T' n) {i:Nat}{w:List UInt8} (h:T'.is i w=true):i<n:=by have:=Go.Sp.is_lt h;rwa [C.len]at this
theorem Cut.endOf (C:Cut T T' n) {i:Nat} (h:i<=n):T.endOf i=T'.endOf i:=by
 rw[Src.endOf,Src.endOf];by_cases h0:i=0
 ·rw[if_pos h0,if_pos h0]
 ·rw[if_neg h0,if_neg h0,C.tok (by omega)]
end
def bs (s:List UInt8) (l:List Tok):List Nat:=(l.filter (A28 s)).map (·.pos)
theorem B34 (s:List UInt8):∀(l:List Tok) (acc:List Nat),acc≠ []->l.foldl (A01 s) acc=acc++bs s l
 | [],acc,_=>by simp[bs]
 |t::l,acc,h=>by
  rw[A1q,B34 s l _ (A8N s acc t),A01];by_cases hb:A28 s t=true
  ·rw[if_pos (.inl hb),bs,bs,List.filter_cons_of_pos hb];simp
  ·rw[if_neg (by rintro(h1|h1);exact hb h1;exact h h1),bs,bs,List.filter_cons_of_neg hb]
theorem A66 (s:List UInt8) (p:Nat):∀(l:List Tok) (acc:List Nat) (i:Nat),acc.length<=i->(l.foldl (A01 s) acc)[i]?=some p->
  ∃n t,l[n]?=some t/\t.pos=p/\(l.take n).foldl (A01 s) acc=(l.foldl (A01 s) acc).take i/\(l.foldl (A01 s) acc).drop (i+1)=bs s (l.drop (n+1))
 | [],acc,i,h,hp=>by
  rw[List.foldl_nil,A1F h]at hp;cases hp
 |t::l,acc,i,h,hp=>by
  rw[A1q]at hp |-;by_cases h2:(A01 s acc t).length<=i
  ·obtain⟨n,u,h3,h4,h5,h6⟩:=A66 s p l _ i h2 hp
   exact⟨n+1,u,by simpa using h3,h4,by rw[A1G,A1q];exact h5,by rw[h6];simp⟩
  ·have h3:=B1t s acc t
   have h4:i=acc.length:=by omega
   have h5:A01 s acc t=acc++ [t.pos]:=by
    rw[A01]at h2 |-;split
    ·rfl
    ·rename_i hn
     rw[if_neg hn]at h2;omega
   rw[B34 s l _ (A8N s acc t),h5]at hp |-;refine⟨0,t,rfl,?_,?_,?_⟩
   ·rw[h4,Z9,A2G (H6 _)]at hp
    simpa using hp
   ·rw[h4,Z9,List.take_left];rfl
   ·rw[h4,List.drop_left' (by simp)];rfl
theorem B4p:∀(k:Nat) (s:List UInt8) (p n:Nat) (t:Tok),s.length=k->(tk s p)[n]?=some t->p<=t.pos/\(tk s p).drop n=tk (s.drop (t.pos-p)) t.pos:=by
 intro k;induction k using Nat.strongRecOn with
 |_ k ih=>
  intro s p n t hk ht;by_cases hs:s= []
  ·subst hs;rw[B3N]at ht;simp at ht
  have hl:=A4R s hs;have step:=B00 s p hs;have rest:∀(n:Nat),(tk (s.drop (one s).2) (p+(one s).2))[n]?=some t->p<=t.pos/\(tk (s.drop (one s).2) (p+(one s).2)).drop n=tk (s.drop (t.pos-p)) t.pos:=fun n hn=>by
   obtain⟨h1,h2⟩:=ih (s.drop (one s).2).length (by simp;omega) (s.drop (one s).2) (p+(one s).2) n t rfl hn;refine⟨by omega,?_⟩
   rw[h2,A1M,show (one s).2+(t.pos-(p+(one s).2))=t.pos-p by omega]
  by_cases ho:(one s).1>0
  ·rw[if_pos ho]at step
   cases n with
   |zero=>
    rw[step]at ht;simp at ht
    subst ht;simp
   |succ n=>
    rw[step]at ht |-;simpa using rest n (by simpa using ht)
  ·rw[if_neg ho]at step
   rw[step]at ht |-;simpa using rest n (by simpa using ht)
theorem B1q (s:List UInt8) (p:Nat) (t:Tok) (h:t.pos<p):A28 (s.take p) t=A28 s t:=by
 have:(s.take p).getD (t.pos-1) 0=s.getD (t.pos-1) 0:=by
  rw[U2,U2,A7d (by omega)]
 simp only[A28,this]
theorem A8S {α β:Type} (f g:β->α->β):∀(l:List α) (b:β),(∀b,∀a∈l,f b a=g b a)->l.foldl f b=l.foldl g b
 | [],b,_=>rfl
 |a::l,b,h=>by
  rw[A1q,A1q,h b a (by simp)];exact A8S f g l _ (fun b' a' ha=>h b' a' (by simp[ha]))
theorem B0o (s:List UInt8) (i p:Nat) (h:(U9 s)[i]?=some p):(U9 s).take i=U9 (s.take p)/\(U9 s).drop (i+1)=(bs (s.drop p) (O6 (s.drop p)).tail).map (· +p):=by
 obtain⟨n,t,h1,h2,h3,h4⟩:=A66 s p (O6 s) [] i (J7 _) h;subst h2;constructor
 ·change ((O6 s).foldl (A01 s) []).take i=_
  rw[<-h3,U9,A9c s n t h1];refine A8S _ _ _ _ fun acc u hu=>?_
  have hu2:u.pos<t.pos:=by
   obtain⟨m,hm,rfl⟩:=A2T hu;rw[Y9]at hm;have hn:=(Z8.1 h1);obtain⟨hn1,hn2⟩:=hn;have:=A2u.1 (A3k s) m n (by omega) hn1 (by omega);have h5:=(A2l s _ (Q8 (show m<(O6 s).length by omega))).len;rw[hn2]at this;rw[List.getElem_take];omega
  rw[A01,A01,B1q s t.pos u hu2]
 ·change ((O6 s).foldl (A01 s) []).drop (i+1)=_
  rw[h4];obtain⟨h5,h6⟩:=B4p s.length s 0 n t rfl h1;have h7:(O6 s).drop n=(O6 (s.drop t.pos)).map (shift t.pos):=by
   have e:O6 s=tk s 0:=rfl;rw[e,h6,Nat.sub_zero];have:=A7I t.pos (s.drop t.pos).length (s.drop t.pos) 0;rw[Y6]at this;exact this
  have h8:(O6 s).drop (n+1)=(O6 (s.drop t.pos)).tail.map (shift t.pos):=by
   rw[<-A1M,h7, <-List.map_drop,List.drop_one]
  rw[h8,bs,bs,List.filter_map,List.map_map,List.map_map];have hpos:∀u∈(O6 (s.drop t.pos)).tail,1<=u.pos:=fun u hu=>by
   have hs:=A3k (s.drop t.pos);have hok:=fun v hv=>(A2l (s.drop t.pos) v hv).len
   generalize O6 (s.drop t.pos)=L at hu hs hok;cases L with
   |nil=>simp at hu
   |cons a L=>
    have:=(A3o.1 hs).1 u hu;have:=hok a (by simp);omega
  generalize (O6 (s.drop t.pos)).tail=L at hpos;have hb:L.filter (A28 s ∘ shift t.pos)=L.filter (A28 (s.drop t.pos)):=by
   refine List.filter_congr fun u hu=>?_
   have h9:=hpos u hu;have e1:(s.drop t.pos).getD (u.pos-1) 0=s.getD (u.pos+t.pos-1) 0:=by
    rw[U2,U2,A1f,show t.pos+(u.pos-1)=u.pos+t.pos-1 by omega]
   have e2:decide ((shift t.pos u).pos=0)=decide (u.pos=0):=by
    rw[decide_eq_false (show ¬(shift t.pos u).pos=0 from by show ¬u.pos+t.pos=0;omega),decide_eq_false (by omega)]
   have e3:(shift t.pos u).pos-1=u.pos+t.pos-1:=rfl;show A28 s (shift t.pos u)=A28 (s.drop t.pos) u
   rw[A28,A28,e1,e2,e3]
   rfl
  rw[hb]
  rfl
theorem A2g {l:List Nat}{i d x:Nat} (h:l[i]?=some x):l.getD i d=x:=by rw[U2,h];rfl
theorem B4D (s t:List UInt8) (i c:Nat) (hlen:(U9 t).length=(U9 s).length) (hs:(U9 s)[i]?=some c) (ht:(U9 t)[i]?=some c) (e e':Nat)
  (he:e=(U9 s).getD (i+1) s.length) (he':e'=(U9 t).getD (i+1) t.length) (hpre:s.take c=t.take c) (hsuf:s.drop e=t.drop e') (k:Nat) (hk:k<(U9 t).length) (hki:k≠i):
  A1s t (U9 t) k=A1s s (U9 s) k:=by
 have hi:i<(U9 s).length:=(Z8.1 hs).1;have hls:(U9 s).getD (i+1) s.length<=s.length:=(A41 s hi).2;have hlt:(U9 t).getD (i+1) t.length<=t.length:=(A41 t (by omega)).2;have hsl:=congrArg List.length hsuf;simp only[A06]at hsl;rcases X3 k i with h|h
 · -- ahead
  obtain⟨a1,_⟩:=B0o s i c hs;obtain⟨b1,_⟩:=B0o t i c ht;rw[hpre, <-b1]at a1;have g:∀j,j<i->(U9 s)[j]?=(U9 t)[j]? :=fun j hj=>by
   have:=congrArg (fun l=>l[j]?) a1;simpa[A7d hj] using this
  have gk:=g k h;have gk1:(U9 s)[k+1]?=(U9 t)[k+1]? :=by
   rcases X3 (k+1) i with h2|h2
   ·exact g _ h2
   ·rw[show k+1=i by omega,hs,ht]
  obtain⟨x,hx⟩:∃x,(U9 s)[k]?=some x:=⟨_,G9 (by omega)⟩;obtain⟨y,hy⟩:∃y,(U9 s)[k+1]?=some y:=⟨_,G9 (by omega)⟩;have hyc:y<=c:=by
   have hsort:=(A8e s).1;obtain⟨hy1,rfl⟩:=Z8.1 hy;obtain⟨hs1,rfl⟩:=Z8.1 hs;rcases X3 (k+1) i with h2|h2
   ·exact Nat.le_of_lt (A2u.1 hsort (k+1) i hy1 hs1 h2)
   ·have:k+1=i:=by omega
    subst this;exact H6 _
  have hx':(U9 t)[k]?=some x:=by rw[<-gk];exact hx
  have hy':(U9 t)[k+1]?=some y:=by rw[<-gk1];exact hy
  rw[A1s,A1s,A2g hx,A2g hy,A2g hx',A2g hy'];have e1:∀r:List UInt8,(r.drop x).take (y-x)=((r.take c).drop x).take (y-x):=fun r=>by
   rw[A35,A3u,A19 (by omega)]
  rw[e1 s,e1 t,hpre]
 · -- behind
  have h1:i+1<=k:=by omega
  obtain⟨x,hx⟩:∃x,(U9 s)[i+1]?=some x:=⟨_,G9 (by omega)⟩;obtain⟨y,hy⟩:∃y,(U9 t)[i+1]?=some y:=⟨_,G9 (by omega)⟩;rw[A2g hx]at he hls;rw[A2g hy]at he' hlt;subst he;subst he';obtain⟨_,a2⟩:=B0o s (i+1) e hx;obtain⟨_,b2⟩:=B0o t (i+1) e' hy;rw[<-hsuf]at b2;generalize bs (s.drop e) (O6 (s.drop e)).tail=L at a2 b2;have hL:L.length=(U9 s).length-(i+2):=by
   have:=congrArg List.length a2;simp at this
   omega
  have gs:∀j,i+1<=j->∃z,(U9 s).getD j s.length=z+e/\(U9 t).getD j t.length=z+e':=fun j hj=>by
   rcases X3 (i+1) j with h2|h2
   ·rcases X3 j (U9 s).length with h3|h3
    ·have ga:=congrArg (fun l=>l[j-(i+2)]?) a2
     have gb:=congrArg (fun l=>l[j-(i+2)]?) b2;simp only[A1f,A2v,show i+1+1+(j-(i+2))=j by omega]at ga gb;have hz:L[j-(i+2)]?=some L[j-(i+2)]:=G9 (by omega);rw[hz]at ga gb;exact⟨_,A2g ga,A2g gb⟩
    ·refine⟨s.length-e,?_,?_⟩
     ·rw[U2,A1F h3]
      simp only[A5X];omega
     ·rw[U2,A1F (by omega)]
      simp only[A5X];omega
   ·obtain rfl:j=i+1:=by omega
    exact⟨0,by rw[A2g hx];omega,by rw[A2g hy];omega⟩
  have gd:∀(r:List UInt8) d,k<(U9 r).length->(U9 r).getD k 0=(U9 r).getD k d:=fun r d hr=>by
   rw[U2,U2,G9 hr];rfl
  obtain⟨z,z1,z2⟩:=gs k h1;obtain⟨z',z3,z4⟩:=gs (k+1) (by omega);rw[A1s,A1s,gd s s.length (by omega),gd t t.length hk,z1,z2,z3,z4,show z'+e'-(z+e')=z'+e-(z+e) by omega]
  congr 1
  rw[A14 z e',A14 z e, <-A1M, <-A1M,hsuf]
theorem few (s t:List UInt8) (f u:Int) (x:List UInt8) (hc:B5F s f u x=0) (htx:t=B8X s f u x) (hs0:A1d s=0) (ht0:A1d t=0) (hlen:(P8 t).length=(P8 s).length)
  (i:Nat) (a b:Itm) (ha:(P8 s)[i]?=some a) (hb:(P8 t)[i]?=some b) (h1:a.at_<=f) (h2:u-a.at_<=a.size) (h3:b.at_=a.at_) (h4:(b.size:Int)-a.size=(t.length:Int)-s.length):
  B1H s t<=1:=by
 have es:P8 s=A4G s (U9 s):=by rw[P8,if_pos hs0]
 have et:P8 t=A4G t (U9 t):=by rw[P8,if_pos ht0]
 rw[es]at ha hlen;rw[et]at hb hlen;rw[A7Y,A7Y]at hlen;have hi:i<(U9 s).length:=by
  have:=(Z8.1 ha).1
  rwa [A7Y]at this
 have hi':i<(U9 t).length:=by omega
 rw[A9R s _ hi]at ha;rw[A9R t _ hi']at hb;obtain rfl:=A1g ha;obtain rfl:=A1g hb;clear ha hb;have q1:=A41 s hi;have q2:=A41 t hi';have hat:∀r k,(A2Q r (U9 r) k).at_=((U9 r).getD k 0:Nat):=fun r k=>by rw[A2Q,(A9Q _ _).2]
 have hsz:∀r k,(A2Q r (U9 r) k).size=(A1s r (U9 r) k).length:=fun r k=>by rw[A2Q,(A9Q _ _).1]
 have hsa:(A1s s (U9 s) i).length=(U9 s).getD (i+1) s.length-(U9 s).getD i 0:=by rw[A1s,Y9,A06];omega
 have hsb:(A1s t (U9 t) i).length=(U9 t).getD (i+1) t.length-(U9 t).getD i 0:=by rw[A1s,Y9,A06];omega
 rw[hat]at h1 h2;rw[hat,hat]at h3;rw[hsz,hsa]at h2;rw[hsz,hsz,hsa,hsb]at h4;have gs:(U9 s)[i]?=some ((U9 s).getD i 0):=by rw[U2,G9 hi];rfl
 have gt:(U9 t)[i]?=some ((U9 t).getD i 0):=by rw[U2,G9 hi'];rfl
 obtain⟨c,hcc⟩:∃c,c=(U9 s).getD i 0:=⟨_,rfl⟩;obtain⟨e,hee⟩:∃e,e=(U9 s).getD (i+1) s.length:=⟨_,rfl⟩;obtain⟨e',hee'⟩:∃e',e'=(U9 t).getD (i+1) t.length:=⟨_,rfl⟩;have h3':(U9 t).getD i 0=c:=by rw[hcc];omega
 rw[h3']at gt h4 q2;rw[<-hcc]at gs h1 h2 h4 q1;rw[<-hee]at h2 h4 q1;rw[<-hee']at h4 q2;have hin:¬(f<0\/u<f\/u>s.length):=fun h=>by rw[B5F,if_pos h]at hc;cases hc
 have ht2:t=s.take f.toNat++x++s.drop u.toNat:=by rw[htx,B8X,if_pos hc]
 have htl:(t.length:Int)=s.length-(u-f)+x.length:=by
  rw[ht2];simp only[Y4,Y9,A06];omega
 have hpre:s.take c=t.take c:=by
  rw[ht2,Z9,A4x (by rw[Y9];omega),A3u,A19 (by omega)]
 have hsuf:s.drop e=t.drop e':=by
  have hl:(s.take f.toNat++x).length=f.toNat+x.length:=by rw[Y4,Y9];omega
  have:e'=(s.take f.toNat++x).length+(e-u.toNat):=by rw[hl];omega
  rw[ht2,this, <-A1M,List.drop_left,A1M,show u.toNat+(e-u.toNat)=e by omega]
 rw[B1H,if_pos ht0];have hone:=A9L s t i (U9 t).length (fun j hj hjn=>?_) (U9 t).length (H6 _)
 ·split at hone<;>omega
 ·by_cases hji:j=i
  ·exact hji
  ·exfalso
   have hp:=B4D s t i c hlen gs gt e e' hee hee' hpre hsuf j hj hji;have hm:A1s s (U9 s) j∈B6r s:=A3O (List.mem_range.2 (by omega));rw[B5x,hp]at hjn;simp[hm]at hjn
theorem B1w (s:List UInt8) (n:Nat) (t:Tok) (h:(O6 s)[n]?=some t):(O6 s).drop n=(O6 (s.drop t.pos)).map (shift t.pos):=by
 have h6:=(B4p s.length s 0 n t rfl h).2;have e:O6 s=tk s 0:=rfl;rw[e,h6,Nat.sub_zero];have:=A7I t.pos (s.drop t.pos).length (s.drop t.pos) 0;rw[Y6]at this;exact this
theorem B3Z {s:List UInt8}{i c:Nat} (h:(U9 s)[i]?=some c):∃(n:Nat) (t:Tok),(O6 s)[n]?=some t/\t.pos=c:=by
 obtain⟨n,t,h1,h2,_⟩:=A66 s c (O6 s) [] i (J7 _) h;exact⟨n,t,h1,h2⟩
theorem B3t (s:List UInt8) {i:Nat} (hi:i<(U9 s).length):∃m n,(O6 (A1s s (U9 s) i)).map (shift ((U9 s).getD i 0))=((O6 s).take m).drop n:=by
 have hc:(U9 s)[i]?=some (U9 s)[i]:=G9 hi;obtain⟨n,t,h1,h2⟩:=B3Z hc;have hlt:=A41 s hi;rw[A1s,A2g hc, <-h2];rw[A2g hc, <-h2]at hlt;rcases X3 (i+1) (U9 s).length with h3|h3
 ·obtain⟨m,u,h4,h5⟩:=B3Z (G9 h3)
  have e1:(U9 s).getD (i+1) s.length=u.pos:=by rw[A2g (G9 h3),h5]
  rw[e1]at hlt |-;have h6:=A9c s m u h4;have hnm:n<m:=by
   rcases X3 n m with h|h
   ·exact h
   ·exfalso
    have hn:=Z8.1 h1;have hm:=Z8.1 h4;obtain⟨hn1,hn2⟩:=hn;obtain⟨hm1,hm2⟩:=hm;rcases X3 m n with h7|h7
    ·have:=A2u.1 (A3k s) m n hm1 hn1 h7
     rw[hn2,hm2]at this;omega
    ·obtain rfl:n=m:=by omega
     rw[hn2]at hm2;subst hm2;omega
  refine⟨m,n,?_⟩
  have h8:(O6 (s.take u.pos))[n]?=some t:=by rw[h6,A7d hnm];exact h1
  rw[<-h6,B1w _ n t h8,A35]
 ·have e1:(U9 s).getD (i+1) s.length=s.length:=by rw[U2,A1F h3];rfl
  refine⟨(O6 s).length,n,?_⟩
  rw[e1,A0b,B1w s n t h1,A1D (by rw[A06];omega)]
theorem B49 (s:List UInt8) {i:Nat} (hi:i<(U9 s).length) {t:Tok} (h:t∈O6 (A1s s (U9 s) i)):shift ((U9 s).getD i 0) t∈O6 s:=by
 obtain⟨m,n,h1⟩:=B3t s hi;have h2:shift ((U9 s).getD i 0) t∈((O6 s).take m).drop n:=h1 ▸ A3O h;exact List.mem_of_mem_take (List.mem_of_mem_drop h2)
def A1A (s:List UInt8) (a:Nat) (n:List UInt8):Prop:=a+n.length<=s.length/\(s.drop a).take n.length=n/\(n≠ []->name n=true/\∃k,(⟨k,n,a⟩:Tok)∈O6 s)
theorem A58 {s:List UInt8}{a:Nat} (h:a<=s.length):A1A s a []:=⟨by simpa using h,by simp,fun h=>absurd rfl h⟩
def stE (s:List UInt8):PE:=fun k nm _ _ f _=>(k=2\/k=4)->A1A s f nm
def stS (s:List UInt8):PS:=fun k nm a _ _ _ _=>(k=1\/k=2\/k=5)->A1A s a nm
theorem B2u (src:List UInt8) (i:Nat):((⟨O6 src,src.length⟩:Src).tok i).pos<=src.length:=by
 rw[Src.tok];by_cases h:i<(O6 src).length
 ·have hk:=A2l src (O6 src)[i] (Q8 h)
  simp only[U2,G9 h,A5U];exact Nat.le_of_lt hk.pos
 ·simp only[U2,A1F (Nat.le_of_not_lt h),A5X]
  exact H6 _
theorem A6d (src:List UInt8) (i:Nat) (hn:name ((⟨O6 src,src.length⟩:Src).tok i).text=true):A1A src ((⟨O6 src,src.length⟩:Src).tok i).pos ((⟨O6 src,src.length⟩:Src).tok i).text:=by
 rw[Src.tok]at hn |-;by_cases h:i<(O6 src).length
 ·have hk:=A2l src (O6 src)[i] (Q8 h)
  simp only[U2,G9 h,A5U]at hn |-;exact⟨hk.fit,hk.text.symm,fun _=>⟨hn,_,Q8 h⟩⟩
 ·simp only[U2,A1F (Nat.le_of_not_lt h),A5X]
  exact A58 (H6 _)
theorem A3B (src:List UInt8) (s:St):A1A src ((⟨O6 src,src.length⟩:Src).tok s.i).pos (s.named ⟨O6 src,src.length⟩).1:=by
 have h0:A1A src ((⟨O6 src,src.length⟩:Src).tok s.i).pos []:=A58 (B2u src s.i);rw[St.named];split
 ·rename_i hn
  exact A6d src s.i hn
 ·split
  ·exact h0
  ·exact h0
theorem B8z (src:List UInt8):AtE ⟨O6 src,src.length⟩ (stE src):=
 ⟨fun h=>(by omega),fun i h=>(by omega),fun i n _ _ h=>(by omega),fun i hn _=>A6d src i hn,fun i j m hn _ _ _=>A6d src i hn,fun i k1 n1 v1 m1 f1 t1 k2 n2 v2 m2 f2 t2 _ _ _ h=>(by omega)⟩
theorem B8B (src:List UInt8):AtS ⟨O6 src,src.length⟩ (stS src):=
 ⟨fun h=>(by omega),fun i s lb o j _ _=>A3B src s,fun i j hn _=>A6d src i hn,fun k i j hk h=>(by omega),fun i s j _=>A3B src s⟩
structure ItS (s:List UInt8) (p:Nat) (q:List UInt8) (it:Itm):Prop where
 at_:it.at_=p
 sub:∀a n,A1A q a n->A1A s (p+a) n
 body:V5 (stE q) (stS q) it.body
 params:∀x∈it.params,A1A q x.at_ x.name
 sends:∀x∈it.sends,A1A q x.at_ x.name
 mark:A1A q it.mark it.name
def B6O (s:List UInt8) (it:Itm):Prop:= ∃p q,ItS s p q it
theorem B0R (s:List UInt8) {i:Nat} (hi:i<(U9 s).length) {a:Nat}{n:List UInt8} (h:A1A (A1s s (U9 s) i) a n):A1A s ((U9 s).getD i 0+a) n:=by
 obtain⟨c1,c2⟩:=A41 s hi;obtain⟨h1,h2,h3⟩:=h;have h4:=fun (k:Nat) (h:(⟨k,n,a⟩:Tok)∈O6 (A1s s (U9 s) i))=>B49 s hi h
 rw[A1s,Y9,A06]at h1;rw[A1s]at h2;refine⟨by omega,?_,fun hn=>?_⟩
 case refine_2=>
  obtain⟨hnm,k,hk⟩:=h3 hn;refine⟨hnm,k,?_⟩
  rw[A14];exact h4 k hk
 rw[A35,A3u,A1M,A19 (by omega)]at h2;exact h2
theorem B5Q (s:List UInt8):∀it∈P8 s,B6O s it:=by
 intro it hit;rw[P8]at hit;split at hit
 ·rw[A4G,A1w]at hit
  obtain⟨i,hi,rfl⟩:=hit;have hi:=List.mem_range.1 hi;obtain⟨c1,c2⟩:=A41 s hi;have hall:=B1N (src:=A1s s (U9 s) i) ((U9 s).getD i 0:Nat) (B8z _) (B8B _) (r:=fun x=>A1A (A1s s (U9 s) i) x.at_ x.name) (t:=fun x=>A1A (A1s s (U9 s) i) x.at_ x.name) (fun s _ _=>A3B _ s) (fun s=>A3B _ s);refine⟨(U9 s).getD i 0,A1s s (U9 s) i,?_⟩
  rw[A2Q];refine⟨B0v _ _,fun a n h=>B0R s hi h,hall.body,hall.params,hall.sends,?_⟩
  rcases hall.mark with ⟨h1,h2⟩|⟨st,h1,h2⟩
  ·rw[h1]
   rcases h2 with ⟨j,h2⟩|h2
   ·rw[h2];exact A58 (B2u (A1s s (U9 s) i) j)
   ·rw[h2];exact A58 (J7 _)
  ·rw[h1,h2];exact A3B _ st
 ·cases hit
def B8T (s:List UInt8) (u:Us):Prop:= ∃f d n,u.fr=((f:Nat):Int)/\u.to=((f+n.length:Nat):Int)/\u.df=((d:Nat):Int)/\n≠ []/\A1A s f n/\A1A s d n
def NW.ok (s:List UInt8) (w:NW):Prop:= ∀u∈w.us,B8T s u
def A78 (q:List UInt8) (sc:List Lc):Prop:= ∀l∈sc,l.name≠ []/\A1A q l.at_ l.name
theorem B4I {s:List UInt8}{its:List Itm} (h:∀x∈its,B6O s x) {k:Int}{n:List UInt8}{j:Nat} (hf:A0M its k n=some j):n≠ []/\∃d:Nat,(Z7 its j).at_+(Z7 its j).mark=(d:Int)/\A1A s d n:=by
 obtain⟨hj,h1,h2,h3,h4⟩:=A2F hf;obtain⟨p,q,hi⟩:=h _ h4;refine⟨h3,p+(Z7 its j).mark,by rw[hi.at_];omega,?_⟩
 have:=hi.sub _ _ hi.mark;rw[h2]at this;exact this
mutual
theorem B2V (o:Lab):∀(x:Stm),(A3e o x).lets=x.lets
 | .mk k nm a lb op e thn els f t=>by rw[A3e,Stm.lets,Stm.lets,A4C o thn,A4C o els]
theorem A4C (o:Lab):∀(l:List Stm),A0w (A0C o l)=A0w l
 | []=>by rw[A0C]
 |x::l=>by rw[A0C,A0w,A0w,B2V o x,A4C o l]
end
mutual
theorem B4G (o:Lab):∀(x:Stm),(A3e o x).cnt=x.cnt
 | .mk k nm a lb op e thn els f t=>by rw[A3e,Stm.cnt,Stm.cnt,A5k o thn,A5k o els]
theorem A5k (o:Lab):∀(l:List Stm),P6 (A0C o l)=P6 l
 | []=>by rw[A0C]
 |x::l=>by rw[A0C,P6,P6,B4G o x,A5k o l]
end
mutual
theorem B4F {o:Lab}{p:PE}{q:PS} (h:∀k nm a lb op f t,q k nm a lb op f t->q k nm a (if k=1/\op=true then o f else lb) (if k=1 then false else op) f t):∀(x:Stm),x.all p q->(A3e o x).all p q
 | .mk k nm a lb op e thn els f t,ha=>by
  rw[Stm.all]at ha;rw[A3e,Stm.all];exact⟨h _ _ _ _ _ _ _ ha.1,ha.2.1,A5j h thn ha.2.2.1,A5j h els ha.2.2.2⟩
theorem A5j {o:Lab}{p:PE}{q:PS} (h:∀k nm a lb op f t,q k nm a lb op f t->q k nm a (if k=1/\op=true then o f else lb) (if k=1 then false else op) f t):∀(l:List Stm),V5 p q l->V5 p q (A0C o l)
 | [],_=>by rw[A0C];exact Y3
 |x::l,ha=>by
  rw[V5]at ha;rw[A0C,V5];exact⟨B4F h x ha.1,A5j h l ha.2⟩
end
mutual
theorem B2W (o o':Lab):∀(x:Stm),A3e o' (A3e o x)=A3e o x
 | .mk k nm a lb op e thn els f t=>by
  rw[A3e,A3e,A5A o o' thn,A5A o o' els];by_cases hk:k=1
  ·simp[hk]
  ·simp[hk]
theorem A5A (o o':Lab):∀(l:List Stm),A0C o' (A0C o l)=A0C o l
 | []=>by rw[A0C];rfl
 |x::l=>by rw[A0C,A0C,B2W o o' x,A5A o o' l]
end
theorem A8X {its its':List Itm}:∀ {l g r:List Itm},AllTwo (A9m its) l g->AllTwo (A9m its') g r->r=g
 |_,_,_,.nil,.nil=>rfl
 |_,_,_,.cons (a:=a) (b:=b) h t,.cons (b:=c) h2 t2=>by
  rw[A8X t t2];by_cases hk:a.kind=2
  ·obtain⟨o,_,rfl⟩:=h.1 hk
   obtain⟨o',_,rfl⟩:=h2.1 hk;have:itI o' (itI o a)=itI o a:=by simp only[itI,A5A]
   rw[this]
  ·obtain rfl:=h.2 hk
   rw[h2.2 hk]
def A1B (a b:Itm):Prop:=b=a\/∃o,b=itI o a
theorem A1B.kind {a b:Itm} (h:A1B a b):b.kind=a.kind:=by rcases h with rfl|⟨o,rfl⟩<;>rfl
theorem A1B.name {a b:Itm} (h:A1B a b):b.name=a.name:=by rcases h with rfl|⟨o,rfl⟩<;>rfl
theorem A1B.at_ {a b:Itm} (h:A1B a b):b.at_=a.at_:=by rcases h with rfl|⟨o,rfl⟩<;>rfl
theorem A1B.mark {a b:Itm} (h:A1B a b):b.mark=a.mark:=by rcases h with rfl|⟨o,rfl⟩<;>rfl
theorem A1B.params {a b:Itm} (h:A1B a b):b.params=a.params:=by rcases h with rfl|⟨o,rfl⟩<;>rfl
theorem A1B.sends {a b:Itm} (h:A1B a b):b.sends=a.sends:=by rcases h with rfl|⟨o,rfl⟩<;>rfl
theorem A1B.label {a b:Itm} (h:A1B a b):b.label=a.label:=by rcases h with rfl|⟨o,rfl⟩<;>rfl
theorem A1B.body {a b:Itm} (h:A1B a b):b.body=a.body\/∃o,b.body=A0C o a.body:=by
 rcases h with rfl|⟨o,rfl⟩
 ·exact .inl rfl
 ·exact .inr ⟨o,rfl⟩
theorem A9S {its:List Itm}:∀ {l g:List Itm},AllTwo (A9m its) l g->AllTwo A1B l g
 |_,_,.nil=> .nil
 |_,_,.cons (a:=a) h t=> .cons (by
   by_cases hk:a.kind=2
   ·obtain⟨o,_,rfl⟩:=h.1 hk
    exact .inr ⟨o,rfl⟩
   ·exact .inl (h.2 hk)) (A9S t)
theorem AllTwo.get {α β:Type}{R:α->β->Prop}:∀ {l:List α}{r:List β}{i:Nat}{a:α},AllTwo R l r->l[i]?=some a->∃b,r[i]?=some b/\R a b
 |_,_,_,_,.nil,h=>by simp at h
 |_,_,0,_,.cons h t,e=>by
  simp only[A0S,U5]at e;subst e;exact⟨_,rfl,h⟩
 |_,_,i+1,_,.cons h t,e=>by
  rw[A0E]at e;obtain⟨b,h1,h2⟩:=t.get e;exact⟨b,by rw[A0E];exact h1,h2⟩
theorem AllTwo.mem {α β:Type}{R:α->β->Prop}:∀ {l:List α}{r:List β},AllTwo R l r->∀b∈r,∃a∈l,R a b
 |_,_,.nil,b,h=>by cases h
 |_,_,.cons h t,b,hb=>by
  rcases A0D.1 hb with rfl|hb
  ·exact⟨_,Y1,h⟩
  ·obtain⟨a,h1,h2⟩:=t.mem b hb
   exact⟨a,A3L _ h1,h2⟩
theorem B4r {its g:List Itm} (h:AllTwo A1B its g) (j:Nat):A1B (Z7 its j) (Z7 g j):=by
 rw[Z7,Z7,U2,U2];cases hi:its[j]? with
 |some a=>
  obtain⟨b,h1,h2⟩:=h.get hi;rw[h1];exact h2
 |none=>
  have:g[j]?=none:=by rw[List.getElem?_eq_none_iff]at hi |-;rw[h.len];exact hi
  rw[this];exact .inl rfl
theorem B01:∀ {its g:List Itm},AllTwo A1B its g->∀k n,A0M g k n=A0M its k n
 |_,_,.nil,_,_=>rfl
 |_,_,.cons (a:=a) (b:=b) (l:=l) (r:=r) h t,k,n=>by
  have ih:=B01 t k n;rw[A0M,A0M]at ih |-;have e:A7A k n b=A7A k n a:=by rw[A7A,A7A,h.kind,h.name]
  rw[A3n,A3n,e,ih]
theorem B6C {x y:Itm} (hxy:A1B x y):∀ {its g:List Itm},AllTwo A1B its g->∀i,(g.take i).any (fun z=>decide (z.kind=y.kind) && decide (z.name=y.name))=(its.take i).any (fun z=>decide (z.kind=x.kind) && decide (z.name=x.name))
 |_,_,.nil,i=>by simp
 |_,_,.cons h t,0=>rfl
 |_,_,.cons (a:=a) (b:=b) h t,i+1=>by
  rw[A1G,A1G,List.any_cons,List.any_cons,B6C hxy t i,h.kind,h.name,hxy.kind,hxy.name]
section
variable {its g:List Itm}
theorem A9e (h:AllTwo A1B its g) (b:Int) (k:Int) (a:Nat) (n:List UInt8) (s:NW):A34 g b k a n s=A34 its b k a n s:=by
 rw[A34,A34,B01 h];split
 ·rw[(B4r h _).at_,(B4r h _).mark]
 ·rfl
theorem B5n (h:AllTwo A1B its g) (b:Int) (a:Nat) (n:List UInt8) (m:Nat) (s:NW):A4m g b a n m s=A4m its b a n m s:=by
 rw[A4m,A4m,B01 h,A9e h];split
 ·rw[(B4r h _).params]
 ·rfl
mutual
theorem B4s (h:AllTwo A1B its g) (b:Int) (sc:List Lc):∀(e:Ex) (s:NW),exN g b sc e s=exN its b sc e s
 | .mk k nm n args f t,s=>by rw[exN,exN,B5n h,B2v h b sc args]
theorem B2v (h:AllTwo A1B its g) (b:Int) (sc:List Lc):∀(l:List Ex) (s:NW),A33 g b sc l s=A33 its b sc l s
 | [],s=>by rw[A33,A33]
 |e::l,s=>by rw[A33,A33,B4s h b sc e,B2v h b sc l]
end
mutual
theorem B6D (h:AllTwo A1B its g) (b:Int):∀(x:Stm) (sc:List Lc) (s:NW),A4b g b x sc s=A4b its b x sc s
 | .mk k nm a lb op e thn els f t,sc,s=>by rw[A4b,A4b,B4s h,A9e h,A6O h b thn,A6O h b els]
theorem A6O (h:AllTwo A1B its g) (b:Int):∀(l:List Stm) (sc:List Lc) (s:NW),A0J g b l sc s=A0J its b l sc s
 | [],sc,s=>by rw[A0J,A0J]
 |x::l,sc,s=>by rw[A0J,A0J,B6D h b x,A6O h b l]
end
theorem B2w (h:AllTwo A1B its g) (b:Int):∀(l dn:List Rf) (s:NW),A3W g b dn l s=A3W its b dn l s
 | [],dn,s=>by rw[A3W,A3W]
 |c::l,dn,s=>by rw[A3W,A3W,A4t,A4t,A9e h,B2w h b l]
end
mutual
theorem B4H (its:List Itm) (o:Lab) (b:Int):∀(x:Stm) (sc:List Lc) (s:NW),A4b its b (A3e o x) sc s=A4b its b x sc s
 | .mk k nm a lb op e thn els f t,sc,s=>by rw[A3e,A4b,A4b,A5B its o b thn,A5B its o b els]
theorem A5B (its:List Itm) (o:Lab) (b:Int):∀(l:List Stm) (sc:List Lc) (s:NW),A0J its b (A0C o l) sc s=A0J its b l sc s
 | [],sc,s=>by rw[A0C]
 |x::l,sc,s=>by rw[A0C,A0J,A0J,B4H its o b x,A5B its o b l]
end
theorem B7z {its g:List Itm} (h:AllTwo A1B its g) {x y:Itm} (hxy:A1B x y) (s:NW):fnN g y s=fnN its x s:=by
 rw[fnN,fnN,A6O h,B2w h,hxy.at_,hxy.params,hxy.sends];rcases hxy.body with e|⟨o,e⟩
 ·rw[e]
 ·rw[e,A5B]
theorem B5o {its g:List Itm} (h:AllTwo A1B its g) (i:Nat):A4o g i=A4o its i:=by
 have hn:=B4r h i;have ht:A6m g i (Z7 g i)=A6m its i (Z7 its i):=by rw[A6m,A6m,B6C hn h,hn.kind,hn.name]
 rw[A4o,A4o,ht,hn.kind,hn.mark,hn.name,B7z h hn]
theorem B6E {its g:List Itm} (h:AllTwo A1B its g):A6G g=A6G its:=by
 have key:∀k,A2Y g k=A2Y its k:=fun k=>by
  rw[A2Y,A2Y];exact congrArg (List.flatMap · (List.range k)) (funext fun i=>by rw[B5o h])
 rw[A6G,A6G,h.len,key]
mutual
theorem B1A (o:Lab):∀(x:Stm),x.small->(A3e o x).small
 | .mk k nm a lb op e thn els f t,h=>by
  rw[Stm.small]at h;rw[A3e,Stm.small,A3t,A3t];exact⟨h.1,h.2.1,A42 o thn h.2.2.1,h.2.2.2.1,A42 o els h.2.2.2.2⟩
theorem A42 (o:Lab):∀(l:List Stm),W9 l->W9 (A0C o l)
 | [],h=>by rw[A0C];exact h
 |x::l,h=>by
  rw[W9]at h;rw[A0C,W9];exact⟨B1A o x h.1,A42 o l h.2⟩
end
theorem A9O {o:Lab}{it:Itm} (h:it.small):(itI o it).small:=by
 refine { h with body:=?_,stms:=?_}
 ·show (A0C o it.body).length<=_
  rw[A3t];exact h.body
 ·exact A42 o _ h.stms
theorem B51 (src:List UInt8) (at_:Int) (h:src.length<=1048576):ItI (item src at_)/\(item src at_).label<256/\∀p∈(item src at_).params,p.label<256:=by
 have hA:=B1N (src:=src) (p:=A7Q) (q:=A7Z) (r:=fun p=>p.label<256) (t:=fun _=>True) at_ ⟨trivial,fun _=>trivial,fun _ _ _ _=>trivial,fun _ _=>trivial,fun _ _ _ _ _ _=>trivial,fun _ _ _ _ _ _ _ _ _ _ _ _ _ _ _ _=>trivial⟩
  ⟨by show 0<256;omega,fun _ _ lb _ _ h=>Nat.lt_succ_of_le h,fun _ _ _=>(by show 0<256;omega),fun _ _ _ _=>(by show 0<256;omega),fun _ _ _=>(by show 0<256;omega)⟩ (fun _ lb h=>Nat.lt_succ_of_le h) (fun _=>trivial)
 have hc:=B1O src at_;have hl:=B4P src at_;exact⟨⟨A7b src at_ h,hA.body,by omega,hl.1,hl.2⟩,Nat.lt_succ_of_le hA.label,hA.params⟩
theorem B1z (s:List UInt8):(∀x∈P8 s,ItI x)/\A2o (P8 s)/\(P8 s).length<=30:=by
 by_cases h0:A1d s=0
 ·have hl:s.length<=4000/\(U9 s).length<=30:=by
   rw[A1d]at h0;split at h0
   ·cases h0
   ·split at h0
    ·cases h0
    ·omega
  have key:∀x∈P8 s,ItI x/\x.label<256/\∀p∈x.params,p.label<256:=fun x hx=>by
   rw[P8,if_pos h0,A4G]at hx;obtain⟨j,_,rfl⟩:=A1w.1 hx;exact B51 _ _ (by rw[A1s,Y9,A06];omega)
  exact⟨fun x hx=>(key x hx).1,fun x hx=>(key x hx).2,by rw[P8,if_pos h0];simp[A4G,hl.2]⟩
 ·rw[P8,if_neg h0]
  exact⟨fun x hx=>(by cases hx),fun x hx=>(by cases hx),J7 _⟩
theorem B67 {o:Lab}{it:Itm} (ho:∀f,o f<256) (h:ItI it):ItI (itI o it):=by
 refine⟨A9O h.small,A5j (fun k nm a lb op f t hl=>?_) _ h.body,?_,?_,?_⟩
 ·show (if k=1/\op=true then o f else lb)<256
  split
  ·exact ho f
  ·exact hl
 ·show P6 (A0C o it.body)<=_
  rw[A5k];exact h.cnt
 ·show (A0w (A0C o it.body)).Nodup
  rw[A4C];exact h.lets
 ·show 0∉A0w (A0C o it.body)
  rw[A4C];exact h.none
theorem B1P {its g:List Itm} (h:AllTwo (A9m its) its g) (hI:∀x∈its,ItI x) (hL:A2o its):(∀y∈g,ItI y)/\A2o g:=by
 have key:∀y∈g,ItI y/\y.label<256/\∀p∈y.params,p.label<256:=fun y hy=>by
  obtain⟨x,hx,hxy⟩:=h.mem y hy;by_cases k2:x.kind=2
  ·obtain⟨o,⟨⟨k,rfl⟩,_⟩,rfl⟩:=hxy.1 k2
   exact⟨B67 (B0w hL (hI x hx).body (hL x hx).2 k) (hI x hx),hL x hx⟩
  ·rw[hxy.2 k2];exact⟨hI x hx,hL x hx⟩
 exact⟨fun y hy=>(key y hy).1,fun y hy=>(key y hy).2⟩
structure LetW (T:Src) (L:Nat->Prop):Prop where
 no:∀i,(T.tok i).text≠ [108,101,116]->¬L (T.tok i).pos
 yes:∀i,(T.tok i).text= [108,101,116]->L (T.tok i).pos
 num:∀i,(T.tok i).kind=2->¬L (T.tok i).pos
 zero:¬L 0
 next:∀i j,i<j->(T.tok i).pos+(T.tok i).text.length<=(T.tok j).pos
mutual
theorem B5l (its:List Itm):∀(x:Stm) (sc:List Li) (un:Nat) (p:LP),(A7H its x sc un p).2.2=false->(A7H its x sc un p).2=p
 | .mk k nm a lb op e thn els f t,sc,un,p,h=>by
  have hI:∀(p:LP) (f n:Nat),(A2k p f n).2=false->A2k p f n=p:=fun p f n h=>by
   rw[A2k]at h |-;split
   ·rfl
   ·rename_i hc;rw[if_neg hc]at h;cases h
  have hO:∀(p:LP) (f:Option Nat) (n:Nat),(A2W p f n).2=false->A2W p f n=p:=fun p f n h=>by
   cases f with
   |none=>rfl
   |some f=>exact hI p f n h
  rw[A7H]at h |-;split
  ·rename_i hk;rw[if_pos hk]at h;exact hO _ _ _ h
  ·rename_i hk;rw[if_neg hk]at h
   split
   ·rename_i hk2;rw[if_pos hk2]at h
    dsimp only at h |-;rw[B0V]at h |-;split
    ·rename_i l hl;rw[hl]at h;exact hO _ _ _ h
    ·rfl
   ·rename_i hk2;rw[if_neg hk2]at h
    split
    ·rename_i hk3;rw[if_pos hk3]at h
     dsimp only at h |-;have h1:=A6b its els _ _ _ h;rw[h1]at h |-;exact A6b its thn _ _ _ h
    ·rfl
theorem A6b (its:List Itm):∀(l:List Stm) (sc:List Li) (un:Nat) (p:LP),(A1l its l sc un p).2.2=false->(A1l its l sc un p).2=p
 | [],sc,un,p,_=>by rw[A1l]
 |x::l,sc,un,p,h=>by
  rw[A1l]at h |-;have h1:=A6b its l _ _ _ h;rw[h1]at h |-;exact B5l its x _ _ _ h
end
section
variable {its g:List Itm}
end
section
variable {its g:List Itm}{L:Nat->Prop}{o:Lab}
end
def A2h:List UInt8:= [102,110,32,102,40,120,58,32,123,97,125,41,58,32,123,97,125,32,123,32,108,101,116,32,121,32,61,32,49,59,32,121,32,61,32,120,59,32,114,101,116,117,114,110,32,121,59,32,125]
theorem B24:A1d A2h=0:=by decide+kernel
theorem A7a:(P8 A2h).length=1:=by decide+kernel
theorem B4O:(A3H (P8 A2h) 0 (-1)).ds.length=1:=by decide+kernel
theorem B1J:(Z7 (P8 A2h) 0).kind=2:=by decide+kernel
def A4F:Lab:=A6t (P8 A2h) (Z7 (P8 A2h) 0) 1
theorem B25:(A3a (P8 A2h) (Z7 (P8 A2h) 0) A4F).2=false:=by decide+kernel
theorem B1I:(itI A4F (Z7 (P8 A2h) 0)).body.length=3/\((itI A4F (Z7 (P8 A2h) 0)).body.getD 0 default).label=1/\((itI A4F (Z7 (P8 A2h) 0)).body.getD 0 default).opn=false:=by decide+kernel
theorem B23:(A3H [itI A4F (Z7 (P8 A2h) 0)] 0 (-1)).ds.length=0:=by decide+kernel
theorem B1K {r:List Itm} (h:B0h (P8 A2h) r):r.length=1/\B3x r/\∃it x,r[0]?=some it/\it.body.length=3/\it.body[0]?=some x/\x.label=1/\x.opn=false:=by
 have l1:=A7a;have k1:=B1J;have e1:=B25;obtain⟨b1,b2,b3⟩:=B1I;have d2:=B23;have ho:A4F=A6t (P8 A2h) (Z7 (P8 A2h) 0) 1:=rfl;generalize hits:P8 A2h=its at *;have e2:A3a its (Z7 its 0) A4F=(A4F,false):=by
  have:=A6b its (Z7 its 0).body (A7D (Z7 its 0).params) 0 (A4F,false) e1;exact this
 have h2:B0h its [itI A4F (Z7 its 0)]:=by
  match its,l1 with
  | [a],_=>exact .cons ⟨fun _=>⟨_,⟨⟨1,ho⟩,e2⟩,rfl⟩,fun hk=>absurd k1 hk⟩ .nil
 obtain rfl:=A9T h h2;generalize itI A4F (Z7 its 0)=it at *;refine⟨rfl,fun j hj=>?_,it,it.body.getD 0 default,rfl,b1,?_,b2,b3⟩
 ·obtain rfl:j=0:=by simpa using hj
  exact List.length_eq_zero_iff.1 d2
 ·rw[U2,G9 (by omega)];rfl
theorem B22:¬B3x (P8 A2h):=fun h=>by
 have h1:=B4O;rw[h 0 (by rw[A7a];omega)]at h1;cases h1
section
variable {s q:List UInt8}{p:Nat}{its:List Itm}{sc:List Lc}
theorem A98 (h:A78 q sc) {n:List UInt8}{a:Nat} (hn:n≠ []) (hst:A1A q a n):A78 q (sc++ [⟨n,a⟩]):=fun l hl=>by
 rcases A0T.1 hl with hl|hl
 ·exact h l hl
 ·obtain rfl:=A1R.1 hl
  exact⟨hn,hst⟩
theorem B6w:A78 q []:=fun l h=>by cases h
end
end Go.Sp
namespace Go.Fw
open Go.Sp
open Go
section
variable {P:Program}{N:Nat}{ds:List Deferred}{Q:Exit->Act->World->Prop}{K:Act->World->Prop}{l l':Log}{w w':World}{ops:Array Oper}{os:List Oper}
variable {d:Nat}{ty:TypeId}{pos:String}{af:Array Edge}{g:Option (Nat×Bool)}{t t':TypeId}{x y z:Operand}
theorem A52 {e:TypeId} (hT:P.underlying t=some (.pointer e):=by kernel_rfl) {a:Option Addr}{k0:Value} (hw:O8 ops l ⟨some d,.binOp .neq t x (.const k0) t',ty,pos,af,g⟩=some true:=by rfl) (hN:Nat.blt d N=true:=by rfl)
  (hx:ev l x=some (.pointer a):=by rfl) (hk:k0=.pointer none:=by rfl) (k:WQ P N ds ops w K os ((d,.bool a.isSome)::l)):WQ P N ds ops w K (⟨some d,.binOp .neq t x (.const k0) t',ty,pos,af,g⟩::os) l:=
 A0u rfl hw hN (fun w' hkq c hc=>by
  subst hk;have h1:=run_underlying (P:=P) (w:=w') hT;have e2:c.eval (.const (.pointer none))=.pointer none:=rfl;have h2:(Op.equal t (.pointer a) (.pointer none)).run P w'=.ok a.isNone w':=by
   show (Op.equalIn (9999+1) t (.pointer a) (.pointer none)).run P w'=_
   rw[Op.equalIn];cases a<;>simp[h1]
  cases a<;>simp[execOp,hc.ev hx,e2,eqGuard,binOp,h2]) k
end
theorem RowI.take {I:U0}{e sz n m cp:Nat}{a:Option Addr}{xs:List Value} (h:RowI I e sz (.slice a n cp) n xs) (hmn:m<=n):RowI I e sz (.slice a m cp) m (xs.take (m *sz)):=by
 obtain⟨h0,a',cap,h1,h2,h3⟩:=h;obtain⟨rfl,_,rfl⟩:=Value.slice.inj h1;have hle:m *sz<=n *sz:=A3K _ hmn;refine⟨by rw[Y9];omega,a,cp,rfl,by omega,fun hm=>?_⟩
 obtain⟨b,off,c,fr,e1,e2,e3⟩:=h3 (by omega);refine⟨b,off,c,fr,e1,e2,fun j u hj=>e3 j u ?_⟩
 rw[A1H]at hj;split at hj
 ·exact hj
 ·cases hj
section
variable {P:Program}{N:Nat}{ds:List Deferred}{Q:Exit->Act->World->Prop}{l:Log}{w:World}{ops:Array Oper}{os:List Oper}
variable {d:Nat}{ty:TypeId}{pos:String}{af:Array Edge}{g:Option (Nat×Bool)}{t:TypeId}{x y:Operand}{E:Ent}{I:U0}{H:List HItem}
theorem A7W {e:TypeId}{sz by_:Nat} [TySlice P t e] [Elem P e sz by_] {n m cp:Nat}{a:Option Addr}{xs:List Value} (k:RowI I e sz (.slice a m cp) m (xs.take (m *sz))->WL P N ds ops Q os ((d,.slice a m cp)::l) w) (hr:RowI I e sz (.slice a n cp) n xs)
  (hw:O8 ops l ⟨some d,.slice t x none (some y) none,ty,pos,af,g⟩=some true:=by rfl) (hN:Nat.blt d N=true:=by rfl)
  (hx:ev l x=some (.slice a n cp):=by rfl) (hy:ev l y=some (.int .i64 (m:Int)):=by rfl) (hmn:m<=n:=by omega)
   :
  WL P N ds ops Q (⟨some d,.slice t x none (some y) none,ty,pos,af,g⟩::os) l w:=by
 have h2:n<=cp:=by
  obtain⟨_,a',cap,h1,h2,_⟩:=hr;obtain⟨_,_,rfl⟩:=Value.slice.inj h1;exact h2
 refine O9 (w':=w) (v:=.slice a m cp) rfl hw hN (fun c hc=>?_) (k (hr.take hmn))
 obtain⟨inf,z,hinf,_,hs,_,_,_⟩:=Elem.out (P:=P) (e:=e);have h6:=run_underlying (P:=P) (w:=w) (TySlice.out (P:=P) (t:=t));have h7:m<=cp:=by omega
 rcases a with _|⟨b,off,o⟩
 ·simp[execOp,Instr.sliceAt,Instr.slice,Instr.sliceBounds,Instr.sliceBound,hc.ev hx,hc.ev hy,h6,asIntOf,h7,sizeOf,typeInfo,hinf]
 ·simp[execOp,Instr.sliceAt,Instr.slice,Instr.sliceBounds,Instr.sliceBound,hc.ev hx,hc.ev hy,h6,asIntOf,h7,sizeOf,typeInfo,hinf,Addr.add]
end
end Go.Fw
namespace Go.Proofs
open Go.Proofs.Tryz
open Go.Sp
open Go.Fw
theorem _root_.Go.Fw.pmL7 {f r m a b c d:HItem}{T:List HItem}:(f::r::m::a::b::c::d::T).Perm ((T++ [f,r,m])++ [a,b,c,d]):=by
 rw[Z9];exact A1o (l₁:= [f,r,m,a,b,c,d])
theorem _root_.Go.Fw.pmL4 {a b c d:HItem}{T:List HItem}:(a::b::c::d::T).Perm (T++ [a,b,c,d]):=A1o (l₁:= [a,b,c,d])
theorem _root_.Go.Fw.pmIcT {r c f m:HItem}{T:List HItem}:(r::c::f::m::T).Perm (c::f::r::m::T):=(A1o (l₁:= [r]) (l₂:= [c,f])).append_right (m::T)
theorem _root_.Go.Fw.pmSw {a b:HItem}{T:List HItem}:(a::b::T).Perm (b::a::T):=.swap _ _ _
def A22 (l:List Sp.Par):List Loc:=l.map (fun p=>(⟨p.name,p.label,none⟩,.pointer none))
theorem A6x (l:List Sp.Par):(A22 l).map (·.1)=A7D l:=by rw[A22,A7D,List.map_map];rfl
theorem B0Q {l:List Sp.Par}{j:Nat}{p:Sp.Par} (h:l[j]?=some p):A22 (l.take (j+1))=A22 (l.take j)++ [(⟨p.name,p.label,none⟩,.pointer none)]:=by
 rw[X0 h,A22,A1I];rfl
abbrev InT (bd bf:Nat) (sc:List Loc) (o:Sp.Lab) (more:Bool) (sa:Option Addr) (sp bo:Nat) (zs:A1b) (T:List HItem):List HItem:=
 .cell bd [ptr bf,.slice sa sc.length sp,.map (some bo),.bool more] 116:: .row (.slice sa sc.length sp) 119 3 sc.length (sc.flatMap (A27 o)):: .mz bo zs::T
structure LbX where
 k:Nat
 I:U0
 a:Option Addr
 cp:Nat
 xs:List Value
 r:List Sp.Itm
structure LbR where
 I:U0
 sc:List Loc
 o:Sp.Lab
 more:Bool
 sa:Option Addr
 sp:Nat
 zs:A1b
structure LbP where
 j:Nat
 sa:Option Addr
 sp:Nat
abbrev B7X (its:List Sp.Itm):Value->U0->List HItem->Prop:=fun v J H'=>H'= []/\∃ra rp xs r,B0h its r/\v=.agg [.slice ra r.length rp].toArray/\RowI J 60 10 (.slice ra r.length rp) r.length xs/\A3c J r xs
theorem A8U {its:List Sp.Itm} (hlab:A2o its) (hI:∀x∈its,Sp.ItI x) (I:U0) (a:Option Addr) (cp:Nat) (xs:List Value) (hfe:FE I its a cp xs):
  CalM prog 21 #[.agg [.slice a its.length cp].toArray] I [] (B7X its):=by
 have hfew:=hfe.few;refine CalM.of fun w E hm=>enter (N:=72) func21 rfl [(0,.agg [.slice a its.length cp].toArray)] A0v rfl ?_
 repeat' (first|refine A25 2 ?_|refine A0z (d:=1) ?_ hm;clear hm;intro b1 _ hm|refine V6 (d:=2) ?_ hm;clear hm;intro b2 _ hm|refine V6 (d:=3) ?_ hm;clear hm;intro b3 _ hm|refine D9 ?_|refine A7 ?_|refine E8 ?_|refine A8 ?_)
 all_goals try omega
 obtain⟨I1,hle1,hm1,hpf⟩:=(hm.perm (A1o (l₁:= [_,_]) (l₂:= [_]))).freezeO;clear hm;have hm:=hm1;clear hm1;have hfe1:=hfe.le hle1;refine⟨?_⟩
 repeat' (first|refine J4 ?_ hm|refine D8 ?_|refine G8 ?_|refine C9 ?_|refine D9 ?_|refine A7 ?_|refine A8 ?_|refine F5 ?_)
 all_goals try omega
 have hm:=(hm.nil 60 10).swap;refine X7 (fun x:LbX=> [(1,ptr b1),(2,ptr b2),(3,ptr b3),(10,.slice a its.length cp),(11,nt its.length),(12,nt x.k)])
  (fun x w'=>Mem E x.I [.cell b3 [.slice x.a x.r.length x.cp] 25,A9P x.r.length x.a x.cp x.xs,.cell b2 [.slice none 0 0] 25] w'/\Le I1 x.I/\x.k<=its.length/\Sp.AllTwo (A9m its) (its.take x.k) x.r/\A3c x.I x.r x.xs) (fun x=>its.length-x.k) ⟨0,I1,none,0,[],[]⟩
  (by exact⟨rfl,rfl,rfl,rfl,rfl,rfl,trivial⟩) ⟨hm,Le.refl _,J7 _,.nil,rfl⟩ ?_
 clear hm;rintro⟨k,I2,ra,rp,rx,r⟩ w2 ⟨hm,hle2,hk,hall,hits⟩;dsimp only at hm hle2 hk hall hits |-;have hfe2:=hfe1.le hle2;have hpf2:=hpf.le hle2;have hri:=hfe2.row;have hrl:=hall.len;rw[Y9,A19 hk]at hrl;by_cases hlt:k<its.length
 ·have hg:its[k]?=some its[k]:=G9 hlt
  have htk:=X0 hg;obtain⟨cs,hcs,hat,hl10⟩:=hfe2.get hg;have hIt:=hI _ (Q8 hlt);have hpl:=(hlab _ (Q8 hlt)).2;generalize its[k]=it at hg hat hIt hpl htk;have hOw:=B87 it hIt.small I2 cs hat
  have hpn:=hIt.small.params;have hbn:=hIt.small.body;obtain⟨ap0,cp0,as0,cs0,ab0,cb0,ad0,cd0,xb0,rfl,_⟩:=hat
  repeat' (first|refine U3 (d:=14) ?_ (hr:=hri);intro bt ot hpt;rw[show ((k:Int).toNat *10)=k *10 from rfl,hcs]at hpt|refine F6 (d:=17) ?_ hm (hp:=pm0) (hc:=hOw);clear hm;rintro _ I3 _ _ ⟨ap,cp',as_,cs',ab,cb,ad,cd,Hb,rfl,rfl,hO,hrs,hrd⟩ hleI3 hm;replace hm:=hm.perm A1o|refine A25 6 ?_|refine A0j (d:=5) ?_ hm;clear hm;intro b5 _ hm|refine O1 ?_ hm|refine Y8 ?_ hm|refine O4 ?_ hm;clear hm;intro _ hm;try simp only[F7]at hm|refine O0 ?_|refine D9 ?_|refine A7 ?_|refine E8 ?_|refine A8 ?_|refine F5 ?_|refine F9 ?_|(refine D6 (ht:=fun _=>?_) (hf:=fun _=>?_)<;>try first|contradiction|omega))
  all_goals try omega
  obtain⟨I4,hle4,hm4,hrp⟩:=(hm.perm (pmL4.trans (.refl _))).freeze;clear hm;have hm:=hm4.perm pmL4.symm;clear hm4;have hle24:Le I2 I4:=hleI3.trans hle4;have hO4:=hO.le hle4;have hrs4:=hrs.le hle4;have hrd4:=hrd.le hle4;have hpf4:=hpf2.le hle24;have hfe4:=hfe2.le hle24;have hits4:=hits.le hle24;refine⟨?_⟩
  by_cases k2:it.kind=2
  ·skip
   repeat' (first|refine A9V (d:=21) ?_ hm;clear hm;intro b21 _ hm|refine A0z (d:=23) ?_ hm;clear hm;intro b23 _ hm|refine H8 ?_ hm|refine D5 ?_|refine Q5 ?_|refine C9 ?_|refine X4 ?_|refine D9 ?_|refine A7 ?_|refine E8 ?_|refine A8 ?_|refine F5 ?_|(refine D6 (ht:=fun _=>?_) (hf:=fun _=>?_)<;>try first|contradiction|omega))
   all_goals try first|omega|contradiction
   have hm:=(hm.nil 119 3).perm pmSw;refine X7 (fun _:LbR=> [(1,ptr b1),(2,ptr b2),(3,ptr b3),(5,ptr b5),(6,ptr b23),(10,.slice a its.length cp),(11,nt its.length),(12,nt k)])
    (fun x w'=>Mem E x.I (InT b23 b1 x.sc x.o x.more x.sa x.sp b21 x.zs (.cell b5 (A0P it.kind it.name it.label (.slice ap it.params.length cp') (.slice as_ it.sends.length cs') (.slice ab it.body.length cb) it.at_ it.size it.mark (.slice ad it.diags.length cd)) 60:: .cell b3 [.slice ra r.length rp] 25::A9P r.length ra rp rx:: .cell b2 [.slice none 0 0] 25::Hb)) w'/\
     Le I4 x.I/\OpenZ x.zs x.o/\(∃kk,x.o=A6t its it kk)/\(x.more=false->A3a its it x.o=(x.o,false)))
    (fun x=>2 *A77 (A0w it.body) x.o+(if x.more=true then 1 else 0)) ⟨I4,[],fun _=>0,true,none,0,[]⟩
    (by exact⟨rfl,rfl,rfl,rfl,rfl,rfl,rfl,rfl,trivial⟩) ⟨hm,Le.refl _,OpenZ.nil,⟨0,rfl⟩,fun h=>(by cases h)⟩ ?_
   clear hm;rintro⟨I5,sc,o,more,sa,sp,zs⟩ w5 ⟨hm,hle5,hz,⟨kk,hkk⟩,hfix⟩;dsimp only at hm hle5 hz hkk hfix |-;have hok:∀f,o f<256:=fun f=>by rw[hkk];exact B0w hlab hIt.body hpl kk f
   obtain⟨hr1,hr2,hr3⟩:=A96 (o:=o) hlab hIt.body hpl hok;cases more with
   |false=>
    repeat' (first|refine A25 17 ?_|refine H8 ?_ hm|refine D8 ?_|refine E5 ?_|refine C9 ?_|refine D9 ?_|refine A7 ?_|refine G7 ?_|refine G5 ?_|refine E8 ?_|refine A8 ?_|refine O7 ?_|refine E9 ?_)
    all_goals try first|omega|contradiction
    obtain⟨I6,hle6,hm6,hpd⟩:=hm.freezeO;obtain⟨I7,hle7,hm7,hmz⟩:=Mem.freezeMZ hm6.tl;clear hm hm6;have hm:=hm7;clear hm7;have hF:=B8b (bd:=b23) (bo:=b21) hz _ it.body (H6 _) (by omega) hIt.small.stms I7 ab cb Hb (hpd.le hle7) hmz (((hO4.le hle5).le hle6).le hle7);refine⟨?_⟩
    repeat' (first|refine F6 (d:=63) ?_ hm (hp:=pmL4) (hc:=hF);clear hm;rintro _ I8 H1 _ ⟨rfl,hO8⟩ hleI8 hm;replace hm:=hm.perm pmL4.symm|refine A25 18 ?_|refine H8 ?_ hm|refine D8 ?_|refine C9 ?_|refine D9 ?_|refine A7 ?_|refine A8 ?_)
    all_goals try first|omega|contradiction
    obtain⟨I9,xb9,hle9,hm9,hrb,hxb⟩:=hO8.freeze (hm.perm pmL4);clear hm;have hm:=hm9;clear hm9;have hle49:Le I4 I9:=(((hle5.trans hle6).trans hle7).trans hleI8).trans hle9;have hit:A5a I9 (Sp.itI o it) (A0P it.kind it.name it.label (.slice ap it.params.length cp') (.slice as_ it.sends.length cs') (.slice ab it.body.length cb) it.at_ it.size it.mark (.slice ad it.diags.length cd)):=
     ⟨ap,cp',as_,cs',ab,cb,ad,cd,xb9,by show _=A0P it.kind it.name it.label _ _ (.slice ab (A0C o it.body).length cb) it.at_ it.size it.mark _;rw[A3t];rfl,hrp.le hle49,hrs4.le hle49,hrb,hxb,hrd4.le hle49⟩
    refine⟨?_⟩
    repeat' (first|refine A3A (d:=68) ?_ hm;clear hm;intro a68 cp68 _ _ hm;try simp only[F7]at hm|refine H8 ?_ hm|refine O1 ?_ hm|refine J6 hm (k:=?_);clear hm;intro _ hm;try simp only[F7]at hm|refine D8 ?_|refine Q4 ?_|refine C9 ?_|refine D9 ?_|refine A7 ?_|refine D7 ?_|refine A8 ?_)
    all_goals try first|omega|contradiction
    refine N7 (⟨k+1,I9,a68,cp68,_,r++ [Sp.itI o it]⟩:LbX) (by exact⟨rfl,rfl,rfl,rfl,rfl,rfl,trivial⟩) ⟨?_,(hle2.trans hle24).trans hle49,by dsimp only;omega,by dsimp only;rw[htk];exact hall.snoc ⟨fun _=>⟨o,⟨⟨kk,hkk⟩,hfix rfl⟩,rfl⟩,fun h=>absurd k2 h⟩,(hits4.le hle49).snoc hit⟩ (by dsimp only;omega)
    dsimp only[A9P];rw[Y4];exact hm.tl
   |true=>
    repeat' (first|refine A25 11 ?_|refine H8 ?_ hm|refine J6 hm (k:=?_);clear hm;intro _ hm;try simp only[F7]at hm|refine D8 ?_|refine E5 ?_|refine C9 ?_|refine D9 ?_|refine A7 ?_|refine E8 ?_|refine A8 ?_|refine F5 ?_|refine F9 ?_|refine F8 ?_)
    all_goals try first|omega|contradiction
    have hm:=((hm.perm pmSw).tl.nil 119 3).perm pmSw;have hrp5:=hrp.le hle5;have hO5:=hO4.le hle5;refine⟨?_⟩
    repeat' (first|refine H8 ?_ hm|refine D8 ?_|refine G8 ?_|refine C9 ?_|refine D9 ?_|refine A7 ?_|refine A8 ?_|refine F5 ?_)
    all_goals try first|omega|contradiction
    refine X7 (fun x:LbP=> [(1,ptr b1),(2,ptr b2),(3,ptr b3),(5,ptr b5),(6,ptr b23),(10,.slice a its.length cp),(11,nt its.length),(12,nt k),(35,.slice ap it.params.length cp'),(36,nt it.params.length),(37,nt x.j)])
     (fun x w'=>Mem E I5 (InT b23 b1 (A22 (it.params.take x.j)) o false x.sa x.sp b21 zs (.cell b5 (A0P it.kind it.name it.label (.slice ap it.params.length cp') (.slice as_ it.sends.length cs') (.slice ab it.body.length cb) it.at_ it.size it.mark (.slice ad it.diags.length cd)) 60:: .cell b3 [.slice ra r.length rp] 25::A9P r.length ra rp rx:: .cell b2 [.slice none 0 0] 25::Hb)) w'/\x.j<=it.params.length)
     (fun x=>it.params.length-x.j) ⟨0,none,0⟩ (by exact⟨rfl,rfl,rfl,rfl,rfl,rfl,rfl,rfl,rfl,rfl,rfl,trivial⟩) ⟨hm,J7 _⟩ ?_
    clear hm;rintro⟨j,sa1,sp1⟩ w6 ⟨hm,hj⟩;dsimp only at hm hj |-;have hpl1:(A22 (it.params.take j)).length=j:=by rw[A22,A3S,Y9];omega
    by_cases hlj:j<it.params.length
    ·have hgp:it.params[j]?=some it.params[j]:=G9 hlj
     have hstp:=B0Q hgp;generalize it.params[j]=p at hgp hstp;repeat' (first|refine A0i (d:=39) (enc:=A2r) (z:=p) ?_ (hr:=hrp5) (he:=fun _=>rfl) (hz:=by exact hgp);intro bz oz hpz|refine A0K (id:=14) (hm.perm pm1_2) [0,1,2,3,4,5,6,7,8,9] [10,11] 12 (h:=?_);clear hm;intro wd hR hm|refine A0g ?_ hR|refine A2K (d:=52) ?_ hm;clear hm;intro a52 cp52 _ _ hm;replace hm:=hR.back hm;clear hR;try simp only[F7]at hm|refine A0j (d:=8) ?_ hm;clear hm;intro b8 _ hm|refine Y8 ?_ hm|refine J6 hm (k:=?_);clear hm;intro _ hm;try simp only[F7]at hm|refine D8 ?_|refine O0 ?_|refine E5 ?_|refine Q4 ?_|refine C9 ?_|refine D9 ?_|refine A7 ?_|refine D7 ?_|refine E8 ?_|refine A8 ?_|refine F5 ?_|refine F9 ?_|(refine D6 (ht:=fun _=>?_) (hf:=fun _=>?_)<;>try first|contradiction|omega)|refine A1V ?_|refine Z4 ?_|refine S9 ?_|refine A4X ?_|refine A08 ?_)
     all_goals try first|omega|contradiction
     refine N7 (⟨j+1,a52,cp52⟩:LbP) (by exact⟨rfl,rfl,rfl,rfl,rfl,rfl,rfl,rfl,rfl,rfl,rfl,trivial⟩) ⟨?_,by dsimp only;omega⟩ (by dsimp only;omega)
     dsimp only[InT];rw[hstp,A0F,Y4];exact(hm.perm pmIcT).tl
    ·obtain rfl:j=it.params.length:=by omega
     rw[A0b]at hm;have hq:(A1l its it.body ((A22 it.params).map (·.1)) 0 (o,false)).2=A3a its it o:=by rw[A6x];rfl
     have hB:CalM prog 46 #[ptr b23,.slice ab it.body.length cb,nt 0] I5 (Hb++A60 b23 b1 (A22 it.params) o false sa1 sp1 b21 zs) _:=CalM.lend (QJ:=fun J=> ∃xb,RowI J 109 15 (.slice ab it.body.length cb) it.body.length xb/\U8 J it.body xb)
      (fun E w hmm=>by
       obtain⟨J,xbJ,hleJ,hmJ,hrJ,hxJ⟩:=hO5.freeze hmm;exact⟨J,hleJ,hmJ,xbJ,hrJ,hxJ⟩)
      (fun J m ⟨xb,h1,h2⟩=>B65 (bd:=b23) (bf:=b1) (bo:=b21) hlab _ it.body (H6 _) (by omega) hIt.small.stms hIt.body J ab cb xb (A22 it.params) 0 (o,false) sa1 sp1 zs (by omega) hok
       (by rw[A6x];exact A86 hpl) (by have:=hIt.cnt;rw[A22,A3S];omega) (by rw[A6x,A91];exact hIt.lets)
       (fun q hq=>by obtain⟨p,_,rfl⟩:=A1w.1 hq;exact .inl ⟨rfl,rfl⟩) hz ((hfe4.le hle5).le m) ((hpf4.le hle5).le m) h1 h2)
     rw[hq]at hB;repeat' (first|refine F6 (d:=59) ?_ hm (hp:=pmL7) (hc:=hB);clear hm;rintro _ I6 _ _ ⟨_,rfl,rfl,sa6,sp6,zs6,hz6,rfl⟩ hleI6 hm;replace hm:=hm.perm pmL7.symm|refine H8 ?_ hm|refine D8 ?_|refine O0 ?_|refine C9 ?_|refine D9 ?_|refine A7 ?_|refine G7 ?_|refine D7 ?_|refine G5 ?_|refine E8 ?_|refine A8 ?_|refine O7 ?_|(refine D6 (ht:=fun _=>?_) (hf:=fun _=>?_)<;>try first|contradiction|omega))
     all_goals try first|omega|contradiction
     refine N7 (⟨I6,A22 it.params,(A3a its it o).1,(A3a its it o).2,sa6,sp6,zs6⟩:LbR) (by exact⟨rfl,rfl,rfl,rfl,rfl,rfl,rfl,rfl,trivial⟩) ⟨hm,hle5.trans hleI6,hz6,⟨kk+1,by rw[hkk];rfl⟩,fun h=>?_⟩ ?_
     ·dsimp only at h |-
      have h3:=hr3 h;rw[h3];exact Prod.ext h3 h
     ·dsimp only
      cases hb:(A3a its it o).2 with
      |true=>have:=hr2 hb;rw[if_pos rfl];omega
      |false=>rw[hr3 hb,if_neg (by decide),if_pos rfl];omega
  ·obtain⟨I5,xb5,hle5,hm5,hrb,hxb⟩:=hO4.freeze (hm.perm pmL4)
   clear hm;have hm:=hm5;clear hm5;have hit:A5a I5 it (A0P it.kind it.name it.label (.slice ap it.params.length cp') (.slice as_ it.sends.length cs') (.slice ab it.body.length cb) it.at_ it.size it.mark (.slice ad it.diags.length cd)):=
    ⟨ap,cp',as_,cs',ab,cb,ad,cd,xb5,rfl,hrp.le hle5,hrs4.le hle5,hrb,hxb,hrd4.le hle5⟩
   repeat' (first|refine A3A (d:=68) ?_ hm;clear hm;intro a68 cp68 _ _ hm;try simp only[F7]at hm|refine H8 ?_ hm|refine O1 ?_ hm|refine J6 hm (k:=?_);clear hm;intro _ hm;try simp only[F7]at hm|refine D8 ?_|refine Q5 ?_|refine Q4 ?_|refine C9 ?_|refine D9 ?_|refine A7 ?_|refine D7 ?_|refine A8 ?_|refine F9 ?_|(refine D6 (ht:=fun _=>?_) (hf:=fun _=>?_)<;>try first|contradiction|omega))
   all_goals try first|omega|contradiction
   refine N7 (⟨k+1,I5,a68,cp68,_,r++ [it]⟩:LbX) (by exact⟨rfl,rfl,rfl,rfl,rfl,rfl,trivial⟩) ⟨?_,(hle2.trans hle24).trans hle5,by dsimp only;omega,by dsimp only;rw[htk];exact hall.snoc ⟨fun h=>absurd h k2,fun _=>rfl⟩,(hits4.le hle5).snoc hit⟩ (by dsimp only;omega)
   dsimp only[A9P];rw[Y4];exact hm.tl
 ·obtain rfl:k=its.length:=by omega
  rw[A0b]at hall;repeat' (first|refine O1 ?_ hm|refine O4 ?_ hm;clear hm;intro _ hm;try simp only[F7]at hm|refine V3 ?_ hm|refine O0 ?_|refine D9 ?_|refine A7 ?_|refine G7 ?_|refine G5 ?_|refine E8 ?_|refine A8 ?_|refine O7 ?_|refine H7 ?_|(refine D6 (ht:=fun _=>?_) (hf:=fun _=>?_)<;>try first|contradiction|omega))
  all_goals try omega
  obtain⟨I3,hle3,hm3,hrow3⟩:=(hm.perm pmSw).freeze;exact⟨I3,[],⟨rfl,ra,rp,rx,r,hall,rfl,hrow3,hits.le hle3⟩,hm3.left (H:= [])⟩
end Go.Proofs
