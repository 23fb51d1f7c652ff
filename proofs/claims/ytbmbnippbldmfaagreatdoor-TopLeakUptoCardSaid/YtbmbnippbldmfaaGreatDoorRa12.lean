/- Own work. -/
import Derived.Test.YtbmbnippbldmfaaGreatDoorRa11
import Derived.Lib.AtoiAll
set_option maxHeartbeats 64000000
namespace Go.Sp
theorem D8S (n:Nat) (hn:n<256) (q:Nat) (hq:q<8):(n:Int).fdiv (2 ^ q)=((n / 2 ^ q:Nat):Int)/\(n / 2 ^ q) &&& 1=(bit n q).toNat/\(n|||2 ^ q)=(if bit n q=true then n else n+2 ^ q)/\(n|||2 ^ q)<256:=by
 revert hq;revert q;revert hn;revert n;decide+kernel
theorem D8N (q:Nat) (hq:q<8):(1:Int) *2 ^ q=((2 ^ q:Nat):Int)/\2 ^ q<256:=by
 revert hq;revert q;decide+kernel
def A7t (n:Nat) (c:UInt8):Nat:=if n<=1000000000 then 10 *n+(c.toNat-48) else n
theorem C8l (t:List UInt8):A4M t=t.foldl A7t 0:=rfl
theorem C2i:∀(r:List UInt8) (a:Nat),a<=r.foldl A7t a
 | [],a=>H7 _
 |c::r,a=>by
  rw[A07];have:=C2i r (A7t a c);have:a<=A7t a c:=by rw[A7t];split<;>omega
  omega
theorem B9c:∀(r:List UInt8) (a:Nat),1000000000<a->r.foldl A7t a=a
 | [],a,_=>rfl
 |c::r,a,h=>by rw[A07,A7t,if_neg (by omega)];exact B9c r a h
theorem B8v:∀(r:List UInt8) (a:Nat),(∀c∈r,48<=c.toNat/\c.toNat<=57)->r.foldl A7t a<=1000000000->Lib.parseUint10 a r=.ok (r.foldl A7t a)
 | [],a,_,_=>rfl
 |c::r,a,hd,h=>by
  rw[A07]at h |-;have hc:=hd c O4;have ha:a<=1000000000:=by
   have:=C2i r (A7t a c);have:a<=A7t a c:=by rw[A7t];split<;>omega
   omega
  have e:A7t a c=a *10+(c.toNat-48):=by rw[A7t,if_pos ha];omega
  rw[Lib.parseUint10,if_pos hc,if_neg (by omega),if_neg (by omega), <-e];exact B8v r _ (fun c hc=>hd c (Z4 _ hc)) h
theorem C4c:∀(r:List UInt8) (a:Nat),(∀c∈r,48<=c.toNat/\c.toNat<=57)->1000000000<r.foldl A7t a->Lib.parseUint10 a r=.range\/∃u,1000000000<u/\Lib.parseUint10 a r=.ok u
 | [],a,_,h=> .inr ⟨a,h,rfl⟩
 |c::r,a,hd,h=>by
  rw[A07]at h;have hc:=hd c O4;rw[Lib.parseUint10,if_pos hc];split
  ·exact .inl rfl
  ·split
   ·exact .inl rfl
   ·refine C4c r _ (fun c hc=>hd c (Z4 _ hc)) ?_
    by_cases ha:a<=1000000000
    ·have e:A7t a c=a *10+(c.toNat-48):=by rw[A7t,if_pos ha];omega
     rw[<-e];exact h
    ·rw[B9c r _ (by omega)];omega
theorem C12 (t:List UInt8) (hn:1<=t.length) (hd:∀c∈t,48<=c.toNat/\c.toNat<=57):
  (A4M t<=1000000000->Lib.atoiAll t=.ok (A4M t:Int))/\(1000000000<A4M t->Lib.atoiAll t=.range\/∃v:Int,1000000000<v/\Lib.atoiAll t=.ok v):=by
 rw[C8l];cases t with
 |nil=>simp at hn
 |cons c r=>
  have hc:=hd c O4;have hp:Lib.parseMag (if c.toNat=43\/c.toNat=45 then r else c::r)=Lib.parseUint10 0 (c::r):=by
   rw[if_neg (by omega),Lib.parseMag,if_neg (by simp)]
  have hneg:¬c.toNat=45:=by omega
  constructor
  ·intro h
   have h1:=B8v (c::r) 0 hd h;simp only[Lib.atoiAll];rw[hp,h1];generalize (c::r).foldl A7t 0=d at h |-;simp only[hneg];simp
   omega
  ·intro h
   simp only[Lib.atoiAll];rw[hp];rcases C4c (c::r) 0 hd h with h1|⟨u,hu,h1⟩
   ·rw[h1];exact .inl rfl
   ·rw[h1]
    simp only[hneg];by_cases h2:9223372036854775808<=u
    ·exact .inl (by simp[h2])
    ·exact .inr ⟨(u:Int),by omega,by simp[h2]⟩
end Go.Sp
namespace Go.Sp
open Go.Lib (itoa)
def okW (w:List UInt8):Prop:=w≠wFn/\w≠B6a
def A4K (K:List KT):Prop:= ∀p∈K,okW p.2
theorem C0Z (c:UInt8):okW [c]:=by constructor<;>(intro h;cases h)
theorem A7g {nm:List UInt8} (h:name nm=true):okW nm:=⟨(B0X h).2.2.2.2.2.2.2.1,(B0X h).2.2.2.2.2.2.2.2.1⟩
theorem D1D (n:Nat):okW (itoa (n:Int)):=by
 obtain⟨c,w,h1,h2⟩:=C7f n;rw[h1];constructor<;>(intro e;injection e with e1 _;subst e1;revert h2;decide)
theorem A1Y {A B:List KT} (h:A4K A) (g:A4K B):A4K (A++B):=fun p hp=>(Y5.1 hp).elim (h p) (g p)
theorem A1N {k:Nat}{w:List UInt8}{A:List KT} (hw:okW w) (h:A4K A):A4K ((k,w)::A):=fun p hp=>by
 rcases W9.1 hp with rfl|hp
 ·exact hw
 ·exact h p hp
theorem A16:A4K []:=fun p hp=>by cases hp
theorem A12 {c:UInt8}{A:List KT} (h:A4K A):A4K (sg c::A):=A1N (C0Z c) h
theorem B66 {b:Bool}{A:List KT} (h:A4K A):A4K (A5D b A):=by
 cases b
 ·exact h
 ·exact A1Y (A1Y (A12 A16) h) (A12 A16)
theorem A9m:∀ {ws:List (List KT)},(∀w∈ws,A4K w)->A4K (A1z ws)
 | [],_=>A16
 | [w],h=>h w O4
 |w::_v::_ws,h=>A1Y (h w O4) (A12 (A9m (fun x hx=>h x (Z4 _ hx))))
mutual
theorem B40:∀(e:Ex) {d l:Nat},e.fitE d l->A4K (exK e)
 | .mk k nm n args f t,d,l,h=>by
  rw[Ex.fitE]at h;rw[exK];rcases h.2 with ⟨rfl,_,h1,rfl⟩|⟨rfl,h1,_,rfl⟩|⟨rfl,h1,_,h2,h3⟩|⟨rfl,h1,_,h2,h3⟩
  ·rw[if_pos rfl];exact A1N (D1D n) A16
  ·rw[if_neg (by decide),if_neg (by decide),if_pos rfl];exact A1N (A7g h1) A16
  ·rw[if_neg (by decide),if_neg (by decide),if_neg (by decide),if_pos rfl,A90 _ _ (C2s args).symm]
   exact A1Y (A1Y (A1N (A7g h1) (A12 A16)) (A9m (B64 args h3))) (A12 A16)
  ·obtain⟨c,_,rfl,_⟩:=A7K h1
   rw[if_neg (by decide),if_pos rfl];have h4:=B65 args h3
   match args,h2,h4 with
   | [a,b],_,h4=>
    rw[A3d,A3d,A3d]at h4 |-;exact A1Y (A1Y (B66 (h4 _ O4)) (A1N (C0Z c) A16)) (B66 (h4 _ (Z4 _ O4)))
theorem B64:∀(l:List Ex) {d:Nat},A2f l d->∀w∈A3d l,A4K w
 | [],d,_=>by rw[A3d];intro w hw;cases hw
 |e::l,d,h=>by
  rw[A2f]at h;rw[A3d];intro w hw;rcases W9.1 hw with rfl|hw
  ·exact B40 e h.1
  ·exact B64 l h.2 w hw
theorem B65:∀(l:List Ex) {d n:Nat},A2Q l d n->∀w∈A3d l,A4K w
 | [],d,n,_=>by rw[A3d];intro w hw;cases hw
 |e::l,d,n,h=>by
  rw[A2Q]at h;rw[A3d];intro w hw;rcases W9.1 hw with rfl|hw
  ·exact B40 e h.1
  ·exact B65 l h.2 w hw
end
theorem B0w (n:Nat):A4K (A5k n):=fun p hp=>by
 obtain⟨c,_,rfl⟩:=Y7.1 hp;rw[chK];split<;>exact C0Z c
theorem D5L:okW C2X.2/\okW C2W.2/\okW C0M.2/\okW B0G.2/\okW C0N.2/\okW C7g.2/\okW A7P.2:=by
 refine⟨?_,?_,?_,?_,?_,?_,?_⟩<;>(constructor<;>(intro h;cases h))
mutual
theorem C4F:∀(x:Stm) {d:Nat},x.fitS d->A4K (B1c x)
 | .mk k nm a lb o e thn els f t,d,h=>by
  rw[Stm.fitS]at h;obtain⟨he,h⟩:=h;have hE:=B40 e he;have hS:A4K (exK e++ [sg 59]):=A1Y hE (A12 A16);obtain⟨w1,w2,w3,w4,w5,w6,w7⟩:=D5L;rw[B1c];rcases h with ⟨rfl,h1,_⟩|⟨rfl,h1,_⟩|⟨rfl,h1,_⟩|⟨rfl,_⟩|⟨rfl,_⟩|⟨hk,_,_,_,_,_,_,hT,hL⟩
  ·rw[if_pos rfl]
   refine A1N w1 (A1N (A7g h1) (A1Y ?_ (A12 hS)))
   split
   ·exact A16
   ·exact A12 (B0w lb)
  ·rw[if_neg (by decide),if_pos rfl];exact A1N (A7g h1) (A12 hS)
  ·rw[if_neg (by decide),if_neg (by decide),if_pos rfl];exact A1N w5 (A1N (A7g h1) hS)
  ·rw[if_neg (by decide),if_neg (by decide),if_neg (by decide),if_pos rfl];exact A1N w6 hS
  ·rw[if_neg (by decide),if_neg (by decide),if_neg (by decide),if_neg (by decide),if_pos rfl];exact hS
  ·have hk34:k=3\/k=4:=by rcases hk with hk|⟨hk,_⟩<;>omega
   rw[if_neg (by omega:¬k=1),if_neg (by omega:¬k=2),if_neg (by omega:¬k=5),if_neg (by omega:¬k=6),if_neg (by omega:¬k=7),if_pos hk34];have h1:okW (if k=4 then B0G else C2W).2:=by split;exact w4;exact w2
   refine A1N (k:=(if k=4 then B0G else C2W).1) h1 (A1Y (A1Y hE (A12 (A1Y (A9n thn hT) (A12 A16)))) ?_)
   split
   ·exact A1N w3 (A12 (A1Y (A9n els hL) (A12 A16)))
   ·exact A16
theorem A9n:∀(l:List Stm) {d:Nat},A0J l d->A4K (A2l l)
 | [],d,_=>by rw[A2l];exact A16
 |x::l,d,h=>by
  rw[A0J]at h;rw[A2l];exact A1Y (C4F x h.1) (A9n l h.2)
end
theorem B5I {it:Itm} (h:it.fitI):∃kw r,A7u it=kw::r/\kw.1=1/\(kw.2=wFn\/kw.2=B6a)/\A4K r:=by
 obtain⟨w1,w2,w3,w4,w5,w6,w7⟩:=D5L;rw[A7u];rcases h.kind with h2|⟨h1,_⟩
 ·rw[if_neg (by omega),if_pos h2]
  refine⟨_,_,rfl,rfl,.inl rfl,A1N (A7g h.named) (A12 (A1Y ?_ (A12 (A12 (A1Y (B0w _) (A1Y ?_ (A12 (A1Y (A9n _ h.body.2) (A12 A16)))))))))⟩
  ·rw[A90 _ _ (by rw[A4B,P7])]
   refine A9m (fun w hw=>?_)
   obtain⟨p,hp,rfl⟩:=Y7.1 hw;exact A1N (A7g (h.params.2 p hp).1) (A12 (B0w _))
  ·rw[B5w _ _ (H7 _)]
   split
   ·exact A16
   ·refine A1N w7 (A9m (fun w hw=>?_))
    have hw:=A7D hw;obtain⟨p,hp,rfl⟩:=Y7.1 hw;exact A1N (A7g (h.sends.2 p hp)) A16
 ·rw[if_pos h1]
  exact⟨_,_,rfl,rfl,.inr rfl,A1N (A7g h.named) (A12 (A1Y (B0w _) (A12 A16)))⟩
theorem B2Z (s:List UInt8):Q5 s=tk s 0:=rfl
theorem D69 {it:Itm} (h:it.fitI):∃t ts,Q5 (A8l it)=t::ts/\t.pos=0/\t.kind=1/\(t.text=wFn\/t.text=B6a)/\∀x∈ts,okW x.text:=by
 have hx:=C72 h;obtain⟨kw,r,h1,h2,h3,h4⟩:=B5I h;rw[h1,tx, <-B2Z]at hx;have hne:A8l it≠ []:=by
  intro e;rw[e]at hx;cases hx
 have hst:=A58 (A8l it) 0 hne;cases ht:Q5 (A8l it) with
 |nil=>rw[ht]at hx;cases hx
 |cons t ts=>
  rw[ht,U4]at hx;injection hx with e1 e2
  refine⟨t,ts,rfl,?_,by rw[<-h2, <-e1];rfl,by rw[<-e1]at h3;exact h3,fun x hx=>?_⟩
  ·rw[<-B2Z,ht]at hst
   have ho:(one (A8l it)).1>0:=by
    rw[A8l];split<;>exact(by show (one (_::_)).1>0;simp[one,A0I,A0n])
   rw[if_pos ho]at hst;injection hst with e3 _
   rw[e3]
  ·have:=h4 (kt x) (by rw[<-e2];exact A4r hx)
   exact this
theorem D06 {it:Itm} (h:it.fitI):(A4Z it).length=(A8l it).length+1:=by rw[B6w h,D9,A0X]
theorem D7a {it:Itm} (h:it.fitI):(Q5 (A4Z it)).map kt=A7u it:=by
 have:=A9C (A8l it) [];rw[J4]at this;rw[B6w h,this, <-C72 h];show ((Q5 (A8l it))++ []).map kt=_
 rw[J4];rfl
theorem B0A (it:Itm) (l:List Itm):A0F (it::l)=A4Z it++A0F l:=by rw[A0F,A0c];rfl
theorem C9D {it:Itm} (h:it.fitI) (l:List Itm):Q5 (A0F (it::l))=Q5 (A8l it)++(Q5 (A0F l)).map (shift (A4Z it).length):=by
 rw[B0A,D06 h,B6w h];exact A9C (A8l it) (A0F l)
def B1b:Nat->List Itm->List Nat
 |_,[]=> []
 |p,it::l=>p::B1b (p+(A4Z it).length) l
theorem B51 (a b:Nat) (l:List Tok):(l.map (shift a)).map (shift b)=l.map (shift (b+a)):=by
 rw[A3s];refine List.map_congr_left fun t _=>?_
 simp only[Function.comp,shift];rw[show t.pos+a+b=t.pos+(b+a) by omega]
theorem C2d:∀(l:List Itm),(∀it∈l,it.fitI)->∀(P S:List UInt8) (acc:List Nat),S=P++A0F l->(P= []\/∃Q,P=Q++ [10])->((Q5 (A0F l)).map (shift P.length)).foldl (A1V S) acc=acc++B1b P.length l
 | [],_,P,S,acc,_,_=>by rw[B1b,J4];rfl
 |it::l,h,P,S,acc,hS,hP=>by
  have hi:=h it O4;obtain⟨t,ts,e1,e2,e3,e4,e5⟩:=D69 hi;rw[C9D hi l,V5,B51,A5c,e1,U4,A07];have hb:A7x S (shift P.length t)=true:=by
   rw[A7x];simp only[shift,e2,e3,V9,decide_true,A3M,Q3,A1f,decide_eq_true_eq];refine⟨e4,?_⟩
   rcases hP with rfl|⟨Q,rfl⟩
   ·exact .inl rfl
   ·right
    rw[hS,D9,A0X,Nat.add_sub_cancel,N9,J5,A2B (H7 _),A4d]
    rfl
  have h1:A1V S acc (shift P.length t)=acc++ [P.length]:=by
   rw[A1V,if_pos (.inl hb)];simp only[shift,e2,V9]
  rw[h1];have h2:∀(us:List Tok) (a:List Nat),a≠ []->(∀x∈us,okW x.text)->(us.map (shift P.length)).foldl (A1V S) a=a:=by
   intro us;induction us with
   |nil=>intro a _ _;rfl
   |cons u us ih=>
    intro a ha hu;obtain⟨o1,o2⟩:=hu u O4;rw[U4,A07,A1V,if_neg (by
     rintro(hb|hb)
     ·rw[A7x]at hb
      rw[show (shift P.length u).text=u.text from rfl,decide_eq_false o1,decide_eq_false o2,Bool.or_self,Bool.and_false,A5I]at hb;cases hb
     ·exact ha hb)]
    exact ih a ha (fun x hx=>hu x (Z4 _ hx))
  rw[h2 ts _ (by simp) e5];have ih:=C2d l (fun x hx=>h x (Z4 _ hx)) (P++A4Z it) S (acc++ [P.length]) (by rw[hS,B0A,J5]) (.inr ⟨P++A8l it,by rw[B6w hi,J5]⟩);rw[D9]at ih;rw[ih,B1b,J5]
  rfl
theorem B2t {l:List Itm} (h:∀it∈l,it.fitI):A0l (A0F l)=B1b 0 l:=by
 have:=C2d l h [] (A0F l) [] rfl (.inl rfl);rw[L9]at this;have h0:(Q5 (A0F l)).map (shift ([]:List UInt8).length)=Q5 (A0F l):=by
  conv=>rhs;rw[<-List.map_id (Q5 (A0F l))]
  exact List.map_congr_left fun t _=>rfl
 rw[h0]at this;exact this
theorem B3P:∀(l:List Itm) (p:Nat),(B1b p l).length=l.length
 | [],_=>rfl
 |it::l,p=>by rw[B1b,E9,E9,B3P l]
theorem B3O:∀(l:List Itm) (p i d:Nat),i<l.length->(B1b p l).getD i d=p+(A0F (l.take i)).length
 | [],_,_,_,h=>by cases h
 |it::l,p,0,d,_=>rfl
 |it::l,p,i+1,d,h=>by
  rw[E9]at h;rw[B1b,List.getD_cons_succ,B3O l _ i d (by omega),A09,B0A,D9];omega
theorem C2y {l:List Itm}{i:Nat}{it:Itm} (h:l[i]?=some it):A0F l=A0F (l.take i)++(A4Z it++A0F (l.drop (i+1))):=by
 obtain⟨hi,hg⟩:=A0D.1 h;have e:l=l.take i++it::l.drop (i+1):=by
  rw[<-hg, <-A3Q hi,A23]
 conv=>lhs;rw[e]
 rw[A0F,X0, <-A0F, <-A0F,B0A]
theorem C5T {l:List Itm} (h:∀it∈l,it.fitI) {i:Nat}{it:Itm} (hg:l[i]?=some it):A1v (A0F l) (A0l (A0F l)) i=A4Z it:=by
 have hi:=(A0D.1 hg).1;have h1:(A0l (A0F l)).getD i 0=(A0F (l.take i)).length:=by rw[B2t h,B3O l 0 i 0 hi,V9]
 have h2:(A0l (A0F l)).getD (i+1) (A0F l).length=(A0F (l.take i)).length+(A4Z it).length:=by
  have ht:(A0F (l.take (i+1))).length=(A0F (l.take i)).length+(A4Z it).length:=by
   rw[A2N,hg];show (A0F (l.take i++ [it])).length=_
   rw[A0F,X0,D9, <-A0F];simp
  rcases U9 (i+1) l.length with h3|h3
  ·rw[B2t h,B3O l 0 (i+1) _ h3,V9,ht]
  ·rw[N9,A1n (by rw[B2t h,B3P];exact h3)]
   rw[A0W h3]at ht;exact ht
 rw[A1v,h1,h2,Nat.add_sub_cancel_left,C2y hg,List.drop_left',List.take_left']
 ·rfl
 ·rfl
theorem B7l {l:List Itm} (h:∀it∈l,it.fitI) (h30:l.length<=30):(Y1 (A0F l)=0\/Y1 (A0F l)=4)/\(Y1 (A0F l)=0->(G8 (A0F l)).map Itm.pl=l.map Itm.pl/\∀x∈G8 (A0F l),x.diags= []):=by
 have hc:(A0l (A0F l)).length=l.length:=by rw[B2t h,B3P]
 refine⟨?_,fun h0=>?_⟩
 ·rw[Y1]
  split
  ·exact .inr rfl
  ·rw[if_neg (by omega)];exact .inl rfl
 ·rw[G8,if_pos h0]
  have key:∀i it,l[i]?=some it->(A1d (A0F l) (A0l (A0F l)) i).pl=it.pl/\(A1d (A0F l) (A0l (A0F l)) i).diags= []:=fun i it hg=>by
   have hit:=h it (A03 hg);rw[A1d,C5T h hg];have:=B9R hit (D7a hit) ((A0l (A0F l)).getD i 0);exact⟨this.1,this.2.1⟩
  constructor
  ·rw[A3Z,hc]
   apply A3B
   intro i;rw[Y6,Y6,Y6];rcases U9 i l.length with hi|hi
   ·rw[List.getElem?_range hi,F9 hi]
    simp only[A1g];rw[(key i _ (F9 hi)).1]
   ·rw[A1n (by rw[List.length_range];exact hi),A1n hi];rfl
  ·intro x hx
   rw[A3Z,hc]at hx;obtain⟨i,hi,rfl⟩:=Y7.1 hx;exact(key i _ (F9 (A1P.1 hi))).2
end Go.Sp
namespace Go.Sp
theorem A93 (s:List UInt8) (hb:∀it∈G8 s,it.diags= []):∀it∈G8 s,it.fitI:=fun it hit=>by
 have hd:=hb it hit;rw[G8]at hit;split at hit
 ·rw[A3Z,Y7]at hit
  obtain⟨j,_,rfl⟩:=hit;exact B49 _ _ hd
 ·cases hit
def wrT:List UInt8:= [102,110,32,102,32,40,32,120,32,58,32,123,125,32,41,32,58,32,123,32,98,44,97,32,125,32,123,32,105,102,32,40,120,61,49,41,42,50,123,32,114,101,116,117,114,110,40,120,45,40,49,45,120,41,41,59,32,125,32,125]
def wrU:List UInt8:= [102,110,32,102,40,120,58,32,123,125,41,58,32,123,97,44,98,125,32,123,10,32,32,105,102,32,40,120,32,61,32,49,41,32,42,32,50,32,123,10,32,32,32,32,114,101,116,117,114,110,32,120,32,45,32,40,49,32,45,32,120,41,59,10,32,32,125,10,125,10]
theorem D5v:Y1 wrT=0:=by decide+kernel
theorem C4l:∀it∈G8 wrT,it.diags= []:=by
 have h:(G8 wrT).all (fun it=>it.diags.isEmpty)=true:=by decide+kernel
 intro it hit;have:=A2O.1 h it hit;simpa using this
theorem D5w:(G8 wrT).length=1:=by decide+kernel
theorem D8p:A0F (G8 wrT)=wrU:=by decide+kernel
def B73 (s:List UInt8):List (List UInt8):=(List.range (A0l s).length).map (A1v s (A0l s))
def D3u (s t:List UInt8) (j:Nat):Bool:= !(B73 s).contains (A1v t (A0l t) j)
def fresh (s t:List UInt8) (k:Nat):Nat:=(List.range k).countP (D3u s t)
theorem B3x (s:List UInt8):∀it∈G8 s,it.small:=by
 intro it hi;by_cases h0:Y1 s=0
 ·obtain⟨k,hk,rfl⟩:=A2r hi
  exact(C65 s h0 (F9 hk)).small
 ·rw[G8,if_neg h0]at hi
  simp at hi
structure Qn where
 id:Int
 kind:Int
 fr:Int
 to:Int
 text:List UInt8
 args:List Int
def A65 (sc:List Lc) (n:List UInt8):Nat:=match A1u sc n with
 |some l=>l.at_
 |none=>0
def A7d (its:List Itm) (n:Nat) (x:Rf):Nat:=match A0M its 1 x.name with
 |some j=>n &&& (X7 its j).label
 |none=>n
def A43 (its:List Itm) (l:List Rf):Nat:=l.foldl (A7d its) 255
def A7b (its:List Itm):List Nat:=its.map (fun it=>A43 its it.sends)
structure FW where
 ds:List Dg
 hv:Option Nat
def FW.tell (s:FW) (f t:Nat) (n:List UInt8):FW:= { s with ds:=s.ds++ [⟨f,t,9,n⟩]}
def FW.hit (s:FW) (at_:Int) (f t n:Nat):FW:=if s.hv=none/\(f:Int)<=at_/\at_<t then { s with hv:=some n} else s
def FW.ask (s:FW) (a b f t:Nat) (n:List UInt8):FW:=if A1i a b=true then s else s.tell f t n
def A21 (its:List Itm) (n:List UInt8):Nat:=match A0M its 2 n with
 |some j=>(X7 its j).label
 |none=>0
def A3c (its:List Itm) (un:Nat) (n:List UInt8) (f t:Nat) (s:FW):FW:=match A0M its 2 n with
 |some j=>s.ask un (A43 its (X7 its j).sends) f t n
 |none=>s
def A6f (its:List Itm) (n:List UInt8) (i a f t:Nat) (s:FW):FW:=match A0M its 2 n with
 |some j=>match (X7 its j).params[i]? with
  |some p=>s.ask a p.label f t p.name
  |none=>s
 |none=>s
mutual
def exF (its:List Itm) (at_:Int) (sc:List Lc) (un:Nat):Ex->FW->Nat×FW
 | .mk k nm _ args f t,s=>
  if k=2 then (A65 sc nm,s.hit at_ f t (A65 sc nm|||un)) else
  if k=3 then ((A3J its at_ sc un args 0 s).1,(A3J its at_ sc un args 0 s).2.hit at_ f t ((A3J its at_ sc un args 0 s).1|||un)) else
  if k=4 then (A21 its nm,(A3c its un nm f t (A2Z its at_ sc un nm args 0 s)).hit at_ f t (A21 its nm|||un)) else
  (0,s.hit at_ f t (0|||un))
def A3J (its:List Itm) (at_:Int) (sc:List Lc) (un:Nat):List Ex->Nat->FW->Nat×FW
 | [],n,s=>(n,s)
 |e::es,n,s=>A3J its at_ sc un es (n|||(exF its at_ sc un e s).1) (exF its at_ sc un e s).2
def A2Z (its:List Itm) (at_:Int) (sc:List Lc) (un:Nat) (nm:List UInt8):List Ex->Nat->FW->FW
 | [],_,s=>s
 |e::es,i,s=>A2Z its at_ sc un nm es (i+1) (A6f its nm i ((exF its at_ sc un e s).1|||un) e.fr e.to (exF its at_ sc un e s).2)
 end
mutual
def A1e (its:List Itm) (sc:List Lc):Ex->Nat
 | .mk k nm _ args _ _=>if k=2 then A65 sc nm else if k=3 then A0Y its sc args 0 else if k=4 then A21 its nm else 0
def A0Y (its:List Itm) (sc:List Lc):List Ex->Nat->Nat
 | [],n=>n
 |e::es,n=>A0Y its sc es (n|||A1e its sc e)
 end
def unF (its:List Itm) (sc:List Lc) (k un:Nat) (e:Ex):Nat:=if k=4 then A1e its sc e|||un else un
def A8I (its:List Itm) (a:Nat) (n:List UInt8) (f t:Nat) (s:FW):FW:=match A0M its 1 n with
 |some j=>s.ask a (X7 its j).label f t n
 |none=>s
mutual
def A6l (its:List Itm) (own:Nat) (at_:Int):Stm->List Lc->Nat->FW->List Lc×FW
 | .mk k nm _ lb o e thn els f t,sc,un,s=>
  let un1:=unF its sc k un e
  let r:=exF its at_ sc un1 e s
  let a:=r.1|||un1
  if k=1 then (sc++ [⟨nm,if o=true then a else lb⟩],r.2.ask a (if o=true then a else lb) f t nm) else
  if k=2 then (sc,r.2.ask a (A65 sc nm) f t nm) else
  if k=5 then (sc,A8I its a nm f t r.2) else
  if k=6 then (sc,r.2.ask a own f t nm) else
  if k=3\/k=4 then (sc,(A1C its own at_ els sc a (A1C its own at_ thn sc a r.2).2).2) else (sc,r.2)
def A1C (its:List Itm) (own:Nat) (at_:Int):List Stm->List Lc->Nat->FW->List Lc×FW
 | [],sc,_,s=>(sc,s)
 |x::xs,sc,un,s=>A1C its own at_ xs (A6l its own at_ x sc un s).1 un (A6l its own at_ x sc un s).2
 end
def FW0:FW:=⟨[],none⟩
def A44 (l:List Par):List Lc:=l.map (fun p=>⟨p.name,p.label⟩)
def A2J (its:List Itm) (i:Nat) (at_:Int):FW:=
 if (X7 its i).kind=2 then (A1C its (X7 its i).label at_ (X7 its i).body (A44 (X7 its i).params) 0 FW0).2 else FW0
def A8k (its:List Itm):Prop:= ∀i,i<its.length->(A2J its i (-1)).ds= []
theorem C3q (its:List Itm) (at_:Int) (sc:List Lc) (un:Nat):∀(l r:List Ex) (n:Nat) (s:FW),A3J its at_ sc un (l++r) n s=A3J its at_ sc un r (A3J its at_ sc un l n s).1 (A3J its at_ sc un l n s).2
 | [],r,n,s=>by rw[L9,A3J]
 |e::l,r,n,s=>by rw[Q8,A3J,A3J,C3q its at_ sc un l r]
theorem C9c (its:List Itm) (at_:Int) (sc:List Lc) (un:Nat) {l:List Ex}{k:Nat}{e:Ex} (h:l[k]?=some e) (n:Nat) (s:FW):
  A3J its at_ sc un (l.take (k+1)) n s=((A3J its at_ sc un (l.take k) n s).1|||(exF its at_ sc un e (A3J its at_ sc un (l.take k) n s).2).1,(exF its at_ sc un e (A3J its at_ sc un (l.take k) n s).2).2):=by
 rw[U2 h,C3q,A3J,A3J]
theorem B8Y (its:List Itm) (at_:Int) (sc:List Lc) (un:Nat) (nm:List UInt8):∀(l r:List Ex) (i:Nat) (s:FW),A2Z its at_ sc un nm (l++r) i s=A2Z its at_ sc un nm r (i+l.length) (A2Z its at_ sc un nm l i s)
 | [],r,i,s=>by rw[L9,A2Z];rfl
 |e::l,r,i,s=>by rw[Q8,A2Z,A2Z,B8Y its at_ sc un nm l r,E9,show i+1+l.length=i+(l.length+1) by omega]
theorem C4u (its:List Itm) (at_:Int) (sc:List Lc) (un:Nat) (nm:List UInt8) {l:List Ex}{k:Nat}{e:Ex} (h:l[k]?=some e) (s:FW):
  A2Z its at_ sc un nm (l.take (k+1)) 0 s=A6f its nm k ((exF its at_ sc un e (A2Z its at_ sc un nm (l.take k) 0 s)).1|||un) e.fr e.to (exF its at_ sc un e (A2Z its at_ sc un nm (l.take k) 0 s)).2:=by
 have hk:=(A0D.1 h).1;rw[U2 h,B8Y,A2Z,A2Z,P9,A1O (by omega),V9]
theorem B5Y (its:List Itm) (sc:List Lc):∀(l r:List Ex) (n:Nat),A0Y its sc (l++r) n=A0Y its sc r (A0Y its sc l n)
 | [],r,n=>by rw[L9,A0Y]
 |e::l,r,n=>by rw[Q8,A0Y,A0Y,B5Y its sc l r]
theorem B4q (its:List Itm) (sc:List Lc) {l:List Ex}{k:Nat}{e:Ex} (h:l[k]?=some e) (n:Nat):A0Y its sc (l.take (k+1)) n=A0Y its sc (l.take k) n|||A1e its sc e:=by
 rw[U2 h,B5Y,A0Y,A0Y]
theorem B92 (its:List Itm) (own:Nat) (at_:Int):∀(l r:List Stm) (sc:List Lc) (un:Nat) (s:FW),A1C its own at_ (l++r) sc un s=A1C its own at_ r (A1C its own at_ l sc un s).1 un (A1C its own at_ l sc un s).2
 | [],r,sc,un,s=>by rw[L9,A1C]
 |e::l,r,sc,un,s=>by rw[Q8,A1C,A1C,B92 its own at_ l r]
theorem C6c (its:List Itm) (own:Nat) (at_:Int) {l:List Stm}{k:Nat}{x:Stm} (h:l[k]?=some x) (sc:List Lc) (un:Nat) (s:FW):
  A1C its own at_ (l.take (k+1)) sc un s=A6l its own at_ x (A1C its own at_ (l.take k) sc un s).1 un (A1C its own at_ (l.take k) sc un s).2:=by
 rw[U2 h,B92,A1C,A1C]
theorem A6g (s:FW) (at_:Int) (f t n:Nat):(s.hit at_ f t n).ds=s.ds:=by rw[FW.hit];split<;>rfl
theorem B82 (s:FW) (a b f t:Nat) (n:List UInt8):s.ds.length<=(s.ask a b f t n).ds.length/\(s.ask a b f t n).ds.length<=s.ds.length+1:=by
 rw[FW.ask];split
 ·omega
 ·simp[FW.tell]
theorem C4w (its:List Itm) (un:Nat) (n:List UInt8) (f t:Nat) (s:FW):s.ds.length<=(A3c its un n f t s).ds.length/\(A3c its un n f t s).ds.length<=s.ds.length+1:=by
 rw[A3c];split
 ·exact B82 _ _ _ _ _ _
 ·omega
theorem D3x (its:List Itm) (a:Nat) (n:List UInt8) (f t:Nat) (s:FW):s.ds.length<=(A8I its a n f t s).ds.length/\(A8I its a n f t s).ds.length<=s.ds.length+1:=by
 rw[A8I];split
 ·exact B82 _ _ _ _ _ _
 ·omega
theorem C92 (its:List Itm) (n:List UInt8) (i a f t:Nat) (s:FW):s.ds.length<=(A6f its n i a f t s).ds.length/\(A6f its n i a f t s).ds.length<=s.ds.length+1:=by
 rw[A6f];split
 ·split
  ·exact B82 _ _ _ _ _ _
  ·omega
 ·omega
mutual
theorem B9e (its:List Itm) (at_:Int) (sc:List Lc) (un:Nat):∀(e:Ex) (s:FW),s.ds.length<=(exF its at_ sc un e s).2.ds.length/\(exF its at_ sc un e s).2.ds.length+1<=s.ds.length+2 *e.cnt
 | .mk k nm n args f t,s=>by
  rw[exF,Ex.cnt];have h1:=C5K its at_ sc un args 0 s;have h2:=B6p its at_ sc un nm args 0 s;have h3:=C4w its un nm f t (A2Z its at_ sc un nm args 0 s);split
  ·dsimp only;rw[A6g];omega
  ·split
   ·dsimp only;rw[A6g];omega
   ·split
    ·dsimp only;rw[A6g];omega
    ·dsimp only;rw[A6g];omega
theorem C5K (its:List Itm) (at_:Int) (sc:List Lc) (un:Nat):∀(l:List Ex) (n:Nat) (s:FW),s.ds.length<=(A3J its at_ sc un l n s).2.ds.length/\(A3J its at_ sc un l n s).2.ds.length<=s.ds.length+2 *A1X l
 | [],n,s=>by rw[A3J,A1X];exact⟨by dsimp only;omega,by dsimp only;omega⟩
 |e::l,n,s=>by
  rw[A3J,A1X];have h1:=B9e its at_ sc un e s;have h2:=C5K its at_ sc un l (n|||(exF its at_ sc un e s).1) (exF its at_ sc un e s).2;omega
theorem B6p (its:List Itm) (at_:Int) (sc:List Lc) (un:Nat) (nm:List UInt8):∀(l:List Ex) (i:Nat) (s:FW),s.ds.length<=(A2Z its at_ sc un nm l i s).ds.length/\(A2Z its at_ sc un nm l i s).ds.length<=s.ds.length+2 *A1X l
 | [],i,s=>by rw[A2Z,A1X];omega
 |e::l,i,s=>by
  rw[A2Z,A1X];have h1:=B9e its at_ sc un e s;have h3:=C92 its nm i ((exF its at_ sc un e s).1|||un) e.fr e.to (exF its at_ sc un e s).2;have h2:=B6p its at_ sc un nm l (i+1) (A6f its nm i ((exF its at_ sc un e s).1|||un) e.fr e.to (exF its at_ sc un e s).2);omega
 end
mutual
theorem D62 (its:List Itm) (own:Nat) (at_:Int):∀(x:Stm) (sc:List Lc) (un:Nat) (s:FW),s.ds.length<=(A6l its own at_ x sc un s).2.ds.length/\(A6l its own at_ x sc un s).2.ds.length<=s.ds.length+2 *x.cnt/\
   sc.length<=(A6l its own at_ x sc un s).1.length/\(A6l its own at_ x sc un s).1.length<=sc.length+1
 | .mk k nm a lb o e thn els f t,sc,un,s=>by
  rw[A6l,Stm.cnt];try dsimp only
  generalize unF its sc k un e=un1;have h1:=B9e its at_ sc un1 e s;generalize exF its at_ sc un1 e s=r at h1 |-;have h2:=B82 r.2 (r.1|||un1) (if o=true then r.1|||un1 else lb) f t nm;have h3:=B82 r.2 (r.1|||un1) (A65 sc nm) f t nm;have h4:=B82 r.2 (r.1|||un1) own f t nm;have h5:=D3x its (r.1|||un1) nm f t r.2;have h6:=B1e its own at_ thn sc (r.1|||un1) r.2;have h7:=B1e its own at_ els sc (r.1|||un1) (A1C its own at_ thn sc (r.1|||un1) r.2).2;split
  ·dsimp only;rw[D9,A0X];omega
  ·split
   ·dsimp only;omega
   ·split
    ·dsimp only;omega
    ·split
     ·dsimp only;omega
     ·split
      ·dsimp only;omega
      ·dsimp only;omega
theorem B1e (its:List Itm) (own:Nat) (at_:Int):∀(l:List Stm) (sc:List Lc) (un:Nat) (s:FW),s.ds.length<=(A1C its own at_ l sc un s).2.ds.length/\(A1C its own at_ l sc un s).2.ds.length<=s.ds.length+2 *U1 l/\
   sc.length<=(A1C its own at_ l sc un s).1.length/\(A1C its own at_ l sc un s).1.length<=sc.length+l.length
 | [],sc,un,s=>by rw[A1C,U1];exact⟨by dsimp only;omega,by dsimp only;omega,by dsimp only;omega,by dsimp only;simp⟩
 |x::l,sc,un,s=>by
  rw[A1C,U1,E9];have h1:=D62 its own at_ x sc un s;have h2:=B1e its own at_ l (A6l its own at_ x sc un s).1 un (A6l its own at_ x sc un s).2;omega
 end
theorem D2A (its:List Itm) (own:Nat) (at_:Int) (x:Stm) (sc:List Lc) (un:Nat) (s:FW):sc<+:(A6l its own at_ x sc un s).1:=by
 cases x with
 |mk k nm a lb o e thn els f t=>
 rw[A6l];try dsimp only
 split
 ·exact List.prefix_append _ _
 ·split
  ·exact A3r _
  ·split
   ·exact A3r _
   ·split
    ·exact A3r _
    ·split<;>exact A3r _
theorem B94 (its:List Itm) (own:Nat) (at_:Int):∀(l:List Stm) (sc:List Lc) (un:Nat) (s:FW),sc<+:(A1C its own at_ l sc un s).1
 | [],sc,un,s=>by rw[A1C];exact A3r _
 |x::l,sc,un,s=>by rw[A1C];exact(D2A its own at_ x sc un s).trans (B94 its own at_ l _ _ _)
theorem C6b (its:List Itm) (own:Nat) (at_:Int) (l:List Stm) (sc:List Lc) (un:Nat) (s:FW):(A1C its own at_ l sc un s).1.take sc.length=sc:=
 (List.prefix_iff_eq_take.1 (B94 its own at_ l sc un s)).symm
def A6Y (sc:List Lc):Prop:= ∀l∈sc,l.at_<256
def A3Y (its:List Itm):Prop:= ∀it∈its,it.label<256/\∀p∈it.params,p.label<256
theorem C0C {sc:List Lc} (h:A6Y sc) (n:List UInt8):A65 sc n<256:=by
 rw[A65];split
 ·rename_i l hl
  exact h l (A8Q hl).1
 ·omega
theorem A3O {its:List Itm}{k:Int}{n:List UInt8}{j:Nat} (h:A0M its k n=some j):j<its.length/\((X7 its j).kind:Int)=k/\(X7 its j).name=n/\n≠ []/\X7 its j∈its:=by
 obtain⟨h1,h2,_⟩:=A3k.1 h;have e:X7 its j=its[j]:=by rw[X7,N9,F9 h1];rfl
 rw[e];simp only[C0G,Q3,decide_eq_true_eq]at h2;exact⟨h1,h2.1,h2.2.1,h2.2.2,O1 h1⟩
theorem B60 {its:List Itm} (h:A3Y its) (n:List UInt8):A21 its n<256:=by
 rw[A21];split
 ·rename_i j hj
  exact(h _ (A3O hj).2.2.2.2).1
 ·omega
mutual
theorem B43 {its:List Itm} (h:A3Y its) (at_:Int) {sc:List Lc} (hs:A6Y sc) (un:Nat):∀(e:Ex) (s:FW),(exF its at_ sc un e s).1<256
 | .mk k nm n args f t,s=>by
  rw[exF];split
  ·exact C0C hs _
  ·split
   ·exact C03 h at_ hs un args 0 s (by omega)
   ·split
    ·exact B60 h _
    ·dsimp only;omega
theorem C03 {its:List Itm} (h:A3Y its) (at_:Int) {sc:List Lc} (hs:A6Y sc) (un:Nat):∀(l:List Ex) (n:Nat) (s:FW),n<256->(A3J its at_ sc un l n s).1<256
 | [],n,s,hn=>by rw[A3J];exact hn
 |e::l,n,s,hn=>by rw[A3J];exact C03 h at_ hs un l _ _ (B3h hn (B43 h at_ hs un e s))
 end
mutual
theorem A6X {its:List Itm} (h:A3Y its) {sc:List Lc} (hs:A6Y sc):∀(e:Ex),A1e its sc e<256
 | .mk k nm n args f t=>by
  rw[A1e];split
  ·exact C0C hs _
  ·split
   ·exact B00 h hs args 0 (by omega)
   ·split
    ·exact B60 h _
    ·omega
theorem B00 {its:List Itm} (h:A3Y its) {sc:List Lc} (hs:A6Y sc):∀(l:List Ex) (n:Nat),n<256->A0Y its sc l n<256
 | [],n,hn=>by rw[A0Y];exact hn
 |e::l,n,hn=>by rw[A0Y];exact B00 h hs l _ (B3h hn (A6X h hs e))
 end
theorem C3e (its:List Itm) (l:List Rf):A43 its l<256:=by
 have key:∀(l:List Rf) (n:Nat),n<256->l.foldl (A7d its) n<256:=by
  intro l;induction l with
  |nil=>intro n h;exact h
  |cons x l ih=>
   intro n h;rw[A07];refine ih _ ?_
   rw[A7d];split
   ·exact C91 h
   ·exact h
 exact key l 255 (by omega)
theorem D26 {its:List Itm} (h:A3Y its) {sc:List Lc} (hs:A6Y sc) (k:Nat) {un:Nat} (hu:un<256) (e:Ex):unF its sc k un e<256:=by
 rw[unF];split
 ·exact B3h (A6X h hs e) hu
 ·exact hu
theorem C54 {sc:List Lc} (h:A6Y sc) {n:List UInt8}{a:Nat} (ha:a<256):A6Y (sc++ [⟨n,a⟩]):=fun l hl=>by
 rcases Y5.1 hl with hl|hl
 ·exact h l hl
 ·obtain rfl:=A0q.1 hl
  exact ha
theorem D2z {its:List Itm} (h:A3Y its) (own:Nat) (at_:Int) (x:Stm) {sc:List Lc} (hs:A6Y sc) {un:Nat} (hu:un<256) (hx:x.label<256) (s:FW):A6Y (A6l its own at_ x sc un s).1:=by
 cases x with
 |mk k nm a lb o e thn els f t=>
 rw[A6l];try dsimp only
 have h1:=D26 h hs k hu e;generalize unF its sc k un e=un1 at h1 |-;have h2:=B43 h at_ hs un1 e s;split
 ·refine C54 hs ?_
  split
  ·exact B3h h2 h1
  ·exact hx
 ·split
  ·exact hs
  ·split
   ·exact hs
   ·split
    ·exact hs
    ·split<;>exact hs
theorem C9e {its:List Itm} (h:A3Y its) {it:Itm} (hi:it∈its):A6Y (A44 it.params):=fun l hl=>by
 obtain⟨p,hp,rfl⟩:=Y7.1 hl;exact(h it hi).2 p hp
def w64 (n:Int):Int:=(n+9223372036854775808) % 18446744073709551616-9223372036854775808
structure Cl where
 name:List UInt8
 n:Int
structure Ev where
 ch:List UInt8
 n:Int
 deriving DecidableEq
structure MR where
 ev:List Ev
 steps:Nat
 err:Nat
def MR.go (m:MR):Bool:=decide (m.err=0) && decide (m.steps<3000)
def MR.step (m:MR):MR:=if m.err≠0 then m else if m.steps<3000 then { m with steps:=m.steps+1} else { m with err:=11}
def A9K:List Cl->List UInt8->Option Nat
 | [],_=>none
 |c::sc,n=>match A9K sc n with
  |some i=>some (i+1)
  |none=>if c.name=n then some 0 else none
def D6s (sc:List Cl) (n:List UInt8):Int:=match A9K sc n with
 |some i=>(sc.getD i ⟨[],0⟩).n
 |none=>0
def D2s (sc:List Cl) (n:List UInt8) (v:Int):List Cl:=match A9K sc n with
 |some i=>sc.set i ⟨(sc.getD i ⟨[],0⟩).name,v⟩
 |none=>sc
def opR (nm:List UInt8) (a b:Int):Int:=
 if nm= [43] then w64 (a+b) else if nm= [45] then w64 (a-b) else if nm= [42] then w64 (a *b) else
 if nm= [60] then (if a<b then 1 else 0) else if a=b then 1 else 0
abbrev A5w:=List UInt8->List Int->MR->Int×MR
mutual
def exR (C:A5w) (sc:List Cl):Ex->MR->Int×MR
 | .mk k nm n args _ _,m=>
  if m.go=false then (0,m.step) else
  if k=1 then ((n:Int),m.step) else
  if k=2 then (D6s sc nm,m.step) else
  if k=3 then (opR nm ((A3X C sc args m.step).1.getD 0 0) ((A3X C sc args m.step).1.getD 1 0),(A3X C sc args m.step).2) else
  C nm (A3X C sc args m.step).1 (A3X C sc args m.step).2
def A3X (C:A5w) (sc:List Cl):List Ex->MR->List Int×MR
 | [],m=>([],m)
 |e::es,m=>((exR C sc e m).1::(A3X C sc es (exR C sc e m).2).1,(A3X C sc es (exR C sc e m).2).2)
 end
structure SR where
 sc:List Cl
 back:Int
 m:MR
def B1z (f:List Cl->MR->Int×MR) (b:SR->SR):Nat->SR->SR
 |0,s=>s
 |k+1,s=>
  if s.m.go=false then { s with m:=s.m.step} else
  if (f s.sc s.m.step).1≠0/\(f s.sc s.m.step).2.err=0 then B1z f b k (b { s with m:=(f s.sc s.m.step).2}) else { s with m:=(f s.sc s.m.step).2}
def A88 (n:Nat) (r:SR×Bool):SR:=if r.2=true then { r.1 with sc:=r.1.sc.take n} else r.1
mutual
def B6k (C:A5w):Stm->SR->SR
 | .mk k nm _ _ _ e thn els _ _,s=>
  if k=4 then B1z (fun sc m=>exR C sc e m) (fun s=>A88 s.sc.length (goR C thn s)) 3001 s else
  if s.m.go=false then { s with m:=s.m.step} else
  if (exR C s.sc e s.m.step).2.err≠0 then { s with m:=(exR C s.sc e s.m.step).2} else
  if k=1 then { s with sc:=s.sc++ [⟨nm,(exR C s.sc e s.m.step).1⟩],m:=(exR C s.sc e s.m.step).2} else
  if k=2 then { s with sc:=D2s s.sc nm (exR C s.sc e s.m.step).1,m:=(exR C s.sc e s.m.step).2} else
  if k=5 then { s with m:= { (exR C s.sc e s.m.step).2 with ev:=(exR C s.sc e s.m.step).2.ev++ [⟨nm,(exR C s.sc e s.m.step).1⟩]}} else
  if k=6 then { s with back:=(exR C s.sc e s.m.step).1,m:=(exR C s.sc e s.m.step).2} else
  if k=3 then
   if (exR C s.sc e s.m.step).1≠0 then A88 s.sc.length (goR C thn { s with m:=(exR C s.sc e s.m.step).2})
   else A88 s.sc.length (goR C els { s with m:=(exR C s.sc e s.m.step).2})
  else { s with m:=(exR C s.sc e s.m.step).2}
def goR (C:A5w):List Stm->SR->SR×Bool
 | [],s=>(s,true)
 |x::xs,s=>if s.m.err≠0 then (s,false) else goR C xs (B6k C x s)
 end
def A9h (C:A5w) (l:List Stm) (s:SR):SR:=A88 s.sc.length (goR C l s)
def A7i (l:List Par) (args:List Int):List Cl:=List.zipWith (fun p n=>⟨p.name,n⟩) l args
def A6a (its:List Itm):Nat->A5w
 |0,_,_,m=>(0,if m.err≠0 then m else { m with err:=12})
 |d+1,nm,args,m=>
  if m.err≠0 then (0,m) else
  match A0M its 2 nm with
  |none=>(0,m)
  |some j=>((A9h (A6a its d) (X7 its j).body ⟨A7i (X7 its j).params args,0,m⟩).back,(A9h (A6a its d) (X7 its j).body ⟨A7i (X7 its j).params args,0,m⟩).m)
structure Rn where
 ev:List Ev
 n:Int
 err:Nat
 steps:Nat
def MR0:MR:=⟨[],0,0⟩
end Go.Sp
namespace Go.Fw
open Go.Sp
open Go
section
variable {P:Program}{N:Nat}{ds:List Deferred}{Q:Exit->Act->World->Prop}{l:Log}{w:World}{ops:Array Oper}{os:List Oper}
variable {d:Nat}{ty:TypeId}{pos:String}{af:Array Edge}{g:Option (Nat×Bool)}{t t':TypeId}{x y:Operand}
theorem B4Q (n:Int):IntKind.i64.wrap n=Sp.w64 n:=by rw[IntKind.wrap_i64];rfl
end
end Go.Fw
namespace Go.Sp
structure MR.To (m m':MR):Prop where
 top:m'.steps<=3000
 up:m.steps<=m'.steps
 ev:m.steps+m'.ev.length<=m'.steps+m.ev.length
theorem MR.To.refl {m:MR} (h:m.steps<=3000):m.To m:=⟨h,H7 _,H7 _⟩
theorem MR.To.trans {a b c:MR} (h:a.To b) (g:b.To c):a.To c:=⟨g.top,A1A h.up g.up,by have:=h.ev;have:=g.ev;omega⟩
section
variable {C:A5w}
structure SR.To (c:Nat) (s s':SR):Prop where
 m:s.m.To s'.m
 lo:s.sc.length<=s'.sc.length
 hi:s'.sc.length<=s.sc.length+c
theorem SR.To.mono {c c':Nat}{s s':SR} (h:SR.To c s s') (hc:c<=c'):SR.To c' s s':=⟨h.m,h.lo,by have:=h.hi;omega⟩
theorem SR.To.same {s:SR}{m:MR} (h:s.m.To m) (c:Nat):SR.To c s { s with m:=m}:=⟨h,H7 _,by dsimp only;omega⟩
end
end Go.Sp
namespace Go.Proofs
open Go.Proofs.Tryz
open Go.Sp
open Go.Fw
structure QLab where
 f:Nat
 n:Nat
 s:Sp.St
 da:Option Addr
 dc:Nat
section
variable {I:P8}{pb deep lc dc:Nat}{la da:Option Addr}{T:Sp.Src}
theorem A4s (s:Sp.St) (t:List UInt8) (ht:t≠ []) (hr:A4H I T la lc) (hT:Ok T) (hd:s.ds.length<1099511627776) (hi:s.i<=T.l.length):
  CalM prog 106 #[ptr pb,str t] I (QSt pb la lc T s deep da dc) (ToQ pb la lc T deep I (s.need T t).2 (.bool (s.need T t).1)):=by
 refine CalM.of fun w E hm=>enter (N:=10) func106 rfl [(0,ptr pb),(1,str t)] A1x rfl ?_
 have he:=A2j (pb:=pb) (deep:=deep) (da:=da) (dc:=dc) s t ht hr hT hi;rw[Sp.St.need];by_cases hq:T.is s.i t=true
 ·rw[if_pos hq,hq]at he
  rw[if_pos hq];repeat' (first|refine F8 ?_ hm (hc:=he);clear hm;rintro _ _ _ _ ⟨rfl,rfl,da1,dc1,rfl⟩ hle hm;try simp only[G5]at hm|refine D8 ?_|refine D6 ?_|refine E5 ?_|refine A7 ?_|refine H8 ?_|refine E8 ?_|refine A8 ?_|refine J3 ?_|refine J7 ?_|refine H5 ?_)
  exact⟨I,_,⟨rfl,rfl,da1,dc1,rfl⟩,hm⟩
 ·rw[if_neg hq,show T.is s.i t=false by simpa using hq]at he
  rw[if_neg hq];repeat' (first|refine F8 ?_ hm (hc:=he);clear hm;rintro _ _ _ _ ⟨rfl,rfl,da1,dc1,rfl⟩ hle hm;try simp only[G5]at hm|refine F8 ?_ hm (hc:=A6i s 2 hr hT hi hd);clear hm;rintro _ _ _ _ ⟨rfl,rfl,da2,dc2,rfl⟩ hle hm;try simp only[G5]at hm|refine D8 ?_|refine D6 ?_|refine E5 ?_|refine A7 ?_|refine E8 ?_|refine A8 ?_|refine G7 ?_|refine J3 ?_|refine J7 ?_|refine F7 ?_)
  exact⟨I,_,⟨rfl,rfl,da2,dc2,rfl⟩,hm⟩
theorem B2b (s:Sp.St) (hr:A4H I T la lc) (hT:Ok T) (hd:s.ds.length<1099511627776) (hi:s.i<=T.l.length):
  CalM prog 105 #[ptr pb] I (QSt pb la lc T s deep da dc) (ToQ pb la lc T deep I (s.named T).2 (str (s.named T).1)):=by
 refine CalM.of fun w E hm=>enter (N:=55) func105 rfl [(0,ptr pb)] A0Z rfl ?_
 have h1:=hT.at_ s.i;have h2:=hT.size;have h3:=hT.len;rw[Sp.St.named];have hn:=B1O (T.tok s.i).text (by omega);by_cases hname:Sp.name (T.tok s.i).text=true
 ·rw[if_pos hname]
  rw[hname]at hn;have hlt:=A3E (A7e hname);repeat' (first|refine U8 ?_ hm (hc:=A33 s hr);clear hm;intro _ hm|refine A0r (hc:=by exact hn _) (k:=?_);rintro _ _ ⟨rfl,hk⟩;replace hm:=hm.kept0 hk|refine J6 ?_ hm|refine P5 hm (k:=?_);clear hm;intro _ hm;try simp only[G5]at hm|refine D8 ?_|refine D6 ?_|refine A0h ?_|refine F5 ?_|refine O9 ?_|refine D5 ?_|refine E5 ?_|refine A7 ?_|refine E8 ?_|refine A8 ?_|refine G7 ?_|refine J3 ?_|refine J7 ?_|refine F7 ?_)
  exact⟨I,_,⟨rfl,rfl,da,dc,rfl⟩,hm⟩
 ·have hname':Sp.name (T.tok s.i).text=false:=by simpa using hname
  rw[if_neg hname];rw[hname']at hn;by_cases hk:(T.tok s.i).kind=1
  ·rw[if_pos hk]
   have hlt:=B55 (T:=T) (i:=s.i) (by omega);have hbi:(s.bad T 7).i=s.i:=rfl;have htk:=A59 hlt;repeat' (first|refine U8 ?_ hm (hc:=A33 s hr);clear hm;intro _ hm|refine A0r (hc:=by exact hn _) (k:=?_);rintro _ _ ⟨rfl,hk2⟩;replace hm:=hm.kept0 hk2|refine A0i ?_ (hr:=by exact hr) (he:=by intro _;rfl) (hz:=by exact htk);intro b1 o1 hp1|refine F8 ?_ hm (hc:=A6i s 7 hr hT hi hd);clear hm;rintro _ _ _ _ ⟨rfl,rfl,da2,dc2,rfl⟩ hle hm;try simp only[G5]at hm|refine J6 ?_ hm|refine V3 ?_ hm|refine A0f ?_ hm|refine P5 hm (k:=?_);clear hm;intro _ hm;try simp only[G5]at hm|refine D8 ?_|refine D6 ?_|refine A0h ?_|refine F5 ?_|refine O9 ?_|refine D5 ?_|refine E5 ?_|refine A7 ?_|refine H8 ?_|refine E8 ?_|refine A8 ?_|refine J3 ?_|refine J7 ?_|refine U6 ?_|refine A0s ?_;intro _ hkq;replace hm:=hm.kept0 hkq;clear hkq|refine H5 ?_|(refine C9 (ht:=fun _=>?_) (hf:=fun _=>?_)<;>try first|contradiction|omega)|refine Y4 ?_|refine A0d ?_|refine A18 ?_|refine A9x ?_|refine S9 ?_|refine Q9 ?_|refine L8 ?_|(refine X3 (fun _=>?_) (h1:=fun _=>?_)<;>try first|contradiction|omega))
   exact⟨I,_,⟨rfl,rfl,da2,dc2,rfl⟩,hm⟩
  ·rw[if_neg hk]
   by_cases hlt:s.i<T.l.length
   ·have htk:=A59 hlt
    repeat' (first|refine U8 ?_ hm (hc:=A33 s hr);clear hm;intro _ hm|refine A0r (hc:=by exact hn _) (k:=?_);rintro _ _ ⟨rfl,hk2⟩;replace hm:=hm.kept0 hk2|refine A0i ?_ (hr:=by exact hr) (he:=by intro _;rfl) (hz:=by exact htk);intro b1 o1 hp1|refine F8 ?_ hm (hc:=A6i s 2 hr hT hi hd);clear hm;rintro _ _ _ _ ⟨rfl,rfl,da2,dc2,rfl⟩ hle hm;try simp only[G5]at hm|refine V3 ?_ hm|refine A0f ?_ hm|refine D8 ?_|refine D6 ?_|refine A0h ?_|refine E5 ?_|refine A7 ?_|refine H8 ?_|refine E8 ?_|refine A8 ?_|refine G7 ?_|refine J3 ?_|refine J7 ?_|refine U6 ?_|refine A0s ?_;intro _ hkq;replace hm:=hm.kept0 hkq;clear hkq|refine H5 ?_|(refine C9 (ht:=fun _=>?_) (hf:=fun _=>?_)<;>try first|contradiction|omega)|refine Y4 ?_|refine A0d ?_|refine A18 ?_|refine A9x ?_|refine S9 ?_|refine Q9 ?_|refine L8 ?_|(refine X3 (fun _=>?_) (h1:=fun _=>?_)<;>try first|contradiction|omega))
    exact⟨I,_,⟨rfl,rfl,da2,dc2,rfl⟩,hm⟩
   ·skip
    repeat' (first|refine U8 ?_ hm (hc:=A33 s hr);clear hm;intro _ hm|refine A0r (hc:=by exact hn _) (k:=?_);rintro _ _ ⟨rfl,hk2⟩;replace hm:=hm.kept0 hk2|refine F8 ?_ hm (hc:=A6i s 2 hr hT hi hd);clear hm;rintro _ _ _ _ ⟨rfl,rfl,da2,dc2,rfl⟩ hle hm;try simp only[G5]at hm|refine V3 ?_ hm|refine D8 ?_|refine D6 ?_|refine A0h ?_|refine E5 ?_|refine A7 ?_|refine H8 ?_|refine E8 ?_|refine A8 ?_|refine G7 ?_|refine J3 ?_|refine J7 ?_|refine U6 ?_|refine A0s ?_;intro _ hkq;replace hm:=hm.kept0 hkq;clear hkq|refine H5 ?_|refine F7 ?_|refine Y4 ?_|refine A0A ?_|refine A18 ?_|refine S9 ?_|refine Q9 ?_|refine L8 ?_|refine A2z ?_|(refine X3 (fun _=>?_) (h1:=fun _=>?_)<;>try first|contradiction|omega))
    exact⟨I,_,⟨rfl,rfl,da2,dc2,rfl⟩,hm⟩
theorem B6B (s:Sp.St) (hr:A4H I T la lc) (hT:Ok T) (hi:s.i<=T.l.length) (hd:s.ds.length+2 *(T.l.length-s.i)+2<=1099511627776):
  CalM prog 107 #[ptr pb] I (QSt pb la lc T s deep da dc) (ToQ pb la lc T deep I (Sp.lab T s).2 (nt (Sp.lab T s).1)):=by
 refine CalM.of fun w E hm=>enter (N:=61) func107 rfl [(0,ptr pb)] A0Z rfl ?_
 have h2:=hT.size;have h3:=hT.len;have hn:=A4s (pb:=pb) (deep:=deep) (da:=da) (dc:=dc) s [123] (by simp) hr hT (by omega) hi;rw[Sp.lab];rw[Sp.St.need]at hn;by_cases hq:T.is s.i [123]=true
 case neg=>
  rw[if_neg hq];rw[if_neg hq]at hn;repeat' (first|refine F8 ?_ hm (hc:=hn);clear hm;rintro _ _ _ _ ⟨rfl,rfl,da',dc',rfl⟩ hle hm;try simp only[G5]at hm|refine D8 ?_|refine D6 ?_|refine A0h ?_|refine E5 ?_|refine A7 ?_|refine H8 ?_|refine E8 ?_|refine A8 ?_|refine J3 ?_|refine J7 ?_|refine H5 ?_)
  exact⟨I,_,⟨rfl,rfl,da',dc',rfl⟩,hm⟩
 rw[if_pos hq];rw[if_pos hq]at hn;have hlt:=A22 hq;repeat' (first|refine F8 ?_ hm (hc:=hn);clear hm;rintro _ _ _ _ ⟨rfl,rfl,da',dc',rfl⟩ hle hm;try simp only[G5]at hm|refine D8 ?_|refine D6 ?_|refine A0h ?_|refine E5 ?_|refine A7 ?_|refine E8 ?_|refine A8 ?_|refine F6 ?_|refine G7 ?_|refine F7 ?_)
 refine U3 (fun x:QLab=> [(0,ptr pb),(3,nt x.n)])
  (fun x w'=>Mem E I (QSt pb la lc T x.s deep x.da x.dc) w'/\B0H T x.f x.n x.s=B0H T (T.l.length+1) 0 s.next/\T.l.length-x.s.i<x.f/\x.s.i<=T.l.length/\x.n<256/\x.s.ds.length+2 *(T.l.length-x.s.i)+1<=1099511627776)
  (fun x=>T.l.length-x.s.i) ⟨T.l.length+1,0,s.next,da',dc'⟩ (by exact⟨rfl,rfl,trivial⟩) ⟨hm,rfl,by dsimp only;omega,by dsimp only;rw[U7];omega,by simp,by dsimp only;rw[U7,A1t];omega⟩ ?_
 clear hm hn;rintro⟨f,n,s2,da2,dc2⟩ w2 ⟨hm,hL,hf,hi2,hn2,hr2⟩;dsimp only at hm hL hf hi2 hn2 hr2 |-;obtain⟨f,rfl⟩:∃f',f=f'+1:=⟨f-1,by omega⟩;rw[B0H]at hL;have hqe:=A2j (pb:=pb) (deep:=deep) (da:=da2) (dc:=dc2) s2 [125] (by simp) hr hT hi2;by_cases hend:T.is s2.i [125]=true
 ·rw[if_pos hend]at hL
  rw[<-hL];rw[if_pos hend,hend]at hqe;have hlt2:=A22 hend;repeat' (first|refine F8 ?_ hm (hc:=hqe);clear hm;rintro _ _ _ _ ⟨rfl,rfl,da3,dc3,rfl⟩ hle hm;try simp only[G5]at hm|refine D8 ?_|refine D6 ?_|refine A0h ?_|refine E5 ?_|refine A7 ?_|refine H6 ?_|refine G9 ?_|refine E8 ?_|refine A8 ?_|refine O8 ?_|refine J3 ?_|refine J7 ?_|refine F7 ?_)
  exact⟨I,_,⟨rfl,rfl,da3,dc3,rfl⟩,hm⟩
 have hend':T.is s2.i [125]=false:=by simpa using hend
 rw[if_neg hend]at hL;rw[if_neg hend,hend']at hqe;dsimp only at hL;have h1:=hT.at_ s2.i;have htg:C6n (T.tok s2.i).text=decide ((T.tok s2.i).text.length=1/\97<=((T.tok s2.i).text.getD (0:Int).toNat 0).toNat/\((T.tok s2.i).text.getD (0:Int).toNat 0).toNat<=104):=by
  rw[C6n,Bool.decide_and,Bool.decide_and];rfl
 by_cases hgood:C6n (T.tok s2.i).text=true
 case neg=>
  have hgood':C6n (T.tok s2.i).text=false:=by simpa using hgood
  rw[hgood']at hL;simp only[Bool.not_false,if_true]at hL;rw[<-hL];rw[htg,decide_eq_false_iff_not]at hgood';repeat' (first|refine F8 ?_ hm (hc:=hqe);clear hm;rintro _ _ _ _ ⟨rfl,rfl,da4,dc4,rfl⟩ hle hm;try simp only[G5]at hm|refine U8 ?_ hm (hc:=A33 s2 hr);clear hm;intro _ hm|refine F8 ?_ hm (hc:=A6i s2 2 hr hT hi2 (by omega));clear hm;rintro _ _ _ _ ⟨rfl,rfl,da3,dc3,rfl⟩ hle hm;try simp only[G5]at hm|refine D8 ?_|refine D6 ?_|refine O0 ?_|refine N7 ?_|refine J8 ?_|refine A1H ?_|refine A0w ?_|refine A0m ?_|refine A0h ?_|refine A2n ?_|refine A0z ?_|(refine O3 (h1:=fun _=>?_) (h0:=fun _=>?_)<;>try first|contradiction|omega)|refine E5 ?_|refine A7 ?_|refine H8 ?_|refine O5 ?_|refine E8 ?_|refine A8 ?_|refine F6 ?_|refine G7 ?_|refine J3 ?_|refine J7 ?_|refine H5 ?_|(refine C9 (ht:=fun _=>?_) (hf:=fun _=>?_)<;>try first|contradiction|omega))
  all_goals first
   |exact⟨I,_,⟨rfl,rfl,da3,dc3,rfl⟩,hm⟩
   |(exfalso;omega)
 rw[hgood]at hL;have hlt2:s2.i<T.l.length:=A3E (by intro e;rw[e]at hgood;revert hgood;decide);rw[htg,decide_eq_true_eq]at hgood;have hce:(T.tok s2.i).text.getD (0:Int).toNat 0=(T.tok s2.i).text.getD 0 0:=rfl;rw[hce]at hgood;generalize hcc:(T.tok s2.i).text.getD 0 0=c at hgood hL hce;obtain⟨q,hqq⟩:∃q,q=c.toNat-97:=⟨_,rfl⟩;rw[<-hqq]at hL;have hq8:q<8:=by omega
 obtain⟨hfd,hb1,hor,hor2⟩:=D8S n hn2 q hq8;obtain⟨hp1,hp2⟩:=D8N q hq8;have hbq:((c.toNat:Int)-97).toNat=q:=by omega
 have hdl:n / 2 ^ q<=n:=Nat.div_le_self _ _;simp only[A78,A3A,if_false]at hL;generalize n / 2 ^ q=m at hfd hb1 hdl;obtain⟨s3,hs3⟩:∃s3,s3=(if Sp.bit n q=true then s2.bad T 7 else s2):=⟨_,rfl⟩;rw[<-hs3]at hL;have hs3i:s3.i=s2.i:=by rw[hs3];split<;>rfl
 have hs3d:s3.ds.length<=s2.ds.length+1:=by rw[hs3];split<;>simp[Sp.St.bad]
 rw[<-hor]at hL;have hni:s3.next.i=s3.i+1:=rfl;have hnd:s3.next.ds.length=s3.ds.length:=rfl;have hnn:s3.next.next.i=s3.i+1+1:=rfl;have hnnd:s3.next.next.ds.length=s3.ds.length:=rfl;have hmc:=fun da dc=>A4s (pb:=pb) (deep:=deep) (da:=da) (dc:=dc) s3.next [44] (by simp) hr hT (by omega) (by omega)
 rw[Sp.St.need]at hmc;have hpk:=fun da dc=>A33 (pb:=pb) (deep:=deep) (da:=da) (dc:=dc) s3.next hr
 have tel:=fun da dc=>A6i (pb:=pb) (deep:=deep) (da:=da) (dc:=dc) s2 7 hr hT hi2 (by omega)
 have hor':((n:Int).toNat|||(((2 ^ q:Nat):Int)).toNat)=(n|||2 ^ q):=rfl;generalize 2 ^ q=pq at hp1 hp2 hor2 hor hL hor';generalize n|||pq=n1 at hor2 hor hL hor'
 repeat' (first|refine B1p 9 (fun _:QLab=> [(0,ptr pb),(3,nt n),(4,str (T.tok s2.i).text)]) (fun x w'=>Mem E I (QSt pb la lc T s3 deep x.da x.dc) w') ?_ ?_|refine F8 ?_ hm (hc:=hqe);clear hm;rintro _ _ _ _ ⟨rfl,rfl,da4,dc4,rfl⟩ hle hm;try simp only[G5]at hm|refine U8 (d:=12) ?_ hm (hc:=A33 s2 hr);clear hm;intro _ hm|refine A2n ?_;rw[hce]|refine D8 ?_|refine D6 ?_|refine N7 ?_|refine J8 ?_|refine A1H ?_|refine A0w ?_|refine A0m ?_|refine A0h ?_|refine B0h ?_|(refine O3 (h1:=fun _=>?_) (h0:=fun _=>?_)<;>try first|contradiction|omega)|refine E5 ?_|refine A7 ?_|refine E8 ?_|refine A8 ?_|refine F6 ?_|refine G7 ?_|refine H5 ?_|(refine C9 (ht:=fun _=>?_) (hf:=fun _=>?_)<;>try first|contradiction|omega))
 ·cases hb:Sp.bit n q with
  |true=>
   rw[hb]at hb1 hs3;rw[if_pos rfl]at hs3;subst hs3;repeat' (first|refine F8 ?_ hm (hc:=tel _ _);clear hm;rintro _ _ _ _ ⟨rfl,rfl,da3,dc3,rfl⟩ hle hm;try simp only[G5]at hm|refine C5H (k:=?_);rw[hbq,hfd]|refine C00 ?_;rw[show ((m:Int).toNat &&& (1:Int).toNat)=1 from hb1]|refine D8 ?_|refine O6 ?_|refine E5 ?_|refine A7 ?_|refine A8 ?_|refine H5 ?_)
   exact A0V (⟨0,0,s2,da3,dc3⟩:QLab) (by exact⟨rfl,rfl,rfl,trivial⟩) hm
  |false=>
   rw[hb]at hb1 hs3;rw[if_neg (by simp)]at hs3;subst hs3;repeat' (first|refine C5H (k:=?_);rw[hbq,hfd]|refine C00 ?_;rw[show ((m:Int).toNat &&& (1:Int).toNat)=0 from hb1]|refine O6 ?_|refine E5 ?_|refine A7 ?_|refine G7 ?_|refine F7 ?_)
   exact A0V (⟨0,0,s3,da4,dc4⟩:QLab) (by exact⟨rfl,rfl,rfl,trivial⟩) hm
 clear hm hqe tel;rintro⟨_,_,_,da5,dc5⟩ w3 hm;dsimp only at hm |-;by_cases e1:T.is s3.next.i [125]=true
 ·rw[if_pos e1]at hL
  have e1t:(T.tok s3.next.i).text= [125]:=by simp only[Sp.Src.is,Q3,decide_eq_true_eq]at e1;exact e1.2
  have hlt5:=A22 e1;rw[e1t]at hpk;repeat' (first|refine U8 ?_ hm (hc:=hpk _ _);clear hm;intro _ hm|refine A2n ?_;rw[hce]|refine C02 (h':=by rw[hbq,hp1];omega) (k:=?_);rw[hbq,hp1]|refine C3p ?_;rw[hor']|refine J6 ?_ hm|refine P5 hm (k:=?_);clear hm;intro _ hm;try simp only[G5]at hm|refine D8 ?_|refine D6 ?_|refine N7 ?_|refine A0t ?_|refine F5 ?_|refine O9 ?_|refine B0h ?_|refine D5 ?_|refine A0z ?_|refine E5 ?_|refine A7 ?_|refine D7 ?_|refine E8 ?_|refine A8 ?_|refine G7 ?_|refine F7 ?_)
  exact L6 (⟨f,n1,s3.next,da5,dc5⟩:QLab) (by exact⟨rfl,rfl,trivial⟩) ⟨hm,hL,by dsimp only;omega,by dsimp only;omega,hor2,by dsimp only;omega⟩ (by dsimp only;omega)
 rw[if_neg e1]at hL;by_cases e2:T.is s3.next.i [44]=true
 ·rw[if_pos e2]at hL hmc
  have e1t:(T.tok s3.next.i).text= [44]:=by simp only[Sp.Src.is,Q3,decide_eq_true_eq]at e2;exact e2.2
  have hlt5:=A22 e2;rw[e1t]at hpk;repeat' (first|refine U8 ?_ hm (hc:=hpk _ _);clear hm;intro _ hm|refine F8 ?_ hm (hc:=hmc _ _);clear hm;rintro _ _ _ _ ⟨rfl,rfl,da6,dc6,rfl⟩ hle hm;try simp only[G5]at hm|refine A2n ?_;rw[hce]|refine C02 (h':=by rw[hbq,hp1];omega) (k:=?_);rw[hbq,hp1]|refine C3p ?_;rw[hor']|refine J6 ?_ hm|refine P5 hm (k:=?_);clear hm;intro _ hm;try simp only[G5]at hm|refine D8 ?_|refine D6 ?_|refine O0 ?_|refine A0t ?_|refine A0h ?_|refine F5 ?_|refine O9 ?_|refine B0h ?_|refine D5 ?_|refine E5 ?_|refine A7 ?_|refine D7 ?_|refine E8 ?_|refine A8 ?_|refine G7 ?_|refine F7 ?_)
  exact L6 (⟨f,n1,s3.next.next,da6,dc6⟩:QLab) (by exact⟨rfl,rfl,trivial⟩) ⟨hm,hL,by dsimp only;omega,by dsimp only;omega,hor2,by dsimp only;omega⟩ (by dsimp only;omega)
 rw[if_neg e2]at hL hmc;have e1t:s3.next.i<T.l.length->(T.tok s3.next.i).text≠ [125]:=fun h e=>e1 (by simp[Sp.Src.is,h,e])
 rw[<-hL];by_cases hlt6:s3.next.i<T.l.length
 ·have e1t:=e1t hlt6
  repeat' (first|refine U8 ?_ hm (hc:=hpk _ _);clear hm;intro _ hm|refine F8 ?_ hm (hc:=hmc _ _);clear hm;rintro _ _ _ _ ⟨rfl,rfl,da6,dc6,rfl⟩ hle hm;try simp only[G5]at hm|refine A2n ?_;rw[hce]|refine C02 (h':=by rw[hbq,hp1];omega) (k:=?_);rw[hbq,hp1]|refine C3p ?_;rw[hor']|refine J6 ?_ hm|refine P5 hm (k:=?_);clear hm;intro _ hm;try simp only[G5]at hm|refine D8 ?_|refine D6 ?_|refine O0 ?_|refine A0t ?_|refine A0h ?_|refine F5 ?_|refine O9 ?_|refine B0h ?_|refine D5 ?_|(refine O3 (h1:=fun _=>?_) (h0:=fun _=>?_)<;>try first|contradiction|omega)|refine E5 ?_|refine A7 ?_|refine H8 ?_|refine O5 ?_|refine E8 ?_|refine A8 ?_|refine J3 ?_|refine J7 ?_|refine H5 ?_)
  exact⟨I,_,⟨rfl,rfl,da6,dc6,rfl⟩,hm⟩
 ·rw[A6A (by omega:T.l.length<=s3.next.i)]at hpk
  repeat' (first|refine U8 ?_ hm (hc:=hpk _ _);clear hm;intro _ hm|refine F8 ?_ hm (hc:=hmc _ _);clear hm;rintro _ _ _ _ ⟨rfl,rfl,da6,dc6,rfl⟩ hle hm;try simp only[G5]at hm|refine A2n ?_;rw[hce]|refine C02 (h':=by rw[hbq,hp1];omega) (k:=?_);rw[hbq,hp1]|refine C3p ?_;rw[hor']|refine J6 ?_ hm|refine P5 hm (k:=?_);clear hm;intro _ hm;try simp only[G5]at hm|refine D8 ?_|refine D6 ?_|refine O0 ?_|refine A0t ?_|refine A0h ?_|refine F5 ?_|refine O9 ?_|refine B0h ?_|refine D5 ?_|refine E5 ?_|refine A7 ?_|refine H8 ?_|refine O5 ?_|refine E8 ?_|refine A8 ?_|refine J3 ?_|refine J7 ?_|refine H5 ?_)
  exact⟨I,_,⟨rfl,rfl,da6,dc6,rfl⟩,hm⟩
theorem D4t (t:List UInt8) (w:World):Cal prog 203 #[str t] w fun v w'=>v=nt (A0u t)/\w'=w:=by
 refine enter (N:=12) func203 rfl [(0,str t)] A0Z rfl ?_
 rw[A0u];by_cases h1:t= [61]
 ·subst h1
  repeat' (first|refine D8 ?_|refine D6 ?_|refine A0g ?_|refine E5 ?_|refine A7 ?_|refine H8 ?_|refine O5 ?_|refine E8 ?_|refine A8 ?_|refine F6 ?_|refine G7 ?_|refine J3 ?_|refine J7 ?_|refine H5 ?_)
  exact⟨rfl,rfl⟩
 by_cases h2:t= [60]
 ·subst h2
  repeat' (first|refine D8 ?_|refine D6 ?_|refine A0g ?_|refine E5 ?_|refine A7 ?_|refine H8 ?_|refine O5 ?_|refine E8 ?_|refine A8 ?_|refine F6 ?_|refine J3 ?_|refine J7 ?_|refine H5 ?_|refine F7 ?_)
  exact⟨rfl,rfl⟩
 by_cases h3:t= [43]
 ·subst h3
  repeat' (first|refine D8 ?_|refine D6 ?_|refine A0g ?_|refine E5 ?_|refine A7 ?_|refine H8 ?_|refine O5 ?_|refine E8 ?_|refine A8 ?_|refine F6 ?_|refine G7 ?_|refine J3 ?_|refine J7 ?_|refine H5 ?_|refine F7 ?_)
  exact⟨rfl,rfl⟩
 by_cases h4:t= [45]
 ·subst h4
  repeat' (first|refine D8 ?_|refine D6 ?_|refine A0g ?_|refine E5 ?_|refine A7 ?_|refine H8 ?_|refine O5 ?_|refine E8 ?_|refine A8 ?_|refine F6 ?_|refine J3 ?_|refine J7 ?_|refine H5 ?_|refine F7 ?_)
  exact⟨rfl,rfl⟩
 by_cases h5:t= [42]
 ·subst h5
  repeat' (first|refine D8 ?_|refine D6 ?_|refine A0g ?_|refine E5 ?_|refine A7 ?_|refine H8 ?_|refine O5 ?_|refine E8 ?_|refine A8 ?_|refine F6 ?_|refine J3 ?_|refine J7 ?_|refine H5 ?_|refine F7 ?_)
  exact⟨rfl,rfl⟩
 rw[if_neg (by simp[h1,h2]),if_neg (by simp[h3,h4]),if_neg h5];repeat' (first|refine D8 ?_|refine D6 ?_|refine A0g ?_|refine E5 ?_|refine A7 ?_|refine D7 ?_|refine E8 ?_|refine A8 ?_|refine F6 ?_|refine G7 ?_|refine J3 ?_|refine J7 ?_|(refine C9 (ht:=fun _=>?_) (hf:=fun _=>?_)<;>try first|contradiction|omega))
 all_goals first|exact⟨rfl,rfl⟩|(exfalso;simp_all;done)
abbrev B6P (pb:Nat) (la:Option Addr) (lc:Nat) (T:Sp.Src) (deep:Nat) (r:Sp.Ex×Sp.St):Value->P8->List HItem->Prop:=
 fun v I' H'=>(∃ea ec xs,v=.agg [nt r.1.kind,str r.1.name,nt r.1.n,.slice ea r.1.args.length ec,nt r.1.fr,nt r.1.to].toArray/\RowI I' 109 6 (.slice ea r.1.args.length ec) r.1.args.length xs/\Z7 I' r.1.args xs)/\
  ∃da dc,H'=QSt pb la lc T r.2 deep da dc
theorem C5L (s:Sp.St) (e:Nat) (hr:A4H I T la lc) (hT:Ok T) (hi:s.i<=T.l.length) (hd:s.ds.length<1099511627776):
  CalM prog 210 #[ptr pb,nt e] I (QSt pb la lc T s deep da dc) (B6P pb la lc T deep (B3g T s e)):=by
 refine CalM.of fun w E hm=>enter (N:=13) func210 rfl [(0,ptr pb),(1,nt e)] A1x rfl ?_
 repeat' (first|refine F8 ?_ hm (hc:=A6i s e hr hT hi hd);clear hm;rintro _ _ _ _ ⟨rfl,rfl,da',dc',rfl⟩ hle hm;try simp only[G5]at hm|refine U8 ?_ hm (hc:=A2E (s.bad T e) hr);clear hm;intro _ hm|refine X8 (d:=4) ?_ hm;clear hm;intro b4 _ hm|refine P6 ?_ hm;clear hm;intro _ hm;try simp only[G5]at hm|refine A0a ?_ hm|refine D8 ?_|refine Y0 ?_|refine E5 ?_|refine A7 ?_|refine E8 ?_|refine A8 ?_|refine J3 ?_)
 exact⟨I,_,⟨⟨none,0,[],rfl,A1L _ _ _ _ _,.nil⟩,da',dc',rfl⟩,hm.left (H:= [_,_])⟩
end
abbrev C2n (v:Int):List Value:= [.int .i64 v]
abbrev D3y (i k f t:Int) (s:List UInt8) (a:Option Addr) (n c:Nat):List Value:= [.int .i64 i,.int .i64 k,.int .i64 f,.int .i64 t,str s,.slice a n c]
def B25 (I:P8) (q:Sp.Qn) (c:List Value):Prop:= ∃a cp,c=D3y q.id q.kind q.fr q.to q.text a q.args.length cp/\RowI I 3 1 (.slice a q.args.length cp) q.args.length (q.args.flatMap C2n)
theorem B25.le {I I':P8}{q:Sp.Qn}{c:List Value} (h:B25 I q c) (m:Le I I'):B25 I' q c:=by
 obtain⟨a,cp,h1,h2⟩:=h;exact⟨a,cp,h1,h2.le m⟩
theorem B25.len {I:P8}{q:Sp.Qn}{c:List Value} (h:B25 I q c):c.length=6:=by
 obtain⟨a,cp,rfl,_⟩:=h;rfl
def A5E (I:P8):List Sp.Qn->List Value->Prop
 | [],xs=>xs= []
 |q::qs,xs=> ∃c r,xs=c++r/\B25 I q c/\A5E I qs r
theorem A5E.le {I I':P8} (m:Le I I'):∀ {qs:List Sp.Qn}{xs:List Value},A5E I qs xs->A5E I' qs xs
 | [],_,h=>h
 |_::_,_,⟨c,r,e,h1,h2⟩=>⟨c,r,e,h1.le m,A5E.le m h2⟩
theorem A5E.snoc {I:P8}{q:Sp.Qn}{c:List Value} (hq:B25 I q c):∀ {qs:List Sp.Qn}{xs:List Value},A5E I qs xs->A5E I (qs++ [q]) (xs++c)
 | [],xs,h=>by
  obtain rfl:xs= []:=h;exact⟨c,[],by simp,hq,rfl⟩
 |_::_,_,⟨c',r,e,h1,h2⟩=>⟨c',r++c,by rw[e,J5],h1,A5E.snoc hq h2⟩
theorem A5E.len {I:P8}:∀ {qs:List Sp.Qn}{xs:List Value},A5E I qs xs->xs.length=qs.length *6
 | [],xs,h=>by
  obtain rfl:xs= []:=h
  rfl
 |q::qs,_,⟨c,r,e,h1,h2⟩=>by
  rw[e,D9,h1.len,h2.len,E9];omega
theorem A5E.get {I:P8}:∀ {qs:List Sp.Qn}{xs:List Value}{i:Nat}{q:Sp.Qn},A5E I qs xs->qs[i]?=some q->B25 I q ((xs.drop (i *6)).take 6)
 | [],_,_,_,_,h=>by simp at h
 |q::qs,_,0,q',⟨c,r,e,h1,h2⟩,h=>by
  simp only[A08,X4]at h;subst h;rw[e,A14,A2t,A26 (by rw[h1.len];omega),A0W (by rw[h1.len];omega)];exact h1
 |q::qs,_,i+1,q',⟨c,r,e,h1,h2⟩,h=>by
  rw[A02]at h;have:=A5E.get h2 h;rw[e,A6L,List.drop_eq_nil_of_le (by rw[h1.len];omega),L9,h1.len,show (i+1) *6-6=i *6 by omega];exact this
abbrev B1v (e:Sp.Ev):List Value:= [str e.ch,.int .i64 e.n]
abbrev C49 (l:List Int):List Value:=l.map (fun n=> .int .i64 n)
section
variable {I0:P8}{its:List Sp.Itm}{C:A5w}{br bm bf deep:Nat}
end
end Go.Proofs
