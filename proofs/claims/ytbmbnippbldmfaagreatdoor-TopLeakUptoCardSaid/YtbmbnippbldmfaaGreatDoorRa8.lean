/- Own work. -/
import Derived.Test.YtbmbnippbldmfaaGreatDoorRa7
set_option maxHeartbeats 64000000
namespace Go.Sp
open Go.Lib (itoa)
mutual
def Ex.pl:Ex->Ex
 | .mk k nm n args _ _=> .mk k nm n (A1q args) 0 0
def A1q:List Ex->List Ex
 | []=> []
 |e::es=>e.pl::A1q es
end
theorem B9f:∀(l r:List Ex),A1q (l++r)=A1q l++A1q r
 | [],r=>by rw[A1q];rfl
 |e::l,r=>by rw[Q8,A1q,A1q,B9f l r];rfl
theorem A8z:∀(l:List Ex),(A1q l).length=l.length
 | []=>by rw[A1q]
 |e::l=>by rw[A1q,E9,E9,A8z l]
def Src.rest (T:Src) (i:Nat):List KT:=(T.l.drop i).map kt
def hd (R:List KT):List UInt8:=match R with
 | []=> []
 |(_,w)::_=>w
theorem Y9 {T:Src}{i k:Nat}{w:List UInt8}{R:List KT} (h:T.rest i=(k,w)::R):i<T.l.length/\(T.tok i).kind=k/\(T.tok i).text=w/\T.rest (i+1)=R:=by
 rw[Src.rest]at h;have hi:i<T.l.length:=by
  rcases U9 i T.l.length with h1|h1
  ·exact h1
  ·rw[List.drop_eq_nil_of_le h1]at h;cases h
 rw[A3Q hi,U4]at h;injection h with h1 h2
 injection h1 with h3 h4
 have e:T.tok i=T.l[i]:=by rw[Src.tok,N9,F9 hi];rfl
 exact⟨hi,by rw[e];exact h3,by rw[e];exact h4,h2⟩
theorem C3K {T:Src}{i:Nat} (h:T.rest i= []):T.l.length<=i:=by
 rw[Src.rest,List.map_eq_nil_iff,List.drop_eq_nil_iff]at h;exact h
theorem D2P (T:Src) (i:Nat):(T.tok i).text=hd (T.rest i):=by
 cases h:T.rest i with
 |nil=>rw[A6A (C3K h)];rfl
 |cons a R=>obtain⟨k,w⟩:=a;exact(Y9 h).2.2.1
theorem D5K {T:Src}{i:Nat}{w:List UInt8} (hw:w≠ []):T.is i w=decide (hd (T.rest i)=w):=by
 rw[Src.is,D2P];cases h:T.rest i with
 |nil=>
  rw[decide_eq_false (by have:=C3K h;omega),A5I];exact(decide_eq_false (fun e=>hw e.symm)).symm
 |cons a R=>obtain⟨k,v⟩:=a;rw[decide_eq_true (Y9 h).1,A3M]
theorem A4O {T:Src}{i:Nat}{w:List UInt8} (hw:w≠ []) (h:hd (T.rest i)=w):T.is i w=true:=by rw[D5K hw,decide_eq_true h]
theorem A6F {T:Src}{i:Nat}{w:List UInt8} (hw:w≠ []) (h:hd (T.rest i)≠w):T.is i w=false:=by rw[D5K hw,decide_eq_false h]
theorem A6y {T:Src}{s:St}{w:List UInt8} (hw:w≠ []) (h:hd (T.rest s.i)=w):s.need T w=(true,s.next):=by rw[St.need,if_pos (A4O hw h)]
theorem A2o {T:Src}{i:Nat}:∀ {A R:List KT},T.rest i=A++R->T.rest (i+A.length)=R
 | [],R,h=>h
 |(k,w)::A,R,h=>by
  have:=A2o (Y9 (R:=A++R) h).2.2.2;rw[E9,show i+(A.length+1)=i+1+A.length by omega];exact this
theorem A84 {T:Src}{i:Nat}{A R:List KT} (h:T.rest i=A++R) (hA:A≠ []):i+A.length<=T.l.length:=by
 have:=congrArg List.length h;rw[Src.rest,P7,A0v,D9]at this;have:0<A.length:=A24.2 hA;omega
theorem B3B {A R:List KT} (h:A≠ []):hd (A++R)=hd A:=by
 cases A with
 |nil=>exact absurd rfl h
 |cons a A=>rfl
def A1z:List (List KT)->List KT
 | []=> []
 | [w]=>w
 |w::v::ws=>w++sg 44::A1z (v::ws)
theorem B3G:∀(ws:List (List KT)) (w:List KT),ws≠ []->A1z (ws++ [w])=A1z ws++sg 44::w
 | [],_,h=>absurd rfl h
 | [a],w,_=>rfl
 |a::b::ws,w,_=>by
  have:=B3G (b::ws) w (by simp);show a++sg 44::A1z (b::ws++ [w])=(a++sg 44::A1z (b::ws))++sg 44::w
  rw[this];simp
theorem B88 (ws:List (List KT)):∀k,k<=ws.length->B41 ws k=A1z (ws.take k)
 |0,_=>rfl
 |k+1,h=>by
  have hg:ws[k]?=some ws[k]:=F9 (by omega);rw[B87,B88 ws k (by omega),A2N,hg,N9,hg];show _=A1z (ws.take k++ [ws[k]])
  cases k with
  |zero=>simp[A1z]
  |succ k=>
   rw[if_pos (by omega),B3G _ _ (by intro e;have:=congrArg List.length e;rw[P9,List.length_nil]at this;omega)]
   rfl
theorem A90 (ws:List (List KT)) (n:Nat) (h:n=ws.length):B41 ws n=A1z ws:=by
 rw[B88 ws n (by omega),A0W (by omega)]
theorem C2s (l:List Ex):(A3d l).length=l.length:=by rw[C2t,P7]
theorem B98 (t:List UInt8):A0u t<=3:=by
 rw[A0u];split
 ·decide
 ·split
  ·decide
  ·split<;>decide
theorem C9B (t:List UInt8):1<=A2Y t/\A2Y t<=3:=by
 rw[A2Y];split
 ·decide
 ·split<;>decide
theorem B2X (e:Ex):1<=A0N e/\A0N e<=4:=by
 rw[A0N];split
 ·decide
 ·have:=C9B e.name;omega
theorem B5z (k:Nat) (nm:List UInt8) (n:Nat) (args:List Ex) (f t:Nat):A0N (.mk k nm n args f t)=if k≠3 then 4 else A2Y nm:=rfl
def C0h (w:List UInt8):Prop:=w= [40]\/name w=true\/∃n:Nat,w=itoa n
theorem C7f (n:Nat):∃c w,itoa (n:Int)=c::w/\A0C c=true:=by
 rw[B7E];obtain⟨c,w,h1,h2,_⟩:=C6R n;exact⟨c,w,h1,h2⟩
theorem B83 {w:List UInt8} (h:C0h w):w≠ []/\w≠ [41]/\w≠ [44]/\w≠ [125]/\w≠ [59]/\w≠ [61]/\w≠ [58]:=by
 rcases h with rfl|h|⟨n,rfl⟩
 ·decide
 ·refine⟨A7e h,?_,?_,?_,?_,?_,?_⟩<;>(rintro rfl;revert h;decide)
 ·obtain⟨c,w,h1,h2⟩:=C7f n
  rw[h1];refine⟨by simp,?_,?_,?_,?_,?_,?_⟩<;>(intro e;injection e with e1 _;subst e1;revert h2;decide)
theorem D4x {b:Bool}{l:List KT} (h:l≠ []):A5D b l≠ []:=by
 cases b
 ·exact h
 ·simp[A5D]
theorem C42 {b:Bool}{l:List KT} (h:l≠ []/\C0h (hd l)):A5D b l≠ []/\C0h (hd (A5D b l)):=by
 refine⟨D4x h.1,?_⟩
 cases b
 ·exact h.2
 ·exact .inl rfl
theorem A92:∀(e:Ex) {d l:Nat},e.fitE d l->exK e≠ []/\C0h (hd (exK e))
 | .mk k nm n args f t,d,l,h=>by
  rw[Ex.fitE]at h;rw[exK];rcases h.2 with ⟨rfl,_,h1,rfl⟩|⟨rfl,h1,_,rfl⟩|⟨rfl,h1,_,h2,h3⟩|⟨rfl,h1,_,h2,h3⟩
  ·rw[if_pos rfl];exact⟨by simp,.inr (.inr ⟨n,rfl⟩)⟩
  ·rw[if_neg (by decide),if_neg (by decide),if_pos rfl];exact⟨by simp,.inr (.inl h1)⟩
  ·rw[if_neg (by decide),if_neg (by decide),if_neg (by decide),if_pos rfl];exact⟨by simp,.inr (.inl h1)⟩
  ·rw[if_neg (by decide),if_pos rfl]
   match args,h2,h3 with
   | [a,b],_,h3=>
    rw[A2Q]at h3;have ha:=C42 (b:=decide (A0N a<A2Y nm)) (A92 a h3.1);show A5D (decide (A0N a<A2Y nm)) ((A3d [a,b]).getD 0 [])++ [(3,nm)]++_≠ []/\_
    refine⟨by simp,?_⟩
    have e0:(A3d [a,b]).getD 0 []=exK a:=by rw[A3d];rfl
    rw[show ([a,b]:List Ex).getD 0 default=a from rfl,e0,J5,B3B ha.1];exact ha.2
def B4U (T:Src) (e:Ex):Prop:= ∀(d l m:Nat) (s:St) (R:List KT) (f:Nat),e.fitE d l->l<=A0N e->m<=A0N e->T.rest s.i=exK e++R->hd R≠ [40]->(A0u (hd R)<=A0N e\/A0u (hd R)=0)->
 3 *(T.l.length-s.i)+3<=f->∃e' f',e'.pl=e.pl/\A1b T f d m s=opL T f' d m e' ⟨s.i+(exK e).length,s.ds⟩/\3 *(T.l.length-(s.i+(exK e).length))+1<=f'
theorem C3m {T:Src}{f d m:Nat}{e:Ex}{s:St} (hf:1<=f) (h:A0u (hd (T.rest s.i))<m\/A0u (hd (T.rest s.i))=0):opL T f d m e s=(e,s):=by
 obtain⟨g,rfl⟩:∃g,f=g+1:=⟨f-1,by omega⟩;rw[opL];dsimp only
 rw[D2P,if_pos h]
theorem B33 {T:Src}{e:Ex} (hs:B4U T e) {d m:Nat}{s:St}{R:List KT}{f:Nat} (hm:m<=A0N e) (hfit:e.fitE d m) (hr:T.rest s.i=exK e++R) (h0:hd R≠ [40]) (hR:A0u (hd R)<m\/A0u (hd R)=0)
  (hf:3 *(T.l.length-s.i)+3<=f):∃e',e'.pl=e.pl/\A1b T f d m s=(e',⟨s.i+(exK e).length,s.ds⟩):=by
 obtain⟨e',f',h1,h2,h3⟩:=hs d m m s R f hfit hm hm hr h0 (by omega) hf;exact⟨e',h1,by rw[h2,C3m (by omega) (by rw[A2o hr];exact hR)]⟩
theorem C3E {T:Src}{e:Ex} (hs:B4U T e) {d:Nat}{s:St}{R:List KT}{f:Nat} (hfit:e.fitE (d+1) 1) (hr:T.rest s.i=A5D true (exK e)++R)
  (hf:3 *(T.l.length-s.i)+2<=f):∃e',e'.pl=e.pl/\A3W T f d s=(e',⟨s.i+(A5D true (exK e)).length,s.ds⟩):=by
 obtain⟨f,rfl⟩:∃g,f=g+1:=⟨f-1,by omega⟩;have hr':T.rest s.i=(3,[40])::(exK e++sg 41::R):=by rw[hr,A5D];simp[sg]
 obtain⟨c1,c2,c3,c4⟩:=Y9 hr';have hd12:d+1<12:=by cases e;rw[Ex.fitE]at hfit;exact hfit.1
 obtain⟨e',h1,h2⟩:=B33 (s:=s.next) hs (B2X e).1 hfit c4 (show ([41]:List UInt8)≠ [40] by decide) (.inr (show A0u [41]=0 by decide)) (f:=f) (by rw[U7];omega);rw[U7,A1t]at h2;refine⟨e',h1,?_⟩
 rw[A3W];dsimp only
 rw[if_neg (by omega),if_neg (by omega),if_neg (by rw[c2];decide),if_pos c3,h2];dsimp only
 have hn:hd (T.rest (s.i+1+(exK e).length))= [41]:=by rw[A2o c4];rfl
 rw[A6y (s:=⟨s.i+1+(exK e).length,s.ds⟩) (by decide) hn];have:(A5D true (exK e)).length=(exK e).length+2:=by simp[A5D]
 rw[this];show (e',(⟨s.i+1+(exK e).length+1,s.ds⟩:St))=_
 rw[show s.i+1+(exK e).length+1=s.i+((exK e).length+2) by omega]
theorem B7q {e:Ex}{d m:Nat} (h:e.fitE d m) (hm:A0N e<m) (hm4:m<=4):e.fitE (d+1) 1:=by
 cases e with
 |mk k nm n args f t=>
  rw[Ex.fitE]at h |-;rw[B5z]at hm;rcases h.2 with ⟨rfl,_⟩|⟨rfl,_⟩|⟨rfl,_⟩|⟨rfl,h1,h2,h3,h4⟩
  ·rw[if_pos (by decide)]at hm;omega
  ·rw[if_pos (by decide)]at hm;omega
  ·rw[if_pos (by decide)]at hm;omega
  ·rw[if_neg (by decide)]at hm
   obtain⟨c,_,_,e1⟩:=A7K h1;rw[if_pos (by omega)]at h4;have hd:d+1<12:=by
    match args,h3,h4 with
    | [a,b],_,h4=>
     rw[A2Q]at h4;have:=h4.1;cases a;rw[Ex.fitE]at this;exact this.1
   exact⟨hd,.inr (.inr (.inr ⟨rfl,h1,h2,h3,by rw[if_neg (by omega)];exact h4⟩))⟩
theorem D4c {T:Src}{e:Ex} (hs:B4U T e) {d m:Nat}{s:St}{R:List KT}{f:Nat} (hm4:m<=4) (hfit:e.fitE d m) (hr:T.rest s.i=A5D (decide (A0N e<m)) (exK e)++R) (h0:hd R≠ [40]) (hR:A0u (hd R)<m\/A0u (hd R)=0)
  (hf:3 *(T.l.length-s.i)+3<=f):∃e',e'.pl=e.pl/\A1b T f d m s=(e',⟨s.i+(A5D (decide (A0N e<m)) (exK e)).length,s.ds⟩):=by
 by_cases hm:A0N e<m
 ·rw[decide_eq_true hm]at hr |-
  obtain⟨f,rfl⟩:∃g,f=g+1:=⟨f-1,by omega⟩;obtain⟨e',h1,h2⟩:=C3E (f:=f) hs (B7q hfit hm hm4) hr (by omega);refine⟨e',h1,?_⟩
  rw[A1b];try dsimp only
  rw[h2,C3m (by omega) (by rw[A2o hr];exact hR)]
 ·rw[decide_eq_false hm]at hr |-
  exact B33 hs (by omega) hfit hr h0 hR hf
theorem C6K {T:Src}{d:Nat}{R:List KT}:∀(l done:List Ex) (s:St) (f:Nat),(∀e∈l,B4U T e)->A2f l d->done.length+l.length<=5->T.rest s.i=A1z (A3d l)++sg 41::R->3 *(T.l.length-s.i)+4<=f->
  ∃l',A1q l'=A1q l/\A5h T f d done s=(done++l',⟨s.i+(A1z (A3d l)).length,s.ds⟩)
 | [],done,s,f,_,_,_,hr,hf=>by
  obtain⟨f,rfl⟩:∃g,f=g+1:=⟨f-1,by omega⟩;refine⟨[],rfl,?_⟩
  rw[A5h,if_pos (.inr (A4O (by decide) (by rw[hr];rfl))),J4]
  rfl
 | [e],done,s,f,hS,hfit,hl,hr,hf=>by
  obtain⟨f,rfl⟩:∃g,f=g+1:=⟨f-1,by omega⟩;rw[A2f]at hfit;have hr':T.rest s.i=exK e++sg 41::R:=by rw[hr,A3d,A3d];rfl
  obtain⟨b1,b2⟩:=A92 e hfit.1;have hb:=B83 b2;have hhd:hd (T.rest s.i)=hd (exK e):=by rw[hr',B3B b1]
  have hlen:=A84 hr' b1;have hpos:0<(exK e).length:=A24.2 b1;obtain⟨e',h1,h2⟩:=B33 (s:=s) (hS e O4) (B2X e).1 hfit.1 hr' (show ([41]:List UInt8)≠ [40] by decide) (.inr (show A0u [41]=0 by decide)) (f:=f) (by omega);refine⟨[e'],by rw[A1q,A1q,A1q,A1q,h1],?_⟩
  rw[A5h,if_neg (by
   rintro(h|h)
   ·omega
   ·rw[A6F (by decide) (by rw[hhd];exact hb.2.1)]at h;cases h),if_neg (by rw[A0X]at hl;omega),h2]
  dsimp only
  rw[A6F (by decide) (by rw[A2o hr'];exact(show ([41]:List UInt8)≠ [44] by decide))];rw[A3d,A3d]
  rfl
 |e::e2::l,done,s,f,hS,hfit,hl,hr,hf=>by
  obtain⟨f,rfl⟩:∃g,f=g+1:=⟨f-1,by omega⟩;rw[A2f]at hfit;have hj:A1z (A3d (e::e2::l))=exK e++sg 44::A1z (A3d (e2::l)):=by rw[A3d,A3d];rfl
  have hr':T.rest s.i=exK e++sg 44::(A1z (A3d (e2::l))++sg 41::R):=by rw[hr,hj];simp
  obtain⟨b1,b2⟩:=A92 e hfit.1;have hb:=B83 b2;have hhd:hd (T.rest s.i)=hd (exK e):=by rw[hr',B3B b1]
  have hlen:=A84 hr' b1;have hpos:0<(exK e).length:=A24.2 b1;obtain⟨e',h1,h2⟩:=B33 (s:=s) (hS e O4) (B2X e).1 hfit.1 hr' (show ([44]:List UInt8)≠ [40] by decide) (.inr (show A0u [44]=0 by decide)) (f:=f) (by omega);have hr2:=A2o hr';obtain⟨q1,_,_,hr3⟩:=Y9 hr2;obtain⟨l',g1,g2⟩:=C6K (e2::l) (done++ [e']) ⟨s.i+(exK e).length+1,s.ds⟩ f (fun x hx=>hS x (Z4 _ hx)) hfit.2 (by rw[D9,A0X];simp only[E9]at hl |-;omega) hr3 (by dsimp only;omega);refine⟨e'::l',by rw[A1q,g1,h1];exact(A1q.eq_2 _ _).symm,?_⟩
  rw[A5h,if_neg (by
   rintro(h|h)
   ·omega
   ·rw[A6F (by decide) (by rw[hhd];exact hb.2.1)]at h;cases h),if_neg (by simp only[E9]at hl;omega),h2]
  dsimp only
  rw[if_pos (A4O (by decide) (by rw[hr2];rfl))];show A5h T f d (done++ [e']) ⟨s.i+(exK e).length+1,s.ds⟩=_
  rw[g2,J5];dsimp only
  rw[hj,D9,E9,show s.i+(exK e).length+1+(A1z (A3d (e2::l))).length=s.i+((exK e).length+((A1z (A3d (e2::l))).length+1)) by omega]
  rfl
theorem D0n {n:Nat} (h:n<=1000000000):A4M (itoa (n:Int))=n:=by rw[B7E];exact D3H h
def D3r (T:Src) (l:List Ex):Prop:= ∀e∈l,B4U T e
mutual
theorem B9Z (T:Src):∀(e:Ex),B4U T e
 | .mk k nm n args f0 t0=>by
  intro d l m s R f hfit hl hm hr h0 hR hf;have hA:=B8j T args;obtain⟨f,rfl⟩:∃g,f=g+1+1:=⟨f-2,by omega⟩;rw[Ex.fitE]at hfit;obtain⟨hd12,hfit⟩:=hfit;rcases hfit with ⟨rfl,rfl,h1,rfl⟩|⟨rfl,h1,rfl,rfl⟩|⟨rfl,h1,rfl,h2,h3⟩|⟨rfl,h1,rfl,h2,h3⟩
  ·rw[exK,if_pos rfl]at hr |-
   obtain⟨c1,c2,c3,c4⟩:=Y9 hr;refine⟨.mk 1 [] n [] (T.tok s.i).pos ((T.tok s.i).pos+(T.tok s.i).text.length),f+1,by rw[Ex.pl,Ex.pl],?_,by rw[A0X];omega⟩
   rw[A1b];try dsimp only
   rw[A3W];dsimp only
   rw[if_neg (by omega),if_neg (by omega),if_pos c2,c3,D0n h1,if_neg (by omega)]
   rfl
  ·rw[exK,if_neg (by decide),if_neg (by decide),if_pos rfl]at hr |-
   obtain⟨c1,c2,c3,c4⟩:=Y9 hr;refine⟨.mk 2 nm 0 [] (T.tok s.i).pos ((T.tok s.i).pos+(T.tok s.i).text.length),f+1,by rw[Ex.pl,Ex.pl],?_,by rw[A0X];omega⟩
   rw[A1b];try dsimp only
   rw[A3W];dsimp only
   rw[if_neg (by omega),if_neg (by omega),if_neg (by rw[c2];decide),c3,if_neg (by rintro rfl;revert h1;decide),if_neg (by simp[h1]),if_pos (by rw[A6F (by decide) (by rw[c4];exact h0)];rfl)]
   rfl
  ·rw[exK,if_neg (by decide),if_neg (by decide),if_neg (by decide),if_pos rfl,A90 _ _ (C2s args).symm]at hr |-
   have hr':T.rest s.i=(1,nm)::sg 40::(A1z (A3d args)++sg 41::R):=by rw[hr];simp
   obtain⟨c1,c2,c3,c4⟩:=Y9 hr';obtain⟨k1,k2,k3,k4⟩:=Y9 c4;have hlen:=A84 (A:=A1z (A3d args)++ [sg 41]) (R:=R) (by rw[k4];simp) (by simp);rw[D9,A0X]at hlen;obtain⟨l',g1,g2⟩:=C6K args [] ⟨s.i+1+1,s.ds⟩ f (fun x hx=>hA x hx) h3 (by rw[List.length_nil];omega) k4 (by dsimp only;omega);have hn:hd (T.rest (s.i+1+1+(A1z (A3d args)).length))= [41]:=by rw[A2o k4];rfl
   refine⟨.mk 4 nm 0 l' (T.tok s.i).pos (T.endOf (s.i+1+1+(A1z (A3d args)).length+1)),f+1,by rw[Ex.pl,Ex.pl,g1],?_,by simp only[D9,E9,List.length_nil];omega⟩
   rw[A1b];try dsimp only
   rw[A3W];dsimp only
   rw[if_neg (by omega),if_neg (by omega),if_neg (by rw[c2];decide),c3,if_neg (by rintro rfl;revert h1;decide),if_neg (by simp[h1]),if_neg (by rw[A4O (by decide) (by rw[c4];rfl)];decide)];rw[show s.next.next=(⟨s.i+1+1,s.ds⟩:St) from rfl,g2];dsimp only
   rw[A6y (s:=⟨s.i+1+1+(A1z (A3d args)).length,s.ds⟩) (by decide) hn];show opL T (f+1) d m _ (⟨s.i+1+1+(A1z (A3d args)).length+1,s.ds⟩:St)=_
   simp only[D9,E9,List.length_nil,L9];rw[show s.i+(0+1+1+(A1z (A3d args)).length+(0+1))=s.i+1+1+(A1z (A3d args)).length+1 by omega]
   rfl
  ·obtain⟨cc,hcc,rfl,htn⟩:=A7K h1
   have hte:A0N (.mk 3 [cc] 0 args f0 t0)=A0u [cc]:=by rw[B5z,if_neg (by decide)];exact htn
   rw[hte]at hl hm hR;rw[if_neg (by omega)]at h3
   match args,h2,h3,hA with
   | [a,b],_,h3,hA=>
    rw[A2Q,A2Q]at h3;obtain⟨ha,hb,_⟩:=h3;have hSa:=hA a O4;have hSb:=hA b (Z4 _ O4);have t3:=B98 [cc];have hexK:exK (.mk 3 [cc] 0 [a,b] f0 t0)=A5D (decide (A0N a<A0u [cc])) (exK a)++(3,[cc])::A5D (decide (A0N b<A0u [cc]+1)) (exK b):=by
     rw[exK,if_neg (by decide),if_pos rfl,htn,A3d,A3d,A3d];simp
    rw[hexK]at hr |-;have hr':T.rest s.i=A5D (decide (A0N a<A0u [cc])) (exK a)++(3,[cc])::(A5D (decide (A0N b<A0u [cc]+1)) (exK b)++R):=by rw[hr];simp
    have hba:=C42 (b:=decide (A0N a<A0u [cc])) (A92 a ha);have hbb:=C42 (b:=decide (A0N b<A0u [cc]+1)) (A92 b hb);have hlen:=A84 hr' hba.1;have hpa:0<(A5D (decide (A0N a<A0u [cc])) (exK a)).length:=A24.2 hba.1;have hpb:0<(A5D (decide (A0N b<A0u [cc]+1)) (exK b)).length:=A24.2 hbb.1;have hr2:=A2o hr';obtain⟨c1,c2,c3,c4⟩:=Y9 hr2;have h40: [cc]≠ [40]:=by intro e;rw[e]at h1;exact h1 (by decide)
    have left:∃a' f1,a'.pl=a.pl/\A1b T (f+1+1) d m s=opL T f1 d m a' ⟨s.i+(A5D (decide (A0N a<A0u [cc])) (exK a)).length,s.ds⟩/\3 *(T.l.length-(s.i+(A5D (decide (A0N a<A0u [cc])) (exK a)).length))+1<=f1:=by
     by_cases hlt:A0N a<A0u [cc]
     ·rw[decide_eq_true hlt]at hr' hlen hpa |-
      obtain⟨a',g1,g2⟩:=C3E (f:=f+1) hSa (B7q ha hlt (by omega)) hr' (by omega);refine⟨a',f+1,g1,?_,by omega⟩
      rw[A1b];try dsimp only
      rw[g2]
     ·rw[decide_eq_false hlt]at hr' hlen hpa |-
      exact hSa d (A0u [cc]) m s _ (f+1+1) ha (by omega) (by omega) hr' h40 (.inl (by show A0u [cc]<=A0N a;omega)) hf
    obtain⟨a',f1,g1,g2,g3⟩:=left;obtain⟨f2,rfl⟩:∃g,f1=g+1:=⟨f1-1,by omega⟩;have hlen2:=A84 c4 hbb.1;obtain⟨b',k1,k2⟩:=D4c (s:=⟨s.i+(A5D (decide (A0N a<A0u [cc])) (exK a)).length+1,s.ds⟩) hSb (d:=d) (m:=A0u [cc]+1) (R:=R) (f:=f2) (by omega) hb c4 h0 (by omega) (by dsimp only;omega);dsimp only at k2;refine⟨.mk 3 [cc] 0 [a',b'] a'.fr (max b'.to a'.to),f2,by rw[Ex.pl,Ex.pl,A1q,A1q,A1q,A1q,A1q,g1,k1];rfl,?_,?_⟩
    ·rw[g2,opL]
     dsimp only
     rw[c3,if_neg (by omega)];show opL T f2 d m (.mk 3 [cc] 0 [a',(A1b T f2 d (A0u [cc]+1) ⟨s.i+(A5D (decide (A0N a<A0u [cc])) (exK a)).length+1,s.ds⟩).1] a'.fr (max (A1b T f2 d (A0u [cc]+1) ⟨s.i+(A5D (decide (A0N a<A0u [cc])) (exK a)).length+1,s.ds⟩).1.to a'.to)) (A1b T f2 d (A0u [cc]+1) ⟨s.i+(A5D (decide (A0N a<A0u [cc])) (exK a)).length+1,s.ds⟩).2=_
     rw[k2];dsimp only
     rw[D9,E9,show s.i+(A5D (decide (A0N a<A0u [cc])) (exK a)).length+1+(A5D (decide (A0N b<A0u [cc]+1)) (exK b)).length=s.i+((A5D (decide (A0N a<A0u [cc])) (exK a)).length+((A5D (decide (A0N b<A0u [cc]+1)) (exK b)).length+1)) by omega]
    ·rw[D9,E9];omega
theorem B8j (T:Src):∀(l:List Ex),D3r T l
 | []=>fun e h=>by cases h
 |a::l=>by
  have h1:=B9Z T a;have h2:=B8j T l;intro e h;rcases W9.1 h with rfl|h
  ·exact h1
  ·exact h2 e h
end
theorem B6D (T:Src) {e:Ex}{d:Nat}{s:St}{R:List KT}{f:Nat} (hfit:e.fitE d 1) (hr:T.rest s.i=exK e++R) (h0:hd R≠ [40]) (hR:A0u (hd R)=0) (hf:3 *(T.l.length-s.i)+3<=f):
  ∃e',e'.pl=e.pl/\A1b T f d 1 s=(e',⟨s.i+(exK e).length,s.ds⟩):=
 B33 (B9Z T e) (B2X e).1 hfit hr h0 (.inr hR) hf
end Go.Sp
namespace Go.Sp
theorem D2Q (s:List UInt8):D5Z ⟨Q5 s,s.length⟩:=fun i h2=>by
 rcases U9 i (Q5 s).length with h|h
 ·rw[Src.tok,N9,F9 h]at h2 |-
  have ok:=A2C s _ (O1 h);dsimp only[Option.getD_some]at h2 |-;generalize (Q5 s)[i]=t at ok h2 |-;have o1:=ok.one.1;have ol:=ok.len;rw[h2]at o1;cases hd:s.drop t.pos with
  |nil=>rw[hd]at o1;cases o1
  |cons c r=>
   have ht:=ok.text;rw[hd]at o1 ht;obtain⟨m,hm⟩:∃m,t.text.length=m+1:=⟨t.text.length-1,by omega⟩;rw[hm,A09]at ht;have hc:A0n c=false:=by
    simp only[one]at o1;split at o1
    ·cases o1
    ·split at o1
     ·cases o1
     ·split at o1
      ·cases o1
      ·rename_i h3;simpa using h3
   rw[ht,name,A9l];simp[hc]
 ·rw[A6A h]at h2;cases h2
theorem D0h {T:Src}{s:St} (h:(if s.i<T.l.length then s.bad T 2 else s).ds= []):s.ds= []/\T.l.length<=s.i:=by
 split at h
 ·exact absurd h (A32 _ _ _)
 ·exact⟨h,by omega⟩
theorem B49 (src:List UInt8) (at_:Int) (h:(item src at_).diags= []):(item src at_).fitI:=by
 have hN:=D2Q src;have hI:=A9r src at_;rw[hI]at h |-;generalize (⟨Q5 src,src.length⟩:Src)=T at h hN |-;have hc:=D0h (T:=T) (s:=(A6t T at_ src.length).2) h;refine { none:=h,named:=?_,label:=?_,kind:=?_,params:=?_,sends:=?_,body:=?_}<;>clear h<;>show _
 all_goals
  dsimp only[B5S];rw[A6t]at hc |-;by_cases c1:T.is 0 [102,110]=true
  ·rw[if_pos c1]at hc |-
   have hc:=hc.1;dsimp only[A7Z]at hc |-;have e5:=(A87 T _).1 _ _|>.clean hc
   have gB:=(B7w hN _).1 _ _ (by rw[A8s];omega) hc;have g4:(lab T (((A52 T 6 [] ((St.named T ⟨1,[]⟩).2.need T [40]).2).2.need T [41]).2.need T [58]).2).2.ds= []/\∀r:List Rf×St,r=(if T.is (lab T (((A52 T 6 [] ((St.named T ⟨1,[]⟩).2.need T [40]).2).2.need T [41]).2.need T [58]).2).2.i [115,101,110,100,115]=true then A5T T 6 [] (lab T (((A52 T 6 [] ((St.named T ⟨1,[]⟩).2.need T [40]).2).2.need T [41]).2.need T [58]).2).2.next else ([],(lab T (((A52 T 6 [] ((St.named T ⟨1,[]⟩).2.need T [40]).2).2.need T [41]).2.need T [58]).2).2))->r.1.length<=5/\∀p∈r.1,name p.name=true:=by
    split at e5
    ·rename_i hs
     refine⟨((A1l T _).trans (B2O T _ _ _)).clean e5,fun r hr=>?_⟩
     rw[if_pos hs]at hr;subst hr;exact B9t T _ _ _ e5 (H9 _) (fun _ h=>(by cases h))
    ·rename_i hs
     refine⟨e5,fun r hr=>?_⟩
     rw[if_neg hs]at hr;subst hr;exact⟨H9 _,fun _ h=>(by cases h)⟩
   have e3:=(A0H T _ _).clean ((A0H T _ _).clean ((A7j T _).clean g4.1));have gP:=B9s T _ _ _ e3 (H9 _) (fun _ h=>(by cases h));have e1:=B0e ((A0H T _ _).clean ((B2N T _ _ _).clean e3));first
    |exact(by rw[e1.2];exact e1.1)
    |exact B17 _ _
    |exact .inl rfl
    |exact gP
    |exact g4.2 _ rfl
    |exact⟨gB.2.1,gB.2.2⟩
  ·rw[if_neg c1]at hc |-
   by_cases c2:T.is 0 [99,104,97,110]=true
   ·rw[if_pos c2]at hc |-
    have hc:=hc.1;dsimp only[B29]at hc |-;have e1:=B0e ((A0H T _ _).clean ((A7j T _).clean ((A0H T _ _).clean hc)));first
     |exact(by rw[e1.2];exact e1.1)
     |exact B17 _ _
     |exact .inr ⟨rfl,rfl,rfl,rfl⟩
     |exact⟨H9 _,fun _ h=>(by cases h)⟩
     |exact⟨H9 _,by rw[A0J];trivial⟩
   ·rw[if_neg c2]at hc
    exact absurd hc.1 (A32 _ _ _)
theorem B5f:∀k,k<8->C6n [A1Z k]=true/\(([A1Z k]:List UInt8).getD 0 0).toNat-97=k/\chK (A1Z k)=(1,[A1Z k])/\[A1Z k]≠ [125]:=by decide+kernel
theorem C94:((List.range 256).all fun n=>(List.range 8).all fun k=>bit n k||(decide (n+2 ^ k<256) && (List.range 8).all fun j=>decide (k=j)||(bit (n+2 ^ k) j==bit n j)))=true:=by decide+kernel
theorem D3B:∀n,n<256->∀k,k<8->bit n k=false->n+2 ^ k<256/\∀j,j<8->k≠j->bit (n+2 ^ k) j=bit n j:=fun n hn k hk hb=>by
 have h:=A2O.1 (A2O.1 C94 n (A1P.2 hn)) k (A1P.2 hk);rw[hb,Bool.false_or,Q3,decide_eq_true_eq]at h;refine⟨h.1,fun j hj hne=>?_⟩
 have h2:=A2O.1 h.2 j (A1P.2 hj);rw[decide_eq_false hne,Bool.false_or,beq_iff_eq]at h2;exact h2
theorem D2L:∀n,n<256->(A3D n).foldl (fun n k=>n+2 ^ k) 0=n/\(A3D n).Nodup/\(∀k∈A3D n,k<8):=by decide+kernel
theorem B5J:∀(l:List UInt8),l.length<=(A2q l).length
 | []=>H7 _
 | [c]=>H7 _
 |c::d::l=>by
  rw[A2q];have:=B5J (d::l);simp only[E9]at this |-;omega
theorem C2Y {T:Src}{f n k:Nat}{s:St}{R:List KT} (k8:k<8) (kb:bit n k=false) (hr:T.rest s.i=(1,[A1Z k])::R):
  B0H T (f+1) n s=if T.is (s.i+1) [125]=true then B0H T f (n+2 ^ k) s.next else if T.is (s.i+1) [44]=true then B0H T f (n+2 ^ k) s.next.next else (n+2 ^ k,s.next.bad T 2):=by
 obtain⟨l1,l2,l3,l4⟩:=B5f k k8;obtain⟨c1,c2,c3,c4⟩:=Y9 hr;rw[B0H,if_neg (by rw[A6F (by decide) (by rw[hr];exact l4)];decide)];dsimp only
 rw[c3,if_neg (by rw[l1];decide),l2,kb]
 rfl
theorem B9S {T:Src}{R:List KT}:∀(ks:List Nat) (n:Nat) (s:St) (f:Nat),ks.Nodup->(∀k∈ks,k<8/\bit n k=false)->n<256->T.rest s.i=(A2q (ks.map A1Z)).map chK++sg 125::R->ks.length+1<=f->
  B0H T f n s=(ks.foldl (fun n k=>n+2 ^ k) n,⟨s.i+((A2q (ks.map A1Z)).map chK).length+1,s.ds⟩)
 | [],n,s,f,_,_,_,hr,hf=>by
  obtain⟨f,rfl⟩:∃g,f=g+1:=⟨f-1,by omega⟩;rw[B0H,if_pos (A4O (by decide) (by rw[hr];rfl))]
  rfl
 | [k],n,s,f,_,hk,hn,hr,hf=>by
  obtain⟨f,rfl⟩:∃g,f=g+1+1:=⟨f-2,by rw[A0X]at hf;omega⟩;obtain⟨k8,kb⟩:=hk k O4;obtain⟨l1,l2,l3,l4⟩:=B5f k k8;have hr':T.rest s.i=(1,[A1Z k])::sg 125::R:=by rw[hr];simp[A2q,l3]
  obtain⟨c1,c2,c3,c4⟩:=Y9 hr';rw[C2Y k8 kb hr',if_pos (A4O (by decide) (by rw[c4];rfl))];rw[B0H,if_pos (A4O (i:=s.next.i) (by decide) (by rw[U7,c4];rfl))];rw[show (A2q ([k].map A1Z)).map chK= [chK (A1Z k)] from rfl]
  rfl
 |k::j::ks,n,s,f,hd',hk,hn,hr,hf=>by
  obtain⟨f,rfl⟩:∃g,f=g+1:=⟨f-1,by omega⟩;obtain⟨k8,kb⟩:=hk k O4;obtain⟨l1,l2,l3,l4⟩:=B5f k k8;obtain⟨b1,b2⟩:=D3B n hn k k8 kb;rw[A74]at hd';have hr':T.rest s.i=(1,[A1Z k])::sg 44::((A2q ((j::ks).map A1Z)).map chK++sg 125::R):=by
   rw[hr,show (A2q ((k::j::ks).map A1Z)).map chK=chK (A1Z k)::sg 44::(A2q ((j::ks).map A1Z)).map chK from rfl,l3];rfl
  obtain⟨c1,c2,c3,c4⟩:=Y9 hr';obtain⟨_,_,_,c5⟩:=Y9 c4;have ih:=B9S (j::ks) (n+2 ^ k) ⟨s.i+1+1,s.ds⟩ f hd'.2 (fun x hx=>⟨(hk x (Z4 _ hx)).1,by rw[b2 x (hk x (Z4 _ hx)).1 (fun e=>hd'.1 (e ▸ hx))];exact(hk x (Z4 _ hx)).2⟩) b1 c5 (by simp only[E9]at hf |-;omega);rw[C2Y k8 kb hr',if_neg (by rw[A6F (by decide) (by rw[c4];exact(show ([44]:List UInt8)≠ [125] by decide))];decide),if_pos (A4O (by decide) (by rw[c4];rfl))];rw[show s.next.next=(⟨s.i+1+1,s.ds⟩:St) from rfl,ih,A07];dsimp only
  have:((A2q ((k::j::ks).map A1Z)).map chK).length=((A2q ((j::ks).map A1Z)).map chK).length+2:=by simp[A2q]
  rw[this,show s.i+1+1+((A2q ((j::ks).map A1Z)).map chK).length+1=s.i+(((A2q ((j::ks).map A1Z)).map chK).length+2)+1 by omega]
  rfl
theorem C0O (n:Nat):A5k n=sg 123::((A2q ((A3D n).map A1Z)).map chK++ [sg 125]):=by
 rw[A5k,A2X,U4,V5];rfl
theorem B4t {T:Src}{R:List KT}{n:Nat} (hn:n<256) {s:St} (hr:T.rest s.i=A5k n++R):lab T s=(n,⟨s.i+(A5k n).length,s.ds⟩):=by
 obtain⟨t1,t2,t3⟩:=D2L n hn;have hr':T.rest s.i=sg 123::((A2q ((A3D n).map A1Z)).map chK++sg 125::R):=by rw[hr,C0O];simp
 have hl:=A84 hr (by rw[C0O];simp);obtain⟨c1,c2,c3,c4⟩:=Y9 hr';have h1:=B5J ((A3D n).map A1Z);rw[P7]at h1;have hlen:(A5k n).length=(A2q ((A3D n).map A1Z)).length+2:=by rw[C0O];simp
 rw[lab,if_pos (A4O (by decide) (by rw[hr'];rfl)),B9S (A3D n) 0 s.next _ t2 (fun k hk=>⟨t3 k hk,by simp[bit]⟩) (by omega) c4 (by omega),t1,U7,A1t,P7,hlen,
  show s.i+1+(A2q ((A3D n).map A1Z)).length+1=s.i+((A2q ((A3D n).map A1Z)).length+2) by omega]
mutual
def Stm.pl:Stm->Stm
 | .mk k nm _ lb o e thn els _ _=> .mk k nm 0 lb o e.pl (plL thn) (plL els) 0 0
def plL:List Stm->List Stm
 | []=> []
 |x::l=>x.pl::plL l
end
theorem A7T:∀(l:List Stm),(plL l).length=l.length
 | []=>by rw[plL]
 |x::l=>by rw[plL,E9,E9,A7T l]
def D50 (e:Ex):Prop:= ∃nm r,exK e=(1,nm)::r/\name nm=true/\((r= []/\e.kind=2)\/(r≠ []/\hd r≠ [61]))
theorem C7P:∀(e:Ex) {d l:Nat},e.fitE d l->e.spine->D50 e
 | .mk k nm n args f t,d,l,h,hs=>by
  rw[Ex.fitE]at h;rw[Ex.spine]at hs;rcases h.2 with ⟨rfl,_,h1,rfl⟩|⟨rfl,h1,_,rfl⟩|⟨rfl,h1,_,h2,h3⟩|⟨rfl,h1,_,h2,h3⟩
  ·rcases hs with hs|hs|hs<;>omega
  ·exact⟨nm,[],by rw[exK,if_neg (by decide),if_neg (by decide),if_pos rfl],h1,.inl ⟨rfl,rfl⟩⟩
  ·refine⟨nm,sg 40::(B41 (A3d args) args.length++ [sg 41]),?_,h1,.inr ⟨by simp,(show ([40]:List UInt8)≠ [61] by decide)⟩⟩
   rw[exK,if_neg (by decide),if_neg (by decide),if_neg (by decide),if_pos rfl];simp
  ·obtain⟨c,hc,rfl,e1⟩:=A7K h1
   rcases hs with hs|hs|⟨_,hs⟩
   ·omega
   ·omega
   match args,h2,h3,hs with
   | [a,b],_,h3,hs=>
    rw[A2Q]at h3;rw[C56]at hs;obtain⟨s1,s2,s3⟩:=hs;obtain⟨m,r,q1,q2,q3⟩:=C7P a h3.1 s1;have hna:¬A0N a<A0u [c]:=by
     cases a with
     |mk k' nm' n' args' f' t'=>
      rw[B5z];have ha:=h3.1;rw[Ex.fitE]at ha;by_cases hk:k'=3
      ·subst hk
       rw[if_neg (by decide)];rcases ha.2 with ⟨h,_⟩|⟨h,_⟩|⟨h,_⟩|⟨_,h,_⟩
       ·omega
       ·omega
       ·omega
       ·obtain⟨_,_,_,e2⟩:=A7K h
        have:A0u [c]<=A0u nm':=s2 rfl;omega
      ·rw[if_pos hk];have:=B98 [c];omega
    have hexK:exK (.mk 3 [c] n [a,b] f t)=exK a++(3,[c])::A5D (decide (A0N b<A0u [c]+1)) (exK b):=by
     rw[exK,if_neg (by decide),if_pos rfl,e1,A3d,A3d,A3d];show A5D (decide (A0N a<A0u [c])) (exK a)++_++_=_
     rw[decide_eq_false hna];simp[A5D]
    refine⟨m,r++(3,[c])::A5D (decide (A0N b<A0u [c]+1)) (exK b),by rw[hexK,q1];rfl,q2,.inr ⟨by simp,?_⟩⟩
    rcases q3 with ⟨q4,q5⟩|⟨q4,q5⟩
    ·rw[q4];exact s3 q5
    ·rw[B3B q4];exact q5
theorem C3U {e:Ex}{d l:Nat} (h:e.fitE d l) (hs:e.spine) {R:List KT} (hR:hd R≠ [61]):∃nm r,exK e++R=(1,nm)::r/\name nm=true/\hd r≠ [61]:=by
 obtain⟨nm,r,h1,h2,h3⟩:=C7P e h hs;refine⟨nm,r++R,by rw[h1];rfl,h2,?_⟩
 rcases h3 with ⟨rfl,_⟩|⟨h4,h5⟩
 ·exact hR
 ·rw[B3B h4];exact h5
def B3l:List UInt8:= [101,108,115,101]
theorem B0X {nm:List UInt8} (h:name nm=true):nm≠ [108,101,116]/\nm≠ [105,102]/\nm≠ [119,104,105,108,101]/\nm≠ [115,101,110,100]/\nm≠ [114,101,116,117,114,110]/\nm≠B3l/\nm≠ [125]/\nm≠ [102,110]/\nm≠ [99,104,97,110]/\nm≠ [41]/\nm≠ []:=by
 refine⟨?_,?_,?_,?_,?_,?_,?_,?_,?_,?_,?_⟩<;>(rintro rfl;revert h;decide)
theorem B8l (x:Stm) {d:Nat} (h:x.fitS d):B1c x≠ []/\hd (B1c x)≠B3l/\hd (B1c x)≠ [125]:=by
 cases x with
 |mk k nm a lb o e thn els f t=>
  rw[Stm.fitS]at h;obtain⟨he,h⟩:=h;rw[B1c];rcases h with ⟨rfl,h1,_⟩|⟨rfl,h1,_⟩|⟨rfl,h1,_⟩|⟨rfl,_⟩|⟨rfl,_,_,_,_,_,hs⟩|⟨hk,_⟩
  ·rw[if_pos rfl];exact⟨by simp,(show ([108,101,116]:List UInt8)≠B3l by decide),(show ([108,101,116]:List UInt8)≠ [125] by decide)⟩
  ·rw[if_neg (by decide),if_pos rfl]
   have:=B0X h1;exact⟨by simp,this.2.2.2.2.2.1,this.2.2.2.2.2.2.1⟩
  ·rw[if_neg (by decide),if_neg (by decide),if_pos rfl];exact⟨by simp,(show ([115,101,110,100]:List UInt8)≠B3l by decide),(show ([115,101,110,100]:List UInt8)≠ [125] by decide)⟩
  ·rw[if_neg (by decide),if_neg (by decide),if_neg (by decide),if_pos rfl];exact⟨by simp,(show ([114,101,116,117,114,110]:List UInt8)≠B3l by decide),(show ([114,101,116,117,114,110]:List UInt8)≠ [125] by decide)⟩
  ·rw[if_neg (by decide),if_neg (by decide),if_neg (by decide),if_neg (by decide),if_pos rfl]
   obtain⟨m,r,q1,q2,_⟩:=C3U (R:= [sg 59]) he hs (by decide);rw[q1];have:=B0X q2;exact⟨by simp,this.2.2.2.2.2.1,this.2.2.2.2.2.2.1⟩
  ·have hk34:k=3\/k=4:=by rcases hk with hk|⟨hk,_⟩<;>omega
   have n1:¬k=1:=by omega
   have n2:¬k=2:=by omega
   have n5:¬k=5:=by omega
   have n6:¬k=6:=by omega
   have n7:¬k=7:=by omega
   rw[if_neg n1,if_neg n2,if_neg n5,if_neg n6,if_neg n7,if_pos hk34];refine⟨by simp,?_,?_⟩
   ·split
    ·exact(show ([119,104,105,108,101]:List UInt8)≠B3l by decide)
    ·exact(show ([105,102]:List UInt8)≠B3l by decide)
   ·split
    ·exact(show ([119,104,105,108,101]:List UInt8)≠ [125] by decide)
    ·exact(show ([105,102]:List UInt8)≠ [125] by decide)
theorem A79 {T:Src}{s:St}{nm:List UInt8}{R:List KT}{k:Nat} (hr:T.rest s.i=(k,nm)::R) (h:name nm=true):s.named T=(nm,⟨s.i+1,s.ds⟩):=by
 obtain⟨_,_,c3,_⟩:=Y9 hr;rw[St.named,c3,if_pos h]
 rfl
def D8r (T:Src) (x:Stm):Prop:= ∀(d:Nat) (s:St) (R:List KT) (f:Nat),x.fitS d->T.rest s.i=B1c x++R->hd R≠B3l->5 *(T.l.length-s.i)+5<=f->
 ∃x',x'.pl=x.pl/\stm T f d s=(x',⟨s.i+(B1c x).length,s.ds⟩)
def D5C (T:Src) (l:List Stm):Prop:= ∀(d:Nat) (done:List Stm) (s:St) (R:List KT) (f:Nat),A0J l d->done.length+l.length<=40->T.rest s.i=A2l l++sg 125::R->5 *(T.l.length-s.i)+6<=f->
 ∃l',plL l'=plL l/\A5U T f d done s=(done++l',⟨s.i+(A2l l).length,s.ds⟩)
theorem B1N {T:Src}{l:List Stm} (hl:D5C T l) {d:Nat}{s:St}{R:List KT}{f:Nat} (hd12:d<12) (hfit:A0J l (d+1)) (hlen:l.length<=40) (hr:T.rest s.i=sg 123::(A2l l++sg 125::R)) (hf:5 *(T.l.length-s.i)+2<=f):
  ∃l',plL l'=plL l/\block T f d s=(l',⟨s.i+(A2l l).length+2,s.ds⟩):=by
 obtain⟨f,rfl⟩:∃g,f=g+1:=⟨f-1,by omega⟩;obtain⟨c1,c2,c3,c4⟩:=Y9 hr;obtain⟨l',h1,h2⟩:=hl (d+1) [] ⟨s.i+1,s.ds⟩ R f hfit (by rw[List.length_nil];omega) c4 (by dsimp only;omega);refine⟨l',h1,?_⟩
 rw[block,if_neg (by rw[A4O (by decide) (by rw[hr];rfl)];decide),if_neg (by omega)];dsimp only
 rw[show s.next=(⟨s.i+1,s.ds⟩:St) from rfl,h2];dsimp only
 have hn:hd (T.rest (s.i+1+(A2l l).length))= [125]:=by rw[A2o c4];rfl
 rw[A6y (s:=⟨s.i+1+(A2l l).length,s.ds⟩) (by decide) hn,L9];show (l',(⟨s.i+1+(A2l l).length+1,s.ds⟩:St))=_
 rw[show s.i+1+(A2l l).length+1=s.i+(A2l l).length+2 by omega]
theorem B2v {T:Src}{e:Ex}{d:Nat}{s:St}{R:List KT}{f:Nat} (hfit:e.fitE d 1) (hr:T.rest s.i=exK e++sg 59::R) (hf:3 *(T.l.length-s.i)+3<=f):
  ∃e',e'.pl=e.pl/\A1b T f d 1 s=(e',⟨s.i+(exK e).length,s.ds⟩)/\((⟨s.i+(exK e).length,s.ds⟩:St).need T [59]).2=⟨s.i+(exK e).length+1,s.ds⟩:=by
 obtain⟨e',h1,h2⟩:=B6D T (s:=s) hfit hr (show ([59]:List UInt8)≠ [40] by decide) (show A0u [59]=0 by decide) hf;have hn:hd (T.rest (s.i+(exK e).length))= [59]:=by rw[A2o hr];rfl
 exact⟨e',h1,h2,by rw[A6y (s:=⟨s.i+(exK e).length,s.ds⟩) (by decide) hn];rfl⟩
mutual
theorem D5b (T:Src):∀(x:Stm),D8r T x
 | .mk k nm a lb o e thn els f0 t0=>by
  have hT:=B4E T thn;have hE:=B4E T els;intro d s R f hfit hr hR hf;obtain⟨f,rfl⟩:∃g,f=g+1:=⟨f-1,by omega⟩;rw[Stm.fitS]at hfit;obtain⟨he,hfit⟩:=hfit;rcases hfit with ⟨rfl,h1,h2,h3,rfl,rfl⟩|⟨rfl,h1,rfl,rfl,rfl,rfl⟩|⟨rfl,h1,rfl,rfl,rfl,rfl⟩|⟨rfl,rfl,rfl,rfl,rfl,rfl⟩|⟨rfl,rfl,rfl,rfl,rfl,rfl,hsp⟩|⟨hk,rfl,rfl,rfl,hd12,ht40,he40,hTf,hEf⟩
  ·rw[B1c,if_pos rfl]at hr |-
   rw[stm];dsimp only
   cases o with
   |true=>
    obtain rfl:=h3 rfl;have hr':T.rest s.i=C2X::(1,nm)::sg 61::(exK e++sg 59::R):=by rw[hr];simp
    obtain⟨c1,_,c3,c4⟩:=Y9 hr';obtain⟨d1,_,_,d4⟩:=Y9 c4;obtain⟨e1,_,_,e4⟩:=Y9 d4;obtain⟨e',g1,g2,g3⟩:=B2v (s:=⟨s.i+1+1+1,s.ds⟩) (f:=f) he e4 (by dsimp only;omega);dsimp only at g2 g3;rw[c3,if_pos rfl,show s.next=(⟨s.i+1,s.ds⟩:St) from rfl,A79 (s:=⟨s.i+1,s.ds⟩) c4 h1];dsimp only
    rw[A6F (by decide) (by rw[d4];exact(show ([61]:List UInt8)≠ [58] by decide))];simp only[Bool.not_false,if_true];rw[A6y (s:=⟨s.i+1+1,s.ds⟩) (by decide) (by rw[d4];rfl),show (⟨s.i+1+1,s.ds⟩:St).next=⟨s.i+1+1+1,s.ds⟩ from rfl,g2];dsimp only
    rw[g3];refine⟨_,?_,by simp only[E9,D9,List.length_nil];rw[show s.i+1+1+1+(exK e).length+1=s.i+(0+((exK e).length+(0+1)+1)+1+1) by omega]⟩
    rw[Stm.pl,Stm.pl,g1]
   |false=>
    have hr':T.rest s.i=C2X::(1,nm)::sg 58::(A5k lb++sg 61::(exK e++sg 59::R)):=by rw[hr];simp
    obtain⟨c1,_,c3,c4⟩:=Y9 hr';obtain⟨d1,_,_,d4⟩:=Y9 c4;obtain⟨e1,_,_,e4⟩:=Y9 d4;have q1:=A2o e4;obtain⟨k1,_,_,k4⟩:=Y9 q1;obtain⟨e',g1,g2,g3⟩:=B2v (s:=⟨s.i+1+1+1+(A5k lb).length+1,s.ds⟩) (f:=f) he k4 (by dsimp only;omega);dsimp only at g2 g3;rw[c3,if_pos rfl,show s.next=(⟨s.i+1,s.ds⟩:St) from rfl,A79 (s:=⟨s.i+1,s.ds⟩) c4 h1];dsimp only
    rw[A4O (by decide) (by rw[d4];rfl)];simp only[A78,A3A,if_false];rw[show (⟨s.i+1+1,s.ds⟩:St).next=⟨s.i+1+1+1,s.ds⟩ from rfl,B4t (s:=⟨s.i+1+1+1,s.ds⟩) h2 e4];dsimp only
    rw[A6y (s:=⟨s.i+1+1+1+(A5k lb).length,s.ds⟩) (by decide) (by rw[q1];rfl),show (⟨s.i+1+1+1+(A5k lb).length,s.ds⟩:St).next=⟨s.i+1+1+1+(A5k lb).length+1,s.ds⟩ from rfl,g2];dsimp only
    rw[g3];refine⟨_,?_,by simp only[E9,D9,List.length_nil];rw[show s.i+1+1+1+(A5k lb).length+1+(exK e).length+1=s.i+((A5k lb).length+1+((exK e).length+(0+1)+1)+1+1) by omega]⟩
    rw[Stm.pl,Stm.pl,g1]
  ·rw[B1c,if_neg (by decide),if_pos rfl]at hr |-
   rw[stm];dsimp only
   have hr':T.rest s.i=(1,nm)::sg 61::(exK e++sg 59::R):=by rw[hr];simp
   obtain⟨c1,_,c3,c4⟩:=Y9 hr';obtain⟨d1,_,_,d4⟩:=Y9 c4;obtain⟨w1,w2,w3,w4,w5,_⟩:=B0X h1;obtain⟨e',g1,g2,g3⟩:=B2v (s:=⟨s.i+1+1,s.ds⟩) (f:=f) he d4 (by dsimp only;omega);dsimp only at g2 g3;rw[c3,if_neg w1,if_neg w2,if_neg w3,if_neg w4,if_neg w5,if_pos h1,if_pos (A4O (by decide) (by rw[c4];rfl)),show s.next.next=(⟨s.i+1+1,s.ds⟩:St) from rfl,g2];dsimp only
   rw[g3];refine⟨_,?_,by simp only[E9,D9,List.length_nil];rw[show s.i+1+1+(exK e).length+1=s.i+((exK e).length+(0+1)+1+1) by omega]⟩
   rw[Stm.pl,Stm.pl,g1]
  ·rw[B1c,if_neg (by decide),if_neg (by decide),if_pos rfl]at hr |-
   rw[stm];dsimp only
   have hr':T.rest s.i=C0N::(1,nm)::(exK e++sg 59::R):=by rw[hr];simp
   obtain⟨c1,_,c3,c4⟩:=Y9 hr';obtain⟨d1,_,_,d4⟩:=Y9 c4;obtain⟨e',g1,g2,g3⟩:=B2v (s:=⟨s.i+1+1,s.ds⟩) (f:=f) he d4 (by dsimp only;omega);dsimp only at g2 g3;rw[c3,if_neg (by decide),if_neg (by decide),if_neg (by decide),if_pos rfl,show s.next=(⟨s.i+1,s.ds⟩:St) from rfl,A79 (s:=⟨s.i+1,s.ds⟩) c4 h1];dsimp only
   rw[g2];dsimp only
   rw[g3];refine⟨_,?_,by simp only[E9,D9,List.length_nil];rw[show s.i+1+1+(exK e).length+1=s.i+((exK e).length+(0+1)+1+1) by omega]⟩
   rw[Stm.pl,Stm.pl,g1]
  ·rw[B1c,if_neg (by decide),if_neg (by decide),if_neg (by decide),if_pos rfl]at hr |-
   rw[stm];dsimp only
   have hr':T.rest s.i=C7g::(exK e++sg 59::R):=by rw[hr];simp
   obtain⟨c1,_,c3,c4⟩:=Y9 hr';obtain⟨e',g1,g2,g3⟩:=B2v (s:=⟨s.i+1,s.ds⟩) (f:=f) he c4 (by dsimp only;omega);dsimp only at g2 g3;rw[c3,if_neg (by decide),if_neg (by decide),if_neg (by decide),if_neg (by decide),if_pos rfl,show s.next=(⟨s.i+1,s.ds⟩:St) from rfl,g2];dsimp only
   rw[g3];refine⟨_,?_,by simp only[E9,D9,List.length_nil];rw[show s.i+1+(exK e).length+1=s.i+((exK e).length+(0+1)+1) by omega]⟩
   rw[Stm.pl,Stm.pl,g1]
  ·rw[B1c,if_neg (by decide),if_neg (by decide),if_neg (by decide),if_neg (by decide),if_pos rfl]at hr |-
   rw[stm];dsimp only
   have hr':T.rest s.i=exK e++sg 59::R:=by rw[hr];simp
   obtain⟨m,r,q1,q2,q3⟩:=C3U (R:=sg 59::R) he hsp (show ([59]:List UInt8)≠ [61] by decide);obtain⟨c1,_,c3,c4⟩:=Y9 (hr'.trans q1);obtain⟨w1,w2,w3,w4,w5,_⟩:=B0X q2;obtain⟨e',g1,g2,g3⟩:=B2v (s:=s) (f:=f) he hr' (by omega);rw[c3,if_neg w1,if_neg w2,if_neg w3,if_neg w4,if_neg w5,if_pos q2,if_neg (by rw[A6F (by decide) (by rw[c4];exact q3)];decide),g2];dsimp only
   rw[g3];refine⟨_,?_,by simp only[E9,D9,List.length_nil];rw[show s.i+(exK e).length+1=s.i+((exK e).length+(0+1)) by omega]⟩
   rw[Stm.pl,Stm.pl,g1]
  ·have hk34:k=3\/k=4:=by rcases hk with hk|⟨hk,_⟩<;>omega
   have n1:¬k=1:=by omega
   have n2:¬k=2:=by omega
   have n5:¬k=5:=by omega
   have n6:¬k=6:=by omega
   have n7:¬k=7:=by omega
   rw[B1c,if_neg n1,if_neg n2,if_neg n5,if_neg n6,if_neg n7,if_pos hk34]at hr |-;by_cases hk4:k=4
   ·obtain⟨_,hels⟩:k=4/\els= []:=by
     rcases hk with hk|hk
     ·omega
     ·exact hk
    subst hk4;subst hels;rw[if_pos rfl,if_neg (by decide)]at hr |-;rw[stm];dsimp only
    have hr':T.rest s.i=B0G::(exK e++sg 123::(A2l thn++sg 125::R)):=by rw[hr];simp
    obtain⟨c1,_,c3,c4⟩:=Y9 hr';obtain⟨e',g1,g2⟩:=B6D T (s:=⟨s.i+1,s.ds⟩) (f:=f) he c4 (show ([123]:List UInt8)≠ [40] by decide) (show A0u [123]=0 by decide) (by dsimp only;omega);dsimp only at g2;have q1:=A2o c4;obtain⟨l',b1,b2⟩:=B1N hT (s:=⟨s.i+1+(exK e).length,s.ds⟩) (f:=f) hd12 hTf ht40 q1 (by dsimp only;omega);dsimp only at b2;rw[c3,if_neg (by decide),if_neg (by decide),if_pos rfl,show s.next=(⟨s.i+1,s.ds⟩:St) from rfl,g2];dsimp only
    rw[b2];refine⟨_,?_,by simp only[E9,D9,List.length_nil];rw[show s.i+1+(exK e).length+(A2l thn).length+2=s.i+((exK e).length+((A2l thn).length+(0+1)+1)+0+1) by omega]⟩
    rw[Stm.pl,Stm.pl,g1,b1]
   ·have hk3:k=3:=by omega
    subst hk3;rw[if_neg (by decide)]at hr |-;by_cases hel:0<els.length
    ·rw[if_pos hel]at hr |-
     rw[stm];dsimp only
     have hr':T.rest s.i=C2W::(exK e++sg 123::(A2l thn++sg 125::(C0M::sg 123::(A2l els++sg 125::R)))):=by rw[hr];simp
     obtain⟨c1,_,c3,c4⟩:=Y9 hr';obtain⟨e',g1,g2⟩:=B6D T (s:=⟨s.i+1,s.ds⟩) (f:=f) he c4 (show ([123]:List UInt8)≠ [40] by decide) (show A0u [123]=0 by decide) (by dsimp only;omega);dsimp only at g2;have q1:=A2o c4;obtain⟨l',b1,b2⟩:=B1N hT (s:=⟨s.i+1+(exK e).length,s.ds⟩) (f:=f) hd12 hTf ht40 q1 (by dsimp only;omega);dsimp only at b2;obtain⟨_,_,_,q2⟩:=Y9 q1;have q3:=A2o q2;obtain⟨_,_,_,q4⟩:=Y9 q3;obtain⟨_,_,_,q5⟩:=Y9 q4;have ei:s.i+1+(exK e).length+1+(A2l thn).length+1=s.i+1+(exK e).length+(A2l thn).length+2:=by omega
     rw[ei]at q4 q5;obtain⟨l2,b3,b4⟩:=B1N hE (s:=⟨s.i+1+(exK e).length+(A2l thn).length+2+1,s.ds⟩) (f:=f) hd12 hEf he40 q5 (by dsimp only;omega);dsimp only at b4;rw[c3,if_neg (by decide),if_pos rfl,show s.next=(⟨s.i+1,s.ds⟩:St) from rfl,g2];dsimp only
     rw[b2];dsimp only
     rw[if_pos (A4O (by decide) (by rw[q4];rfl)),show (⟨s.i+1+(exK e).length+(A2l thn).length+2,s.ds⟩:St).next=⟨s.i+1+(exK e).length+(A2l thn).length+2+1,s.ds⟩ from rfl,b4];refine⟨_,?_,by simp only[E9,D9,List.length_nil];rw[show s.i+1+(exK e).length+(A2l thn).length+2+1+(A2l els).length+2=s.i+((exK e).length+((A2l thn).length+(0+1)+1)+((A2l els).length+(0+1)+1+1)+1) by omega]⟩
     rw[Stm.pl,Stm.pl,g1,b1,b3]
    ·obtain rfl:els= []:=A05 (by omega)
     rw[if_neg hel]at hr |-;rw[stm];dsimp only
     have hr':T.rest s.i=C2W::(exK e++sg 123::(A2l thn++sg 125::R)):=by rw[hr];simp
     obtain⟨c1,_,c3,c4⟩:=Y9 hr';obtain⟨e',g1,g2⟩:=B6D T (s:=⟨s.i+1,s.ds⟩) (f:=f) he c4 (show ([123]:List UInt8)≠ [40] by decide) (show A0u [123]=0 by decide) (by dsimp only;omega);dsimp only at g2;have q1:=A2o c4;obtain⟨l',b1,b2⟩:=B1N hT (s:=⟨s.i+1+(exK e).length,s.ds⟩) (f:=f) hd12 hTf ht40 q1 (by dsimp only;omega);dsimp only at b2;obtain⟨_,_,_,q2⟩:=Y9 q1;have q3:=A2o q2;obtain⟨_,_,_,q4⟩:=Y9 q3;have ei:s.i+1+(exK e).length+1+(A2l thn).length+1=s.i+1+(exK e).length+(A2l thn).length+2:=by omega
     rw[ei]at q4;rw[c3,if_neg (by decide),if_pos rfl,show s.next=(⟨s.i+1,s.ds⟩:St) from rfl,g2];dsimp only
     rw[b2];dsimp only
     rw[if_neg (by rw[A6F (by decide) (by rw[q4];exact hR)];decide)];refine⟨_,?_,by simp only[E9,D9,List.length_nil];rw[show s.i+1+(exK e).length+(A2l thn).length+2=s.i+((exK e).length+((A2l thn).length+(0+1)+1)+0+1) by omega]⟩
     rw[Stm.pl,Stm.pl,g1,b1]
theorem B4E (T:Src):∀(l:List Stm),D5C T l
 | []=>by
  intro d done s R f _ _ hr hf;obtain⟨f,rfl⟩:∃g,f=g+1:=⟨f-1,by omega⟩;refine⟨[],rfl,?_⟩
  rw[A2l]at hr |-;rw[A5U,if_pos (.inr (A4O (by decide) (by rw[hr];rfl))),J4]
  rfl
 |x::l=>by
  have h1:=D5b T x;have h2:=B4E T l;intro d done s R f hfit hlen hr hf;obtain⟨f,rfl⟩:∃g,f=g+1:=⟨f-1,by omega⟩;rw[A0J]at hfit;rw[E9]at hlen;rw[A2l]at hr |-;rw[J5]at hr;obtain⟨b1,b2,b3⟩:=B8l x hfit.1;have hpos:0<(B1c x).length:=A24.2 b1;have hl:=A84 hr b1;have hR:hd (A2l l++sg 125::R)≠B3l:=by
   cases l with
   |nil=>rw[A2l];exact(show ([125]:List UInt8)≠B3l by decide)
   |cons y l=>
    rw[A0J]at hfit;obtain⟨a1,a2,_⟩:=B8l y hfit.2.1;rw[A2l,J5,B3B a1];exact a2
  obtain⟨x',g1,g2⟩:=h1 d s _ f hfit.1 hr hR (by omega);obtain⟨l',g3,g4⟩:=h2 d (done++ [x']) ⟨s.i+(B1c x).length,s.ds⟩ R f hfit.2 (by rw[D9,A0X];omega) (A2o hr) (by dsimp only;omega);refine⟨x'::l',by rw[plL,plL,g1,g3],?_⟩
  rw[A5U,if_neg (by
   rintro(h|h)
   ·omega
   ·rw[A6F (by decide) (by rw[hr,B3B b1];exact b3)]at h;cases h),if_neg (by omega)]
  dsimp only
  rw[g2];dsimp only
  rw[if_neg (by omega),g4];dsimp only
  rw[J5,D9,A3a]
  rfl
end
def Par.pl (p:Par):Par:=⟨p.name,p.label,0⟩
def Rf.pl (p:Rf):Rf:=⟨p.name,0⟩
def Itm.pl (it:Itm):Itm:= { it with at_:=0,size:=0,mark:=0,body:=plL it.body,params:=it.params.map Par.pl,sends:=it.sends.map Rf.pl,diags:= []}
theorem B9T {T:Src}{R:List KT}:∀(l done:List Par) (s:St) (f:Nat),(∀p∈l,name p.name=true/\p.label<256)->done.length+l.length<=5->T.rest s.i=A1z (A4B l)++sg 41::R->l.length+1<=f->
  ∃l',l'.map Par.pl=l.map Par.pl/\A52 T f done s=(done++l',⟨s.i+(A1z (A4B l)).length,s.ds⟩)
 | [],done,s,f,_,_,hr,hf=>by
  obtain⟨f,rfl⟩:∃g,f=g+1:=⟨f-1,by omega⟩;refine⟨[],rfl,?_⟩
  rw[A52,if_pos (.inr (A4O (by decide) (by rw[hr];rfl))),J4]
  rfl
 |p::l,done,s,f,hp,hl,hr,hf=>by
  obtain⟨f,rfl⟩:∃g,f=g+1:=⟨f-1,by omega⟩;obtain⟨h1,h2⟩:=hp p O4;have hj:∃S,A1z (A4B (p::l))++sg 41::R=(1,p.name)::sg 58::(A5k p.label++S)/\((l= []/\S=sg 41::R/\(A1z (A4B (p::l))).length=(A5k p.label).length+2)\/(l≠ []/\S=sg 44::(A1z (A4B l)++sg 41::R)/\(A1z (A4B (p::l))).length=(A5k p.label).length+3+(A1z (A4B l)).length)):=by
   cases l with
   |nil=>exact⟨_,by simp[A4B,A1z,C3A],.inl ⟨rfl,rfl,by simp[A4B,A1z,C3A]⟩⟩
   |cons q l=>exact⟨_,by simp[A4B,A1z,C3A],.inr ⟨by simp,rfl,by simp[A4B,A1z,C3A];omega⟩⟩
  obtain⟨S,hS,hc⟩:=hj;rw[hS]at hr;obtain⟨c1,_,c3,c4⟩:=Y9 hr;obtain⟨_,_,_,d4⟩:=Y9 c4;have q1:=A2o d4;obtain⟨_,_,w3,w4,w5,w6,w7,w8,w9,w41,w0⟩:=B0X h1;rw[A52,if_neg (by
   rintro(h|h)
   ·omega
   ·rw[A6F (by decide) (by rw[hr];exact w41)]at h;cases h),if_neg (by rw[E9]at hl;omega)]
  dsimp only
  rw[A79 (s:=s) hr h1];dsimp only
  rw[A6y (s:=⟨s.i+1,s.ds⟩) (by decide) (by rw[c4];rfl)];simp only[A78,A3A,if_false];rw[show (⟨s.i+1,s.ds⟩:St).next=⟨s.i+1+1,s.ds⟩ from rfl,B4t (s:=⟨s.i+1+1,s.ds⟩) h2 d4];dsimp only
  rcases hc with ⟨rfl,rfl,hlen⟩|⟨hne,rfl,hlen⟩
  ·refine⟨[⟨p.name,p.label,(T.tok s.i).pos⟩],rfl,?_⟩
   rw[if_neg (by rw[A6F (by decide) (by rw[q1];exact(show ([41]:List UInt8)≠ [44] by decide))];decide),hlen,show s.i+1+1+(A5k p.label).length=s.i+((A5k p.label).length+2) by omega]
  ·obtain⟨_,_,_,r4⟩:=Y9 q1
   obtain⟨l',g1,g2⟩:=B9T l (done++ [⟨p.name,p.label,(T.tok s.i).pos⟩]) ⟨s.i+1+1+(A5k p.label).length+1,s.ds⟩ f (fun x hx=>hp x (Z4 _ hx)) (by rw[D9,A0X];rw[E9]at hl;omega) r4 (by rw[E9]at hf;omega);refine⟨⟨p.name,p.label,(T.tok s.i).pos⟩::l',by rw[U4,U4,g1];rfl,?_⟩
   rw[if_pos (A4O (by decide) (by rw[q1];rfl)),show (⟨s.i+1+1+(A5k p.label).length,s.ds⟩:St).next=⟨s.i+1+1+(A5k p.label).length+1,s.ds⟩ from rfl,g2,J5,hlen];dsimp only
   rw[show s.i+1+1+(A5k p.label).length+1+(A1z (A4B l)).length=s.i+((A5k p.label).length+3+(A1z (A4B l)).length) by omega]
   rfl
def A8d (l:List Rf):List (List KT):=l.map (fun x=> [(1,x.name)])
theorem B5w (l:List Rf):∀k,k<=l.length->B6j l k=if k=0 then [] else A7P::A1z ((A8d l).take k)
 |0,_=>rfl
 |k+1,h=>by
  have hg:l[k]?=some l[k]:=F9 (by omega);have hg2:(A8d l)[k]?=some [(1,l[k].name)]:=by rw[A8d,Y6,hg];rfl
  rw[B5x,B5w l k (by omega),if_neg (by omega:¬k+1=0),A2N,hg2,N9,hg];show _=A7P::A1z ((A8d l).take k++ [[(1,l[k].name)]])
  cases k with
  |zero=>rfl
  |succ k=>
   rw[if_neg (by omega),if_neg (by omega),B3G _ _ (by intro e;have:=congrArg List.length e;rw[P9,A8d,P7,List.length_nil]at this;omega)]
   rfl
theorem B9U {T:Src}{R:List KT} (hR:hd R≠ [44]):∀(l done:List Rf) (s:St) (f:Nat),l≠ []->(∀p∈l,name p.name=true)->done.length+l.length<=5->T.rest s.i=A1z (A8d l)++R->l.length<=f->
  ∃l',l'.map Rf.pl=l.map Rf.pl/\A5T T f done s=(done++l',⟨s.i+(A1z (A8d l)).length,s.ds⟩)
 | [],done,s,f,h,_,_,_,_=>absurd rfl h
 | [p],done,s,f,_,hp,hl,hr,hf=>by
  obtain⟨f,rfl⟩:∃g,f=g+1:=⟨f-1,by rw[A0X]at hf;omega⟩;have h1:=hp p O4;have hr':T.rest s.i=(1,p.name)::R:=hr;obtain⟨c1,_,c3,c4⟩:=Y9 hr';refine⟨[⟨p.name,(T.tok s.i).pos⟩],rfl,?_⟩
  rw[A5T,if_neg (by rw[A0X]at hl;omega)];dsimp only
  rw[A79 (s:=s) hr' h1];dsimp only
  rw[if_neg (by rw[A6F (by decide) (by rw[c4];exact hR)];decide)]
  rfl
 |p::q::l,done,s,f,_,hp,hl,hr,hf=>by
  obtain⟨f,rfl⟩:∃g,f=g+1:=⟨f-1,by simp only[E9]at hf;omega⟩;have h1:=hp p O4;have hr':T.rest s.i=(1,p.name)::sg 44::(A1z (A8d (q::l))++R):=hr;obtain⟨c1,_,c3,c4⟩:=Y9 hr';obtain⟨_,_,_,c5⟩:=Y9 c4;obtain⟨l',g1,g2⟩:=B9U hR (q::l) (done++ [⟨p.name,(T.tok s.i).pos⟩]) ⟨s.i+1+1,s.ds⟩ f (by simp) (fun x hx=>hp x (Z4 _ hx)) (by rw[D9,A0X];simp only[E9]at hl |-;omega) c5 (by simp only[E9]at hf |-;omega);refine⟨⟨p.name,(T.tok s.i).pos⟩::l',by rw[U4,g1];rfl,?_⟩
  rw[A5T,if_neg (by simp only[E9]at hl;omega)];dsimp only
  rw[A79 (s:=s) hr' h1];dsimp only
  rw[if_pos (A4O (by decide) (by rw[c4];rfl)),show (⟨s.i+1,s.ds⟩:St).next=⟨s.i+1+1,s.ds⟩ from rfl,g2,J5];dsimp only
  have:(A1z (A8d (p::q::l))).length=(A1z (A8d (q::l))).length+2:=by simp[A8d,A1z]
  rw[this,show s.i+1+1+(A1z (A8d (q::l))).length=s.i+((A1z (A8d (q::l))).length+2) by omega]
  rfl
theorem D3Q (T:Src) (i:Nat):5 *(T.l.length-i)+2<=A8s T:=by rw[A8s];omega
theorem B9R {src:List UInt8}{it:Itm} (h:it.fitI) (hr:(Q5 src).map kt=A7u it) (at_:Int):(item src at_).pl=it.pl/\(item src at_).diags= []/\(item src at_).at_=at_/\(item src at_).size=src.length:=by
 rw[A9r src at_];generalize hT:(⟨Q5 src,src.length⟩:Src)=T;have hl:T.l=Q5 src:=by rw[<-hT]
 have h0:T.rest 0=A7u it:=by rw[Src.rest,A2t,hl];exact hr
 have hlen:T.l.length=(A7u it).length:=by rw[<-hr,P7,hl]
 rw[A7u]at h0 hlen;rcases h.kind with h2|⟨hk1,hp0,hs0,hb0⟩
 ·rw[if_neg (by omega),if_pos h2]at h0 hlen
  rw[A90 _ _ (by rw[A4B,P7])]at h0 hlen;obtain⟨_,_,_,c4⟩:=Y9 h0;obtain⟨_,_,_,c5⟩:=Y9 c4;obtain⟨_,_,_,c6⟩:=Y9 c5;have q1:=A2o c6;obtain⟨_,_,_,q2⟩:=Y9 q1;obtain⟨_,_,_,q3⟩:=Y9 q2;have q4:=A2o q3;rw[A6t,if_pos (A4O (by decide) (by rw[h0];rfl)),B5S,A7Z];dsimp only
  rw[A79 (s:=⟨1,[]⟩) c4 h.named];dsimp only
  rw[A6y (s:=⟨1+1,[]⟩) (by decide) (by rw[c5];rfl),show (⟨1+1,[]⟩:St).next=⟨0+1+1+1,[]⟩ from rfl];obtain⟨ps,p1,p2⟩:=B9T it.params [] ⟨0+1+1+1,[]⟩ 6 h.params.2 (by rw[List.length_nil];have:=h.params.1;omega) c6 (by have:=h.params.1;omega);rw[p2];dsimp only
  rw[A6y (s:=⟨0+1+1+1+(A1z (A4B it.params)).length,[]⟩) (by decide) (by rw[q1];rfl),show (⟨0+1+1+1+(A1z (A4B it.params)).length,[]⟩:St).next=⟨0+1+1+1+(A1z (A4B it.params)).length+1,[]⟩ from rfl];rw[A6y (s:=⟨0+1+1+1+(A1z (A4B it.params)).length+1,[]⟩) (by decide) (by rw[q2];rfl),show (⟨0+1+1+1+(A1z (A4B it.params)).length+1,[]⟩:St).next=⟨0+1+1+1+(A1z (A4B it.params)).length+1+1,[]⟩ from rfl];rw[B4t (s:=⟨0+1+1+1+(A1z (A4B it.params)).length+1+1,[]⟩) h.label q3];dsimp only
  generalize hp:0+1+1+1+(A1z (A4B it.params)).length+1+1+(A5k it.label).length=p at q4 |-;have snd:∃l',l'.map Rf.pl=it.sends.map Rf.pl/\(if T.is p [115,101,110,100,115]=true then A5T T 6 [] (⟨p,[]⟩:St).next else ([],⟨p,[]⟩))=(l',⟨p+(B6j it.sends it.sends.length).length,[]⟩):=by
   rw[B5w _ _ (H7 _)]at q4 |-;cases hsl:it.sends with
   |nil=>
    rw[hsl,List.length_nil,if_pos rfl]at q4;refine⟨[],rfl,?_⟩
    rw[if_neg (by rw[A6F (by decide) (by rw[q4];exact(show ([123]:List UInt8)≠ [115,101,110,100,115] by decide))];decide)]
    rfl
   |cons x l=>
    have hne:it.sends≠ []:=by rw[hsl];simp
    have hn0:¬it.sends.length=0:=by rw[hsl];simp
    rw[if_neg hn0]at q4;rw[<-hsl];rw[if_neg hn0];rw[A0W (by rw[A8d,P7];exact H7 _)]at q4 |-;obtain⟨_,_,_,q5⟩:=Y9 (R:=A1z (A8d it.sends)++B8J it.body) q4;obtain⟨l',g1,g2⟩:=B9U (R:=B8J it.body) (show ([123]:List UInt8)≠ [44] by decide) it.sends [] ⟨p+1,[]⟩ 6 hne h.sends.2 (by rw[List.length_nil];have:=h.sends.1;omega) q5 (by have:=h.sends.1;omega);refine⟨l',g1,?_⟩
    rw[if_pos (A4O (by decide) (by rw[q4];rfl)),show (⟨p,[]⟩:St).next=⟨p+1,[]⟩ from rfl,g2,E9];dsimp only
    rw[show p+1+(A1z (A8d it.sends)).length=p+((A1z (A8d it.sends)).length+1) by omega]
    rfl
  obtain⟨l',g1,g2⟩:=snd;rw[g2];dsimp only
  have q6:=A2o q4;have hd0:(0:Nat)<12:=by decide
  obtain⟨bs,b1,b2⟩:=B1N (R:= []) (B4E T it.body) (s:=⟨p+(B6j it.sends it.sends.length).length,[]⟩) (f:=A8s T) hd0 h.body.2 h.body.1 q6 (D3Q T _);rw[b2];dsimp only
  have hend:¬p+(B6j it.sends it.sends.length).length+(A2l it.body).length+2<T.l.length:=by
   rw[hlen, <-hp];simp only[E9,D9,B8J,List.length_nil];omega
  rw[if_neg hend];refine⟨?_,rfl,rfl,rfl⟩
  obtain⟨kd,nm,lb,pp,ss,bb,aa,sz,mk,dg⟩:=it;obtain rfl:kd=2:=h2;simp only[Itm.pl,L9]at p1 g1 b1 |-;rw[p1,g1,b1]
 ·rw[if_pos hk1]at h0 hlen
  obtain⟨_,_,_,c4⟩:=Y9 h0;obtain⟨_,_,_,c5⟩:=Y9 c4;obtain⟨_,_,_,c6⟩:=Y9 c5;have q1:=A2o c6;rw[A6t,B5S,if_neg (by rw[A6F (by decide) (by rw[h0];exact(show ([99,104,97,110]:List UInt8)≠ [102,110] by decide))];decide),if_pos (A4O (by decide) (by rw[h0];rfl)),B29];dsimp only
  rw[A79 (s:=⟨1,[]⟩) c4 h.named];dsimp only
  rw[A6y (s:=⟨1+1,[]⟩) (by decide) (by rw[c5];rfl),show (⟨1+1,[]⟩:St).next=⟨0+1+1+1,[]⟩ from rfl,B4t (s:=⟨0+1+1+1,[]⟩) h.label c6];dsimp only
  rw[A6y (s:=⟨0+1+1+1+(A5k it.label).length,[]⟩) (by decide) (by rw[q1];rfl)];rw[show (⟨0+1+1+1+(A5k it.label).length,[]⟩:St).next=⟨0+1+1+1+(A5k it.label).length+1,[]⟩ from rfl];dsimp only
  have hend:¬0+1+1+1+(A5k it.label).length+1<T.l.length:=by
   rw[hlen];simp only[E9,D9,List.length_nil];omega
  rw[if_neg hend];refine⟨?_,rfl,rfl,rfl⟩
  obtain⟨kd,nm,lb,pp,ss,bb,aa,sz,mk,dg⟩:=it;obtain rfl:kd=1:=hk1;obtain rfl:pp= []:=hp0;obtain rfl:ss= []:=hs0;obtain rfl:bb= []:=hb0
  rfl
end Go.Sp
