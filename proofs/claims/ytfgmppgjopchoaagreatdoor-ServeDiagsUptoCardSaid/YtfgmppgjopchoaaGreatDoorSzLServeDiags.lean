/- Own work: the law ServeDiags. -/
import Derived.Test.YtfgmppgjopchoaaGreatDoorSz27
set_option maxHeartbeats 64000000
namespace Go.Sp
theorem C2L (src:List UInt8) {i j:Nat} (hij:i<j):((⟨S9 src,src.length⟩:Src).tok i).pos+((⟨S9 src,src.length⟩:Src).tok i).text.length<=((⟨S9 src,src.length⟩:Src).tok j).pos:=by
 rcases U0 j (S9 src).length with hj|hj
 ·have hi:i<(S9 src).length:=by omega
  have h3:=A14.1 (A3B src) i j hi hj hij;rw[Src.tok,Src.tok];dsimp only
  rw[O1,O1,G6 hi,G6 hj];exact h3
 ·rw[A4x (T:=⟨S9 src,src.length⟩) hj]
  exact B1m src i
theorem B7j (src:List UInt8) (j:Nat):(⟨S9 src,src.length⟩:Src).endOf j<=src.length:=by
 rw[Src.endOf];split
 ·exact H7 _
 ·exact B1m src _
def inE (m:Nat):PE:=fun _ _ _ _ f t=>f<=t/\t<=m
def inS (m:Nat):PS:=fun _ _ _ _ _ f t=>f<=t/\t<=m
theorem C7K (src:List UInt8):AtE ⟨S9 src,src.length⟩ (inE src.length):=
 ⟨⟨G8 _,H7 _⟩,fun i=>⟨G8 _,B1l src i⟩,fun i _ _ _=>⟨A6J _ _,B1m src i⟩,fun i _=>⟨A6J _ _,B1m src i⟩,fun i j m _ _ h=>by
  refine⟨?_,B7j src j⟩
  rw[Src.endOf,if_neg (by omega)];have:=C2L src (i:=i) (j:=j-1) (by omega);omega,fun i k1 n1 v1 m1 f1 t1 k2 n2 v2 m2 f2 t2 _ h1 h2=>⟨by have:=h1.1;omega,by have:=h1.2;have:=h2.2;omega⟩⟩
theorem B5M (src:List UInt8) (i j:Nat):((⟨S9 src,src.length⟩:Src).tok i).pos<=max ((⟨S9 src,src.length⟩:Src).endOf j) ((⟨S9 src,src.length⟩:Src).tok i).pos/\max ((⟨S9 src,src.length⟩:Src).endOf j) ((⟨S9 src,src.length⟩:Src).tok i).pos<=src.length:=by
 have h1:=B7j src j;have h2:=B1l src i;omega
theorem C7L (src:List UInt8):AtS ⟨S9 src,src.length⟩ (inS src.length):=
 ⟨⟨G8 _,H7 _⟩,fun i _ _ _ j _=>B5M src i j,fun i j _=>B5M src i j,fun _ i j _=>B5M src i j,fun i _ j=>B5M src i j⟩
def NW.all (R:Dg->Prop) (w:NW):Prop:= ∀d∈w.ds,R d
def A8F (q:List UInt8) (R:Dg->Prop):Prop:= ∀a e n,A0C q a n->R ⟨a,a+n.length,e,n⟩
theorem A7K {R:Dg->Prop}{q:List UInt8} (hR:A8F q R) {w:NW} (h:w.all R) {a e:Nat}{n:List UInt8} (hst:A0C q a n):(w.tell a e n).all R:=fun d hd=>by
 rcases X6.1 hd with hd|hd
 ·exact h d hd
 ·rw[A0v.1 hd];exact hR _ _ _ hst
theorem B7I {R:Dg->Prop}{q:List UInt8} (hR:A8F q R) (p:Int) (sc:List Lc) {a:Nat}{n:List UInt8} (hst:A0C q a n) {w:NW} (hw:w.all R):(A7h p sc a n w).all R:=by
 rw[A7h];split
 ·exact hw
 ·split
  ·exact hw
  ·exact A7K hR hw hst
theorem B3B {R:Dg->Prop}{q:List UInt8} (hR:A8F q R) (its:List Itm) (p k:Int) {a:Nat}{n:List UInt8} (hst:A0C q a n) {w:NW} (hw:w.all R):(A4W its p k a n w).all R:=by
 rw[A4W];split
 ·exact hw
 ·split
  ·exact hw
  ·exact A7K hR hw hst
theorem C1y {R:Dg->Prop}{q:List UInt8} (hR:A8F q R) (its:List Itm) (p:Int) {a:Nat}{n:List UInt8} (hst:A0C q a n) (m:Nat) {w:NW} (hw:w.all R):(A4L its p a n m w).all R:=by
 have h:=B3B hR its p 2 hst hw;rw[A4L];split
 ·split
  ·exact A7K hR h hst
  ·exact h
 ·exact h
theorem C0T {R:Dg->Prop}{q:List UInt8} (hR:A8F q R) (sc:List Lc) {a:Nat}{n:List UInt8} (hst:A0C q a n) {w:NW} (hw:w.all R):(mkN n a sc w).2.all R:=by
 rw[mkN];split
 ·exact hw
 ·dsimp only
  split
  ·exact A7K hR hw hst
  ·exact hw
mutual
theorem C0H {R:Dg->Prop}{q:List UInt8} (hR:A8F q R) (its:List Itm) (p:Int) (sc:List Lc):∀(e:Ex),e.all (stE q)->∀ {w:NW},w.all R->(exN its p sc e w).all R
 | .mk k nm n args f t,h,w,hw=>by
  rw[Ex.all]at h;rw[exN];refine B7n hR its p sc args h.2 ?_
  have h1:=h.1;split
  ·rename_i hk;exact B7I hR p sc (h1 (.inl hk)) hw
  ·split
   ·rename_i hk;exact C1y hR its p (h1 (.inr hk)) _ hw
   ·exact hw
theorem B7n {R:Dg->Prop}{q:List UInt8} (hR:A8F q R) (its:List Itm) (p:Int) (sc:List Lc):∀(l:List Ex),A05 (stE q) l->∀ {w:NW},w.all R->(A4C its p sc l w).all R
 | [],_,w,hw=>by rw[A4C];exact hw
 |e::l,h,w,hw=>by
  rw[A05]at h;rw[A4C];exact B7n hR its p sc l h.2 (C0H hR its p sc e h.1 hw)
 end
mutual
theorem C4Y {R:Dg->Prop}{q:List UInt8} (hR:A8F q R) (its:List Itm) (p:Int):∀(x:Stm),x.all (stE q) (stS q)->∀ {sc:List Lc}{w:NW},w.all R->(A5G its p x sc w).2.all R
 | .mk k nm a lb o e thn els f t,h,sc,w,hw=>by
  rw[Stm.all]at h;obtain⟨h1,h2,h3,h4⟩:=h;have he:=C0H hR its p sc e h2 hw;rw[A5G];split
  ·rename_i hk;exact C0T hR sc (h1 (.inl hk)) he
  ·split
   ·rename_i hk;exact B7I hR p sc (h1 (.inr (.inl hk))) he
   ·split
    ·rename_i hk;exact B3B hR its p 1 (h1 (.inr (.inr hk))) he
    ·split
     ·exact A9N hR its p els h4 (A9N hR its p thn h3 he)
     ·exact he
theorem A9N {R:Dg->Prop}{q:List UInt8} (hR:A8F q R) (its:List Itm) (p:Int):∀(l:List Stm),V7 (stE q) (stS q) l->∀ {sc:List Lc}{w:NW},w.all R->(A06 its p l sc w).2.all R
 | [],_,sc,w,hw=>by rw[A06];exact hw
 |x::l,h,sc,w,hw=>by
  rw[V7]at h;rw[A06];exact A9N hR its p l h.2 (C4Y hR its p x h.1 hw)
 end
theorem B76 {R:Dg->Prop}{q:List UInt8} (hR:A8F q R):∀(l:List Par),(∀x∈l,A0C q x.at_ x.name)->∀ {sc:List Lc}{w:NW},w.all R->(A3u l sc w).2.all R
 | [],_,sc,w,hw=>by rw[A3u];exact hw
 |x::l,h,sc,w,hw=>by
  rw[A3u];exact B76 hR l (fun y hy=>h y (A0J _ hy)) (C0T hR sc (h x Q4) hw)
theorem B8o {R:Dg->Prop}{q:List UInt8} (hR:A8F q R) (its:List Itm) (p:Int):∀(l:List Rf),(∀x∈l,A0C q x.at_ x.name)->∀ {dn:List Rf}{w:NW},w.all R->(A5F its p dn l w).all R
 | [],_,dn,w,hw=>by rw[A5F];exact hw
 |x::l,h,dn,w,hw=>by
  rw[A5F];refine B8o hR its p l (fun y hy=>h y (A0J _ hy)) ?_
  have h1:=B3B hR its p 1 (h x Q4) hw;rw[A6j];split
  ·exact A7K hR h1 (h x Q4)
  ·exact h1
theorem C5j {s:List UInt8}{its:List Itm} (hi:∀x∈its,A8M s x) {i:Nat} (hlt:i<its.length):∃p:Nat,(A0h its i).at_=p/\(A20 its i).all (fun d=>d.fr<=d.to/\p+d.to<=s.length):=by
 have hm:A0h its i∈its:=by rw[A0h,O1,G6 hlt];exact O5 hlt
 obtain⟨p,q,h⟩:=hi _ hm;refine⟨p,h.at_,?_⟩
 have hR:A8F q (fun d:Dg=>d.fr<=d.to/\p+d.to<=s.length):=fun a e n hst=>by
  have:=(h.sub a n hst).1;dsimp only
  omega
 have h0:NW0.all (fun d:Dg=>d.fr<=d.to/\p+d.to<=s.length):=fun u hu=>by cases hu
 have h1:(if B0c its i (A0h its i)=true then NW0.tell (A0h its i).mark 7 (A0h its i).name else NW0).all (fun d:Dg=>d.fr<=d.to/\p+d.to<=s.length):=by
  split
  ·exact A7K hR h0 h.mark
  ·exact h0
 rw[A20];split
 ·rw[fnN]
  exact A9N hR its _ _ h.body (B8o hR its _ _ h.sends (B76 hR _ h.params h1))
 ·exact h1
def FW.all (R:Dg->Prop) (w:FW):Prop:= ∀d∈w.ds,R d
def B5r (m:Nat) (R:Dg->Prop):Prop:= ∀f t n,f<=t->t<=m->R ⟨f,t,9,n⟩
theorem A9u {R:Dg->Prop}{m:Nat} (hR:B5r m R) {w:FW} (h:w.all R) (a b:Nat) {f t:Nat} (n:List UInt8) (hf:f<=t/\t<=m):(w.ask a b f t n).all R:=fun d hd=>by
 rw[FW.ask]at hd;split at hd
 ·exact h d hd
 ·rcases X6.1 hd with hd|hd
  ·exact h d hd
  ·rw[A0v.1 hd];exact hR _ _ _ hf.1 hf.2
theorem B2M {R:Dg->Prop}{w:FW} (h:w.all R) (at_:Int) (f t n:Nat):(w.hit at_ f t n).all R:=fun d hd=>by
 rw[FW.hit]at hd;split at hd
 ·exact h d hd
 ·exact h d hd
theorem B5v {R:Dg->Prop}{m:Nat} (hR:B5r m R) (its:List Itm) (un:Nat) (n:List UInt8) {f t:Nat}{w:FW} (h:w.all R) (hf:f<=t/\t<=m):(A3L its un n f t w).all R:=by
 rw[A3L];split
 ·exact A9u hR h _ _ _ hf
 ·exact h
theorem C1w {R:Dg->Prop}{m:Nat} (hR:B5r m R) (its:List Itm) (a:Nat) (n:List UInt8) {f t:Nat}{w:FW} (h:w.all R) (hf:f<=t/\t<=m):(B19 its a n f t w).all R:=by
 rw[B19];split
 ·exact A9u hR h _ _ _ hf
 ·exact h
theorem B8Y {R:Dg->Prop}{m:Nat} (hR:B5r m R) (its:List Itm) (n:List UInt8) (i a:Nat) {f t:Nat}{w:FW} (h:w.all R) (hf:f<=t/\t<=m):(A7P its n i a f t w).all R:=by
 rw[A7P];split
 ·split
  ·exact A9u hR h _ _ _ hf
  ·exact h
 ·exact h
mutual
theorem B5G {R:Dg->Prop}{m:Nat} (hR:B5r m R) (its:List Itm) (at_:Int) (sc:List Lc) (un:Nat):∀(e:Ex),e.all (inE m)->∀ {w:FW},w.all R->(exF its at_ sc un e w).2.all R
 | .mk k nm n args f t,h,w,hw=>by
  rw[Ex.all]at h;rw[exF];split
  ·exact B2M hw _ _ _ _
  ·split
   ·exact B2M (B7Y hR its at_ sc un args h.2 hw) _ _ _ _
   ·split
    ·exact B2M (B5v hR its _ _ (B4u hR its at_ sc un nm args h.2 hw) h.1) _ _ _ _
    ·exact B2M hw _ _ _ _
theorem B7Y {R:Dg->Prop}{m:Nat} (hR:B5r m R) (its:List Itm) (at_:Int) (sc:List Lc) (un:Nat):∀(l:List Ex),A05 (inE m) l->∀ {n:Nat}{w:FW},w.all R->(A36 its at_ sc un l n w).2.all R
 | [],_,n,w,hw=>by rw[A36];exact hw
 |e::l,h,n,w,hw=>by
  rw[A05]at h;rw[A36];exact B7Y hR its at_ sc un l h.2 (B5G hR its at_ sc un e h.1 hw)
theorem B4u {R:Dg->Prop}{m:Nat} (hR:B5r m R) (its:List Itm) (at_:Int) (sc:List Lc) (un:Nat) (nm:List UInt8):∀(l:List Ex),A05 (inE m) l->∀ {i:Nat}{w:FW},w.all R->(A2X its at_ sc un nm l i w).all R
 | [],_,i,w,hw=>by rw[A2X];exact hw
 |e::l,h,i,w,hw=>by
  rw[A05]at h;rw[A2X];exact B4u hR its at_ sc un nm l h.2 (B8Y hR its _ _ _ (B5G hR its at_ sc un e h.1 hw) (Ex.all_node h.1).1)
 end
mutual
theorem C4V {R:Dg->Prop}{m:Nat} (hR:B5r m R) (its:List Itm) (own:Nat) (at_:Int):∀(x:Stm),x.all (inE m) (inS m)->∀ {sc:List Lc}{un:Nat}{w:FW},w.all R->(A7l its own at_ x sc un w).2.all R
 | .mk k nm a lb o e thn els f t,h,sc,un,w,hw=>by
  rw[Stm.all]at h;obtain⟨h1,h2,h3,h4⟩:=h;have he:=fun un1=>B5G hR its at_ sc un1 e h2 hw
  rw[A7l];split
  ·exact A9u hR (he _) _ _ _ h1
  ·split
   ·exact A9u hR (he _) _ _ _ h1
   ·split
    ·exact C1w hR its _ _ (he _) h1
    ·split
     ·exact A9u hR (he _) _ _ _ h1
     ·split
      ·exact A9M hR its own at_ els h4 (A9M hR its own at_ thn h3 (he _))
      ·exact he _
theorem A9M {R:Dg->Prop}{m:Nat} (hR:B5r m R) (its:List Itm) (own:Nat) (at_:Int):∀(l:List Stm),V7 (inE m) (inS m) l->∀ {sc:List Lc}{un:Nat}{w:FW},w.all R->(A1r its own at_ l sc un w).2.all R
 | [],_,sc,un,w,hw=>by rw[A1r];exact hw
 |x::l,h,sc,un,w,hw=>by
  rw[V7]at h;rw[A1r];exact A9M hR its own at_ l h.2 (C4V hR its own at_ x h.1 hw)
 end
theorem C3V (src:List UInt8) (at_:Int):V7 (inE src.length) (inS src.length) (item src at_).body:=
 (B01 (src:=src) at_ (C7K src) (C7L src) (r:=fun _=>True) (t:=fun _=>True) (fun _ _ _=>trivial) (fun _=>trivial)).body
theorem C5v (s:List UInt8) (h0:Y3 s=0):∀d∈A3K (J5 s),0<=d.fr/\d.fr<=d.to/\d.to<=s.length:=by
 intro d hd;rw[A3K,A6s,A5z]at hd;obtain⟨i,hi,hd⟩:=hd;have hi:=A1U.1 hi;have hg:(J5 s)[i]?=some (A0h (J5 s) i):=by rw[A0h,O1,G6 hi];rfl
 have hin:=B5I s h0 hg;have hlen:=hin.len;obtain⟨p,hp,hw⟩:=C5j (B7u s) hi;have hb:V7 (inE (A0h (J5 s) i).size) (inS (A0h (J5 s) i).size) (A0h (J5 s) i).body:=by
  have hmem:=A0F hg;have e:J5 s=A3I s (Y2 s):=by rw[J5,if_pos h0]
  have hk:i<(Y2 s).length:=by rw[e,A7w]at hi;exact hi
  have h1:A0h (J5 s) i=A0P s (Y2 s) i:=by
   rw[e,A9A s _ hk]at hg;rw[e];exact(A0T hg).symm
  rw[h1,A0P,(A5m _ _).1];exact C3V _ _
 rw[B3j,A0s]at hd;obtain⟨x,hx,rfl⟩:=hd;have key:x.fr<=x.to/\p+x.to<=s.length:=by
  have htop:=hin.top;rw[B92]at hx;rcases X6.1 hx with hx|hx
  ·have:=hin.diags x hx
   omega
  ·rcases X6.1 hx with hx|hx
   ·exact hw x hx
   ·rcases X6.1 hx with hx|hx
    ·rw[B0k,A0s]at hx
     obtain⟨c,_,rfl⟩:=hx;exact⟨G8 _,by dsimp only[A9W];omega⟩
    ·rw[A24]at hx
     split at hx
     ·exact A9M (R:=fun d=>d.fr<=d.to/\p+d.to<=s.length) (fun f t n h1 h2=>by dsimp only;omega) _ _ _ _ hb (w:=FW0) (fun d hd=>by cases hd) x hx
     ·cases hx
 have e1:w64 ((x.fr:Int)+p)=x.fr+p:=by rw[w64];omega
 have e2:w64 ((x.to:Int)+p)=x.to+p:=by rw[w64];omega
 rw[A31,hp];dsimp only
 rw[e1,e2];omega
def B7f:Qn:=⟨0,3,0,0,[],[]⟩
end Go.Sp
namespace Go.Proofs
open Go.Proofs.Tryz
open Go.Sp
open Go.Fw
theorem C8u {J:O9} (qs:List Sp.Qn) (q':Sp.Qn) (hq:∀q∈qs,q.text.length<=1099511627776) (hq':q'.text.length<=1099511627776) (hC:Conv J) (hT:A7c J) (hlen:qs.length<=39) (n:Nat) (hn:n=qs.length+1) (a:Option Addr) (cp:Nat) (xs:List Value)
  (h:RowI J 38 6 (.slice a n cp) n xs) (h2:A0L J (qs++ [q']) xs):CalM prog 13 #[.slice a n cp] J [] (fun v I' H'=>H'= []/\∃pa pc ps,v=Value.tuple #[.slice pa (qs.length+1) pc,nt 0]/\RowI I' 46 11 (.slice pa (qs.length+1) pc) (qs.length+1) ps/\A4Y I' (Sp.rpQ A1v qs++ [A9S (Sp.stQ A1v qs) q']) ps):=by
 subst hn;have hP:=B1X (qs:=qs++ [q']) (la:=a) (lc:=cp) (by rw[E9];exact h) h2 (fun q hx=>by
  rcases X6.1 hx with h|h
  ·exact hq q h
  ·rw[A0v.1 h];exact hq') hC hT (by rw[E9];show qs.length+1<=_;omega)
 rw[E9,if_neg (by show ¬40<qs.length+1;omega),A9H]at hP;have hl:(Sp.rpQ A1v qs++Sp.rpQ (Sp.stQ A1v qs) [q']).length=qs.length+1:=by rw[E9,A6g];rfl
 refine hP.mono (fun v I' H' _ ⟨e1,pa,pc,ps,e2,e3,e4⟩=>?_)
 rw[hl]at e2 e3;exact⟨e1,pa,pc,ps,e2,e3,e4⟩
theorem C4a (qs:List Sp.Qn) (q':Sp.Qn):(Sp.rpQ A1v qs++ [A9S (Sp.stQ A1v qs) q'])[qs.length]?=some (A9S (Sp.stQ A1v qs) q'):=by
 rw[A1R (by rw[A6g];exact G8 _),A6g,A3e];rfl
theorem C2C (qs:List Sp.Qn) {la:Option Addr}{lc:Nat}{ys:List Value} (I:O9) (hr:RowI I 38 6 (.slice la qs.length lc) qs.length ys) (hat:A0L I qs ys) (hq:∀q∈qs,q.text.length<=1099511627776) (hlen:qs.length<=1099511627776) (hC:Conv I) (hT:A7c I):
  CalM prog 7 #[.slice la qs.length lc] I [] (fun v _ H'=>v=.bool true/\H'= []):=by
 refine CalM.of fun w E hm=>enter (N:=85) func7 rfl [(0,.slice la qs.length lc)] A0I rfl ?_
 have hAl:=C6W I hC hT;have hone:=hat.one;by_cases h40:40<=qs.length
 ·skip
  repeat' (first|refine F6 (d:=11) ?_ hm (hp:=pm0) (hc:=hAl);clear hm;rintro _ I1 _ _ ⟨rfl,rfl⟩ hleI1 hm;try simp only[F8]at hm|refine D8 ?_|refine D6 ?_|refine A04 ?_|refine G7 ?_|refine Z5 ?_|refine D9 ?_|refine A7 ?_|refine G9 ?_|refine E8 ?_|refine A8 ?_|refine G5 ?_|refine H9 ?_|refine J9 ?_|refine F7 ?_|(refine D5 (ht:=fun _=>?_) (hf:=fun _=>?_)<;>try first|contradiction|omega))
  all_goals exact⟨I1,[],⟨rfl,rfl⟩,hm.left (H:= [])⟩
 have htx:=fun (J:O9) (m:Le I J)=>C8v (hr.le m) (hat.le m) hq (hC.le m) (hT.le m) (by omega)
 have hmo:=fun (J:O9) (m:Le I J)=>C8u (J:=J) qs B7f hq (by decide) (hC.le m) (hT.le m) (by omega)
 have hget:=C4a qs B7f;have hok:=B31 qs C0X;have hrd:=B8f (Sp.stQ A1v qs) B7f rfl;generalize A9S (Sp.stQ A1v qs) B7f=rp at hmo hget hrd;generalize Sp.rpQ A1v qs++ [rp]=rs at hmo hget;generalize Sp.stQ A1v qs=st at htx hok hrd;obtain⟨tx,op⟩:=st;cases op with
 |false=>
  repeat' (first|refine F6 (d:=11) ?_ hm (hp:=pm0) (hc:=hAl);clear hm;rintro _ I1 _ _ ⟨rfl,rfl⟩ hleI1 hm;try simp only[F8]at hm|refine F6 (d:=18) ?_ hm (hp:=pm0) (hc:=htx I1 hleI1);clear hm;rintro _ I2 _ _ ⟨rfl,rfl⟩ hleI2 hm;try simp only[F8]at hm|refine D8 ?_|refine D6 ?_|refine A04 ?_|refine G7 ?_|refine Z5 ?_|refine V8 ?_|refine D9 ?_|refine A7 ?_|refine G9 ?_|refine E8 ?_|refine A8 ?_|refine G5 ?_|refine H9 ?_|refine J9 ?_|refine H6 ?_|refine F7 ?_|(refine D5 (ht:=fun _=>?_) (hf:=fun _=>?_)<;>try first|contradiction|omega))
  all_goals exact⟨I2,[],⟨rfl,rfl⟩,hm.left (H:= [])⟩
 |true=>
 have hrp:=hrd rfl;have h0:Y3 tx=0:=hok.err;have hF:=fun (J:O9) (m:Le I J)=>C4w tx J (hC.le m) (by have:=B5D h0;omega)
 rw[h0]at hF;have hin:=C5v tx h0;have hA:=B2L h0;have hfew:=B1v hA _ (G8 _);have hD:=fun (J:O9) (a:Option Addr) (cp:Nat) (xs:List Value) (h:FE J (J5 tx) a cp xs)=>B8c J h hA
 have hal:(A3K (J5 tx)).length<=1000000000000:=by
  show (A6s (J5 tx) _).length<=_
  have:=hA.few;omega
 have hdg:rp.dgs=A3K (J5 tx):=by rw[hrp]
 have h30:=hA.few;clear hrd hrp hfew hA;generalize J5 tx=its at hF hin hD hal hdg h30;generalize A3K its=al at hin hD hal hdg;have hS:=fun (J:O9) (a b:Option Addr) (c d:Nat) (ha hb)=>C9m al hal J a b c d ha hb
 repeat' (first|refine F6 (d:=11) ?_ hm (hp:=pm0) (hc:=hAl);clear hm;rintro _ I1 _ _ ⟨rfl,rfl⟩ hleI1 hm;try simp only[F8]at hm|refine F6 (d:=18) ?_ hm (hp:=pm0) (hc:=htx I1 hleI1);clear hm;rintro _ I2 _ _ ⟨rfl,rfl⟩ hleI2 hm;try simp only[F8]at hm;have hle2:=hleI1.trans hleI2|refine A1P (d:=24) ?_ hm;clear hm;intro b7 _ hm|refine A6n (d:=26) ?_ hm (hr:=hr.le hle2) (h1:=hone);clear hm;intro a9 cp9 _ hm;try simp only[F8]at hm|refine A2d (d:=29) ?_ hm;clear hm;intro a12 cp12 _ _ hm;try simp only[F8]at hm;obtain⟨I3,hle3,hm3,hr7⟩:=hm.freeze;clear hm;have hm:=hm3;clear hm3;have ha7:=A0L.snoc (B0N I3 B7f rfl) ((hat.le hle2).le hle3)|refine F6 (d:=30) ?_ hm (hp:=pm0) (hc:=hmo I3 (hle2.trans hle3) _ (by omega) _ _ _ hr7 ha7);clear hm;rintro _ I4 _ _ ⟨rfl,pa,pc,ps,rfl,hpr,hps⟩ hleI4 hm;try simp only[F8]at hm;obtain⟨da,dp,ea,ep,hc,hd,_⟩:=hps.get hget|refine F6 (d:=35) ?_ hm (hp:=pm0) (hc:=hF I4 ((hle2.trans hle3).trans hleI4));clear hm;rintro _ I5 _ _ ⟨a,cp,xs,rfl,hrow,hits,rfl⟩ hleI5 hm;try simp only[F8]at hm|refine A0K 10 ?_|refine Y7 (d:=7) ?_ hm;clear hm;intro b7 _ hm|refine D8 ?_|refine D6 ?_|refine A04 ?_|refine G7 ?_|refine Z5 ?_|refine V8 ?_|refine P9 ?_|refine D9 ?_|refine A7 ?_|refine E8 ?_|refine A8 ?_|refine G5 ?_|refine F7 ?_|(refine D5 (ht:=fun _=>?_) (hf:=fun _=>?_)<;>try first|contradiction|omega))
 unfold rpV at hc
 rw[hdg]at hc hd;obtain⟨I6,hle6,hm6,hpf⟩:=hm.freezeO;clear hm;have hm:=hm6;clear hm6;have hfe:=(B7r hrow hits h30).le hle6;have hpr6:=(hpr.le hleI5).le hle6;have hd6:=(hd.le hleI5).le hle6;have hD6:=hD I6 a cp xs hfe;refine⟨?_⟩
 repeat' (first|refine A1p (id:=10) (hm.perm pm0) [0,1,2,3,4,5,6,7,8,9,10,11,12,13] 17 (h:=?_);clear hm;intro wd hR hm|refine A1b (d:=48) ?_ (hr:=hpr6);intro bt ot hpt;rw[show (((qs.length:Nat):Int).toNat *11)=qs.length *11 from rfl,hc]at hpt|refine A19 (d:=51) ?_ hR (hp:=hpf)|refine A4t [16] (by decide+kernel) hm.kept ?_|refine A46 (d:=52) hm (by rfl) (by rfl) (by rfl) pm0 hD6 ?_;clear hm;rintro _ I7 _ _ ⟨rfl,db,dq,rfl,hdb⟩ hleI7 hm;try simp only[F8]at hm|refine A46 (d:=53) hm (by rfl) (by rfl) (by rfl) pm0 (hS I7 da db dp dq (hd6.le hleI7) hdb) ?_;clear hm;rintro _ I8 _ _ ⟨rfl,rfl⟩ hleI8 hm;try simp only[F8]at hm|refine A1A (i:=14) ?_ (by decide+kernel)|refine A1A (i:=15) ?_ (by decide+kernel)|refine A6k ?_|refine A5e (by decide+kernel) ?_;replace hm:=hR.back hm;clear hR;try simp only[F8]at hm|refine N7 (d:=59) ?_ (hr:=(hpr6.le hleI7).le hleI8);intro bu ou hpu;rw[show (((qs.length:Nat):Int).toNat *11)=qs.length *11 from rfl,hc]at hpu|refine Z9 ?_ hR|refine J6 ?_ hm|refine D8 ?_|refine L6 ?_|refine G7 ?_|refine C9 ?_|refine D9 ?_|refine A7 ?_|refine E8 ?_|refine A8 ?_|refine F5 ?_|refine G5 ?_|refine F7 ?_|refine Z7 ?_|refine B6w ?_|refine C9p ?_|refine A9s ?_|refine C9q ?_|refine J8 ?_)
 have hd8:=(hd6.le hleI7).le hleI8;refine U3 (fun k:Nat=> [(3,str tx),(61,.slice da al.length dp),(62,nt al.length),(63,nt k)])
  (fun k w'=>Mem E I8 [] w'/\k<=al.length) (fun k=>al.length-k) 0
  (by exact⟨rfl,rfl,rfl,rfl,trivial⟩) ⟨hm,H7 _⟩ ?_
 clear hm;rintro k w1 ⟨hm,hk⟩;try dsimp only at hm hk |-
 by_cases hlt:k<al.length
 ·have hg:al[k]?=some al[k]:=G6 hlt
  have hb:=hin _ (O5 hlt);generalize al[k]=d at hg hb;repeat' (first|refine Q8 (d:=65) (enc:=A5Q) (z:=d) ?_ (hr:=hd8) (he:=fun _=>rfl) (hz:=by exact hg);intro bz oz hpz|refine X3 (d:=66) ?_ hm (hp:=hpz)|refine Y7 (d:=10) ?_ hm;clear hm;intro b10 _ hm|refine J4 ?_ hm|refine D8 ?_|refine L6 ?_|refine J7 ?_|refine A0E ?_|refine A0x ?_|refine P5 ?_|refine C9 ?_|(refine O0 (h1:=fun _=>?_) (h0:=fun _=>?_)<;>try first|contradiction|omega)|refine D9 ?_|refine A7 ?_|refine D7 ?_|refine E8 ?_|refine A8 ?_|refine F5 ?_|refine G5 ?_|(refine D5 (ht:=fun _=>?_) (hf:=fun _=>?_)<;>try first|contradiction|omega))
  all_goals exact L9 (k+1:Nat) (by exact⟨rfl,rfl,rfl,rfl,trivial⟩) ⟨hm.tl,by omega⟩ (by omega)
 ·obtain rfl:k=al.length:=by omega
  repeat' (first|refine D6 ?_|refine J7 ?_|refine D9 ?_|refine A7 ?_|refine H8 ?_|refine H5 ?_|refine E8 ?_|refine A8 ?_|refine Q3 ?_|refine H9 ?_|refine J9 ?_|(refine D5 (ht:=fun _=>?_) (hf:=fun _=>?_)<;>try first|contradiction|omega))
  exact⟨I8,[],⟨rfl,rfl⟩,hm⟩
end Go.Proofs
