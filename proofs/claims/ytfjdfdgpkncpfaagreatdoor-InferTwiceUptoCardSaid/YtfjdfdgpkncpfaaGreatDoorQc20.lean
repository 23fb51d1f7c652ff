/- Own work: texts NsD, NsE, NsF, NsG, NsH, NsI, NsJ, NsK, LawIt, PostVar, one behind the other. -/
import Derived.Test.YtfjdfdgpkncpfaaGreatDoorQc19
import Derived.MakeChecks
import Derived.LaidSub
import Derived.Lay
import Derived.Stop.LaidErr
set_option maxHeartbeats 64000000
namespace Go.Sp
def B3Y (its:List Itm) (b:Int) (x:Stm) (sc:List Lc) (s:NW):List Lc×NW:=
 if x.kind=1 then mkN x.name x.at_ sc s else
 if x.kind=2 then (sc,A7e b sc x.at_ x.name s) else
 if x.kind=5 then (sc,A34 its b 1 x.at_ x.name s) else
 if x.kind=3\/x.kind=4 then (sc,(A0J its b x.els sc (A0J its b x.thn sc s).2).2) else (sc,s)
theorem B4n (its:List Itm) (b:Int) (x:Stm) (sc:List Lc) (s:NW):A4b its b x sc s=B3Y its b x sc (exN its b sc x.e s):=by cases x;rw[A4b,B3Y];rfl
theorem B3X (x:Stm):x.cnt=x.e.cnt+P6 x.thn+P6 x.els+1:=by cases x;rw[Stm.cnt];rfl
theorem B0Y {l:List Stm}{k:Nat}{y:Stm} (h:l[k]?=some y):P6 (l.take k)+y.cnt<=P6 l:=by
 have e:l=l.take (k+1)++l.drop (k+1):=(A5L _ _).symm;have h2:=congrArg P6 e;rw[A2q,X0 h,A2q,A4c]at h2;omega
theorem B36:∀(l:List Stm),l.length<=P6 l
 | []=>by simp
 |x::l=>by rw[P6,X8];have:=B3X x;have:=B36 l;omega
theorem B7x {q:List UInt8} (its:List Itm) (b:Int) {x:Stm} (hx:stS q x.kind x.name x.at_ x.label x.opn x.fr x.to) {sc:List Lc} (hsc:A78 q sc) (s:NW):A78 q (A4b its b x sc s).1:=by
 rw[B4n,B3Y];split
 ·rename_i hk
  rw[mkN];split
  ·exact hsc
  ·rename_i hn;exact A98 hsc hn (hx (.inl hk))
 ·split
  ·exact hsc
  ·split
   ·exact hsc
   ·split
    ·exact hsc
    ·exact hsc
theorem B2s {q:List UInt8} (its:List Itm) (b:Int):∀(l:List Stm),V5 (stE q) (stS q) l->∀ {sc:List Lc},A78 q sc->∀(s:NW),A78 q (A0J its b l sc s).1
 | [],_,sc,hsc,s=>by rw[A0J];exact hsc
 |x::l,h,sc,hsc,s=>by
  rw[V5]at h;rw[A0J];exact B2s its b l h.2 (B7x its b (Stm.all_node h.1).1 hsc s) _
theorem A8m {p:PE}{q:PS}:∀ {l:List Stm} (k:Nat),V5 p q l->V5 p q (l.take k)
 | [],k,h=>by rw[List.take_nil];exact h
 |x::l,0,h=>by rw[A07];exact Y3
 |x::l,k+1,h=>by
  rw[V5]at h;rw[A1G,V5];exact⟨h.1,A8m k h.2⟩
theorem B0N:∀(l:List Par) (sc:List Lc) (s:NW),s.n<=(A3r l sc s).2.n/\(A3r l sc s).2.n<=s.n+l.length/\sc.length<=(A3r l sc s).1.length/\(A3r l sc s).1.length<=sc.length+l.length
 | [],sc,s=>by rw[A3r];exact⟨H6 _,by simp,H6 _,by simp⟩
 |x::l,sc,s=>by
  rw[A3r,X8];have h1:=B7M x.name x.at_ sc s;have h2:=B0N l (mkN x.name x.at_ sc s).1 (mkN x.name x.at_ sc s).2;omega
theorem B5h (its:List Itm) (b:Int) (dn:List Rf) (c:Rf) (s:NW):s.n<=(A4t its b dn c s).n/\(A4t its b dn c s).n<=s.n+2:=by
 have h1:=A8W its b 1 c.at_ c.name s;rw[A4t];split
 ·rw[A7j];omega
 ·omega
theorem B0W (its:List Itm) (b:Int):∀(l dn:List Rf) (s:NW),s.n<=(A3W its b dn l s).n/\(A3W its b dn l s).n<=s.n+2 *l.length
 | [],dn,s=>by rw[A3W];simp
 |x::l,dn,s=>by
  rw[A3W,X8];have h1:=B5h its b dn x s;have h2:=B0W its b l (dn++ [x]) (A4t its b dn x s);omega
theorem B4f {q:List UInt8}:∀(l:List Par),(∀x∈l,A1A q x.at_ x.name)->∀ {sc:List Lc},A78 q sc->∀(s:NW),A78 q (A3r l sc s).1
 | [],_,sc,hsc,s=>by rw[A3r];exact hsc
 |x::l,h,sc,hsc,s=>by
  rw[A3r];refine B4f l (fun y hy=>h y (A3L _ hy)) ?_ _
  rw[mkN];split
  ·exact hsc
  ·rename_i hn;exact A98 hsc hn (h x Y1)
structure ItN (src:List UInt8) (it:Itm):Prop where
 small:it.small
 cnt:P6 it.body<=400000000
 st:B6O src it
def same (it x:Itm):Bool:=decide (x.kind=it.kind) && decide (x.name=it.name)
theorem A9o {its:List Itm}{i:Nat}{F:Itm->Bool} (hi:i<=its.length) (h:∀j x,j<i->its[j]?=some x->F x=false):(its.take i).any F=false:=by
 rw[A5S];intro x hx;obtain⟨j,hj,rfl⟩:=A2T hx;rw[Y9]at hj;rw[List.getElem_take,h j _ (by omega) (G9 (by omega))];simp
theorem A9p {its:List Itm}{i k:Nat}{F:Itm->Bool}{x:Itm} (hk:k<i) (hg:its[k]?=some x) (h:F x=true):(its.take i).any F=true:=by
 rw[A5W];refine⟨x,?_,h⟩
 refine A0s (i:=k) ?_
 rw[A1H,if_pos hk,hg]
theorem B1v {α:Type} (xs:List α) {i k:Nat} (hk:k<i):(((xs.take (i *10)).drop (k *10)).take 10)=(xs.drop (k *10)).take 10:=by
 rw[A35,A3u,A19 (by omega)]
theorem B2A {src:List UInt8}{its:List Itm} (h:∀x∈its,ItN src x) {i:Nat} (hi:i<its.length):(A4o its i).n<=900000000:=by
 have hm:=A8V hi;have hN:=h _ hm;rw[A4o];generalize Z7 its i=it at hN;have h0:(if A6m its i it=true then NW0.tell it.mark 7 it.name else NW0).n<=1:=by
  split
  ·rw[A7j];exact H6 _
  ·exact J7 _
 generalize (if A6m its i it=true then NW0.tell it.mark 7 it.name else NW0)=s0 at h0;split
 ·rw[fnN]
  have h1:=B0N it.params [] s0;generalize A3r it.params [] s0=r at h1;have h2:=B0W its it.at_ it.sends [] r.2;generalize A3W its it.at_ [] it.sends r.2=s1 at h2;have h3:=A6c its it.at_ it.body r.1 s1;have h4:=hN.small.params;have h5:=hN.small.sends;have h6:=hN.cnt;omega
 ·omega
theorem B5P (s:List UInt8):∀x∈P8 s,ItN s x:=by
 intro x hx;have hst:=B5Q s x hx;by_cases h0:A1d s=0
 ·have hl:s.length<=4000:=by
   rw[A1d]at h0;split at h0
   ·cases h0
   ·omega
  rw[P8,if_pos h0,A4G]at hx;obtain⟨j,_,rfl⟩:=A1w.1 hx;have hp:(A1s s (U9 s) j).length<=4000:=by rw[A1s,Y9,A06];omega
  have hc:=B1O (A1s s (U9 s) j) ((U9 s).getD j 0:Nat);exact⟨A7b _ _ (by omega),by rw[A2Q];omega,hst⟩
 ·rw[P8,if_neg h0]at hx
  simp at hx
theorem B5p {src:List UInt8}{its:List Itm} (h:∀x∈its,ItN src x) (hf:its.length<=64):(A6G its).length<=100000000000:=by
 have key:∀k,k<=its.length->(A2Y its k).length<=k *900000000:=by
  intro k;induction k with
  |zero=>intro _;simp[A2Y]
  |succ k ih=>
   intro hk;rw[A8o,Y4];have h1:=ih (by omega);have h2:=B2A h (i:=k) (by omega);have h3:(A4o its k).us.length<=(A4o its k).n:=by rw[NW.n];omega
   omega
 have:=key its.length (H6 _);rw[A6G];omega
theorem B68 {src:List UInt8}{o:Lab}{it:Itm} (h:ItN src it):ItN src (itI o it):=by
 obtain⟨h1,h2,p,q,h3⟩:=h;refine⟨A9O h1,?_,p,q,h3.at_,h3.sub,?_,h3.params,h3.sends,h3.mark⟩
 ·show P6 (A0C o it.body)<=_
  rw[A5k];exact h2
 ·exact A5j (fun _ _ _ _ _ _ _ hx=>hx) _ h3.body
theorem B54 {src:List UInt8}{its g:List Itm} (h:AllTwo A1B its g) (hN:∀x∈its,ItN src x):∀y∈g,ItN src y:=fun y hy=>by
 obtain⟨x,hx,hxy⟩:=h.mem y hy;rcases hxy with rfl|⟨o,rfl⟩
 ·exact hN _ hx
 ·exact B68 (hN x hx)
end Go.Sp
namespace Go.Proofs
open Go.Proofs.Tryz
open Go.Sp
open Go.Fw
section
variable (src:List UInt8) (p:Nat) (q:List UInt8) (its:List Sp.Itm) (it:Sp.Itm) (bc bf:Nat) (a:Option Addr) (cp:Nat) (xs:List Value) (pi:Value)
def B5u (x:Sp.Stm):Prop:=
 ∀(I:U0) (b o tc:Nat) (cs:List Value) (sc:List Sp.Lc) (s:Sp.NW) (sa:Option Addr) (sp:Nat) (da:Option Addr) (dp:Nat) (ua:Option Addr) (up:Nat),A78 q sc->sc.length+x.cnt<=900000000->s.n+2 *x.cnt<=900000000->NC I src p q its it bf a cp xs pi->
  PtrI I b o tc cs->A4g I x cs->
  CalM prog 129 #[ptr bc,.pointer (some ⟨b,o,none⟩)] I (NSt bc bf pi sc sa sp s da dp ua up) (ToN bc bf pi (A4b its p x sc s).1 (A4b its p x sc s).2 (.tuple #[]))
def B0i (l:List Sp.Stm):Prop:=
 ∀(I:U0) (ab:Option Addr) (cb:Nat) (xb:List Value) (sc:List Sp.Lc) (s:Sp.NW) (sa:Option Addr) (sp:Nat) (da:Option Addr) (dp:Nat) (ua:Option Addr) (up:Nat),A78 q sc->sc.length+P6 l<=900000000->s.n+2 *P6 l<=900000000->NC I src p q its it bf a cp xs pi->
  RowI I 109 15 (.slice ab l.length cb) l.length xb->U8 I l xb->
  CalM prog 108 #[ptr bc,.slice ab l.length cb] I (NSt bc bf pi sc sa sp s da dp ua up) (ToN bc bf pi sc (A0J its p l sc s).2 (.tuple #[]))
end
section
variable {src:List UInt8}{p:Nat}{q:List UInt8}{its:List Sp.Itm}{it:Sp.Itm}{bc bf:Nat}{a:Option Addr}{cp:Nat}{xs:List Value}{pi:Value}
theorem B29 (sc:List Sp.Lc) (n:Nat):(sc.flatMap A6R).take (n *2)=(sc.take n).flatMap A6R:=by
 induction sc generalizing n with
 |nil=>simp
 |cons x l ih=>
  cases n with
  |zero=>simp
  |succ n=>
   rw[A0n,A1G,A0n,show (n+1) *2=2+n *2 by omega,List.take_append,A1D (by show 2<=2+n *2;omega),show 2+n *2-(A6R x).length=n *2 by (show 2+n *2-2=n *2;omega),ih]
theorem B7f (l:List Sp.Stm) (hl:l.length<=64) (hall:V5 (Sp.stE q) (Sp.stS q) l) (hS:∀y∈l,B5u src p q its it bc bf a cp xs pi y):B0i src p q its it bc bf a cp xs pi l:=by
 intro I ab cb xb sc s sa sp da dp ua up hsc hn1 hn2 hC hr hx;refine CalM.of fun w E hm=>enter (N:=31) func108 rfl [(0,ptr bc),(1,.slice ab l.length cb)] A1P rfl ?_
 repeat' (first|refine H8 ?_ hm|refine D8 ?_|refine D5 ?_|refine G8 ?_|refine E5 ?_|refine C9 ?_|refine D9 ?_|refine A7 ?_|refine E8 ?_|refine A8 ?_|refine F5 ?_)
 refine X7 (fun x:NX=> [(0,ptr bc),(1,.slice ab l.length cb),(4,nt sc.length),(12,nt l.length),(13,nt x.k)])
  (fun x w'=>Mem E x.I (NSt bc bf pi (A0J its p (l.take x.k) sc s).1 x.sa x.sp (A0J its p (l.take x.k) sc s).2 x.da x.dp x.ua x.up) w'/\Le I x.I/\x.k<=l.length) (fun x=>l.length-x.k) ⟨0,I,sa,sp,da,dp,ua,up⟩
  (by exact⟨rfl,rfl,rfl,rfl,rfl,trivial⟩) ⟨by dsimp only;rw[A07,A0J];exact hm,Le.refl _,J7 _⟩ ?_
 clear hm;rintro⟨k,I1,sa1,sp1,da1,dp1,ua1,up1⟩ w1 ⟨hm,hle1,hk⟩;dsimp only at hm hle1 hk |-;have hC1:=hC.le hle1;have hrow:=hr.le hle1;by_cases hlt:k<l.length
 ·have hg:l[k]?=some l[k]:=G9 hlt
  have hmem:=Q8 hlt;obtain⟨cs,hcs⟩:∃cs,cs=(xb.drop (k *15)).take 15:=⟨_,rfl⟩;have hat:=hx.get hg;rw[<-hcs]at hat
  have hSk:=hS _ hmem;generalize l[k]=y at hg hmem hat hSk;have hst:=B3C its p hg sc s;have hcy:=B0Y hg;have hnn:=A6c its p (l.take k) sc s;have hsc1:=B2s its p (l.take k) (A8m k hall) hsc s;have htl:(l.take k).length=k:=by rw[Y9];omega
  have hkc:=B36 (l.take k);generalize A0J its p (l.take k) sc s=r at hm hst hnn hsc1;have hcl:=fun b o (hpt:PtrI I1 b o 109 cs)=>hSk I1 b o 109 cs r.1 r.2 sa1 sp1 da1 dp1 ua1 up1 hsc1 (by omega) (by omega) hC1 hpt (A4g.le hle1 _ _ hat)
  generalize A4b its p y r.1 r.2=z at hcl hst;repeat' (first|refine U3 (d:=19) ?_ (hr:=hrow);intro bt ot hpt;rw[show ((k:Int).toNat *15)=k *15 from rfl, <-hcs]at hpt|refine F6 (d:=20) ?_ hm (hp:=A2L) (hc:=hcl _ _ hpt);clear hm;rintro _ I2 _ _ ⟨rfl,sa2,sp2,da2,dp2,ua2,up2,rfl⟩ hleI2 hm;try simp only[F7]at hm|refine D8 ?_|refine D5 ?_|refine O0 ?_|refine Q4 ?_|refine D9 ?_|refine A7 ?_|refine D7 ?_|refine E8 ?_|refine A8 ?_|refine F5 ?_|refine F9 ?_|(refine D6 (ht:=fun _=>?_) (hf:=fun _=>?_)<;>try first|contradiction|omega))
  all_goals try omega
  exact N7 (⟨k+1,I2,sa2,sp2,da2,dp2,ua2,up2⟩:NX) (by exact⟨rfl,rfl,rfl,rfl,rfl,trivial⟩) ⟨by dsimp only;rw[hst];exact hm,hle1.trans hleI2,by dsimp only;omega⟩ (by dsimp only;omega)
 ·obtain rfl:k=l.length:=by omega
  have hback:=B3B its p l sc s;have hpl:=(A6c its p l sc s).2.2.1;rw[A0b]at hm;generalize A0J its p l sc s=r at hm hback hpl |-;repeat' (first|refine A71 (d:=28) ?_ hm (hmn:=hpl);clear hm;intro hm;try simp only[F7]at hm|refine H8 ?_ hm|refine J6 hm (k:=?_);clear hm;intro _ hm;try simp only[F7]at hm|refine D8 ?_|refine O0 ?_|refine E5 ?_|refine C9 ?_|refine D9 ?_|refine A7 ?_|refine G7 ?_|refine G5 ?_|refine E8 ?_|refine A8 ?_|refine O7 ?_|refine A0f ?_|(refine D6 (ht:=fun _=>?_) (hf:=fun _=>?_)<;>try first|contradiction|omega))
  all_goals try omega
  refine⟨I1,_,⟨rfl,sa1,sp1,da1,dp1,ua1,up1,?_⟩,hm⟩
  rw[B29,hback]
theorem B8f (x:Sp.Stm) (hsm:x.small) (hall:x.all (Sp.stE q) (Sp.stS q)) (hT:B0i src p q its it bc bf a cp xs pi x.thn) (hL:B0i src p q its it bc bf a cp xs pi x.els):B5u src p q its it bc bf a cp xs pi x:=by
 intro I b o tc cs sc s sa sp da dp ua up hsc hn1 hn2 hC hp hx;obtain⟨s1,s2,s3,s4,s5⟩:=A15 hsm;obtain⟨a1,a2,a3,a4⟩:=Sp.Stm.all_node hall;have hcnt:=B3X x;refine CalM.of fun w E hm=>enter (N:=64) func129 rfl [(0,ptr bc),(1,.pointer (some ⟨b,o,none⟩))] A1P rfl ?_
 obtain⟨ea,ec,ex,a1',c1,xs1,a2',c2,xs2,rfl,hr3,hx3,hr4,hx4,hr5,hx5⟩:=hx.out;have hpe:=hp.sub (cs':=A0G x.e ea ec) 5 (fun j u hj=>by
  match j,hj with
  |0,hj=>exact hj
  |1,hj=>exact hj
  |2,hj=>exact hj
  |3,hj=>exact hj
  |4,hj=>exact hj
  |5,hj=>exact hj
  |j+6,hj=>cases hj)
 rw[B4n];have hE:=B8d (its:=its) (it:=it) (bc:=bc) (bf:=bf) (a:=a) (cp:=cp) (xs:=xs) (pi:=pi) (src:=src) (p:=p) (by omega) hsc _ x.e (H6 _) s1 a2 I b (o+5) tc ea ec ex s sa sp da dp ua up (by omega) hC hpe hr3 hx3;have hnx:=B5M its p sc x.e s;generalize Sp.exN its p sc x.e s=r at hE hnx |-;have hlen:=hC.len;rw[B3Y];by_cases k1:x.kind=1
 ·rw[if_pos k1]
  have hb:=(hC.st.sub _ _ (a1 (.inl k1))).1;have hc:=fun (J:U0) (sa:Option Addr) (sp:Nat) (da:Option Addr) (dp:Nat) (ua:Option Addr) (up:Nat)=>B6d (I:=J) (bc:=bc) (bf:=bf) (pi:=pi) (sc:=sc) (sa:=sa) (sp:=sp) (s:=r) (da:=da) (dp:=dp) (ua:=ua) (up:=up) x.name x.at_ (by omega) (by omega) (by omega)
  repeat' (first|refine F6 (d:=8) ?_ hm (hp:=A2L) (hc:=hE);clear hm;rintro _ I2 _ _ ⟨rfl,sa2,sp2,da2,dp2,ua2,up2,rfl⟩ hleI2 hm;try simp only[F7]at hm;have hp2:=hp.le hleI2|refine Q9 (id:=3) 9 (h:=?_)|refine F6 (d:=24) ?_ hm (hp:=A2L) (hc:=hc I2 sa2 sp2 da2 dp2 ua2 up2);clear hm;rintro _ I3 _ _ ⟨rfl,sa3,sp3,da3,dp3,ua3,up3,rfl⟩ hleI3 hm;try simp only[F7]at hm|refine J4 ?_ hm|refine U1 ?_ hm|refine D8 ?_|refine D5 ?_|refine Q5 ?_|refine E5 ?_|refine C9 ?_|refine D9 ?_|refine A7 ?_|refine D7 ?_|refine E8 ?_|refine A8 ?_|refine F5 ?_|refine A0f ?_|refine L9 ?_;intro _ hkq;replace hm:=hm.kept0 hkq;clear hkq|(refine D6 (ht:=fun _=>?_) (hf:=fun _=>?_)<;>try first|contradiction|omega)|refine P5 ?_|refine J5 ?_|refine G6 ?_)
  all_goals try omega
  exact⟨I3,_,⟨rfl,_,_,_,_,_,_,rfl⟩,hm⟩
 rw[if_neg k1];by_cases k2:x.kind=2
 ·rw[if_pos k2]
  have hc:=fun (J:U0) (m:Le I J) (sa:Option Addr) (sp:Nat) (da:Option Addr) (dp:Nat) (ua:Option Addr) (up:Nat)=>B4c (I:=J) (bc:=bc) (sc:=sc) (sa:=sa) (sp:=sp) (s:=r) (da:=da) (dp:=dp) (ua:=ua) (up:=up) (hC.le m) x.at_ x.name (a1 (.inr (.inl k2))) hsc (by omega) (by omega)
  repeat' (first|refine F6 (d:=8) ?_ hm (hp:=A2L) (hc:=hE);clear hm;rintro _ I2 _ _ ⟨rfl,sa2,sp2,da2,dp2,ua2,up2,rfl⟩ hleI2 hm;try simp only[F7]at hm;have hp2:=hp.le hleI2|refine Q9 (id:=5) 9 (h:=?_)|refine F6 (d:=36) ?_ hm (hp:=A2L) (hc:=hc I2 hleI2 sa2 sp2 da2 dp2 ua2 up2);clear hm;rintro _ I3 _ _ ⟨rfl,sa3,sp3,da3,dp3,ua3,up3,rfl⟩ hleI3 hm;try simp only[F7]at hm|refine J4 ?_ hm|refine U1 ?_ hm|refine D8 ?_|refine D5 ?_|refine Q5 ?_|refine E5 ?_|refine C9 ?_|refine D9 ?_|refine A7 ?_|refine D7 ?_|refine E8 ?_|refine A8 ?_|refine F5 ?_|refine A0f ?_|refine L9 ?_;intro _ hkq;replace hm:=hm.kept0 hkq;clear hkq|(refine D6 (ht:=fun _=>?_) (hf:=fun _=>?_)<;>try first|contradiction|omega)|refine P5 ?_|refine J5 ?_|refine G6 ?_)
  all_goals try omega
  exact⟨I3,_,⟨rfl,_,_,_,_,_,_,rfl⟩,hm⟩
 rw[if_neg k2];by_cases k5:x.kind=5
 ·rw[if_pos k5]
  cases hf:A0M its 1 x.name with
  |none=>
   have hc:=fun (J:U0) (m:Le I J) (sa:Option Addr) (sp:Nat) (da:Option Addr) (dp:Nat) (ua:Option Addr) (up:Nat)=>B0D (I:=J) (bc:=bc) (sc:=sc) (sa:=sa) (sp:=sp) (s:=r) (da:=da) (dp:=dp) (ua:=ua) (up:=up) (hC.le m) 1 x.at_ x.name (a1 (.inr (.inr k5))) (by omega) hf
   repeat' (first|refine F6 (d:=8) ?_ hm (hp:=A2L) (hc:=hE);clear hm;rintro _ I2 _ _ ⟨rfl,sa2,sp2,da2,dp2,ua2,up2,rfl⟩ hleI2 hm;try simp only[F7]at hm;have hp2:=hp.le hleI2|refine Q9 (id:=7) 9 (h:=?_)|refine F6 (d:=48) ?_ hm (hp:=A2L) (hc:=hc I2 hleI2 sa2 sp2 da2 dp2 ua2 up2);clear hm;rintro _ I3 _ _ ⟨rfl,sa3,sp3,da3,dp3,ua3,up3,rfl⟩ hleI3 hm;try simp only[F7]at hm|refine J4 ?_ hm|refine U1 ?_ hm|refine D8 ?_|refine D5 ?_|refine Q5 ?_|refine E5 ?_|refine C9 ?_|refine D9 ?_|refine A7 ?_|refine D7 ?_|refine E8 ?_|refine A8 ?_|refine F5 ?_|refine A0f ?_|refine L9 ?_;intro _ hkq;replace hm:=hm.kept0 hkq;clear hkq|(refine D6 (ht:=fun _=>?_) (hf:=fun _=>?_)<;>try first|contradiction|omega)|refine P5 ?_|refine J5 ?_|refine G6 ?_)
   all_goals try omega
   exact⟨I3,_,⟨rfl,_,_,_,_,_,_,rfl⟩,hm⟩
  |some j=>
   have hc:=fun (J:U0) (m:Le I J) (sa:Option Addr) (sp:Nat) (da:Option Addr) (dp:Nat) (ua:Option Addr) (up:Nat)=>B0E (I:=J) (bc:=bc) (sc:=sc) (sa:=sa) (sp:=sp) (s:=r) (da:=da) (dp:=dp) (ua:=ua) (up:=up) (hC.le m) 1 x.at_ x.name (a1 (.inr (.inr k5))) (by omega) hf
   repeat' (first|refine F6 (d:=8) ?_ hm (hp:=A2L) (hc:=hE);clear hm;rintro _ I2 _ _ ⟨rfl,sa2,sp2,da2,dp2,ua2,up2,rfl⟩ hleI2 hm;try simp only[F7]at hm;have hp2:=hp.le hleI2|refine Q9 (id:=7) 9 (h:=?_)|refine F6 (d:=48) ?_ hm (hp:=A2L) (hc:=hc I2 hleI2 sa2 sp2 da2 dp2 ua2 up2);clear hm;rintro _ I3 _ _ ⟨⟨_,_,_,rfl,_,_⟩,sa3,sp3,da3,dp3,ua3,up3,rfl⟩ hleI3 hm;try simp only[F7]at hm|refine J4 ?_ hm|refine U1 ?_ hm|refine D8 ?_|refine D5 ?_|refine Q5 ?_|refine E5 ?_|refine C9 ?_|refine D9 ?_|refine A7 ?_|refine D7 ?_|refine E8 ?_|refine A8 ?_|refine F5 ?_|refine A0f ?_|refine L9 ?_;intro _ hkq;replace hm:=hm.kept0 hkq;clear hkq|(refine D6 (ht:=fun _=>?_) (hf:=fun _=>?_)<;>try first|contradiction|omega)|refine P5 ?_|refine J5 ?_|refine G6 ?_)
   all_goals try omega
   exact⟨I3,_,⟨rfl,_,_,_,_,_,_,rfl⟩,hm⟩
 rw[if_neg k5];by_cases k34:x.kind=3\/x.kind=4
 ·rw[if_pos k34]
  have hb1:=fun (J:U0) (m:Le I J) (sa:Option Addr) (sp:Nat) (da:Option Addr) (dp:Nat) (ua:Option Addr) (up:Nat)=>hT J a1' c1 xs1 sc r sa sp da dp ua up hsc (by omega) (by omega) (hC.le m) (hr4.le m) (U8.le m _ _ hx4)
  have hnn:=A6c its p x.thn sc r;generalize A0J its p x.thn sc r=r7 at hb1 hnn |-;have hb2:=fun (J:U0) (m:Le I J) (sa:Option Addr) (sp:Nat) (da:Option Addr) (dp:Nat) (ua:Option Addr) (up:Nat)=>hL J a2' c2 xs2 sc r7.2 sa sp da dp ua up hsc (by omega) (by omega) (hC.le m) (hr5.le m) (U8.le m _ _ hx5)
  repeat' (first|refine F6 (d:=8) ?_ hm (hp:=A2L) (hc:=hE);clear hm;rintro _ I2 _ _ ⟨rfl,sa2,sp2,da2,dp2,ua2,up2,rfl⟩ hleI2 hm;try simp only[F7]at hm;have hp2:=hp.le hleI2|refine F6 (d:=57) ?_ hm (hp:=A2L) (hc:=hb1 I2 hleI2 sa2 sp2 da2 dp2 ua2 up2);clear hm;rintro _ I3 _ _ ⟨rfl,sa3,sp3,da3,dp3,ua3,up3,rfl⟩ hleI3 hm;try simp only[F7]at hm;have hp3:=hp2.le hleI3|refine F6 (d:=63) ?_ hm (hp:=A2L) (hc:=hb2 I3 (hleI2.trans hleI3) sa3 sp3 da3 dp3 ua3 up3);clear hm;rintro _ I4 _ _ ⟨rfl,sa4,sp4,da4,dp4,ua4,up4,rfl⟩ hleI4 hm;try simp only[F7]at hm|refine J4 ?_ hm|refine D8 ?_|refine D5 ?_|refine Q5 ?_|refine E5 ?_|refine C9 ?_|refine D9 ?_|refine A7 ?_|refine D7 ?_|refine E8 ?_|refine A8 ?_|refine F5 ?_|refine F9 ?_|refine A0f ?_|(refine D6 (ht:=fun _=>?_) (hf:=fun _=>?_)<;>try first|contradiction|omega))
  all_goals try omega
  all_goals exact⟨I4,_,⟨rfl,_,_,_,_,_,_,rfl⟩,hm⟩
 ·rw[if_neg k34]
  repeat' (first|refine F6 (d:=8) ?_ hm (hp:=A2L) (hc:=hE);clear hm;rintro _ I2 _ _ ⟨rfl,sa2,sp2,da2,dp2,ua2,up2,rfl⟩ hleI2 hm;try simp only[F7]at hm;have hp2:=hp.le hleI2|refine J4 ?_ hm|refine D8 ?_|refine D5 ?_|refine Q5 ?_|refine E5 ?_|refine C9 ?_|refine D9 ?_|refine A7 ?_|refine D7 ?_|refine E8 ?_|refine A8 ?_|refine F5 ?_|refine F9 ?_|refine A0f ?_|(refine D6 (ht:=fun _=>?_) (hf:=fun _=>?_)<;>try first|contradiction|omega))
  all_goals try omega
  exact⟨I2,_,⟨rfl,_,_,_,_,_,_,rfl⟩,hm⟩
theorem B86:∀(n:Nat) (l:List Sp.Stm),SizeOf.sizeOf l<=n->l.length<=64->W9 l->V5 (Sp.stE q) (Sp.stS q) l->B0i src p q its it bc bf a cp xs pi l:=by
 intro n;induction n with
 |zero=>intro l h;cases l<;>simp at h
 |succ n ih=>
 intro l hsz hll hsm hal;refine B7f l hll hal (fun y hy=>?_)
 obtain⟨j,hj,rfl⟩:=A2T hy;have hg:=G9 hj;have h1:=A1N hsm hg;have h0:=A46 hal hg;have h2:=Sp.Stm.all_node h0;have h3:=A3U (Q8 hj);generalize l[j]=y at h0 h1 h2 h3;obtain⟨s1,s2,s3,s4,s5⟩:=A15 h1;obtain⟨z1,z2⟩:=A4T (s:=y);exact B8f y h1 h0 (ih y.thn (by omega) s2 s3 h2.2.2.1) (ih y.els (by omega) s4 s5 h2.2.2.2)
end
theorem B8e (I:U0) (b:Nat) (c:Sp.Rf) (hb:PtrI I b 0 62 (A2f c)) (x:Sp.Rf):
  CalM prog 107 #[.agg (A2f x).toArray,ptr b] I [] (fun v _ H'=>v=.bool (decide (x.name=c.name))/\H'= []):=by
 refine CalM.of fun w E hm=>enter (N:=9) func107 rfl [(0,.agg (A2f x).toArray),(1,ptr b)] A1P rfl ?_
 repeat' (first|refine A0z (d:=2) ?_ hm;clear hm;intro b2 _ hm|refine H8 ?_ hm|refine J4 ?_ hm|refine D5 ?_|refine A0c ?_|refine C9 ?_|refine D9 ?_|refine A7 ?_|refine E8 ?_|refine A8 ?_|refine H7 ?_|refine H9 ?_)
 exact⟨I,[],⟨rfl,rfl⟩,hm.left (H:= [])⟩
section
variable {src:List UInt8}{p:Nat}{q:List UInt8}{its:List Sp.Itm}{it:Sp.Itm}{bc bf:Nat}{a:Option Addr}{cp:Nat}{xs:List Value}{pi:Value}
theorem B3u (l:List Sp.Rf) (n:Nat):(l.flatMap A2f).take (n *2)=(l.take n).flatMap A2f:=by
 induction l generalizing n with
 |nil=>simp
 |cons x l ih=>
  cases n with
  |zero=>simp
  |succ n=>
   rw[A0n,A1G,A0n,show (n+1) *2=2+n *2 by omega,List.take_append,A1D (by show 2<=2+n *2;omega),show 2+n *2-(A2f x).length=n *2 by (show 2+n *2-2=n *2;omega),ih]
theorem B7i {I:U0}{sc:List Sp.Lc}{s:Sp.NW}{sa:Option Addr}{sp:Nat}{da:Option Addr}{dp:Nat}{ua:Option Addr}{up:Nat} (hC:NC I src p q its it bf a cp xs pi) (k:Int) (f:Nat) (n:List UInt8) (hst:A1A q f n) (hd:s.n<=1000000000):
  CalM prog 105 #[ptr bc,.int .i64 k,nt f,str n] I (NSt bc bf pi sc sa sp s da dp ua up)
   (fun _ _ H'=> ∃sa sp da dp ua up,H'=NSt bc bf pi sc sa sp (A34 its p k f n s) da dp ua up):=by
 cases hf:A0M its k n with
 |none=>exact(B0D hC k f n hst hd hf).mono (fun _ _ _ _ h=>h.2)
 |some j=>exact(B0E hC k f n hst hd hf).mono (fun _ _ _ _ h=>h.2)
theorem B9k {I:U0}{s:Sp.NW}{sa:Option Addr}{sp:Nat}{da:Option Addr}{dp:Nat}{ua:Option Addr}{up:Nat} (hC:NC I src p q its it bf a cp xs pi) (hsm:it.small) (hcn:P6 it.body<=400000000) (hd:s.n<=1000):
  CalM prog 80 #[ptr bc] I (NSt bc bf pi [] sa sp s da dp ua up) (ToN bc bf pi (A3r it.params [] s).1 (Sp.fnN its it s) (.tuple #[])):=by
 refine CalM.of fun w E hm=>enter (N:=76) func80 rfl [(0,ptr bc)] A0v rfl ?_
 have hlen:=hC.len;have hst:=hC.st;rw[Sp.fnN,hst.at_];obtain⟨bi,oi,tci,ci,rfl,hpi,hati⟩:=hC.item;obtain⟨pa,pc,sa9,sc9,ba,bc9,da9,dc9,xb,rfl,hpar,hsnd,hrb,hbs,_⟩:=hati;have hsp:=hsm.params;have hss:=hsm.sends;have hsb:=hsm.body;repeat' (first|refine H8 ?_ hm|refine J4 ?_ hm|refine D8 ?_|refine G8 ?_|refine E5 ?_|refine C9 ?_|refine D9 ?_|refine A7 ?_|refine E8 ?_|refine A8 ?_|refine F5 ?_)
 refine X7 (fun x:NX=> [(0,ptr bc),(12,.slice pa it.params.length pc),(13,nt it.params.length),(14,nt x.k)])
  (fun x w'=>Mem E x.I (NSt bc bf (.pointer (some ⟨bi,oi,none⟩)) (A3r (it.params.take x.k) [] s).1 x.sa x.sp (A3r (it.params.take x.k) [] s).2 x.da x.dp x.ua x.up) w'/\Le I x.I/\x.k<=it.params.length) (fun x=>it.params.length-x.k) ⟨0,I,sa,sp,da,dp,ua,up⟩
  (by exact⟨rfl,rfl,rfl,rfl,trivial⟩) ⟨by dsimp only;rw[A07,A3r];exact hm,Le.refl _,J7 _⟩ ?_
 clear hm;rintro⟨k,I1,sa1,sp1,da1,dp1,ua1,up1⟩ w1 ⟨hm,hle1,hk⟩;dsimp only at hm hle1 hk |-;by_cases hlt:k<it.params.length
 ·have hg:it.params[k]?=some it.params[k]:=G9 hlt
  have hpst:=(hst.sub _ _ (hst.params _ (Q8 hlt))).1;have hstp:=B47 hg [] s;have hpr:=hpar.le hle1;have hgk:it.params[((k:Nat):Int).toNat]?=some it.params[k]:=hg;generalize it.params[k]=y at hg hpst hstp hgk;have hnn:=B0N (it.params.take k) [] s;rw[Y9]at hnn;generalize A3r (it.params.take k) [] s=r at hm hstp hnn;have hc:=fun (J:U0)=>B6d (I:=J) (bc:=bc) (bf:=bf) (pi:=.pointer (some ⟨bi,oi,none⟩)) (sc:=r.1) (sa:=sa1) (sp:=sp1) (s:=r.2) (da:=da1) (dp:=dp1) (ua:=ua1) (up:=up1) y.name y.at_ (by omega) (by dsimp only[List.length_nil]at hnn;omega) (by omega)
  generalize Sp.mkN y.name y.at_ r.1 r.2=z at hc hstp;repeat' (first|refine A0i (d:=16) (enc:=A2r) (z:=y) ?_ (hr:=hpr) (he:=fun _=>rfl) (hz:=hgk);intro bt ot hpt|refine F6 (d:=23) ?_ hm (hp:=A93) (hc:=hc I1);clear hm;rintro _ I2 _ _ ⟨rfl,sa2,sp2,da2,dp2,ua2,up2,rfl⟩ hleI2 hm;try simp only[F7]at hm|refine A0j (d:=3) ?_ hm;clear hm;intro b3 _ hm|refine H8 ?_ hm|refine Y8 ?_ hm|refine D8 ?_|refine O0 ?_|refine Q4 ?_|refine C9 ?_|refine D9 ?_|refine A7 ?_|refine D7 ?_|refine E8 ?_|refine A8 ?_|refine F5 ?_|refine F9 ?_|(refine D6 (ht:=fun _=>?_) (hf:=fun _=>?_)<;>try first|contradiction|omega))
  all_goals try omega
  exact N7 (⟨k+1,I2,sa2,sp2,da2,dp2,ua2,up2⟩:NX) (by exact⟨rfl,rfl,rfl,rfl,trivial⟩) ⟨by dsimp only;rw[hstp];exact hm.left,hle1.trans hleI2,by dsimp only;omega⟩ (by dsimp only;omega)
 obtain rfl:k=it.params.length:=by omega
 rw[A0b]at hm;have hnp:=B0N it.params [] s;have hsc1:=B4f it.params hst.params B6w s;generalize A3r it.params [] s=r at hm hnp hsc1 |-;have hpi1:=hpi.le hle1;repeat' (first|refine H8 ?_ hm|refine J4 ?_ hm|refine D8 ?_|refine O0 ?_|refine G8 ?_|refine E5 ?_|refine C9 ?_|refine D9 ?_|refine A7 ?_|refine G7 ?_|refine G5 ?_|refine E8 ?_|refine A8 ?_|refine F5 ?_|refine O7 ?_|(refine D6 (ht:=fun _=>?_) (hf:=fun _=>?_)<;>try first|contradiction|omega))
 all_goals try omega
 refine X7 (fun x:NX=> [(0,ptr bc),(31,.slice sa9 it.sends.length sc9),(32,nt it.sends.length),(33,nt x.k)])
  (fun x w'=>Mem E x.I (NSt bc bf (.pointer (some ⟨bi,oi,none⟩)) r.1 x.sa x.sp (A3W its p [] (it.sends.take x.k) r.2) x.da x.dp x.ua x.up) w'/\Le I x.I/\x.k<=it.sends.length) (fun x=>it.sends.length-x.k) ⟨0,I1,sa1,sp1,da1,dp1,ua1,up1⟩
  (by exact⟨rfl,rfl,rfl,rfl,trivial⟩) ⟨by dsimp only;rw[A07,A3W];exact hm,hle1,J7 _⟩ ?_
 clear hm hpi1 hle1 hlt hk;rintro⟨k,I2,sa2,sp2,da2,dp2,ua2,up2⟩ w2 ⟨hm,hle2,hk⟩;dsimp only at hm hle2 hk |-;have hC2:=hC.le hle2;have hpi2:=hpi.le hle2;by_cases hlt:k<it.sends.length
 ·have hg:it.sends[k]?=some it.sends[k]:=G9 hlt
  have hs0:=hst.sends _ (Q8 hlt);have hpst:=(hst.sub _ _ hs0).1;have hstp:=B5g its p hg r.2;have hpr:=hsnd.le hle2;have hgk:it.sends[((k:Nat):Int).toNat]?=some it.sends[k]:=hg;generalize it.sends[k]=y at hg hpst hstp hgk hs0;have hnn:=B0W its p (it.sends.take k) [] r.2;rw[Y9]at hnn;generalize A3W its p [] (it.sends.take k) r.2=s1 at hm hstp hnn;have hc:=fun (J:U0) (m:Le I2 J)=>B7i (I:=J) (bc:=bc) (sc:=r.1) (s:=s1) (sa:=sa2) (sp:=sp2) (da:=da2) (dp:=dp2) (ua:=ua2) (up:=up2) (hC2.le m) 1 y.at_ y.name hs0 (by omega)
  have hin:=A8W its p 1 y.at_ y.name s1;rw[A4t]at hstp;generalize A34 its p 1 y.at_ y.name s1=s2 at hc hstp hin;have htl:(it.sends.take k).length=k:=by rw[Y9];omega
  repeat' (first|refine A25 9 ?_|refine A0i (d:=36) (enc:=A2f) (z:=y) ?_ (hr:=hpr) (he:=fun _=>rfl) (hz:=hgk);intro bt ot hpt|refine F6 (d:=43) ?_ hm (hp:=A93) (hc:=hc I2 (Le.refl _));clear hm;rintro _ I3 _ _ ⟨sa3,sp3,da3,dp3,ua3,up3,rfl⟩ hleI3 hm;try simp only[F7]at hm|refine V6 (d:=5) ?_ hm;clear hm;intro b5 _ hm|refine H8 ?_ hm|refine Y8 ?_ hm|refine O4 ?_ hm;clear hm;intro _ hm;try simp only[F7]at hm|refine D8 ?_|refine D5 ?_|refine O0 ?_|refine C9 ?_|refine D9 ?_|refine A7 ?_|refine E8 ?_|refine A8 ?_|refine F5 ?_|refine F9 ?_|(refine D6 (ht:=fun _=>?_) (hf:=fun _=>?_)<;>try first|contradiction|omega))
  all_goals try omega
  obtain⟨I4,hle4,hm4,hpn⟩:=(hm.front 4 rfl).freezeO;clear hm;have hm:=hm4;clear hm4;have hpi4:=(hpi2.le hleI3).le hle4;have hpr4:=(hpr.le hleI3).le hle4;have hct:=B3g 107 [ptr b5] (fun x=>decide (x.name=y.name)) (it.sends.take k) (by omega) I4 sa9 sc9 (by rw[htl, <-B3u];exact hpr4.take (by omega)) (fun I' m x=>B8e I' b5 y (hpn.le m) x);rw[htl]at hct;refine⟨?_⟩
  by_cases hn:y.name≠ []
  ·cases hb:(it.sends.take k).any (fun x=>decide (x.name=y.name)) with
   |true=>
    rw[hb]at hct;rw[if_pos ⟨hn,hb⟩]at hstp;have hT:=fun (J:U0)=>A74 (I:=J) (bc:=bc) (bf:=bf) (pi:=.pointer (some ⟨bi,oi,none⟩)) (sc:=r.1) (sa:=sa3) (sp:=sp3) (s:=s2) (da:=da3) (dp:=dp3) (ua:=ua3) (up:=up3) y.name y.at_ 7 (by omega) (by omega)
    repeat' (first|refine A7W (d:=56) ?_ hpr4;intro _|refine F6 (d:=58) ?_ hm (hp:=pm0) (hc:=hct);clear hm;rintro _ I5 _ _ ⟨rfl,rfl⟩ hleI5 hm;try simp only[F7]at hm;have hpn5:=hpn.le hleI5|refine F6 (d:=65) ?_ hm (hp:=A2L) (hc:=hT I5);clear hm;rintro _ I6 _ _ ⟨rfl,sa4,sp4,da4,dp4,ua4,up4,rfl⟩ hleI6 hm;try simp only[F7]at hm|refine H8 ?_ hm|refine J4 ?_ hm|refine D8 ?_|refine N9 ?_|refine V4 ?_|refine E5 ?_|refine A1z ?_|refine Q4 ?_|refine C9 ?_|(refine O5 (h1:=fun _=>?_) (h0:=fun _=>?_)<;>try first|contradiction|omega)|refine D9 ?_|refine A7 ?_|refine D7 ?_|refine A8 ?_|refine F8 ?_)
    all_goals try first|omega|contradiction
    exact N7 (⟨k+1,I6,sa4,sp4,da4,dp4,ua4,up4⟩:NX) (by exact⟨rfl,rfl,rfl,rfl,trivial⟩) ⟨by dsimp only;rw[hstp];exact hm,(((hle2.trans hleI3).trans hle4).trans hleI5).trans hleI6,by dsimp only;omega⟩ (by dsimp only;omega)
   |false=>
    rw[hb]at hct;rw[if_neg (fun h=>by rw[hb]at h;exact absurd h.2 (by decide))]at hstp;repeat' (first|refine A7W (d:=56) ?_ hpr4;intro _|refine F6 (d:=58) ?_ hm (hp:=pm0) (hc:=hct);clear hm;rintro _ I5 _ _ ⟨rfl,rfl⟩ hleI5 hm;try simp only[F7]at hm|refine H8 ?_ hm|refine J4 ?_ hm|refine D8 ?_|refine N9 ?_|refine V4 ?_|refine E5 ?_|refine A1z ?_|refine Q4 ?_|refine C9 ?_|(refine O5 (h1:=fun _=>?_) (h0:=fun _=>?_)<;>try first|contradiction|omega)|refine D9 ?_|refine A7 ?_|refine D7 ?_|refine A8 ?_|refine F9 ?_|refine E9 ?_)
    all_goals try first|omega|contradiction
    exact N7 (⟨k+1,I5,sa3,sp3,da3,dp3,ua3,up3⟩:NX) (by exact⟨rfl,rfl,rfl,rfl,trivial⟩) ⟨by dsimp only;rw[hstp];exact hm,((hle2.trans hleI3).trans hle4).trans hleI5,by dsimp only;omega⟩ (by dsimp only;omega)
  ·rw[if_neg (fun h=>hn h.1)]at hstp
   repeat' (first|refine J4 ?_ hm|refine D8 ?_|refine J9 ?_|refine V4 ?_|refine Q4 ?_|refine C9 ?_|refine A0p ?_|(refine O5 (h1:=fun _=>?_) (h0:=fun _=>?_)<;>try first|contradiction|omega)|refine D9 ?_|refine A7 ?_|refine D7 ?_|refine A8 ?_|refine F9 ?_|refine E9 ?_)
   all_goals try first|omega|contradiction
   exact N7 (⟨k+1,I4,sa3,sp3,da3,dp3,ua3,up3⟩:NX) (by exact⟨rfl,rfl,rfl,rfl,trivial⟩) ⟨by dsimp only;rw[hstp];exact hm,(hle2.trans hleI3).trans hle4,by dsimp only;omega⟩ (by dsimp only;omega)
 ·obtain rfl:k=it.sends.length:=by omega
  rw[A0b]at hm;have hnn:=B0W its p it.sends [] r.2;generalize A3W its p [] it.sends r.2=s1 at hm hnn |-;have hblk:=B86 (its:=its) (it:=it) (bc:=bc) (bf:=bf) (a:=a) (cp:=cp) (xs:=xs) (src:=src) (p:=p) (q:=q) (pi:=.pointer (some ⟨bi,oi,none⟩)) _ it.body (H6 _) (by omega) hsm.stms hst.body I2 ba bc9 xb r.1 s1 sa2 sp2 da2 dp2 ua2 up2 hsc1 (by dsimp only[List.length_nil]at hnp;omega) (by omega) hC2 (hrb.le hle2) (U8.le hle2 _ _ hbs);repeat' (first|refine F6 (d:=75) ?_ hm (hp:=A2L) (hc:=hblk);clear hm;rintro _ I5 _ _ ⟨rfl,sa4,sp4,da4,dp4,ua4,up4,rfl⟩ hleI5 hm;try simp only[F7]at hm|refine H8 ?_ hm|refine J4 ?_ hm|refine D8 ?_|refine O0 ?_|refine E5 ?_|refine C9 ?_|refine D9 ?_|refine A7 ?_|refine G7 ?_|refine G5 ?_|refine E8 ?_|refine A8 ?_|refine O7 ?_|refine A0f ?_|(refine D6 (ht:=fun _=>?_) (hf:=fun _=>?_)<;>try first|contradiction|omega))
  all_goals try omega
  exact⟨I5,_,⟨rfl,_,_,_,_,_,_,rfl⟩,hm⟩
end
section
variable {src:List UInt8}{its:List Sp.Itm}{a:Option Addr}{cp:Nat}{xs:List Value}
theorem B8g (i:Nat) (hi:i<its.length) (bf:Nat) (I:U0) (hfile:PtrI I bf 0 25 [.slice a its.length cp]) (h:FE I its a cp xs) (hlen:src.length<=4000) (hN:∀x∈its,Sp.ItN src x):
  CalM prog 49 #[ptr bf,nt i] I [] (fun v _ H'=> ∃bc pi sc sa sp da dp ua up,v=ptr bc/\H'=NSt bc bf pi sc sa sp (A4o its i) da dp ua up):=by
 refine CalM.of fun w E hm=>enter (N:=80) func49 rfl [(0,ptr bf),(1,nt i)] A1P rfl ?_
 have hfew:=h.few;have hg:=A2P hi;obtain⟨ci,hci,hat,hlc⟩:=h.get hg;have hri:=h.row;have hIt:=hN _ (A8V hi);have hw:A4o its i=if (Z7 its i).kind=2 then Sp.fnN its (Z7 its i) (if A6m its i (Z7 its i)=true then Sp.NW0.tell (Z7 its i).mark 7 (Z7 its i).name else Sp.NW0) else (if A6m its i (Z7 its i)=true then Sp.NW0.tell (Z7 its i).mark 7 (Z7 its i).name else Sp.NW0):=rfl
 generalize A4o its i=fin at hw |-;generalize Z7 its i=it at hg hat hIt hw;obtain⟨s0,hs0⟩:∃s0,s0=if A6m its i it=true then Sp.NW0.tell it.mark 7 it.name else Sp.NW0:=⟨_,rfl⟩
 rw[<-hs0]at hw;have hs0n:s0.n<=1:=by
  rw[hs0];split
  ·rw[A7j];exact H6 _
  ·exact J7 _
 have htk:A6m its i it=(decide (it.kind≠3) && (decide (it.name≠ []) && (its.take i).any (Sp.same it))):=rfl;have hat0:=hat
 obtain⟨pa,pc,sa9,sc9,ba,bc9,da9,dc9,xb,rfl,hpar,hsnd,hrb,hbs,_⟩:=hat
 obtain⟨p,q,hst⟩:=hIt.st;have hbd:=(hst.sub _ _ hst.mark).1;repeat' (first|refine U3 (d:=15) ?_ (hr:=hri);intro bt ot hpt;rw[show ((i:Int).toNat *10)=i *10 from rfl,hci]at hpt|refine A8r 3 (fun _:NX=> [(0,ptr bf),(1,nt i),(5,ptr b17),(6,.pointer (some ⟨bt,ot,none⟩))]) (fun x w'=>Mem E x.I (NSt b17 bf (.pointer (some ⟨bt,ot,none⟩)) [] x.sa x.sp s0 x.da x.dp x.ua x.up) w'/\Le I x.I) ?_ ?_|refine A0z (d:=17) ?_ hm;clear hm;intro b17 _ hm|refine H8 ?_ hm|refine J4 ?_ hm|refine D8 ?_|refine D5 ?_|refine E5 ?_|refine C9 ?_|refine X4 ?_|refine D9 ?_|refine A7 ?_|refine E8 ?_|refine A8 ?_)
 ·have hm:Mem E I (NSt b17 bf (.pointer (some ⟨bt,ot,none⟩)) [] none 0 Sp.NW0 none 0 none 0) _:=(((hm.nil 92 4).swap.nil 221 2).swap.nil 53 3).swap
  refine⟨?_⟩
  by_cases hk:it.kind≠3/\it.name≠ []
  case neg=>
   have:s0=Sp.NW0:=by
    rw[hs0,if_neg];rw[htk];intro h1;simp only[Q7,decide_eq_true_eq]at h1;exact hk ⟨h1.1,h1.2.1⟩
   subst this;by_cases h3:it.kind=3
   ·skip
    repeat' (first|refine J4 ?_ hm|refine D8 ?_|refine J9 ?_|refine A1a ?_|refine E5 ?_|refine C9 ?_|refine A0p ?_|(refine O5 (h1:=fun _=>?_) (h0:=fun _=>?_)<;>try first|contradiction|omega)|refine D9 ?_|refine A7 ?_|refine E8 ?_|refine A8 ?_|refine F9 ?_|refine E9 ?_)
    all_goals try first|omega|contradiction
    exact A0L (⟨0,I,none,0,none,0,none,0⟩:NX) (by exact⟨rfl,rfl,rfl,rfl,trivial⟩) ⟨hm,Le.refl _⟩
   ·have hnn:it.name= []:=Classical.byContradiction fun h1=>hk ⟨h3,h1⟩
    repeat' (first|refine J4 ?_ hm|refine D8 ?_|refine N9 ?_|refine A1a ?_|refine V4 ?_|refine E5 ?_|refine C9 ?_|(refine O5 (h1:=fun _=>?_) (h0:=fun _=>?_)<;>try first|contradiction|omega)|refine D9 ?_|refine A7 ?_|refine E8 ?_|refine A8 ?_|refine F9 ?_|(refine D6 (ht:=fun _=>?_) (hf:=fun _=>?_)<;>try first|contradiction|omega))
    all_goals try first|omega|contradiction
    exact A0L (⟨0,I,none,0,none,0,none,0⟩:NX) (by exact⟨rfl,rfl,rfl,rfl,trivial⟩) ⟨hm,Le.refl _⟩
  obtain⟨hk3,hnn⟩:=hk;repeat' (first|refine A7W (d:=39) ?_ hri;intro hrs|refine J4 ?_ hm|refine D8 ?_|refine N9 ?_|refine A1a ?_|refine V4 ?_|refine G8 ?_|refine E5 ?_|refine C9 ?_|(refine O5 (h1:=fun _=>?_) (h0:=fun _=>?_)<;>try first|contradiction|omega)|refine D9 ?_|refine A7 ?_|refine E8 ?_|refine A8 ?_|refine F5 ?_|(refine D6 (ht:=fun _=>?_) (hf:=fun _=>?_)<;>try first|contradiction|omega))
  all_goals try first|omega|contradiction
  refine X7 (fun k:Nat=> [(0,ptr bf),(1,nt i),(5,ptr b17),(6,.pointer (some ⟨bt,ot,none⟩)),(39,.slice a i cp),(40,nt i),(41,nt k)])
   (fun k w'=>Mem E I (NSt b17 bf (.pointer (some ⟨bt,ot,none⟩)) [] none 0 Sp.NW0 none 0 none 0) w'/\k<=i/\∀j x,j<k->its[j]?=some x->Sp.same it x=false) (fun k=>i-k) 0
   (by exact⟨rfl,rfl,rfl,rfl,rfl,rfl,rfl,trivial⟩) ⟨hm,J7 _,fun j _ hj=>absurd hj (Nat.not_lt_zero j)⟩ ?_
  clear hm;rintro k w1 ⟨hm,hk,hno⟩;try dsimp only at hm hk hno |-
  by_cases hlt:k<i
  ·have hgk:its[k]?=some its[k]:=G9 (by omega)
   obtain⟨cz,hcz,hatz,hl10⟩:=h.get hgk;have hdt:=B1v xs hlt;generalize its[k]=y at hgk hatz;obtain⟨pa3,pc3,sa3,sc3,ba3,bc3,da3,dc3,xb3,rfl,_⟩:=hatz;cases hsm:Sp.same it y with
   |true=>
    have hsk:=hsm;simp only[Sp.same,Q7,decide_eq_true_eq]at hsk;obtain⟨e1,e2⟩:=hsk;have:s0=Sp.NW0.tell it.mark 7 it.name:=by
     rw[hs0,if_pos];rw[htk,A9p hlt hgk hsm,decide_eq_true hk3,decide_eq_true hnn];rfl
    subst this;have hT:=A74 (I:=I) (bc:=b17) (bf:=bf) (pi:=.pointer (some ⟨bt,ot,none⟩)) (sc:= []) (sa:=none) (sp:=0) (s:=Sp.NW0) (da:=none) (dp:=0) (ua:=none) (up:=0) it.name it.mark 7 (by omega) (by decide);repeat' (first|refine U3 (d:=43) ?_ (hr:=hrs);intro bu ou hpu;rw[show ((k:Int).toNat *10)=k *10 from rfl,hdt,hcz]at hpu|refine Q9 (id:=8) 9 (h:=?_)|refine F6 (d:=70) ?_ hm (hp:=A93) (hc:=hT);clear hm;rintro _ I2 _ _ ⟨rfl,sa2,sp2,da2,dp2,ua2,up2,rfl⟩ hleI2 hm;try simp only[F7]at hm|refine A0j (d:=8) ?_ hm;clear hm;intro b8 _ hm|refine Y8 ?_ hm|refine J8 ?_ hm|refine U1 ?_ hm|refine O0 ?_|refine D9 ?_|refine A7 ?_|refine G7 ?_|refine G5 ?_|refine Q3 ?_|refine E8 ?_|refine A8 ?_|refine F5 ?_|refine F9 ?_|refine O7 ?_|refine L6 ?_|refine U4 ?_;intro _ hkq;replace hm:=hm.kept0 hkq;clear hkq|refine L9 ?_;intro _ hkq;replace hm:=hm.kept0 hkq;clear hkq|(refine D6 (ht:=fun _=>?_) (hf:=fun _=>?_)<;>try first|contradiction|omega)|refine P5 ?_|refine P7 ?_|refine A44 ?_|refine A6N ?_|refine J5 ?_|refine G6 ?_|(refine O3 (fun _=>?_) (h1:=fun _=>?_)<;>try first|contradiction|omega))
    all_goals try first|omega|contradiction
    exact A0L (⟨0,I2,sa2,sp2,da2,dp2,ua2,up2⟩:NX) (by exact⟨rfl,rfl,rfl,rfl,trivial⟩) ⟨hm.left,hleI2⟩
   |false=>
    have hne:¬(y.kind=it.kind/\y.name=it.name):=fun h1=>by
     rw[Sp.same,decide_eq_true h1.1,decide_eq_true h1.2]at hsm;cases hsm
    repeat' (first|refine U3 (d:=43) ?_ (hr:=hrs);intro bu ou hpu;rw[show ((k:Int).toNat *10)=k *10 from rfl,hdt,hcz]at hpu|refine A0j (d:=8) ?_ hm;clear hm;intro b8 _ hm|refine Y8 ?_ hm|refine J8 ?_ hm|refine U1 ?_ hm|refine D8 ?_|refine O0 ?_|refine Q4 ?_|refine D9 ?_|refine A7 ?_|refine D7 ?_|refine E8 ?_|refine A8 ?_|refine F5 ?_|refine F9 ?_|refine L6 ?_|refine U4 ?_;intro _ hkq;replace hm:=hm.kept0 hkq;clear hkq|refine E9 ?_|(refine D6 (ht:=fun _=>?_) (hf:=fun _=>?_)<;>try first|contradiction|omega)|refine P5 ?_|refine P7 ?_|refine V9 ?_|refine A44 ?_|refine A6N ?_|refine J5 ?_|refine G6 ?_|refine A05 ?_|(refine O3 (fun _=>?_) (h1:=fun _=>?_)<;>try first|contradiction|omega))
    all_goals try (exfalso;first|omega|contradiction|(exact hne ⟨by omega,by assumption⟩))
    all_goals refine N7 (k+1:Nat) (by exact⟨rfl,rfl,rfl,rfl,rfl,rfl,rfl,trivial⟩) ⟨hm.tl,by omega,fun j x hj hg'=>?_⟩ (by omega)
    all_goals
     rcases X3 j k with hjk|hjk
     ·exact hno j x hjk hg'
     ·obtain rfl:j=k:=by omega
      rw[hgk]at hg';obtain rfl:=A1g hg';exact hsm
  ·obtain rfl:k=i:=by omega
   have:s0=Sp.NW0:=by
    rw[hs0,if_neg];rw[htk,A9o (by omega) hno];simp
   subst this;repeat' (first|refine O0 ?_|refine D9 ?_|refine A7 ?_|refine G7 ?_|refine G5 ?_|refine E8 ?_|refine A8 ?_|refine O7 ?_|(refine D6 (ht:=fun _=>?_) (hf:=fun _=>?_)<;>try first|contradiction|omega))
   all_goals try first|omega|contradiction
   exact A0L (⟨0,I,none,0,none,0,none,0⟩:NX) (by exact⟨rfl,rfl,rfl,rfl,trivial⟩) ⟨hm,Le.refl _⟩
 ·clear hm
  rintro⟨_,I1,sa1,sp1,da1,dp1,ua1,up1⟩ w1 ⟨hm,hle1⟩;dsimp only at hm hle1 |-;have hpt1:=hpt.le hle1;by_cases k2:it.kind=2
  ·rw[if_pos k2]at hw
   have hC:NC I1 src p q its it bf a cp xs (.pointer (some ⟨bt,ot,none⟩)):=⟨hfile.le hle1,h.le hle1,⟨bt,ot,_,_,rfl,hpt1,hat0.le hle1⟩,hlen,hst,fun x hx=>(hN x hx).st⟩;have hF:=B9k (bc:=b17) (s:=s0) (sa:=sa1) (sp:=sp1) (da:=da1) (dp:=dp1) (ua:=ua1) (up:=up1) hC hIt.small hIt.cnt (by omega);rw[<-hw]at hF;repeat' (first|refine F6 (d:=78) ?_ hm (hp:=A2L) (hc:=hF);clear hm;rintro _ I2 _ _ ⟨rfl,sa2,sp2,da2,dp2,ua2,up2,rfl⟩ hleI2 hm;try simp only[F7]at hm|refine J4 ?_ hm|refine D8 ?_|refine D5 ?_|refine Q5 ?_|refine E5 ?_|refine C9 ?_|refine D9 ?_|refine A7 ?_|refine E8 ?_|refine A8 ?_|refine H7 ?_|refine H9 ?_|(refine D6 (ht:=fun _=>?_) (hf:=fun _=>?_)<;>try first|contradiction|omega))
   all_goals try first|omega|contradiction
   exact⟨I2,_,⟨_,_,_,_,_,_,_,_,_,rfl,rfl⟩,hm⟩
  ·rw[if_neg k2]at hw
   subst hw;repeat' (first|refine J4 ?_ hm|refine D8 ?_|refine D5 ?_|refine Q5 ?_|refine E5 ?_|refine C9 ?_|refine D9 ?_|refine A7 ?_|refine E8 ?_|refine A8 ?_|refine F9 ?_|refine H7 ?_|refine H9 ?_|(refine D6 (ht:=fun _=>?_) (hf:=fun _=>?_)<;>try first|contradiction|omega))
   all_goals try first|omega|contradiction
   exact⟨I1,_,⟨_,_,_,_,_,_,_,_,_,rfl,rfl⟩,hm⟩
end
theorem B8H (l:List Sp.Us):∀u∈l.flatMap A6p,u.oneCell'=true:=by
 intro u hu;obtain⟨z,_,hz⟩:=List.mem_flatMap.1 hu;simp only[A6p,A0D,List.not_mem_nil,or_false]at hz;rcases hz with rfl|rfl|rfl<;>rfl
section
variable {src:List UInt8}{its:List Sp.Itm}{a:Option Addr}{cp:Nat}{xs:List Value}
theorem B6e (I:U0) (h:FE I its a cp xs) (hlen:src.length<=4000) (hN:∀x∈its,Sp.ItN src x):
  CalM prog 23 #[.agg [.slice a its.length cp].toArray] I [] (fun v I' H'=>H'= []/\∃ua up,v=.slice ua (A6G its).length up/\RowI I' 53 3 (.slice ua (A6G its).length up) (A6G its).length ((A6G its).flatMap A6p)):=by
 refine CalM.of fun w E hm=>enter (N:=20) func23 rfl [(0,.agg [.slice a its.length cp].toArray)] A0v rfl ?_
 have hfew:=h.few;repeat' (first|refine A0z (d:=1) ?_ hm;clear hm;intro b1 _ hm|refine H8 ?_ hm|refine D8 ?_|refine D5 ?_|refine G8 ?_|refine C9 ?_|refine D9 ?_|refine A7 ?_|refine E8 ?_|refine A8 ?_|refine F5 ?_)
 all_goals try omega
 obtain⟨I2,hle2,hm2,hpf⟩:=hm.freezeO;clear hm;have hm:=hm2;clear hm2;refine X7 (fun x:NX=> [(1,ptr b1),(3,.slice x.ua (A2Y its x.k).length x.up),(7,nt its.length),(8,nt x.k)])
  (fun x w'=>Mem E x.I [.row (.slice x.ua (A2Y its x.k).length x.up) 53 3 (A2Y its x.k).length ((A2Y its x.k).flatMap A6p)] w'/\Le I2 x.I/\x.k<=its.length/\(A2Y its x.k).length<=x.k *900000000) (fun x=>its.length-x.k) ⟨0,I2,none,0,none,0,none,0⟩
  (by exact⟨rfl,rfl,rfl,rfl,trivial⟩) ⟨hm.nil 53 3,Le.refl _,J7 _,J7 _⟩ ?_
 clear hm;rintro⟨k,I3,_,_,_,_,ua1,up1⟩ w1 ⟨hm,hle3,hk,hn⟩;dsimp only at hm hle3 hk hn |-;have hpf3:=hpf.le hle3;by_cases hlt:k<its.length
 ·have hus:=A8o its k
  have hwn:=B2A hN hlt;have hwl:(A4o its k).us.length<=(A4o its k).n:=by rw[Sp.NW.n];omega
  have hc:=B8g k hlt b1 I3 hpf3 ((h.le hle2).le hle3) hlen hN;generalize A2Y its k=us at hm hn hus |-;generalize A4o its k=r at hc hus hwn hwl;repeat' (first|refine F6 (d:=13) ?_ hm (hp:=pm0) (hc:=hc);clear hm;rintro _ I4 _ _ ⟨bc,pi,sc,sa,sp,da,dp,ua,up,rfl,rfl⟩ hleI4 hm;try simp only[F7]at hm;obtain⟨I5,hle5,hm5,hobj⟩:=hm.freezeO;obtain⟨I6,hle6,hm6,husr⟩:=hm5.freeze;clear hm hm5;have hm:=hm6;clear hm6;have hobj6:=hobj.le hle6|refine B4Y (d:=17) ?_ hm (hr:=husr) (h1:=B8H _);clear hm;intro a17 cp17 _ hm;try simp only[F7]at hm|refine J4 ?_ hm|refine D8 ?_|refine D5 ?_|refine O0 ?_|refine E5 ?_|refine Q4 ?_|refine C9 ?_|refine D9 ?_|refine A7 ?_|refine D7 ?_|refine E8 ?_|refine A8 ?_|refine F5 ?_|refine F9 ?_|(refine D6 (ht:=fun _=>?_) (hf:=fun _=>?_)<;>try first|contradiction|omega))
  all_goals try omega
  refine N7 (⟨k+1,I6,none,0,none,0,a17,cp17⟩:NX) (by exact⟨rfl,by rw[hus,Y4];rfl,rfl,rfl,trivial⟩) ⟨?_,(((hle3.trans hleI4).trans hle5).trans hle6),by dsimp only;omega,by dsimp only;rw[hus,Y4];omega⟩ (by dsimp only;omega)
  dsimp only
  rw[hus,Y4,A0F];exact hm.tl.tl
 ·obtain rfl:k=its.length:=by omega
  repeat' (first|refine D8 ?_|refine D5 ?_|refine O0 ?_|refine D9 ?_|refine A7 ?_|refine G7 ?_|refine G5 ?_|refine E8 ?_|refine A8 ?_|refine O7 ?_|refine H7 ?_|refine H9 ?_|(refine D6 (ht:=fun _=>?_) (hf:=fun _=>?_)<;>try first|contradiction|omega))
  all_goals try omega
  obtain⟨I4,hle4,hm4,hrow⟩:=hm.freeze;exact⟨I4,[],⟨rfl,_,_,rfl,hrow⟩,hm4.left (H:= [])⟩
end
section
variable {src:List UInt8}{its:List Sp.Itm}{a:Option Addr}{cp:Nat}{xs:List Value}
end
section
variable {src:List UInt8}{its:List Sp.Itm}{a:Option Addr}{cp:Nat}{xs:List Value}
end
theorem B7C (u:Sp.Us):A2c (A6p u) (A6p u)=true:=by simp[A2c,A5c]
theorem B5i (s:List UInt8) (hs:s.length<=9223372036854775807) (I:U0) (hC:A3b I):
  CalM prog 5 #[str s] I [] (fun v _ H'=>v=.bool true/\H'= []):=by
 refine CalM.of fun w E hm=>enter (N:=58) func5 rfl [(0,str s)] A0v rfl ?_
 have hAl:=B64 I hC;have hF:=fun (J:U0) (m:Le I J)=>B6o s J (hC.le m) hs
 obtain⟨g1,g2,few1⟩:=B1z s;have hN:=B5P s;have h4:A1d s=0->s.length<=4000:=fun h=>by
  rw[A1d]at h;split at h
  ·omega
  ·omega
 generalize A1d s=er at hF h4;generalize P8 s=its at hF g1 g2 few1 hN;by_cases h0:er≠0
 ·skip
  repeat' (first|refine F6 (d:=9) ?_ hm (hp:=pm0) (hc:=hAl);clear hm;rintro _ I1 _ _ ⟨rfl,rfl⟩ hleI1 hm;try simp only[F7]at hm|refine F6 (d:=13) ?_ hm (hp:=pm0) (hc:=hF I1 hleI1);clear hm;rintro _ I2 _ _ ⟨a,cp,xs,rfl,hrow,hits,rfl⟩ hleI2 hm;try simp only[F7]at hm|refine A0j (d:=3) ?_ hm;clear hm;intro b3 _ hm|refine D8 ?_|refine D5 ?_|refine A1a ?_|refine Y7 ?_|refine A1r ?_|refine D9 ?_|refine A7 ?_|refine H5 ?_|refine E8 ?_|refine A8 ?_|refine F9 ?_|refine H7 ?_|refine H9 ?_|refine E9 ?_|(refine D6 (ht:=fun _=>?_) (hf:=fun _=>?_)<;>try first|contradiction|omega))
  all_goals try first|omega|contradiction
  all_goals exact⟨I2,[],⟨rfl,rfl⟩,hm.left (H:= [])⟩
 obtain rfl:er=0:=by omega
 have hs4:=h4 rfl;repeat' (first|refine F6 (d:=9) ?_ hm (hp:=pm0) (hc:=hAl);clear hm;rintro _ I1 _ _ ⟨rfl,rfl⟩ hleI1 hm;try simp only[F7]at hm|refine F6 (d:=13) ?_ hm (hp:=pm0) (hc:=hF I1 hleI1);clear hm;rintro _ I2 _ _ ⟨a,cp,xs,rfl,hrow,hits,rfl⟩ hleI2 hm;try simp only[F7]at hm|refine A25 6 ?_|refine A0j (d:=3) ?_ hm;clear hm;intro b3 _ hm|refine D8 ?_|refine D5 ?_|refine A1a ?_|refine Y7 ?_|refine A1r ?_|refine D9 ?_|refine A7 ?_|refine E8 ?_|refine A8 ?_|refine F9 ?_|refine E9 ?_)
 all_goals try first|omega|contradiction
 have q1:FE I2 its a cp xs:=B33 hrow hits (by omega);obtain⟨I3,hle3,hm3,hpf⟩:=hm.freezeO;clear hm;have hm:=hm3;clear hm3;have q3:=q1.le hle3;have hA:=A8U g2 g1 I3 a cp xs q3;refine⟨?_⟩
 repeat' (first|refine Y8 (d:=18) ?_ hm (hp:=hpf)|refine F6 (d:=19) ?_ hm (hp:=pm0) (hc:=hA);clear hm;rintro _ I4 _ _ ⟨rfl,ra,rp,rx,r,hr,rfl,hrr,hrx⟩ hleI4 hm;try simp only[F7]at hm|refine A25 7 ?_|refine A0j (d:=5) ?_ hm;clear hm;intro b5 _ hm|refine D9 ?_|refine A7 ?_|refine E8 ?_|refine A8 ?_)
 all_goals try first|omega|contradiction
 have hlen:=hr.len;obtain⟨k1,k2⟩:=B1P hr g1 g2;have hsm:=A9S hr;have q4:=B33 hrr hrx (by omega);obtain⟨I5,hle5,hm5,hpg⟩:=hm.freezeO;clear hm;have hm:=hm5;clear hm5;have q5:=q4.le hle5;have hpf5:=(hpf.le hleI4).le hle5;have q35:=(q3.le hleI4).le hle5;have hA2:=A8U k2 k1 I5 ra rp rx q5;have hag:=fun (r2:List Sp.Itm) (h2:B0h r r2)=>A8X hr h2
 have hSame:=fun (J:U0) (m:Le I5 J) (ra2:Option Addr) (rp2:Nat) (rx2:List Value) (h1:RowI J 60 10 (.slice ra2 r.length rp2) r.length rx2) (h2:A3c J r rx2)=>B3o r (by omega) (fun it hit=>(k1 it hit).small) J ra2 ra rp2 rp rx2 rx h1 h2 (q5.row.le m) (q5.ats.le m)
 have hU1:=fun (J:U0) (m:Le I5 J)=>B6e J (q35.le m) hs4 hN
 have hU2:=fun (J:U0) (m:Le I5 J)=>B6e J (q5.le m) hs4 (B54 hsm hN)
 rw[B6E hsm]at hU2;have hul:=B5p hN (by omega);generalize A6G its=us at hU1 hU2 hul;refine⟨?_⟩
 repeat' (first|refine A4Y (id:=7) (hm.perm pm0) [([0,2],[1,3]),([4,5,6,7,8,9,10,11,12],[])] 13 (h:=?_);clear hm;intro wd hR hm|refine A0X (d:=20) ?_ hR (hp:=hpg)|refine A0X (d:=22) ?_ hR (hp:=hpg)|refine A02 (d:=21) ?_ hm (hp:=pm0) (hc:=hA2);clear hm;rintro _ I6 _ _ ⟨rfl,ra2,rp2,rx2,r2,hr2,rfl,hrr2,hrx2⟩ hleI6 hm;try simp only[F7]at hm;obtain rfl:=hag r2 hr2|refine A02 (d:=23) ?_ hm (hp:=pm0) (hc:=hSame I6 hleI6 ra2 rp2 rx2 hrr2 hrx2);clear hm;rintro _ I7 _ _ ⟨rfl,rfl⟩ hleI7 hm;try simp only[F7]at hm|refine A25 9 ?_|refine A1u ?_ hR|refine A7N ?_|refine A7M ?_|refine A1m ?_|refine B5z ?_|refine A9k ?_;replace hm:=hR.back hm;clear hR;try simp only[F7]at hm|refine J9 ?_|refine D9 ?_|refine A7 ?_|refine E8 ?_|refine F9 ?_|(refine D6 (ht:=fun _=>?_) (hf:=fun _=>?_)<;>try first|contradiction|omega)|refine A1V ?_|refine B4u ?_|refine A47 ?_|refine B4v ?_|refine S9 ?_)
 all_goals try first|omega|contradiction
 have hpf7:=(hpf5.le hleI6).le hleI7;have hpg7:=(hpg.le hleI6).le hleI7;refine⟨?_⟩
 repeat' (first|refine A0K (id:=9) (hm.perm pm0) [0,2] [1,3,4] 5 (h:=?_);clear hm;intro wd hR hm|refine A0X (d:=34) ?_ hR (hp:=hpf7)|refine A0X (d:=36) ?_ hR (hp:=hpg7)|refine A02 (d:=35) ?_ hm (hp:=pm0) (hc:=hU1 I7 (hleI6.trans hleI7));clear hm;rintro _ I8 _ _ ⟨rfl,ua,up,rfl,hru⟩ hleI8 hm;try simp only[F7]at hm|refine A02 (d:=37) ?_ hm (hp:=pm0) (hc:=hU2 I8 ((hleI6.trans hleI7).trans hleI8));clear hm;rintro _ I9 _ _ ⟨rfl,va,vp,rfl,hrv⟩ hleI9 hm;try simp only[F7]at hm|refine B6v (d:=6) hm.kept (by rfl) (by rfl) (by rfl) ?_|refine A1m ?_;replace hm:=hR.back hm;clear hR;try simp only[F7]at hm|refine D8 ?_|refine D5 ?_|refine A1a ?_|refine G8 ?_|refine D9 ?_|refine A7 ?_|refine E8 ?_|refine A8 ?_|refine F5 ?_|refine F9 ?_|(refine D6 (ht:=fun _=>?_) (hf:=fun _=>?_)<;>try first|contradiction|omega)|refine A08 ?_)
 all_goals try first|omega|contradiction
 refine X7 (fun k:Nat=> [(6,.slice ua us.length up),(7,.slice va us.length vp),(44,nt us.length),(45,nt k)])
  (fun k w'=>Mem E I9 [] w'/\k<=us.length) (fun k=>us.length-k) 0 (by exact⟨rfl,rfl,rfl,rfl,trivial⟩) ⟨hm,J7 _⟩ ?_
 clear hm;rintro k w1 ⟨hm,hk⟩;try dsimp only at hm hk |-
 have hru9:=hru.le hleI9;by_cases hlt:k<us.length
 ·have hg:us[k]?=some us[k]:=G9 hlt
  generalize us[k]=u at hg;repeat' (first|refine A0h (d:=50) (enc:=A6p) (z:=u) ?_ (hr:=hru9) (he:=fun _=>rfl) (hz:=by exact hg);intro b1 o1 p1|refine A0h (d:=54) (enc:=A6p) (z:=u) ?_ (hr:=hrv) (he:=fun _=>rfl) (hz:=by exact hg);intro b2 o2 p2|refine A0A ?_ hm|refine D8 ?_|refine D5 ?_|refine O0 ?_|refine Q4 ?_|refine D9 ?_|refine A7 ?_|refine H5 ?_|refine D7 ?_|refine L8 ?_|refine E8 ?_|refine A8 ?_|refine F5 ?_|refine F9 ?_|refine H7 ?_|refine H9 ?_|refine L6 ?_|refine U4 ?_;intro _ hkq;replace hm:=hm.kept0 hkq;clear hkq|(refine D6 (ht:=fun _=>?_) (hf:=fun _=>?_)<;>try first|contradiction|omega)|refine A04 (ht:=fun _=>?_) (hf:=fun _=>?_)|refine P5 ?_|refine A0t ?_)
  all_goals try first|omega|contradiction
  all_goals try (exfalso;rename_i hx;rw[B7C]at hx;exact absurd hx (by decide))
  exact N7 (k+1:Nat) (by exact⟨rfl,rfl,rfl,rfl,trivial⟩) ⟨hm,by omega⟩ (by omega)
 ·obtain rfl:k=us.length:=by omega
  repeat' (first|refine D5 ?_|refine O0 ?_|refine D9 ?_|refine A7 ?_|refine G7 ?_|refine G5 ?_|refine E8 ?_|refine A8 ?_|refine O7 ?_|refine H7 ?_|refine H9 ?_|(refine D6 (ht:=fun _=>?_) (hf:=fun _=>?_)<;>try first|contradiction|omega))
  all_goals try first|omega|contradiction
  exact⟨I9,[],⟨rfl,rfl⟩,hm⟩
end Go.Proofs
namespace Go.Proofs.YtfjdfdgpkncpfaaGreatDoor
open Go.Proofs.Tryz
open Go.Sp
open Go.Fw
open Go.RowKit
theorem B4l : "*" ++ "errors.errorString" = "*errors.errorString" := by decide
theorem B8w (u : TypeId) (h : prog.typeName? 3 u = some "*errors.errorString") : u = 308 :=
 typeName_ptr_named (nm := "errors.errorString") (by rw [B4l]; kernel_rfl) (by kernel_rfl) (by decide) u (by rw [B4l]; exact h)
theorem B6U {l:List (String×DataW Unit)}{W:World} (h:laidMetH prog l W) (hp:(l.all fun x=>x.2.handleName?.isNone)=true)
  (he : l.filter (fun x => x.1 == "strconv.ErrRange") = [("strconv.ErrRange", Rows.laid_strconv_ErrRange)]) : A3b (A7z W) := by
 rw[MakeChecks.laidMetH_plain _ _ _ hp]at h;have h1 := h.filter (fun x => x.1 == "strconv.ErrRange");rw[he]at h1;obtain⟨a,s,hv,_⟩:=laid_sentinel (g:=2) h1 (by kernel_rfl) (ti:=245) (by kernel_rfl) underlying245 B8w underlying308 underlying310 rfl rfl underlying9 (by kernel_rfl) (by kernel_rfl);have hg : prog.globalNamed "strconv.ErrRange" = some 2 := by kernel_rfl
 simp only[World.var?,hg,A1S]at hv;split at hv
 ·rename_i cs ty fr hw
  obtain rfl:=A1g hv;exact⟨_,_,_,_,_,hw,rfl⟩
 ·cases hv
theorem B6u {f:FuncId}{args:Array Value}{v:Value}{W:World} (h:CalM prog f args (A7z W) [] (fun u _ H'=>u=v∧H'= [])):Cal prog f args W (fun u W'=>u=v∧Kept [] W W'):=
 (h.run W (Mem.start (A9M W))).mono (fun _ _ ⟨_,_,⟨h1,_⟩,h2⟩=>⟨h1,h2.kept⟩)
end Go.Proofs.YtfjdfdgpkncpfaaGreatDoor
