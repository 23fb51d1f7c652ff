/- Own work. -/
import Derived.Test.YtbmbnippbldmfaaGreatDoorSn19
set_option maxHeartbeats 64000000
namespace Go.Sp
def B90 (its:List Itm) (b:Int) (x:Stm) (sc:List Lc) (s:NW):List Lc×NW:=
 if x.kind=1 then mkN x.name x.at_ sc s else
 if x.kind=2 then (sc,A72 b sc x.at_ x.name s) else
 if x.kind=5 then (sc,A5e its b 1 x.at_ x.name s) else
 if x.kind=3\/x.kind=4 then (sc,(A1c its b x.els sc (A1c its b x.thn sc s).2).2) else (sc,s)
theorem C0B (its:List Itm) (b:Int) (x:Stm) (sc:List Lc) (s:NW):A5Z its b x sc s=B90 its b x sc (exN its b sc x.e s):=by cases x;rw[A5Z,B90];rfl
theorem B9Z (x:Stm):x.cnt=x.e.cnt+P8 x.thn+P8 x.els+1:=by cases x;rw[Stm.cnt];rfl
theorem B56 {l:List Stm}{k:Nat}{y:Stm} (h:l[k]?=some y):P8 (l.take k)+y.cnt<=P8 l:=by
 have e:l=l.take (k+1)++l.drop (k+1):=(A3e _ _).symm;have h2:=congrArg P8 e;rw[A2L,Q8 h,A2L,A4O]at h2;omega
theorem C0f:∀(l:List Stm),l.length<=P8 l
 | []=>by simp
 |x::l=>by rw[P8,F8];have:=B9Z x;have:=C0f l;omega
theorem C51 {q:List UInt8} (its:List Itm) (b:Int) {x:Stm} (hx:stS q x.kind x.name x.at_ x.label x.opn x.fr x.to) {sc:List Lc} (hsc:A59 q sc) (s:NW):A59 q (A5Z its b x sc s).1:=by
 rw[C0B,B90];split
 ·rename_i hk
  rw[mkN];split
  ·exact hsc
  ·rename_i hn;exact B1J hsc hn (hx (.inl hk))
 ·split
  ·exact hsc
  ·split
   ·exact hsc
   ·split
    ·exact hsc
    ·exact hsc
theorem B73 {q:List UInt8} (its:List Itm) (b:Int):∀(l:List Stm),X7 (stE q) (stS q) l->∀ {sc:List Lc},A59 q sc->∀(s:NW),A59 q (A1c its b l sc s).1
 | [],_,sc,hsc,s=>by rw[A1c];exact hsc
 |x::l,h,sc,hsc,s=>by
  rw[X7]at h;rw[A1c];exact B73 its b l h.2 (C51 its b (Stm.all_node h.1).1 hsc s) _
theorem B18 {p:PE}{q:PS}:∀ {l:List Stm} (k:Nat),X7 p q l->X7 p q (l.take k)
 | [],k,h=>by rw[List.take_nil];exact h
 |x::l,0,h=>by rw[Z9];exact X4
 |x::l,k+1,h=>by
  rw[X7]at h;rw[A1l,X7];exact⟨h.1,B18 k h.2⟩
theorem B5K:∀(l:List Par) (sc:List Lc) (s:NW),s.n<=(A3V l sc s).2.n/\(A3V l sc s).2.n<=s.n+l.length/\sc.length<=(A3V l sc s).1.length/\(A3V l sc s).1.length<=sc.length+l.length
 | [],sc,s=>by rw[A3V];exact⟨G9 _,by simp,G9 _,by simp⟩
 |x::l,sc,s=>by
  rw[A3V,F8];have h1:=C6r x.name x.at_ sc s;have h2:=B5K l (mkN x.name x.at_ sc s).1 (mkN x.name x.at_ sc s).2;omega
theorem C1S (its:List Itm) (b:Int) (dn:List Rf) (c:Rf) (s:NW):s.n<=(A63 its b dn c s).n/\(A63 its b dn c s).n<=s.n+2:=by
 have h1:=B3h its b 1 c.at_ c.name s;rw[A63];split
 ·rw[B0o];omega
 ·omega
theorem B5Z (its:List Itm) (b:Int):∀(l dn:List Rf) (s:NW),s.n<=(A6a its b dn l s).n/\(A6a its b dn l s).n<=s.n+2 *l.length
 | [],dn,s=>by rw[A6a];simp
 |x::l,dn,s=>by
  rw[A6a,F8];have h1:=C1S its b dn x s;have h2:=B5Z its b l (dn++ [x]) (A63 its b dn x s);omega
theorem C0p {q:List UInt8}:∀(l:List Par),(∀x∈l,A0R q x.at_ x.name)->∀ {sc:List Lc},A59 q sc->∀(s:NW),A59 q (A3V l sc s).1
 | [],_,sc,hsc,s=>by rw[A3V];exact hsc
 |x::l,h,sc,hsc,s=>by
  rw[A3V];refine C0p l (fun y hy=>h y (A0Q _ hy)) ?_ _
  rw[mkN];split
  ·exact hsc
  ·rename_i hn;exact B1J hsc hn (h x Q7)
structure ItN (src:List UInt8) (it:Itm):Prop where
 small:it.small
 cnt:P8 it.body<=400000000
 st:A8F src it
def same (it x:Itm):Bool:=decide (x.kind=it.kind) && decide (x.name=it.name)
theorem B3W {its:List Itm}{i:Nat}{F:Itm->Bool} (hi:i<=its.length) (h:∀j x,j<i->its[j]?=some x->F x=false):(its.take i).any F=false:=by
 rw[A6A];intro x hx;obtain⟨j,hj,rfl⟩:=A1K hx;rw[Q4]at hj;rw[List.getElem_take,h j _ (by omega) (G6 (by omega))];simp
theorem B3X {its:List Itm}{i k:Nat}{F:Itm->Bool}{x:Itm} (hk:k<i) (hg:its[k]?=some x) (h:F x=true):(its.take i).any F=true:=by
 rw[A71];refine⟨x,?_,h⟩
 refine A0B (i:=k) ?_
 rw[A1L,if_pos hk,hg]
theorem B6Q {α:Type} (xs:List α) {i k:Nat} (hk:k<i):(((xs.take (i *10)).drop (k *10)).take 10)=(xs.drop (k *10)).take 10:=by
 rw[List.drop_take,A28,A1g (by omega)]
theorem B3R {src:List UInt8}{its:List Itm} (h:∀x∈its,ItN src x) {i:Nat} (hi:i<its.length):(A3a its i).n<=900000000:=by
 have hm:=A83 hi;have hN:=h _ hm;rw[A3a];generalize A0o its i=it at hN;have h0:(if B04 its i it=true then NW0.tell it.mark 7 it.name else NW0).n<=1:=by
  split
  ·rw[B0o];exact G9 _
  ·exact H7 _
 generalize (if B04 its i it=true then NW0.tell it.mark 7 it.name else NW0)=s0 at h0;split
 ·rw[fnN]
  have h1:=B5K it.params [] s0;generalize A3V it.params [] s0=r at h1;have h2:=B5Z its it.at_ it.sends [] r.2;generalize A6a its it.at_ [] it.sends r.2=s1 at h2;have h3:=A8k its it.at_ it.body r.1 s1;have h4:=hN.small.params;have h5:=hN.small.sends;have h6:=hN.cnt;omega
 ·omega
theorem B9P (u:Us) (l:List Us) (at_:Int):B2b (u::l) at_=match decide (u.fr<=at_) && decide (at_<u.to) with|true=>some u|false=>B2b l at_:=by
 rw[B2b,A3J];rfl
theorem C2W (s:List UInt8):∀x∈J7 s,ItN s x:=by
 intro x hx;have hst:=C2X s x hx;by_cases h0:Z5 s=0
 ·have hl:s.length<=4000:=by
   rw[Z5]at h0;split at h0
   ·cases h0
   ·omega
  rw[J7,if_pos h0,A3I]at hx;obtain⟨j,_,rfl⟩:=A0x.1 hx;have hp:(A1b s (Y2 s) j).length<=4000:=by rw[A1b,Q4,A0r];omega
  have hc:=B0L (A1b s (Y2 s) j) ((Y2 s).getD j 0:Nat);exact⟨A4z _ _ (by omega),by rw[A0S];omega,hst⟩
 ·rw[J7,if_neg h0]at hx
  simp at hx
theorem B1M {src:List UInt8}{its:List Itm} (h:∀x∈its,ItN src x) (hf:its.length<=64):(A1Z its).length<=100000000000:=by
 have key:∀k,k<=its.length->(A49 its k).length<=k *900000000:=by
  intro k;induction k with
  |zero=>intro _;simp[A49]
  |succ k ih=>
   intro hk;rw[B2c,E9];have h1:=ih (by omega);have h2:=B3R h (i:=k) (by omega);have h3:(A3a its k).us.length<=(A3a its k).n:=by rw[NW.n];omega
   omega
 have:=key its.length (G9 _);rw[A1Z];omega
end Go.Sp
namespace Go.Fw
open Go.Sp
theorem C06 {l:List (List UInt8)}{k:Nat}{s:List UInt8}:((l.take k++s::l.drop k).flatMap A6X)=(l.flatMap A6X).take k++str s::(l.flatMap A6X).drop k:=by
 rw[A8Z,A8Z,Y8,X8,List.map_take,List.map_drop]
theorem C8U {x y z:HItem}: [x,y,z].Perm [y,z,x]:=A0P (l₁:= [x]) (l₂:= [y,z])
theorem C07 (l:List (List UInt8)):(l.flatMap A6X).all (·.oneCell')=true:=by
 induction l with
 |nil=>rfl
 |cons p l ih=>rw[A0a,A5K,ih];rfl
end Go.Fw
namespace Go.Proofs
open Go.Proofs.Tryz
open Go.Sp
open Go.Fw
section
variable (src:List UInt8) (p:Nat) (q:List UInt8) (its:List Sp.Itm) (it:Sp.Itm) (bc bf:Nat) (a:Option Addr) (cp:Nat) (xs:List Value) (pi:Value)
def C2a (x:Sp.Stm):Prop:=
 ∀(I:P6) (b o tc:Nat) (cs:List Value) (sc:List Sp.Lc) (s:Sp.NW) (sa:Option Addr) (sp:Nat) (da:Option Addr) (dp:Nat) (ua:Option Addr) (up:Nat),A59 q sc->sc.length+x.cnt<=900000000->s.n+2 *x.cnt<=900000000->NC I src p q its it bf a cp xs pi->
  PtrI I b o tc cs->A5j I x cs->
  CalM prog 155 #[ptr bc,.pointer (some ⟨b,o,none⟩)] I (NSt bc bf pi sc sa sp s da dp ua up) (ToN bc bf pi (A5Z its p x sc s).1 (A5Z its p x sc s).2 (.tuple #[]))
def B46 (l:List Sp.Stm):Prop:=
 ∀(I:P6) (ab:Option Addr) (cb:Nat) (xb:List Value) (sc:List Sp.Lc) (s:Sp.NW) (sa:Option Addr) (sp:Nat) (da:Option Addr) (dp:Nat) (ua:Option Addr) (up:Nat),A59 q sc->sc.length+P8 l<=900000000->s.n+2 *P8 l<=900000000->NC I src p q its it bf a cp xs pi->
  RowI I 111 15 (.slice ab l.length cb) l.length xb->X6 I l xb->
  CalM prog 123 #[ptr bc,.slice ab l.length cb] I (NSt bc bf pi sc sa sp s da dp ua up) (ToN bc bf pi sc (A1c its p l sc s).2 (.tuple #[]))
end
section
variable {src:List UInt8}{p:Nat}{q:List UInt8}{its:List Sp.Itm}{it:Sp.Itm}{bc bf:Nat}{a:Option Addr}{cp:Nat}{xs:List Value}{pi:Value}
theorem B82 (sc:List Sp.Lc) (n:Nat):(sc.flatMap A9K).take (n *2)=(sc.take n).flatMap A9K:=by
 induction sc generalizing n with
 |nil=>simp
 |cons x l ih=>
  cases n with
  |zero=>simp
  |succ n=>
   rw[A0a,A1l,A0a,show (n+1) *2=2+n *2 by omega,A6C,A0u (by show 2<=2+n *2;omega),show 2+n *2-(A9K x).length=n *2 by (show 2+n *2-2=n *2;omega),ih]
theorem C5j (l:List Sp.Stm) (hl:l.length<=64) (hall:X7 (Sp.stE q) (Sp.stS q) l) (hS:∀y∈l,C2a src p q its it bc bf a cp xs pi y):B46 src p q its it bc bf a cp xs pi l:=by
 intro I ab cb xb sc s sa sp da dp ua up hsc hn1 hn2 hC hr hx;refine CalM.of fun w E hm=>enter (N:=31) func123 rfl [(0,ptr bc),(1,.slice ab l.length cb)] A0T rfl ?_
 repeat' (first|refine J4 ?_ hm|refine D8 ?_|refine D6 ?_|refine G7 ?_|refine E5 ?_|refine C9 ?_|refine D9 ?_|refine A7 ?_|refine E8 ?_|refine A8 ?_|refine F5 ?_)
 refine U2 (fun x:NX=> [(0,ptr bc),(1,.slice ab l.length cb),(4,nt sc.length),(12,nt l.length),(13,nt x.k)])
  (fun x w'=>Mem E x.I (NSt bc bf pi (A1c its p (l.take x.k) sc s).1 x.sa x.sp (A1c its p (l.take x.k) sc s).2 x.da x.dp x.ua x.up) w'/\Le I x.I/\x.k<=l.length) (fun x=>l.length-x.k) ⟨0,I,sa,sp,da,dp,ua,up⟩
  (by exact⟨rfl,rfl,rfl,rfl,rfl,trivial⟩) ⟨by dsimp only;rw[Z9,A1c];exact hm,Le.refl _,H7 _⟩ ?_
 clear hm;rintro⟨k,I1,sa1,sp1,da1,dp1,ua1,up1⟩ w1 ⟨hm,hle1,hk⟩;dsimp only at hm hle1 hk |-;have hC1:=hC.le hle1;have hrow:=hr.le hle1;by_cases hlt:k<l.length
 ·have hg:l[k]?=some l[k]:=G6 hlt
  have hmem:=O7 hlt;obtain⟨cs,hcs⟩:∃cs,cs=(xb.drop (k *15)).take 15:=⟨_,rfl⟩;have hat:=hx.get hg;rw[<-hcs]at hat
  have hSk:=hS _ hmem;generalize l[k]=y at hg hmem hat hSk;have hst:=B9F its p hg sc s;have hcy:=B56 hg;have hnn:=A8k its p (l.take k) sc s;have hsc1:=B73 its p (l.take k) (B18 k hall) hsc s;have htl:(l.take k).length=k:=by rw[Q4];omega
  have hkc:=C0f (l.take k);generalize A1c its p (l.take k) sc s=r at hm hst hnn hsc1;have hcl:=fun b o (hpt:PtrI I1 b o 111 cs)=>hSk I1 b o 111 cs r.1 r.2 sa1 sp1 da1 dp1 ua1 up1 hsc1 (by omega) (by omega) hC1 hpt (A5j.le hle1 _ _ hat)
  generalize A5Z its p y r.1 r.2=z at hcl hst;repeat' (first|refine O0 (d:=19) ?_ (hr:=hrow);intro bt ot hpt;rw[show ((k:Int).toNat *15)=k *15 from rfl, <-hcs]at hpt|refine F6 (d:=20) ?_ hm (hp:=A3E) (hc:=hcl _ _ hpt);clear hm;rintro _ I2 _ _ ⟨rfl,sa2,sp2,da2,dp2,ua2,up2,rfl⟩ hleI2 hm;try simp only[F9]at hm|refine D8 ?_|refine D6 ?_|refine J6 ?_|refine P7 ?_|refine D9 ?_|refine A7 ?_|refine D7 ?_|refine E8 ?_|refine A8 ?_|refine F5 ?_|refine G5 ?_|(refine D5 (ht:=fun _=>?_) (hf:=fun _=>?_)<;>try first|contradiction|omega))
  exact L9 (⟨k+1,I2,sa2,sp2,da2,dp2,ua2,up2⟩:NX) (by exact⟨rfl,rfl,rfl,rfl,rfl,trivial⟩) ⟨by dsimp only;rw[hst];exact hm,hle1.trans hleI2,by dsimp only;omega⟩ (by dsimp only;omega)
 ·obtain rfl:k=l.length:=by omega
  have hback:=B9E its p l sc s;have hpl:=(A8k its p l sc s).2.2.1;rw[V5]at hm;generalize A1c its p l sc s=r at hm hback hpl |-;repeat' (first|refine A9u (d:=28) ?_ hm (hmn:=hpl);clear hm;intro hm;try simp only[F9]at hm|refine J4 ?_ hm|refine O6 hm (k:=?_);clear hm;intro _ hm;try simp only[F9]at hm|refine D8 ?_|refine J6 ?_|refine E5 ?_|refine C9 ?_|refine D9 ?_|refine A7 ?_|refine H9 ?_|refine H5 ?_|refine E8 ?_|refine A8 ?_|refine P9 ?_|refine X0 ?_|(refine D5 (ht:=fun _=>?_) (hf:=fun _=>?_)<;>try first|contradiction|omega))
  refine⟨I1,_,⟨rfl,sa1,sp1,da1,dp1,ua1,up1,?_⟩,hm⟩
  rw[B82,hback]
theorem C62 (x:Sp.Stm) (hsm:x.small) (hall:x.all (Sp.stE q) (Sp.stS q)) (hT:B46 src p q its it bc bf a cp xs pi x.thn) (hL:B46 src p q its it bc bf a cp xs pi x.els):C2a src p q its it bc bf a cp xs pi x:=by
 intro I b o tc cs sc s sa sp da dp ua up hsc hn1 hn2 hC hp hx;obtain⟨s1,s2,s3,s4,s5⟩:=A1S hsm;obtain⟨a1,a2,a3,a4⟩:=Sp.Stm.all_node hall;have hcnt:=B9Z x;refine CalM.of fun w E hm=>enter (N:=64) func155 rfl [(0,ptr bc),(1,.pointer (some ⟨b,o,none⟩))] A0T rfl ?_
 obtain⟨ea,ec,ex,a1',c1,xs1,a2',c2,xs2,rfl,hr3,hx3,hr4,hx4,hr5,hx5⟩:=hx.out;have hpe:=hp.sub (cs':=A0z x.e ea ec) 5 (fun j u hj=>by
  match j,hj with
  |0,hj=>exact hj
  |1,hj=>exact hj
  |2,hj=>exact hj
  |3,hj=>exact hj
  |4,hj=>exact hj
  |5,hj=>exact hj
  |j+6,hj=>cases hj)
 rw[C0B];have hE:=C60 (its:=its) (it:=it) (bc:=bc) (bf:=bf) (a:=a) (cp:=cp) (xs:=xs) (pi:=pi) (src:=src) (p:=p) (by omega) hsc _ x.e (G9 _) s1 a2 I b (o+5) tc ea ec ex s sa sp da dp ua up (by omega) hC hpe hr3 hx3;have hnx:=C2M its p sc x.e s;generalize Sp.exN its p sc x.e s=r at hE hnx |-;have hlen:=hC.len;rw[B90];by_cases k1:x.kind=1
 ·rw[if_pos k1]
  have hb:=(hC.st.sub _ _ (a1 (.inl k1))).1;have hc:=fun (J:P6) (sa:Option Addr) (sp:Nat) (da:Option Addr) (dp:Nat) (ua:Option Addr) (up:Nat)=>C3B (I:=J) (bc:=bc) (bf:=bf) (pi:=pi) (sc:=sc) (sa:=sa) (sp:=sp) (s:=r) (da:=da) (dp:=dp) (ua:=ua) (up:=up) x.name x.at_ (by omega) (by omega) (by omega)
  repeat' (first|refine F6 (d:=8) ?_ hm (hp:=A3E) (hc:=hE);clear hm;rintro _ I2 _ _ ⟨rfl,sa2,sp2,da2,dp2,ua2,up2,rfl⟩ hleI2 hm;try simp only[F9]at hm;have hp2:=hp.le hleI2|refine V7 (id:=3) 9 (h:=?_)|refine F6 (d:=24) ?_ hm (hp:=A3E) (hc:=hc I2 sa2 sp2 da2 dp2 ua2 up2);clear hm;rintro _ I3 _ _ ⟨rfl,sa3,sp3,da3,dp3,ua3,up3,rfl⟩ hleI3 hm;try simp only[F9]at hm|refine J5 ?_ hm|refine A0q ?_ hm|refine D8 ?_|refine D6 ?_|refine N9 ?_|refine E5 ?_|refine C9 ?_|refine D9 ?_|refine A7 ?_|refine D7 ?_|refine E8 ?_|refine A8 ?_|refine F5 ?_|refine X0 ?_|refine A0e ?_;intro _ hkq;replace hm:=hm.kept0 hkq;clear hkq|(refine D5 (ht:=fun _=>?_) (hf:=fun _=>?_)<;>try first|contradiction|omega)|refine X5 ?_|refine O8 ?_|refine L6 ?_)
  exact⟨I3,_,⟨rfl,_,_,_,_,_,_,rfl⟩,hm⟩
 rw[if_neg k1];by_cases k2:x.kind=2
 ·rw[if_pos k2]
  have hc:=fun (J:P6) (m:Le I J) (sa:Option Addr) (sp:Nat) (da:Option Addr) (dp:Nat) (ua:Option Addr) (up:Nat)=>C0m (I:=J) (bc:=bc) (sc:=sc) (sa:=sa) (sp:=sp) (s:=r) (da:=da) (dp:=dp) (ua:=ua) (up:=up) (hC.le m) x.at_ x.name (a1 (.inr (.inl k2))) hsc (by omega) (by omega)
  repeat' (first|refine F6 (d:=8) ?_ hm (hp:=A3E) (hc:=hE);clear hm;rintro _ I2 _ _ ⟨rfl,sa2,sp2,da2,dp2,ua2,up2,rfl⟩ hleI2 hm;try simp only[F9]at hm;have hp2:=hp.le hleI2|refine V7 (id:=5) 9 (h:=?_)|refine F6 (d:=36) ?_ hm (hp:=A3E) (hc:=hc I2 hleI2 sa2 sp2 da2 dp2 ua2 up2);clear hm;rintro _ I3 _ _ ⟨rfl,sa3,sp3,da3,dp3,ua3,up3,rfl⟩ hleI3 hm;try simp only[F9]at hm|refine J5 ?_ hm|refine A0q ?_ hm|refine D8 ?_|refine D6 ?_|refine N9 ?_|refine E5 ?_|refine C9 ?_|refine D9 ?_|refine A7 ?_|refine D7 ?_|refine E8 ?_|refine A8 ?_|refine F5 ?_|refine X0 ?_|refine A0e ?_;intro _ hkq;replace hm:=hm.kept0 hkq;clear hkq|(refine D5 (ht:=fun _=>?_) (hf:=fun _=>?_)<;>try first|contradiction|omega)|refine X5 ?_|refine O8 ?_|refine L6 ?_)
  exact⟨I3,_,⟨rfl,_,_,_,_,_,_,rfl⟩,hm⟩
 rw[if_neg k2];by_cases k5:x.kind=5
 ·rw[if_pos k5]
  cases hf:A0Z its 1 x.name with
  |none=>
   have hc:=fun (J:P6) (m:Le I J) (sa:Option Addr) (sp:Nat) (da:Option Addr) (dp:Nat) (ua:Option Addr) (up:Nat)=>B5v (I:=J) (bc:=bc) (sc:=sc) (sa:=sa) (sp:=sp) (s:=r) (da:=da) (dp:=dp) (ua:=ua) (up:=up) (hC.le m) 1 x.at_ x.name (a1 (.inr (.inr k5))) (by omega) hf
   repeat' (first|refine F6 (d:=8) ?_ hm (hp:=A3E) (hc:=hE);clear hm;rintro _ I2 _ _ ⟨rfl,sa2,sp2,da2,dp2,ua2,up2,rfl⟩ hleI2 hm;try simp only[F9]at hm;have hp2:=hp.le hleI2|refine V7 (id:=7) 9 (h:=?_)|refine F6 (d:=48) ?_ hm (hp:=A3E) (hc:=hc I2 hleI2 sa2 sp2 da2 dp2 ua2 up2);clear hm;rintro _ I3 _ _ ⟨rfl,sa3,sp3,da3,dp3,ua3,up3,rfl⟩ hleI3 hm;try simp only[F9]at hm|refine J5 ?_ hm|refine A0q ?_ hm|refine D8 ?_|refine D6 ?_|refine N9 ?_|refine E5 ?_|refine C9 ?_|refine D9 ?_|refine A7 ?_|refine D7 ?_|refine E8 ?_|refine A8 ?_|refine F5 ?_|refine X0 ?_|refine A0e ?_;intro _ hkq;replace hm:=hm.kept0 hkq;clear hkq|(refine D5 (ht:=fun _=>?_) (hf:=fun _=>?_)<;>try first|contradiction|omega)|refine X5 ?_|refine O8 ?_|refine L6 ?_)
   exact⟨I3,_,⟨rfl,_,_,_,_,_,_,rfl⟩,hm⟩
  |some j=>
   have hc:=fun (J:P6) (m:Le I J) (sa:Option Addr) (sp:Nat) (da:Option Addr) (dp:Nat) (ua:Option Addr) (up:Nat)=>B5w (I:=J) (bc:=bc) (sc:=sc) (sa:=sa) (sp:=sp) (s:=r) (da:=da) (dp:=dp) (ua:=ua) (up:=up) (hC.le m) 1 x.at_ x.name (a1 (.inr (.inr k5))) (by omega) hf
   repeat' (first|refine F6 (d:=8) ?_ hm (hp:=A3E) (hc:=hE);clear hm;rintro _ I2 _ _ ⟨rfl,sa2,sp2,da2,dp2,ua2,up2,rfl⟩ hleI2 hm;try simp only[F9]at hm;have hp2:=hp.le hleI2|refine V7 (id:=7) 9 (h:=?_)|refine F6 (d:=48) ?_ hm (hp:=A3E) (hc:=hc I2 hleI2 sa2 sp2 da2 dp2 ua2 up2);clear hm;rintro _ I3 _ _ ⟨⟨_,_,_,rfl,_,_⟩,sa3,sp3,da3,dp3,ua3,up3,rfl⟩ hleI3 hm;try simp only[F9]at hm|refine J5 ?_ hm|refine A0q ?_ hm|refine D8 ?_|refine D6 ?_|refine N9 ?_|refine E5 ?_|refine C9 ?_|refine D9 ?_|refine A7 ?_|refine D7 ?_|refine E8 ?_|refine A8 ?_|refine F5 ?_|refine X0 ?_|refine A0e ?_;intro _ hkq;replace hm:=hm.kept0 hkq;clear hkq|(refine D5 (ht:=fun _=>?_) (hf:=fun _=>?_)<;>try first|contradiction|omega)|refine X5 ?_|refine O8 ?_|refine L6 ?_)
   exact⟨I3,_,⟨rfl,_,_,_,_,_,_,rfl⟩,hm⟩
 rw[if_neg k5];by_cases k34:x.kind=3\/x.kind=4
 ·rw[if_pos k34]
  have hb1:=fun (J:P6) (m:Le I J) (sa:Option Addr) (sp:Nat) (da:Option Addr) (dp:Nat) (ua:Option Addr) (up:Nat)=>hT J a1' c1 xs1 sc r sa sp da dp ua up hsc (by omega) (by omega) (hC.le m) (hr4.le m) (X6.le m _ _ hx4)
  have hnn:=A8k its p x.thn sc r;generalize A1c its p x.thn sc r=r7 at hb1 hnn |-;have hb2:=fun (J:P6) (m:Le I J) (sa:Option Addr) (sp:Nat) (da:Option Addr) (dp:Nat) (ua:Option Addr) (up:Nat)=>hL J a2' c2 xs2 sc r7.2 sa sp da dp ua up hsc (by omega) (by omega) (hC.le m) (hr5.le m) (X6.le m _ _ hx5)
  repeat' (first|refine F6 (d:=8) ?_ hm (hp:=A3E) (hc:=hE);clear hm;rintro _ I2 _ _ ⟨rfl,sa2,sp2,da2,dp2,ua2,up2,rfl⟩ hleI2 hm;try simp only[F9]at hm;have hp2:=hp.le hleI2|refine F6 (d:=57) ?_ hm (hp:=A3E) (hc:=hb1 I2 hleI2 sa2 sp2 da2 dp2 ua2 up2);clear hm;rintro _ I3 _ _ ⟨rfl,sa3,sp3,da3,dp3,ua3,up3,rfl⟩ hleI3 hm;try simp only[F9]at hm;have hp3:=hp2.le hleI3|refine F6 (d:=63) ?_ hm (hp:=A3E) (hc:=hb2 I3 (hleI2.trans hleI3) sa3 sp3 da3 dp3 ua3 up3);clear hm;rintro _ I4 _ _ ⟨rfl,sa4,sp4,da4,dp4,ua4,up4,rfl⟩ hleI4 hm;try simp only[F9]at hm|refine J5 ?_ hm|refine D8 ?_|refine D6 ?_|refine N9 ?_|refine E5 ?_|refine C9 ?_|refine D9 ?_|refine A7 ?_|refine D7 ?_|refine E8 ?_|refine A8 ?_|refine F5 ?_|refine G5 ?_|refine X0 ?_|(refine D5 (ht:=fun _=>?_) (hf:=fun _=>?_)<;>try first|contradiction|omega))
  all_goals exact⟨I4,_,⟨rfl,_,_,_,_,_,_,rfl⟩,hm⟩
 ·rw[if_neg k34]
  repeat' (first|refine F6 (d:=8) ?_ hm (hp:=A3E) (hc:=hE);clear hm;rintro _ I2 _ _ ⟨rfl,sa2,sp2,da2,dp2,ua2,up2,rfl⟩ hleI2 hm;try simp only[F9]at hm;have hp2:=hp.le hleI2|refine J5 ?_ hm|refine D8 ?_|refine D6 ?_|refine N9 ?_|refine E5 ?_|refine C9 ?_|refine D9 ?_|refine A7 ?_|refine D7 ?_|refine E8 ?_|refine A8 ?_|refine F5 ?_|refine G5 ?_|refine X0 ?_|(refine D5 (ht:=fun _=>?_) (hf:=fun _=>?_)<;>try first|contradiction|omega))
  exact⟨I2,_,⟨rfl,_,_,_,_,_,_,rfl⟩,hm⟩
theorem C8q:∀(n:Nat) (l:List Sp.Stm),SizeOf.sizeOf l<=n->l.length<=64->A0i l->X7 (Sp.stE q) (Sp.stS q) l->B46 src p q its it bc bf a cp xs pi l:=by
 intro n;induction n with
 |zero=>intro l h;cases l<;>simp at h
 |succ n ih=>
 intro l hsz hll hsm hal;refine C5j l hll hal (fun y hy=>?_)
 obtain⟨j,hj,rfl⟩:=A1K hy;have hg:=G6 hj;have h1:=A1D hsm hg;have h0:=A4N hal hg;have h2:=Sp.Stm.all_node h0;have h3:=A3w (O7 hj);generalize l[j]=y at h0 h1 h2 h3;obtain⟨s1,s2,s3,s4,s5⟩:=A1S h1;obtain⟨z1,z2⟩:=A5T (s:=y);exact C62 y h1 h0 (ih y.thn (by omega) s2 s3 h2.2.2.1) (ih y.els (by omega) s4 s5 h2.2.2.2)
end
theorem C61 (I:P6) (b:Nat) (c:Sp.Rf) (hb:PtrI I b 0 106 (A2V c)) (x:Sp.Rf):
  CalM prog 122 #[.agg (A2V x).toArray,ptr b] I [] (fun v _ H'=>v=.bool (decide (x.name=c.name))/\H'= []):=by
 refine CalM.of fun w E hm=>enter (N:=9) func122 rfl [(0,.agg (A2V x).toArray),(1,ptr b)] A0T rfl ?_
 repeat' (first|refine A0K (d:=2) ?_ hm;clear hm;intro b2 _ hm|refine J4 ?_ hm|refine J5 ?_ hm|refine D6 ?_|refine V9 ?_|refine C9 ?_|refine D9 ?_|refine A7 ?_|refine E8 ?_|refine A8 ?_|refine H8 ?_|refine J9 ?_)
 exact⟨I,[],⟨rfl,rfl⟩,hm.left (H:= [])⟩
section
variable {src:List UInt8}{p:Nat}{q:List UInt8}{its:List Sp.Itm}{it:Sp.Itm}{bc bf:Nat}{a:Option Addr}{cp:Nat}{xs:List Value}{pi:Value}
theorem B9w (l:List Sp.Rf) (n:Nat):(l.flatMap A2V).take (n *2)=(l.take n).flatMap A2V:=by
 induction l generalizing n with
 |nil=>simp
 |cons x l ih=>
  cases n with
  |zero=>simp
  |succ n=>
   rw[A0a,A1l,A0a,show (n+1) *2=2+n *2 by omega,A6C,A0u (by show 2<=2+n *2;omega),show 2+n *2-(A2V x).length=n *2 by (show 2+n *2-2=n *2;omega),ih]
theorem C5n {I:P6}{sc:List Sp.Lc}{s:Sp.NW}{sa:Option Addr}{sp:Nat}{da:Option Addr}{dp:Nat}{ua:Option Addr}{up:Nat} (hC:NC I src p q its it bf a cp xs pi) (k:Int) (f:Nat) (n:List UInt8) (hst:A0R q f n) (hd:s.n<=1000000000):
  CalM prog 121 #[ptr bc,.int .i64 k,nt f,str n] I (NSt bc bf pi sc sa sp s da dp ua up)
   (fun _ _ H'=> ∃sa sp da dp ua up,H'=NSt bc bf pi sc sa sp (A5e its p k f n s) da dp ua up):=by
 cases hf:A0Z its k n with
 |none=>exact(B5v hC k f n hst hd hf).mono (fun _ _ _ _ h=>h.2)
 |some j=>exact(B5w hC k f n hst hd hf).mono (fun _ _ _ _ h=>h.2)
theorem C8R {I:P6}{s:Sp.NW}{sa:Option Addr}{sp:Nat}{da:Option Addr}{dp:Nat}{ua:Option Addr}{up:Nat} (hC:NC I src p q its it bf a cp xs pi) (hsm:it.small) (hcn:P8 it.body<=400000000) (hd:s.n<=1000):
  CalM prog 89 #[ptr bc] I (NSt bc bf pi [] sa sp s da dp ua up) (ToN bc bf pi (A3V it.params [] s).1 (Sp.fnN its it s) (.tuple #[])):=by
 refine CalM.of fun w E hm=>enter (N:=76) func89 rfl [(0,ptr bc)] A0I rfl ?_
 have hlen:=hC.len;have hst:=hC.st;rw[Sp.fnN,hst.at_];obtain⟨bi,oi,tci,ci,rfl,hpi,hati⟩:=hC.item;obtain⟨pa,pc,sa9,sc9,ba,bc9,da9,dc9,xb,rfl,hpar,hsnd,hrb,hbs,_⟩:=hati;have hsp:=hsm.params;have hss:=hsm.sends;have hsb:=hsm.body;repeat' (first|refine J4 ?_ hm|refine J5 ?_ hm|refine D8 ?_|refine G7 ?_|refine E5 ?_|refine C9 ?_|refine D9 ?_|refine A7 ?_|refine E8 ?_|refine A8 ?_|refine F5 ?_)
 refine U2 (fun x:NX=> [(0,ptr bc),(12,.slice pa it.params.length pc),(13,nt it.params.length),(14,nt x.k)])
  (fun x w'=>Mem E x.I (NSt bc bf (.pointer (some ⟨bi,oi,none⟩)) (A3V (it.params.take x.k) [] s).1 x.sa x.sp (A3V (it.params.take x.k) [] s).2 x.da x.dp x.ua x.up) w'/\Le I x.I/\x.k<=it.params.length) (fun x=>it.params.length-x.k) ⟨0,I,sa,sp,da,dp,ua,up⟩
  (by exact⟨rfl,rfl,rfl,rfl,trivial⟩) ⟨by dsimp only;rw[Z9,A3V];exact hm,Le.refl _,H7 _⟩ ?_
 clear hm;rintro⟨k,I1,sa1,sp1,da1,dp1,ua1,up1⟩ w1 ⟨hm,hle1,hk⟩;dsimp only at hm hle1 hk |-;by_cases hlt:k<it.params.length
 ·have hg:it.params[k]?=some it.params[k]:=G6 hlt
  have hpst:=(hst.sub _ _ (hst.params _ (O7 hlt))).1;have hstp:=C1C hg [] s;have hpr:=hpar.le hle1;have hgk:it.params[((k:Nat):Int).toNat]?=some it.params[k]:=hg;generalize it.params[k]=y at hg hpst hstp hgk;have hnn:=B5K (it.params.take k) [] s;rw[Q4]at hnn;generalize A3V (it.params.take k) [] s=r at hm hstp hnn;have hc:=fun (J:P6)=>C3B (I:=J) (bc:=bc) (bf:=bf) (pi:=.pointer (some ⟨bi,oi,none⟩)) (sc:=r.1) (sa:=sa1) (sp:=sp1) (s:=r.2) (da:=da1) (dp:=dp1) (ua:=ua1) (up:=up1) y.name y.at_ (by omega) (by dsimp only[List.length_nil]at hnn;omega) (by omega)
  generalize Sp.mkN y.name y.at_ r.1 r.2=z at hc hstp;repeat' (first|refine Q9 (d:=16) (enc:=A2N) (z:=y) ?_ (hr:=hpr) (he:=fun _=>rfl) (hz:=hgk);intro bt ot hpt|refine F6 (d:=23) ?_ hm (hp:=B4N) (hc:=hc I1);clear hm;rintro _ I2 _ _ ⟨rfl,sa2,sp2,da2,dp2,ua2,up2,rfl⟩ hleI2 hm;try simp only[F9]at hm|refine Y5 (d:=3) ?_ hm;clear hm;intro b3 _ hm|refine J4 ?_ hm|refine X3 ?_ hm|refine D8 ?_|refine J6 ?_|refine P7 ?_|refine C9 ?_|refine D9 ?_|refine A7 ?_|refine D7 ?_|refine E8 ?_|refine A8 ?_|refine F5 ?_|refine G5 ?_|(refine D5 (ht:=fun _=>?_) (hf:=fun _=>?_)<;>try first|contradiction|omega))
  exact L9 (⟨k+1,I2,sa2,sp2,da2,dp2,ua2,up2⟩:NX) (by exact⟨rfl,rfl,rfl,rfl,trivial⟩) ⟨by dsimp only;rw[hstp];exact hm.left,hle1.trans hleI2,by dsimp only;omega⟩ (by dsimp only;omega)
 obtain rfl:k=it.params.length:=by omega
 rw[V5]at hm;have hnp:=B5K it.params [] s;have hsc1:=C0p it.params hst.params B7Q s;generalize A3V it.params [] s=r at hm hnp hsc1 |-;have hpi1:=hpi.le hle1;repeat' (first|refine J4 ?_ hm|refine J5 ?_ hm|refine D8 ?_|refine J6 ?_|refine G7 ?_|refine E5 ?_|refine C9 ?_|refine D9 ?_|refine A7 ?_|refine H9 ?_|refine H5 ?_|refine E8 ?_|refine A8 ?_|refine F5 ?_|refine P9 ?_|(refine D5 (ht:=fun _=>?_) (hf:=fun _=>?_)<;>try first|contradiction|omega))
 refine U2 (fun x:NX=> [(0,ptr bc),(31,.slice sa9 it.sends.length sc9),(32,nt it.sends.length),(33,nt x.k)])
  (fun x w'=>Mem E x.I (NSt bc bf (.pointer (some ⟨bi,oi,none⟩)) r.1 x.sa x.sp (A6a its p [] (it.sends.take x.k) r.2) x.da x.dp x.ua x.up) w'/\Le I x.I/\x.k<=it.sends.length) (fun x=>it.sends.length-x.k) ⟨0,I1,sa1,sp1,da1,dp1,ua1,up1⟩
  (by exact⟨rfl,rfl,rfl,rfl,trivial⟩) ⟨by dsimp only;rw[Z9,A6a];exact hm,hle1,H7 _⟩ ?_
 clear hm hpi1 hle1 hlt hk;rintro⟨k,I2,sa2,sp2,da2,dp2,ua2,up2⟩ w2 ⟨hm,hle2,hk⟩;dsimp only at hm hle2 hk |-;have hC2:=hC.le hle2;have hpi2:=hpi.le hle2;by_cases hlt:k<it.sends.length
 ·have hg:it.sends[k]?=some it.sends[k]:=G6 hlt
  have hs0:=hst.sends _ (O7 hlt);have hpst:=(hst.sub _ _ hs0).1;have hstp:=C1R its p hg r.2;have hpr:=hsnd.le hle2;have hgk:it.sends[((k:Nat):Int).toNat]?=some it.sends[k]:=hg;generalize it.sends[k]=y at hg hpst hstp hgk hs0;have hnn:=B5Z its p (it.sends.take k) [] r.2;rw[Q4]at hnn;generalize A6a its p [] (it.sends.take k) r.2=s1 at hm hstp hnn;have hc:=fun (J:P6) (m:Le I2 J)=>C5n (I:=J) (bc:=bc) (sc:=r.1) (s:=s1) (sa:=sa2) (sp:=sp2) (da:=da2) (dp:=dp2) (ua:=ua2) (up:=up2) (hC2.le m) 1 y.at_ y.name hs0 (by omega)
  have hin:=B3h its p 1 y.at_ y.name s1;rw[A63]at hstp;generalize A5e its p 1 y.at_ y.name s1=s2 at hc hstp hin;have htl:(it.sends.take k).length=k:=by rw[Q4];omega
  repeat' (first|refine A0H 9 ?_|refine Q9 (d:=36) (enc:=A2V) (z:=y) ?_ (hr:=hpr) (he:=fun _=>rfl) (hz:=hgk);intro bt ot hpt|refine F6 (d:=43) ?_ hm (hp:=B4N) (hc:=hc I2 (Le.refl _));clear hm;rintro _ I3 _ _ ⟨sa3,sp3,da3,dp3,ua3,up3,rfl⟩ hleI3 hm;try simp only[F9]at hm|refine U1 (d:=5) ?_ hm;clear hm;intro b5 _ hm|refine J4 ?_ hm|refine X3 ?_ hm|refine N7 ?_ hm;clear hm;intro _ hm;try simp only[F9]at hm|refine D8 ?_|refine D6 ?_|refine J6 ?_|refine C9 ?_|refine D9 ?_|refine A7 ?_|refine E8 ?_|refine A8 ?_|refine F5 ?_|refine G5 ?_|(refine D5 (ht:=fun _=>?_) (hf:=fun _=>?_)<;>try first|contradiction|omega))
  obtain⟨I4,hle4,hm4,hpn⟩:=(hm.front 4 rfl).freezeO;clear hm;have hm:=hm4;clear hm4;have hpi4:=(hpi2.le hleI3).le hle4;have hpr4:=(hpr.le hleI3).le hle4;have hct:=B3p 122 [ptr b5] (fun x=>decide (x.name=y.name)) (it.sends.take k) (by omega) I4 sa9 sc9 (by rw[htl, <-B9w];exact hpr4.take (by omega)) (fun I' m x=>C61 I' b5 y (hpn.le m) x);rw[htl]at hct;refine⟨?_⟩
  by_cases hn:y.name≠ []
  ·cases hb:(it.sends.take k).any (fun x=>decide (x.name=y.name)) with
   |true=>
    rw[hb]at hct;rw[if_pos ⟨hn,hb⟩]at hstp;have hT:=fun (J:P6)=>B1C (I:=J) (bc:=bc) (bf:=bf) (pi:=.pointer (some ⟨bi,oi,none⟩)) (sc:=r.1) (sa:=sa3) (sp:=sp3) (s:=s2) (da:=da3) (dp:=dp3) (ua:=ua3) (up:=up3) y.name y.at_ 7 (by omega) (by omega)
    repeat' (first|refine B1r (d:=56) ?_ hpr4;intro _|refine F6 (d:=58) ?_ hm (hp:=pm0) (hc:=hct);clear hm;rintro _ I5 _ _ ⟨rfl,rfl⟩ hleI5 hm;try simp only[F9]at hm;have hpn5:=hpn.le hleI5|refine F6 (d:=65) ?_ hm (hp:=A3E) (hc:=hT I5);clear hm;rintro _ I6 _ _ ⟨rfl,sa4,sp4,da4,dp4,ua4,up4,rfl⟩ hleI6 hm;try simp only[F9]at hm|refine J4 ?_ hm|refine J5 ?_ hm|refine D8 ?_|refine O9 ?_|refine A08 ?_|refine E5 ?_|refine A1o ?_|refine P7 ?_|refine C9 ?_|(refine N8 (h1:=fun _=>?_) (h0:=fun _=>?_)<;>try first|contradiction|omega)|refine D9 ?_|refine A7 ?_|refine D7 ?_|refine A8 ?_|refine H6 ?_)
    exact L9 (⟨k+1,I6,sa4,sp4,da4,dp4,ua4,up4⟩:NX) (by exact⟨rfl,rfl,rfl,rfl,trivial⟩) ⟨by dsimp only;rw[hstp];exact hm,(((hle2.trans hleI3).trans hle4).trans hleI5).trans hleI6,by dsimp only;omega⟩ (by dsimp only;omega)
   |false=>
    rw[hb]at hct;rw[if_neg (fun h=>by rw[hb]at h;exact absurd h.2 (by decide))]at hstp;repeat' (first|refine B1r (d:=56) ?_ hpr4;intro _|refine F6 (d:=58) ?_ hm (hp:=pm0) (hc:=hct);clear hm;rintro _ I5 _ _ ⟨rfl,rfl⟩ hleI5 hm;try simp only[F9]at hm|refine J4 ?_ hm|refine J5 ?_ hm|refine D8 ?_|refine O9 ?_|refine A08 ?_|refine E5 ?_|refine A1o ?_|refine P7 ?_|refine C9 ?_|(refine N8 (h1:=fun _=>?_) (h0:=fun _=>?_)<;>try first|contradiction|omega)|refine D9 ?_|refine A7 ?_|refine D7 ?_|refine A8 ?_|refine G5 ?_|refine F7 ?_)
    exact L9 (⟨k+1,I5,sa3,sp3,da3,dp3,ua3,up3⟩:NX) (by exact⟨rfl,rfl,rfl,rfl,trivial⟩) ⟨by dsimp only;rw[hstp];exact hm,((hle2.trans hleI3).trans hle4).trans hleI5,by dsimp only;omega⟩ (by dsimp only;omega)
  ·rw[if_neg (fun h=>hn h.1)]at hstp
   repeat' (first|refine J5 ?_ hm|refine D8 ?_|refine L8 ?_|refine A08 ?_|refine P7 ?_|refine C9 ?_|refine A0N ?_|(refine N8 (h1:=fun _=>?_) (h0:=fun _=>?_)<;>try first|contradiction|omega)|refine D9 ?_|refine A7 ?_|refine D7 ?_|refine A8 ?_|refine G5 ?_|refine F7 ?_)
   exact L9 (⟨k+1,I4,sa3,sp3,da3,dp3,ua3,up3⟩:NX) (by exact⟨rfl,rfl,rfl,rfl,trivial⟩) ⟨by dsimp only;rw[hstp];exact hm,(hle2.trans hleI3).trans hle4,by dsimp only;omega⟩ (by dsimp only;omega)
 ·obtain rfl:k=it.sends.length:=by omega
  rw[V5]at hm;have hnn:=B5Z its p it.sends [] r.2;generalize A6a its p [] it.sends r.2=s1 at hm hnn |-;have hblk:=C8q (its:=its) (it:=it) (bc:=bc) (bf:=bf) (a:=a) (cp:=cp) (xs:=xs) (src:=src) (p:=p) (q:=q) (pi:=.pointer (some ⟨bi,oi,none⟩)) _ it.body (G9 _) (by omega) hsm.stms hst.body I2 ba bc9 xb r.1 s1 sa2 sp2 da2 dp2 ua2 up2 hsc1 (by dsimp only[List.length_nil]at hnp;omega) (by omega) hC2 (hrb.le hle2) (X6.le hle2 _ _ hbs);repeat' (first|refine F6 (d:=75) ?_ hm (hp:=A3E) (hc:=hblk);clear hm;rintro _ I5 _ _ ⟨rfl,sa4,sp4,da4,dp4,ua4,up4,rfl⟩ hleI5 hm;try simp only[F9]at hm|refine J4 ?_ hm|refine J5 ?_ hm|refine D8 ?_|refine J6 ?_|refine E5 ?_|refine C9 ?_|refine D9 ?_|refine A7 ?_|refine H9 ?_|refine H5 ?_|refine E8 ?_|refine A8 ?_|refine P9 ?_|refine X0 ?_|(refine D5 (ht:=fun _=>?_) (hf:=fun _=>?_)<;>try first|contradiction|omega))
  exact⟨I5,_,⟨rfl,_,_,_,_,_,_,rfl⟩,hm⟩
end
section
variable {src:List UInt8}{its:List Sp.Itm}{a:Option Addr}{cp:Nat}{xs:List Value}
theorem C3C (i:Nat) (hi:i<its.length) (bf:Nat) (I:P6) (hfile:PtrI I bf 0 25 [.slice a its.length cp]) (h:FE I its a cp xs) (hlen:src.length<=4000) (hN:∀x∈its,Sp.ItN src x):
  CalM prog 56 #[ptr bf,nt i] I [] (fun v _ H'=> ∃bc pi sc sa sp da dp ua up,v=ptr bc/\H'=NSt bc bf pi sc sa sp (A3a its i) da dp ua up):=by
 refine CalM.of fun w E hm=>enter (N:=80) func56 rfl [(0,ptr bf),(1,nt i)] A0T rfl ?_
 have hfew:=h.few;have hg:=A2G hi;obtain⟨ci,hci,hat,hlc⟩:=h.get hg;have hri:=h.row;have hIt:=hN _ (A83 hi);have hw:A3a its i=if (A0o its i).kind=2 then Sp.fnN its (A0o its i) (if B04 its i (A0o its i)=true then Sp.NW0.tell (A0o its i).mark 7 (A0o its i).name else Sp.NW0) else (if B04 its i (A0o its i)=true then Sp.NW0.tell (A0o its i).mark 7 (A0o its i).name else Sp.NW0):=rfl
 generalize A3a its i=fin at hw |-;generalize A0o its i=it at hg hat hIt hw;obtain⟨s0,hs0⟩:∃s0,s0=if B04 its i it=true then Sp.NW0.tell it.mark 7 it.name else Sp.NW0:=⟨_,rfl⟩
 rw[<-hs0]at hw;have hs0n:s0.n<=1:=by
  rw[hs0];split
  ·rw[B0o];exact G9 _
  ·exact H7 _
 have htk:B04 its i it=(decide (it.kind≠3) && (decide (it.name≠ []) && (its.take i).any (Sp.same it))):=rfl;have hat0:=hat
 obtain⟨pa,pc,sa9,sc9,ba,bc9,da9,dc9,xb,rfl,hpar,hsnd,hrb,hbs,_⟩:=hat
 obtain⟨p,q,hst⟩:=hIt.st;have hbd:=(hst.sub _ _ hst.mark).1;repeat' (first|refine O0 (d:=15) ?_ (hr:=hri);intro bt ot hpt;rw[show ((i:Int).toNat *10)=i *10 from rfl,hci]at hpt|refine A65 3 (fun _:NX=> [(0,ptr bf),(1,nt i),(5,ptr b17),(6,.pointer (some ⟨bt,ot,none⟩))]) (fun x w'=>Mem E x.I (NSt b17 bf (.pointer (some ⟨bt,ot,none⟩)) [] x.sa x.sp s0 x.da x.dp x.ua x.up) w'/\Le I x.I) ?_ ?_|refine A0K (d:=17) ?_ hm;clear hm;intro b17 _ hm|refine J4 ?_ hm|refine J5 ?_ hm|refine D8 ?_|refine D6 ?_|refine E5 ?_|refine C9 ?_|refine Q3 ?_|refine D9 ?_|refine A7 ?_|refine E8 ?_|refine A8 ?_)
 ·have hm:Mem E I (NSt b17 bf (.pointer (some ⟨bt,ot,none⟩)) [] none 0 Sp.NW0 none 0 none 0) _:=(((hm.nil 85 4).swap.nil 252 2).swap.nil 58 3).swap
  refine⟨?_⟩
  by_cases hk:it.kind≠3/\it.name≠ []
  case neg=>
   have:s0=Sp.NW0:=by
    rw[hs0,if_neg];rw[htk];intro h1;simp only[U9,decide_eq_true_eq]at h1;exact hk ⟨h1.1,h1.2.1⟩
   subst this;by_cases h3:it.kind=3
   ·skip
    repeat' (first|refine J5 ?_ hm|refine D8 ?_|refine L8 ?_|refine A0y ?_|refine E5 ?_|refine C9 ?_|refine A0N ?_|(refine N8 (h1:=fun _=>?_) (h0:=fun _=>?_)<;>try first|contradiction|omega)|refine D9 ?_|refine A7 ?_|refine E8 ?_|refine A8 ?_|refine G5 ?_|refine F7 ?_)
    exact A02 (⟨0,I,none,0,none,0,none,0⟩:NX) (by exact⟨rfl,rfl,rfl,rfl,trivial⟩) ⟨hm,Le.refl _⟩
   ·have hnn:it.name= []:=Classical.byContradiction fun h1=>hk ⟨h3,h1⟩
    repeat' (first|refine J5 ?_ hm|refine D8 ?_|refine O9 ?_|refine A0y ?_|refine A08 ?_|refine E5 ?_|refine C9 ?_|(refine N8 (h1:=fun _=>?_) (h0:=fun _=>?_)<;>try first|contradiction|omega)|refine D9 ?_|refine A7 ?_|refine E8 ?_|refine A8 ?_|refine G5 ?_|(refine D5 (ht:=fun _=>?_) (hf:=fun _=>?_)<;>try first|contradiction|omega))
    exact A02 (⟨0,I,none,0,none,0,none,0⟩:NX) (by exact⟨rfl,rfl,rfl,rfl,trivial⟩) ⟨hm,Le.refl _⟩
  obtain⟨hk3,hnn⟩:=hk;repeat' (first|refine B1r (d:=39) ?_ hri;intro hrs|refine J5 ?_ hm|refine D8 ?_|refine O9 ?_|refine A0y ?_|refine A08 ?_|refine G7 ?_|refine E5 ?_|refine C9 ?_|(refine N8 (h1:=fun _=>?_) (h0:=fun _=>?_)<;>try first|contradiction|omega)|refine D9 ?_|refine A7 ?_|refine E8 ?_|refine A8 ?_|refine F5 ?_|(refine D5 (ht:=fun _=>?_) (hf:=fun _=>?_)<;>try first|contradiction|omega))
  refine U2 (fun k:Nat=> [(0,ptr bf),(1,nt i),(5,ptr b17),(6,.pointer (some ⟨bt,ot,none⟩)),(39,.slice a i cp),(40,nt i),(41,nt k)])
   (fun k w'=>Mem E I (NSt b17 bf (.pointer (some ⟨bt,ot,none⟩)) [] none 0 Sp.NW0 none 0 none 0) w'/\k<=i/\∀j x,j<k->its[j]?=some x->Sp.same it x=false) (fun k=>i-k) 0
   (by exact⟨rfl,rfl,rfl,rfl,rfl,rfl,rfl,trivial⟩) ⟨hm,H7 _,fun j _ hj=>absurd hj (Nat.not_lt_zero j)⟩ ?_
  clear hm;rintro k w1 ⟨hm,hk,hno⟩;try dsimp only at hm hk hno |-
  by_cases hlt:k<i
  ·have hgk:its[k]?=some its[k]:=G6 (by omega)
   obtain⟨cz,hcz,hatz,hl10⟩:=h.get hgk;have hdt:=B6Q xs hlt;generalize its[k]=y at hgk hatz;obtain⟨pa3,pc3,sa3,sc3,ba3,bc3,da3,dc3,xb3,rfl,_⟩:=hatz;cases hsm:Sp.same it y with
   |true=>
    have hsk:=hsm;simp only[Sp.same,U9,decide_eq_true_eq]at hsk;obtain⟨e1,e2⟩:=hsk;have:s0=Sp.NW0.tell it.mark 7 it.name:=by
     rw[hs0,if_pos];rw[htk,B3X hlt hgk hsm,decide_eq_true hk3,decide_eq_true hnn];rfl
    subst this;have hT:=B1C (I:=I) (bc:=b17) (bf:=bf) (pi:=.pointer (some ⟨bt,ot,none⟩)) (sc:= []) (sa:=none) (sp:=0) (s:=Sp.NW0) (da:=none) (dp:=0) (ua:=none) (up:=0) it.name it.mark 7 (by omega) (by decide);repeat' (first|refine O0 (d:=43) ?_ (hr:=hrs);intro bu ou hpu;rw[show ((k:Int).toNat *10)=k *10 from rfl,hdt,hcz]at hpu|refine V7 (id:=8) 9 (h:=?_)|refine F6 (d:=70) ?_ hm (hp:=B4N) (hc:=hT);clear hm;rintro _ I2 _ _ ⟨rfl,sa2,sp2,da2,dp2,ua2,up2,rfl⟩ hleI2 hm;try simp only[F9]at hm|refine Y5 (d:=8) ?_ hm;clear hm;intro b8 _ hm|refine X3 ?_ hm|refine V3 ?_ hm|refine A0q ?_ hm|refine J6 ?_|refine D9 ?_|refine A7 ?_|refine H9 ?_|refine H5 ?_|refine A1E ?_|refine E8 ?_|refine A8 ?_|refine F5 ?_|refine G5 ?_|refine P9 ?_|refine U5 ?_|refine A0j ?_;intro _ hkq;replace hm:=hm.kept0 hkq;clear hkq|refine A0e ?_;intro _ hkq;replace hm:=hm.kept0 hkq;clear hkq|(refine D5 (ht:=fun _=>?_) (hf:=fun _=>?_)<;>try first|contradiction|omega)|refine X5 ?_|refine A0p ?_|refine A62 ?_|refine A9x ?_|refine O8 ?_|refine L6 ?_|(refine Y6 (fun _=>?_) (h1:=fun _=>?_)<;>try first|contradiction|omega))
    exact A02 (⟨0,I2,sa2,sp2,da2,dp2,ua2,up2⟩:NX) (by exact⟨rfl,rfl,rfl,rfl,trivial⟩) ⟨hm.left,hleI2⟩
   |false=>
    have hne:¬(y.kind=it.kind/\y.name=it.name):=fun h1=>by
     rw[Sp.same,decide_eq_true h1.1,decide_eq_true h1.2]at hsm;cases hsm
    repeat' (first|refine O0 (d:=43) ?_ (hr:=hrs);intro bu ou hpu;rw[show ((k:Int).toNat *10)=k *10 from rfl,hdt,hcz]at hpu|refine Y5 (d:=8) ?_ hm;clear hm;intro b8 _ hm|refine X3 ?_ hm|refine V3 ?_ hm|refine A0q ?_ hm|refine D8 ?_|refine J6 ?_|refine P7 ?_|refine D9 ?_|refine A7 ?_|refine D7 ?_|refine E8 ?_|refine A8 ?_|refine F5 ?_|refine G5 ?_|refine U5 ?_|refine A0j ?_;intro _ hkq;replace hm:=hm.kept0 hkq;clear hkq|refine F7 ?_|(refine D5 (ht:=fun _=>?_) (hf:=fun _=>?_)<;>try first|contradiction|omega)|refine X5 ?_|refine A0p ?_|refine A09 ?_|refine A62 ?_|refine A9x ?_|refine O8 ?_|refine L6 ?_|refine A38 ?_|(refine Y6 (fun _=>?_) (h1:=fun _=>?_)<;>try first|contradiction|omega))
    all_goals try (exfalso;first|omega|contradiction|(exact hne ⟨by omega,by assumption⟩))
    all_goals refine L9 (k+1:Nat) (by exact⟨rfl,rfl,rfl,rfl,rfl,rfl,rfl,trivial⟩) ⟨hm.tl,by omega,fun j x hj hg'=>?_⟩ (by omega)
    all_goals
     rcases U0 j k with hjk|hjk
     ·exact hno j x hjk hg'
     ·obtain rfl:j=k:=by omega
      rw[hgk]at hg';obtain rfl:=A0Y hg';exact hsm
  ·obtain rfl:k=i:=by omega
   have:s0=Sp.NW0:=by
    rw[hs0,if_neg];rw[htk,B3W (by omega) hno];simp
   subst this;repeat' (first|refine J6 ?_|refine D9 ?_|refine A7 ?_|refine H9 ?_|refine H5 ?_|refine E8 ?_|refine A8 ?_|refine P9 ?_|(refine D5 (ht:=fun _=>?_) (hf:=fun _=>?_)<;>try first|contradiction|omega))
   exact A02 (⟨0,I,none,0,none,0,none,0⟩:NX) (by exact⟨rfl,rfl,rfl,rfl,trivial⟩) ⟨hm,Le.refl _⟩
 ·clear hm
  rintro⟨_,I1,sa1,sp1,da1,dp1,ua1,up1⟩ w1 ⟨hm,hle1⟩;dsimp only at hm hle1 |-;have hpt1:=hpt.le hle1;by_cases k2:it.kind=2
  ·rw[if_pos k2]at hw
   have hC:NC I1 src p q its it bf a cp xs (.pointer (some ⟨bt,ot,none⟩)):=⟨hfile.le hle1,h.le hle1,⟨bt,ot,_,_,rfl,hpt1,hat0.le hle1⟩,hlen,hst,fun x hx=>(hN x hx).st⟩;have hF:=C8R (bc:=b17) (s:=s0) (sa:=sa1) (sp:=sp1) (da:=da1) (dp:=dp1) (ua:=ua1) (up:=up1) hC hIt.small hIt.cnt (by omega);rw[<-hw]at hF;repeat' (first|refine F6 (d:=78) ?_ hm (hp:=A3E) (hc:=hF);clear hm;rintro _ I2 _ _ ⟨rfl,sa2,sp2,da2,dp2,ua2,up2,rfl⟩ hleI2 hm;try simp only[F9]at hm|refine J5 ?_ hm|refine D8 ?_|refine D6 ?_|refine N9 ?_|refine E5 ?_|refine C9 ?_|refine D9 ?_|refine A7 ?_|refine E8 ?_|refine A8 ?_|refine H8 ?_|refine J9 ?_|(refine D5 (ht:=fun _=>?_) (hf:=fun _=>?_)<;>try first|contradiction|omega))
   exact⟨I2,_,⟨_,_,_,_,_,_,_,_,_,rfl,rfl⟩,hm⟩
  ·rw[if_neg k2]at hw
   subst hw;repeat' (first|refine J5 ?_ hm|refine D8 ?_|refine D6 ?_|refine N9 ?_|refine E5 ?_|refine C9 ?_|refine D9 ?_|refine A7 ?_|refine E8 ?_|refine A8 ?_|refine G5 ?_|refine H8 ?_|refine J9 ?_|(refine D5 (ht:=fun _=>?_) (hf:=fun _=>?_)<;>try first|contradiction|omega))
   exact⟨I1,_,⟨_,_,_,_,_,_,_,_,_,rfl,rfl⟩,hm⟩
end
theorem C7H (l:List Sp.Us):∀u∈l.flatMap A4b,u.oneCell'=true:=by
 intro u hu;obtain⟨z,_,hz⟩:=A6B.1 hu;simp only[A4b,V8,List.not_mem_nil,or_false]at hz;rcases hz with rfl|rfl|rfl<;>rfl
section
variable {src:List UInt8}{its:List Sp.Itm}{a:Option Addr}{cp:Nat}{xs:List Value}
theorem B5x (I:P6) (h:FE I its a cp xs) (hlen:src.length<=4000) (hN:∀x∈its,Sp.ItN src x):
  CalM prog 27 #[.agg [.slice a its.length cp].toArray] I [] (fun v I' H'=>H'= []/\∃ua up,v=.slice ua (A1Z its).length up/\RowI I' 58 3 (.slice ua (A1Z its).length up) (A1Z its).length ((A1Z its).flatMap A4b)):=by
 refine CalM.of fun w E hm=>enter (N:=20) func27 rfl [(0,.agg [.slice a its.length cp].toArray)] A0I rfl ?_
 have hfew:=h.few;repeat' (first|refine A0K (d:=1) ?_ hm;clear hm;intro b1 _ hm|refine J4 ?_ hm|refine D8 ?_|refine D6 ?_|refine G7 ?_|refine C9 ?_|refine D9 ?_|refine A7 ?_|refine E8 ?_|refine A8 ?_|refine F5 ?_)
 obtain⟨I2,hle2,hm2,hpf⟩:=hm.freezeO;clear hm;have hm:=hm2;clear hm2;refine U2 (fun x:NX=> [(1,ptr b1),(3,.slice x.ua (A49 its x.k).length x.up),(7,nt its.length),(8,nt x.k)])
  (fun x w'=>Mem E x.I [.row (.slice x.ua (A49 its x.k).length x.up) 58 3 (A49 its x.k).length ((A49 its x.k).flatMap A4b)] w'/\Le I2 x.I/\x.k<=its.length/\(A49 its x.k).length<=x.k *900000000) (fun x=>its.length-x.k) ⟨0,I2,none,0,none,0,none,0⟩
  (by exact⟨rfl,rfl,rfl,rfl,trivial⟩) ⟨hm.nil 58 3,Le.refl _,H7 _,H7 _⟩ ?_
 clear hm;rintro⟨k,I3,_,_,_,_,ua1,up1⟩ w1 ⟨hm,hle3,hk,hn⟩;dsimp only at hm hle3 hk hn |-;have hpf3:=hpf.le hle3;by_cases hlt:k<its.length
 ·have hus:=B2c its k
  have hwn:=B3R hN hlt;have hwl:(A3a its k).us.length<=(A3a its k).n:=by rw[Sp.NW.n];omega
  have hc:=C3C k hlt b1 I3 hpf3 ((h.le hle2).le hle3) hlen hN;generalize A49 its k=us at hm hn hus |-;generalize A3a its k=r at hc hus hwn hwl;repeat' (first|refine F6 (d:=13) ?_ hm (hp:=pm0) (hc:=hc);clear hm;rintro _ I4 _ _ ⟨bc,pi,sc,sa,sp,da,dp,ua,up,rfl,rfl⟩ hleI4 hm;try simp only[F9]at hm;obtain⟨I5,hle5,hm5,hobj⟩:=hm.freezeO;obtain⟨I6,hle6,hm6,husr⟩:=hm5.freeze;clear hm hm5;have hm:=hm6;clear hm6;have hobj6:=hobj.le hle6|refine A9s (d:=17) ?_ hm (hr:=husr) (h1:=C7H _);clear hm;intro a17 cp17 _ hm;try simp only[F9]at hm|refine J5 ?_ hm|refine D8 ?_|refine D6 ?_|refine J6 ?_|refine E5 ?_|refine P7 ?_|refine C9 ?_|refine D9 ?_|refine A7 ?_|refine D7 ?_|refine E8 ?_|refine A8 ?_|refine F5 ?_|refine G5 ?_|(refine D5 (ht:=fun _=>?_) (hf:=fun _=>?_)<;>try first|contradiction|omega))
  refine L9 (⟨k+1,I6,none,0,none,0,a17,cp17⟩:NX) (by exact⟨rfl,by rw[hus,E9];rfl,rfl,rfl,trivial⟩) ⟨?_,(((hle3.trans hleI4).trans hle5).trans hle6),by dsimp only;omega,by dsimp only;rw[hus,E9];omega⟩ (by dsimp only;omega)
  dsimp only
  rw[hus,E9,X9];exact hm.tl.tl
 ·obtain rfl:k=its.length:=by omega
  repeat' (first|refine D8 ?_|refine D6 ?_|refine J6 ?_|refine D9 ?_|refine A7 ?_|refine H9 ?_|refine H5 ?_|refine E8 ?_|refine A8 ?_|refine P9 ?_|refine H8 ?_|refine J9 ?_|(refine D5 (ht:=fun _=>?_) (hf:=fun _=>?_)<;>try first|contradiction|omega))
  obtain⟨I4,hle4,hm4,hrow⟩:=hm.freeze;exact⟨I4,[],⟨rfl,_,_,rfl,hrow⟩,hm4.left (H:= [])⟩
end
section
variable {src:List UInt8}{its:List Sp.Itm}{a:Option Addr}{cp:Nat}{xs:List Value}
theorem C5k (i:Nat) (hi:i<its.length) (I:P6) (h:FE I its a cp xs) (hlen:src.length<=4000) (hN:∀x∈its,Sp.ItN src x):
  CalM prog 46 #[.agg [.slice a its.length cp].toArray,nt i] I [] (fun v I' H'=>H'= []/\∃da dp,v=.slice da (A3a its i).ds.length dp/\RowI I' 85 4 (.slice da (A3a its i).ds.length dp) (A3a its i).ds.length ((A3a its i).ds.flatMap A5G)):=by
 refine CalM.of fun w E hm=>enter (N:=19) func46 rfl [(0,.agg [.slice a its.length cp].toArray),(1,nt i)] A0T rfl ?_
 have hfew:=h.few;repeat' (first|refine A0K (d:=2) ?_ hm;clear hm;intro b2 _ hm|refine J4 ?_ hm|refine D8 ?_|refine D6 ?_|refine L8 ?_|refine J6 ?_|refine A04 ?_|refine G7 ?_|refine C9 ?_|refine D9 ?_|refine A7 ?_|refine E8 ?_|refine A8 ?_|refine G5 ?_|(refine D5 (ht:=fun _=>?_) (hf:=fun _=>?_)<;>try first|contradiction|omega))
 obtain⟨I2,hle2,hm2,hpf⟩:=hm.freezeO;clear hm;have hm:=hm2;clear hm2;have hck:=C3C i hi b2 I2 hpf (h.le hle2) hlen hN;generalize A3a its i=fin at hck |-;repeat' (first|refine F6 (d:=15) ?_ hm (hp:=pm0) (hc:=hck);clear hm;rintro _ I4 _ _ ⟨bc,pi,sc,sa,sp,da,dp,ua,up,rfl,rfl⟩ hleI4 hm;try simp only[F9]at hm|refine J4 ?_ hm|refine D6 ?_|refine E5 ?_|refine C9 ?_|refine D9 ?_|refine A7 ?_|refine H8 ?_|refine J9 ?_)
 obtain⟨I6,hle6,hm6,hrow⟩:=(hm.front 3 rfl).freeze;exact⟨I6,[],⟨rfl,_,_,rfl,hrow⟩,hm6.left (H:= [])⟩
end
def C7I:Option Sp.Us->Value
 |some u=> .tuple #[.agg (A4b u).toArray,.bool true]
 |none=> .tuple #[.agg [.int .i64 0,.int .i64 0,.int .i64 0].toArray,.bool false]
section
variable {src:List UInt8}{its:List Sp.Itm}{a:Option Addr}{cp:Nat}{xs:List Value}
theorem C8Q (at_:Int) (I:P6) (h:FE I its a cp xs) (hlen:src.length<=4000) (hN:∀x∈its,Sp.ItN src x) (hfw:(A1Z its).length<=100000000000):
  CalM prog 55 #[.agg [.slice a its.length cp].toArray,.int .i64 at_] I [] (fun v _ H'=>v=C7I (B2b (A1Z its) at_)/\H'= []):=by
 refine CalM.of fun w E hm=>enter (N:=28) func55 rfl [(0,.agg [.slice a its.length cp].toArray),(1,.int .i64 at_)] A0T rfl ?_
 have hc:=B5x I h hlen hN;generalize A1Z its=us at hc hfw |-;repeat' (first|refine F6 (d:=9) ?_ hm (hp:=pm0) (hc:=hc);clear hm;rintro _ I2 _ _ ⟨rfl,ua,up,rfl,hrow⟩ hleI2 hm;try simp only[F9]at hm|refine A0K (d:=2) ?_ hm;clear hm;intro b2 _ hm|refine U1 (d:=4) ?_ hm;clear hm;intro b4 _ hm|refine Y1 ?_ hm|refine D8 ?_|refine D6 ?_|refine G7 ?_|refine D9 ?_|refine A7 ?_|refine E8 ?_|refine A8 ?_|refine F5 ?_)
 refine U2 (fun k:Nat=> [(1,.int .i64 at_),(4,ptr b4),(9,.slice ua us.length up),(10,nt us.length),(11,nt k)])
  (fun k w'=>Mem E I2 [.cell b4 [.int .i64 0,.int .i64 0,.int .i64 0] 58] w'/\k<=us.length/\B2b us at_=B2b (us.drop k) at_) (fun k=>us.length-k) 0
  (by exact⟨rfl,rfl,rfl,rfl,rfl,trivial⟩) ⟨hm.snd,H7 _,rfl⟩ ?_
 clear hm;rintro k w1 ⟨hm,hk,hf⟩;try dsimp only at hm hk hf |-
 by_cases hlt:k<us.length
 ·have hg:us[k]?=some us[k]:=G6 hlt
  have hd:us.drop k=us[k]::us.drop (k+1):=A6t hlt;rw[hd]at hf;have hgk:us[((k:Nat):Int).toNat]?=some us[k]:=hg;generalize us[k]=u at hg hf hgk;rw[B9P]at hf;by_cases hu:u.fr<=at_/\at_<u.to
  ·rw[decide_eq_true hu.1,decide_eq_true hu.2]at hf
   repeat' (first|refine Q9 (d:=13) (enc:=A4b) (z:=u) ?_ (hr:=hrow) (he:=fun _=>rfl) (hz:=hgk);intro bt ot hpt|refine Y5 (d:=7) ?_ hm;clear hm;intro b7 _ hm|refine J4 ?_ hm|refine Y1 ?_ hm|refine X3 ?_ hm|refine N7 ?_ hm;clear hm;intro _ hm;try simp only[F9]at hm|refine A2S ?_ hm|refine D8 ?_|refine D6 ?_|refine O9 ?_|refine J6 ?_|refine A6I ?_|refine C9 ?_|(refine N8 (h1:=fun _=>?_) (h0:=fun _=>?_)<;>try first|contradiction|omega)|refine D9 ?_|refine A7 ?_|refine G8 ?_|refine O1 ?_|refine E8 ?_|refine A8 ?_|refine F5 ?_|refine G5 ?_|refine H8 ?_|(refine D5 (ht:=fun _=>?_) (hf:=fun _=>?_)<;>try first|contradiction|omega))
   exact⟨I2,[],⟨by rw[hf];rfl,rfl⟩,hm.left (H:= [])⟩
  ·have hz:(decide (u.fr<=at_) && decide (at_<u.to))=false:=by
    rw[Bool.and_eq_false_iff,decide_eq_false_iff_not,decide_eq_false_iff_not];omega
   rw[hz]at hf;repeat' (first|refine Q9 (d:=13) (enc:=A4b) (z:=u) ?_ (hr:=hrow) (he:=fun _=>rfl) (hz:=hgk);intro bt ot hpt|refine Y5 (d:=7) ?_ hm;clear hm;intro b7 _ hm|refine J4 ?_ hm|refine X3 ?_ hm|refine D8 ?_|refine O9 ?_|refine L8 ?_|refine J6 ?_|refine A6I ?_|refine P7 ?_|refine C9 ?_|refine A0N ?_|(refine N8 (h1:=fun _=>?_) (h0:=fun _=>?_)<;>try first|contradiction|omega)|refine D9 ?_|refine A7 ?_|refine D7 ?_|refine E8 ?_|refine A8 ?_|refine F5 ?_|refine G5 ?_|refine F7 ?_|(refine D5 (ht:=fun _=>?_) (hf:=fun _=>?_)<;>try first|contradiction|omega))
   all_goals exact L9 (k+1:Nat) (by exact⟨rfl,rfl,rfl,rfl,rfl,trivial⟩) ⟨hm.tl,by omega,hf⟩ (by omega)
 ·obtain rfl:k=us.length:=by omega
  rw[A6D]at hf;repeat' (first|refine N7 ?_ hm;clear hm;intro _ hm;try simp only[F9]at hm|refine A2S ?_ hm|refine D6 ?_|refine J6 ?_|refine Q3 ?_|refine D9 ?_|refine A7 ?_|refine H9 ?_|refine H5 ?_|refine E8 ?_|refine A8 ?_|refine P9 ?_|refine H8 ?_|(refine D5 (ht:=fun _=>?_) (hf:=fun _=>?_)<;>try first|contradiction|omega))
  exact⟨I2,[],⟨by rw[hf];rfl,rfl⟩,hm.left (H:= [])⟩
end
abbrev A6P (l:List (List UInt8)) (a:Option Addr) (cp:Nat):HItem:=.row (.slice a l.length cp) 9 1 l.length (l.flatMap A6X)
abbrev C72 (l:List (List UInt8)):Value->P6->List HItem->Prop:=fun v _ H'=> ∃a cp,v=.slice a l.length cp/\H'= [A6P l a cp]
theorem B6S (I:P6) (l:List (List UInt8)) (a:Option Addr) (cp:Nat) (s:List UInt8) (hs:Sp.Srt l) (hn:l.length<=1000000000):
  CalR prog 174 #[.slice a l.length cp,str s] I [A6P l a cp] (.tuple #[nt (A6T l s),.bool (decide (s∈l))]):=
 C3o Tryz.laysNm226 s hs (by omega)
theorem C2F (I:P6) (l:List (List UInt8)) (a:Option Addr) (cp vb:Nat) (s:List UInt8) (hs:Sp.Srt l) (hn:l.length<=1000000000) (_:s∉l):
  CalM prog 175 #[.slice a l.length cp,nt (A6T l s),.slice (some ⟨vb,0,none⟩) 1 1] I [A6P l a cp,.row (.slice (some ⟨vb,0,none⟩) 1 1) 9 1 1 [str s]] (C72 (A7J s l)):=by
 obtain⟨h1,h2,h3⟩:=B0V (s:=s) hs;have h:=C3n Tryz.laysNm222 (I:=I) (ty:=9) rfl (n:=l.length) (k:=A6T l s) (vb:=vb) (cp:=cp) (a:=a) (xs:=l.flatMap A6X) s h3 (by omega) (C07 l);refine h.mono (fun v J H' _ hp=>?_)
 obtain⟨a',cp',rfl,rfl⟩:=hp;have e:=C0d h3 (fun j x hj hx=>h1 j x hj hx) (fun x hx=>h2 _ x (G9 _) hx);refine⟨a',cp',by rw[A82],?_⟩
 rw[<-C06, <-e];show _= [HItem.row (.slice a' (A7J s l).length cp') _ 1 (A7J s l).length _]
 rw[A82]
theorem C2E (I:P6) (l:List (List UInt8)) (a:Option Addr) (cp:Nat) (s:List UInt8) (hs:Sp.Srt l) (hn:l.length<=1000000000):
  CalM prog 138 #[.slice a l.length cp,str s] I [A6P l a cp] (C72 (A4R l s)):=by
 refine CalM.of fun w E hm=>enter (N:=24) func138 rfl [(0,.slice a l.length cp),(1,str s)] A0T rfl ?_
 have hS:=B6S I l a cp s hs hn;by_cases h0:s= []\/s∈l
 ·rw[B1f h0]
  by_cases hm1:s∈l
  ·rw[decide_eq_true hm1]at hS
   repeat' (first|refine S9 (d:=10) ?_ hm (hc:=hS);clear hm;intro _ hm|refine D8 ?_|refine D6 ?_|refine O9 ?_|refine W9 ?_|refine A0N ?_|refine D9 ?_|refine A7 ?_|refine G8 ?_|refine E8 ?_|refine A8 ?_|refine H8 ?_|refine J9 ?_|refine H6 ?_)
   exact⟨I,_,⟨a,cp,rfl,rfl⟩,hm⟩
  ·rw[decide_eq_false hm1]at hS
   have hs0:s= []:=h0.resolve_right hm1;subst hs0;repeat' (first|refine S9 (d:=10) ?_ hm (hc:=hS);clear hm;intro _ hm|refine D8 ?_|refine D6 ?_|refine L8 ?_|refine V9 ?_|refine W9 ?_|refine D9 ?_|refine A7 ?_|refine G8 ?_|refine E8 ?_|refine A8 ?_|refine H8 ?_|refine J9 ?_|refine H6 ?_)
   exact⟨I,_,⟨a,cp,rfl,rfl⟩,hm⟩
 ·rw[C2f h0]
  have hm1:s∉l:=fun h=>h0 (.inr h)
  have hs0:s≠ []:=fun h=>h0 (.inl h)
  rw[decide_eq_false hm1]at hS;have hI:=fun vb=>C2F I l a cp vb s hs hn hm1
  repeat' (first|refine S9 (d:=10) ?_ hm (hc:=hS);clear hm;intro _ hm|refine A2R (d:=22) ?_ hm;clear hm;intro bb _ hm|refine F6 (d:=23) ?_ hm (hp:=List.Perm.swap _ _ _) (hc:=hI bb);clear hm;rintro _ I2 _ _ ⟨a2,cp2,rfl,rfl⟩ hleI2 hm;try simp only[F9]at hm|refine D8 ?_|refine D6 ?_|refine L8 ?_|refine V9 ?_|refine W9 ?_|refine D9 ?_|refine A7 ?_|refine E8 ?_|refine A8 ?_|refine G5 ?_|refine H8 ?_|refine J9 ?_|(refine D5 (ht:=fun _=>?_) (hf:=fun _=>?_)<;>try first|contradiction|omega))
  exact⟨I2,_,⟨a2,cp2,rfl,rfl⟩,hm⟩
abbrev B8p (bd:Nat) (q:List (List UInt8)×List (List UInt8)) (sa:Option Addr) (sp:Nat) (ca:Option Addr) (cp:Nat):List HItem:=
 [.cell bd [.slice sa q.1.length sp,.slice ca q.2.length cp] 267,A6P q.1 sa sp,A6P q.2 ca cp]
abbrev C70 (bd:Nat) (q:List (List UInt8)×List (List UInt8)):Value->P6->List HItem->Prop:=fun v _ H'=>v=.tuple #[]/\∃sa sp ca cp,H'=B8p bd q sa sp ca cp
structure EfX where
 k:Nat
 I:P6
 sa:Option Addr
 sp:Nat
 ca:Option Addr
 cp:Nat
theorem C6K {bd:Nat}:∀(n:Nat) (e:Sp.Ex),SizeOf.sizeOf e<=n->e.small->∀(I:P6) (b o tc:Nat) (ea:Option Addr) (ec:Nat) (ys:List Value) (q:List (List UInt8)×List (List UInt8)) (sa:Option Addr) (sp:Nat) (ca:Option Addr) (cp:Nat),
  Sp.Srt q.2->q.2.length+e.cnt<=1000000000->PtrI I b o tc (A0z e ea ec)->RowI I 109 6 (.slice ea e.args.length ec) e.args.length ys->Y7 I e.args ys->
  CalM prog 193 #[ptr bd,.pointer (some ⟨b,o,none⟩)] I (B8p bd q sa sp ca cp) (C70 bd (q.1,Sp.exE e q.2)):=by
 intro n;induction n with
 |zero=>intro e h;cases e;simp at h
 |succ n ih=>
 intro e hsz hsm I b o tc ea ec ys q sa sp ca cp hq hn hp hr hx;obtain⟨hal,hasm⟩:=A3X hsm;have hcnt:=Sp.Ex.cnt_eq e;refine CalM.of fun w E hm=>enter (N:=39) func193 rfl [(0,ptr bd),(1,.pointer (some ⟨b,o,none⟩))] A0T rfl ?_
 rw[C6L];obtain⟨c1,hc1⟩:∃c1,c1=if e.kind=4 then A4R q.2 e.name else q.2:=⟨_,rfl⟩
 rw[<-hc1];have hc1n:q.2.length<=c1.length/\c1.length<=q.2.length+1:=by
  have:=B0t q.2 e.name;rw[hc1];split<;>omega
 have hc1s:Sp.Srt c1:=by
  rw[hc1];split
  ·exact A8I hq _
  ·exact hq
 repeat' (first|refine A65 0 (fun _:EfX=> [(0,ptr bd),(1,.pointer (some ⟨b,o,none⟩))]) (fun x w'=>Mem E x.I (B8p bd (q.1,c1) x.sa x.sp x.ca x.cp) w'/\Le I x.I) ?_ ?_)
 ·refine⟨?_⟩
  by_cases k4:e.kind=4
  ·rw[if_pos k4]at hc1
   have hA:=C2E I q.2 ca cp e.name hq (by omega);rw[<-hc1]at hA;repeat' (first|refine A0m (id:=1) (hm.perm pm1_2) [0,1,2,3,4,5,6,7,8] [9] 10 (h:=?_);clear hm;intro wd hR hm|refine U7 (d:=19) ?_ hm (hc:=hA);clear hm;rintro _ I2 _ _ ⟨a2,cp2,rfl,rfl⟩ hle hm;have hleI2:=hle;try simp only[F9]at hm|refine Y3 ?_ hR|refine A0c ?_ hR|refine A0w ?_;replace hm:=hR.back hm;clear hR;try simp only[F9]at hm|refine J5 ?_ hm|refine O6 hm (k:=?_);clear hm;intro _ hm;try simp only[F9]at hm|refine D8 ?_|refine N9 ?_|refine E5 ?_|refine C9 ?_|refine D9 ?_|refine A7 ?_|refine E8 ?_|refine A8 ?_|(refine D5 (ht:=fun _=>?_) (hf:=fun _=>?_)<;>try first|contradiction|omega)|refine Z4 ?_|refine O5 ?_|refine J8 ?_|refine A0b ?_)
   exact A02 (⟨0,I2,sa,sp,a2,cp2⟩:EfX) (by exact⟨rfl,rfl,trivial⟩) ⟨hm.perm C8U,hleI2⟩
  ·rw[if_neg k4]at hc1
   subst hc1;repeat' (first|refine J5 ?_ hm|refine D8 ?_|refine N9 ?_|refine E5 ?_|refine C9 ?_|refine D9 ?_|refine A7 ?_|refine E8 ?_|refine A8 ?_|refine G5 ?_|(refine D5 (ht:=fun _=>?_) (hf:=fun _=>?_)<;>try first|contradiction|omega))
   exact A02 (⟨0,I,sa,sp,ca,cp⟩:EfX) (by exact⟨rfl,rfl,trivial⟩) ⟨hm,Le.refl _⟩
 ·clear hm hc1
  rintro⟨_,I1,sa1,sp1,ca1,cp1⟩ w1 ⟨hm,hle1⟩;dsimp only at hm hle1 |-;have hp1:=hp.le hle1;repeat' (first|refine J5 ?_ hm|refine D8 ?_|refine G7 ?_|refine E5 ?_|refine C9 ?_|refine D9 ?_|refine A7 ?_|refine E8 ?_|refine A8 ?_|refine F5 ?_)
  refine U2 (fun x:EfX=> [(0,ptr bd),(1,.pointer (some ⟨b,o,none⟩)),(26,nt e.args.length),(27,nt x.k)])
   (fun x w'=>Mem E x.I (B8p bd (q.1,A5I (e.args.take x.k) c1) x.sa x.sp x.ca x.cp) w'/\Le I x.I/\x.k<=e.args.length) (fun x=>e.args.length-x.k) ⟨0,I1,sa1,sp1,ca1,cp1⟩
   (by exact⟨rfl,rfl,rfl,rfl,trivial⟩) ⟨by dsimp only;rw[Z9,A5I];exact hm,hle1,H7 _⟩ ?_
  clear hm hle1 hp1;rintro⟨k,I2,sa2,sp2,ca2,cp2⟩ w2 ⟨hm,hle2,hk⟩;dsimp only at hm hle2 hk |-;have hp2:=hp.le hle2;have hrow:=hr.le hle2;by_cases hlt:k<e.args.length
  ·have hg:e.args[k]?=some e.args[k]:=G6 hlt
   have hsz2:=A2r (O7 hlt);have hsm2:=A1G hasm hg;obtain⟨ea2,ec2,ys2,hc2,hr2,hx2⟩:=(hx.get hg).out;generalize e.args[k]=y at hg hsz2 hsm2 hc2 hr2 hx2;have hst:=C0X hg c1;have hcy:=A6p hg;have hnn:=B8E (e.args.take k) c1;have hss:=B21 (e.args.take k) hc1s;generalize A5I (e.args.take k) c1=c2 at hm hst hnn hss;have hcl:=fun b o tc (hpt:PtrI I2 b o tc (A0z y ea2 ec2))=>ih y (by omega) hsm2 I2 b o tc ea2 ec2 ys2 (q.1,c2) sa2 sp2 ca2 cp2 hss (by dsimp only;omega) hpt (hr2.le hle2) (Y7.le hle2 _ _ hx2)
   repeat' (first|refine O0 (d:=36) ?_ (hr:=hrow);intro bt ot hpt;rw[show ((k:Int).toNat *6)=k *6 from rfl,hc2]at hpt|refine F6 (d:=37) ?_ hm (hc:=hcl _ _ _ hpt);clear hm;rintro _ I3 _ _ ⟨rfl,sa3,sp3,ca3,cp3,rfl⟩ hle hm;have hleI3:=hle;try simp only[F9]at hm|refine J5 ?_ hm|refine D8 ?_|refine D6 ?_|refine J6 ?_|refine E5 ?_|refine P7 ?_|refine C9 ?_|refine D9 ?_|refine A7 ?_|refine D7 ?_|refine E8 ?_|refine A8 ?_|refine F5 ?_|refine G5 ?_|(refine D5 (ht:=fun _=>?_) (hf:=fun _=>?_)<;>try first|contradiction|omega))
   exact L9 (⟨k+1,I3,sa3,sp3,ca3,cp3⟩:EfX) (by exact⟨rfl,rfl,rfl,rfl,trivial⟩) ⟨by dsimp only;rw[hst];exact hm,hle2.trans hleI3,by dsimp only;omega⟩ (by dsimp only;omega)
  ·obtain rfl:k=e.args.length:=by omega
   rw[V5]at hm;repeat' (first|refine J6 ?_|refine D9 ?_|refine A7 ?_|refine H9 ?_|refine H5 ?_|refine E8 ?_|refine A8 ?_|refine P9 ?_|refine X0 ?_|(refine D5 (ht:=fun _=>?_) (hf:=fun _=>?_)<;>try first|contradiction|omega))
   exact⟨I2,_,⟨rfl,sa2,sp2,ca2,cp2,rfl⟩,hm⟩
end Go.Proofs
