/- Own work. -/
import Derived.Test.YtbmbnippbldmfaaGreatDoorRa19
set_option maxHeartbeats 64000000
namespace Go.Sp
def C6P (its:List Itm) (b:Int) (x:Stm) (sc:List Lc) (s:NW):List Lc×NW:=
 if x.kind=1 then mkN x.name x.at_ sc s else
 if x.kind=2 then (sc,A8i b sc x.at_ x.name s) else
 if x.kind=5 then (sc,A5Y its b 1 x.at_ x.name s) else
 if x.kind=3\/x.kind=4 then (sc,(A1w its b x.els sc (A1w its b x.thn sc s).2).2) else (sc,s)
theorem C7U (its:List Itm) (b:Int) (x:Stm) (sc:List Lc) (s:NW):A57 its b x sc s=C6P its b x sc (exN its b sc x.e s):=by cases x;rw[A57,C6P];rfl
theorem C6O (x:Stm):x.cnt=x.e.cnt+U1 x.thn+U1 x.els+1:=by cases x;rw[Stm.cnt];rfl
theorem C1q {l:List Stm}{k:Nat}{y:Stm} (h:l[k]?=some y):U1 (l.take k)+y.cnt<=U1 l:=by
 have e:l=l.take (k+1)++l.drop (k+1):=(A23 _ _).symm;have h2:=congrArg U1 e;rw[A4g,U2 h,A4g,A61]at h2;omega
theorem C7j:∀(l:List Stm),l.length<=U1 l
 | []=>by simp
 |x::l=>by rw[U1,E9];have:=C6O x;have:=C7j l;omega
theorem D47 {q:List UInt8} (its:List Itm) (b:Int) {x:Stm} (hx:stS q x.kind x.name x.at_ x.label x.opn x.fr x.to) {sc:List Lc} (hsc:A8y q sc) (s:NW):A8y q (A57 its b x sc s).1:=by
 rw[C7U,C6P];split
 ·rename_i hk
  rw[mkN];split
  ·exact hsc
  ·rename_i hn;exact B5v hsc hn (hx (.inl hk))
 ·split
  ·exact hsc
  ·split
   ·exact hsc
   ·split
    ·exact hsc
    ·exact hsc
theorem C30 {q:List UInt8} (its:List Itm) (b:Int):∀(l:List Stm),A0e (stE q) (stS q) l->∀ {sc:List Lc},A8y q sc->∀(s:NW),A8y q (A1w its b l sc s).1
 | [],_,sc,hsc,s=>by rw[A1w];exact hsc
 |x::l,h,sc,hsc,s=>by
  rw[A0e]at h;rw[A1w];exact C30 its b l h.2 (D47 its b (Stm.all_node h.1).1 hsc s) _
theorem B53 {p:PE}{q:PS}:∀ {l:List Stm} (k:Nat),A0e p q l->A0e p q (l.take k)
 | [],k,h=>by rw[List.take_nil];exact h
 |x::l,0,h=>by rw[Z9];exact A0o
 |x::l,k+1,h=>by
  rw[A0e]at h;rw[A09,A0e];exact⟨h.1,B53 k h.2⟩
theorem C07:∀(l:List Par) (sc:List Lc) (s:NW),s.n<=(A34 l sc s).2.n/\(A34 l sc s).2.n<=s.n+l.length/\sc.length<=(A34 l sc s).1.length/\(A34 l sc s).1.length<=sc.length+l.length
 | [],sc,s=>by rw[A34];exact⟨H7 _,by simp,H7 _,by simp⟩
 |x::l,sc,s=>by
  rw[A34,E9];have h1:=D5N x.name x.at_ sc s;have h2:=C07 l (mkN x.name x.at_ sc s).1 (mkN x.name x.at_ sc s).2;omega
theorem C9v (its:List Itm) (b:Int) (dn:List Rf) (c:Rf) (s:NW):s.n<=(A56 its b dn c s).n/\(A56 its b dn c s).n<=s.n+2:=by
 have h1:=B7D its b 1 c.at_ c.name s;rw[A56];split
 ·rw[B3S];omega
 ·omega
theorem C1m (its:List Itm) (b:Int):∀(l dn:List Rf) (s:NW),s.n<=(A6P its b dn l s).n/\(A6P its b dn l s).n<=s.n+2 *l.length
 | [],dn,s=>by rw[A6P];simp
 |x::l,dn,s=>by
  rw[A6P,E9];have h1:=C9v its b dn x s;have h2:=C1m its b l (dn++ [x]) (A56 its b dn x s);omega
theorem C7z {q:List UInt8}:∀(l:List Par),(∀x∈l,A1j q x.at_ x.name)->∀ {sc:List Lc},A8y q sc->∀(s:NW),A8y q (A34 l sc s).1
 | [],_,sc,hsc,s=>by rw[A34];exact hsc
 |x::l,h,sc,hsc,s=>by
  rw[A34];refine C7z l (fun y hy=>h y (Z4 _ hy)) ?_ _
  rw[mkN];split
  ·exact hsc
  ·rename_i hn;exact B5v hsc hn (h x O4)
structure ItN (src:List UInt8) (it:Itm):Prop where
 small:it.small
 cnt:U1 it.body<=400000000
 st:B0u src it
def same (it x:Itm):Bool:=decide (x.kind=it.kind) && decide (x.name=it.name)
theorem B8H {its:List Itm}{i:Nat}{F:Itm->Bool} (hi:i<=its.length) (h:∀j x,j<i->its[j]?=some x->F x=false):(its.take i).any F=false:=by
 rw[B0S];intro x hx;obtain⟨j,hj,rfl⟩:=A2r hx;rw[P9]at hj;rw[List.getElem_take,h j _ (by omega) (F9 (by omega))];simp
theorem B8I {its:List Itm}{i k:Nat}{F:Itm->Bool}{x:Itm} (hk:k<i) (hg:its[k]?=some x) (h:F x=true):(its.take i).any F=true:=by
 rw[A8Y];refine⟨x,?_,h⟩
 refine A03 (i:=k) ?_
 rw[A2M,if_pos hk,hg]
theorem C2k {α:Type} (xs:List α) {i k:Nat} (hk:k<i):(((xs.take (i *10)).drop (k *10)).take 10)=(xs.drop (k *10)).take 10:=by
 rw[List.drop_take,A41,A1O (by omega)]
theorem B8z {src:List UInt8}{its:List Itm} (h:∀x∈its,ItN src x) {i:Nat} (hi:i<its.length):(A3x its i).n<=900000000:=by
 have hm:=B13 hi;have hN:=h _ hm;rw[A3x];generalize X7 its i=it at hN;have h0:(if A8p its i it=true then NW0.tell it.mark 7 it.name else NW0).n<=1:=by
  split
  ·rw[B3S];exact H7 _
  ·exact H9 _
 generalize (if A8p its i it=true then NW0.tell it.mark 7 it.name else NW0)=s0 at h0;split
 ·rw[fnN]
  have h1:=C07 it.params [] s0;generalize A34 it.params [] s0=r at h1;have h2:=C1m its it.at_ it.sends [] r.2;generalize A6P its it.at_ [] it.sends r.2=s1 at h2;have h3:=B1g its it.at_ it.body r.1 s1;have h4:=hN.small.params;have h5:=hN.small.sends;have h6:=hN.cnt;omega
 ·omega
theorem D0K (s:List UInt8):∀x∈G8 s,ItN s x:=by
 intro x hx;have hst:=C2B s x hx;by_cases h0:Y1 s=0
 ·have hl:s.length<=4000:=by
   rw[Y1]at h0;split at h0
   ·cases h0
   ·omega
  rw[G8,if_pos h0,A3Z]at hx;obtain⟨j,_,rfl⟩:=Y7.1 hx;have hp:(A1v s (A0l s) j).length<=4000:=by rw[A1v,P9,A0v];omega
  have hc:=B15 (A1v s (A0l s) j) ((A0l s).getD j 0:Nat);exact⟨A6G _ _ (by omega),by rw[A1d];omega,hst⟩
 ·rw[G8,if_neg h0]at hx
  simp at hx
end Go.Sp
namespace Go.Fw
open Go.Sp
theorem C8y {l:List (List UInt8)}{k:Nat}{s:List UInt8}:((l.take k++s::l.drop k).flatMap A9o)=(l.flatMap A9o).take k++str s::(l.flatMap A9o).drop k:=by
 rw[B1Z,B1Z,V5,U4,List.map_take,List.map_drop]
theorem D8L {x y z:HItem}: [x,y,z].Perm [y,z,x]:=A1o (l₁:= [x]) (l₂:= [y,z])
theorem C8z (l:List (List UInt8)):(l.flatMap A9o).all (·.oneCell')=true:=by
 induction l with
 |nil=>rfl
 |cons p l ih=>rw[A0c,A5G,ih];rfl
end Go.Fw
namespace Go.Sp
structure Itm.fit (it:Itm):Prop where
 sends:it.sends.length<=1000000000
 body:it.body.length<=40
 stms:A0j it.body
theorem Itm.small.fit {it:Itm} (h:it.small):it.fit:=⟨by have:=h.sends;omega,h.body,h.stms⟩
end Go.Sp
namespace Go.Proofs
open Go.Proofs.Tryz
open Go.Sp
open Go.Fw
section
variable (src:List UInt8) (p:Nat) (q:List UInt8) (its:List Sp.Itm) (it:Sp.Itm) (bc bf:Nat) (a:Option Addr) (cp:Nat) (xs:List Value) (pi:Value)
def C9U (x:Sp.Stm):Prop:=
 ∀(I:P8) (b o tc:Nat) (cs:List Value) (sc:List Sp.Lc) (s:Sp.NW) (sa:Option Addr) (sp:Nat) (da:Option Addr) (dp:Nat) (ua:Option Addr) (up:Nat),A8y q sc->sc.length+x.cnt<=900000000->s.n+2 *x.cnt<=900000000->NC I src p q its it bf a cp xs pi->
  PtrI I b o tc cs->A6n I x cs->
  CalM prog 155 #[ptr bc,.pointer (some ⟨b,o,none⟩)] I (NSt bc bf pi sc sa sp s da dp ua up) (ToN bc bf pi (A57 its p x sc s).1 (A57 its p x sc s).2 (.tuple #[]))
def C0j (l:List Sp.Stm):Prop:=
 ∀(I:P8) (ab:Option Addr) (cb:Nat) (xb:List Value) (sc:List Sp.Lc) (s:Sp.NW) (sa:Option Addr) (sp:Nat) (da:Option Addr) (dp:Nat) (ua:Option Addr) (up:Nat),A8y q sc->sc.length+U1 l<=900000000->s.n+2 *U1 l<=900000000->NC I src p q its it bf a cp xs pi->
  RowI I 111 15 (.slice ab l.length cb) l.length xb->V4 I l xb->
  CalM prog 123 #[ptr bc,.slice ab l.length cb] I (NSt bc bf pi sc sa sp s da dp ua up) (ToN bc bf pi sc (A1w its p l sc s).2 (.tuple #[]))
end
section
variable {src:List UInt8}{p:Nat}{q:List UInt8}{its:List Sp.Itm}{it:Sp.Itm}{bc bf:Nat}{a:Option Addr}{cp:Nat}{xs:List Value}{pi:Value}
theorem C5m (sc:List Sp.Lc) (n:Nat):(sc.flatMap B3a).take (n *2)=(sc.take n).flatMap B3a:=by
 induction sc generalizing n with
 |nil=>simp
 |cons x l ih=>
  cases n with
  |zero=>simp
  |succ n=>
   rw[A0c,A09,A0c,show (n+1) *2=2+n *2 by omega,A8X,A0W (by show 2<=2+n *2;omega),show 2+n *2-(B3a x).length=n *2 by (show 2+n *2-2=n *2;omega),ih]
theorem D4e (l:List Sp.Stm) (hl:l.length<=64) (hall:A0e (Sp.stE q) (Sp.stS q) l) (hS:∀y∈l,C9U src p q its it bc bf a cp xs pi y):C0j src p q its it bc bf a cp xs pi l:=by
 intro I ab cb xb sc s sa sp da dp ua up hsc hn1 hn2 hC hr hx;refine CalM.of fun w E hm=>enter (N:=31) func123 rfl [(0,ptr bc),(1,.slice ab l.length cb)] A1x rfl ?_
 repeat' (first|refine J6 ?_ hm|refine D8 ?_|refine D6 ?_|refine G6 ?_|refine F5 ?_|refine D5 ?_|refine E5 ?_|refine A7 ?_|refine E8 ?_|refine A8 ?_|refine F6 ?_)
 refine U3 (fun x:NX=> [(0,ptr bc),(1,.slice ab l.length cb),(4,nt sc.length),(12,nt l.length),(13,nt x.k)])
  (fun x w'=>Mem E x.I (NSt bc bf pi (A1w its p (l.take x.k) sc s).1 x.sa x.sp (A1w its p (l.take x.k) sc s).2 x.da x.dp x.ua x.up) w'/\Le I x.I/\x.k<=l.length) (fun x=>l.length-x.k) ⟨0,I,sa,sp,da,dp,ua,up⟩
  (by exact⟨rfl,rfl,rfl,rfl,rfl,trivial⟩) ⟨by dsimp only;rw[Z9,A1w];exact hm,Le.refl _,H9 _⟩ ?_
 clear hm;rintro⟨k,I1,sa1,sp1,da1,dp1,ua1,up1⟩ w1 ⟨hm,hle1,hk⟩;dsimp only at hm hle1 hk |-;have hC1:=hC.le hle1;have hrow:=hr.le hle1;by_cases hlt:k<l.length
 ·have hg:l[k]?=some l[k]:=F9 hlt
  have hmem:=O1 hlt;obtain⟨cs,hcs⟩:∃cs,cs=(xb.drop (k *15)).take 15:=⟨_,rfl⟩;have hat:=hx.get hg;rw[<-hcs]at hat
  have hSk:=hS _ hmem;generalize l[k]=y at hg hmem hat hSk;have hst:=C6f its p hg sc s;have hcy:=C1q hg;have hnn:=B1g its p (l.take k) sc s;have hsc1:=C30 its p (l.take k) (B53 k hall) hsc s;have htl:(l.take k).length=k:=by rw[P9];omega
  have hkc:=C7j (l.take k);generalize A1w its p (l.take k) sc s=r at hm hst hnn hsc1;have hcl:=fun b o (hpt:PtrI I1 b o 111 cs)=>hSk I1 b o 111 cs r.1 r.2 sa1 sp1 da1 dp1 ua1 up1 hsc1 (by omega) (by omega) hC1 hpt (A6n.le hle1 _ _ hat)
  generalize A57 its p y r.1 r.2=z at hcl hst;repeat' (first|refine O7 (d:=19) ?_ (hr:=hrow);intro bt ot hpt;rw[show ((k:Int).toNat *15)=k *15 from rfl, <-hcs]at hpt|refine F8 (d:=20) ?_ hm (hp:=A5A) (hc:=hcl _ _ hpt);clear hm;rintro _ I2 _ _ ⟨rfl,sa2,sp2,da2,dp2,ua2,up2,rfl⟩ hleI2 hm;try simp only[G5]at hm|refine D8 ?_|refine D6 ?_|refine J8 ?_|refine O9 ?_|refine E5 ?_|refine A7 ?_|refine D7 ?_|refine E8 ?_|refine A8 ?_|refine F6 ?_|refine G7 ?_|(refine C9 (ht:=fun _=>?_) (hf:=fun _=>?_)<;>try first|contradiction|omega))
  exact L6 (⟨k+1,I2,sa2,sp2,da2,dp2,ua2,up2⟩:NX) (by exact⟨rfl,rfl,rfl,rfl,rfl,trivial⟩) ⟨by dsimp only;rw[hst];exact hm,hle1.trans hleI2,by dsimp only;omega⟩ (by dsimp only;omega)
 ·obtain rfl:k=l.length:=by omega
  have hback:=C6e its p l sc s;have hpl:=(B1g its p l sc s).2.2.1;rw[V7]at hm;generalize A1w its p l sc s=r at hm hback hpl |-;repeat' (first|refine B2E (d:=28) ?_ hm (hmn:=hpl);clear hm;intro hm;try simp only[G5]at hm|refine J6 ?_ hm|refine P5 hm (k:=?_);clear hm;intro _ hm;try simp only[G5]at hm|refine D8 ?_|refine J8 ?_|refine F5 ?_|refine D5 ?_|refine E5 ?_|refine A7 ?_|refine H6 ?_|refine G9 ?_|refine E8 ?_|refine A8 ?_|refine O8 ?_|refine A0p ?_|(refine C9 (ht:=fun _=>?_) (hf:=fun _=>?_)<;>try first|contradiction|omega))
  refine⟨I1,_,⟨rfl,sa1,sp1,da1,dp1,ua1,up1,?_⟩,hm⟩
  rw[C5m,hback]
theorem D6A (x:Sp.Stm) (hsm:x.small) (hall:x.all (Sp.stE q) (Sp.stS q)) (hT:C0j src p q its it bc bf a cp xs pi x.thn) (hL:C0j src p q its it bc bf a cp xs pi x.els):C9U src p q its it bc bf a cp xs pi x:=by
 intro I b o tc cs sc s sa sp da dp ua up hsc hn1 hn2 hC hp hx;obtain⟨s1,s2,s3,s4,s5⟩:=A15 hsm;obtain⟨a1,a2,a3,a4⟩:=Sp.Stm.all_node hall;have hcnt:=C6O x;refine CalM.of fun w E hm=>enter (N:=64) func155 rfl [(0,ptr bc),(1,.pointer (some ⟨b,o,none⟩))] A1x rfl ?_
 obtain⟨ea,ec,ex,a1',c1,xs1,a2',c2,xs2,rfl,hr3,hx3,hr4,hx4,hr5,hx5⟩:=hx.out;have hpe:=hp.sub (cs':=A0E x.e ea ec) 5 (fun j u hj=>by
  match j,hj with
  |0,hj=>exact hj
  |1,hj=>exact hj
  |2,hj=>exact hj
  |3,hj=>exact hj
  |4,hj=>exact hj
  |5,hj=>exact hj
  |j+6,hj=>cases hj)
 rw[C7U];have hE:=D6y (its:=its) (it:=it) (bc:=bc) (bf:=bf) (a:=a) (cp:=cp) (xs:=xs) (pi:=pi) (src:=src) (p:=p) (by omega) hsc _ x.e (H7 _) s1 a2 I b (o+5) tc ea ec ex s sa sp da dp ua up (by omega) hC hpe hr3 hx3;have hnx:=D0z its p sc x.e s;generalize Sp.exN its p sc x.e s=r at hE hnx |-;have hlen:=hC.len;rw[C6P];by_cases k1:x.kind=1
 ·rw[if_pos k1]
  have hb:=(hC.st.sub _ _ (a1 (.inl k1))).1;have hc:=fun (J:P8) (sa:Option Addr) (sp:Nat) (da:Option Addr) (dp:Nat) (ua:Option Addr) (up:Nat)=>D1z (I:=J) (bc:=bc) (bf:=bf) (pi:=pi) (sc:=sc) (sa:=sa) (sp:=sp) (s:=r) (da:=da) (dp:=dp) (ua:=ua) (up:=up) x.name x.at_ (by omega) (by omega) (by omega)
  repeat' (first|refine F8 (d:=8) ?_ hm (hp:=A5A) (hc:=hE);clear hm;rintro _ I2 _ _ ⟨rfl,sa2,sp2,da2,dp2,ua2,up2,rfl⟩ hleI2 hm;try simp only[G5]at hm;have hp2:=hp.le hleI2|refine A0b (id:=3) 9 (h:=?_)|refine F8 (d:=24) ?_ hm (hp:=A5A) (hc:=hc I2 sa2 sp2 da2 dp2 ua2 up2);clear hm;rintro _ I3 _ _ ⟨rfl,sa3,sp3,da3,dp3,ua3,up3,rfl⟩ hleI3 hm;try simp only[G5]at hm|refine J9 ?_ hm|refine A0f ?_ hm|refine D8 ?_|refine D6 ?_|refine O6 ?_|refine F5 ?_|refine D5 ?_|refine E5 ?_|refine A7 ?_|refine D7 ?_|refine E8 ?_|refine A8 ?_|refine F6 ?_|refine A0p ?_|refine V6 ?_;intro _ hkq;replace hm:=hm.kept0 hkq;clear hkq|(refine C9 (ht:=fun _=>?_) (hf:=fun _=>?_)<;>try first|contradiction|omega)|refine Y4 ?_|refine Q9 ?_|refine L8 ?_)
  exact⟨I3,_,⟨rfl,_,_,_,_,_,_,rfl⟩,hm⟩
 rw[if_neg k1];by_cases k2:x.kind=2
 ·rw[if_pos k2]
  have hc:=fun (J:P8) (m:Le I J) (sa:Option Addr) (sp:Nat) (da:Option Addr) (dp:Nat) (ua:Option Addr) (up:Nat)=>C7s (I:=J) (bc:=bc) (sc:=sc) (sa:=sa) (sp:=sp) (s:=r) (da:=da) (dp:=dp) (ua:=ua) (up:=up) (hC.le m) x.at_ x.name (a1 (.inr (.inl k2))) hsc (by omega) (by omega)
  repeat' (first|refine F8 (d:=8) ?_ hm (hp:=A5A) (hc:=hE);clear hm;rintro _ I2 _ _ ⟨rfl,sa2,sp2,da2,dp2,ua2,up2,rfl⟩ hleI2 hm;try simp only[G5]at hm;have hp2:=hp.le hleI2|refine A0b (id:=5) 9 (h:=?_)|refine F8 (d:=36) ?_ hm (hp:=A5A) (hc:=hc I2 hleI2 sa2 sp2 da2 dp2 ua2 up2);clear hm;rintro _ I3 _ _ ⟨rfl,sa3,sp3,da3,dp3,ua3,up3,rfl⟩ hleI3 hm;try simp only[G5]at hm|refine J9 ?_ hm|refine A0f ?_ hm|refine D8 ?_|refine D6 ?_|refine O6 ?_|refine F5 ?_|refine D5 ?_|refine E5 ?_|refine A7 ?_|refine D7 ?_|refine E8 ?_|refine A8 ?_|refine F6 ?_|refine A0p ?_|refine V6 ?_;intro _ hkq;replace hm:=hm.kept0 hkq;clear hkq|(refine C9 (ht:=fun _=>?_) (hf:=fun _=>?_)<;>try first|contradiction|omega)|refine Y4 ?_|refine Q9 ?_|refine L8 ?_)
  exact⟨I3,_,⟨rfl,_,_,_,_,_,_,rfl⟩,hm⟩
 rw[if_neg k2];by_cases k5:x.kind=5
 ·rw[if_pos k5]
  cases hf:A0M its 1 x.name with
  |none=>
   have hc:=fun (J:P8) (m:Le I J) (sa:Option Addr) (sp:Nat) (da:Option Addr) (dp:Nat) (ua:Option Addr) (up:Nat)=>C0V (I:=J) (bc:=bc) (sc:=sc) (sa:=sa) (sp:=sp) (s:=r) (da:=da) (dp:=dp) (ua:=ua) (up:=up) (hC.le m) 1 x.at_ x.name (a1 (.inr (.inr k5))) (by omega) hf
   repeat' (first|refine F8 (d:=8) ?_ hm (hp:=A5A) (hc:=hE);clear hm;rintro _ I2 _ _ ⟨rfl,sa2,sp2,da2,dp2,ua2,up2,rfl⟩ hleI2 hm;try simp only[G5]at hm;have hp2:=hp.le hleI2|refine A0b (id:=7) 9 (h:=?_)|refine F8 (d:=48) ?_ hm (hp:=A5A) (hc:=hc I2 hleI2 sa2 sp2 da2 dp2 ua2 up2);clear hm;rintro _ I3 _ _ ⟨rfl,sa3,sp3,da3,dp3,ua3,up3,rfl⟩ hleI3 hm;try simp only[G5]at hm|refine J9 ?_ hm|refine A0f ?_ hm|refine D8 ?_|refine D6 ?_|refine O6 ?_|refine F5 ?_|refine D5 ?_|refine E5 ?_|refine A7 ?_|refine D7 ?_|refine E8 ?_|refine A8 ?_|refine F6 ?_|refine A0p ?_|refine V6 ?_;intro _ hkq;replace hm:=hm.kept0 hkq;clear hkq|(refine C9 (ht:=fun _=>?_) (hf:=fun _=>?_)<;>try first|contradiction|omega)|refine Y4 ?_|refine Q9 ?_|refine L8 ?_)
   exact⟨I3,_,⟨rfl,_,_,_,_,_,_,rfl⟩,hm⟩
  |some j=>
   have hc:=fun (J:P8) (m:Le I J) (sa:Option Addr) (sp:Nat) (da:Option Addr) (dp:Nat) (ua:Option Addr) (up:Nat)=>C0W (I:=J) (bc:=bc) (sc:=sc) (sa:=sa) (sp:=sp) (s:=r) (da:=da) (dp:=dp) (ua:=ua) (up:=up) (hC.le m) 1 x.at_ x.name (a1 (.inr (.inr k5))) (by omega) hf
   repeat' (first|refine F8 (d:=8) ?_ hm (hp:=A5A) (hc:=hE);clear hm;rintro _ I2 _ _ ⟨rfl,sa2,sp2,da2,dp2,ua2,up2,rfl⟩ hleI2 hm;try simp only[G5]at hm;have hp2:=hp.le hleI2|refine A0b (id:=7) 9 (h:=?_)|refine F8 (d:=48) ?_ hm (hp:=A5A) (hc:=hc I2 hleI2 sa2 sp2 da2 dp2 ua2 up2);clear hm;rintro _ I3 _ _ ⟨⟨_,_,_,rfl,_,_⟩,sa3,sp3,da3,dp3,ua3,up3,rfl⟩ hleI3 hm;try simp only[G5]at hm|refine J9 ?_ hm|refine A0f ?_ hm|refine D8 ?_|refine D6 ?_|refine O6 ?_|refine F5 ?_|refine D5 ?_|refine E5 ?_|refine A7 ?_|refine D7 ?_|refine E8 ?_|refine A8 ?_|refine F6 ?_|refine A0p ?_|refine V6 ?_;intro _ hkq;replace hm:=hm.kept0 hkq;clear hkq|(refine C9 (ht:=fun _=>?_) (hf:=fun _=>?_)<;>try first|contradiction|omega)|refine Y4 ?_|refine Q9 ?_|refine L8 ?_)
   exact⟨I3,_,⟨rfl,_,_,_,_,_,_,rfl⟩,hm⟩
 rw[if_neg k5];by_cases k34:x.kind=3\/x.kind=4
 ·rw[if_pos k34]
  have hb1:=fun (J:P8) (m:Le I J) (sa:Option Addr) (sp:Nat) (da:Option Addr) (dp:Nat) (ua:Option Addr) (up:Nat)=>hT J a1' c1 xs1 sc r sa sp da dp ua up hsc (by omega) (by omega) (hC.le m) (hr4.le m) (V4.le m _ _ hx4)
  have hnn:=B1g its p x.thn sc r;generalize A1w its p x.thn sc r=r7 at hb1 hnn |-;have hb2:=fun (J:P8) (m:Le I J) (sa:Option Addr) (sp:Nat) (da:Option Addr) (dp:Nat) (ua:Option Addr) (up:Nat)=>hL J a2' c2 xs2 sc r7.2 sa sp da dp ua up hsc (by omega) (by omega) (hC.le m) (hr5.le m) (V4.le m _ _ hx5)
  repeat' (first|refine F8 (d:=8) ?_ hm (hp:=A5A) (hc:=hE);clear hm;rintro _ I2 _ _ ⟨rfl,sa2,sp2,da2,dp2,ua2,up2,rfl⟩ hleI2 hm;try simp only[G5]at hm;have hp2:=hp.le hleI2|refine F8 (d:=57) ?_ hm (hp:=A5A) (hc:=hb1 I2 hleI2 sa2 sp2 da2 dp2 ua2 up2);clear hm;rintro _ I3 _ _ ⟨rfl,sa3,sp3,da3,dp3,ua3,up3,rfl⟩ hleI3 hm;try simp only[G5]at hm;have hp3:=hp2.le hleI3|refine F8 (d:=63) ?_ hm (hp:=A5A) (hc:=hb2 I3 (hleI2.trans hleI3) sa3 sp3 da3 dp3 ua3 up3);clear hm;rintro _ I4 _ _ ⟨rfl,sa4,sp4,da4,dp4,ua4,up4,rfl⟩ hleI4 hm;try simp only[G5]at hm|refine J9 ?_ hm|refine D8 ?_|refine D6 ?_|refine O6 ?_|refine F5 ?_|refine D5 ?_|refine E5 ?_|refine A7 ?_|refine D7 ?_|refine E8 ?_|refine A8 ?_|refine F6 ?_|refine G7 ?_|refine A0p ?_|(refine C9 (ht:=fun _=>?_) (hf:=fun _=>?_)<;>try first|contradiction|omega))
  all_goals exact⟨I4,_,⟨rfl,_,_,_,_,_,_,rfl⟩,hm⟩
 ·rw[if_neg k34]
  repeat' (first|refine F8 (d:=8) ?_ hm (hp:=A5A) (hc:=hE);clear hm;rintro _ I2 _ _ ⟨rfl,sa2,sp2,da2,dp2,ua2,up2,rfl⟩ hleI2 hm;try simp only[G5]at hm;have hp2:=hp.le hleI2|refine J9 ?_ hm|refine D8 ?_|refine D6 ?_|refine O6 ?_|refine F5 ?_|refine D5 ?_|refine E5 ?_|refine A7 ?_|refine D7 ?_|refine E8 ?_|refine A8 ?_|refine F6 ?_|refine G7 ?_|refine A0p ?_|(refine C9 (ht:=fun _=>?_) (hf:=fun _=>?_)<;>try first|contradiction|omega))
  exact⟨I2,_,⟨rfl,_,_,_,_,_,_,rfl⟩,hm⟩
theorem D79:∀(n:Nat) (l:List Sp.Stm),SizeOf.sizeOf l<=n->l.length<=64->A0j l->A0e (Sp.stE q) (Sp.stS q) l->C0j src p q its it bc bf a cp xs pi l:=by
 intro n;induction n with
 |zero=>intro l h;cases l<;>simp at h
 |succ n ih=>
 intro l hsz hll hsm hal;refine D4e l hll hal (fun y hy=>?_)
 obtain⟨j,hj,rfl⟩:=A2r hy;have hg:=F9 hj;have h1:=A1W hsm hg;have h0:=A60 hal hg;have h2:=Sp.Stm.all_node h0;have h3:=A3v (O1 hj);generalize l[j]=y at h0 h1 h2 h3;obtain⟨s1,s2,s3,s4,s5⟩:=A15 h1;obtain⟨z1,z2⟩:=A5n (s:=y);exact D6A y h1 h0 (ih y.thn (by omega) s2 s3 h2.2.2.1) (ih y.els (by omega) s4 s5 h2.2.2.2)
end
theorem D6z (I:P8) (b:Nat) (c:Sp.Rf) (hb:PtrI I b 0 106 (A27 c)) (x:Sp.Rf):
  CalM prog 122 #[.agg (A27 x).toArray,ptr b] I [] (fun v _ H'=>v=.bool (decide (x.name=c.name))/\H'= []):=by
 refine CalM.of fun w E hm=>enter (N:=9) func122 rfl [(0,.agg (A27 x).toArray),(1,ptr b)] A1x rfl ?_
 repeat' (first|refine A0T (d:=2) ?_ hm;clear hm;intro b2 _ hm|refine J6 ?_ hm|refine J9 ?_ hm|refine D6 ?_|refine A0g ?_|refine D5 ?_|refine E5 ?_|refine A7 ?_|refine E8 ?_|refine A8 ?_|refine J3 ?_|refine J7 ?_)
 exact⟨I,[],⟨rfl,rfl⟩,hm.left (H:= [])⟩
section
variable {src:List UInt8}{p:Nat}{q:List UInt8}{its:List Sp.Itm}{it:Sp.Itm}{bc bf:Nat}{a:Option Addr}{cp:Nat}{xs:List Value}{pi:Value}
theorem C50 (l:List Sp.Rf) (n:Nat):(l.flatMap A27).take (n *2)=(l.take n).flatMap A27:=by
 induction l generalizing n with
 |nil=>simp
 |cons x l ih=>
  cases n with
  |zero=>simp
  |succ n=>
   rw[A0c,A09,A0c,show (n+1) *2=2+n *2 by omega,A8X,A0W (by show 2<=2+n *2;omega),show 2+n *2-(A27 x).length=n *2 by (show 2+n *2-2=n *2;omega),ih]
theorem D4h {I:P8}{sc:List Sp.Lc}{s:Sp.NW}{sa:Option Addr}{sp:Nat}{da:Option Addr}{dp:Nat}{ua:Option Addr}{up:Nat} (hC:NC I src p q its it bf a cp xs pi) (k:Int) (f:Nat) (n:List UInt8) (hst:A1j q f n) (hd:s.n<=1000000000):
  CalM prog 121 #[ptr bc,.int .i64 k,nt f,str n] I (NSt bc bf pi sc sa sp s da dp ua up)
   (fun _ _ H'=> ∃sa sp da dp ua up,H'=NSt bc bf pi sc sa sp (A5Y its p k f n s) da dp ua up):=by
 cases hf:A0M its k n with
 |none=>exact(C0V hC k f n hst hd hf).mono (fun _ _ _ _ h=>h.2)
 |some j=>exact(C0W hC k f n hst hd hf).mono (fun _ _ _ _ h=>h.2)
theorem D8H {I:P8}{s:Sp.NW}{sa:Option Addr}{sp:Nat}{da:Option Addr}{dp:Nat}{ua:Option Addr}{up:Nat} (hC:NC I src p q its it bf a cp xs pi) (hsm:it.small) (hcn:U1 it.body<=400000000) (hd:s.n<=1000):
  CalM prog 89 #[ptr bc] I (NSt bc bf pi [] sa sp s da dp ua up) (ToN bc bf pi (A34 it.params [] s).1 (Sp.fnN its it s) (.tuple #[])):=by
 refine CalM.of fun w E hm=>enter (N:=76) func89 rfl [(0,ptr bc)] A0Z rfl ?_
 have hlen:=hC.len;have hst:=hC.st;rw[Sp.fnN,hst.at_];obtain⟨bi,oi,tci,ci,rfl,hpi,hati⟩:=hC.item;obtain⟨pa,pc,sa9,sc9,ba,bc9,da9,dc9,xb,rfl,hpar,hsnd,hrb,hbs,_⟩:=hati;have hsp:=hsm.params;have hss:=hsm.sends;have hsb:=hsm.body;repeat' (first|refine J6 ?_ hm|refine J9 ?_ hm|refine D8 ?_|refine G6 ?_|refine F5 ?_|refine D5 ?_|refine E5 ?_|refine A7 ?_|refine E8 ?_|refine A8 ?_|refine F6 ?_)
 refine U3 (fun x:NX=> [(0,ptr bc),(12,.slice pa it.params.length pc),(13,nt it.params.length),(14,nt x.k)])
  (fun x w'=>Mem E x.I (NSt bc bf (.pointer (some ⟨bi,oi,none⟩)) (A34 (it.params.take x.k) [] s).1 x.sa x.sp (A34 (it.params.take x.k) [] s).2 x.da x.dp x.ua x.up) w'/\Le I x.I/\x.k<=it.params.length) (fun x=>it.params.length-x.k) ⟨0,I,sa,sp,da,dp,ua,up⟩
  (by exact⟨rfl,rfl,rfl,rfl,trivial⟩) ⟨by dsimp only;rw[Z9,A34];exact hm,Le.refl _,H9 _⟩ ?_
 clear hm;rintro⟨k,I1,sa1,sp1,da1,dp1,ua1,up1⟩ w1 ⟨hm,hle1,hk⟩;dsimp only at hm hle1 hk |-;by_cases hlt:k<it.params.length
 ·have hg:it.params[k]?=some it.params[k]:=F9 hlt
  have hpst:=(hst.sub _ _ (hst.params _ (O1 hlt))).1;have hstp:=C9d hg [] s;have hpr:=hpar.le hle1;have hgk:it.params[((k:Nat):Int).toNat]?=some it.params[k]:=hg;generalize it.params[k]=y at hg hpst hstp hgk;have hnn:=C07 (it.params.take k) [] s;rw[P9]at hnn;generalize A34 (it.params.take k) [] s=r at hm hstp hnn;have hc:=fun (J:P8)=>D1z (I:=J) (bc:=bc) (bf:=bf) (pi:=.pointer (some ⟨bi,oi,none⟩)) (sc:=r.1) (sa:=sa1) (sp:=sp1) (s:=r.2) (da:=da1) (dp:=dp1) (ua:=ua1) (up:=up1) y.name y.at_ (by omega) (by dsimp only[List.length_nil]at hnn;omega) (by omega)
  generalize Sp.mkN y.name y.at_ r.1 r.2=z at hc hstp;repeat' (first|refine Q4 (d:=16) (enc:=A2L) (z:=y) ?_ (hr:=hpr) (he:=fun _=>rfl) (hz:=hgk);intro bt ot hpt|refine F8 (d:=23) ?_ hm (hp:=B9N) (hc:=hc I1);clear hm;rintro _ I2 _ _ ⟨rfl,sa2,sp2,da2,dp2,ua2,up2,rfl⟩ hleI2 hm;try simp only[G5]at hm|refine Y2 (d:=3) ?_ hm;clear hm;intro b3 _ hm|refine J6 ?_ hm|refine U0 ?_ hm|refine D8 ?_|refine J8 ?_|refine O9 ?_|refine D5 ?_|refine E5 ?_|refine A7 ?_|refine D7 ?_|refine E8 ?_|refine A8 ?_|refine F6 ?_|refine G7 ?_|(refine C9 (ht:=fun _=>?_) (hf:=fun _=>?_)<;>try first|contradiction|omega))
  exact L6 (⟨k+1,I2,sa2,sp2,da2,dp2,ua2,up2⟩:NX) (by exact⟨rfl,rfl,rfl,rfl,trivial⟩) ⟨by dsimp only;rw[hstp];exact hm.left,hle1.trans hleI2,by dsimp only;omega⟩ (by dsimp only;omega)
 obtain rfl:k=it.params.length:=by omega
 rw[V7]at hm;have hnp:=C07 it.params [] s;have hsc1:=C7z it.params hst.params C3O s;generalize A34 it.params [] s=r at hm hnp hsc1 |-;have hpi1:=hpi.le hle1;repeat' (first|refine J6 ?_ hm|refine J9 ?_ hm|refine D8 ?_|refine J8 ?_|refine G6 ?_|refine F5 ?_|refine D5 ?_|refine E5 ?_|refine A7 ?_|refine H6 ?_|refine G9 ?_|refine E8 ?_|refine A8 ?_|refine F6 ?_|refine O8 ?_|(refine C9 (ht:=fun _=>?_) (hf:=fun _=>?_)<;>try first|contradiction|omega))
 refine U3 (fun x:NX=> [(0,ptr bc),(31,.slice sa9 it.sends.length sc9),(32,nt it.sends.length),(33,nt x.k)])
  (fun x w'=>Mem E x.I (NSt bc bf (.pointer (some ⟨bi,oi,none⟩)) r.1 x.sa x.sp (A6P its p [] (it.sends.take x.k) r.2) x.da x.dp x.ua x.up) w'/\Le I x.I/\x.k<=it.sends.length) (fun x=>it.sends.length-x.k) ⟨0,I1,sa1,sp1,da1,dp1,ua1,up1⟩
  (by exact⟨rfl,rfl,rfl,rfl,trivial⟩) ⟨by dsimp only;rw[Z9,A6P];exact hm,hle1,H9 _⟩ ?_
 clear hm hpi1 hle1 hlt hk;rintro⟨k,I2,sa2,sp2,da2,dp2,ua2,up2⟩ w2 ⟨hm,hle2,hk⟩;dsimp only at hm hle2 hk |-;have hC2:=hC.le hle2;have hpi2:=hpi.le hle2;by_cases hlt:k<it.sends.length
 ·have hg:it.sends[k]?=some it.sends[k]:=F9 hlt
  have hs0:=hst.sends _ (O1 hlt);have hpst:=(hst.sub _ _ hs0).1;have hstp:=C9u its p hg r.2;have hpr:=hsnd.le hle2;have hgk:it.sends[((k:Nat):Int).toNat]?=some it.sends[k]:=hg;generalize it.sends[k]=y at hg hpst hstp hgk hs0;have hnn:=C1m its p (it.sends.take k) [] r.2;rw[P9]at hnn;generalize A6P its p [] (it.sends.take k) r.2=s1 at hm hstp hnn;have hc:=fun (J:P8) (m:Le I2 J)=>D4h (I:=J) (bc:=bc) (sc:=r.1) (s:=s1) (sa:=sa2) (sp:=sp2) (da:=da2) (dp:=dp2) (ua:=ua2) (up:=up2) (hC2.le m) 1 y.at_ y.name hs0 (by omega)
  have hin:=B7D its p 1 y.at_ y.name s1;rw[A56]at hstp;generalize A5Y its p 1 y.at_ y.name s1=s2 at hc hstp hin;have htl:(it.sends.take k).length=k:=by rw[P9];omega
  repeat' (first|refine A0U 9 ?_|refine Q4 (d:=36) (enc:=A27) (z:=y) ?_ (hr:=hpr) (he:=fun _=>rfl) (hz:=hgk);intro bt ot hpt|refine F8 (d:=43) ?_ hm (hp:=B9N) (hc:=hc I2 (Le.refl _));clear hm;rintro _ I3 _ _ ⟨sa3,sp3,da3,dp3,ua3,up3,rfl⟩ hleI3 hm;try simp only[G5]at hm|refine X8 (d:=5) ?_ hm;clear hm;intro b5 _ hm|refine J6 ?_ hm|refine U0 ?_ hm|refine P6 ?_ hm;clear hm;intro _ hm;try simp only[G5]at hm|refine D8 ?_|refine D6 ?_|refine J8 ?_|refine D5 ?_|refine E5 ?_|refine A7 ?_|refine E8 ?_|refine A8 ?_|refine F6 ?_|refine G7 ?_|(refine C9 (ht:=fun _=>?_) (hf:=fun _=>?_)<;>try first|contradiction|omega))
  obtain⟨I4,hle4,hm4,hpn⟩:=(hm.front 4 rfl).freezeO;clear hm;have hm:=hm4;clear hm4;have hpi4:=(hpi2.le hleI3).le hle4;have hpr4:=(hpr.le hleI3).le hle4;have hct:=B7P 122 [ptr b5] (fun x=>decide (x.name=y.name)) (it.sends.take k) (by omega) I4 sa9 sc9 (by rw[htl, <-C50];exact hpr4.take (by omega)) (fun I' m x=>D6z I' b5 y (hpn.le m) x);rw[htl]at hct;refine⟨?_⟩
  by_cases hn:y.name≠ []
  ·cases hb:(it.sends.take k).any (fun x=>decide (x.name=y.name)) with
   |true=>
    rw[hb]at hct;rw[if_pos ⟨hn,hb⟩]at hstp;have hT:=fun (J:P8)=>B5m (I:=J) (bc:=bc) (bf:=bf) (pi:=.pointer (some ⟨bi,oi,none⟩)) (sc:=r.1) (sa:=sa3) (sp:=sp3) (s:=s2) (da:=da3) (dp:=dp3) (ua:=ua3) (up:=up3) y.name y.at_ 7 (by omega) (by omega)
    repeat' (first|refine B5a (d:=56) ?_ hpr4;intro _|refine F8 (d:=58) ?_ hm (hp:=pm0) (hc:=hct);clear hm;rintro _ I5 _ _ ⟨rfl,rfl⟩ hleI5 hm;try simp only[G5]at hm;have hpn5:=hpn.le hleI5|refine F8 (d:=65) ?_ hm (hp:=A5A) (hc:=hT I5);clear hm;rintro _ I6 _ _ ⟨rfl,sa4,sp4,da4,dp4,ua4,up4,rfl⟩ hleI6 hm;try simp only[G5]at hm|refine J6 ?_ hm|refine J9 ?_ hm|refine D8 ?_|refine O0 ?_|refine A0t ?_|refine F5 ?_|refine A2v ?_|refine O9 ?_|refine D5 ?_|(refine O3 (h1:=fun _=>?_) (h0:=fun _=>?_)<;>try first|contradiction|omega)|refine E5 ?_|refine A7 ?_|refine D7 ?_|refine A8 ?_|refine H5 ?_)
    exact L6 (⟨k+1,I6,sa4,sp4,da4,dp4,ua4,up4⟩:NX) (by exact⟨rfl,rfl,rfl,rfl,trivial⟩) ⟨by dsimp only;rw[hstp];exact hm,(((hle2.trans hleI3).trans hle4).trans hleI5).trans hleI6,by dsimp only;omega⟩ (by dsimp only;omega)
   |false=>
    rw[hb]at hct;rw[if_neg (fun h=>by rw[hb]at h;exact absurd h.2 (by decide))]at hstp;repeat' (first|refine B5a (d:=56) ?_ hpr4;intro _|refine F8 (d:=58) ?_ hm (hp:=pm0) (hc:=hct);clear hm;rintro _ I5 _ _ ⟨rfl,rfl⟩ hleI5 hm;try simp only[G5]at hm|refine J6 ?_ hm|refine J9 ?_ hm|refine D8 ?_|refine O0 ?_|refine A0t ?_|refine F5 ?_|refine A2v ?_|refine O9 ?_|refine D5 ?_|(refine O3 (h1:=fun _=>?_) (h0:=fun _=>?_)<;>try first|contradiction|omega)|refine E5 ?_|refine A7 ?_|refine D7 ?_|refine A8 ?_|refine G7 ?_|refine F7 ?_)
    exact L6 (⟨k+1,I5,sa3,sp3,da3,dp3,ua3,up3⟩:NX) (by exact⟨rfl,rfl,rfl,rfl,trivial⟩) ⟨by dsimp only;rw[hstp];exact hm,((hle2.trans hleI3).trans hle4).trans hleI5,by dsimp only;omega⟩ (by dsimp only;omega)
  ·rw[if_neg (fun h=>hn h.1)]at hstp
   repeat' (first|refine J9 ?_ hm|refine D8 ?_|refine N7 ?_|refine A0t ?_|refine O9 ?_|refine D5 ?_|refine A0z ?_|(refine O3 (h1:=fun _=>?_) (h0:=fun _=>?_)<;>try first|contradiction|omega)|refine E5 ?_|refine A7 ?_|refine D7 ?_|refine A8 ?_|refine G7 ?_|refine F7 ?_)
   exact L6 (⟨k+1,I4,sa3,sp3,da3,dp3,ua3,up3⟩:NX) (by exact⟨rfl,rfl,rfl,rfl,trivial⟩) ⟨by dsimp only;rw[hstp];exact hm,(hle2.trans hleI3).trans hle4,by dsimp only;omega⟩ (by dsimp only;omega)
 ·obtain rfl:k=it.sends.length:=by omega
  rw[V7]at hm;have hnn:=C1m its p it.sends [] r.2;generalize A6P its p [] it.sends r.2=s1 at hm hnn |-;have hblk:=D79 (its:=its) (it:=it) (bc:=bc) (bf:=bf) (a:=a) (cp:=cp) (xs:=xs) (src:=src) (p:=p) (q:=q) (pi:=.pointer (some ⟨bi,oi,none⟩)) _ it.body (H7 _) (by omega) hsm.stms hst.body I2 ba bc9 xb r.1 s1 sa2 sp2 da2 dp2 ua2 up2 hsc1 (by dsimp only[List.length_nil]at hnp;omega) (by omega) hC2 (hrb.le hle2) (V4.le hle2 _ _ hbs);repeat' (first|refine F8 (d:=75) ?_ hm (hp:=A5A) (hc:=hblk);clear hm;rintro _ I5 _ _ ⟨rfl,sa4,sp4,da4,dp4,ua4,up4,rfl⟩ hleI5 hm;try simp only[G5]at hm|refine J6 ?_ hm|refine J9 ?_ hm|refine D8 ?_|refine J8 ?_|refine F5 ?_|refine D5 ?_|refine E5 ?_|refine A7 ?_|refine H6 ?_|refine G9 ?_|refine E8 ?_|refine A8 ?_|refine O8 ?_|refine A0p ?_|(refine C9 (ht:=fun _=>?_) (hf:=fun _=>?_)<;>try first|contradiction|omega))
  exact⟨I5,_,⟨rfl,_,_,_,_,_,_,rfl⟩,hm⟩
end
section
variable {src:List UInt8}{its:List Sp.Itm}{a:Option Addr}{cp:Nat}{xs:List Value}
theorem D1A (i:Nat) (hi:i<its.length) (bf:Nat) (I:P8) (hfile:PtrI I bf 0 25 [.slice a its.length cp]) (h:FE I its a cp xs) (hlen:src.length<=4000) (hN:∀x∈its,Sp.ItN src x):
  CalM prog 56 #[ptr bf,nt i] I [] (fun v _ H'=> ∃bc pi sc sa sp da dp ua up,v=ptr bc/\H'=NSt bc bf pi sc sa sp (A3x its i) da dp ua up):=by
 refine CalM.of fun w E hm=>enter (N:=80) func56 rfl [(0,ptr bf),(1,nt i)] A1x rfl ?_
 have hfew:=h.few;have hg:=A5j hi;obtain⟨ci,hci,hat,hlc⟩:=h.get hg;have hri:=h.row;have hIt:=hN _ (B13 hi);have hw:A3x its i=if (X7 its i).kind=2 then Sp.fnN its (X7 its i) (if A8p its i (X7 its i)=true then Sp.NW0.tell (X7 its i).mark 7 (X7 its i).name else Sp.NW0) else (if A8p its i (X7 its i)=true then Sp.NW0.tell (X7 its i).mark 7 (X7 its i).name else Sp.NW0):=rfl
 generalize A3x its i=fin at hw |-;generalize X7 its i=it at hg hat hIt hw;obtain⟨s0,hs0⟩:∃s0,s0=if A8p its i it=true then Sp.NW0.tell it.mark 7 it.name else Sp.NW0:=⟨_,rfl⟩
 rw[<-hs0]at hw;have hs0n:s0.n<=1:=by
  rw[hs0];split
  ·rw[B3S];exact H7 _
  ·exact H9 _
 have htk:A8p its i it=(decide (it.kind≠3) && (decide (it.name≠ []) && (its.take i).any (Sp.same it))):=rfl;have hat0:=hat
 obtain⟨pa,pc,sa9,sc9,ba,bc9,da9,dc9,xb,rfl,hpar,hsnd,hrb,hbs,_⟩:=hat
 obtain⟨p,q,hst⟩:=hIt.st;have hbd:=(hst.sub _ _ hst.mark).1;repeat' (first|refine O7 (d:=15) ?_ (hr:=hri);intro bt ot hpt;rw[show ((i:Int).toNat *10)=i *10 from rfl,hci]at hpt|refine A9E 3 (fun _:NX=> [(0,ptr bf),(1,nt i),(5,ptr b17),(6,.pointer (some ⟨bt,ot,none⟩))]) (fun x w'=>Mem E x.I (NSt b17 bf (.pointer (some ⟨bt,ot,none⟩)) [] x.sa x.sp s0 x.da x.dp x.ua x.up) w'/\Le I x.I) ?_ ?_|refine A0T (d:=17) ?_ hm;clear hm;intro b17 _ hm|refine J6 ?_ hm|refine J9 ?_ hm|refine D8 ?_|refine D6 ?_|refine F5 ?_|refine D5 ?_|refine Y0 ?_|refine E5 ?_|refine A7 ?_|refine E8 ?_|refine A8 ?_)
 ·have hm:Mem E I (NSt b17 bf (.pointer (some ⟨bt,ot,none⟩)) [] none 0 Sp.NW0 none 0 none 0) _:=(((hm.nil 85 4).swap.nil 252 2).swap.nil 58 3).swap
  refine⟨?_⟩
  by_cases hk:it.kind≠3/\it.name≠ []
  case neg=>
   have:s0=Sp.NW0:=by
    rw[hs0,if_neg];rw[htk];intro h1;simp only[Q3,decide_eq_true_eq]at h1;exact hk ⟨h1.1,h1.2.1⟩
   subst this;by_cases h3:it.kind=3
   ·skip
    repeat' (first|refine J9 ?_ hm|refine D8 ?_|refine N7 ?_|refine A0w ?_|refine F5 ?_|refine D5 ?_|refine A0z ?_|(refine O3 (h1:=fun _=>?_) (h0:=fun _=>?_)<;>try first|contradiction|omega)|refine E5 ?_|refine A7 ?_|refine E8 ?_|refine A8 ?_|refine G7 ?_|refine F7 ?_)
    exact A0V (⟨0,I,none,0,none,0,none,0⟩:NX) (by exact⟨rfl,rfl,rfl,rfl,trivial⟩) ⟨hm,Le.refl _⟩
   ·have hnn:it.name= []:=Classical.byContradiction fun h1=>hk ⟨h3,h1⟩
    repeat' (first|refine J9 ?_ hm|refine D8 ?_|refine O0 ?_|refine A0w ?_|refine A0t ?_|refine F5 ?_|refine D5 ?_|(refine O3 (h1:=fun _=>?_) (h0:=fun _=>?_)<;>try first|contradiction|omega)|refine E5 ?_|refine A7 ?_|refine E8 ?_|refine A8 ?_|refine G7 ?_|(refine C9 (ht:=fun _=>?_) (hf:=fun _=>?_)<;>try first|contradiction|omega))
    exact A0V (⟨0,I,none,0,none,0,none,0⟩:NX) (by exact⟨rfl,rfl,rfl,rfl,trivial⟩) ⟨hm,Le.refl _⟩
  obtain⟨hk3,hnn⟩:=hk;repeat' (first|refine B5a (d:=39) ?_ hri;intro hrs|refine J9 ?_ hm|refine D8 ?_|refine O0 ?_|refine A0w ?_|refine A0t ?_|refine G6 ?_|refine F5 ?_|refine D5 ?_|(refine O3 (h1:=fun _=>?_) (h0:=fun _=>?_)<;>try first|contradiction|omega)|refine E5 ?_|refine A7 ?_|refine E8 ?_|refine A8 ?_|refine F6 ?_|(refine C9 (ht:=fun _=>?_) (hf:=fun _=>?_)<;>try first|contradiction|omega))
  refine U3 (fun k:Nat=> [(0,ptr bf),(1,nt i),(5,ptr b17),(6,.pointer (some ⟨bt,ot,none⟩)),(39,.slice a i cp),(40,nt i),(41,nt k)])
   (fun k w'=>Mem E I (NSt b17 bf (.pointer (some ⟨bt,ot,none⟩)) [] none 0 Sp.NW0 none 0 none 0) w'/\k<=i/\∀j x,j<k->its[j]?=some x->Sp.same it x=false) (fun k=>i-k) 0
   (by exact⟨rfl,rfl,rfl,rfl,rfl,rfl,rfl,trivial⟩) ⟨hm,H9 _,fun j _ hj=>absurd hj (Nat.not_lt_zero j)⟩ ?_
  clear hm;rintro k w1 ⟨hm,hk,hno⟩;try dsimp only at hm hk hno |-
  by_cases hlt:k<i
  ·have hgk:its[k]?=some its[k]:=F9 (by omega)
   obtain⟨cz,hcz,hatz,hl10⟩:=h.get hgk;have hdt:=C2k xs hlt;generalize its[k]=y at hgk hatz;obtain⟨pa3,pc3,sa3,sc3,ba3,bc3,da3,dc3,xb3,rfl,_⟩:=hatz;cases hsm:Sp.same it y with
   |true=>
    have hsk:=hsm;simp only[Sp.same,Q3,decide_eq_true_eq]at hsk;obtain⟨e1,e2⟩:=hsk;have:s0=Sp.NW0.tell it.mark 7 it.name:=by
     rw[hs0,if_pos];rw[htk,B8I hlt hgk hsm,decide_eq_true hk3,decide_eq_true hnn];rfl
    subst this;have hT:=B5m (I:=I) (bc:=b17) (bf:=bf) (pi:=.pointer (some ⟨bt,ot,none⟩)) (sc:= []) (sa:=none) (sp:=0) (s:=Sp.NW0) (da:=none) (dp:=0) (ua:=none) (up:=0) it.name it.mark 7 (by omega) (by decide);repeat' (first|refine O7 (d:=43) ?_ (hr:=hrs);intro bu ou hpu;rw[show ((k:Int).toNat *10)=k *10 from rfl,hdt,hcz]at hpu|refine A0b (id:=8) 9 (h:=?_)|refine F8 (d:=70) ?_ hm (hp:=B9N) (hc:=hT);clear hm;rintro _ I2 _ _ ⟨rfl,sa2,sp2,da2,dp2,ua2,up2,rfl⟩ hleI2 hm;try simp only[G5]at hm|refine Y2 (d:=8) ?_ hm;clear hm;intro b8 _ hm|refine U0 ?_ hm|refine V3 ?_ hm|refine A0f ?_ hm|refine J8 ?_|refine E5 ?_|refine A7 ?_|refine H6 ?_|refine G9 ?_|refine Z5 ?_|refine E8 ?_|refine A8 ?_|refine F6 ?_|refine G7 ?_|refine O8 ?_|refine U6 ?_|refine A0s ?_;intro _ hkq;replace hm:=hm.kept0 hkq;clear hkq|refine V6 ?_;intro _ hkq;replace hm:=hm.kept0 hkq;clear hkq|(refine C9 (ht:=fun _=>?_) (hf:=fun _=>?_)<;>try first|contradiction|omega)|refine Y4 ?_|refine A0d ?_|refine A9x ?_|refine B2K ?_|refine Q9 ?_|refine L8 ?_|(refine X3 (fun _=>?_) (h1:=fun _=>?_)<;>try first|contradiction|omega))
    exact A0V (⟨0,I2,sa2,sp2,da2,dp2,ua2,up2⟩:NX) (by exact⟨rfl,rfl,rfl,rfl,trivial⟩) ⟨hm.left,hleI2⟩
   |false=>
    have hne:¬(y.kind=it.kind/\y.name=it.name):=fun h1=>by
     rw[Sp.same,decide_eq_true h1.1,decide_eq_true h1.2]at hsm;cases hsm
    repeat' (first|refine O7 (d:=43) ?_ (hr:=hrs);intro bu ou hpu;rw[show ((k:Int).toNat *10)=k *10 from rfl,hdt,hcz]at hpu|refine Y2 (d:=8) ?_ hm;clear hm;intro b8 _ hm|refine U0 ?_ hm|refine V3 ?_ hm|refine A0f ?_ hm|refine D8 ?_|refine J8 ?_|refine O9 ?_|refine E5 ?_|refine A7 ?_|refine D7 ?_|refine E8 ?_|refine A8 ?_|refine F6 ?_|refine G7 ?_|refine U6 ?_|refine A0s ?_;intro _ hkq;replace hm:=hm.kept0 hkq;clear hkq|refine F7 ?_|(refine C9 (ht:=fun _=>?_) (hf:=fun _=>?_)<;>try first|contradiction|omega)|refine Y4 ?_|refine A0d ?_|refine A0A ?_|refine A9x ?_|refine B2K ?_|refine Q9 ?_|refine L8 ?_|refine A2z ?_|(refine X3 (fun _=>?_) (h1:=fun _=>?_)<;>try first|contradiction|omega))
    all_goals try (exfalso;first|omega|contradiction|(exact hne ⟨by omega,by assumption⟩))
    all_goals refine L6 (k+1:Nat) (by exact⟨rfl,rfl,rfl,rfl,rfl,rfl,rfl,trivial⟩) ⟨hm.tl,by omega,fun j x hj hg'=>?_⟩ (by omega)
    all_goals
     rcases U9 j k with hjk|hjk
     ·exact hno j x hjk hg'
     ·obtain rfl:j=k:=by omega
      rw[hgk]at hg';obtain rfl:=Z8 hg';exact hsm
  ·obtain rfl:k=i:=by omega
   have:s0=Sp.NW0:=by
    rw[hs0,if_neg];rw[htk,B8H (by omega) hno];simp
   subst this;repeat' (first|refine J8 ?_|refine E5 ?_|refine A7 ?_|refine H6 ?_|refine G9 ?_|refine E8 ?_|refine A8 ?_|refine O8 ?_|(refine C9 (ht:=fun _=>?_) (hf:=fun _=>?_)<;>try first|contradiction|omega))
   exact A0V (⟨0,I,none,0,none,0,none,0⟩:NX) (by exact⟨rfl,rfl,rfl,rfl,trivial⟩) ⟨hm,Le.refl _⟩
 ·clear hm
  rintro⟨_,I1,sa1,sp1,da1,dp1,ua1,up1⟩ w1 ⟨hm,hle1⟩;dsimp only at hm hle1 |-;have hpt1:=hpt.le hle1;by_cases k2:it.kind=2
  ·rw[if_pos k2]at hw
   have hC:NC I1 src p q its it bf a cp xs (.pointer (some ⟨bt,ot,none⟩)):=⟨hfile.le hle1,h.le hle1,⟨bt,ot,_,_,rfl,hpt1,hat0.le hle1⟩,hlen,hst,fun x hx=>(hN x hx).st⟩;have hF:=D8H (bc:=b17) (s:=s0) (sa:=sa1) (sp:=sp1) (da:=da1) (dp:=dp1) (ua:=ua1) (up:=up1) hC hIt.small hIt.cnt (by omega);rw[<-hw]at hF;repeat' (first|refine F8 (d:=78) ?_ hm (hp:=A5A) (hc:=hF);clear hm;rintro _ I2 _ _ ⟨rfl,sa2,sp2,da2,dp2,ua2,up2,rfl⟩ hleI2 hm;try simp only[G5]at hm|refine J9 ?_ hm|refine D8 ?_|refine D6 ?_|refine O6 ?_|refine F5 ?_|refine D5 ?_|refine E5 ?_|refine A7 ?_|refine E8 ?_|refine A8 ?_|refine J3 ?_|refine J7 ?_|(refine C9 (ht:=fun _=>?_) (hf:=fun _=>?_)<;>try first|contradiction|omega))
   exact⟨I2,_,⟨_,_,_,_,_,_,_,_,_,rfl,rfl⟩,hm⟩
  ·rw[if_neg k2]at hw
   subst hw;repeat' (first|refine J9 ?_ hm|refine D8 ?_|refine D6 ?_|refine O6 ?_|refine F5 ?_|refine D5 ?_|refine E5 ?_|refine A7 ?_|refine E8 ?_|refine A8 ?_|refine G7 ?_|refine J3 ?_|refine J7 ?_|(refine C9 (ht:=fun _=>?_) (hf:=fun _=>?_)<;>try first|contradiction|omega))
   exact⟨I1,_,⟨_,_,_,_,_,_,_,_,_,rfl,rfl⟩,hm⟩
end
section
variable {src:List UInt8}{its:List Sp.Itm}{a:Option Addr}{cp:Nat}{xs:List Value}
end
section
variable {src:List UInt8}{its:List Sp.Itm}{a:Option Addr}{cp:Nat}{xs:List Value}
theorem C7q (i:Nat) (hi:i<its.length) (I:P8) (h:FE I its a cp xs) (hlen:src.length<=4000) (hN:∀x∈its,Sp.ItN src x):
  CalM prog 46 #[.agg [.slice a its.length cp].toArray,nt i] I [] (fun v I' H'=>H'= []/\∃da dp,v=.slice da (A3x its i).ds.length dp/\RowI I' 85 4 (.slice da (A3x its i).ds.length dp) (A3x its i).ds.length ((A3x its i).ds.flatMap A5F)):=by
 refine CalM.of fun w E hm=>enter (N:=19) func46 rfl [(0,.agg [.slice a its.length cp].toArray),(1,nt i)] A1x rfl ?_
 have hfew:=h.few;repeat' (first|refine A0T (d:=2) ?_ hm;clear hm;intro b2 _ hm|refine J6 ?_ hm|refine D8 ?_|refine D6 ?_|refine N7 ?_|refine J8 ?_|refine A11 ?_|refine G6 ?_|refine D5 ?_|refine E5 ?_|refine A7 ?_|refine E8 ?_|refine A8 ?_|refine G7 ?_|(refine C9 (ht:=fun _=>?_) (hf:=fun _=>?_)<;>try first|contradiction|omega))
 obtain⟨I2,hle2,hm2,hpf⟩:=hm.freezeO;clear hm;have hm:=hm2;clear hm2;have hck:=D1A i hi b2 I2 hpf (h.le hle2) hlen hN;generalize A3x its i=fin at hck |-;repeat' (first|refine F8 (d:=15) ?_ hm (hp:=pm0) (hc:=hck);clear hm;rintro _ I4 _ _ ⟨bc,pi,sc,sa,sp,da,dp,ua,up,rfl,rfl⟩ hleI4 hm;try simp only[G5]at hm|refine J6 ?_ hm|refine D6 ?_|refine F5 ?_|refine D5 ?_|refine E5 ?_|refine A7 ?_|refine J3 ?_|refine J7 ?_)
 obtain⟨I6,hle6,hm6,hrow⟩:=(hm.front 3 rfl).freeze;exact⟨I6,[],⟨rfl,_,_,rfl,hrow⟩,hm6.left (H:= [])⟩
end
section
variable {src:List UInt8}{its:List Sp.Itm}{a:Option Addr}{cp:Nat}{xs:List Value}
end
abbrev A9d (l:List (List UInt8)) (a:Option Addr) (cp:Nat):HItem:=.row (.slice a l.length cp) 9 1 l.length (l.flatMap A9o)
abbrev D7A (l:List (List UInt8)):Value->P8->List HItem->Prop:=fun v _ H'=> ∃a cp,v=.slice a l.length cp/\H'= [A9d l a cp]
theorem C2m (I:P8) (l:List (List UInt8)) (a:Option Addr) (cp:Nat) (s:List UInt8) (hs:Sp.Srt l) (hn:l.length<=1000000000):
  CalR prog 174 #[.slice a l.length cp,str s] I [A9d l a cp] (.tuple #[nt (A9j l s),.bool (decide (s∈l))]):=
 D1k Tryz.laysNm226 s hs (by omega)
theorem D0q (I:P8) (l:List (List UInt8)) (a:Option Addr) (cp vb:Nat) (s:List UInt8) (hs:Sp.Srt l) (hn:l.length<=1000000000) (_:s∉l):
  CalM prog 175 #[.slice a l.length cp,nt (A9j l s),.slice (some ⟨vb,0,none⟩) 1 1] I [A9d l a cp,.row (.slice (some ⟨vb,0,none⟩) 1 1) 9 1 1 [str s]] (D7A (B0E s l)):=by
 obtain⟨h1,h2,h3⟩:=B4r (s:=s) hs;have h:=D1j Tryz.laysNm222 (I:=I) (ty:=9) rfl (n:=l.length) (k:=A9j l s) (vb:=vb) (cp:=cp) (a:=a) (xs:=l.flatMap A9o) s h3 (by omega) (C8z l);refine h.mono (fun v J H' _ hp=>?_)
 obtain⟨a',cp',rfl,rfl⟩:=hp;have e:=C7b h3 (fun j x hj hx=>h1 j x hj hx) (fun x hx=>h2 _ x (H7 _) hx);refine⟨a',cp',by rw[B12],?_⟩
 rw[<-C8y, <-e];show _= [HItem.row (.slice a' (B0E s l).length cp') _ 1 (B0E s l).length _]
 rw[B12]
theorem D0p (I:P8) (l:List (List UInt8)) (a:Option Addr) (cp:Nat) (s:List UInt8) (hs:Sp.Srt l) (hn:l.length<=1000000000):
  CalM prog 138 #[.slice a l.length cp,str s] I [A9d l a cp] (D7A (A63 l s)):=by
 refine CalM.of fun w E hm=>enter (N:=24) func138 rfl [(0,.slice a l.length cp),(1,str s)] A1x rfl ?_
 have hS:=C2m I l a cp s hs hn;by_cases h0:s= []\/s∈l
 ·rw[B4V h0]
  by_cases hm1:s∈l
  ·rw[decide_eq_true hm1]at hS
   repeat' (first|refine U8 (d:=10) ?_ hm (hc:=hS);clear hm;intro _ hm|refine D8 ?_|refine D6 ?_|refine O0 ?_|refine Y8 ?_|refine A0z ?_|refine E5 ?_|refine A7 ?_|refine H8 ?_|refine E8 ?_|refine A8 ?_|refine J3 ?_|refine J7 ?_|refine H5 ?_)
   exact⟨I,_,⟨a,cp,rfl,rfl⟩,hm⟩
  ·rw[decide_eq_false hm1]at hS
   have hs0:s= []:=h0.resolve_right hm1;subst hs0;repeat' (first|refine U8 (d:=10) ?_ hm (hc:=hS);clear hm;intro _ hm|refine D8 ?_|refine D6 ?_|refine N7 ?_|refine A0g ?_|refine Y8 ?_|refine E5 ?_|refine A7 ?_|refine H8 ?_|refine E8 ?_|refine A8 ?_|refine J3 ?_|refine J7 ?_|refine H5 ?_)
   exact⟨I,_,⟨a,cp,rfl,rfl⟩,hm⟩
 ·rw[C9Y h0]
  have hm1:s∉l:=fun h=>h0 (.inr h)
  have hs0:s≠ []:=fun h=>h0 (.inl h)
  rw[decide_eq_false hm1]at hS;have hI:=fun vb=>D0q I l a cp vb s hs hn hm1
  repeat' (first|refine U8 (d:=10) ?_ hm (hc:=hS);clear hm;intro _ hm|refine A5O (d:=22) ?_ hm;clear hm;intro bb _ hm|refine F8 (d:=23) ?_ hm (hp:=List.Perm.swap _ _ _) (hc:=hI bb);clear hm;rintro _ I2 _ _ ⟨a2,cp2,rfl,rfl⟩ hleI2 hm;try simp only[G5]at hm|refine D8 ?_|refine D6 ?_|refine N7 ?_|refine A0g ?_|refine Y8 ?_|refine E5 ?_|refine A7 ?_|refine E8 ?_|refine A8 ?_|refine G7 ?_|refine J3 ?_|refine J7 ?_|(refine C9 (ht:=fun _=>?_) (hf:=fun _=>?_)<;>try first|contradiction|omega))
  exact⟨I2,_,⟨a2,cp2,rfl,rfl⟩,hm⟩
abbrev C4p (bd:Nat) (q:List (List UInt8)×List (List UInt8)) (sa:Option Addr) (sp:Nat) (ca:Option Addr) (cp:Nat):List HItem:=
 [.cell bd [.slice sa q.1.length sp,.slice ca q.2.length cp] 267,A9d q.1 sa sp,A9d q.2 ca cp]
abbrev D7y (bd:Nat) (q:List (List UInt8)×List (List UInt8)):Value->P8->List HItem->Prop:=fun v _ H'=>v=.tuple #[]/\∃sa sp ca cp,H'=C4p bd q sa sp ca cp
structure EfX where
 k:Nat
 I:P8
 sa:Option Addr
 sp:Nat
 ca:Option Addr
 cp:Nat
theorem D6h {bd:Nat}:∀(n:Nat) (e:Sp.Ex),SizeOf.sizeOf e<=n->e.small->∀(I:P8) (b o tc:Nat) (ea:Option Addr) (ec:Nat) (ys:List Value) (q:List (List UInt8)×List (List UInt8)) (sa:Option Addr) (sp:Nat) (ca:Option Addr) (cp:Nat),
  Sp.Srt q.2->q.2.length+e.cnt<=1000000000->PtrI I b o tc (A0E e ea ec)->RowI I 109 6 (.slice ea e.args.length ec) e.args.length ys->Z7 I e.args ys->
  CalM prog 193 #[ptr bd,.pointer (some ⟨b,o,none⟩)] I (C4p bd q sa sp ca cp) (D7y bd (q.1,Sp.exE e q.2)):=by
 intro n;induction n with
 |zero=>intro e h;cases e;simp at h
 |succ n ih=>
 intro e hsz hsm I b o tc ea ec ys q sa sp ca cp hq hn hp hr hx;obtain⟨hal,hasm⟩:=A4u hsm;have hcnt:=Sp.Ex.cnt_eq e;refine CalM.of fun w E hm=>enter (N:=39) func193 rfl [(0,ptr bd),(1,.pointer (some ⟨b,o,none⟩))] A1x rfl ?_
 rw[D6i];obtain⟨c1,hc1⟩:∃c1,c1=if e.kind=4 then A63 q.2 e.name else q.2:=⟨_,rfl⟩
 rw[<-hc1];have hc1n:q.2.length<=c1.length/\c1.length<=q.2.length+1:=by
  have:=B3Y q.2 e.name;rw[hc1];split<;>omega
 have hc1s:Sp.Srt c1:=by
  rw[hc1];split
  ·exact B1J hq _
  ·exact hq
 repeat' (first|refine A9E 0 (fun _:EfX=> [(0,ptr bd),(1,.pointer (some ⟨b,o,none⟩))]) (fun x w'=>Mem E x.I (C4p bd (q.1,c1) x.sa x.sp x.ca x.cp) w'/\Le I x.I) ?_ ?_)
 ·refine⟨?_⟩
  by_cases k4:e.kind=4
  ·rw[if_pos k4]at hc1
   have hA:=D0p I q.2 ca cp e.name hq (by omega);rw[<-hc1]at hA;repeat' (first|refine A0S (id:=1) (hm.perm pm1_2) [0,1,2,3,4,5,6,7,8] [9] 10 (h:=?_);clear hm;intro wd hR hm|refine V8 (d:=19) ?_ hm (hc:=hA);clear hm;rintro _ I2 _ _ ⟨a2,cp2,rfl,rfl⟩ hle hm;have hleI2:=hle;try simp only[G5]at hm|refine A0k ?_ hR|refine A0G ?_ hR|refine A0K ?_;replace hm:=hR.back hm;clear hR;try simp only[G5]at hm|refine J9 ?_ hm|refine P5 hm (k:=?_);clear hm;intro _ hm;try simp only[G5]at hm|refine D8 ?_|refine O6 ?_|refine F5 ?_|refine D5 ?_|refine E5 ?_|refine A7 ?_|refine E8 ?_|refine A8 ?_|(refine C9 (ht:=fun _=>?_) (hf:=fun _=>?_)<;>try first|contradiction|omega)|refine A0x ?_|refine U5 ?_|refine N8 ?_|refine A0y ?_)
   exact A0V (⟨0,I2,sa,sp,a2,cp2⟩:EfX) (by exact⟨rfl,rfl,trivial⟩) ⟨hm.perm D8L,hleI2⟩
  ·rw[if_neg k4]at hc1
   subst hc1;repeat' (first|refine J9 ?_ hm|refine D8 ?_|refine O6 ?_|refine F5 ?_|refine D5 ?_|refine E5 ?_|refine A7 ?_|refine E8 ?_|refine A8 ?_|refine G7 ?_|(refine C9 (ht:=fun _=>?_) (hf:=fun _=>?_)<;>try first|contradiction|omega))
   exact A0V (⟨0,I,sa,sp,ca,cp⟩:EfX) (by exact⟨rfl,rfl,trivial⟩) ⟨hm,Le.refl _⟩
 ·clear hm hc1
  rintro⟨_,I1,sa1,sp1,ca1,cp1⟩ w1 ⟨hm,hle1⟩;dsimp only at hm hle1 |-;have hp1:=hp.le hle1;repeat' (first|refine J9 ?_ hm|refine D8 ?_|refine G6 ?_|refine F5 ?_|refine D5 ?_|refine E5 ?_|refine A7 ?_|refine E8 ?_|refine A8 ?_|refine F6 ?_)
  refine U3 (fun x:EfX=> [(0,ptr bd),(1,.pointer (some ⟨b,o,none⟩)),(26,nt e.args.length),(27,nt x.k)])
   (fun x w'=>Mem E x.I (C4p bd (q.1,A64 (e.args.take x.k) c1) x.sa x.sp x.ca x.cp) w'/\Le I x.I/\x.k<=e.args.length) (fun x=>e.args.length-x.k) ⟨0,I1,sa1,sp1,ca1,cp1⟩
   (by exact⟨rfl,rfl,rfl,rfl,trivial⟩) ⟨by dsimp only;rw[Z9,A64];exact hm,hle1,H9 _⟩ ?_
  clear hm hle1 hp1;rintro⟨k,I2,sa2,sp2,ca2,cp2⟩ w2 ⟨hm,hle2,hk⟩;dsimp only at hm hle2 hk |-;have hp2:=hp.le hle2;have hrow:=hr.le hle2;by_cases hlt:k<e.args.length
  ·have hg:e.args[k]?=some e.args[k]:=F9 hlt
   have hsz2:=A3o (O1 hlt);have hsm2:=A2m hasm hg;obtain⟨ea2,ec2,ys2,hc2,hr2,hx2⟩:=(hx.get hg).out;generalize e.args[k]=y at hg hsz2 hsm2 hc2 hr2 hx2;have hst:=C8p hg c1;have hcy:=A8O hg;have hnn:=C4O (e.args.take k) c1;have hss:=B7h (e.args.take k) hc1s;generalize A64 (e.args.take k) c1=c2 at hm hst hnn hss;have hcl:=fun b o tc (hpt:PtrI I2 b o tc (A0E y ea2 ec2))=>ih y (by omega) hsm2 I2 b o tc ea2 ec2 ys2 (q.1,c2) sa2 sp2 ca2 cp2 hss (by dsimp only;omega) hpt (hr2.le hle2) (Z7.le hle2 _ _ hx2)
   repeat' (first|refine O7 (d:=36) ?_ (hr:=hrow);intro bt ot hpt;rw[show ((k:Int).toNat *6)=k *6 from rfl,hc2]at hpt|refine F8 (d:=37) ?_ hm (hc:=hcl _ _ _ hpt);clear hm;rintro _ I3 _ _ ⟨rfl,sa3,sp3,ca3,cp3,rfl⟩ hle hm;have hleI3:=hle;try simp only[G5]at hm|refine J9 ?_ hm|refine D8 ?_|refine D6 ?_|refine J8 ?_|refine F5 ?_|refine O9 ?_|refine D5 ?_|refine E5 ?_|refine A7 ?_|refine D7 ?_|refine E8 ?_|refine A8 ?_|refine F6 ?_|refine G7 ?_|(refine C9 (ht:=fun _=>?_) (hf:=fun _=>?_)<;>try first|contradiction|omega))
   exact L6 (⟨k+1,I3,sa3,sp3,ca3,cp3⟩:EfX) (by exact⟨rfl,rfl,rfl,rfl,trivial⟩) ⟨by dsimp only;rw[hst];exact hm,hle2.trans hleI3,by dsimp only;omega⟩ (by dsimp only;omega)
  ·obtain rfl:k=e.args.length:=by omega
   rw[V7]at hm;repeat' (first|refine J8 ?_|refine E5 ?_|refine A7 ?_|refine H6 ?_|refine G9 ?_|refine E8 ?_|refine A8 ?_|refine O8 ?_|refine A0p ?_|(refine C9 (ht:=fun _=>?_) (hf:=fun _=>?_)<;>try first|contradiction|omega))
   exact⟨I2,_,⟨rfl,sa2,sp2,ca2,cp2,rfl⟩,hm⟩
theorem D4W {I:P8}{x:Sp.Stm}{b o tc ec:Nat}{ea:Option Addr}{v1 v2:Value} (hp:PtrI I b o tc (A2H x.kind x.name x.at_ x.label x.opn x.e ea ec v1 v2 x.fr x.to)):PtrI I b (o+5) tc (A0E x.e ea ec):=
 hp.sub (cs':=A0E x.e ea ec) 5 (fun j u hj=>by
  match j,hj with
  |0,hj=>exact hj
  |1,hj=>exact hj
  |2,hj=>exact hj
  |3,hj=>exact hj
  |4,hj=>exact hj
  |5,hj=>exact hj
  |j+6,hj=>cases hj)
theorem D3L {bd:Nat}:∀(n:Nat) (l:List Sp.Stm),SizeOf.sizeOf l<=n->l.length<=64->A0j l->∀(I:P8) (ab:Option Addr) (cb:Nat) (xb:List Value) (q:List (List UInt8)×List (List UInt8)) (sa:Option Addr) (sp:Nat) (ca:Option Addr) (cp:Nat),
  Sp.Srt q.1/\Sp.Srt q.2->q.1.length+q.2.length+U1 l<=1000000000->RowI I 111 15 (.slice ab l.length cb) l.length xb->V4 I l xb->
  CalM prog 173 #[ptr bd,.slice ab l.length cb] I (C4p bd q sa sp ca cp) (D7y bd (A2w l q)):=by
 intro n;induction n with
 |zero=>intro l h;cases l<;>simp at h
 |succ n ih=>
 intro l hsz hll hsm I ab cb xb q sa sp ca cp hq hn hr hx;refine CalM.of fun w E hm=>enter (N:=49) func173 rfl [(0,ptr bd),(1,.slice ab l.length cb)] A1x rfl ?_
 repeat' (first|refine D8 ?_|refine G6 ?_|refine E5 ?_|refine A7 ?_|refine E8 ?_|refine A8 ?_|refine F6 ?_)
 refine U3 (fun x:EfX=> [(0,ptr bd),(1,.slice ab l.length cb),(7,nt l.length),(8,nt x.k)])
  (fun x w'=>Mem E x.I (C4p bd (A2w (l.take x.k) q) x.sa x.sp x.ca x.cp) w'/\Le I x.I/\x.k<=l.length) (fun x=>l.length-x.k) ⟨0,I,sa,sp,ca,cp⟩
  (by exact⟨rfl,rfl,rfl,rfl,trivial⟩) ⟨by dsimp only;rw[Z9,A2w];exact hm,Le.refl _,H9 _⟩ ?_
 clear hm;rintro⟨k,I1,sa1,sp1,ca1,cp1⟩ w1 ⟨hm,hle1,hk⟩;dsimp only at hm hle1 hk |-;have hrow:=hr.le hle1;by_cases hlt:k<l.length
 ·have hg:l[k]?=some l[k]:=F9 hlt
  have hme:=A3v (O1 hlt);obtain⟨cs,hcs⟩:∃cs,(xb.drop (k *15)).take 15=cs:=⟨_,rfl⟩;have hat:=hx.get hg;rw[hcs]at hat
  have hsm2:=A1W hsm hg;generalize l[k]=y at hg hme hat hsm2;have hst:=C6a hg q;have hcy:=A6z hg;have hnn:=B2Q (l.take k) q;have hss:=A8E (l.take k) hq;generalize A2w (l.take k) q=r at hm hst hnn hss;obtain⟨s1,s2,s3,s4,s5⟩:=A15 hsm2;obtain⟨z1,z2⟩:=A5n (s:=y);have hcnt:=Sp.Stm.cnt_eq y;obtain⟨ea,ec,ex,a1',c1,xs1,a2',c2,xs2,rfl,hr3,hx3,hr4,hx4,hr5,hx5⟩:=hat.out;rw[D4Y]at hst;obtain⟨r1,hr1⟩:∃r1,r1=if y.kind=5 then A63 r.1 y.name else r.1:=⟨_,rfl⟩
  rw[<-hr1]at hst;have hr1n:r.1.length<=r1.length/\r1.length<=r.1.length+1:=by
   have:=B3Y r.1 y.name;rw[hr1];split<;>omega
  have hr1s:Sp.Srt r1:=by
   rw[hr1];split
   ·exact B1J hss.1 _
   ·exact hss.1
  repeat' (first|refine O7 (d:=13) ?_ (hr:=hrow);intro bt ot hpt;rw[show ((k:Int).toNat *15)=k *15 from rfl,hcs]at hpt|refine A9E 4 (fun _:EfX=> [(0,ptr bd),(1,.slice ab l.length cb),(5,.pointer (some ⟨bt,ot,none⟩)),(7,nt l.length),(8,nt k)]) (fun x w'=>Mem E x.I (C4p bd (r1,r.2) x.sa x.sp x.ca x.cp) w'/\Le I1 x.I) ?_ ?_|refine D8 ?_|refine D6 ?_|refine J8 ?_|refine E5 ?_|refine A7 ?_|refine E8 ?_|refine A8 ?_|refine F6 ?_|refine G7 ?_|(refine C9 (ht:=fun _=>?_) (hf:=fun _=>?_)<;>try first|contradiction|omega))
  ·refine⟨?_⟩
   by_cases k5:y.kind=5
   ·rw[if_pos k5]at hr1
    have hA:=D0p I1 r.1 sa1 sp1 y.name hss.1 (by omega);rw[<-hr1]at hA;repeat' (first|refine A0S (id:=5) (hm.perm pm1_1) [0,1,2,3,4,5,6,7,8] [9] 10 (h:=?_);clear hm;intro wd hR hm|refine V8 (d:=28) ?_ hm (hc:=hA);clear hm;rintro _ I2 _ _ ⟨a2,cp2,rfl,rfl⟩ hle hm;have hleI2:=hle;try simp only[G5]at hm|refine A0k ?_ hR|refine A0G ?_ hR|refine A0K ?_;replace hm:=hR.back hm;clear hR;try simp only[G5]at hm|refine J9 ?_ hm|refine P5 hm (k:=?_);clear hm;intro _ hm;try simp only[G5]at hm|refine D8 ?_|refine O6 ?_|refine F5 ?_|refine D5 ?_|refine E5 ?_|refine A7 ?_|refine E8 ?_|refine A8 ?_|(refine C9 (ht:=fun _=>?_) (hf:=fun _=>?_)<;>try first|contradiction|omega)|refine A0x ?_|refine U5 ?_|refine N8 ?_|refine A0y ?_)
    exact A0V (⟨0,I2,a2,cp2,ca1,cp1⟩:EfX) (by exact⟨rfl,rfl,rfl,rfl,rfl,trivial⟩) ⟨hm.swap,hleI2⟩
   ·rw[if_neg k5]at hr1
    subst hr1;repeat' (first|refine J9 ?_ hm|refine D8 ?_|refine O6 ?_|refine F5 ?_|refine D5 ?_|refine E5 ?_|refine A7 ?_|refine E8 ?_|refine A8 ?_|refine G7 ?_|(refine C9 (ht:=fun _=>?_) (hf:=fun _=>?_)<;>try first|contradiction|omega))
    exact A0V (⟨0,I1,sa1,sp1,ca1,cp1⟩:EfX) (by exact⟨rfl,rfl,rfl,rfl,rfl,trivial⟩) ⟨hm,Le.refl _⟩
  ·clear hm hr1
   rintro⟨_,I2,sa2,sp2,ca2,cp2⟩ w2 ⟨hm,hle2⟩;dsimp only at hm hle2 |-;have hpt2:=hpt.le hle2;have hpe:=D4W hpt2;have hE:=D6h (bd:=bd) _ y.e (H7 _) s1 I2 bt (ot+5) 111 ea ec ex (r1,r.2) sa2 sp2 ca2 cp2 hss.2 (by dsimp only;omega) hpe ((hr3.le hle1).le hle2) (Z7.le hle2 _ _ (Z7.le hle1 _ _ hx3));have hnE:=D0u y.e r.2;have hsE:=C0w y.e hss.2;dsimp only at hE;generalize Sp.exE y.e r.2=r2 at hE hnE hsE hst;have hT:=fun (J:P8) (m:Le I2 J) (sa:Option Addr) (sp:Nat) (ca:Option Addr) (cp:Nat)=>ih y.thn (by omega) s2 s3 J a1' c1 xs1 (r1,r2) sa sp ca cp ⟨hr1s,hsE⟩ (by dsimp only;omega) (((hr4.le hle1).le hle2).le m) (V4.le m _ _ (V4.le hle2 _ _ (V4.le hle1 _ _ hx4)))
   have hnT:=B2Q y.thn (r1,r2);have hsT:=A8E y.thn (q:=(r1,r2)) ⟨hr1s,hsE⟩;dsimp only at hnT;generalize A2w y.thn (r1,r2)=r3 at hT hnT hsT hst;have hL:=fun (J:P8) (m:Le I2 J) (sa:Option Addr) (sp:Nat) (ca:Option Addr) (cp:Nat)=>ih y.els (by omega) s4 s5 J a2' c2 xs2 r3 sa sp ca cp hsT (by omega) (((hr5.le hle1).le hle2).le m) (V4.le m _ _ (V4.le hle2 _ _ (V4.le hle1 _ _ hx5)))
   rw[<-hst]at hL;repeat' (first|refine F8 (d:=35) ?_ hm (hc:=hE);clear hm;rintro _ I3 _ _ ⟨rfl,sa3,sp3,ca3,cp3,rfl⟩ hle hm;have hleI3:=hle;try simp only[G5]at hm;replace hpt2:=hpt2.le hleI3|refine F8 (d:=41) ?_ hm (hc:=hT I3 hleI3 _ _ _ _);clear hm;rintro _ I4 _ _ ⟨rfl,sa4,sp4,ca4,cp4,rfl⟩ hle hm;have hleI4:=hle;try simp only[G5]at hm;replace hpt2:=hpt2.le hleI4|refine F8 (d:=47) ?_ hm (hc:=hL I4 (hleI3.trans hleI4) _ _ _ _);clear hm;rintro _ I5 _ _ ⟨rfl,sa5,sp5,ca5,cp5,rfl⟩ hle hm;have hleI5:=hle;try simp only[G5]at hm|refine J9 ?_ hm|refine D8 ?_|refine F5 ?_|refine O9 ?_|refine D5 ?_|refine E5 ?_|refine A7 ?_|refine D7 ?_|refine E8 ?_|refine A8 ?_)
   exact L6 (⟨k+1,I5,sa5,sp5,ca5,cp5⟩:EfX) (by exact⟨rfl,rfl,rfl,rfl,trivial⟩) ⟨hm,(((hle1.trans hle2).trans hleI3).trans hleI4).trans hleI5,by dsimp only;omega⟩ (by dsimp only;omega)
 ·obtain rfl:k=l.length:=by omega
  rw[V7]at hm;repeat' (first|refine J8 ?_|refine E5 ?_|refine A7 ?_|refine H6 ?_|refine G9 ?_|refine E8 ?_|refine A8 ?_|refine O8 ?_|refine A0p ?_|(refine C9 (ht:=fun _=>?_) (hf:=fun _=>?_)<;>try first|contradiction|omega))
  exact⟨I1,_,⟨rfl,sa1,sp1,ca1,cp1,rfl⟩,hm⟩
theorem _root_.Go.Fw.pmEg {x y z:HItem}{r:List HItem}:(x::y::z::r).Perm (z::x::y::r):=(A1o (l₁:= [x,y]) (l₂:= [z])).append_right r
abbrev D7D (it:Sp.Itm):Value->P8->List HItem->Prop:=fun v _ H'=> ∃sa sp ca cp,v=.tuple #[.slice sa (A9Q it).1.length sp,.slice ca (A9Q it).2.length cp]/\H'= [A9d (A9Q it).1 sa sp,A9d (A9Q it).2 ca cp]
theorem D7V (it:Sp.Itm) (hs:it.fit) (hcn:U1 it.body<=400000000) (I:P8) (cs:List Value) (hi:A67 I it cs):CalM prog 137 #[.agg cs.toArray] I [] (D7D it):=by
 obtain⟨ap,cp,as_,cs',ab,cb,ad,cd,xb,rfl,r1,r2,r3,r4,r5⟩:=hi;have hsb:=hs.body;have hS:=fun (J:P8) (m:Le I J) (bd:Nat)=>D3L (bd:=bd) _ it.body (H7 _) (by omega) hs.stms J ab cb xb ([],[]) none 0 none 0 ⟨Sp.Srt.nil,Sp.Srt.nil⟩ (by simp;omega) (r3.le m) (V4.le m _ _ r4)
 rw[show A2w it.body ([],[])=A9Q it from rfl]at hS;refine CalM.of fun w E hm=>enter (N:=19) func137 rfl [(0,.agg (A1J it.kind it.name it.label (.slice ap it.params.length cp) (.slice as_ it.sends.length cs') (.slice ab it.body.length cb) it.at_ it.size it.mark (.slice ad it.diags.length cd)).toArray)] A0Z rfl ?_
 obtain⟨r,hr⟩:∃r,r=A9Q it:=⟨_,rfl⟩;rw[<-hr]at hS;repeat' (first|refine A0U 2 ?_|refine A0T (d:=1) ?_ hm;clear hm;intro b1 _ hm|refine A0T (d:=6) ?_ hm;clear hm;intro b6 _ hm|refine D6 ?_|refine Y0 ?_|refine E5 ?_|refine A7 ?_|refine E8 ?_|refine A8 ?_)
 have hm:=((hm.nil 9 1).nil 9 1).perm pmEg;refine⟨?_⟩
 repeat' (first|refine F8 (d:=10) ?_ hm (hp:=pm3_0) (hc:=hS I (Le.refl _) b6);clear hm;rintro _ I2 _ _ ⟨rfl,sa2,sp2,ca2,cp2,rfl⟩ hleI2 hm;try simp only[G5]at hm|refine J6 ?_ hm|refine V3 ?_ hm|refine D8 ?_|refine D5 ?_|refine E5 ?_|refine A7 ?_|refine E8 ?_|refine A8 ?_|refine J3 ?_|refine A4E ?_|refine U6 ?_|refine A0s ?_;intro _ hkq;replace hm:=hm.kept0 hkq;clear hkq|refine Y4 ?_|refine A1a ?_|refine Q9 ?_|refine L8 ?_)
 subst hr;exact⟨I2,_,⟨sa2,sp2,ca2,cp2,rfl,rfl⟩,hm.tl.left (H:= [_,_])⟩
end Go.Proofs
