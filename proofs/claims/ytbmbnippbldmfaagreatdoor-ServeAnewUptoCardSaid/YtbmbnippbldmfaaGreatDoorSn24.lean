/- Own work. -/
import Derived.Test.YtbmbnippbldmfaaGreatDoorSn23
set_option maxHeartbeats 64000000
namespace Go.Sp
theorem C1H (d:Pl) (l:List Pl) (at_:Int):B9r (d::l) at_=match decide (d.at_<=at_) && decide (at_<d.at_+d.name.length) with|true=>some d|false=>B9r l at_:=by
 rw[B9r,A3J];rfl
theorem ItN.st0 {src:List UInt8}{it:Itm} (h:ItN src it):A8F src it:=by
 obtain⟨_,_,p,q,h3⟩:=h;exact⟨p,q,h3⟩
theorem C5h {src:List UInt8}{its:List Itm} (h:∀x∈its,ItN src x) (hs:src.length<=4000):∀d∈A3n its,0<=d.at_/\d.at_+d.name.length<=4000:=fun d hd=>by
 obtain⟨_,p,h1,h2,_⟩:=B7l (fun x hx=>(h x hx).st0) d hd;omega
theorem B0u (us vs:List Us) (l:List Int) (more:Int) (k:Nat):A5C us vs l more (k+1)=(A5C us vs l more k && (decide (A7e l more (us.getD k ⟨0,0,0⟩).fr=(vs.getD k ⟨0,0,0⟩).fr) && decide (A7e l more (us.getD k ⟨0,0,0⟩).df=(vs.getD k ⟨0,0,0⟩).df))):=by
 rw[A5C,A1O,A5K, <-A5C];simp
theorem B48 {us vs:List Us} (l:List Int) (more:Int) {k:Nat}{u v:Us} (hu:us[k]?=some u) (hv:vs[k]?=some v):A5C us vs l more (k+1)=(A5C us vs l more k && (decide (A7e l more u.fr=v.fr) && decide (A7e l more u.df=v.df))):=by
 have e1:us.getD k ⟨0,0,0⟩=u:=by rw[O4,hu];rfl
 have e2:vs.getD k ⟨0,0,0⟩=v:=by rw[O4,hv];rfl
 rw[B0u,e1,e2]
theorem A9I {us vs:List Us}{l:List Int}{more:Int}{k:Nat} (h:A5C us vs l more (k+1)=false):∀n,k+1<=n->A5C us vs l more n=false:=by
 intro n hn;induction n with
 |zero=>omega
 |succ n ih=>
  rcases U0 k n with h1|h1
  ·rw[B0u,ih (by omega)];rfl
  ·obtain rfl:n=k:=by omega
   exact h
theorem C7J {src:List UInt8}{its:List Itm} (h:∀x∈its,ItN src x) (hs:src.length<=4000):∀u∈A1Z its,(0<=u.fr/\u.fr<=4000)/\0<=u.df/\u.df<=4000:=fun u hu=>by
 obtain⟨f,d,n,h1,h2,h3,h4,h5,h6⟩:=B8b (fun x hx=>(h x hx).st0) u hu;have h7:=h5.1;have h8:=h6.1;omega
theorem B1g {src:List UInt8}{its:List Itm} (h:AllOk src its):∀k,k<=its.length->(A6V its k).length<=k *2000000000
 |0,_=>by rw[A6V];simp
 |k+1,hk=>by
  rw[B2O,E9,B3Y,A0g];have:=B1g h k (by omega);have:=B7M h (i:=k) (by omega);omega
end Go.Sp
namespace Go.Proofs
open Go.Proofs.Tryz
open Go.Sp
open Go.Fw
structure RrP where
 k:Nat
 a:Option Addr
 cp:Nat
theorem C8P (l:List Int) (d:Int):l.flatMap B0d++ [.int .i64 d]=(l++ [d]).flatMap B0d:=by rw[X9];simp
theorem C1P {src:List UInt8}{its:List Sp.Itm}{a:Option Addr}{cp:Nat}{xs:List Value}{bf:Nat} (df:Int) (I:P6) (hpf:PtrI I bf 0 25 [.slice a its.length cp]) (h:FE I its a cp xs) (hlen:src.length<=4000) (hN:∀x∈its,Sp.ItN src x) (hfw:(A1Z its).length<=100000000000):
  CalM prog 53 #[ptr bf,.int .i64 df] I [] (fun v I' H'=>H'= []/\∃ma mp,v=.slice ma (A35 its df).length mp/\RowI I' 3 1 (.slice ma (A35 its df).length mp) (A35 its df).length ((A35 its df).flatMap B0d)):=by
 refine CalM.of fun w E hm=>enter (N:=33) func53 rfl [(0,ptr bf),(1,.int .i64 df)] A0T rfl ?_
 have hc:=B5x I h hlen hN;rw[A35];generalize A1Z its=us at hc hfw |-;repeat' (first|refine A2R (d:=9) ?_ hm;clear hm;intro b9 _ hm|refine F6 (d:=13) ?_ hm (hp:=pm0) (hc:=hc);clear hm;rintro _ I2 _ _ ⟨rfl,ua,up,rfl,hrow⟩ hleI2 hm;try simp only[F9]at hm|refine X3 ?_ hm|refine D8 ?_|refine D6 ?_|refine G7 ?_|refine E5 ?_|refine D9 ?_|refine A7 ?_|refine E8 ?_|refine A8 ?_|refine F5 ?_)
 have hm:Mem E I2 [B0h (df::A3H (us.take 0) df) (some ⟨b9,0,none⟩) 1] _:=hm;refine U2 (fun x:RrP=> [(0,ptr bf),(1,.int .i64 df),(5,.slice x.a (df::A3H (us.take x.k) df).length x.cp),(13,.slice ua us.length up),(14,nt us.length),(15,nt x.k)])
  (fun x w'=>Mem E I2 [B0h (df::A3H (us.take x.k) df) x.a x.cp] w'/\x.k<=us.length) (fun x=>us.length-x.k) ⟨0,some ⟨b9,0,none⟩,1⟩
  (by exact⟨rfl,rfl,rfl,rfl,rfl,rfl,trivial⟩) ⟨hm,H7 _⟩ ?_
 clear hm;rintro⟨k,a1,cp1⟩ w1 ⟨hm,hk⟩;dsimp only at hm hk |-;by_cases hlt:k<us.length
 ·have hg:us[k]?=some us[k]:=G6 hlt
  have hst:=B8O hg df;have hgk:us[((k:Nat):Int).toNat]?=some us[k]:=hg;have hln:(A3H (us.take k) df).length<=k:=by
   have h1:=A3P (fun u:Sp.Us=>decide (u.df=df)) (us.take k);rw[Q4]at h1;rw[A3H,A0g];omega
  generalize us[k]=u at hg hst hgk;generalize hpre:df::A3H (us.take k) df=pre at hm |-;have hpl:pre.length=(A3H (us.take k) df).length+1:=by rw[<-hpre];rfl
  by_cases hu:u.df=df
  ·rw[if_pos hu]at hst
   have hn2:df::A3H (us.take (k+1)) df=pre++ [u.fr]:=by rw[hst, <-hpre];rfl
   repeat' (first|refine Q9 (d:=17) (enc:=A4b) (z:=u) ?_ (hr:=hrow) (he:=fun _=>rfl) (hz:=hgk);intro bt ot hpt|refine Y5 (d:=7) ?_ hm;clear hm;intro b7 _ hm|refine A2l (d:=27) ?_ hm;clear hm;intro a27 cp27 _ _ hm;try simp only[F9]at hm|refine J4 ?_ hm|refine X3 ?_ hm|refine D8 ?_|refine D6 ?_|refine J6 ?_|refine N9 ?_|refine P7 ?_|refine C9 ?_|refine D9 ?_|refine A7 ?_|refine D7 ?_|refine E8 ?_|refine A8 ?_|refine F5 ?_|refine G5 ?_|(refine D5 (ht:=fun _=>?_) (hf:=fun _=>?_)<;>try first|contradiction|omega))
   have hm:Mem E I2 [.row (.slice a27 (pre.length+1) cp27) 3 1 (pre.length+1) (pre.flatMap B0d++ [.int .i64 u.fr])] _:=hm.tl;rw[C8P]at hm;have e1:(pre++ [u.fr]).length=pre.length+1:=E9;exact L9 (⟨k+1,a27,cp27⟩:RrP) (by exact⟨rfl,rfl,by rw[hn2,e1];rfl,rfl,rfl,rfl,trivial⟩) ⟨by dsimp only;rw[hn2];unfold B0h;rw[e1];exact hm,by dsimp only;omega⟩ (by dsimp only;omega)
  ·rw[if_neg hu,J3]at hst
   repeat' (first|refine Q9 (d:=17) (enc:=A4b) (z:=u) ?_ (hr:=hrow) (he:=fun _=>rfl) (hz:=hgk);intro bt ot hpt|refine Y5 (d:=7) ?_ hm;clear hm;intro b7 _ hm|refine J4 ?_ hm|refine X3 ?_ hm|refine D8 ?_|refine J6 ?_|refine N9 ?_|refine P7 ?_|refine C9 ?_|refine D9 ?_|refine A7 ?_|refine D7 ?_|refine E8 ?_|refine A8 ?_|refine F5 ?_|refine G5 ?_|(refine D5 (ht:=fun _=>?_) (hf:=fun _=>?_)<;>try first|contradiction|omega))
   all_goals exact L9 (⟨k+1,a1,cp1⟩:RrP) (by exact⟨rfl,rfl,by rw[hst,hpre];rfl,rfl,rfl,rfl,trivial⟩) ⟨by dsimp only;rw[hst,hpre];exact hm.tl,by dsimp only;omega⟩ (by dsimp only;omega)
 ·obtain rfl:k=us.length:=by omega
  rw[V5]at hm |-;generalize hl:df::A3H us df=l at hm |-;have hl0:l≠ []:=by rw[<-hl];simp
  have hll:l.length<=1000000000000:=by
   have h1:=A3P (fun u:Sp.Us=>decide (u.df=df)) us;rw[<-hl,F8,A3H,A0g];omega
  have hS:=C5g (I:=I2) (a:=a1) (cp:=cp1) hl0 hll;have hsl:(l.mergeSort fun x y=>decide (x<=y)).length=l.length:=List.length_mergeSort l;generalize (l.mergeSort fun x y=>decide (x<=y))=m at hS hsl |-;have hC:=fun (I:P6)=>B84 (I:=I) (l:=m) (a:=a1) (cp:=cp1) (fun e=>hl0 (A00 (by rw[<-hsl,e];rfl))) (by omega)
  simp only[B0h,hsl]at hC;repeat' (first|refine F6 (d:=30) ?_ hm (hp:=pm1_0) (hc:=hS);clear hm;rintro _ I3 _ _ ⟨rfl,rfl⟩ hleI3 hm;try simp only[F9]at hm|refine F6 (d:=32) ?_ hm (hp:=pm1_0) (hc:=hC I3);clear hm;rintro _ I4 _ _ ⟨b32,rfl,rfl⟩ hleI4 hm;try simp only[F9]at hm|refine D8 ?_|refine D6 ?_|refine J6 ?_|refine D9 ?_|refine A7 ?_|refine H9 ?_|refine H5 ?_|refine E8 ?_|refine A8 ?_|refine P9 ?_|refine H8 ?_|refine J9 ?_|(refine D5 (ht:=fun _=>?_) (hf:=fun _=>?_)<;>try first|contradiction|omega))
  obtain⟨I7,hle7,hm7,hrow7⟩:=hm.freeze;exact⟨I7,[],⟨rfl,_,_,rfl,hrow7⟩,hm7⟩
def C0S:Option Int->Value
 |some d=> .tuple #[.int .i64 d,.bool true]
 |none=> .tuple #[.int .i64 0,.bool false]
section
variable {src:List UInt8}{its:List Sp.Itm}{a:Option Addr}{cp:Nat}{xs:List Value}
theorem C34 (at_:Int) (I:P6) (h:FE I its a cp xs) (hlen:src.length<=4000) (hN:∀x∈its,Sp.ItN src x) (hfw:(A1Z its).length<=100000000000):
  CalM prog 25 #[.agg [.slice a its.length cp].toArray,.int .i64 at_] I [] (fun v _ H'=>v=C0S (B6N its at_)/\H'= []):=by
 refine CalM.of fun w E hm=>enter (N:=42) func25 rfl [(0,.agg [.slice a its.length cp].toArray),(1,.int .i64 at_)] A0T rfl ?_
 have hA:=fun (J:P6) (m:Le I J)=>C8Q at_ J (h.le m) hlen hN hfw
 have hM:=fun (J:P6) (m:Le I J) (bf:Nat) (hp:PtrI J bf 0 25 [.slice a its.length cp])=>C0u J hp (h.le m) (fun x hx=>Sp.ItN.pl hlen (hN x hx))
 have hin:=C5h hN hlen;have hfew:=A9v (fun x hx=>Sp.ItN.pl hlen (hN x hx));have hif:=h.few;rw[B6N];generalize A3n its=md at hM hin hfew |-;repeat' (first|refine A0K (d:=2) ?_ hm;clear hm;intro b2 _ hm|refine Y1 ?_ hm|refine D8 ?_|refine D6 ?_|refine D9 ?_|refine A7 ?_|refine E8 ?_|refine A8 ?_)
 obtain⟨I1,hle1,hm1,hpf⟩:=hm.freezeO;clear hm;have hm:=hm1;clear hm1;cases hu:B2b (A1Z its) at_ with
 |some u=>
  rw[hu]at hA;repeat' (first|refine F6 (d:=13) ?_ hm (hp:=pm0) (hc:=hA I1 hle1);clear hm;rintro _ I2 _ _ ⟨rfl,rfl⟩ hleI2 hm;simp only[C7I];try simp only[F9]at hm|refine Y5 (d:=6) ?_ hm;clear hm;intro b6 _ hm|refine J4 ?_ hm|refine D8 ?_|refine D6 ?_|refine W9 ?_|refine C9 ?_|refine D9 ?_|refine A7 ?_|refine G8 ?_|refine E8 ?_|refine A8 ?_|refine H8 ?_|refine A1T ?_|refine H6 ?_)
  exact⟨I2,[],⟨rfl,rfl⟩,hm.left (H:= [])⟩
 |none=>
  rw[hu]at hA;dsimp only
  repeat' (first|refine F6 (d:=13) ?_ hm (hp:=pm0) (hc:=hA I1 hle1);clear hm;rintro _ I2 _ _ ⟨rfl,rfl⟩ hleI2 hm;simp only[C7I];try simp only[F9]at hm|refine F6 (d:=19) ?_ hm (hp:=pm0) (hc:=hM I2 (hle1.trans hleI2) _ (hpf.le hleI2));clear hm;rintro _ I3 _ _ ⟨rfl,ma,mp,rfl,hrow⟩ hleI3 hm;try simp only[F9]at hm|refine Y5 (d:=6) ?_ hm;clear hm;intro b6 _ hm|refine D8 ?_|refine D6 ?_|refine G7 ?_|refine W9 ?_|refine D9 ?_|refine A7 ?_|refine E8 ?_|refine A8 ?_|refine F5 ?_|refine G5 ?_|refine F7 ?_)
  replace hm:=hm.left (H:= []);refine U2 (fun k:Nat=> [(1,.int .i64 at_),(19,.slice ma md.length mp),(20,nt md.length),(21,nt k)])
   (fun k w'=>Mem E I3 [] w'/\k<=md.length/\B9r md at_=B9r (md.drop k) at_) (fun k=>md.length-k) 0
   (by exact⟨rfl,rfl,rfl,rfl,trivial⟩) ⟨hm,H7 _,rfl⟩ ?_
  clear hm;rintro k w1 ⟨hm,hk,hf⟩;try dsimp only at hm hk hf |-
  by_cases hlt:k<md.length
  ·have hg:md[k]?=some md[k]:=G6 hlt
   have hd:md.drop k=md[k]::md.drop (k+1):=A6t hlt;rw[hd]at hf;have hgk:md[((k:Nat):Int).toNat]?=some md[k]:=hg;have hi:=hin _ (O7 hlt);generalize md[k]=d at hg hf hgk hi;rw[C1H]at hf;by_cases hd1:d.at_<=at_
   ·by_cases hd2:at_<d.at_+d.name.length
    ·rw[decide_eq_true hd1,decide_eq_true hd2]at hf
     repeat' (first|refine Q9 (d:=23) (enc:=A5H) (z:=d) ?_ (hr:=hrow) (he:=fun _=>rfl) (hz:=hgk);intro bt ot hpt|refine Y5 (d:=9) ?_ hm;clear hm;intro b9 _ hm|refine J4 ?_ hm|refine X3 ?_ hm|refine D8 ?_|refine D6 ?_|refine O9 ?_|refine J6 ?_|refine A6I ?_|refine A0G ?_|refine P7 ?_|refine C9 ?_|(refine N8 (h1:=fun _=>?_) (h0:=fun _=>?_)<;>try first|contradiction|omega)|refine D9 ?_|refine A7 ?_|refine G8 ?_|refine O1 ?_|refine E8 ?_|refine A8 ?_|refine F5 ?_|refine G5 ?_|refine H8 ?_|refine A1T ?_|(refine D5 (ht:=fun _=>?_) (hf:=fun _=>?_)<;>try first|contradiction|omega))
     exact⟨I3,[],⟨by rw[hf];rfl,rfl⟩,hm.left (H:= [])⟩
    ·rw[decide_eq_true hd1,decide_eq_false hd2]at hf
     repeat' (first|refine Q9 (d:=23) (enc:=A5H) (z:=d) ?_ (hr:=hrow) (he:=fun _=>rfl) (hz:=hgk);intro bt ot hpt|refine Y5 (d:=9) ?_ hm;clear hm;intro b9 _ hm|refine J4 ?_ hm|refine X3 ?_ hm|refine D8 ?_|refine O9 ?_|refine J6 ?_|refine A6I ?_|refine A0G ?_|refine P7 ?_|refine C9 ?_|(refine N8 (h1:=fun _=>?_) (h0:=fun _=>?_)<;>try first|contradiction|omega)|refine D9 ?_|refine A7 ?_|refine D7 ?_|refine E8 ?_|refine A8 ?_|refine F5 ?_|refine G5 ?_|(refine D5 (ht:=fun _=>?_) (hf:=fun _=>?_)<;>try first|contradiction|omega))
     all_goals exact L9 (k+1:Nat) (by exact⟨rfl,rfl,rfl,rfl,trivial⟩) ⟨hm.tl,by omega,hf⟩ (by omega)
   ·rw[decide_eq_false hd1,Bool.false_and]at hf
    repeat' (first|refine Q9 (d:=23) (enc:=A5H) (z:=d) ?_ (hr:=hrow) (he:=fun _=>rfl) (hz:=hgk);intro bt ot hpt|refine Y5 (d:=9) ?_ hm;clear hm;intro b9 _ hm|refine J4 ?_ hm|refine X3 ?_ hm|refine D8 ?_|refine L8 ?_|refine J6 ?_|refine A6I ?_|refine P7 ?_|refine C9 ?_|refine A0N ?_|(refine N8 (h1:=fun _=>?_) (h0:=fun _=>?_)<;>try first|contradiction|omega)|refine D9 ?_|refine A7 ?_|refine D7 ?_|refine E8 ?_|refine A8 ?_|refine F5 ?_|refine G5 ?_|refine F7 ?_|(refine D5 (ht:=fun _=>?_) (hf:=fun _=>?_)<;>try first|contradiction|omega))
    all_goals exact L9 (k+1:Nat) (by exact⟨rfl,rfl,rfl,rfl,trivial⟩) ⟨hm.tl,by omega,hf⟩ (by omega)
  ·obtain rfl:k=md.length:=by omega
   rw[A6D]at hf;repeat' (first|refine D6 ?_|refine J6 ?_|refine D9 ?_|refine A7 ?_|refine H9 ?_|refine H5 ?_|refine E8 ?_|refine A8 ?_|refine P9 ?_|refine H8 ?_|refine A1T ?_|(refine D5 (ht:=fun _=>?_) (hf:=fun _=>?_)<;>try first|contradiction|omega))
   exact⟨I3,[],⟨by rw[hf];rfl,rfl⟩,hm.left (H:= [])⟩
theorem C35 (at_:Int) {l:List Int}{more:Int}{la:Option Addr}{lc b6 b7:Nat} (I:P6) (hl:PtrI I b6 0 35 [.slice la l.length lc]) (hmo:PtrI I b7 0 3 [.int .i64 more]) (hr:RowI I 3 1 (.slice la l.length lc) l.length (l.flatMap B0d))
  (hn:l.length<=1000000000000) (h0:0<=at_/\at_<=1000000) (h1: -100000<=more/\more<=100000):
  CalR prog 87 #[.int .i64 at_,ptr b6,ptr b7] I [] (.int .i64 (A7e l more at_)):=by
 refine CalM.reader (CalM.of fun w E hm=>enter (N:=25) func87 rfl [(0,.int .i64 at_),(1,ptr b6),(2,ptr b7)] A3C rfl ?_)
 repeat' (first|refine A1w ?_ hm|refine D8 ?_|refine D6 ?_|refine G7 ?_|refine D9 ?_|refine A7 ?_|refine E8 ?_|refine A8 ?_|refine F5 ?_)
 refine U2 (fun k:Nat=> [(0,.int .i64 at_),(2,ptr b7),(5,nt (A68 (l.take k) at_)),(8,.slice la l.length lc),(9,nt l.length),(10,nt k)])
  (fun k w'=>Mem E I [] w'/\k<=l.length) (fun k=>l.length-k) 0
  (by exact⟨rfl,rfl,rfl,rfl,rfl,rfl,trivial⟩) ⟨hm,H7 _⟩ ?_
 clear hm;rintro k w1 ⟨hm,hk⟩;try dsimp only at hm hk |-
 have hak:A68 (l.take k) at_<=k:=by
  have:=A3P (fun z:Int=>decide (z<at_)) (l.take k);rw[Q4]at this;rw[A68];omega
 by_cases hlt:k<l.length
 ·have hg:l[k]?=some l[k]:=G6 hlt
  have hst:=B6o hg at_;have hgk:l[((k:Nat):Int).toNat]?=some l[k]:=hg;generalize l[k]=z at hg hgk hst;generalize A68 (l.take k) at_=n at hst hak |-;by_cases hz:z<at_
  ·rw[if_pos hz]at hst
   repeat' (first|refine Q9 (d:=12) (enc:=B0d) (z:=z) ?_ (hr:=hr) (he:=fun _=>rfl) (hz:=hgk);intro bt ot hpt|refine A1w ?_ hm|refine D8 ?_|refine D6 ?_|refine J6 ?_|refine P7 ?_|refine D9 ?_|refine A7 ?_|refine D7 ?_|refine E8 ?_|refine A8 ?_|refine F5 ?_|refine G5 ?_|(refine D5 (ht:=fun _=>?_) (hf:=fun _=>?_)<;>try first|contradiction|omega))
   exact L9 (k+1:Nat) (by exact⟨rfl,rfl,by rw[hst];rfl,rfl,rfl,rfl,trivial⟩) ⟨hm,by omega⟩ (by omega)
  ·rw[if_neg hz,A1P]at hst
   repeat' (first|refine Q9 (d:=12) (enc:=B0d) (z:=z) ?_ (hr:=hr) (he:=fun _=>rfl) (hz:=hgk);intro bt ot hpt|refine A1w ?_ hm|refine D8 ?_|refine D6 ?_|refine J6 ?_|refine P7 ?_|refine D9 ?_|refine A7 ?_|refine D7 ?_|refine E8 ?_|refine A8 ?_|refine F5 ?_|refine G5 ?_|(refine D5 (ht:=fun _=>?_) (hf:=fun _=>?_)<;>try first|contradiction|omega))
   exact L9 (k+1:Nat) (by exact⟨rfl,rfl,by rw[hst];rfl,rfl,rfl,rfl,trivial⟩) ⟨hm,by omega⟩ (by omega)
 ·obtain rfl:k=l.length:=by omega
  rw[V5]at hak |-;rw[A7e];generalize A68 l at_=n at hak |-;have hb: -100000000000000000<=(n:Int) *more/\(n:Int) *more<=100000000000000000:=by
   constructor
   ·have:=Int.mul_le_mul_of_nonneg_left h1.1 (Int.natCast_nonneg n)
    omega
   ·have:=Int.mul_le_mul_of_nonneg_left h1.2 (Int.natCast_nonneg n)
    omega
  generalize hp:(n:Int) *more=pr at hb |-;repeat' (first|refine C65 ?_ (h:=by rw[hp];omega);rw[hp]|refine A1w ?_ hm|refine D8 ?_|refine D6 ?_|refine J6 ?_|refine P7 ?_|refine D9 ?_|refine A7 ?_|refine H9 ?_|refine H5 ?_|refine E8 ?_|refine A8 ?_|refine P9 ?_|refine H8 ?_|refine J9 ?_|(refine D5 (ht:=fun _=>?_) (hf:=fun _=>?_)<;>try first|contradiction|omega))
  exact⟨I,[],⟨rfl,rfl,rfl⟩,hm⟩
end
section
variable {s1 s2:List UInt8}{i1 i2:List Sp.Itm}{a1 a2:Option Addr}{p1 p2:Nat}{x1 x2:List Value}
theorem C33 {l:List Int} (more:Int) {la:Option Addr}{lc bf bg:Nat} (I:P6) (hf:PtrI I bf 0 25 [.slice a1 i1.length p1]) (hg:PtrI I bg 0 25 [.slice a2 i2.length p2]) (h1:FE I i1 a1 p1 x1) (h2:FE I i2 a2 p2 x2) (hl1:s1.length<=4000) (hl2:s2.length<=4000) (hN1:∀x∈i1,Sp.ItN s1 x) (hN2:∀x∈i2,Sp.ItN s2 x)
  (hfw1:(A1Z i1).length<=100000000000) (_hfw2:(A1Z i2).length<=100000000000) (hr:RowI I 3 1 (.slice la l.length lc) l.length (l.flatMap B0d)) (hn:l.length<=1000000000000) (hmo: -100000<=more/\more<=100000):
  CalM prog 54 #[ptr bf,ptr bg,.slice la l.length lc,.int .i64 more] I [] (fun v _ H'=>v=.bool (B47 (A1Z i1) (A1Z i2) l more)/\H'= []):=by
 refine CalM.of fun w E hm=>enter (N:=61) func54 rfl [(0,ptr bf),(1,ptr bg),(2,.slice la l.length lc),(3,.int .i64 more)] B2R rfl ?_
 have hA:=fun (J:P6) (m:Le I J)=>B5x J (h1.le m) hl1 hN1
 have hB:=fun (J:P6) (m:Le I J)=>B5x J (h2.le m) hl2 hN2
 have hu:=C7J hN1 hl1;rw[B47];generalize A1Z i1=us at hA hfw1 hu |-;generalize A1Z i2=vs at hB |-;repeat' (first|refine A0H 2 ?_|refine A0K (d:=6) ?_ hm;clear hm;intro b6 _ hm|refine A0K (d:=7) ?_ hm;clear hm;intro b7 _ hm|refine D6 ?_|refine A1o ?_|refine D9 ?_|refine A7 ?_|refine E8 ?_|refine A8 ?_)
 obtain⟨I1,hle1,hm1,hp6⟩:=hm.freezeO;obtain⟨I2,hle2,hm2,hp7⟩:=hm1.freezeO;clear hm hm1;have hm:=hm2;clear hm2;have hle2:Le I I2:=hle1.trans hle2;have hf:=hf.le hle2;have hg:=hg.le hle2;have hr:=hr.le hle2;have hp7:=hp7;have hp6:=hp6.le ‹Le I1 I2›;refine⟨?_⟩
 repeat' (first|refine A0m (id:=2) (hm.perm pm0) [0,1,2,4,5,6] [3,7] 8 (h:=?_);clear hm;intro wd hR hm|refine U7 (d:=17) ?_ hm (hp:=pm0) (hc:=hA I2 hle2);clear hm;rintro _ I3 _ _ ⟨rfl,ua,up,rfl,hra⟩ hleI3 hm;try simp only[F9]at hm|refine U7 (d:=21) ?_ hm (hp:=pm0) (hc:=hB I3 (hle2.trans hleI3));clear hm;rintro _ I4 _ _ ⟨rfl,va,vp,rfl,hrb⟩ hleI4 hm;try simp only[F9]at hm|refine A0H 5 ?_|refine A1W ?_ hR|refine A0w ?_;replace hm:=hR.back hm;clear hR;try simp only[F9]at hm|refine D8 ?_|refine D6 ?_|refine A0y ?_|refine G7 ?_|refine D9 ?_|refine A7 ?_|refine G8 ?_|refine E8 ?_|refine A8 ?_|refine G5 ?_|refine H8 ?_|refine J9 ?_|(refine D5 (ht:=fun _=>?_) (hf:=fun _=>?_)<;>try first|contradiction|omega)|refine Z4 ?_|refine O5 ?_|refine A0b ?_)
 ·exact⟨I4,[],⟨by rw[decide_eq_false (by omega)];rfl,rfl⟩,hm⟩
 rename_i heq
 have heq:us.length=vs.length:=by omega
 refine⟨?_⟩
 rw[decide_eq_true heq,A5O];repeat' (first|refine D8 ?_|refine G7 ?_|refine D9 ?_|refine A7 ?_|refine A8 ?_|refine F5 ?_)
 have hr4:=(hr.le hleI3).le hleI4;have hp64:=(hp6.le hleI3).le hleI4;have hp74:=(hp7.le hleI3).le hleI4;have hra4:=hra.le hleI4;have hS:=fun (z:Int) (h:0<=z/\z<=4000)=>C35 z (l:=l) (more:=more) I4 hp74 hp64 hr4 hn (by omega) hmo
 refine U2 (fun k:Nat=> [(9,.func (.func 87) #[] #[ptr b6,ptr b7]),(10,.slice ua us.length up),(11,.slice va vs.length vp),(28,nt us.length),(29,nt k)])
  (fun k w'=>Mem E I4 [] w'/\k<=us.length/\A5C us vs l more k=true) (fun k=>us.length-k) 0
  (by exact⟨rfl,rfl,rfl,rfl,rfl,trivial⟩) ⟨hm,H7 _,rfl⟩ ?_
 clear hm;rintro k w1 ⟨hm,hk,hak⟩;try dsimp only at hm hk hak |-
 by_cases hlt:k<us.length
 ·have hgu:us[k]?=some us[k]:=G6 hlt
  have hgv:vs[k]?=some (vs[k]'(by omega)):=G6 (by omega);have hui:=hu _ (O7 hlt);generalize us[k]=u at hgu hui;generalize vs[k]'(by omega)=v at hgv;have hst:=B48 l more hgu hgv;rw[hak,A5O]at hst;have hgku:us[((k:Nat):Int).toNat]?=some u:=hgu;have hgkv:vs[((k:Nat):Int).toNat]?=some v:=hgv;have hS1:=hS u.fr hui.1;have hS2:=hS u.df hui.2;obtain⟨z1,hz1⟩:∃z,z=A7e l more u.fr:=⟨_,rfl⟩;obtain⟨z2,hz2⟩:∃z,z=A7e l more u.df:=⟨_,rfl⟩;rw[<-hz1]at hS1 hst;rw[<-hz2]at hS2 hst;by_cases h1:z1=v.fr
  ·by_cases h2:z2=v.df
   ·rw[decide_eq_true h1,decide_eq_true h2]at hst
    repeat' (first|refine Z7 (d:=35) (enc:=A4b) (z:=u) ?_ (hr:=hra4) (he:=fun _=>rfl) (hz:=hgku);intro bt ot hpt|refine Z7 (d:=41) (enc:=A4b) (z:=v) ?_ (hr:=hrb) (he:=fun _=>rfl) (hz:=hgkv);intro bu ou hpu|refine Z7 (d:=49) (enc:=A4b) (z:=u) ?_ (hr:=hra4) (he:=fun _=>rfl) (hz:=hgku);intro bv ov hpv|refine Z7 (d:=55) (enc:=A4b) (z:=v) ?_ (hr:=hrb) (he:=fun _=>rfl) (hz:=hgkv);intro bw ow hpw|refine B0W (d:=38) (by rfl) (by rfl) (by rfl) (by rfl) (fun w' hk=>hS1.now (hm.kept0 hk) A64) ?_|refine B0W (d:=52) (by rfl) (by rfl) (by rfl) (by rfl) (fun w' hk=>hS2.now (hm.kept0 hk) A64) ?_|refine A0q ?_ hm|refine D8 ?_|refine D6 ?_|refine J6 ?_|refine P7 ?_|refine D9 ?_|refine A7 ?_|refine D7 ?_|refine E8 ?_|refine A8 ?_|refine F5 ?_|refine G5 ?_|refine U5 ?_|refine A0j ?_;intro _ hkq;replace hm:=hm.kept0 hkq;clear hkq|(refine D5 (ht:=fun _=>?_) (hf:=fun _=>?_)<;>try first|contradiction|omega)|refine X5 ?_|refine A09 ?_|refine B7J ?_|refine L6 ?_|(refine Y6 (fun _=>?_) (h1:=fun _=>?_)<;>try first|contradiction|omega))
    all_goals exact L9 (k+1:Nat) (by exact⟨rfl,rfl,rfl,rfl,rfl,trivial⟩) ⟨hm,by omega,by rw[hst];rfl⟩ (by omega)
   ·rw[decide_eq_false h2,Bool.and_false]at hst
    rw[A9I hst _ (by omega)];repeat' (first|refine Z7 (d:=35) (enc:=A4b) (z:=u) ?_ (hr:=hra4) (he:=fun _=>rfl) (hz:=hgku);intro bt ot hpt|refine Z7 (d:=41) (enc:=A4b) (z:=v) ?_ (hr:=hrb) (he:=fun _=>rfl) (hz:=hgkv);intro bu ou hpu|refine Z7 (d:=49) (enc:=A4b) (z:=u) ?_ (hr:=hra4) (he:=fun _=>rfl) (hz:=hgku);intro bv ov hpv|refine Z7 (d:=55) (enc:=A4b) (z:=v) ?_ (hr:=hrb) (he:=fun _=>rfl) (hz:=hgkv);intro bw ow hpw|refine B0W (d:=38) (by rfl) (by rfl) (by rfl) (by rfl) (fun w' hk=>hS1.now (hm.kept0 hk) A64) ?_|refine B0W (d:=52) (by rfl) (by rfl) (by rfl) (by rfl) (fun w' hk=>hS2.now (hm.kept0 hk) A64) ?_|refine A0q ?_ hm|refine D8 ?_|refine D6 ?_|refine J6 ?_|refine D9 ?_|refine A7 ?_|refine G8 ?_|refine O1 ?_|refine E8 ?_|refine A8 ?_|refine F5 ?_|refine G5 ?_|refine H8 ?_|refine J9 ?_|refine U5 ?_|refine A0j ?_;intro _ hkq;replace hm:=hm.kept0 hkq;clear hkq|(refine D5 (ht:=fun _=>?_) (hf:=fun _=>?_)<;>try first|contradiction|omega)|refine X5 ?_|refine A09 ?_|refine B7J ?_|refine L6 ?_|(refine Y6 (fun _=>?_) (h1:=fun _=>?_)<;>try first|contradiction|omega))
    all_goals exact⟨I4,[],⟨rfl,rfl⟩,hm⟩
  ·rw[decide_eq_false h1,Bool.false_and]at hst
   rw[A9I hst _ (by omega)];repeat' (first|refine Z7 (d:=35) (enc:=A4b) (z:=u) ?_ (hr:=hra4) (he:=fun _=>rfl) (hz:=hgku);intro bt ot hpt|refine Z7 (d:=41) (enc:=A4b) (z:=v) ?_ (hr:=hrb) (he:=fun _=>rfl) (hz:=hgkv);intro bu ou hpu|refine B0W (d:=38) (by rfl) (by rfl) (by rfl) (by rfl) (fun w' hk=>hS1.now (hm.kept0 hk) A64) ?_|refine A0q ?_ hm|refine D8 ?_|refine D6 ?_|refine J6 ?_|refine D9 ?_|refine A7 ?_|refine G8 ?_|refine O1 ?_|refine E8 ?_|refine A8 ?_|refine F5 ?_|refine G5 ?_|refine H8 ?_|refine J9 ?_|refine U5 ?_|refine A0j ?_;intro _ hkq;replace hm:=hm.kept0 hkq;clear hkq|refine H6 ?_|(refine D5 (ht:=fun _=>?_) (hf:=fun _=>?_)<;>try first|contradiction|omega)|refine X5 ?_|refine A0p ?_|refine B7J ?_|refine L6 ?_|refine A38 ?_|(refine Y6 (fun _=>?_) (h1:=fun _=>?_)<;>try first|contradiction|omega))
   all_goals exact⟨I4,[],⟨rfl,rfl⟩,hm⟩
 ·obtain rfl:k=us.length:=by omega
  rw[hak];repeat' (first|refine D6 ?_|refine J6 ?_|refine D9 ?_|refine A7 ?_|refine H9 ?_|refine H5 ?_|refine E8 ?_|refine A8 ?_|refine P9 ?_|refine H8 ?_|refine J9 ?_|(refine D5 (ht:=fun _=>?_) (hf:=fun _=>?_)<;>try first|contradiction|omega))
  exact⟨I4,[],⟨rfl,rfl⟩,hm⟩
end
structure RaX where
 k:Nat
 I:P6
 sa:Option Addr
 sp:Nat
section
variable {src:List UInt8}{its:List Sp.Itm}{a:Option Addr}{cp:Nat}{xs:List Value}
theorem C0s (I:P6) (h:FE I its a cp xs) (hA:Sp.AllOk src its):
  CalM prog 16 #[.agg [.slice a its.length cp].toArray] I [] (fun v I' H'=>H'= []/\∃da dp,v=.slice da (A5k its).length dp/\RowI I' 85 4 (.slice da (A5k its).length dp) (A5k its).length ((A5k its).flatMap A6k)):=by
 refine CalM.of fun w E hm=>enter (N:=18) func16 rfl [(0,.agg [.slice a its.length cp].toArray)] A0I rfl ?_
 have hfew:=hA.few;have hfew2:=B1g hA;rw[A5k];repeat' (first|refine A0H 2 ?_|refine A0K (d:=1) ?_ hm;clear hm;intro b1 _ hm|refine D6 ?_|refine D9 ?_|refine A7 ?_|refine E8 ?_|refine A8 ?_)
 obtain⟨I2,hle2,hm2,hpf⟩:=hm.freezeO;clear hm;have hm:=hm2.nil 85 4;clear hm2;refine⟨?_⟩
 repeat' (first|refine J5 ?_ hm|refine D8 ?_|refine G7 ?_|refine C9 ?_|refine D9 ?_|refine A7 ?_|refine A8 ?_|refine F5 ?_)
 refine U2 (fun x:RaX=> [(1,ptr b1),(3,.slice x.sa (A6V its x.k).length x.sp),(7,nt its.length),(8,nt x.k)])
  (fun x w'=>Mem E x.I [.row (.slice x.sa (A6V its x.k).length x.sp) 85 4 (A6V its x.k).length ((A6V its x.k).flatMap A6k)] w'/\Le I2 x.I/\x.k<=its.length) (fun x=>its.length-x.k) ⟨0,I2,none,0⟩
  (by exact⟨rfl,rfl,rfl,rfl,trivial⟩) ⟨hm,Le.refl _,H7 _⟩ ?_
 clear hm;rintro⟨k,I3,oa,op⟩ w3 ⟨hm,hle3,hk⟩;dsimp only at hm hle3 hk |-;have hpf3:=hpf.le hle3;by_cases hlt:k<its.length
 ·have hD:=C5J k hlt I3 ((h.le hle2).le hle3) hA
  have hs:=B2O its k;have h1:=hfew2 (k+1) hlt;rw[hs,E9]at h1;generalize A6V its k=pre at hm hs h1;generalize B3Y its k=dd at hD hs h1;repeat' (first|refine X3 (d:=12) ?_ hm (hp:=hpf3)|refine F6 (d:=14) ?_ hm (hp:=pm0) (hc:=hD);clear hm;rintro _ I4 _ _ ⟨rfl,da,dp,rfl,hrow⟩ hleI4 hm;try simp only[F9]at hm|refine A9s (d:=15) ?_ hm (hr:=hrow) (h1:=C0V);clear hm;intro a15 cp15 _ hm;try simp only[F9]at hm|refine D8 ?_|refine D6 ?_|refine J6 ?_|refine P7 ?_|refine D9 ?_|refine A7 ?_|refine D7 ?_|refine E8 ?_|refine A8 ?_|refine F5 ?_|refine G5 ?_|(refine D5 (ht:=fun _=>?_) (hf:=fun _=>?_)<;>try first|contradiction|omega))
  refine L9 (⟨k+1,I4,a15,cp15⟩:RaX) (by exact⟨rfl,by rw[hs,E9];rfl,rfl,rfl,trivial⟩) ⟨?_,hle3.trans hleI4,by dsimp only;omega⟩ (by dsimp only;omega)
  dsimp only
  rw[hs,X9,E9];exact hm
 ·obtain rfl:k=its.length:=by omega
  repeat' (first|refine D8 ?_|refine D6 ?_|refine J6 ?_|refine D9 ?_|refine A7 ?_|refine H9 ?_|refine H5 ?_|refine E8 ?_|refine A8 ?_|refine P9 ?_|refine H8 ?_|refine J9 ?_|(refine D5 (ht:=fun _=>?_) (hf:=fun _=>?_)<;>try first|contradiction|omega))
  obtain⟨I4,hle4,hm4,hrow⟩:=hm.freeze;exact⟨I4,[],⟨rfl,_,_,rfl,hrow⟩,hm4⟩
abbrev C30 (ea:Option Addr) (ep:Nat) (r:Sp.Rn):Value:=.agg [.slice ea r.ev.length ep,.int .i64 r.n,nt r.err,nt r.steps].toArray
abbrev C78 (r:Sp.Rn):Value->P6->List HItem->Prop:=fun v I' H'=>H'= []/\∃ea ep,v=C30 ea ep r/\RowI I' 186 2 (.slice ea r.ev.length ep) r.ev.length (r.ev.flatMap A8t)
theorem C8x (nm:List UInt8) (args:List Int) (I:P6) (h:FE I its a cp xs) (hA:Sp.AllOk src its) (hok:A5k its= []->∀it∈its,it.kind=2->X7 (Sp.okE its) C4O it.body) (aa:Option Addr) (ac:Nat)
  (hra:RowI I 3 1 (.slice aa args.length ac) args.length (B8S args)):
  CalM prog 30 #[.agg [.slice a its.length cp].toArray,str nm,.slice aa args.length ac] I [] (C78 (B5R its nm args)):=by
 refine CalM.of fun w E hm=>enter (N:=61) func30 rfl [(0,.agg [.slice a its.length cp].toArray),(1,str nm),(2,.slice aa args.length ac)] A3C rfl ?_
 have hfew:=hA.few;obtain⟨fin,hfin⟩:∃fin,fin=B5R its nm args:=⟨_,rfl⟩;rw[<-hfin];rw[B5R]at hfin;have hfind:=fun (J:P6) (m:Le I J)=>(A7b 2 nm its J a cp xs (h.le m)).read
 have hAll:=fun (J:P6) (m:Le I J)=>C0s J (h.le m) hA
 have hmore:∀(J:P6),RowI J 186 2 (.slice none 0 0) 0 (([]:List Sp.Ev).flatMap A8t):=fun J=>A0W _ _ _ _ _
 by_cases hbad:A5k its≠ []
 ·rw[if_pos hbad]at hfin
  subst hfin;have hl0:0<(A5k its).length:=A3S.2 hbad;generalize A5k its=all at hAll hl0;repeat' (first|refine A0H 1 ?_|refine A0K (d:=3) ?_ hm;clear hm;intro b3 _ hm|refine U1 (d:=6) ?_ hm;clear hm;intro b6 _ hm|refine D9 ?_|refine A7 ?_|refine E8 ?_|refine A8 ?_)
  obtain⟨I2,hle2,hm2,hpf⟩:=Mem.freezeO hm.swap;clear hm;have hm:=hm2;clear hm2;refine⟨?_⟩
  repeat' (first|refine X3 (d:=10) ?_ hm (hp:=hpf)|refine S9 (d:=12) ?_ hm (hc:=hfind I2 hle2);clear hm;intro _ hm|refine X3 (d:=14) ?_ hm (hp:=hpf)|refine F6 (d:=15) ?_ hm (hp:=pm0) (hc:=hAll I2 hle2);clear hm;rintro _ I3 _ _ ⟨rfl,da,dp,rfl,hrd⟩ hleI3 hm;try simp only[F9]at hm|refine N7 ?_ hm;clear hm;intro _ hm;try simp only[F9]at hm|refine Y4 ?_ hm|refine D8 ?_|refine D6 ?_|refine A0F ?_|refine G7 ?_|refine Q3 ?_|refine D9 ?_|refine A7 ?_|refine G8 ?_|refine O1 ?_|refine E8 ?_|refine A8 ?_|refine F5 ?_|refine H8 ?_|(refine D5 (ht:=fun _=>?_) (hf:=fun _=>?_)<;>try first|contradiction|omega))
  exact⟨I3,[],⟨rfl,none,0,rfl,hmore _⟩,hm.left (H:= [])⟩
 rw[if_neg hbad]at hfin;have hb0:A5k its= []:=Classical.not_not.1 hbad;have hok2:=hok hb0;rw[hb0]at hAll;cases hf:A0Z its 2 nm with
 |none=>
  rw[hf]at hfin;dsimp only at hfin;subst hfin;rw[show A4c its 2 nm= -1 by rw[A4c,hf]]at hfind;repeat' (first|refine A0H 1 ?_|refine A0K (d:=3) ?_ hm;clear hm;intro b3 _ hm|refine U1 (d:=6) ?_ hm;clear hm;intro b6 _ hm|refine D9 ?_|refine A7 ?_|refine E8 ?_|refine A8 ?_)
  obtain⟨I2,hle2,hm2,hpf⟩:=Mem.freezeO hm.swap;clear hm;have hm:=hm2;clear hm2;refine⟨?_⟩
  repeat' (first|refine X3 (d:=10) ?_ hm (hp:=hpf)|refine S9 (d:=12) ?_ hm (hc:=hfind I2 hle2);clear hm;intro _ hm|refine X3 (d:=14) ?_ hm (hp:=hpf)|refine F6 (d:=15) ?_ hm (hp:=pm0) (hc:=hAll I2 hle2);clear hm;rintro _ I3 _ _ ⟨rfl,da,dp,rfl,hrd⟩ hleI3 hm;try simp only[F9]at hm|refine N7 ?_ hm;clear hm;intro _ hm;try simp only[F9]at hm|refine Y4 ?_ hm|refine D8 ?_|refine D6 ?_|refine J6 ?_|refine A0F ?_|refine G7 ?_|refine Q3 ?_|refine D9 ?_|refine A7 ?_|refine G8 ?_|refine O1 ?_|refine E8 ?_|refine A8 ?_|refine F5 ?_|refine H8 ?_|refine H6 ?_|refine F7 ?_)
  exact⟨I3,[],⟨rfl,none,0,rfl,hmore _⟩,hm.left (H:= [])⟩
 |some j=>
 rw[hf]at hfin;dsimp only at hfin;rw[show A4c its 2 nm=(j:Int) by rw[A4c,hf]]at hfind;obtain⟨hjl,hjk,_,_,hmem⟩:=A2D hf;have hri:=h.row;obtain⟨ci,hci,hat,_⟩:=h.get (A2G hjl);have hsm:=(hA.fl _ hmem).small;have hcall:=fun (J:P6) (m:Le I J) (bf bm:Nat) (hp:PtrI J bf 0 25 [.slice a its.length cp]) (hpl:args.length=(A0o its j).params.length)=>
  C5I (bm:=bm) (⟨hp,h.le m,fun it hit=>⟨(hA.fl it hit).small,(hA.fl it hit).cnt,hok2 it hit⟩⟩:RFile J its bf a cp xs) 40 (G9 _) J nm args Sp.MR0 none 0 aa ac (Le.refl _) ⟨j,hf,hpl.symm⟩ (hra.le m) (H7 _) (H7 _)
 have hto:=A8O its 40 nm args Sp.MR0 (H7 _);generalize A0o its j=it at hfin hat hsm hcall;obtain⟨pa,pc,sa9,sc9,ba,bc9,da9,dc9,xb,rfl,hpar,_,_,_,_⟩:=hat
 by_cases hpl:args.length=it.params.length
 case neg=>
  rw[if_pos hpl]at hfin;subst hfin;repeat' (first|refine A0H 1 ?_|refine A0K (d:=3) ?_ hm;clear hm;intro b3 _ hm|refine U1 (d:=6) ?_ hm;clear hm;intro b6 _ hm|refine D9 ?_|refine A7 ?_|refine E8 ?_|refine A8 ?_)
  obtain⟨I2,hle2,hm2,hpf⟩:=Mem.freezeO hm.swap;clear hm;have hm:=hm2;clear hm2;have hri2:=hri.le hle2;refine⟨?_⟩
  repeat' (first|refine X3 (d:=10) ?_ hm (hp:=hpf)|refine S9 (d:=12) ?_ hm (hc:=hfind I2 hle2);clear hm;intro _ hm|refine X3 (d:=14) ?_ hm (hp:=hpf)|refine F6 (d:=15) ?_ hm (hp:=pm0) (hc:=hAll I2 hle2);clear hm;rintro _ I3 _ _ ⟨rfl,da,dp,rfl,hrd⟩ hleI3 hm;try simp only[F9]at hm;have hpf3:=hpf.le hleI3;have hri3:=hri2.le hleI3|refine O0 (d:=29) ?_ (hr:=hri3);intro bt ot hpt;rw[show ((j:Int).toNat *10)=j *10 from rfl,hci]at hpt|refine J5 ?_ hm|refine N7 ?_ hm;clear hm;intro _ hm;try simp only[F9]at hm|refine Y4 ?_ hm|refine D8 ?_|refine D6 ?_|refine J6 ?_|refine A0F ?_|refine A0y ?_|refine G7 ?_|refine C9 ?_|refine Q3 ?_|refine D9 ?_|refine A7 ?_|refine G8 ?_|refine O1 ?_|refine E8 ?_|refine A8 ?_|refine F5 ?_|refine H8 ?_|refine F7 ?_|(refine D5 (ht:=fun _=>?_) (hf:=fun _=>?_)<;>try first|contradiction|omega))
  exact⟨I3,[],⟨rfl,none,0,rfl,hmore _⟩,hm.left (H:= [])⟩
 rw[if_neg (fun hh=>hh hpl)]at hfin;have hcall2:=fun (J:P6) (m:Le I J) (bf bm:Nat) (hp:PtrI J bf 0 25 [.slice a its.length cp])=>hcall J m bf bm hp hpl
 clear hcall;generalize A50 its 40 nm args Sp.MR0=r at hfin hcall2 hto;repeat' (first|refine A0H 1 ?_|refine A0K (d:=3) ?_ hm;clear hm;intro b3 _ hm|refine U1 (d:=6) ?_ hm;clear hm;intro b6 _ hm|refine D9 ?_|refine A7 ?_|refine E8 ?_|refine A8 ?_)
 obtain⟨I2,hle2,hm2,hpf⟩:=Mem.freezeO hm.swap;clear hm;have hm:=hm2;clear hm2;have hri2:=hri.le hle2;refine⟨?_⟩
 repeat' (first|refine X3 (d:=10) ?_ hm (hp:=hpf)|refine S9 (d:=12) ?_ hm (hc:=hfind I2 hle2);clear hm;intro _ hm|refine X3 (d:=14) ?_ hm (hp:=hpf)|refine F6 (d:=15) ?_ hm (hp:=pm0) (hc:=hAll I2 hle2);clear hm;rintro _ I3 _ _ ⟨rfl,da,dp,rfl,hrd⟩ hleI3 hm;try simp only[F9]at hm;have hpf3:=hpf.le hleI3;have hri3:=hri2.le hleI3|refine O0 (d:=29) ?_ (hr:=hri3);intro bt ot hpt;rw[show ((j:Int).toNat *10)=j *10 from rfl,hci]at hpt|refine A0H 9 ?_|refine A0K (d:=36) ?_ hm;clear hm;intro b36 _ hm|refine J5 ?_ hm|refine D8 ?_|refine D6 ?_|refine J6 ?_|refine A0F ?_|refine A0y ?_|refine G7 ?_|refine C9 ?_|refine Q3 ?_|refine D9 ?_|refine A7 ?_|refine D7 ?_|refine E8 ?_|refine A8 ?_|refine F5 ?_|refine G5 ?_|refine F7 ?_|(refine D5 (ht:=fun _=>?_) (hf:=fun _=>?_)<;>try first|contradiction|omega))
 have hm:=(hm.nil 186 2).swap;have hC:=hcall2 I3 (hle2.trans hleI3) b3 b36 hpf3;refine⟨?_⟩
 by_cases he:r.2.err≠0
 ·rw[if_pos he]at hfin
  subst hfin;repeat' (first|refine F6 (d:=40) ?_ hm (hp:=pm2_0) (hc:=hC);clear hm;rintro _ I4 _ _ ⟨rfl,va4,vp4,rfl⟩ hleI4 hm;try simp only[F9]at hm|refine J4 ?_ hm|refine N7 ?_ hm;clear hm;intro _ hm;try simp only[F9]at hm|refine Y4 ?_ hm|refine D8 ?_|refine D6 ?_|refine A0y ?_|refine E5 ?_|refine C9 ?_|refine Q3 ?_|refine D9 ?_|refine A7 ?_|refine G8 ?_|refine E8 ?_|refine A8 ?_|refine H8 ?_|(refine D5 (ht:=fun _=>?_) (hf:=fun _=>?_)<;>try first|contradiction|omega))
  exact⟨I4,[],⟨rfl,none,0,rfl,hmore _⟩,hm.left (H:= [])⟩
 ·rw[if_neg he]at hfin
  have he0:r.2.err=0:=by omega
  subst hfin;repeat' (first|refine F6 (d:=40) ?_ hm (hp:=pm2_0) (hc:=hC);clear hm;rintro _ I4 _ _ ⟨rfl,va4,vp4,rfl⟩ hleI4 hm;try simp only[F9]at hm|refine V7 (id:=12) 10 (h:=?_)|refine J4 ?_ hm|refine V3 ?_ hm|refine N7 ?_ hm;clear hm;intro _ hm;try simp only[F9]at hm|refine Y4 ?_ hm|refine D8 ?_|refine D6 ?_|refine A0y ?_|refine E5 ?_|refine C9 ?_|refine D9 ?_|refine A7 ?_|refine E8 ?_|refine A8 ?_|refine G5 ?_|refine H8 ?_|refine A0e ?_;intro _ hkq;replace hm:=hm.kept0 hkq;clear hkq|(refine D5 (ht:=fun _=>?_) (hf:=fun _=>?_)<;>try first|contradiction|omega)|refine X5 ?_|refine O8 ?_|refine L6 ?_|refine B7K ?_)
  obtain⟨I5,hle5,hm5,hrow⟩:=Mem.freeze (hm.perm (pm1_1.trans (.refl _)));exact⟨I5,[],⟨rfl,va4,vp4,rfl,hrow⟩,hm5.left (H:= [])⟩
end
theorem C5o {s:List UInt8} (h:Sp.name s=true):s.length<=12:=by
 simp only[Sp.name,B0q,U9,decide_eq_true_eq]at h;omega
theorem B9s (its:List Sp.Itm) (df:Int):(A35 its df).length<=(A1Z its).length+1:=by
 have h1:=B2Y ((df::A3H (A1Z its) df).mergeSort (fun x y=>decide (x<=y)));rw[List.length_mergeSort,F8,A3H,A0g]at h1;have h2:=A3P (fun u:Sp.Us=>decide (u.df=df)) (A1Z its);rw[A35,A3H];omega
theorem C8y (s nm:List UInt8) (at_:Int) (I:P6) (hC:Conv I) (hs:s.length<=9223372036854775807) (hnm:nm.length<=9223372036854775807):
  CalM prog 24 #[str s,.int .i64 at_,str nm] I [] (fun v _ H'=>v=.tuple #[str (Sp.toR s at_ nm).1,nt (Sp.toR s at_ nm).2]/\H'= []):=by
 refine CalM.of fun w E hm=>enter (N:=106) func24 rfl [(0,str s),(1,.int .i64 at_),(2,str nm)] A3C rfl ?_
 have hF:=fun (t:List UInt8) (ht:t.length<=9223372036854775807) (J:P6) (m:Le I J)=>C69 t J (hC.le m) ht
 have hF1:=hF s hs;rw[Sp.toR];by_cases h0:Z5 s≠0
 ·rw[if_pos h0]
  dsimp only
  generalize Z5 s=er at hF1 h0;generalize J7 s=its at hF1;repeat' (first|refine F6 (d:=23) ?_ hm (hp:=pm0) (hc:=hF1 I (Le.refl _));clear hm;rintro _ I2 _ _ ⟨a,cp,xs,rfl,hrow,hits,rfl⟩ hleI2 hm;try simp only[F9]at hm|refine Y5 (d:=8) ?_ hm;clear hm;intro b8 _ hm|refine D8 ?_|refine D6 ?_|refine A0y ?_|refine W9 ?_|refine D9 ?_|refine A7 ?_|refine G8 ?_|refine E8 ?_|refine A8 ?_|refine H8 ?_|refine A1T ?_|(refine D5 (ht:=fun _=>?_) (hf:=fun _=>?_)<;>try first|contradiction|omega))
  exact⟨I2,[],⟨rfl,rfl⟩,hm.left (H:= [])⟩
 rw[if_neg h0];have h00:Z5 s=0:=by omega
 rw[h00]at hF1;have hA:=B2s h00;generalize J7 s=its at hF1 hA;have hfew:=hA.few;repeat' (first|refine F6 (d:=23) ?_ hm (hp:=pm0) (hc:=hF1 I (Le.refl _));clear hm;rintro _ I2 _ _ ⟨a,cp,xs,rfl,hrow,hits,rfl⟩ hleI2 hm;try simp only[F9]at hm|refine A0H 4 ?_|refine Y5 (d:=8) ?_ hm;clear hm;intro b8 _ hm|refine D8 ?_|refine D6 ?_|refine A0y ?_|refine W9 ?_|refine D9 ?_|refine A7 ?_|refine E8 ?_|refine A8 ?_|refine G5 ?_|refine F7 ?_)
 obtain⟨I3,hle3,hm3,hp8⟩:=hm.freezeO;clear hm;have hm:=hm3;clear hm3;have hp8:PtrI I3 b8 0 25 [.slice a its.length cp]:=hp8;have q3:=(B99 hrow hits hfew).le hle3;have hle03:=hleI2.trans hle3;refine⟨?_⟩
 have hD1:=C0s I3 q3 hA;by_cases hal:A5k its≠ []
 ·rw[if_pos hal]
  dsimp only
  have hpos:0<(A5k its).length:=A3S.2 hal;generalize A5k its=ds at hD1 hpos;repeat' (first|refine F6 (d:=30) ?_ hm (hp:=pm0) (hc:=hD1);clear hm;rintro _ I4 _ _ ⟨rfl,da,dp,rfl,hrd⟩ hleI4 hm;try simp only[F9]at hm|refine X3 ?_ hm|refine D6 ?_|refine A0F ?_|refine G7 ?_|refine D9 ?_|refine A7 ?_|refine G8 ?_|refine E8 ?_|refine A8 ?_|refine H8 ?_|refine A1T ?_|(refine D5 (ht:=fun _=>?_) (hf:=fun _=>?_)<;>try first|contradiction|omega))
  exact⟨I4,[],⟨rfl,rfl⟩,hm.left (H:= [])⟩
 rw[if_neg hal];have hal0:A5k its= []:=Classical.not_not.1 hal;rw[hal0]at hD1;have hus:=B1M hA.nm (by omega);have hD:=fun (J:P6) (m:Le I3 J)=>C34 at_ J (q3.le m) hA.len hA.nm hus
 have hpo:=fun df=>C1I (s:=s) (its:=its) (at_:=at_) (df:=df) (fun x hx=>(hA.nm x hx).st0)
 cases hdf:B6N its at_ with
 |none=>
  rw[hdf]at hD;dsimp only
  repeat' (first|refine F6 (d:=30) ?_ hm (hp:=pm0) (hc:=hD1);clear hm;rintro _ I4 _ _ ⟨rfl,da,dp,rfl,hrd⟩ hleI4 hm;try simp only[F9]at hm;have hp84:=hp8.le hleI4|refine F6 (d:=36) ?_ hm (hp:=pm0) (hc:=hD I4 hleI4);clear hm;rintro _ I5 _ _ ⟨rfl,rfl⟩ hleI5 hm;simp only[C0S];try simp only[F9]at hm|refine X3 ?_ hm|refine D8 ?_|refine D6 ?_|refine A0F ?_|refine G7 ?_|refine Y9 ?_|refine W9 ?_|refine D9 ?_|refine A7 ?_|refine G8 ?_|refine E8 ?_|refine A8 ?_|refine G5 ?_|refine H8 ?_|refine A1T ?_|refine H6 ?_|refine F7 ?_)
  exact⟨I5,[],⟨rfl,rfl⟩,hm.left (H:= [])⟩
 |some df=>
 rw[hdf]at hD;dsimp only
 have hNm:∀J:P6,CalR prog 51 #[str nm] J [] (.bool (Sp.name nm)):=fun J=>⟨fun w _ _=>A8N nm hnm w⟩
 cases hn:Sp.name nm with
 |false=>
  rw[hn]at hNm;rw[if_pos rfl];dsimp only
  repeat' (first|refine F6 (d:=30) ?_ hm (hp:=pm0) (hc:=hD1);clear hm;rintro _ I4 _ _ ⟨rfl,da,dp,rfl,hrd⟩ hleI4 hm;try simp only[F9]at hm;have hp84:=hp8.le hleI4|refine F6 (d:=36) ?_ hm (hp:=pm0) (hc:=hD I4 hleI4);clear hm;rintro _ I5 _ _ ⟨rfl,rfl⟩ hleI5 hm;simp only[C0S];try simp only[F9]at hm|refine S9 (d:=42) ?_ hm (hc:=hNm I5);clear hm;intro _ hm|refine X3 ?_ hm|refine D8 ?_|refine D6 ?_|refine A0F ?_|refine G7 ?_|refine Y9 ?_|refine W9 ?_|refine D9 ?_|refine A7 ?_|refine G8 ?_|refine E8 ?_|refine A8 ?_|refine G5 ?_|refine H8 ?_|refine A1T ?_|refine H6 ?_|refine F7 ?_)
  exact⟨I5,[],⟨rfl,rfl⟩,hm.left (H:= [])⟩
 |true=>
 rw[hn]at hNm;rw[if_neg (by decide)];have hnl:=C5o hn;have hM:=fun (J:P6) (m:Le I3 J)=>C0u J (hp8.le m) (q3.le m) (fun x hx=>Sp.ItN.pl hA.len (hA.nm x hx))
 have hP:=fun (J:P6) (m:Le I3 J)=>C1P df J (hp8.le m) (q3.le m) hA.len hA.nm hus
 obtain⟨n0,hn0,hpl,hold⟩:=hpo df hdf;obtain⟨hup,hpm⟩:=B4M its df;have hll:=B9s its df;have hn0l:n0.length<=4000:=by
  obtain⟨p,_,h1,_⟩:=hpl df ((hpm df).2 (.inl rfl));have:=hA.len;omega
 have hmd:=A9v (fun x hx=>Sp.ItN.pl hA.len (hA.nm x hx));generalize A35 its df=l at hP hpl hup hll |-;generalize A3n its=md at hM hold hmd |-;repeat' (first|refine F6 (d:=30) ?_ hm (hp:=pm0) (hc:=hD1);clear hm;rintro _ I4 _ _ ⟨rfl,da,dp,rfl,hrd⟩ hleI4 hm;try simp only[F9]at hm;have hp84:=hp8.le hleI4|refine F6 (d:=36) ?_ hm (hp:=pm0) (hc:=hD I4 hleI4);clear hm;rintro _ I5 _ _ ⟨rfl,rfl⟩ hleI5 hm;simp only[C0S];try simp only[F9]at hm|refine S9 (d:=42) ?_ hm (hc:=hNm I5);clear hm;intro _ hm|refine F6 (d:=44) ?_ hm (hp:=pm0) (hc:=hM I5 (hleI4.trans hleI5));clear hm;rintro _ I6 _ _ ⟨rfl,ma,mp,rfl,hrm⟩ hleI6 hm;try simp only[F9]at hm|refine X3 ?_ hm|refine D8 ?_|refine D6 ?_|refine A0F ?_|refine G7 ?_|refine Y9 ?_|refine W9 ?_|refine D9 ?_|refine A7 ?_|refine E8 ?_|refine A8 ?_|refine F5 ?_|refine G5 ?_|refine F7 ?_)
 replace hm:=hm.left (H:= []);have hle36:=(hleI4.trans hleI5).trans hleI6;refine U2 (fun k:Nat=> [(0,str s),(2,str nm),(8,ptr b8),(10,.int .i64 df),(12,str (B5C (md.take k) df)),(44,.slice ma md.length mp),(45,nt md.length),(46,nt k)])
  (fun k w'=>Mem E I6 [] w'/\k<=md.length) (fun k=>md.length-k) 0
  (by exact⟨rfl,rfl,rfl,rfl,rfl,rfl,rfl,rfl,trivial⟩) ⟨hm,H7 _⟩ ?_
 clear hm;rintro k w1 ⟨hm,hk⟩;try dsimp only at hm hk |-
 by_cases hlt:k<md.length
 ·have hg:md[k]?=some md[k]:=G6 hlt
  have hst:=C1x hg df;have hgk:md[((k:Nat):Int).toNat]?=some md[k]:=hg;generalize md[k]=d at hg hst hgk;generalize B5C (md.take k) df=o at hst |-;by_cases hd:d.at_=df
  ·rw[if_pos hd]at hst
   repeat' (first|refine Q9 (d:=48) (enc:=A5H) (z:=d) ?_ (hr:=hrm) (he:=fun _=>rfl) (hz:=hgk);intro bt ot hpt|refine Y5 (d:=14) ?_ hm;clear hm;intro b14 _ hm|refine J4 ?_ hm|refine X3 ?_ hm|refine D8 ?_|refine D6 ?_|refine J6 ?_|refine N9 ?_|refine P7 ?_|refine C9 ?_|refine D9 ?_|refine A7 ?_|refine D7 ?_|refine E8 ?_|refine A8 ?_|refine F5 ?_|refine G5 ?_|(refine D5 (ht:=fun _=>?_) (hf:=fun _=>?_)<;>try first|contradiction|omega))
   exact L9 (k+1:Nat) (by exact⟨rfl,rfl,rfl,rfl,by rw[hst];rfl,rfl,rfl,rfl,trivial⟩) ⟨hm.tl,by omega⟩ (by omega)
  ·rw[if_neg hd]at hst
   repeat' (first|refine Q9 (d:=48) (enc:=A5H) (z:=d) ?_ (hr:=hrm) (he:=fun _=>rfl) (hz:=hgk);intro bt ot hpt|refine Y5 (d:=14) ?_ hm;clear hm;intro b14 _ hm|refine J4 ?_ hm|refine X3 ?_ hm|refine D8 ?_|refine J6 ?_|refine N9 ?_|refine P7 ?_|refine C9 ?_|refine D9 ?_|refine A7 ?_|refine D7 ?_|refine E8 ?_|refine A8 ?_|refine F5 ?_|refine G5 ?_|(refine D5 (ht:=fun _=>?_) (hf:=fun _=>?_)<;>try first|contradiction|omega))
   exact L9 (k+1:Nat) (by exact⟨rfl,rfl,rfl,rfl,by rw[hst];rfl,rfl,rfl,rfl,trivial⟩) ⟨hm.tl,by omega⟩ (by omega)
 obtain rfl:k=md.length:=by omega
 rw[V5];generalize B5C md df=old at hold |-;have hol:old.length<=4000:=by
  rcases hold with rfl|rfl
  ·exact H7 _
  ·exact hn0l
 have hsafe:=C2C (s:=s) (nm:=nm) hup hpl hn0 old.length (by rcases hold with rfl|rfl<;>simp);repeat' (first|refine F6 (d:=58) ?_ hm (hp:=pm0) (hc:=hP I6 hle36);clear hm;rintro _ I7 _ _ ⟨rfl,pa,pp,rfl,hrp⟩ hleI7 hm;try simp only[F9]at hm|refine D8 ?_|refine D6 ?_|refine J6 ?_|refine G7 ?_|refine D9 ?_|refine A7 ?_|refine H9 ?_|refine H5 ?_|refine E8 ?_|refine A8 ?_|refine F5 ?_|refine P9 ?_|(refine D5 (ht:=fun _=>?_) (hf:=fun _=>?_)<;>try first|contradiction|omega))
 replace hm:=hm.left (H:= []);have hle37:=hle36.trans hleI7;refine U2 (fun k:Nat=> [(0,str s),(2,str nm),(8,ptr b8),(12,str old),(15,.slice pa l.length pp),(16,str (A53 s nm old.length (l.take k) ([],0)).1),(17,.int .i64 (A53 s nm old.length (l.take k) ([],0)).2),(59,.slice pa l.length pp),(60,nt l.length),(61,nt k)])
  (fun k w'=>Mem E I7 [] w'/\k<=l.length) (fun k=>l.length-k) 0
  (by exact⟨rfl,rfl,rfl,rfl,rfl,rfl,rfl,rfl,rfl,rfl,trivial⟩) ⟨hm,H7 _⟩ ?_
 clear hm;rintro k w1 ⟨hm,hk⟩;try dsimp only at hm hk |-
 obtain⟨g1,g2,g3,g4⟩:=hsafe k hk;have hkn:k *nm.length<=l.length *12:=Nat.mul_le_mul hk hnl;have hsl:=hA.len;by_cases hlt:k<l.length
 ·have hg:l[k]?=some l[k]:=G6 hlt
  have hst:=B4h s nm old.length hg ([],0);have hgk:l[((k:Nat):Int).toNat]?=some l[k]:=hg;obtain⟨g5,g6⟩:=g3 _ hg;generalize l[k]=z at hg hst hgk g5 g6;generalize A53 s nm old.length (l.take k) ([],0)=c at hst g1 g2 g4 g5 |-;have hcl:((s.drop c.2.toNat).take (z.toNat-c.2.toNat)).length<=4000:=by
   rw[Q4,A0r];omega
  repeat' (first|refine Q9 (d:=63) (enc:=B0d) (z:=z) ?_ (hr:=hrp) (he:=fun _=>rfl) (hz:=hgk);intro bt ot hpt|refine A6G (d:=71) ?_ (h:=by omega)|refine A6G (d:=72) ?_ (h:=by rw[E9];omega)|refine A1w ?_ hm|refine D8 ?_|refine D6 ?_|refine J6 ?_|refine A0G ?_|refine P7 ?_|refine B0S ?_|refine D9 ?_|refine A7 ?_|refine D7 ?_|refine E8 ?_|refine A8 ?_|refine F5 ?_|refine G5 ?_|(refine D5 (ht:=fun _=>?_) (hf:=fun _=>?_)<;>try first|contradiction|omega))
  exact L9 (k+1:Nat) (by exact⟨rfl,rfl,rfl,rfl,rfl,by rw[hst];rfl,by rw[hst];rfl,rfl,rfl,rfl,trivial⟩) ⟨hm,by omega⟩ (by omega)
 obtain rfl:k=l.length:=by omega
 rw[V5]at g1 g2 g4 |-;obtain⟨t,ht⟩:∃t,t=C63 s nm old.length l:=⟨_,rfl⟩;rw[<-ht];rw[C63]at ht;generalize A53 s nm old.length l ([],0)=c at ht g1 g2 g4 |-;have htl:t.length<=9223372036854775807:=by
  rw[ht,E9,A0r];omega
 have hF2:=hF t htl;have hle07:=hle03.trans hle37;by_cases h1:Z5 t≠0
 ·rw[if_pos h1]
  dsimp only
  generalize Z5 t=er at hF2 h1;generalize J7 t=it2 at hF2;repeat' (first|refine A6G (d:=82) ?_ (h:=by rw[ht,E9]at htl;exact htl);rw[<-ht]|refine F6 (d:=85) ?_ hm (hp:=pm0) (hc:=hF2 I7 hle07);clear hm;rintro _ I8 _ _ ⟨a2,cp2,xs2,rfl,hrow2,hits2,rfl⟩ hleI8 hm;try simp only[F9]at hm|refine Y5 (d:=20) ?_ hm;clear hm;intro b20 _ hm|refine D8 ?_|refine D6 ?_|refine J6 ?_|refine A0y ?_|refine W9 ?_|refine A7d ?_|refine D9 ?_|refine A7 ?_|refine G8 ?_|refine H9 ?_|refine H5 ?_|refine E8 ?_|refine A8 ?_|refine P9 ?_|refine H8 ?_|refine A1T ?_|(refine D5 (ht:=fun _=>?_) (hf:=fun _=>?_)<;>try first|contradiction|omega))
  exact⟨I8,[],⟨rfl,rfl⟩,hm.left (H:= [])⟩
 rw[if_neg h1];have h11:Z5 t=0:=by omega
 rw[h11]at hF2;have hA2:=B2s h11;generalize J7 t=it2 at hF2 hA2 |-;have hfew2:=hA2.few;repeat' (first|refine A6G (d:=82) ?_ (h:=by rw[ht,E9]at htl;exact htl);rw[<-ht]|refine F6 (d:=85) ?_ hm (hp:=pm0) (hc:=hF2 I7 hle07);clear hm;rintro _ I8 _ _ ⟨a2,cp2,xs2,rfl,hrow2,hits2,rfl⟩ hleI8 hm;try simp only[F9]at hm|refine A0H 30 ?_|refine Y5 (d:=20) ?_ hm;clear hm;intro b20 _ hm|refine D8 ?_|refine D6 ?_|refine J6 ?_|refine A0y ?_|refine W9 ?_|refine A7d ?_|refine D9 ?_|refine A7 ?_|refine H9 ?_|refine H5 ?_|refine E8 ?_|refine A8 ?_|refine G5 ?_|refine P9 ?_|refine F7 ?_|(refine D5 (ht:=fun _=>?_) (hf:=fun _=>?_)<;>try first|contradiction|omega))
 obtain⟨I9,hle9,hm9,hp20⟩:=hm.freezeO;clear hm;have hm:=hm9;clear hm9;have hp20:PtrI I9 b20 0 25 [.slice a2 it2.length cp2]:=hp20;have q9:=(B99 hrow2 hits2 hfew2).le hle9;have hle39:=(hle37.trans hleI8).trans hle9;have hq9:=q3.le hle39;have hp89:=hp8.le hle39;have hrp9:=(hrp.le hleI8).le hle9;have hD2:=C0s I9 q9 hA2;refine⟨?_⟩
 by_cases hal2:A5k it2≠ []
 ·rw[if_pos hal2]
  dsimp only
  have hpos:0<(A5k it2).length:=A3S.2 hal2;generalize A5k it2=ds at hD2 hpos;repeat' (first|refine F6 (d:=92) ?_ hm (hp:=pm0) (hc:=hD2);clear hm;rintro _ I10 _ _ ⟨rfl,db,dq,rfl,hrd2⟩ hleI10 hm;try simp only[F9]at hm|refine X3 ?_ hm|refine D8 ?_|refine D6 ?_|refine O9 ?_|refine A0F ?_|refine G7 ?_|refine A0N ?_|(refine N8 (h1:=fun _=>?_) (h0:=fun _=>?_)<;>try first|contradiction|omega)|refine D9 ?_|refine A7 ?_|refine G8 ?_|refine E8 ?_|refine A8 ?_|refine H8 ?_|refine A1T ?_|refine H6 ?_)
  exact⟨I10,[],⟨rfl,rfl⟩,hm.left (H:= [])⟩
 rw[if_neg hal2];have hal20:A5k it2= []:=Classical.not_not.1 hal2;rw[hal20]at hD2;have hus2:=B1M hA2.nm (by omega);have hAl:=fun (J:P6) (m:Le I9 J)=>C33 (s1:=s) (s2:=t) (i1:=its) (i2:=it2) ((nm.length:Int)-old.length) J (hp89.le m) (hp20.le m) (hq9.le m) (q9.le m) hA.len hA2.len hA.nm hA2.nm hus hus2 (hrp9.le m) (by omega) (by omega)
 cases hak:B47 (A1Z its) (A1Z it2) l ((nm.length:Int)-old.length) with
 |false=>
  rw[hak]at hAl;rw[if_pos rfl];dsimp only
  repeat' (first|refine F6 (d:=92) ?_ hm (hp:=pm0) (hc:=hD2);clear hm;rintro _ I10 _ _ ⟨rfl,db,dq,rfl,hrd2⟩ hleI10 hm;try simp only[F9]at hm|refine F6 (d:=102) ?_ hm (hp:=pm0) (hc:=hAl I10 hleI10);clear hm;rintro _ I11 _ _ ⟨rfl,rfl⟩ hleI11 hm;try simp only[F9]at hm|refine X3 ?_ hm|refine D8 ?_|refine D6 ?_|refine L8 ?_|refine A0F ?_|refine A0G ?_|refine G7 ?_|refine Y9 ?_|refine A3i ?_|refine D9 ?_|refine A7 ?_|refine G8 ?_|refine E8 ?_|refine A8 ?_|refine H8 ?_|refine A1T ?_|refine H6 ?_)
  exact⟨I11,[],⟨rfl,rfl⟩,hm.left (H:= [])⟩
 |true=>
  rw[hak]at hAl;rw[if_neg (by decide)];repeat' (first|refine F6 (d:=92) ?_ hm (hp:=pm0) (hc:=hD2);clear hm;rintro _ I10 _ _ ⟨rfl,db,dq,rfl,hrd2⟩ hleI10 hm;try simp only[F9]at hm|refine F6 (d:=102) ?_ hm (hp:=pm0) (hc:=hAl I10 hleI10);clear hm;rintro _ I11 _ _ ⟨rfl,rfl⟩ hleI11 hm;try simp only[F9]at hm|refine X3 ?_ hm|refine D8 ?_|refine D6 ?_|refine L8 ?_|refine A0F ?_|refine A0G ?_|refine G7 ?_|refine Y9 ?_|refine A3i ?_|refine D9 ?_|refine A7 ?_|refine E8 ?_|refine A8 ?_|refine G5 ?_|refine H8 ?_|refine A1T ?_|refine F7 ?_)
  exact⟨I11,[],⟨rfl,rfl⟩,hm.left (H:= [])⟩
end Go.Proofs
