/- Own work. -/
import Derived.Test.YtbmbnippbldmfaaGreatDoorRa18
set_option maxHeartbeats 64000000
namespace Go.Sp
theorem C9g {l:List Par}{k:Nat}{p:Par} (h:l[k]?=some p):(A8o l).getD k []=p.name++ [58,32]++A2X p.label:=by
 rw[N9,A8o,Y6,h];rfl
theorem C3T (l:List Rf):∀ {j k:Nat},j<=k->(A6Z l j).length<=(A6Z l k).length
 |j,0,h=>by
  obtain rfl:j=0:=by omega
  exact H7 _
 |j,k+1,h=>by
  by_cases e:j=k+1
  ·subst e;exact H7 _
  ·have:=C3T l (j:=j) (k:=k) (by omega)
   rw[A89,D9];omega
theorem C4U {its:List Itm}{k:Nat}{it:Itm} (h:its[k]?=some it):A0F (its.take (k+1))=A0F (its.take k)++A4Z it:=by
 rw[A0F,A2N,h,X0, <-A0F];simp
theorem D0G (its:List Itm) (k:Nat):(A0F (its.take k)).length<=(A0F its).length:=by
 have:A0F its=A0F (its.take k)++A0F (its.drop k):=by rw[A0F,A0F,A0F, <-X0,A23]
 rw[this,D9];omega
theorem D07 {it:Itm} (h:it.fitI):A4Z it≠ []:=by
 rw[A4Z];rcases h.kind with k|⟨k,_⟩
 ·rw[if_neg (by omega),if_pos k];simp
 ·rw[if_pos k];simp
theorem B2x (s:List UInt8) (h:∀it∈G8 s,it.diags= []):(A0F (G8 s)).length<=100000000000000:=by
 have hg:=A93 s h;have hc:∀it∈G8 s,it.fitI/\U1 it.body<=400000000:=fun it hit=>by
  refine⟨hg it hit,?_⟩
  rw[G8]at hit;split at hit
  ·rename_i h0
   rw[A3Z,Y7]at hit;obtain⟨j,_,rfl⟩:=hit;have h4:s.length<=4000:=by
    rw[Y1]at h0;split at h0
    ·cases h0
    ·omega
   have hp:(A1v s (A0l s) j).length<=s.length:=by rw[A1v,P9,A0v];omega
   have:=B15 (A1v s (A0l s) j) ((A0l s).getD j 0);show U1 (item _ _).body<=_
   omega
  ·cases hit
 have h1:=B9h (its:=G8 s) (m:=400000000) hc;have h2:=A7a s;have h3:(G8 s).length *(400+160 *400000000)<=64 *(400+160 *400000000):=A5a _ (by omega);omega
def B6c (s:List UInt8):Bool:=decide (Y1 s=0) && (G8 s).all (fun it=>it.diags.isEmpty)
theorem C0f {s:List UInt8} (h:B6c s=true):Y1 s=0/\∀it∈G8 s,it.diags= []:=by
 rw[B6c,Q3,decide_eq_true_eq]at h;refine⟨h.1,fun it hit=>?_⟩
 have:=A2O.1 h.2 it hit;simpa using this
theorem C4Y (n:List UInt8) {l:List Lc}{k:Nat}{x:Lc} (h:l[k]?=some x):A1u (l.take (k+1)) n=if x.name=n then some x else A1u (l.take k) n:=by
 rw[U2 h,B1Y]
end Go.Sp
namespace Go.Fw
open Go.Sp
theorem B8m {R:List HItem}{a b c d:HItem}:∀h∈ [a,b,c,d],h∈a::b::c::d::R:=by simp
theorem A5A {R:List HItem}{a b c d:HItem}:(a::b::c::d::R).Perm ([a,b,c,d]++R):=.refl _
theorem B9N {R:List HItem}{a b c d x:HItem}:(x::a::b::c::d::R).Perm ([a,b,c,d]++(x::R)):=
 (pm3_1 (R:=d::R)).trans (((List.Perm.swap d x R).cons c).cons b|>.cons a)
end Go.Fw
namespace Go.Sp
theorem C8R {b:Int}{sc:List Lc}{a:Nat}{n:List UInt8}{s:NW}{l:Lc} (h:A1u sc n=some l):A8i b sc a n s=s.use b a n (b+l.at_):=by rw[A8i,h]
theorem C8Q {b:Int}{sc:List Lc}{a:Nat}{n:List UInt8}{s:NW} (h:A1u sc n=none):A8i b sc a n s=if n= [] then s else s.tell a 6 n:=by rw[A8i,h]
theorem C8L {its:List Itm}{b k:Int}{a:Nat}{n:List UInt8}{s:NW}{j:Nat} (h:A0M its k n=some j):A5Y its b k a n s=s.use b a n ((X7 its j).at_+(X7 its j).mark):=by rw[A5Y,h]
theorem C8K {its:List Itm}{b k:Int}{a:Nat}{n:List UInt8}{s:NW} (h:A0M its k n=none):A5Y its b k a n s=if n= [] then s else s.tell a 6 n:=by rw[A5Y,h]
theorem D1s {n:List UInt8}{a:Nat}{sc:List Lc}{s:NW}{l:Lc} (hn:n≠ []) (h:A1u sc n=some l):mkN n a sc s=(sc++ [⟨n,a⟩],s.tell a 7 n):=by rw[mkN,if_neg hn,h]
theorem D1q {n:List UInt8}{a:Nat}{sc:List Lc}{s:NW} (hn:n≠ []) (h:A1u sc n=none):mkN n a sc s=(sc++ [⟨n,a⟩],s):=by rw[mkN,if_neg hn,h]
def B7x (its:List Itm) (b:Int) (sc:List Lc) (e:Ex) (s:NW):NW:=if e.kind=2 then A8i b sc e.fr e.name s else if e.kind=4 then A5x its b e.fr e.name e.args.length s else s
theorem D6j (its:List Itm) (b:Int) (sc:List Lc) (e:Ex) (s:NW):exN its b sc e s=A5t its b sc e.args (B7x its b sc e s):=by cases e;rw[exN,B7x];rfl
theorem D3T (its:List Itm) (b:Int) (sc:List Lc) (e:Ex) (s:NW):s.n<=(B7x its b sc e s).n/\(B7x its b sc e s).n<=s.n+2:=by
 have h1:=C5n b sc e.fr e.name s;have h2:=C6N its b e.fr e.name e.args.length s;rw[B7x];split
 ·omega
 ·split<;>omega
theorem D0i (e:Ex):e.cnt=A1X e.args+1:=by cases e;rw[Ex.cnt];rfl
theorem C2q {l:List Ex}{k:Nat}{y:Ex} (h:l[k]?=some y):A1X (l.take k)+y.cnt<=A1X l:=by
 have e:l=l.take (k+1)++l.drop (k+1):=(A23 _ _).symm;have h2:=congrArg A1X e;rw[A6E,U2 h,A6E,A8N]at h2;omega
theorem C4D {its:List Itm}{b:Int}{a:Nat}{n:List UInt8}{m:Nat}{s:NW} (h:A0M its 2 n=none):A5x its b a n m s=A5Y its b 2 a n s:=by rw[A5x,h]
theorem C4E {its:List Itm}{b:Int}{a:Nat}{n:List UInt8}{m:Nat}{s:NW}{j:Nat} (h:A0M its 2 n=some j):A5x its b a n m s=if (X7 its j).params.length≠m then (A5Y its b 2 a n s).tell a 5 n else A5Y its b 2 a n s:=by rw[A5x,h]
end Go.Sp
namespace Go.Proofs
open Go.Proofs.Tryz
open Go.Sp
open Go.Fw
theorem D6L {x:HItem}{A:List HItem}:(A++ [x]).Perm (x::A):=A1o
theorem D7m {I0:P8} (hT:B1I I0) {bw:Nat}{it:Sp.Itm} (hfit:it.fitI) {I:P8}{b o tc:Nat}{cs:List Value}{out:List UInt8}{u:Bool}{a:Option Addr}{cp:Nat} (hle0:Le I0 I) (hlen:out.length+(A4Z it).length<=100000000000000)
  (hp:PtrI I b o tc cs) (hat:A67 I it cs):
  CalM prog 38 #[ptr bw,.pointer (some ⟨b,o,none⟩)] I (WSt bw out u a cp) (ToW bw (out++A4Z it)):=by
 obtain⟨pa,pc,sa9,sc9,ba9,bc9,da9,dc9,xb,rfl,hpar,hsnd,hrb,hbs,_⟩:=hat
 have hBk:=(C77 hT (bw:=bw) _).2 it.body (H7 _) hfit.body.1 1 (by decide) hfit.body.2;refine CalM.of fun w E hm=>enter (N:=122) func38 rfl [(0,ptr bw),(1,.pointer (some ⟨b,o,none⟩))] A1x rfl ?_
 have hPr:=fun (J:P8)=>B4M (J:=J) it.label hfit.label
 have hnm:=A5Q hfit.named;have hpn:=A5S it.label;have hp5:=hfit.params.1;have hs5:=hfit.sends.1;by_cases k1:it.kind=1
 ·rw[A4Z,if_pos k1]at hlen |-
  generalize A2X it.label=pr at hPr hlen hpn |-;simp only[D9,E9,List.length_nil]at hlen;repeat' (first|refine A0B (id:=2) (hm.perm pm2_0) [0,1,2,3,4,5,6,7,8,9,10,11,12] [13,14,15,16] 17 (by kernel_rfl) ?_;clear hm;intro wd hR hm|refine A3P (d:=21) (s:= [99,104,97,110,32]) (u:=it.name) (by rfl) (by rfl) (by rfl) (by rfl) (by simp only[E9,List.length_nil];omega) ?_|refine A3P (d:=22) (s:= [99,104,97,110,32]++it.name) (u:= [58,32]) (by rfl) (by rfl) (by rfl) (by rfl) (by simp only[D9,E9,List.length_nil];omega) ?_|refine A5m (d:=27) ?_ hR hm (hc:=hPr _);clear hm;intro _ hm|refine A7J (d:=28) (s:= [99,104,97,110,32]++it.name++ [58,32]) (u:=pr) hm.kept (by rfl) (by rfl) (by rfl) (by rfl) (by simp only[D9,E9,List.length_nil];omega) ?_|refine A7J (d:=29) (s:= [99,104,97,110,32]++it.name++ [58,32]++pr) (u:= [59,10]) hm.kept (by rfl) (by rfl) (by rfl) (by rfl) (by simp only[D9,E9,List.length_nil];omega) ?_|refine V8 (d:=30) ?_ hm (hp:=pm2_0) (hc:=A0L bw out ([99,104,97,110,32]++it.name++ [58,32]++pr++ [59,10]) u a cp (by simp only[D9,E9,List.length_nil];omega));clear hm;rintro _ I3 _ _ ⟨b3,cq3,rfl⟩ hleI3 hm;rw[J4]at hm|refine A0G ?_ hR|refine A0K ?_;replace hm:=hR.back hm;clear hR;try simp only[G5]at hm|refine J9 ?_ hm|refine D8 ?_|refine D6 ?_|refine O6 ?_|refine F5 ?_|refine D5 ?_|refine E5 ?_|refine A7 ?_|refine D7 ?_|refine E8 ?_|refine A8 ?_|refine F6 ?_|refine A0p ?_|(refine C9 (ht:=fun _=>?_) (hf:=fun _=>?_)<;>try first|contradiction|omega)|refine A0x ?_|refine U5 ?_|refine N8 ?_|refine A0y ?_)
  exact⟨I3,_,⟨b3,cq3,rfl⟩,hm⟩
 have k2:it.kind=2:=by
  rcases hfit.kind with h|h
  ·exact h
  ·omega
 rw[A4Z,if_neg k1,if_pos k2]at hlen |-;have hcl:=fun j=>B67 (A8o it.params) (j:=j) (k:=it.params.length)
 have hsl:=fun j=>C3T it.sends (j:=j) (k:=it.sends.length)
 generalize hpr:A2X it.label=pr at hPr hlen hpn |-;clear hpr;simp only[D9,E9,List.length_nil]at hlen;repeat' (first|refine A0B (id:=4) (hm.perm pm2_0) [0,1,2,3,4,5,6,7,8] [9] 10 (by kernel_rfl) ?_;clear hm;intro wd hR hm|refine A3P (d:=40) (s:= [102,110,32]) (u:=it.name) (by rfl) (by rfl) (by rfl) (by rfl) (by simp only[E9,List.length_nil];omega) ?_|refine A3P (d:=41) (s:= [102,110,32]++it.name) (u:= [40]) (by rfl) (by rfl) (by rfl) (by rfl) (by simp only[D9,E9,List.length_nil];omega) ?_|refine V8 (d:=42) ?_ hm (hp:=pm2_0) (hc:=A0L bw out ([102,110,32]++it.name++ [40]) u a cp (by simp only[D9,E9,List.length_nil];omega));clear hm;rintro _ I3 _ _ ⟨b3,cq3,rfl⟩ hleI3 hm;rw[J4]at hm;have hp3:=hp.le hleI3|refine A0G ?_ hR|refine A0K ?_;replace hm:=hR.back hm;clear hR;try simp only[G5]at hm|refine J9 ?_ hm|refine D8 ?_|refine D6 ?_|refine O6 ?_|refine G6 ?_|refine F5 ?_|refine D5 ?_|refine E5 ?_|refine A7 ?_|refine E8 ?_|refine A8 ?_|refine F6 ?_|(refine C9 (ht:=fun _=>?_) (hf:=fun _=>?_)<;>try first|contradiction|omega)|refine A0x ?_|refine U5 ?_|refine N8 ?_|refine A0y ?_)
 obtain⟨o1,ho1⟩:∃o1,o1=out++([102,110,32]++it.name++ [40]):=⟨_,rfl⟩;have hl1:o1.length=out.length+it.name.length+4:=by rw[ho1];simp only[D9,E9,List.length_nil];omega
 change Mem E I3 (WSt bw (out++([102,110,32]++it.name++ [40])) true b3 cq3) _ at hm
 rw[<-ho1]at hm;refine U3 (fun x:WrX=> [(0,ptr bw),(1,.pointer (some ⟨b,o,none⟩)),(46,.slice pa it.params.length pc),(47,nt it.params.length),(48,nt x.k)])
  (fun x w'=>Mem E x.I (WSt bw (o1++A4L (A8o it.params) x.k) true x.a x.cp) w'/\Le I x.I/\x.k<=it.params.length) (fun x=>it.params.length-x.k) ⟨0,I3,b3,cq3⟩
  (by exact⟨rfl,rfl,rfl,rfl,rfl,trivial⟩) ⟨by rw[show A4L (A8o it.params) 0= [] from rfl,J4];exact hm,hleI3,H9 _⟩ ?_
 clear hm;rintro⟨k,I5,v5,cq5⟩ w5 ⟨hm,hle5,hk⟩;dsimp only at hm hle5 hk |-;have hp5:=hp.le hle5;by_cases hlt:k<it.params.length
 ·have hg:it.params[k]?=some it.params[k]:=F9 hlt
  obtain⟨hpn1,hpn2⟩:=hfit.params.2 _ (O1 hlt);have hst:=A7y (A8o it.params) k;have hc1:=hcl (k+1) hlt;rw[C9g hg]at hst;rw[hst]at hc1;generalize it.params[k]=p at hg hst hc1 hpn1 hpn2;have hPp:=fun (J:P8)=>B4M (J:=J) p.label hpn2
  have hpl:=A5Q hpn1;have hpl2:=A5S p.label;generalize A2X p.label=pl at hPp hst hc1 hpl2;generalize A4L (A8o it.params) k=ck at hst hc1 hm;have hr5:=hpar.le hle5;simp only[D9,E9,List.length_nil]at hc1;by_cases h0:k=0
  ·subst h0
   rw[if_neg (by decide),L9]at hst;repeat' (first|refine Q4 (d:=51) (enc:=A2L) (z:=p) ?_ (hr:=hr5) (he:=fun _=>rfl) (hz:=by exact hg);intro bz oz hpz|refine A0B (id:=10) (hm.perm pm2_1) [0,1,2,3,4,5,6,7] [8,9,10] 11 (by kernel_rfl) ?_;clear hm;intro wd hR hm|refine A3P (d:=64) (s:=p.name) (u:= [58,32]) (by rfl) (by rfl) (by rfl) (by rfl) (by simp only[E9,List.length_nil];omega) ?_|refine A5m (d:=67) ?_ hR hm (hc:=hPp _);clear hm;intro _ hm|refine A7J (d:=68) (s:=p.name++ [58,32]) (u:=pl) hm.kept (by rfl) (by rfl) (by rfl) (by rfl) (by simp only[D9,E9,List.length_nil];omega) ?_|refine V8 (d:=69) ?_ hm (hp:=pm2_0) (hc:=A0L bw (o1++ck) (p.name++ [58,32]++pl) true v5 cq5 (by simp only[D9,E9,List.length_nil];omega));clear hm;rintro _ I7 _ _ ⟨b7,cq7,rfl⟩ hleI7 hm;rw[J4]at hm|refine A0k ?_ hR|refine A0K ?_;replace hm:=hR.back hm;clear hR;try simp only[G5]at hm|refine X8 (d:=5) ?_ hm;clear hm;intro b5 _ hm|refine U0 ?_ hm|refine P6 ?_ hm;clear hm;intro _ hm;try simp only[G5]at hm|refine D8 ?_|refine D6 ?_|refine J8 ?_|refine A1H ?_|refine O9 ?_|refine E5 ?_|refine A7 ?_|refine D7 ?_|refine E8 ?_|refine A8 ?_|refine F6 ?_|refine G7 ?_|refine F7 ?_|(refine C9 (ht:=fun _=>?_) (hf:=fun _=>?_)<;>try first|contradiction|omega)|refine A0x ?_|refine U5 ?_|refine N8 ?_|refine A0y ?_)
   exact L6 (⟨0+1,I7,b7,cq7⟩:WrX) (by exact⟨rfl,rfl,rfl,rfl,rfl,trivial⟩) ⟨by dsimp only;rw[hst, <-J5];exact hm.left (H:= [_,_]),hle5.trans hleI7,by dsimp only;omega⟩ (by dsimp only;omega)
  ·rw[if_pos (by omega)]at hst
   rw[if_pos (by omega)]at hc1;simp only[E9,List.length_nil]at hc1;repeat' (first|refine Q4 (d:=51) (enc:=A2L) (z:=p) ?_ (hr:=hr5) (he:=fun _=>rfl) (hz:=by exact hg);intro bz oz hpz|refine F8 (d:=58) ?_ hm (hp:=pm2_1) (hc:=A0L bw (o1++ck) [44,32] true v5 cq5 (by simp only[D9,E9,List.length_nil];omega));clear hm;rintro _ I6 _ _ ⟨b6,cq6,rfl⟩ hleI6 hm;replace hm:=hm.perm D6L|refine A0B (id:=10) (hm.perm pm2_1) [0,1,2,3,4,5,6,7] [8,9,10] 11 (by kernel_rfl) ?_;clear hm;intro wd hR hm|refine A3P (d:=64) (s:=p.name) (u:= [58,32]) (by rfl) (by rfl) (by rfl) (by rfl) (by simp only[E9,List.length_nil];omega) ?_|refine A5m (d:=67) ?_ hR hm (hc:=hPp _);clear hm;intro _ hm|refine A7J (d:=68) (s:=p.name++ [58,32]) (u:=pl) hm.kept (by rfl) (by rfl) (by rfl) (by rfl) (by simp only[D9,E9,List.length_nil];omega) ?_|refine V8 (d:=69) ?_ hm (hp:=pm2_0) (hc:=A0L bw (o1++ck++ [44,32]) (p.name++ [58,32]++pl) true b6 cq6 (by simp only[D9,E9,List.length_nil];omega));clear hm;rintro _ I7 _ _ ⟨b7,cq7,rfl⟩ hleI7 hm;rw[J4]at hm|refine A0k ?_ hR|refine A0K ?_;replace hm:=hR.back hm;clear hR;try simp only[G5]at hm|refine X8 (d:=5) ?_ hm;clear hm;intro b5 _ hm|refine U0 ?_ hm|refine P6 ?_ hm;clear hm;intro _ hm;try simp only[G5]at hm|refine D8 ?_|refine D6 ?_|refine J8 ?_|refine A1H ?_|refine F5 ?_|refine O9 ?_|refine D5 ?_|refine E5 ?_|refine A7 ?_|refine D7 ?_|refine E8 ?_|refine A8 ?_|refine F6 ?_|refine G7 ?_|(refine C9 (ht:=fun _=>?_) (hf:=fun _=>?_)<;>try first|contradiction|omega)|refine A0x ?_|refine U5 ?_|refine N8 ?_|refine A0y ?_)
   exact L6 (⟨k+1,I7,b7,cq7⟩:WrX) (by exact⟨rfl,rfl,rfl,rfl,rfl,trivial⟩) ⟨by dsimp only;rw[hst, <-J5, <-J5];exact hm.left (H:= [_,_]),(hle5.trans hleI6).trans hleI7,by dsimp only;omega⟩ (by dsimp only;omega)
 obtain rfl:k=it.params.length:=by omega
 generalize A4L (A8o it.params) it.params.length=ck at hlen hm |-;clear hcl;repeat' (first|refine A0B (id:=12) (hm.perm pm2_0) [0,1,2,3,4,5,6] [7,8,9] 10 (by kernel_rfl) ?_;clear hm;intro wd hR hm|refine A5m (d:=78) ?_ hR hm (hc:=hPr _);clear hm;intro _ hm|refine A7J (d:=79) (s:= [41,58,32]) (u:=pr) hm.kept (by rfl) (by rfl) (by rfl) (by rfl) (by simp only[E9,List.length_nil];omega) ?_|refine V8 (d:=80) ?_ hm (hp:=pm2_0) (hc:=A0L bw (o1++ck) ([41,58,32]++pr) true v5 cq5 (by simp only[D9,E9,List.length_nil];omega));clear hm;rintro _ I6 _ _ ⟨b6,cq6,rfl⟩ hleI6 hm;rw[J4]at hm;have hp6:=hp5.le hleI6|refine A0G ?_ hR|refine A0K ?_;replace hm:=hR.back hm;clear hR;try simp only[G5]at hm|refine J9 ?_ hm|refine D8 ?_|refine J8 ?_|refine G6 ?_|refine F5 ?_|refine D5 ?_|refine E5 ?_|refine A7 ?_|refine H6 ?_|refine G9 ?_|refine E8 ?_|refine A8 ?_|refine F6 ?_|refine O8 ?_|(refine C9 (ht:=fun _=>?_) (hf:=fun _=>?_)<;>try first|contradiction|omega)|refine A0x ?_|refine U5 ?_|refine N8 ?_|refine A0y ?_)
 obtain⟨o2,ho2⟩:∃o2,o2=o1++ck++([41,58,32]++pr):=⟨_,rfl⟩;have hl2:o2.length=o1.length+ck.length+pr.length+3:=by rw[ho2];simp only[D9,E9,List.length_nil];omega
 change Mem E I6 (WSt bw (o1++ck++([41,58,32]++pr)) true b6 cq6) _ at hm
 rw[<-ho2]at hm;have hle6:Le I I6:=hle5.trans hleI6;refine U3 (fun x:WrX=> [(0,ptr bw),(1,.pointer (some ⟨b,o,none⟩)),(84,.slice sa9 it.sends.length sc9),(85,nt it.sends.length),(86,nt x.k)])
  (fun x w'=>Mem E x.I (WSt bw (o2++A6Z it.sends x.k) true x.a x.cp) w'/\Le I x.I/\x.k<=it.sends.length) (fun x=>it.sends.length-x.k) ⟨0,I6,b6,cq6⟩
  (by exact⟨rfl,rfl,rfl,rfl,rfl,trivial⟩) ⟨by rw[show A6Z it.sends 0= [] from rfl,J4];exact hm,hle6,H9 _⟩ ?_
 clear hm;rintro⟨q,I8,b8,cq8⟩ w8 ⟨hm,hle8,hq⟩;dsimp only at hm hle8 hq |-;have hp8:=hp.le hle8;by_cases hlq:q<it.sends.length
 ·have hg:it.sends[q]?=some it.sends[q]:=F9 hlq
  have hpn1:=hfit.sends.2 _ (O1 hlq);have hst:=A89 it.sends q;have hc1:=hsl (q+1) hlq;rw[N9,hg,Option.getD_some]at hst;rw[hst]at hc1;generalize it.sends[q]=p at hg hst hc1 hpn1;have hpl:=A5Q hpn1;generalize A6Z it.sends q=ck2 at hst hc1 hm;have hr8:=hsnd.le hle8;simp only[D9]at hc1;by_cases h0:q=0
  ·subst h0
   rw[if_pos rfl]at hst hc1;simp only[E9,List.length_nil]at hc1;repeat' (first|refine Q4 (d:=89) (enc:=A27) (z:=p) ?_ (hr:=hr8) (he:=fun _=>rfl) (hz:=by exact hg);intro bz oz hpz|refine F8 (d:=96) ?_ hm (hp:=pm2_1) (hc:=A0L bw (o2++ck2) [32,115,101,110,100,115,32] true b8 cq8 (by simp only[D9,E9,List.length_nil];omega));clear hm;rintro _ I9 _ _ ⟨b9,cq9,rfl⟩ hleI9 hm;replace hm:=hm.perm D6L|refine A0B (id:=19) (hm.perm pm2_1) [0,1,2,3,4] [5] 6 (by kernel_rfl) ?_;clear hm;intro wd hR hm|refine V8 (d:=106) ?_ hm (hp:=pm2_0) (hc:=A0L bw (o2++ck2++ [32,115,101,110,100,115,32]) p.name true b9 cq9 (by simp only[D9,E9,List.length_nil];omega));clear hm;rintro _ I10 _ _ ⟨b10,cq10,rfl⟩ hleI10 hm;rw[J4]at hm|refine A0k ?_ hR|refine A0K ?_;replace hm:=hR.back hm;clear hR;try simp only[G5]at hm|refine X8 (d:=7) ?_ hm;clear hm;intro b7 _ hm|refine U0 ?_ hm|refine P6 ?_ hm;clear hm;intro _ hm;try simp only[G5]at hm|refine D8 ?_|refine D6 ?_|refine J8 ?_|refine O6 ?_|refine F5 ?_|refine O9 ?_|refine D5 ?_|refine E5 ?_|refine A7 ?_|refine D7 ?_|refine E8 ?_|refine A8 ?_|refine F6 ?_|refine G7 ?_|refine H5 ?_|(refine C9 (ht:=fun _=>?_) (hf:=fun _=>?_)<;>try first|contradiction|omega)|refine A0x ?_|refine U5 ?_|refine N8 ?_|refine A0y ?_)
   exact L6 (⟨0+1,I10,b10,cq10⟩:WrX) (by exact⟨rfl,rfl,rfl,rfl,rfl,trivial⟩) ⟨by dsimp only;rw[hst, <-J5, <-J5];exact hm.left (H:= [_,_]),(hle8.trans hleI9).trans hleI10,by dsimp only;omega⟩ (by dsimp only;omega)
  ·rw[if_neg h0]at hst hc1
   simp only[E9,List.length_nil]at hc1;repeat' (first|refine Q4 (d:=89) (enc:=A27) (z:=p) ?_ (hr:=hr8) (he:=fun _=>rfl) (hz:=by exact hg);intro bz oz hpz|refine F8 (d:=100) ?_ hm (hp:=pm2_1) (hc:=A0L bw (o2++ck2) [44,32] true b8 cq8 (by simp only[D9,E9,List.length_nil];omega));clear hm;rintro _ I9 _ _ ⟨b9,cq9,rfl⟩ hleI9 hm;replace hm:=hm.perm D6L|refine A0B (id:=19) (hm.perm pm2_1) [0,1,2,3,4] [5] 6 (by kernel_rfl) ?_;clear hm;intro wd hR hm|refine V8 (d:=106) ?_ hm (hp:=pm2_0) (hc:=A0L bw (o2++ck2++ [44,32]) p.name true b9 cq9 (by simp only[D9,E9,List.length_nil];omega));clear hm;rintro _ I10 _ _ ⟨b10,cq10,rfl⟩ hleI10 hm;rw[J4]at hm|refine A0k ?_ hR|refine A0K ?_;replace hm:=hR.back hm;clear hR;try simp only[G5]at hm|refine X8 (d:=7) ?_ hm;clear hm;intro b7 _ hm|refine U0 ?_ hm|refine P6 ?_ hm;clear hm;intro _ hm;try simp only[G5]at hm|refine D8 ?_|refine D6 ?_|refine J8 ?_|refine O6 ?_|refine F5 ?_|refine O9 ?_|refine D5 ?_|refine E5 ?_|refine A7 ?_|refine D7 ?_|refine E8 ?_|refine A8 ?_|refine F6 ?_|refine G7 ?_|(refine C9 (ht:=fun _=>?_) (hf:=fun _=>?_)<;>try first|contradiction|omega)|refine A0x ?_|refine U5 ?_|refine N8 ?_|refine A0y ?_)
   exact L6 (⟨q+1,I10,b10,cq10⟩:WrX) (by exact⟨rfl,rfl,rfl,rfl,rfl,trivial⟩) ⟨by dsimp only;rw[hst, <-J5, <-J5];exact hm.left (H:= [_,_]),(hle8.trans hleI9).trans hleI10,by dsimp only;omega⟩ (by dsimp only;omega)
 obtain rfl:q=it.sends.length:=by omega
 generalize A6Z it.sends it.sends.length=ck2 at hlen hm |-;clear hsl;have hB:=fun (J:P8) (m:Le I J) (o3:List UInt8) (a cp) (ho:o3.length+(B1C it.body 0).length<=100000000000000)=>hBk J 0 ba9 bc9 xb o3 true a cp (hle0.trans m) (H7 _) ho (hrb.le m) (V4.le m _ _ hbs)
 generalize B1C it.body 0=bk at hB hlen |-;repeat' (first|refine F8 (d:=111) ?_ hm (hp:=pm2_0) (hc:=A6p bw (o2++ck2) 32 true b8 cq8 (by simp only[D9];omega));clear hm;rintro _ I9 _ _ ⟨b9,cq9,rfl⟩ hleI9 hm;rw[J4]at hm;have hp9:=hp8.le hleI9|refine F8 (d:=117) ?_ hm (hp:=pm2_0) (hc:=hB I9 (hle8.trans hleI9) (o2++ck2++ [32]) b9 cq9 (by simp only[D9,E9,List.length_nil];omega));clear hm;rintro _ I10 _ _ ⟨b10,cq10,rfl⟩ hleI10 hm;rw[J4]at hm|refine F8 (d:=121) ?_ hm (hp:=pm2_0) (hc:=A6p bw (o2++ck2++ [32]++bk) 10 true b10 cq10 (by simp only[D9,E9,List.length_nil];omega));clear hm;rintro _ I11 _ _ ⟨b11,cq11,rfl⟩ hleI11 hm;rw[J4]at hm|refine J9 ?_ hm|refine D8 ?_|refine J8 ?_|refine F5 ?_|refine D5 ?_|refine E5 ?_|refine A7 ?_|refine H6 ?_|refine D7 ?_|refine G9 ?_|refine E8 ?_|refine A8 ?_|refine O8 ?_|refine A0p ?_|(refine C9 (ht:=fun _=>?_) (hf:=fun _=>?_)<;>try first|contradiction|omega))
 refine⟨I11,_,⟨b11,cq11,?_⟩,hm⟩
 rw[ho2,ho1];simp only[J5]
structure WrY where
 k:Nat
 I:P8
 u:Bool
 a:Option Addr
 cp:Nat
theorem C1y {I:P8}{its:List Sp.Itm}{a:Option Addr}{cp:Nat}{xs:List Value} (hT:B1I I) (hfe:FE I its a cp xs) (hfit:∀it∈its,it.fitI) (hlen:(A0F its).length<=100000000000000):
  CalM prog 11 #[.agg [.slice a its.length cp].toArray] I [] (fun v _ H'=>v=str (A0F its)/\H'= []):=by
 refine CalM.of fun w E hm=>enter (N:=24) func11 rfl [(0,.agg [.slice a its.length cp].toArray)] A0Z rfl ?_
 have hfew:=hfe.few;repeat' (first|refine A0U 1 ?_|refine A0T (d:=1) ?_ hm;clear hm;intro b1 _ hm|refine D6 ?_|refine E5 ?_|refine A7 ?_|refine E8 ?_|refine A8 ?_)
 obtain⟨I2,hle2,hm2,hpf⟩:=hm.freezeO;clear hm;have hm:=hm2;clear hm2;refine⟨?_⟩
 repeat' (first|refine A0T (d:=6) (vs:=[.pointer none,.slice none 0 0]) ?_ hm;clear hm;intro b6 _ hm|refine Y0 (d:=5) ?_|refine A0U 2 ?_|refine D6 ?_|refine E5 ?_|refine A7 ?_|refine E8 ?_|refine A8 ?_)
 have hm:=(hm.nil 5 1).swap;refine⟨?_⟩
 repeat' (first|refine J9 ?_ hm|refine D8 ?_|refine G6 ?_|refine D5 ?_|refine E5 ?_|refine A7 ?_|refine A8 ?_|refine F6 ?_)
 refine U3 (fun x:WrY=> [(1,ptr b1),(3,ptr b6),(9,nt its.length),(10,nt x.k)])
  (fun x w'=>Mem E x.I (WSt b6 (A0F (its.take x.k)) x.u x.a x.cp) w'/\Le I2 x.I/\x.k<=its.length/\(x.k=0->x.a=none)) (fun x=>its.length-x.k) ⟨0,I2,false,none,0⟩
  (by exact⟨rfl,rfl,rfl,rfl,trivial⟩) ⟨hm,Le.refl _,H9 _,fun _=>rfl⟩ ?_
 clear hm;rintro⟨k,I3,u,oa,oc⟩ w3 ⟨hm,hle3,hk,hk0⟩;dsimp only at hm hle3 hk hk0 |-;have hpf3:=hpf.le hle3;have hle03:Le I I3:=hle2.trans hle3;have hfe3:=hfe.le hle03;have hri:=hfe3.row;by_cases hlt:k<its.length
 ·have hg:its[k]?=some its[k]:=F9 hlt
  have hf:=hfit _ (O1 hlt);have hst:=C4U hg;have hl1:=D0G its (k+1);obtain⟨ci,hci,hat,_⟩:=hfe3.get hg;generalize its[k]=it at hg hf hst hat
  rw[hst,D9]at hl1;have hW:=fun (b o tc:Nat) (hp:PtrI I3 b o tc ci)=>D7m (I0:=I) hT (bw:=b6) hf (u:=u) (a:=oa) (cp:=oc) (out:=A0F (its.take k)) hle03 (by omega) hp hat
  repeat' (first|refine O7 (d:=17) ?_ (hr:=hri);intro bt ot hpt;rw[show ((k:Int).toNat *10)=k *10 from rfl,hci]at hpt|refine F8 (d:=18) ?_ hm (hp:=pm2_0) (hc:=hW _ _ _ hpt);clear hm;rintro _ I4 _ _ ⟨b4,cq4,rfl⟩ hleI4 hm;rw[J4]at hm|refine J9 ?_ hm|refine D8 ?_|refine D6 ?_|refine J8 ?_|refine O9 ?_|refine D5 ?_|refine E5 ?_|refine A7 ?_|refine D7 ?_|refine E8 ?_|refine A8 ?_|refine F6 ?_|refine G7 ?_|(refine C9 (ht:=fun _=>?_) (hf:=fun _=>?_)<;>try first|contradiction|omega))
  exact L6 (⟨k+1,I4,true,b4,cq4⟩:WrY) (by exact⟨rfl,rfl,rfl,rfl,trivial⟩) ⟨by dsimp only;rw[hst];exact hm,hle3.trans hleI4,by dsimp only;omega,fun h=>(by dsimp only at h;omega)⟩ (by dsimp only;omega)
 obtain rfl:k=its.length:=by omega
 rw[V7]at hm;have hne:A0F its≠ []\/A0F its= []/\oa=none:=by
  cases its with
  |nil=>exact .inr ⟨rfl,hk0 rfl⟩
  |cons it its=>exact .inl (by rw[A0F,A0c];have:=D07 (hfit it O4);simp[this])
 repeat' (first|refine F8 (d:=23) ?_ hm (hp:=pm2_0) (hc:=C93 b6 (A0F its) u oa oc hne);clear hm;rintro _ I5 _ _ ⟨rfl,rfl⟩ hleI5 hm|refine D8 ?_|refine D6 ?_|refine J8 ?_|refine F5 ?_|refine D5 ?_|refine E5 ?_|refine A7 ?_|refine H6 ?_|refine G9 ?_|refine E8 ?_|refine A8 ?_|refine O8 ?_|refine J3 ?_|refine J7 ?_|(refine C9 (ht:=fun _=>?_) (hf:=fun _=>?_)<;>try first|contradiction|omega))
 exact⟨I5,[],⟨rfl,rfl⟩,hm.left (H:= [])⟩
theorem C4m (I:P8) (hC:Conv I) (hT:B1I I):CalM prog 9 #[] I [] (fun v _ H'=>v=.bool true/\H'= []):=by
 refine CalM.of fun w E hm=>enter (N:=21) func9 rfl [] C1Y rfl ?_
 have h1:=fun (J:P8) (m:Le I J)=>A9R Sp.wrT J (hC.le m) (by decide)
 rw[D5v]at h1;have hfit:=A93 Sp.wrT C4l;have hlen:=B2x Sp.wrT C4l;have l1:=D5w;have hw:=D8p;have hsm:=B3x Sp.wrT;generalize G8 Sp.wrT=its at h1 hfit hlen l1 hw hsm;have hW:=fun (J:P8) (m:Le I J) (a cp xs) (h:FE J its a cp xs)=>C1y (hT.le m) h hfit hlen
 rw[hw]at hW;have hP:=fun (J:P8) (a cp xs) (h:FE J its a cp xs)=>B8y hsm J a cp xs h
 have hE:decide (Sp.wrU=([102,110,32,102,40,120,58,32,123,125,41,58,32,123,97,44,98,125,32,123,10,32,32,105,102,32,40,120,32,61,32,49,41,32,42]:List UInt8).append [32,50,32,123,10,32,32,32,32,114,101,116,117,114,110,32,120,32,45,32,40,49,32,45,32,120,41,59,10,32,32,125,10,125,10])=true:=by decide+kernel
 repeat' (first|refine A0g (d:=12) ?_;rw[hE]|refine F8 (d:=4) ?_ hm (hp:=pm0) (hc:=h1 I (Le.refl _));clear hm;rintro _ I2 _ _ ⟨a,cp,xs,rfl,hrow,hits,rfl⟩ hleI2 hm;try simp only[G5]at hm;have q1:=A7Y hrow hits (by omega)|refine F8 (d:=11) ?_ hm (hp:=pm0) (hc:=hW I2 hleI2 _ _ _ q1);clear hm;rintro _ I3 _ _ ⟨rfl,rfl⟩ hleI3 hm;try simp only[G5]at hm|refine F8 (d:=16) ?_ hm (hp:=pm0) (hc:=hP I3 _ _ _ (q1.le hleI3));clear hm;rintro _ I4 _ _ ⟨rfl,ra,rp,rx,rfl,hrr,hrx⟩ hleI4 hm;try simp only[G5]at hm|refine Y2 (d:=1) ?_ hm;clear hm;intro b1 _ hm|refine Q7 ?_ hm|refine D8 ?_|refine D6 ?_|refine O0 ?_|refine O6 ?_|refine G6 ?_|refine Y8 ?_|refine C9a ?_|refine E5 ?_|refine A7 ?_|refine E8 ?_|refine A8 ?_|refine J3 ?_|refine J7 ?_)
 all_goals exact⟨_,[],⟨by rw[l1];rfl,rfl⟩,hm.left (H:= [])⟩
def D54 (its:List Sp.Itm) (b:Bool):Value->P8->List HItem->Prop:=fun v J H'=>H'= []/\∃a cp xs,v=.tuple #[.agg [.slice a its.length cp].toArray,.bool b]/\RowI J 43 10 (.slice a its.length cp) its.length xs/\A4W J its xs
theorem C79 (s:List UInt8) (hs:s.length<=9223372036854775807) (I:P8) (hC:Conv I):CalM prog 10 #[str s] I [] (D54 (G8 s) (B6c s)):=by
 refine CalM.of fun w E hm=>enter (N:=30) func10 rfl [(0,str s)] A0Z rfl ?_
 have hF:=A9R s I hC hs;have few:=A7a s;rw[B6c];generalize Y1 s=er at hF;generalize G8 s=its at hF few;by_cases h0:er≠0
 ·rw[decide_eq_false h0,A5I]
  repeat' (first|refine F8 (d:=10) ?_ hm (hp:=pm0) (hc:=hF);clear hm;rintro _ I2 _ _ ⟨a,cp,xs,rfl,hrow,hits,rfl⟩ hleI2 hm;try simp only[G5]at hm|refine X8 (d:=2) ?_ hm;clear hm;intro b2 _ hm|refine Y2 (d:=4) ?_ hm;clear hm;intro b4 _ hm|refine Q7 ?_ hm|refine P6 ?_ hm;clear hm;intro _ hm;try simp only[G5]at hm|refine A00 ?_ hm|refine D8 ?_|refine D6 ?_|refine A0w ?_|refine Y8 ?_|refine E5 ?_|refine A7 ?_|refine H8 ?_|refine E8 ?_|refine A8 ?_|refine J3 ?_|(refine C9 (ht:=fun _=>?_) (hf:=fun _=>?_)<;>try first|contradiction|omega))
  all_goals exact⟨I2,[],⟨rfl,a,cp,xs,rfl,hrow,hits⟩,hm.left (H:= [])⟩
 obtain rfl:er=0:=by omega
 rw[decide_eq_true rfl,A3M];repeat' (first|refine F8 (d:=10) ?_ hm (hp:=pm0) (hc:=hF);clear hm;rintro _ I2 _ _ ⟨a,cp,xs,rfl,hrow,hits,rfl⟩ hleI2 hm;try simp only[G5]at hm|refine X8 (d:=2) ?_ hm;clear hm;intro b2 _ hm|refine Y2 (d:=4) ?_ hm;clear hm;intro b4 _ hm|refine J6 ?_ hm|refine D8 ?_|refine D6 ?_|refine A0w ?_|refine G6 ?_|refine Y8 ?_|refine D5 ?_|refine E5 ?_|refine A7 ?_|refine E8 ?_|refine A8 ?_|refine F6 ?_|refine G7 ?_|refine F7 ?_)
 have q1:FE I2 its a cp xs:=A7Y hrow hits few;refine U3 (fun k:Nat=> [(2,ptr b2),(4,ptr b4),(17,.slice a its.length cp),(18,nt its.length),(19,nt k)])
  (fun k w'=>Mem E I2 [.cell b4 [.slice a its.length cp] 25,.cell b2 [.slice none 0 0] 25] w'/\k<=its.length/\(its.take k).all (fun it=>it.diags.isEmpty)=true) (fun k=>its.length-k) 0
  (by exact⟨rfl,rfl,rfl,rfl,rfl,trivial⟩) ⟨hm,H9 _,rfl⟩ ?_
 clear hm;rintro k w3 ⟨hm,hk,hno⟩;try dsimp only at hm hk hno |-
 have hri:=q1.row;by_cases hlt:k<its.length
 ·have hg:its[k]?=some its[k]:=F9 hlt
  have htk:=U2 hg;have hmem:=O1 hlt;obtain⟨cs,hcs,hat,_⟩:=q1.get hg;generalize its[k]=it at hg hat htk hmem;obtain⟨ap,cpp,as_,cs',ab,cb,ad,cd,xb,rfl,_⟩:=hat
  cases hd:it.diags with
  |nil=>
   rw[hd]at hcs;repeat' (first|refine O7 (d:=21) ?_ (hr:=hri);intro bt ot hpt;rw[show ((k:Int).toNat *10)=k *10 from rfl,hcs]at hpt|refine Y2 (d:=7) ?_ hm;clear hm;intro b7 _ hm|refine J6 ?_ hm|refine U0 ?_ hm|refine D8 ?_|refine J8 ?_|refine A1H ?_|refine G6 ?_|refine O9 ?_|refine D5 ?_|refine E5 ?_|refine A7 ?_|refine D7 ?_|refine E8 ?_|refine A8 ?_|refine F6 ?_|refine G7 ?_|refine F7 ?_|(refine C9 (ht:=fun _=>?_) (hf:=fun _=>?_)<;>try first|contradiction|omega))
   exact L6 (k+1:Nat) (by exact⟨rfl,rfl,rfl,rfl,rfl,trivial⟩) ⟨hm.tl,by omega,by rw[htk,A5G,hno];simp[hd]⟩ (by omega)
  |cons d l=>
   have hf:its.all (fun it=>it.diags.isEmpty)=false:=by
    rw[List.all_eq_false];exact⟨it,hmem,by simp[hd]⟩
   rw[hf];rw[hd]at hcs;repeat' (first|refine O7 (d:=21) ?_ (hr:=hri);intro bt ot hpt;rw[show ((k:Int).toNat *10)=k *10 from rfl,hcs]at hpt|refine Y2 (d:=7) ?_ hm;clear hm;intro b7 _ hm|refine J6 ?_ hm|refine Q7 ?_ hm|refine U0 ?_ hm|refine P6 ?_ hm;clear hm;intro _ hm;try simp only[G5]at hm|refine A00 ?_ hm|refine D8 ?_|refine D6 ?_|refine J8 ?_|refine A1H ?_|refine G6 ?_|refine O9 ?_|refine D5 ?_|refine E5 ?_|refine A7 ?_|refine H8 ?_|refine D7 ?_|refine O5 ?_|refine E8 ?_|refine A8 ?_|refine F6 ?_|refine G7 ?_|refine J3 ?_|(refine C9 (ht:=fun _=>?_) (hf:=fun _=>?_)<;>try first|contradiction|omega))
   all_goals try (exfalso;simp only[E9]at *;first|omega|contradiction)
   exact⟨I2,[],⟨rfl,a,cp,xs,rfl,hrow,hits⟩,hm.left (H:= [])⟩
 obtain rfl:k=its.length:=by omega
 rw[V7]at hno;rw[hno];repeat' (first|refine Q7 ?_ hm|refine P6 ?_ hm;clear hm;intro _ hm;try simp only[G5]at hm|refine A00 ?_ hm|refine D6 ?_|refine J8 ?_|refine E5 ?_|refine A7 ?_|refine H6 ?_|refine G9 ?_|refine E8 ?_|refine A8 ?_|refine O8 ?_|refine J3 ?_|(refine C9 (ht:=fun _=>?_) (hf:=fun _=>?_)<;>try first|contradiction|omega))
 exact⟨I2,[],⟨rfl,a,cp,xs,rfl,hrow,hits⟩,hm.left (H:= [])⟩
abbrev B3a (l:Sp.Lc):List Value:= [str l.name,nt l.at_]
abbrev A5y (u:Sp.Us):List Value:= [.int .i64 u.fr,.int .i64 u.to,.int .i64 u.df]
abbrev C7k (sc:List Sp.Lc) (sa:Option Addr) (sp:Nat):HItem:=.row (.slice sa sc.length sp) 252 2 sc.length (sc.flatMap B3a)
abbrev D28 (us:List Sp.Us) (ua:Option Addr) (up:Nat):HItem:=.row (.slice ua us.length up) 58 3 us.length (us.flatMap A5y)
abbrev D78 (bc bf:Nat) (pi:Value) (sc:List Sp.Lc) (sa:Option Addr) (sp:Nat) (s:Sp.NW) (da:Option Addr) (dp:Nat) (ua:Option Addr) (up:Nat):HItem:=
 .obj bc (.cells [ptr bf,pi,.slice sa sc.length sp,.slice da s.ds.length dp,.slice ua s.us.length up].toArray 135 (0,0))
abbrev NSt (bc bf:Nat) (pi:Value) (sc:List Sp.Lc) (sa:Option Addr) (sp:Nat) (s:Sp.NW) (da:Option Addr) (dp:Nat) (ua:Option Addr) (up:Nat):List HItem:=
 [D78 bc bf pi sc sa sp s da dp ua up,D28 s.us ua up,C7k sc sa sp,A6b s.ds da dp]
abbrev ToN (bc bf:Nat) (pi:Value) (sc:List Sp.Lc) (s:Sp.NW) (val:Value):Value->P8->List HItem->Prop:=
 fun v _ H'=>v=val/\∃sa sp da dp ua up,H'=NSt bc bf pi sc sa sp s da dp ua up
structure NRd (J:P8) (bc bf:Nat) (pi:Value) (sc:List Sp.Lc) (sa:Option Addr) (sp:Nat) (v3 v4:Value):Prop where
 ptr:PtrI J bc 0 135 [ptr bf,pi,.slice sa sc.length sp,v3,v4]
 row:RowI J 252 2 (.slice sa sc.length sp) sc.length (sc.flatMap B3a)
def lcV:Option Sp.Lc->Value
 |some l=> .tuple #[.agg [str l.name,nt l.at_].toArray,.bool true]
 |none=> .tuple #[.agg [str [],nt 0].toArray,.bool false]
structure NC (I:P8) (src:List UInt8) (p:Nat) (q:List UInt8) (its:List Sp.Itm) (it:Sp.Itm) (bf:Nat) (a:Option Addr) (cp:Nat) (xs:List Value) (pi:Value):Prop where
 file:PtrI I bf 0 25 [.slice a its.length cp]
 fe:FE I its a cp xs
 item:∃bi oi tc ci,pi=.pointer (some ⟨bi,oi,none⟩)/\PtrI I bi oi tc ci/\A67 I it ci
 len:src.length<=4000
 st:Sp.ItS src p q it
 sts:∀x∈its,B0u src x
theorem NC.le {I J:P8} (m:Le I J) {src:List UInt8}{p:Nat}{q:List UInt8}{its:List Sp.Itm}{it:Sp.Itm}{bf:Nat}{a:Option Addr}{cp:Nat}{xs:List Value}{pi:Value} (h:NC I src p q its it bf a cp xs pi):NC J src p q its it bf a cp xs pi:=by
 obtain⟨h1,h2,⟨bi,oi,tc,ci,e,h3,h4⟩,h5,h6,h7⟩:=h;exact⟨h1.le m,h2.le m,⟨bi,oi,tc,ci,e,h3.le m,h4.le m⟩,h5,h6,h7⟩
section
variable {I:P8}{bc bf sp dp up:Nat}{pi:Value}{sc:List Sp.Lc}{sa da ua:Option Addr}{s:Sp.NW}
theorem CalR.walker {f:FuncId}{args:Array Value}{v:Value} (h:∀J,Le I J->NRd J bc bf pi sc sa sp (.slice da s.ds.length dp) (.slice ua s.us.length up)->CalR prog f args J [] v):
  CalR prog f args I (NSt bc bf pi sc sa sp s da dp ua up) v:=
 CalR.of fun w J hm hl hH hJ=>by
  have h1:=A98 (hH (D78 bc bf pi sc sa sp s da dp ua up) (by simp));have h2:=B9w (hH (C7k sc sa sp) (by simp));rw[<-hJ]at h1 h2;exact(h J hl ⟨h1,h2⟩).run w hm.inv (fun _ h=>by cases h)
theorem C7r {J:P8}{v3 v4:Value} (n:List UInt8) (hs:sc.length<=1099511627776) (h:NRd J bc bf pi sc sa sp v3 v4):CalM prog 153 #[ptr bc,str n] J [] (fun v _ H'=>v=lcV (A1u sc n)/\H'= []):=by
 refine CalM.of fun w E hm=>enter (N:=35) func153 rfl [(0,ptr bc),(1,str n)] A1x rfl ?_
 obtain⟨hp,hr⟩:=h;repeat' (first|refine X8 (d:=4) ?_ hm;clear hm;intro b4 _ hm|refine J9 ?_ hm|refine D8 ?_|refine D6 ?_|refine G6 ?_|refine F5 ?_|refine A5e ?_|refine D5 ?_|refine E5 ?_|refine A7 ?_|refine E8 ?_|refine A8 ?_|refine F6 ?_)
 refine U3 (fun k:Nat=> [(0,ptr bc),(1,str n),(4,ptr b4),(6,.int .i64 ((k:Int)-1))]) (fun k w'=>Mem E J [.cell b4 [str [],nt 0] 252] w'/\k<=sc.length/\A1u sc n=A1u (sc.take k) n) (fun k=>k) sc.length (by exact⟨rfl,rfl,rfl,rfl,trivial⟩) ⟨hm,H7 _,by rw[V7]⟩ ?_
 clear hm;rintro k w1 ⟨hm,hk,hf⟩;try dsimp only at hm hk hf |-
 by_cases h0:0<k
 ·have hg:sc[k-1]?=some sc[k-1]:=F9 (by omega)
  have hcut:=C4Y n hg;rw[show k-1+1=k by omega]at hcut;generalize sc[k-1]=x at hg hcut;rw[hcut]at hf;have hi:sc[((k:Int)-1).toNat]?=some x:=by rw[show ((k:Int)-1).toNat=k-1 by omega];exact hg
  by_cases hx:x.name=n
  ·rw[if_pos hx]at hf
   repeat' (first|refine Q4 (d:=22) (enc:=B3a) (z:=x) ?_ (hr:=hr) (he:=fun _=>rfl) (hz:=hi);intro b1 o1 p1|refine Q4 (d:=32) (enc:=B3a) (z:=x) ?_ (hr:=hr) (he:=fun _=>rfl) (hz:=hi);intro b2 o2 p2|refine J9 ?_ hm|refine U0 ?_ hm|refine P6 ?_ hm;clear hm;intro _ hm;try simp only[G5]at hm|refine A00 ?_ hm|refine D8 ?_|refine D6 ?_|refine A11 ?_|refine A0g ?_|refine F5 ?_|refine D5 ?_|refine E5 ?_|refine A7 ?_|refine H8 ?_|refine O5 ?_|refine E8 ?_|refine A8 ?_|refine F6 ?_|refine G7 ?_|refine J3 ?_|(refine C9 (ht:=fun _=>?_) (hf:=fun _=>?_)<;>try first|contradiction|omega))
   exact⟨J,[],⟨by rw[hf];rfl,rfl⟩,hm.left (H:= [])⟩
  ·rw[if_neg hx]at hf
   repeat' (first|refine Q4 (d:=22) (enc:=B3a) (z:=x) ?_ (hr:=hr) (he:=fun _=>rfl) (hz:=hi);intro b1 o1 p1|refine J9 ?_ hm|refine D8 ?_|refine D6 ?_|refine A11 ?_|refine A0g ?_|refine F5 ?_|refine A5e ?_|refine D5 ?_|refine E5 ?_|refine A7 ?_|refine D7 ?_|refine E8 ?_|refine A8 ?_|refine F6 ?_|refine G7 ?_|(refine C9 (ht:=fun _=>?_) (hf:=fun _=>?_)<;>try first|contradiction|omega))
   refine L6 (k-1:Nat) (by exact⟨rfl,rfl,rfl,by rw[show (((k-1:Nat):Int)-1)=(k:Int)-1-1 by omega];rfl,trivial⟩) ⟨hm,by omega,hf⟩ (by omega)
 ·obtain rfl:k=0:=by omega
  repeat' (first|refine P6 ?_ hm;clear hm;intro _ hm;try simp only[G5]at hm|refine A00 ?_ hm|refine D8 ?_|refine D6 ?_|refine A11 ?_|refine Y0 ?_|refine E5 ?_|refine A7 ?_|refine H6 ?_|refine G9 ?_|refine E8 ?_|refine A8 ?_|refine O8 ?_|refine J3 ?_|refine F7 ?_)
  exact⟨J,[],⟨by rw[hf];rfl,rfl⟩,hm.left (H:= [])⟩
theorem C9T (bc bf:Nat) (pi:Value) (sc:List Sp.Lc) (sa:Option Addr) (sp:Nat) (s:Sp.NW) (f e:Nat) (n:List UInt8) (da:Option Addr) (dp:Nat) (ua:Option Addr) (up:Nat):
  [.obj bc (.cells [ptr bf,pi,.slice sa sc.length sp,.slice da (s.ds.length+1) dp,.slice ua s.us.length up].toArray 135 (0,0)),D28 s.us ua up,C7k sc sa sp,.row (.slice da (s.ds.length+1) dp) 85 4 (s.ds.length+1) (s.ds.flatMap A5F++A5F ⟨f,f+n.length,e,n⟩)]=NSt bc bf pi sc sa sp (s.tell f e n) da dp ua up:=by
 simp[Sp.NW.tell]
theorem D3q (bc bf:Nat) (pi:Value) (sc:List Sp.Lc) (sa:Option Addr) (sp:Nat) (s:Sp.NW) (b:Int) (f:Nat) (n:List UInt8) (d:Int) (da:Option Addr) (dp:Nat) (ua:Option Addr) (up:Nat):
  [.obj bc (.cells [ptr bf,pi,.slice sa sc.length sp,.slice da s.ds.length dp,.slice ua (s.us.length+1) up].toArray 135 (0,0)),.row (.slice ua (s.us.length+1) up) 58 3 (s.us.length+1) (s.us.flatMap A5y++A5y ⟨b+f,b+f+n.length,d⟩),C7k sc sa sp,A6b s.ds da dp]=NSt bc bf pi sc sa sp (s.use b f n d) da dp ua up:=by
 simp[Sp.NW.use]
theorem B5m (n:List UInt8) (f e:Nat) (hf:f+n.length<=1099511627776) (hd:s.n<=1000000000):
  CalM prog 88 #[ptr bc,nt f,nt e,str n] I (NSt bc bf pi sc sa sp s da dp ua up) (ToN bc bf pi sc (s.tell f e n) (.tuple #[])):=by
 have hn:s.n=s.ds.length+s.us.length:=rfl;refine CalM.of fun w E hm=>enter (N:=25) func88 rfl [(0,ptr bc),(1,nt f),(2,nt e),(3,str n)] B6Y rfl ?_
 repeat' (first|refine A2P (d:=22) ?_ hm;clear hm;intro a22 cp22 _ _ hm;try simp only[G5]at hm|refine J6 ?_ hm|refine P5 hm (k:=?_);clear hm;intro _ hm;try simp only[G5]at hm|refine D8 ?_|refine A0m ?_|refine F5 ?_|refine O9 ?_|refine D5 ?_|refine Y0 ?_|refine E5 ?_|refine A8 ?_|refine A0p ?_)
 exact⟨I,_,⟨rfl,_,_,_,_,_,_,C9T _ _ _ _ _ _ s f e n _ _ _ _⟩,hm⟩
theorem D5O {src:List UInt8}{p:Nat}{q:List UInt8}{its:List Sp.Itm}{it:Sp.Itm}{a:Option Addr}{cp:Nat}{xs:List Value} (hC:NC I src p q its it bf a cp xs pi) (f:Nat) (n:List UInt8) (d:Int) (hst:A1j q f n) (hd:s.n<=1000000000):
  CalM prog 154 #[ptr bc,nt f,str n,.int .i64 d] I (NSt bc bf pi sc sa sp s da dp ua up) (ToN bc bf pi sc (s.use p f n d) (.tuple #[])):=by
 have hn:s.n=s.ds.length+s.us.length:=rfl;have hb:=(hC.st.sub _ _ hst).1;have hlen:=hC.len;have hat:=hC.st.at_;refine CalM.of fun w E hm=>enter (N:=40) func154 rfl [(0,ptr bc),(1,nt f),(2,str n),(3,.int .i64 d)] B6Y rfl ?_
 obtain⟨bi,oi,tci,ci,rfl,hpi,hati⟩:=hC.item;obtain⟨pa,pc,sa9,sc9,ba,bc9,da9,dc9,xb,rfl,_⟩:=hati;rw[hat]at hpi;repeat' (first|refine A0R (id:=0) (hm.perm pm1_1) 28 30 (h:=?_);clear hm;intro wd hR hm|refine A0k ?_ hR|refine A0G ?_ hR|refine A3b (d:=37) ?_ hm;clear hm;intro a37 cp37 _ _ hm;replace hm:=hR.back hm;clear hR;try simp only[G5]at hm|refine P5 hm (k:=?_);clear hm;intro _ hm;try simp only[G5]at hm|refine F5 ?_|refine D5 ?_|refine E5 ?_|refine A0p ?_|refine A0x ?_|refine B22 ?_|refine U5 ?_|refine B59 ?_|refine N8 ?_|refine A4U ?_|refine A0y ?_)
 exact⟨I,_,⟨rfl,_,_,_,_,_,_,D3q _ _ _ _ _ _ s p f n d _ _ _ _⟩,hm.swap⟩
end
theorem C1L (bc bf:Nat) (pi:Value) (sc:List Sp.Lc) (sa:Option Addr) (sp:Nat) (s:Sp.NW) (n:List UInt8) (x:Nat) (da:Option Addr) (dp:Nat) (ua:Option Addr) (up:Nat):
  [.obj bc (.cells [ptr bf,pi,.slice sa (sc.length+1) sp,.slice da s.ds.length dp,.slice ua s.us.length up].toArray 135 (0,0)),D28 s.us ua up,.row (.slice sa (sc.length+1) sp) 252 2 (sc.length+1) (sc.flatMap B3a++B3a ⟨n,x⟩),A6b s.ds da dp]=NSt bc bf pi (sc++ [⟨n,x⟩]) sa sp s da dp ua up:=by
 simp
section
variable {I:P8}{bc bf sp dp up:Nat}{pi:Value}{sc:List Sp.Lc}{sa da ua:Option Addr}{s:Sp.NW}
theorem D1z (n:List UInt8) (a:Nat) (ha:a+n.length<=1099511627776) (hs:sc.length<=1000000000) (hd:s.n<=1000000000):
  CalM prog 120 #[ptr bc,str n,nt a] I (NSt bc bf pi sc sa sp s da dp ua up) (ToN bc bf pi (Sp.mkN n a sc s).1 (Sp.mkN n a sc s).2 (.tuple #[])):=by
 refine CalM.of fun w E hm=>enter (N:=33) func120 rfl [(0,ptr bc),(1,str n),(2,nt a)] A4x rfl ?_
 by_cases hn:n= []
 ·subst hn
  repeat' (first|refine D8 ?_|refine A0g ?_|refine E5 ?_|refine A7 ?_|refine H8 ?_|refine E8 ?_|refine A8 ?_|refine J3 ?_|refine A69 ?_|refine H5 ?_)
  exact⟨I,_,⟨rfl,_,_,_,_,_,_,rfl⟩,hm⟩
 have hg:=CalR.walker (I:=I) (bc:=bc) (bf:=bf) (pi:=pi) (sc:=sc) (sa:=sa) (sp:=sp) (s:=s) (da:=da) (dp:=dp) (ua:=ua) (up:=up) (fun J m h=>(C7r n (by omega) h).read);cases hf:A1u sc n with
 |some l=>
  rw[hf]at hg;dsimp only[lcV]at hg;rw[D1s hn hf];have hT:=fun (J:P8)=>B5m (I:=J) (bc:=bc) (bf:=bf) (pi:=pi) (sc:=sc) (sa:=sa) (sp:=sp) (s:=s) (da:=da) (dp:=dp) (ua:=ua) (up:=up) n a 7 ha hd
  repeat' (first|refine U8 (d:=13) ?_ hm (hs:=B8m) (hc:=by exact hg);clear hm;intro _ hm|refine F8 (d:=20) ?_ hm (hp:=B9N) (hc:=hT I);clear hm;rintro _ I2 _ _ ⟨rfl,sa2,sp2,da2,dp2,ua2,up2,rfl⟩ hleI2 hm;try simp only[G5]at hm|refine Y2 (d:=6) ?_ hm;clear hm;intro b6 _ hm|refine A2P (d:=30) ?_ hm;clear hm;intro a30 cp30 _ _ hm;try simp only[G5]at hm|refine J6 ?_ hm|refine P5 hm (k:=?_);clear hm;intro _ hm;try simp only[G5]at hm|refine D8 ?_|refine D6 ?_|refine A0g ?_|refine Y8 ?_|refine F5 ?_|refine D5 ?_|refine Y0 ?_|refine E5 ?_|refine A7 ?_|refine E8 ?_|refine A8 ?_|refine G7 ?_|refine A0p ?_|refine H5 ?_|(refine C9 (ht:=fun _=>?_) (hf:=fun _=>?_)<;>try first|contradiction|omega))
  exact⟨I2,_,⟨rfl,_,_,_,_,_,_,C1L _ _ _ _ _ _ (s.tell a 7 n) n a _ _ _ _⟩,hm.left⟩
 |none=>
  rw[hf]at hg;dsimp only[lcV]at hg;rw[D1q hn hf];repeat' (first|refine U8 (d:=13) ?_ hm (hs:=B8m) (hc:=by exact hg);clear hm;intro _ hm|refine Y2 (d:=6) ?_ hm;clear hm;intro b6 _ hm|refine A2P (d:=30) ?_ hm;clear hm;intro a30 cp30 _ _ hm;try simp only[G5]at hm|refine J6 ?_ hm|refine P5 hm (k:=?_);clear hm;intro _ hm;try simp only[G5]at hm|refine D8 ?_|refine D6 ?_|refine A0g ?_|refine Y8 ?_|refine F5 ?_|refine D5 ?_|refine Y0 ?_|refine E5 ?_|refine A7 ?_|refine E8 ?_|refine A8 ?_|refine G7 ?_|refine A0p ?_|refine F7 ?_|(refine C9 (ht:=fun _=>?_) (hf:=fun _=>?_)<;>try first|contradiction|omega))
  exact⟨I,_,⟨rfl,_,_,_,_,_,_,C1L _ _ _ _ _ _ s n a _ _ _ _⟩,hm.tl⟩
variable {src:List UInt8}{p:Nat}{q:List UInt8}{its:List Sp.Itm}{it:Sp.Itm}{a:Option Addr}{cp:Nat}{xs:List Value}
theorem C7s (hC:NC I src p q its it bf a cp xs pi) (f:Nat) (n:List UInt8) (hst:A1j q f n) (hsc:A8y q sc) (hs:sc.length<=1000000000) (hd:s.n<=1000000000):
  CalM prog 187 #[ptr bc,nt f,str n] I (NSt bc bf pi sc sa sp s da dp ua up) (ToN bc bf pi sc (A8i p sc f n s) (.tuple #[])):=by
 have hb:=(hC.st.sub _ _ hst).1;have hlen:=hC.len;have hat:=hC.st.at_;refine CalM.of fun w E hm=>enter (N:=35) func187 rfl [(0,ptr bc),(1,nt f),(2,str n)] A4x rfl ?_
 have hg:=CalR.walker (I:=I) (bc:=bc) (bf:=bf) (pi:=pi) (sc:=sc) (sa:=sa) (sp:=sp) (s:=s) (da:=da) (dp:=dp) (ua:=ua) (up:=up) (fun J m h=>(C7r n (by omega) h).read);cases hf:A1u sc n with
 |some l=>
  rw[hf]at hg;dsimp only[lcV]at hg;rw[C8R hf];have hl:=(hC.st.sub _ _ (hsc _ (A8Q hf).1).2).1;have hU:=fun (J:P8) (m:Le I J)=>D5O (I:=J) (bc:=bc) (sc:=sc) (sa:=sa) (sp:=sp) (s:=s) (da:=da) (dp:=dp) (ua:=ua) (up:=up) (hC.le m) f n ((p:Int)+l.at_) hst hd
  obtain⟨bi,oi,tci,ci,rfl,hpi,hati⟩:=hC.item;obtain⟨pa,pc,sa9,sc9,ba,bc9,da9,dc9,xb,rfl,_⟩:=hati;rw[hat]at hpi;repeat' (first|refine U8 (d:=11) ?_ hm (hs:=B8m) (hc:=by exact hg);clear hm;intro _ hm|refine A0b (id:=2) 13 (h:=?_)|refine F8 (d:=28) ?_ hm (hp:=B9N) (hc:=hU I (Le.refl _));clear hm;rintro _ I2 _ _ ⟨rfl,sa2,sp2,da2,dp2,ua2,up2,rfl⟩ hleI2 hm;try simp only[G5]at hm|refine Y2 (d:=6) ?_ hm;clear hm;intro b6 _ hm|refine V3 ?_ hm|refine A0f ?_ hm|refine D8 ?_|refine D6 ?_|refine Y8 ?_|refine E5 ?_|refine A7 ?_|refine E8 ?_|refine A8 ?_|refine A0p ?_|refine V6 ?_;intro _ hkq;replace hm:=hm.kept0 hkq;clear hkq|refine H5 ?_|refine Y4 ?_|refine Q9 ?_|refine A31 ?_|refine L8 ?_)
  exact⟨I2,_,⟨rfl,_,_,_,_,_,_,rfl⟩,hm.left⟩
 |none=>
  rw[hf]at hg;dsimp only[lcV]at hg;rw[C8Q hf];by_cases hn:n= []
  ·rw[if_pos hn]
   subst hn;repeat' (first|refine U8 (d:=11) ?_ hm (hs:=B8m) (hc:=by exact hg);clear hm;intro _ hm|refine Y2 (d:=6) ?_ hm;clear hm;intro b6 _ hm|refine D8 ?_|refine D6 ?_|refine A0t ?_|refine Y8 ?_|refine E5 ?_|refine A7 ?_|refine E8 ?_|refine A8 ?_|refine G7 ?_|refine A0p ?_|refine F7 ?_)
   exact⟨I,_,⟨rfl,_,_,_,_,_,_,rfl⟩,hm.tl⟩
  ·rw[if_neg hn]
   have hT:=fun (J:P8)=>B5m (I:=J) (bc:=bc) (bf:=bf) (pi:=pi) (sc:=sc) (sa:=sa) (sp:=sp) (s:=s) (da:=da) (dp:=dp) (ua:=ua) (up:=up) n f 6 (by omega) hd
   repeat' (first|refine U8 (d:=11) ?_ hm (hs:=B8m) (hc:=by exact hg);clear hm;intro _ hm|refine F8 (d:=34) ?_ hm (hp:=B9N) (hc:=hT I);clear hm;rintro _ I2 _ _ ⟨rfl,sa2,sp2,da2,dp2,ua2,up2,rfl⟩ hleI2 hm;try simp only[G5]at hm|refine Y2 (d:=6) ?_ hm;clear hm;intro b6 _ hm|refine D8 ?_|refine D6 ?_|refine A0t ?_|refine Y8 ?_|refine E5 ?_|refine A7 ?_|refine E8 ?_|refine A8 ?_|refine A0p ?_|refine F7 ?_|(refine C9 (ht:=fun _=>?_) (hf:=fun _=>?_)<;>try first|contradiction|omega))
   exact⟨I2,_,⟨rfl,_,_,_,_,_,_,rfl⟩,hm.left⟩
theorem C0V (hC:NC I src p q its it bf a cp xs pi) (k:Int) (f:Nat) (n:List UInt8) (hst:A1j q f n) (hd:s.n<=1000000000) (hf:A0M its k n=none):
  CalM prog 121 #[ptr bc,.int .i64 k,nt f,str n] I (NSt bc bf pi sc sa sp s da dp ua up) (ToN bc bf pi sc (A5Y its p k f n s) (.pointer none)):=by
 have hb:=(hC.st.sub _ _ hst).1;have hlen:=hC.len;refine CalM.of fun w E hm=>enter (N:=51) func121 rfl [(0,ptr bc),(1,.int .i64 k),(2,nt f),(3,str n)] B6Y rfl ?_
 have hCf:=hC.file;have hfind:=(A9N k n its I a cp xs hC.fe).read;rw[A6d,hf]at hfind;dsimp only at hfind;rw[C8K hf];by_cases hn:n= []
 ·rw[if_pos hn]
  subst hn;repeat' (first|refine U8 (d:=19) ?_ hm (hc:=hfind);clear hm;intro _ hm|refine J6 ?_ hm|refine U0 ?_ hm|refine D8 ?_|refine D6 ?_|refine J8 ?_|refine A0t ?_|refine F5 ?_|refine D5 ?_|refine E5 ?_|refine A7 ?_|refine H8 ?_|refine E8 ?_|refine A8 ?_|refine G7 ?_|refine J3 ?_|refine J7 ?_|refine H5 ?_|refine F7 ?_)
  exact⟨I,_,⟨rfl,_,_,_,_,_,_,rfl⟩,hm⟩
 ·rw[if_neg hn]
  have hT:=fun (J:P8)=>B5m (I:=J) (bc:=bc) (bf:=bf) (pi:=pi) (sc:=sc) (sa:=sa) (sp:=sp) (s:=s) (da:=da) (dp:=dp) (ua:=ua) (up:=up) n f 6 (by omega) hd
  repeat' (first|refine U8 (d:=19) ?_ hm (hc:=hfind);clear hm;intro _ hm|refine F8 (d:=27) ?_ hm (hp:=A5A) (hc:=hT I);clear hm;rintro _ I2 _ _ ⟨rfl,sa2,sp2,da2,dp2,ua2,up2,rfl⟩ hleI2 hm;try simp only[G5]at hm|refine J6 ?_ hm|refine U0 ?_ hm|refine D8 ?_|refine D6 ?_|refine J8 ?_|refine A0t ?_|refine F5 ?_|refine D5 ?_|refine E5 ?_|refine A7 ?_|refine H8 ?_|refine E8 ?_|refine A8 ?_|refine J3 ?_|refine J7 ?_|refine H5 ?_|(refine C9 (ht:=fun _=>?_) (hf:=fun _=>?_)<;>try first|contradiction|omega))
  exact⟨I2,_,⟨rfl,_,_,_,_,_,_,rfl⟩,hm⟩
theorem C0W (hC:NC I src p q its it bf a cp xs pi) (k:Int) (f:Nat) (n:List UInt8) (hst:A1j q f n) (hd:s.n<=1000000000) {j:Nat} (hf:A0M its k n=some j):
  CalM prog 121 #[ptr bc,.int .i64 k,nt f,str n] I (NSt bc bf pi sc sa sp s da dp ua up)
   (fun v I' H'=>(∃bj oj cj,v=.pointer (some ⟨bj,oj,none⟩)/\PtrI I' bj oj 43 cj/\A67 I' (X7 its j) cj)/\∃sa sp da dp ua up,H'=NSt bc bf pi sc sa sp (A5Y its p k f n s) da dp ua up):=by
 refine CalM.of fun w E hm=>enter (N:=51) func121 rfl [(0,ptr bc),(1,.int .i64 k),(2,nt f),(3,str n)] B6Y rfl ?_
 have hCf:=hC.file;have hlen:=hC.len;have hri:=hC.fe.row;have hfew:=hC.fe.few;have hfind:=(A9N k n its I a cp xs hC.fe).read;rw[A6d,hf]at hfind;dsimp only at hfind;rw[C8L hf];obtain⟨hj,_,_,_,hmemj⟩:=A3O hf;obtain⟨_,dd,hdd,hds⟩:=B9j hC.sts hf;have hd0:=hds.1;have hU:=fun (J:P8) (m:Le I J)=>D5O (I:=J) (bc:=bc) (sc:=sc) (sa:=sa) (sp:=sp) (s:=s) (da:=da) (dp:=dp) (ua:=ua) (up:=up) (hC.le m) f n ((X7 its j).at_+(X7 its j).mark) hst hd
 obtain⟨ci,hci,hat,hlc⟩:=hC.fe.get (A5j hj);have hat0:=hat
 obtain⟨pa,pc,sa9,sc9,ba,bc9,da9,dc9,xb,rfl,_⟩:=hat
 repeat' (first|refine U8 (d:=19) ?_ hm (hc:=hfind);clear hm;intro _ hm|refine O7 (d:=36) ?_ (hr:=hri);intro bu ou hpu;rw[show ((j:Int).toNat *10)=j *10 from rfl,hci]at hpu|refine A0b (id:=7) 12 (h:=?_)|refine F8 (d:=49) ?_ hm (hp:=A5A) (hc:=hU I (Le.refl _));clear hm;rintro _ I2 _ _ ⟨rfl,sa2,sp2,da2,dp2,ua2,up2,rfl⟩ hleI2 hm;try simp only[G5]at hm|refine J6 ?_ hm|refine J9 ?_ hm|refine U0 ?_ hm|refine A0f ?_ hm|refine D8 ?_|refine D6 ?_|refine J8 ?_|refine F5 ?_|refine D5 ?_|refine E5 ?_|refine A7 ?_|refine E8 ?_|refine A8 ?_|refine G7 ?_|refine J3 ?_|refine J7 ?_|refine V6 ?_;intro _ hkq;replace hm:=hm.kept0 hkq;clear hkq|refine F7 ?_|refine Y4 ?_|refine Q9 ?_|refine A31 ?_|refine L8 ?_)
 exact⟨I2,_,And.intro ⟨_,_,_,rfl,hpu.le hleI2,hat0.le hleI2⟩ ⟨_,_,_,_,_,_,rfl⟩,hm⟩
end
structure NX where
 k:Nat
 I:P8
 sa:Option Addr
 sp:Nat
 da:Option Addr
 dp:Nat
 ua:Option Addr
 up:Nat
def D7v (src:List UInt8) (p:Nat) (q:List UInt8) (its:List Sp.Itm) (it:Sp.Itm) (bc bf:Nat) (a:Option Addr) (cp:Nat) (xs:List Value) (pi:Value) (sc:List Sp.Lc) (e:Sp.Ex):Prop:=
 ∀(I:P8) (b o tc:Nat) (ea:Option Addr) (ec:Nat) (ys:List Value) (s:Sp.NW) (sa:Option Addr) (sp:Nat) (da:Option Addr) (dp:Nat) (ua:Option Addr) (up:Nat),s.n+2 *e.cnt<=900000000->NC I src p q its it bf a cp xs pi->
  PtrI I b o tc (A0E e ea ec)->RowI I 109 6 (.slice ea e.args.length ec) e.args.length ys->Z7 I e.args ys->
  CalM prog 186 #[ptr bc,.pointer (some ⟨b,o,none⟩)] I (NSt bc bf pi sc sa sp s da dp ua up) (ToN bc bf pi sc (Sp.exN its p sc e s) (.tuple #[]))
section
variable {src:List UInt8}{p:Nat}{q:List UInt8}{its:List Sp.Itm}{it:Sp.Itm}{bc bf:Nat}{a:Option Addr}{cp:Nat}{xs:List Value}{pi:Value}{sc:List Sp.Lc}
theorem D6y (hs:sc.length<=1000000000) (hsc:A8y q sc):∀(n:Nat) (e:Sp.Ex),SizeOf.sizeOf e<=n->e.small->e.all (Sp.stE q)->D7v src p q its it bc bf a cp xs pi sc e:=by
 intro n;induction n with
 |zero=>intro e h;cases e;simp at h
 |succ n ih=>
 intro e hsz hsm hall I b o tc ea ec ys s sa sp da dp ua up hn hC hp hr hx;obtain⟨hal,hasm⟩:=A4u hsm;obtain⟨hst,haall⟩:=Sp.Ex.all_node hall;have hcnt:=D0i e;refine CalM.of fun w E hm=>enter (N:=76) func186 rfl [(0,ptr bc),(1,.pointer (some ⟨b,o,none⟩))] A1x rfl ?_
 have hhd:=D3T its p sc e s;rw[D6j];have hhr:B7x its p sc e s=if e.kind=2 then A8i p sc e.fr e.name s else if e.kind=4 then A5x its p e.fr e.name e.args.length s else s:=rfl
 generalize B7x its p sc e s=r at hhr hhd |-;repeat' (first|refine A9E 0 (fun _:NX=> [(0,ptr bc),(1,.pointer (some ⟨b,o,none⟩))]) (fun x w'=>Mem E x.I (NSt bc bf pi sc x.sa x.sp r x.da x.dp x.ua x.up) w'/\Le I x.I) ?_ ?_)
 ·refine⟨?_⟩
  by_cases k2:e.kind=2
  ·rw[if_pos k2]at hhr
   subst hhr;have hc:=fun (J:P8) (m:Le I J)=>C7s (I:=J) (bc:=bc) (sc:=sc) (sa:=sa) (sp:=sp) (s:=s) (da:=da) (dp:=dp) (ua:=ua) (up:=up) (hC.le m) e.fr e.name (hst (.inl k2)) hsc hs (by omega)
   repeat' (first|refine A0b (id:=2) 9 (h:=?_)|refine F8 (d:=21) ?_ hm (hp:=A5A) (hc:=hc I (Le.refl _));clear hm;rintro _ I2 _ _ ⟨rfl,sa2,sp2,da2,dp2,ua2,up2,rfl⟩ hleI2 hm;try simp only[G5]at hm|refine J9 ?_ hm|refine A0f ?_ hm|refine D8 ?_|refine D6 ?_|refine O6 ?_|refine F5 ?_|refine D5 ?_|refine E5 ?_|refine A7 ?_|refine D7 ?_|refine E8 ?_|refine A8 ?_|refine F6 ?_|refine V6 ?_;intro _ hkq;replace hm:=hm.kept0 hkq;clear hkq|(refine C9 (ht:=fun _=>?_) (hf:=fun _=>?_)<;>try first|contradiction|omega)|refine Y4 ?_|refine Q9 ?_|refine L8 ?_)
   exact A0V (⟨0,I2,sa2,sp2,da2,dp2,ua2,up2⟩:NX) (by exact⟨rfl,rfl,trivial⟩) ⟨hm,hleI2⟩
  rw[if_neg k2]at hhr;by_cases k4:e.kind=4
  ·rw[if_pos k4]at hhr
   have hin:=B7D its p 2 e.fr e.name s;have hbd:=(hC.st.sub _ _ (hst (.inr k4))).1;have hlen:=hC.len;cases hf:A0M its 2 e.name with
   |none=>
    rw[C4D hf]at hhr;subst hhr;have hc:=fun (J:P8) (m:Le I J)=>C0V (I:=J) (bc:=bc) (sc:=sc) (sa:=sa) (sp:=sp) (s:=s) (da:=da) (dp:=dp) (ua:=ua) (up:=up) (hC.le m) 2 e.fr e.name (hst (.inr k4)) (by omega) hf
    repeat' (first|refine A0b (id:=4) 9 (h:=?_)|refine F8 (d:=33) ?_ hm (hp:=A5A) (hc:=hc I (Le.refl _));clear hm;rintro _ I2 _ _ ⟨rfl,sa2,sp2,da2,dp2,ua2,up2,rfl⟩ hleI2 hm;try simp only[G5]at hm|refine B02 (e:=43) (k:=?_)|refine J9 ?_ hm|refine A0f ?_ hm|refine D8 ?_|refine D6 ?_|refine O6 ?_|refine F5 ?_|refine D5 ?_|refine E5 ?_|refine A7 ?_|refine D7 ?_|refine E8 ?_|refine A8 ?_|refine F6 ?_|refine G7 ?_|refine U6 ?_|refine A0s ?_;intro _ hkq;replace hm:=hm.kept0 hkq;clear hkq|refine V6 ?_;intro _ hkq;replace hm:=hm.kept0 hkq;clear hkq|refine F7 ?_|(refine C9 (ht:=fun _=>?_) (hf:=fun _=>?_)<;>try first|contradiction|omega)|refine Y4 ?_|refine A0A ?_|refine Q9 ?_|refine L8 ?_|refine A2z ?_)
    exact A0V (⟨0,I2,sa2,sp2,da2,dp2,ua2,up2⟩:NX) (by exact⟨rfl,rfl,trivial⟩) ⟨hm,hleI2⟩
   |some j=>
    rw[C4E hf]at hhr;have hc:=fun (J:P8) (m:Le I J)=>C0W (I:=J) (bc:=bc) (sc:=sc) (sa:=sa) (sp:=sp) (s:=s) (da:=da) (dp:=dp) (ua:=ua) (up:=up) (hC.le m) 2 e.fr e.name (hst (.inr k4)) (by omega) hf
    generalize A5Y its p 2 e.fr e.name s=s1 at hc hhr hin;by_cases hpl:(X7 its j).params.length≠e.args.length
    ·rw[if_pos hpl]at hhr
     subst hhr;have hT:=fun (J:P8) (sa:Option Addr) (sp:Nat) (da:Option Addr) (dp:Nat) (ua:Option Addr) (up:Nat)=>B5m (I:=J) (bc:=bc) (bf:=bf) (pi:=pi) (sc:=sc) (sa:=sa) (sp:=sp) (s:=s1) (da:=da) (dp:=dp) (ua:=ua) (up:=up) e.name e.fr 5 (by omega) (by omega)
     repeat' (first|refine A0b (id:=4) 9 (h:=?_)|refine F8 (d:=33) ?_ hm (hp:=A5A) (hc:=hc I (Le.refl _));clear hm;rintro _ I2 _ _ ⟨⟨bj,oj,cj,rfl,hpj,hatj⟩,sa2,sp2,da2,dp2,ua2,up2,rfl⟩ hleI2 hm;try simp only[G5]at hm;have hp2:=hp.le hleI2;obtain⟨pa,pc,sa9,sc9,ba,bc9,da9,dc9,xb,rfl,_⟩:=hatj|refine B02 (e:=43) (k:=?_)|refine A0b (id:=6) 9 (h:=?_)|refine F8 (d:=58) ?_ hm (hp:=A5A) (hc:=hT I2 sa2 sp2 da2 dp2 ua2 up2);clear hm;rintro _ I3 _ _ ⟨rfl,sa3,sp3,da3,dp3,ua3,up3,rfl⟩ hleI3 hm;try simp only[G5]at hm|refine J9 ?_ hm|refine A0f ?_ hm|refine D8 ?_|refine D6 ?_|refine O6 ?_|refine F5 ?_|refine D5 ?_|refine E5 ?_|refine A7 ?_|refine D7 ?_|refine E8 ?_|refine A8 ?_|refine F6 ?_|refine U6 ?_|refine A0s ?_;intro _ hkq;replace hm:=hm.kept0 hkq;clear hkq|refine V6 ?_;intro _ hkq;replace hm:=hm.kept0 hkq;clear hkq|(refine C9 (ht:=fun _=>?_) (hf:=fun _=>?_)<;>try first|contradiction|omega)|refine Y4 ?_|refine A0d ?_|refine A5B ?_|refine S9 ?_|refine Q9 ?_|refine L8 ?_)
     exact A0V (⟨0,I3,sa3,sp3,da3,dp3,ua3,up3⟩:NX) (by exact⟨rfl,rfl,trivial⟩) ⟨hm,hleI2.trans hleI3⟩
    ·rw[if_neg hpl]at hhr
     subst hhr;repeat' (first|refine A0b (id:=4) 9 (h:=?_)|refine F8 (d:=33) ?_ hm (hp:=A5A) (hc:=hc I (Le.refl _));clear hm;rintro _ I2 _ _ ⟨⟨bj,oj,cj,rfl,hpj,hatj⟩,sa2,sp2,da2,dp2,ua2,up2,rfl⟩ hleI2 hm;try simp only[G5]at hm;have hp2:=hp.le hleI2;obtain⟨pa,pc,sa9,sc9,ba,bc9,da9,dc9,xb,rfl,_⟩:=hatj|refine B02 (e:=43) (k:=?_)|refine J9 ?_ hm|refine A0f ?_ hm|refine D8 ?_|refine D6 ?_|refine O6 ?_|refine F5 ?_|refine D5 ?_|refine E5 ?_|refine A7 ?_|refine D7 ?_|refine E8 ?_|refine A8 ?_|refine F6 ?_|refine G7 ?_|refine U6 ?_|refine A0s ?_;intro _ hkq;replace hm:=hm.kept0 hkq;clear hkq|refine V6 ?_;intro _ hkq;replace hm:=hm.kept0 hkq;clear hkq|(refine C9 (ht:=fun _=>?_) (hf:=fun _=>?_)<;>try first|contradiction|omega)|refine Y4 ?_|refine A0d ?_|refine A5B ?_|refine S9 ?_|refine Q9 ?_|refine L8 ?_)
     exact A0V (⟨0,I2,sa2,sp2,da2,dp2,ua2,up2⟩:NX) (by exact⟨rfl,rfl,trivial⟩) ⟨hm,hleI2⟩
  ·rw[if_neg k4]at hhr
   subst hhr;repeat' (first|refine J9 ?_ hm|refine D8 ?_|refine D6 ?_|refine O6 ?_|refine F5 ?_|refine D5 ?_|refine E5 ?_|refine A7 ?_|refine D7 ?_|refine E8 ?_|refine A8 ?_|refine F6 ?_|refine G7 ?_|(refine C9 (ht:=fun _=>?_) (hf:=fun _=>?_)<;>try first|contradiction|omega))
   exact A0V (⟨0,I,sa,sp,da,dp,ua,up⟩:NX) (by exact⟨rfl,rfl,trivial⟩) ⟨hm,Le.refl _⟩
 ·clear hm hhr
  rintro⟨_,I1,sa1,sp1,da1,dp1,ua1,up1⟩ w1 ⟨hm,hle1⟩;dsimp only at hm hle1 |-;have hp1:=hp.le hle1;repeat' (first|refine J9 ?_ hm|refine D8 ?_|refine G6 ?_|refine F5 ?_|refine D5 ?_|refine E5 ?_|refine A7 ?_|refine E8 ?_|refine A8 ?_|refine F6 ?_)
  refine U3 (fun x:NX=> [(0,ptr bc),(1,.pointer (some ⟨b,o,none⟩)),(63,nt e.args.length),(64,nt x.k)])
   (fun x w'=>Mem E x.I (NSt bc bf pi sc x.sa x.sp (A5t its p sc (e.args.take x.k) r) x.da x.dp x.ua x.up) w'/\Le I x.I/\x.k<=e.args.length) (fun x=>e.args.length-x.k) ⟨0,I1,sa1,sp1,da1,dp1,ua1,up1⟩
   (by exact⟨rfl,rfl,rfl,rfl,trivial⟩) ⟨by dsimp only;rw[Z9,A5t];exact hm,hle1,H9 _⟩ ?_
  clear hm hp1;rintro⟨k,I2,sa2,sp2,da2,dp2,ua2,up2⟩ w2 ⟨hm,hle2,hk⟩;dsimp only at hm hle2 hk |-;have hC2:=hC.le hle2;have hp2:=hp.le hle2;have hrow:=hr.le hle2;by_cases hlt:k<e.args.length
  ·have hg:e.args[k]?=some e.args[k]:=F9 hlt
   have hsz2:=A3o (O1 hlt);have hsm2:=A2m hasm hg;have hal2:=A8M haall hg;obtain⟨ea2,ec2,ys2,hc2,hr2,hx2⟩:=(hx.get hg).out;generalize e.args[k]=y at hg hsz2 hsm2 hal2 hc2 hr2 hx2;have hstp:=C8q its p sc hg r;have hcy:=C2q hg;have hnn:=C4P its p sc (e.args.take k) r;generalize A5t its p sc (e.args.take k) r=s1 at hm hstp hnn;have hcl:=fun b o tc (hpt:PtrI I2 b o tc (A0E y ea2 ec2))=>ih y (by omega) hsm2 hal2 I2 b o tc ea2 ec2 ys2 s1 sa2 sp2 da2 dp2 ua2 up2 (by omega) hC2 hpt (hr2.le hle2) (Z7.le hle2 _ _ hx2)
   generalize Sp.exN its p sc y s1=s2 at hcl hstp;repeat' (first|refine O7 (d:=73) ?_ (hr:=hrow);intro bt ot hpt;rw[show ((k:Int).toNat *6)=k *6 from rfl,hc2]at hpt|refine F8 (d:=74) ?_ hm (hp:=A5A) (hc:=hcl _ _ _ hpt);clear hm;rintro _ I3 _ _ ⟨rfl,sa3,sp3,da3,dp3,ua3,up3,rfl⟩ hleI3 hm;try simp only[G5]at hm|refine J9 ?_ hm|refine D8 ?_|refine D6 ?_|refine J8 ?_|refine F5 ?_|refine O9 ?_|refine D5 ?_|refine E5 ?_|refine A7 ?_|refine D7 ?_|refine E8 ?_|refine A8 ?_|refine F6 ?_|refine G7 ?_|(refine C9 (ht:=fun _=>?_) (hf:=fun _=>?_)<;>try first|contradiction|omega))
   exact L6 (⟨k+1,I3,sa3,sp3,da3,dp3,ua3,up3⟩:NX) (by exact⟨rfl,rfl,rfl,rfl,trivial⟩) ⟨by dsimp only;rw[hstp];exact hm,hle2.trans hleI3,by dsimp only;omega⟩ (by dsimp only;omega)
  ·obtain rfl:k=e.args.length:=by omega
   rw[V7]at hm;repeat' (first|refine J8 ?_|refine E5 ?_|refine A7 ?_|refine H6 ?_|refine G9 ?_|refine E8 ?_|refine A8 ?_|refine O8 ?_|refine A0p ?_|(refine C9 (ht:=fun _=>?_) (hf:=fun _=>?_)<;>try first|contradiction|omega))
   exact⟨I2,_,⟨rfl,_,_,_,_,_,_,rfl⟩,hm⟩
end
end Go.Proofs
