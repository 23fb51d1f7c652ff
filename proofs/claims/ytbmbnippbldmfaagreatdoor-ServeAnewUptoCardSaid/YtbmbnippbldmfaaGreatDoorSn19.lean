/- Own work. -/
import Derived.Test.YtbmbnippbldmfaaGreatDoorSn18
set_option maxHeartbeats 64000000
namespace Go.Sp
theorem B8K (n:List UInt8) {l:List Lc}{k:Nat}{x:Lc} (h:l[k]?=some x):A1A (l.take (k+1)) n=if x.name=n then some x else A1A (l.take k) n:=by
 rw[Q8 h,A8X]
end Go.Sp
namespace Go.Fw
open Go.Sp
theorem B3J {R:List HItem}{a b c d:HItem}:∀h∈ [a,b,c,d],h∈a::b::c::d::R:=by simp
theorem A3E {R:List HItem}{a b c d:HItem}:(a::b::c::d::R).Perm ([a,b,c,d]++R):=.refl _
theorem B4N {R:List HItem}{a b c d x:HItem}:(x::a::b::c::d::R).Perm ([a,b,c,d]++(x::R)):=
 (pm3_1 (R:=d::R)).trans (((List.Perm.swap d x R).cons c).cons b|>.cons a)
end Go.Fw
namespace Go.Sp
theorem C1l {b:Int}{sc:List Lc}{a:Nat}{n:List UInt8}{s:NW}{l:Lc} (h:A1A sc n=some l):A72 b sc a n s=s.use b a n (b+l.at_):=by rw[A72,h]
theorem C1k {b:Int}{sc:List Lc}{a:Nat}{n:List UInt8}{s:NW} (h:A1A sc n=none):A72 b sc a n s=if n= [] then s else s.tell a 6 n:=by rw[A72,h]
theorem C1h {its:List Itm}{b k:Int}{a:Nat}{n:List UInt8}{s:NW}{j:Nat} (h:A0Z its k n=some j):A5e its b k a n s=s.use b a n ((A0o its j).at_+(A0o its j).mark):=by rw[A5e,h]
theorem C1g {its:List Itm}{b k:Int}{a:Nat}{n:List UInt8}{s:NW} (h:A0Z its k n=none):A5e its b k a n s=if n= [] then s else s.tell a 6 n:=by rw[A5e,h]
theorem C3t {n:List UInt8}{a:Nat}{sc:List Lc}{s:NW}{l:Lc} (hn:n≠ []) (h:A1A sc n=some l):mkN n a sc s=(sc++ [⟨n,a⟩],s.tell a 7 n):=by rw[mkN,if_neg hn,h]
theorem C3r {n:List UInt8}{a:Nat}{sc:List Lc}{s:NW} (hn:n≠ []) (h:A1A sc n=none):mkN n a sc s=(sc++ [⟨n,a⟩],s):=by rw[mkN,if_neg hn,h]
def B3a (its:List Itm) (b:Int) (sc:List Lc) (e:Ex) (s:NW):NW:=if e.kind=2 then A72 b sc e.fr e.name s else if e.kind=4 then A5h its b e.fr e.name e.args.length s else s
theorem C6M (its:List Itm) (b:Int) (sc:List Lc) (e:Ex) (s:NW):exN its b sc e s=A5d its b sc e.args (B3a its b sc e s):=by cases e;rw[exN,B3a];rfl
theorem C45 (its:List Itm) (b:Int) (sc:List Lc) (e:Ex) (s:NW):s.n<=(B3a its b sc e s).n/\(B3a its b sc e s).n<=s.n+2:=by
 have h1:=B83 b sc e.fr e.name s;have h2:=B9Y its b e.fr e.name e.args.length s;rw[B3a];split
 ·omega
 ·split<;>omega
theorem C2A (e:Ex):e.cnt=A03 e.args+1:=by cases e;rw[Ex.cnt];rfl
theorem B6U {l:List Ex}{k:Nat}{y:Ex} (h:l[k]?=some y):A03 (l.take k)+y.cnt<=A03 l:=by
 have e:l=l.take (k+1)++l.drop (k+1):=(A3e _ _).symm;have h2:=congrArg A03 e;rw[A4y,Q8 h,A4y,A6o]at h2;omega
theorem B8x {its:List Itm}{b:Int}{a:Nat}{n:List UInt8}{m:Nat}{s:NW} (h:A0Z its 2 n=none):A5h its b a n m s=A5e its b 2 a n s:=by rw[A5h,h]
theorem B8y {its:List Itm}{b:Int}{a:Nat}{n:List UInt8}{m:Nat}{s:NW}{j:Nat} (h:A0Z its 2 n=some j):A5h its b a n m s=if (A0o its j).params.length≠m then (A5e its b 2 a n s).tell a 5 n else A5e its b 2 a n s:=by rw[A5h,h]
end Go.Sp
namespace Go.Proofs
open Go.Proofs.Tryz
open Go.Sp
open Go.Fw
structure Had (I:P6) (s:List UInt8) (k:Nat) (es:A6i):Prop where
 nodup:(es.map (·.1)).Nodup
 mem:∀p∈es,∃j cs,j<(Y2 s).length/\p.1=A1b s (Y2 s) j/\p.2=.agg cs.toArray/\A5W I (A0S s (Y2 s) j) cs
 all:∀j,j<k->A1b s (Y2 s) j∈es.map (·.1)
theorem Had.nil (I:P6) (s:List UInt8):Had I s 0 []:=⟨List.nodup_nil,by simp,by omega⟩
theorem Had.put {I:P6}{s:List UInt8}{k:Nat}{es:A6i} (h:Had I s k es) (hk:k<(Y2 s).length) {cs:List Value} (hc:A5W I (A0S s (Y2 s) k) cs):
  Had I s (k+1) (B2h es (A1b s (Y2 s) k) (.agg cs.toArray)):=by
 refine⟨B89 h.nodup,fun p hp=>?_,fun j hj=>(C1o _).2 ?_⟩
 ·rcases C3x hp with hp|rfl
  ·exact h.mem p hp
  ·exact⟨k,cs,hk,rfl,rfl,hc⟩
 ·rcases U0 j k with h1|h1
  ·exact .inl (h.all j h1)
  ·obtain rfl:j=k:=by omega
   exact .inr rfl
theorem Had.look {I:P6}{s:List UInt8}{es:A6i} (h:Had I s (Y2 s).length es) (x:List UInt8) (z:Value):
  (B87 es x=true/\(B3x s).contains x=true/\∃j cs,x=A1b s (Y2 s) j/\B4G es x z=.agg cs.toArray/\A5W I (A0S s (Y2 s) j) cs)\/
  (B87 es x=false/\(B3x s).contains x=false/\B4G es x z=z):=by
 cases hf:es.find? (fun p=>decide (p.1=x)) with
 |some p=>
  left
  have h1:=B0f hf;have h2:p.1=x:=by simpa using List.find?_some hf
  obtain⟨j,cs,hj,hp,hv,hi⟩:=h.mem p h1;refine⟨by rw[B87,hf];rfl,?_,j,cs,by rw[<-h2,hp],by rw[B4G,hf];exact hv,hi⟩
  rw[A6u, <-h2,hp];exact A5s (A18.2 hj)
 |none=>
  right
  refine⟨by rw[B87,hf];rfl,?_,by rw[B4G,hf];rfl⟩
  rw[<-Bool.not_eq_true,A6u];intro hx;obtain⟨j,hj,rfl⟩:=A0x.1 hx;obtain⟨p,hp,hpe⟩:=A0x.1 (h.all j (A18.1 hj));have:=List.find?_eq_none.1 hf p hp;simp[hpe]at this
theorem C3w {I:P6}{it:Sp.Itm}{a0:Int}{cs:List Value} (h:A5W I { it with at_:=a0} cs):∃ap cp as_ cs' ab cb ad cd xb,cs=A1z it.kind it.name it.label (.slice ap it.params.length cp) (.slice as_ it.sends.length cs') (.slice ab it.body.length cb) a0 it.size it.mark (.slice ad it.diags.length cd)/\
 RowI I 103 3 (.slice ap it.params.length cp) it.params.length (it.params.flatMap A2N)/\RowI I 106 2 (.slice as_ it.sends.length cs') it.sends.length (it.sends.flatMap A2V)/\
 RowI I 111 15 (.slice ab it.body.length cb) it.body.length xb/\X6 I it.body xb/\RowI I 85 4 (.slice ad it.diags.length cd) it.diags.length (it.diags.flatMap A5G):=h
structure AgM where
 k:Nat
 es:A6i
structure AgY where
 k:Nat
 n:Nat
 I:P6
 a:Option Addr
 cp:Nat
 xs:List Value
theorem C5w (s t:List UInt8) (h0:Z5 s=0) (I:P6) (hC:Conv I) (ht:t.length<=9223372036854775807) (a0:Option Addr) (c0:Nat) (xs0:List Value)
  (hr0:RowI I 43 10 (.slice a0 (J7 s).length c0) (J7 s).length xs0) (hi0:A5f I (J7 s) xs0):
  CalM prog 40 #[.agg [.slice a0 (J7 s).length c0].toArray,str s,str t] I [] (B9U (A4l s t) (Z5 t) (J7 t)):=by
 refine CalM.of fun w E hm=>enter (N:=127) func40 rfl [(0,.agg [.slice a0 (J7 s).length c0].toArray),(1,str s),(2,str t)] A3C rfl ?_
 by_cases hl:t.length>4000
 ·have he:Z5 t=4:=by rw[Z5,if_pos hl]
  have hi:J7 t= []:=by rw[J7,he];rfl
  have hf:A4l s t=0:=by rw[A4l,he];rfl
  rw[he,hi,hf];repeat' (first|refine A5y hm (by rfl) (by rfl) (by rfl) (by rfl) (by first|exact gt0|exact gt1|exact gt2|exact gt3|exact gt4|exact gt5|exact gt6) (by rfl) ?_|refine A0K (d:=3) ?_ hm;clear hm;intro b3 _ hm|refine U1 (d:=6) ?_ hm;clear hm;intro b6 _ hm|refine N7 ?_ hm;clear hm;intro _ hm;try simp only[F9]at hm|refine D8 ?_|refine D6 ?_|refine A0F ?_|refine A0G ?_|refine Q3 ?_|refine D9 ?_|refine A7 ?_|refine G8 ?_|refine E8 ?_|refine A8 ?_|refine H8 ?_|(refine D5 (ht:=fun _=>?_) (hf:=fun _=>?_)<;>try first|contradiction|omega))
  exact⟨_,_,⟨none,0,[],rfl,A0W _ _ _ _ _,rfl,rfl⟩,hm.left (H:= [])⟩
 have es0:J7 s=A3I s (Y2 s):=by rw[J7,if_pos h0]
 have hn0:(J7 s).length=(Y2 s).length:=by rw[es0,A9q]
 have hfew:=B6Z s;have hin:=fun k it h=>C0a s h0 (k:=k) (it:=it) h
 have hgk:∀k,k<(Y2 s).length->(J7 s)[k]?=some (A0S s (Y2 s) k):=fun k hk=>by rw[es0,B1t s _ hk]
 have hpk:∀k,k<(Y2 s).length->∃e1 e2:Nat,(A0S s (Y2 s) k).at_=e1/\e1+(A0S s (Y2 s) k).size=e2/\A1b s (Y2 s) k=(s.drop e1).take (e2-e1):=fun k hk=>by
  have h1:=A7E s hk;refine⟨(Y2 s).getD k 0,(Y2 s).getD (k+1) s.length,by rw[A0S,(A6c _ _).2],?_,rfl⟩
  rw[A0S,(A6c _ _).1,A1b,Q4,A0r];omega
 have hcl:=B6L t;obtain⟨n0,hnn⟩:∃n0,n0=(J7 s).length:=⟨_,rfl⟩;rw[<-hnn]at hr0 hn0 hfew |-;repeat' (first|refine B1x ?_ hm;clear hm;intro bm _ hm|refine A0K (d:=3) ?_ hm;clear hm;intro b3 _ hm|refine U1 (d:=6) ?_ hm;clear hm;intro b6 _ hm|refine J4 ?_ hm|refine D8 ?_|refine D6 ?_|refine A0F ?_|refine A0G ?_|refine G7 ?_|refine C9 ?_|refine D9 ?_|refine A7 ?_|refine E8 ?_|refine A8 ?_|refine F5 ?_|refine G5 ?_|(refine D5 (ht:=fun _=>?_) (hf:=fun _=>?_)<;>try first|contradiction|omega))
 refine U2 (fun x:AgM=> [(1,str s),(2,str t),(3,ptr b3),(6,ptr b6),(9,.map (some bm)),(25,.slice a0 n0 c0),(26,nt n0),(27,nt x.k)]) (fun x w'=>Mem E I [.mp bm x.es,.cell b6 [.slice none 0 0] 25,.cell b3 [.slice a0 n0 c0] 25] w'/\x.k<=n0/\Had I s x.k x.es) (fun x=>n0-x.k) ⟨0,[]⟩ (by exact⟨rfl,rfl,rfl,rfl,rfl,rfl,rfl,rfl,trivial⟩) ⟨hm,H7 _,Had.nil _ _⟩ ?_
 clear hm;rintro⟨k,es⟩ w1 ⟨hm,hk,hhad⟩;dsimp only at hm hk hhad |-;by_cases hlt:k<n0
 ·have hg:=hgk k (by omega)
  have hI:=hin k _ hg;obtain⟨e1,e2,he1,he2,hpc⟩:=hpk k (by omega);obtain⟨cs,hcs⟩:∃cs,cs=(xs0.drop (k *10)).take 10:=⟨_,rfl⟩;have hat:=hi0.get hg;rw[<-hcs]at hat
  have hput:=hhad.put (by omega) hat
  rw[hpc]at hput;obtain⟨pa,pc,sa,sc,ba,bc,da,dc,xb,he,_,_,_,_,hdg⟩:=hat
  obtain⟨q1,q2,q3,q4,q5,q6,q7⟩:=hI;clear q4 q5;generalize A0S s (Y2 s) k=it at he1 he2 he q1 q2 q3 q6 hg;subst he;subst he2;rw[he1]at q1 q3 hcs hput;repeat' (first|refine A0s (id:=8) (hm.perm pm0) 11 11 (h:=?_);clear hm;intro wd hR hm|refine O0 (d:=29) ?_ (hr:=hr0);intro bt ot hpt;rw[show ((k:Int).toNat *10)=k *10 from rfl, <-hcs]at hpt|refine B6c ?_;refine C8o (s:=(s.drop e1).take (e1+it.size-e1)) hm (by rfl) (by rfl) (by rfl) (by rfl) (by rfl) (by first|exact gt0|exact gt1|exact gt2|exact gt3|exact gt4|exact gt5|exact gt6) hhad.nodup ?_;clear hm;intro _ hm;try simp only[F9]at hm|refine A3g ?_ hR|refine Y3 ?_ hR|refine A0w ?_;replace hm:=hR.back hm;clear hR;try simp only[F9]at hm|refine Y5 (d:=11) ?_ hm;clear hm;intro b11 _ hm|refine J4 ?_ hm|refine X3 ?_ hm|refine D8 ?_|refine O9 ?_|refine J6 ?_|refine A6I ?_|refine A04 ?_|refine A0G ?_|refine P7 ?_|refine A3i ?_|refine C9 ?_|(refine N8 (h1:=fun _=>?_) (h0:=fun _=>?_)<;>try first|contradiction|omega)|refine D9 ?_|refine A7 ?_|refine D7 ?_|refine E8 ?_|refine A8 ?_|refine F5 ?_|refine G5 ?_|(refine D5 (ht:=fun _=>?_) (hf:=fun _=>?_)<;>try first|contradiction|omega)|refine Z4 ?_|refine B8c ?_|refine B8f ?_|refine J8 ?_|refine A0b ?_)
  exact L9 (⟨k+1,_⟩:AgM) (by exact⟨rfl,rfl,rfl,rfl,rfl,rfl,rfl,rfl,trivial⟩) ⟨hm.tl,by dsimp only;omega,hput⟩ (by dsimp only;omega)
 obtain rfl:k=n0:=by omega
 rw[hn0]at hhad;repeat' (first|refine A0k (hc:=by exact C2r t (by omega) _) (k:=?_);rintro tv wt ⟨hto,hkt⟩;obtain⟨ta,tc,rfl⟩:=A3D hto;replace hm:=hm.add (x:=.row (.slice ta (Y2 t).length tc) 3 1 (Y2 t).length ((Y2 t).flatMap A1t)) hkt (A32 hto (H7 _)) (fun b hb=>(hto.lt b hb).1)|refine U1 (d:=12) ?_ hm;clear hm;intro b12 _ hm|refine A2l (d:=73) ?_ hm;clear hm;intro a73 cp73 _ _ hm;try simp only[F9]at hm|refine D8 ?_|refine D6 ?_|refine J6 ?_|refine A0G ?_|refine G7 ?_|refine A3i ?_|refine D9 ?_|refine A7 ?_|refine H9 ?_|refine H5 ?_|refine E8 ?_|refine A8 ?_|refine F5 ?_|refine P9 ?_|(refine D5 (ht:=fun _=>?_) (hf:=fun _=>?_)<;>try first|contradiction|omega))
 obtain⟨I2,hle2,hm2,hrow⟩:=hm.freeze;clear hm hto hkt;have hm:=hm2.nil 43 10;clear hm2;obtain⟨n,hn⟩:∃n,n=(Y2 t).length:=⟨_,rfl⟩;have hcat:∀k,k<n->(Y2 t).getD k 0<(Y2 t).getD (k+1) t.length/\(Y2 t).getD (k+1) t.length<=t.length:=fun k hk=>A7E t (by omega)
 have hfl:(Y2 t).flatMap A1t++ [nt t.length]=(Y2 t++ [t.length]).flatMap A1t:=by rw[X9];rfl
 have hz1:∀k,k<n->(Y2 t++ [t.length])[k]?=some ((Y2 t).getD k 0):=fun k hk=>by
  rw[A3r (by omega),O4,G6 (by omega)];rfl
 have hz2:∀k,k<n->(Y2 t++ [t.length])[k+1]?=some ((Y2 t).getD (k+1) t.length):=fun k hk=>by
  rcases U0 (k+1) (Y2 t).length with h|h
  ·rw[A3r h,O4,G6 h];rfl
  ·rw[A19 h,show k+1-(Y2 t).length=0 by omega,O4,A07 h];rfl
 have hsm:∀k,(A1b t (Y2 t) k).length<=1048576:=fun k=>by rw[A1b,Q4,A0r];omega
 have hits0:A3I t (Y2 t)=(List.range n).map (A0S t (Y2 t)):=by rw[A3I,hn]
 have hfr:∀k,Sp.fresh s t (k+1)=Sp.fresh s t k+if (B3x s).contains (A1b t (Y2 t) k)=true then 0 else 1:=fun k=>by
  rw[B8M,C4M];cases (B3x s).contains (A1b t (Y2 t) k)<;>rfl
 have hfr0:Sp.fresh s t 0=0:=rfl;have hfrl:∀k,Sp.fresh s t k<=k:=C24 s t;have herr:30<n->Z5 t=5/\J7 t= []/\A4l s t=0:=fun h=>by
  have:Z5 t=5:=by rw[Z5,if_neg hl,if_pos (by omega)]
  exact⟨this,by rw[J7,this];rfl,by rw[A4l,this];rfl⟩
 have hok:n<=30->Z5 t=0/\J7 t=A3I t (Y2 t)/\A4l s t=Sp.fresh s t n:=fun h=>by
  have:Z5 t=0:=by rw[Z5,if_neg hl,if_neg (by omega)]
  exact⟨this,by rw[J7,this];rfl,by rw[A4l,if_pos this,hn]⟩
 change RowI I2 3 1 (.slice a73 ((Y2 t).length+1) cp73) ((Y2 t).length+1) ((Y2 t).flatMap A1t++ [nt t.length]) at hrow
 rw[hfl, <-hn]at hrow;rw[<-hn]at hcl |-;generalize Z5 t=er at herr hok |-;generalize J7 t=its at herr hok |-;generalize A4l s t=fa at herr hok |-;clear hn hfl;have hsmall:∀k,(A0S t (Y2 t) k).small:=fun k=>A4z _ _ (hsm k)
 generalize Y2 t=cz at hrow hcat hz1 hz2 hits0 hok hsm hsmall hfr;generalize Sp.fresh s t=fr at hok hfr hfr0 hfrl;refine U2 (fun x:AgY=> [(2,str t),(6,ptr b6),(9,.map (some bm)),(12,ptr b12),(13,nt x.n),(14,.slice a73 (n+1) cp73),(76,.int .i64 (((n+1:Nat):Int)-1)),(77,nt x.k)])
  (fun x w'=>Mem E x.I [B3e x.k x.a x.cp x.xs,.cell b12 [.slice x.a x.k x.cp] 25,.mp bm es,.cell b6 [.slice none 0 0] 25,.cell b3 [.slice a0 k c0] 25] w'/\Le I2 x.I/\A5f x.I ((List.range x.k).map (A0S t cz)) x.xs/\x.k<=n/\x.k<=30/\x.n=fr x.k)
  (fun x=>n-x.k) ⟨0,0,I2,none,0,[]⟩ (by exact⟨rfl,rfl,rfl,rfl,rfl,rfl,rfl,rfl,trivial⟩) ⟨hm,Le.refl _,rfl,H7 _,by dsimp only;omega,hfr0.symm⟩ ?_
 clear hm;rintro⟨m,nf,I3,a,cp,xs⟩ w2 ⟨hm,hle3,hits,hm1,hm30,hnf⟩;dsimp only at hm hle3 hits hm1 hm30 hnf |-;have hrow2:=hrow.le hle3;have hfm:=hfrl m;rw[<-hnf]at hfm;by_cases hlt:m<n
 ·by_cases h30:m=30
  ·obtain⟨he,hi,hf⟩:=herr (by omega)
   subst he;subst hi;subst hf;repeat' (first|refine A5y hm (by rfl) (by rfl) (by rfl) (by rfl) (by first|exact gt0|exact gt1|exact gt2|exact gt3|exact gt4|exact gt5|exact gt6) (by rfl) ?_|refine J4 ?_ hm|refine N7 ?_ hm;clear hm;intro _ hm;try simp only[F9]at hm|refine D8 ?_|refine D6 ?_|refine J6 ?_|refine N9 ?_|refine G7 ?_|refine C9 ?_|refine Q3 ?_|refine D9 ?_|refine A7 ?_|refine G8 ?_|refine O1 ?_|refine E8 ?_|refine A8 ?_|refine F5 ?_|refine G5 ?_|refine H8 ?_|(refine D5 (ht:=fun _=>?_) (hf:=fun _=>?_)<;>try first|contradiction|omega))
   exact⟨_,_,⟨none,0,[],rfl,A0W _ _ _ _ _,rfl,rfl⟩,hm.left (H:= [])⟩
  ·have hca:=hcat m hlt
   have hza:(cz++ [t.length])[((m:Nat):Int).toNat]?=some (cz.getD m 0):=by rw[A1v];exact hz1 m hlt
   have hzb:(cz++ [t.length])[(((m:Nat):Int)+1).toNat]?=some (cz.getD (m+1) t.length):=by
    rw[show (((m:Nat):Int)+1).toNat=m+1 by omega];exact hz2 m hlt
   have hit:=C3R (A1b t cz m) ((cz.getD m 0:Nat):Int) I3 ((hC.le hle2).le hle3) (hsm m);have hmv:∀j,A1b t cz m=A1b s (Y2 s) j->A0S s (Y2 s) j= { A0S t cz m with at_:=(((Y2 s).getD j 0:Nat):Int)}:=fun j hj=>by
    rw[A0S, <-hj];exact B8U _ _ _
   have hlook:=hhad.look (A1b t cz m) (.agg it0.toArray);have hfs:=hfr m;rw[show Sp.item (A1b t cz m) ((cz.getD m 0:Nat):Int)=A0S t cz m from rfl]at hit;have hpc:A1b t cz m=(t.drop (cz.getD m 0)).take (cz.getD (m+1) t.length-cz.getD m 0):=rfl;rw[hpc]at hit hmv hlook hfs;have hat:(A0S t cz m).at_=((cz.getD m 0:Nat):Int):=B2t _ _;have hsk:=hsmall m;have hsn:=B3g t cz m;generalize A0S t cz m=it at hit hat hsk hsn hmv;generalize cz.getD (m+1) t.length=e2 at hca hzb hit hmv hlook hfs hpc;generalize cz.getD m 0=e1 at hca hza hit hat hmv hlook hfs hpc;clear hsmall hsm hcat hz1 hz2 hits0 herr hok hfr hpc;rcases hlook with ⟨hb,hcn,j,cs,hpj,hv,hi⟩|⟨hb,hcn,hv⟩
   ·rw[hmv j hpj]at hi
    rw[if_pos hcn]at hfs;obtain⟨ap,cp1,as_,cs1,ab,cb,ad,cd,xb,rfl,r1,r2,r3,r4,r5⟩:=C3w ((hi.le hle2).le hle3);clear hi hit hmv hcn;repeat' (first|refine A0s (id:=24) (hm.perm pm1_1) 3 6 (h:=?_);clear hm;intro wd hR hm|refine Z7 (d:=88) (enc:=A1t) (z:=e1) ?_ (hr:=hrow2) (he:=fun _=>rfl) (hz:=hza);intro bt ot hpt|refine Z7 (d:=93) (enc:=A1t) (z:=e2) ?_ (hr:=hrow2) (he:=fun _=>rfl) (hz:=hzb);intro bt2 ot2 hpt2|refine B1w (s:=(t.drop e1).take (e2-e1)) hm (by rfl) (by rfl) (by rfl) (by rfl) (by first|exact gt0|exact gt1|exact gt2|exact gt3|exact gt4|exact gt5|exact gt6) (by exact hhad.nodup) B1N ?_;rw[hv,hb]|refine Q9 (d:=114) (enc:=A1t) (z:=e1) ?_ (hr:=hrow2) (he:=fun _=>rfl) (hz:=hza);intro bt4 ot4 hpt4|refine U7 (d:=120) ?_ hm (hc:=C3S it hsk _ _ ⟨ap,cp1,as_,cs1,ab,cb,ad,cd,xb,by rw[hat],r1,r2,r3,r4,r5⟩);clear hm;rintro _ I5 _ _ ⟨_,rfl,⟨ap2,cp2,as2,cs2,ab2,cb2,ad2,cd2,xb2,rfl,q1,q2,q3,q4,q5⟩,rfl⟩ hle hm;have hleI5:=hle;try simp only[F9]at hm|refine A3g ?_ hR|refine Y3 ?_ hR|refine A1U (d:=122) ?_ hm;clear hm;intro a122 cp122 _ _ hm;replace hm:=hR.back hm;clear hR;try simp only[F9]at hm|refine Y5 (d:=17) ?_ hm;clear hm;intro b17 _ hm|refine J4 ?_ hm|refine A1w ?_ hm|refine B1s ?_ hm|refine O6 hm (k:=?_);clear hm;intro _ hm;try simp only[F9]at hm|refine D8 ?_|refine D6 ?_|refine J6 ?_|refine N9 ?_|refine G7 ?_|refine Y9 ?_|refine W9 ?_|refine P7 ?_|refine C9 ?_|refine D9 ?_|refine A7 ?_|refine D7 ?_|refine E8 ?_|refine A8 ?_|refine F5 ?_|refine G5 ?_|refine U5 ?_|refine A0j ?_;intro _ hkq;replace hm:=hm.kept0 hkq;clear hkq|refine F7 ?_|(refine D5 (ht:=fun _=>?_) (hf:=fun _=>?_)<;>try first|contradiction|omega)|refine X5 ?_|refine A1X ?_|refine A9W ?_|refine A9b ?_|refine J8 ?_|refine A0b ?_)
    refine L9 (⟨m+1,nf,I5,_,_,_⟩:AgY) (by exact⟨rfl,rfl,rfl,rfl,rfl,rfl,rfl,rfl,trivial⟩) ⟨(hm.front 1 rfl).tl,hle3.trans hleI5,?_,by dsimp only;omega,by dsimp only;omega,by dsimp only;omega⟩ (by dsimp only;omega)
    dsimp only
    rw[hsn];exact(hits.le hleI5).snoc ⟨ap2,cp2,as2,cs2,ab2,cb2,ad2,cd2,xb2,rfl,q1,q2,q3,q4,q5⟩
   ·rw[if_neg (by rw[hcn];exact Bool.false_ne_true)]at hfs
    clear hmv hcn;repeat' (first|refine A0s (id:=24) (hm.perm pm1_1) 3 6 (h:=?_);clear hm;intro wd hR hm|refine Z7 (d:=88) (enc:=A1t) (z:=e1) ?_ (hr:=hrow2) (he:=fun _=>rfl) (hz:=hza);intro bt ot hpt|refine Z7 (d:=93) (enc:=A1t) (z:=e2) ?_ (hr:=hrow2) (he:=fun _=>rfl) (hz:=hzb);intro bt2 ot2 hpt2|refine B1w (s:=(t.drop e1).take (e2-e1)) hm (by rfl) (by rfl) (by rfl) (by rfl) (by first|exact gt0|exact gt1|exact gt2|exact gt3|exact gt4|exact gt5|exact gt6) (by exact hhad.nodup) B1N ?_;rw[hv,hb]|refine Q9 (d:=109) (enc:=A1t) (z:=e1) ?_ (hr:=hrow2) (he:=fun _=>rfl) (hz:=hza);intro bt3 ot3 hpt3|refine F6 ?_ hm (hc:=hit);clear hm;rintro _ I4 _ _ ⟨_,rfl,⟨ap,cp1,as_,cs1,ab,cb,ad,cd,xb,rfl,r1,r2,r3,r4,r5⟩,rfl⟩ hle hm;have hleI4:=hle;try simp only[F9]at hm|refine Q9 (d:=114) (enc:=A1t) (z:=e1) ?_ (hr:=hrow2.le hleI4) (he:=fun _=>rfl) (hz:=hza);intro bt4 ot4 hpt4|refine U7 (d:=120) ?_ hm (hc:=C3S it hsk _ _ ⟨ap,cp1,as_,cs1,ab,cb,ad,cd,xb,by rw[hat],r1,r2,r3,r4,r5⟩);clear hm;rintro _ I5 _ _ ⟨_,rfl,⟨ap2,cp2,as2,cs2,ab2,cb2,ad2,cd2,xb2,rfl,q1,q2,q3,q4,q5⟩,rfl⟩ hle hm;have hleI5:=hle;try simp only[F9]at hm|refine A3g ?_ hR|refine Y3 ?_ hR|refine A1U (d:=122) ?_ hm;clear hm;intro a122 cp122 _ _ hm;replace hm:=hR.back hm;clear hR;try simp only[F9]at hm|refine Y5 (d:=17) ?_ hm;clear hm;intro b17 _ hm|refine J4 ?_ hm|refine A1w ?_ hm|refine B1s ?_ hm|refine N7 ?_ hm;clear hm;intro _ hm;try simp only[F9]at hm|refine O6 hm (k:=?_);clear hm;intro _ hm;try simp only[F9]at hm|refine D8 ?_|refine D6 ?_|refine J6 ?_|refine N9 ?_|refine G7 ?_|refine Y9 ?_|refine W9 ?_|refine P7 ?_|refine C9 ?_|refine D9 ?_|refine A7 ?_|refine D7 ?_|refine E8 ?_|refine A8 ?_|refine F5 ?_|refine G5 ?_|refine U5 ?_|refine A0j ?_;intro _ hkq;replace hm:=hm.kept0 hkq;clear hkq|refine H6 ?_|(refine D5 (ht:=fun _=>?_) (hf:=fun _=>?_)<;>try first|contradiction|omega)|refine X5 ?_|refine A1X ?_|refine A9W ?_|refine A9b ?_|refine J8 ?_|refine A0b ?_)
    refine L9 (⟨m+1,nf+1,I5,_,_,_⟩:AgY) (by exact⟨rfl,rfl,rfl,rfl,rfl,rfl,rfl,rfl,trivial⟩) ⟨(hm.front 1 rfl).tl,(hle3.trans hleI4).trans hleI5,?_,by dsimp only;omega,by dsimp only;omega,by dsimp only;omega⟩ (by dsimp only;omega)
    dsimp only
    rw[hsn];exact(hits.le (hleI4.trans hleI5)).snoc ⟨ap2,cp2,as2,cs2,ab2,cb2,ad2,cd2,xb2,rfl,q1,q2,q3,q4,q5⟩
 ·obtain rfl:m=n:=by omega
  obtain⟨he,hi,hf⟩:=hok hm30;subst he;subst hi;subst hf;rw[<-hnf];have hln:(A3I t cz).length=m:=by rw[hits0];simp
  repeat' (first|refine A5y hm (by rfl) (by rfl) (by rfl) (by rfl) (by first|exact gt0|exact gt1|exact gt2|exact gt3|exact gt4|exact gt5|exact gt6) (by rfl) ?_|refine Y1 ?_ hm|refine N7 ?_ hm;clear hm;intro _ hm;try simp only[F9]at hm|refine D8 ?_|refine D6 ?_|refine J6 ?_|refine D9 ?_|refine A7 ?_|refine H9 ?_|refine H5 ?_|refine E8 ?_|refine A8 ?_|refine P9 ?_|refine H8 ?_|(refine D5 (ht:=fun _=>?_) (hf:=fun _=>?_)<;>try first|contradiction|omega))
  obtain⟨I4,hle4,hm4,hrow4⟩:=(hm.front 0 rfl).freeze;refine⟨I4,[],⟨a,cp,xs,?_,?_,by rw[hits0];exact hits.le hle4,rfl⟩,hm4.left (H:= [])⟩
  ·rw[hln];rfl
  ·rw[hln];exact hrow4
abbrev A9K (l:Sp.Lc):List Value:= [str l.name,nt l.at_]
abbrev A4b (u:Sp.Us):List Value:= [.int .i64 u.fr,.int .i64 u.to,.int .i64 u.df]
abbrev C0g (sc:List Sp.Lc) (sa:Option Addr) (sp:Nat):HItem:=.row (.slice sa sc.length sp) 252 2 sc.length (sc.flatMap A9K)
abbrev C4s (us:List Sp.Us) (ua:Option Addr) (up:Nat):HItem:=.row (.slice ua us.length up) 58 3 us.length (us.flatMap A4b)
abbrev C8p (bc bf:Nat) (pi:Value) (sc:List Sp.Lc) (sa:Option Addr) (sp:Nat) (s:Sp.NW) (da:Option Addr) (dp:Nat) (ua:Option Addr) (up:Nat):HItem:=
 .obj bc (.cells [ptr bf,pi,.slice sa sc.length sp,.slice da s.ds.length dp,.slice ua s.us.length up].toArray 135 (0,0))
abbrev NSt (bc bf:Nat) (pi:Value) (sc:List Sp.Lc) (sa:Option Addr) (sp:Nat) (s:Sp.NW) (da:Option Addr) (dp:Nat) (ua:Option Addr) (up:Nat):List HItem:=
 [C8p bc bf pi sc sa sp s da dp ua up,C4s s.us ua up,C0g sc sa sp,A39 s.ds da dp]
abbrev ToN (bc bf:Nat) (pi:Value) (sc:List Sp.Lc) (s:Sp.NW) (val:Value):Value->P6->List HItem->Prop:=
 fun v _ H'=>v=val/\∃sa sp da dp ua up,H'=NSt bc bf pi sc sa sp s da dp ua up
structure NRd (J:P6) (bc bf:Nat) (pi:Value) (sc:List Sp.Lc) (sa:Option Addr) (sp:Nat) (v3 v4:Value):Prop where
 ptr:PtrI J bc 0 135 [ptr bf,pi,.slice sa sc.length sp,v3,v4]
 row:RowI J 252 2 (.slice sa sc.length sp) sc.length (sc.flatMap A9K)
def lcV:Option Sp.Lc->Value
 |some l=> .tuple #[.agg [str l.name,nt l.at_].toArray,.bool true]
 |none=> .tuple #[.agg [str [],nt 0].toArray,.bool false]
structure NC (I:P6) (src:List UInt8) (p:Nat) (q:List UInt8) (its:List Sp.Itm) (it:Sp.Itm) (bf:Nat) (a:Option Addr) (cp:Nat) (xs:List Value) (pi:Value):Prop where
 file:PtrI I bf 0 25 [.slice a its.length cp]
 fe:FE I its a cp xs
 item:∃bi oi tc ci,pi=.pointer (some ⟨bi,oi,none⟩)/\PtrI I bi oi tc ci/\A5W I it ci
 len:src.length<=4000
 st:Sp.ItS src p q it
 sts:∀x∈its,A8F src x
theorem NC.le {I J:P6} (m:Le I J) {src:List UInt8}{p:Nat}{q:List UInt8}{its:List Sp.Itm}{it:Sp.Itm}{bf:Nat}{a:Option Addr}{cp:Nat}{xs:List Value}{pi:Value} (h:NC I src p q its it bf a cp xs pi):NC J src p q its it bf a cp xs pi:=by
 obtain⟨h1,h2,⟨bi,oi,tc,ci,e,h3,h4⟩,h5,h6,h7⟩:=h;exact⟨h1.le m,h2.le m,⟨bi,oi,tc,ci,e,h3.le m,h4.le m⟩,h5,h6,h7⟩
section
variable {I:P6}{bc bf sp dp up:Nat}{pi:Value}{sc:List Sp.Lc}{sa da ua:Option Addr}{s:Sp.NW}
theorem CalR.walker {f:FuncId}{args:Array Value}{v:Value} (h:∀J,Le I J->NRd J bc bf pi sc sa sp (.slice da s.ds.length dp) (.slice ua s.us.length up)->CalR prog f args J [] v):
  CalR prog f args I (NSt bc bf pi sc sa sp s da dp ua up) v:=
 CalR.of fun w J hm hl hH hJ=>by
  have h1:=A7m (hH (C8p bc bf pi sc sa sp s da dp ua up) (by simp));have h2:=B4A (hH (C0g sc sa sp) (by simp));rw[<-hJ]at h1 h2;exact(h J hl ⟨h1,h2⟩).run w hm.inv (fun _ h=>by cases h)
theorem C0l {J:P6}{v3 v4:Value} (n:List UInt8) (hs:sc.length<=1099511627776) (h:NRd J bc bf pi sc sa sp v3 v4):CalM prog 153 #[ptr bc,str n] J [] (fun v _ H'=>v=lcV (A1A sc n)/\H'= []):=by
 refine CalM.of fun w E hm=>enter (N:=35) func153 rfl [(0,ptr bc),(1,str n)] A0T rfl ?_
 obtain⟨hp,hr⟩:=h;repeat' (first|refine U1 (d:=4) ?_ hm;clear hm;intro b4 _ hm|refine J5 ?_ hm|refine D8 ?_|refine D6 ?_|refine G7 ?_|refine E5 ?_|refine A3i ?_|refine C9 ?_|refine D9 ?_|refine A7 ?_|refine E8 ?_|refine A8 ?_|refine F5 ?_)
 refine U2 (fun k:Nat=> [(0,ptr bc),(1,str n),(4,ptr b4),(6,.int .i64 ((k:Int)-1))]) (fun k w'=>Mem E J [.cell b4 [str [],nt 0] 252] w'/\k<=sc.length/\A1A sc n=A1A (sc.take k) n) (fun k=>k) sc.length (by exact⟨rfl,rfl,rfl,rfl,trivial⟩) ⟨hm,G9 _,by rw[V5]⟩ ?_
 clear hm;rintro k w1 ⟨hm,hk,hf⟩;try dsimp only at hm hk hf |-
 by_cases h0:0<k
 ·have hg:sc[k-1]?=some sc[k-1]:=G6 (by omega)
  have hcut:=B8K n hg;rw[show k-1+1=k by omega]at hcut;generalize sc[k-1]=x at hg hcut;rw[hcut]at hf;have hi:sc[((k:Int)-1).toNat]?=some x:=by rw[show ((k:Int)-1).toNat=k-1 by omega];exact hg
  by_cases hx:x.name=n
  ·rw[if_pos hx]at hf
   repeat' (first|refine Q9 (d:=22) (enc:=A9K) (z:=x) ?_ (hr:=hr) (he:=fun _=>rfl) (hz:=hi);intro b1 o1 p1|refine Q9 (d:=32) (enc:=A9K) (z:=x) ?_ (hr:=hr) (he:=fun _=>rfl) (hz:=hi);intro b2 o2 p2|refine J5 ?_ hm|refine X3 ?_ hm|refine N7 ?_ hm;clear hm;intro _ hm;try simp only[F9]at hm|refine A2S ?_ hm|refine D8 ?_|refine D6 ?_|refine A04 ?_|refine V9 ?_|refine E5 ?_|refine C9 ?_|refine D9 ?_|refine A7 ?_|refine G8 ?_|refine O1 ?_|refine E8 ?_|refine A8 ?_|refine F5 ?_|refine G5 ?_|refine H8 ?_|(refine D5 (ht:=fun _=>?_) (hf:=fun _=>?_)<;>try first|contradiction|omega))
   exact⟨J,[],⟨by rw[hf];rfl,rfl⟩,hm.left (H:= [])⟩
  ·rw[if_neg hx]at hf
   repeat' (first|refine Q9 (d:=22) (enc:=A9K) (z:=x) ?_ (hr:=hr) (he:=fun _=>rfl) (hz:=hi);intro b1 o1 p1|refine J5 ?_ hm|refine D8 ?_|refine D6 ?_|refine A04 ?_|refine V9 ?_|refine E5 ?_|refine A3i ?_|refine C9 ?_|refine D9 ?_|refine A7 ?_|refine D7 ?_|refine E8 ?_|refine A8 ?_|refine F5 ?_|refine G5 ?_|(refine D5 (ht:=fun _=>?_) (hf:=fun _=>?_)<;>try first|contradiction|omega))
   refine L9 (k-1:Nat) (by exact⟨rfl,rfl,rfl,by rw[show (((k-1:Nat):Int)-1)=(k:Int)-1-1 by omega];rfl,trivial⟩) ⟨hm,by omega,hf⟩ (by omega)
 ·obtain rfl:k=0:=by omega
  repeat' (first|refine N7 ?_ hm;clear hm;intro _ hm;try simp only[F9]at hm|refine A2S ?_ hm|refine D8 ?_|refine D6 ?_|refine A04 ?_|refine Q3 ?_|refine D9 ?_|refine A7 ?_|refine H9 ?_|refine H5 ?_|refine E8 ?_|refine A8 ?_|refine P9 ?_|refine H8 ?_|refine F7 ?_)
  exact⟨J,[],⟨by rw[hf];rfl,rfl⟩,hm.left (H:= [])⟩
theorem C19 (bc bf:Nat) (pi:Value) (sc:List Sp.Lc) (sa:Option Addr) (sp:Nat) (s:Sp.NW) (f e:Nat) (n:List UInt8) (da:Option Addr) (dp:Nat) (ua:Option Addr) (up:Nat):
  [.obj bc (.cells [ptr bf,pi,.slice sa sc.length sp,.slice da (s.ds.length+1) dp,.slice ua s.us.length up].toArray 135 (0,0)),C4s s.us ua up,C0g sc sa sp,.row (.slice da (s.ds.length+1) dp) 85 4 (s.ds.length+1) (s.ds.flatMap A5G++A5G ⟨f,f+n.length,e,n⟩)]=NSt bc bf pi sc sa sp (s.tell f e n) da dp ua up:=by
 simp[Sp.NW.tell]
theorem C4J (bc bf:Nat) (pi:Value) (sc:List Sp.Lc) (sa:Option Addr) (sp:Nat) (s:Sp.NW) (b:Int) (f:Nat) (n:List UInt8) (d:Int) (da:Option Addr) (dp:Nat) (ua:Option Addr) (up:Nat):
  [.obj bc (.cells [ptr bf,pi,.slice sa sc.length sp,.slice da s.ds.length dp,.slice ua (s.us.length+1) up].toArray 135 (0,0)),.row (.slice ua (s.us.length+1) up) 58 3 (s.us.length+1) (s.us.flatMap A4b++A4b ⟨b+f,b+f+n.length,d⟩),C0g sc sa sp,A39 s.ds da dp]=NSt bc bf pi sc sa sp (s.use b f n d) da dp ua up:=by
 simp[Sp.NW.use]
theorem B1C (n:List UInt8) (f e:Nat) (hf:f+n.length<=1099511627776) (hd:s.n<=1000000000):
  CalM prog 88 #[ptr bc,nt f,nt e,str n] I (NSt bc bf pi sc sa sp s da dp ua up) (ToN bc bf pi sc (s.tell f e n) (.tuple #[])):=by
 have hn:s.n=s.ds.length+s.us.length:=rfl;refine CalM.of fun w E hm=>enter (N:=25) func88 rfl [(0,ptr bc),(1,nt f),(2,nt e),(3,str n)] B2R rfl ?_
 repeat' (first|refine A2l (d:=22) ?_ hm;clear hm;intro a22 cp22 _ _ hm;try simp only[F9]at hm|refine J4 ?_ hm|refine O6 hm (k:=?_);clear hm;intro _ hm;try simp only[F9]at hm|refine D8 ?_|refine A0G ?_|refine E5 ?_|refine P7 ?_|refine C9 ?_|refine Q3 ?_|refine D9 ?_|refine A8 ?_|refine X0 ?_)
 exact⟨I,_,⟨rfl,_,_,_,_,_,_,C19 _ _ _ _ _ _ s f e n _ _ _ _⟩,hm⟩
theorem C6s {src:List UInt8}{p:Nat}{q:List UInt8}{its:List Sp.Itm}{it:Sp.Itm}{a:Option Addr}{cp:Nat}{xs:List Value} (hC:NC I src p q its it bf a cp xs pi) (f:Nat) (n:List UInt8) (d:Int) (hst:A0R q f n) (hd:s.n<=1000000000):
  CalM prog 154 #[ptr bc,nt f,str n,.int .i64 d] I (NSt bc bf pi sc sa sp s da dp ua up) (ToN bc bf pi sc (s.use p f n d) (.tuple #[])):=by
 have hn:s.n=s.ds.length+s.us.length:=rfl;have hb:=(hC.st.sub _ _ hst).1;have hlen:=hC.len;have hat:=hC.st.at_;refine CalM.of fun w E hm=>enter (N:=40) func154 rfl [(0,ptr bc),(1,nt f),(2,str n),(3,.int .i64 d)] B2R rfl ?_
 obtain⟨bi,oi,tci,ci,rfl,hpi,hati⟩:=hC.item;obtain⟨pa,pc,sa9,sc9,ba,bc9,da9,dc9,xb,rfl,_⟩:=hati;rw[hat]at hpi;repeat' (first|refine A0s (id:=0) (hm.perm pm1_1) 28 30 (h:=?_);clear hm;intro wd hR hm|refine Y3 ?_ hR|refine A0c ?_ hR|refine A1U (d:=37) ?_ hm;clear hm;intro a37 cp37 _ _ hm;replace hm:=hR.back hm;clear hR;try simp only[F9]at hm|refine O6 hm (k:=?_);clear hm;intro _ hm;try simp only[F9]at hm|refine E5 ?_|refine C9 ?_|refine D9 ?_|refine X0 ?_|refine Z4 ?_|refine C12 ?_|refine O5 ?_|refine B8c ?_|refine J8 ?_|refine A2M ?_|refine A0b ?_)
 exact⟨I,_,⟨rfl,_,_,_,_,_,_,C4J _ _ _ _ _ _ s p f n d _ _ _ _⟩,hm.swap⟩
end
theorem B6m (bc bf:Nat) (pi:Value) (sc:List Sp.Lc) (sa:Option Addr) (sp:Nat) (s:Sp.NW) (n:List UInt8) (x:Nat) (da:Option Addr) (dp:Nat) (ua:Option Addr) (up:Nat):
  [.obj bc (.cells [ptr bf,pi,.slice sa (sc.length+1) sp,.slice da s.ds.length dp,.slice ua s.us.length up].toArray 135 (0,0)),C4s s.us ua up,.row (.slice sa (sc.length+1) sp) 252 2 (sc.length+1) (sc.flatMap A9K++A9K ⟨n,x⟩),A39 s.ds da dp]=NSt bc bf pi (sc++ [⟨n,x⟩]) sa sp s da dp ua up:=by
 simp
section
variable {I:P6}{bc bf sp dp up:Nat}{pi:Value}{sc:List Sp.Lc}{sa da ua:Option Addr}{s:Sp.NW}
theorem C3B (n:List UInt8) (a:Nat) (ha:a+n.length<=1099511627776) (hs:sc.length<=1000000000) (hd:s.n<=1000000000):
  CalM prog 120 #[ptr bc,str n,nt a] I (NSt bc bf pi sc sa sp s da dp ua up) (ToN bc bf pi (Sp.mkN n a sc s).1 (Sp.mkN n a sc s).2 (.tuple #[])):=by
 refine CalM.of fun w E hm=>enter (N:=33) func120 rfl [(0,ptr bc),(1,str n),(2,nt a)] A3C rfl ?_
 by_cases hn:n= []
 ·subst hn
  repeat' (first|refine D8 ?_|refine V9 ?_|refine D9 ?_|refine A7 ?_|refine G8 ?_|refine E8 ?_|refine A8 ?_|refine H8 ?_|refine A4U ?_|refine H6 ?_)
  exact⟨I,_,⟨rfl,_,_,_,_,_,_,rfl⟩,hm⟩
 have hg:=CalR.walker (I:=I) (bc:=bc) (bf:=bf) (pi:=pi) (sc:=sc) (sa:=sa) (sp:=sp) (s:=s) (da:=da) (dp:=dp) (ua:=ua) (up:=up) (fun J m h=>(C0l n (by omega) h).read);cases hf:A1A sc n with
 |some l=>
  rw[hf]at hg;dsimp only[lcV]at hg;rw[C3t hn hf];have hT:=fun (J:P6)=>B1C (I:=J) (bc:=bc) (bf:=bf) (pi:=pi) (sc:=sc) (sa:=sa) (sp:=sp) (s:=s) (da:=da) (dp:=dp) (ua:=ua) (up:=up) n a 7 ha hd
  repeat' (first|refine S9 (d:=13) ?_ hm (hs:=B3J) (hc:=by exact hg);clear hm;intro _ hm|refine F6 (d:=20) ?_ hm (hp:=B4N) (hc:=hT I);clear hm;rintro _ I2 _ _ ⟨rfl,sa2,sp2,da2,dp2,ua2,up2,rfl⟩ hleI2 hm;try simp only[F9]at hm|refine Y5 (d:=6) ?_ hm;clear hm;intro b6 _ hm|refine A2l (d:=30) ?_ hm;clear hm;intro a30 cp30 _ _ hm;try simp only[F9]at hm|refine J4 ?_ hm|refine O6 hm (k:=?_);clear hm;intro _ hm;try simp only[F9]at hm|refine D8 ?_|refine D6 ?_|refine V9 ?_|refine W9 ?_|refine E5 ?_|refine C9 ?_|refine Q3 ?_|refine D9 ?_|refine A7 ?_|refine E8 ?_|refine A8 ?_|refine G5 ?_|refine X0 ?_|refine H6 ?_|(refine D5 (ht:=fun _=>?_) (hf:=fun _=>?_)<;>try first|contradiction|omega))
  exact⟨I2,_,⟨rfl,_,_,_,_,_,_,B6m _ _ _ _ _ _ (s.tell a 7 n) n a _ _ _ _⟩,hm.left⟩
 |none=>
  rw[hf]at hg;dsimp only[lcV]at hg;rw[C3r hn hf];repeat' (first|refine S9 (d:=13) ?_ hm (hs:=B3J) (hc:=by exact hg);clear hm;intro _ hm|refine Y5 (d:=6) ?_ hm;clear hm;intro b6 _ hm|refine A2l (d:=30) ?_ hm;clear hm;intro a30 cp30 _ _ hm;try simp only[F9]at hm|refine J4 ?_ hm|refine O6 hm (k:=?_);clear hm;intro _ hm;try simp only[F9]at hm|refine D8 ?_|refine D6 ?_|refine V9 ?_|refine W9 ?_|refine E5 ?_|refine C9 ?_|refine Q3 ?_|refine D9 ?_|refine A7 ?_|refine E8 ?_|refine A8 ?_|refine G5 ?_|refine X0 ?_|refine F7 ?_|(refine D5 (ht:=fun _=>?_) (hf:=fun _=>?_)<;>try first|contradiction|omega))
  exact⟨I,_,⟨rfl,_,_,_,_,_,_,B6m _ _ _ _ _ _ s n a _ _ _ _⟩,hm.tl⟩
variable {src:List UInt8}{p:Nat}{q:List UInt8}{its:List Sp.Itm}{it:Sp.Itm}{a:Option Addr}{cp:Nat}{xs:List Value}
theorem C0m (hC:NC I src p q its it bf a cp xs pi) (f:Nat) (n:List UInt8) (hst:A0R q f n) (hsc:A59 q sc) (hs:sc.length<=1000000000) (hd:s.n<=1000000000):
  CalM prog 187 #[ptr bc,nt f,str n] I (NSt bc bf pi sc sa sp s da dp ua up) (ToN bc bf pi sc (A72 p sc f n s) (.tuple #[])):=by
 have hb:=(hC.st.sub _ _ hst).1;have hlen:=hC.len;have hat:=hC.st.at_;refine CalM.of fun w E hm=>enter (N:=35) func187 rfl [(0,ptr bc),(1,nt f),(2,str n)] A3C rfl ?_
 have hg:=CalR.walker (I:=I) (bc:=bc) (bf:=bf) (pi:=pi) (sc:=sc) (sa:=sa) (sp:=sp) (s:=s) (da:=da) (dp:=dp) (ua:=ua) (up:=up) (fun J m h=>(C0l n (by omega) h).read);cases hf:A1A sc n with
 |some l=>
  rw[hf]at hg;dsimp only[lcV]at hg;rw[C1l hf];have hl:=(hC.st.sub _ _ (hsc _ (A7F hf).1).2).1;have hU:=fun (J:P6) (m:Le I J)=>C6s (I:=J) (bc:=bc) (sc:=sc) (sa:=sa) (sp:=sp) (s:=s) (da:=da) (dp:=dp) (ua:=ua) (up:=up) (hC.le m) f n ((p:Int)+l.at_) hst hd
  obtain⟨bi,oi,tci,ci,rfl,hpi,hati⟩:=hC.item;obtain⟨pa,pc,sa9,sc9,ba,bc9,da9,dc9,xb,rfl,_⟩:=hati;rw[hat]at hpi;repeat' (first|refine S9 (d:=11) ?_ hm (hs:=B3J) (hc:=by exact hg);clear hm;intro _ hm|refine V7 (id:=2) 13 (h:=?_)|refine F6 (d:=28) ?_ hm (hp:=B4N) (hc:=hU I (Le.refl _));clear hm;rintro _ I2 _ _ ⟨rfl,sa2,sp2,da2,dp2,ua2,up2,rfl⟩ hleI2 hm;try simp only[F9]at hm|refine Y5 (d:=6) ?_ hm;clear hm;intro b6 _ hm|refine V3 ?_ hm|refine A0q ?_ hm|refine D8 ?_|refine D6 ?_|refine W9 ?_|refine D9 ?_|refine A7 ?_|refine E8 ?_|refine A8 ?_|refine X0 ?_|refine A0e ?_;intro _ hkq;replace hm:=hm.kept0 hkq;clear hkq|refine H6 ?_|refine X5 ?_|refine O8 ?_|refine A9W ?_|refine L6 ?_)
  exact⟨I2,_,⟨rfl,_,_,_,_,_,_,rfl⟩,hm.left⟩
 |none=>
  rw[hf]at hg;dsimp only[lcV]at hg;rw[C1k hf];by_cases hn:n= []
  ·rw[if_pos hn]
   subst hn;repeat' (first|refine S9 (d:=11) ?_ hm (hs:=B3J) (hc:=by exact hg);clear hm;intro _ hm|refine Y5 (d:=6) ?_ hm;clear hm;intro b6 _ hm|refine D8 ?_|refine D6 ?_|refine A08 ?_|refine W9 ?_|refine D9 ?_|refine A7 ?_|refine E8 ?_|refine A8 ?_|refine G5 ?_|refine X0 ?_|refine F7 ?_)
   exact⟨I,_,⟨rfl,_,_,_,_,_,_,rfl⟩,hm.tl⟩
  ·rw[if_neg hn]
   have hT:=fun (J:P6)=>B1C (I:=J) (bc:=bc) (bf:=bf) (pi:=pi) (sc:=sc) (sa:=sa) (sp:=sp) (s:=s) (da:=da) (dp:=dp) (ua:=ua) (up:=up) n f 6 (by omega) hd
   repeat' (first|refine S9 (d:=11) ?_ hm (hs:=B3J) (hc:=by exact hg);clear hm;intro _ hm|refine F6 (d:=34) ?_ hm (hp:=B4N) (hc:=hT I);clear hm;rintro _ I2 _ _ ⟨rfl,sa2,sp2,da2,dp2,ua2,up2,rfl⟩ hleI2 hm;try simp only[F9]at hm|refine Y5 (d:=6) ?_ hm;clear hm;intro b6 _ hm|refine D8 ?_|refine D6 ?_|refine A08 ?_|refine W9 ?_|refine D9 ?_|refine A7 ?_|refine E8 ?_|refine A8 ?_|refine X0 ?_|refine F7 ?_|(refine D5 (ht:=fun _=>?_) (hf:=fun _=>?_)<;>try first|contradiction|omega))
   exact⟨I2,_,⟨rfl,_,_,_,_,_,_,rfl⟩,hm.left⟩
theorem B5v (hC:NC I src p q its it bf a cp xs pi) (k:Int) (f:Nat) (n:List UInt8) (hst:A0R q f n) (hd:s.n<=1000000000) (hf:A0Z its k n=none):
  CalM prog 121 #[ptr bc,.int .i64 k,nt f,str n] I (NSt bc bf pi sc sa sp s da dp ua up) (ToN bc bf pi sc (A5e its p k f n s) (.pointer none)):=by
 have hb:=(hC.st.sub _ _ hst).1;have hlen:=hC.len;refine CalM.of fun w E hm=>enter (N:=51) func121 rfl [(0,ptr bc),(1,.int .i64 k),(2,nt f),(3,str n)] B2R rfl ?_
 have hCf:=hC.file;have hfind:=(A7b k n its I a cp xs hC.fe).read;rw[A4c,hf]at hfind;dsimp only at hfind;rw[C1g hf];by_cases hn:n= []
 ·rw[if_pos hn]
  subst hn;repeat' (first|refine S9 (d:=19) ?_ hm (hc:=hfind);clear hm;intro _ hm|refine J4 ?_ hm|refine X3 ?_ hm|refine D8 ?_|refine D6 ?_|refine J6 ?_|refine A08 ?_|refine E5 ?_|refine C9 ?_|refine D9 ?_|refine A7 ?_|refine G8 ?_|refine E8 ?_|refine A8 ?_|refine G5 ?_|refine H8 ?_|refine J9 ?_|refine H6 ?_|refine F7 ?_)
  exact⟨I,_,⟨rfl,_,_,_,_,_,_,rfl⟩,hm⟩
 ·rw[if_neg hn]
  have hT:=fun (J:P6)=>B1C (I:=J) (bc:=bc) (bf:=bf) (pi:=pi) (sc:=sc) (sa:=sa) (sp:=sp) (s:=s) (da:=da) (dp:=dp) (ua:=ua) (up:=up) n f 6 (by omega) hd
  repeat' (first|refine S9 (d:=19) ?_ hm (hc:=hfind);clear hm;intro _ hm|refine F6 (d:=27) ?_ hm (hp:=A3E) (hc:=hT I);clear hm;rintro _ I2 _ _ ⟨rfl,sa2,sp2,da2,dp2,ua2,up2,rfl⟩ hleI2 hm;try simp only[F9]at hm|refine J4 ?_ hm|refine X3 ?_ hm|refine D8 ?_|refine D6 ?_|refine J6 ?_|refine A08 ?_|refine E5 ?_|refine C9 ?_|refine D9 ?_|refine A7 ?_|refine G8 ?_|refine E8 ?_|refine A8 ?_|refine H8 ?_|refine J9 ?_|refine H6 ?_|(refine D5 (ht:=fun _=>?_) (hf:=fun _=>?_)<;>try first|contradiction|omega))
  exact⟨I2,_,⟨rfl,_,_,_,_,_,_,rfl⟩,hm⟩
theorem B5w (hC:NC I src p q its it bf a cp xs pi) (k:Int) (f:Nat) (n:List UInt8) (hst:A0R q f n) (hd:s.n<=1000000000) {j:Nat} (hf:A0Z its k n=some j):
  CalM prog 121 #[ptr bc,.int .i64 k,nt f,str n] I (NSt bc bf pi sc sa sp s da dp ua up)
   (fun v I' H'=>(∃bj oj cj,v=.pointer (some ⟨bj,oj,none⟩)/\PtrI I' bj oj 43 cj/\A5W I' (A0o its j) cj)/\∃sa sp da dp ua up,H'=NSt bc bf pi sc sa sp (A5e its p k f n s) da dp ua up):=by
 refine CalM.of fun w E hm=>enter (N:=51) func121 rfl [(0,ptr bc),(1,.int .i64 k),(2,nt f),(3,str n)] B2R rfl ?_
 have hCf:=hC.file;have hlen:=hC.len;have hri:=hC.fe.row;have hfew:=hC.fe.few;have hfind:=(A7b k n its I a cp xs hC.fe).read;rw[A4c,hf]at hfind;dsimp only at hfind;rw[C1h hf];obtain⟨hj,_,_,_,hmemj⟩:=A2D hf;obtain⟨_,dd,hdd,hds⟩:=B4p hC.sts hf;have hd0:=hds.1;have hU:=fun (J:P6) (m:Le I J)=>C6s (I:=J) (bc:=bc) (sc:=sc) (sa:=sa) (sp:=sp) (s:=s) (da:=da) (dp:=dp) (ua:=ua) (up:=up) (hC.le m) f n ((A0o its j).at_+(A0o its j).mark) hst hd
 obtain⟨ci,hci,hat,hlc⟩:=hC.fe.get (A2G hj);have hat0:=hat
 obtain⟨pa,pc,sa9,sc9,ba,bc9,da9,dc9,xb,rfl,_⟩:=hat
 repeat' (first|refine S9 (d:=19) ?_ hm (hc:=hfind);clear hm;intro _ hm|refine O0 (d:=36) ?_ (hr:=hri);intro bu ou hpu;rw[show ((j:Int).toNat *10)=j *10 from rfl,hci]at hpu|refine V7 (id:=7) 12 (h:=?_)|refine F6 (d:=49) ?_ hm (hp:=A3E) (hc:=hU I (Le.refl _));clear hm;rintro _ I2 _ _ ⟨rfl,sa2,sp2,da2,dp2,ua2,up2,rfl⟩ hleI2 hm;try simp only[F9]at hm|refine J4 ?_ hm|refine J5 ?_ hm|refine X3 ?_ hm|refine A0q ?_ hm|refine D8 ?_|refine D6 ?_|refine J6 ?_|refine E5 ?_|refine C9 ?_|refine D9 ?_|refine A7 ?_|refine E8 ?_|refine A8 ?_|refine G5 ?_|refine H8 ?_|refine J9 ?_|refine A0e ?_;intro _ hkq;replace hm:=hm.kept0 hkq;clear hkq|refine F7 ?_|refine X5 ?_|refine O8 ?_|refine A9W ?_|refine L6 ?_)
 exact⟨I2,_,And.intro ⟨_,_,_,rfl,hpu.le hleI2,hat0.le hleI2⟩ ⟨_,_,_,_,_,_,rfl⟩,hm⟩
end
structure NX where
 k:Nat
 I:P6
 sa:Option Addr
 sp:Nat
 da:Option Addr
 dp:Nat
 ua:Option Addr
 up:Nat
def C7X (src:List UInt8) (p:Nat) (q:List UInt8) (its:List Sp.Itm) (it:Sp.Itm) (bc bf:Nat) (a:Option Addr) (cp:Nat) (xs:List Value) (pi:Value) (sc:List Sp.Lc) (e:Sp.Ex):Prop:=
 ∀(I:P6) (b o tc:Nat) (ea:Option Addr) (ec:Nat) (ys:List Value) (s:Sp.NW) (sa:Option Addr) (sp:Nat) (da:Option Addr) (dp:Nat) (ua:Option Addr) (up:Nat),s.n+2 *e.cnt<=900000000->NC I src p q its it bf a cp xs pi->
  PtrI I b o tc (A0z e ea ec)->RowI I 109 6 (.slice ea e.args.length ec) e.args.length ys->Y7 I e.args ys->
  CalM prog 186 #[ptr bc,.pointer (some ⟨b,o,none⟩)] I (NSt bc bf pi sc sa sp s da dp ua up) (ToN bc bf pi sc (Sp.exN its p sc e s) (.tuple #[]))
section
variable {src:List UInt8}{p:Nat}{q:List UInt8}{its:List Sp.Itm}{it:Sp.Itm}{bc bf:Nat}{a:Option Addr}{cp:Nat}{xs:List Value}{pi:Value}{sc:List Sp.Lc}
theorem C60 (hs:sc.length<=1000000000) (hsc:A59 q sc):∀(n:Nat) (e:Sp.Ex),SizeOf.sizeOf e<=n->e.small->e.all (Sp.stE q)->C7X src p q its it bc bf a cp xs pi sc e:=by
 intro n;induction n with
 |zero=>intro e h;cases e;simp at h
 |succ n ih=>
 intro e hsz hsm hall I b o tc ea ec ys s sa sp da dp ua up hn hC hp hr hx;obtain⟨hal,hasm⟩:=A3X hsm;obtain⟨hst,haall⟩:=Sp.Ex.all_node hall;have hcnt:=C2A e;refine CalM.of fun w E hm=>enter (N:=76) func186 rfl [(0,ptr bc),(1,.pointer (some ⟨b,o,none⟩))] A0T rfl ?_
 have hhd:=C45 its p sc e s;rw[C6M];have hhr:B3a its p sc e s=if e.kind=2 then A72 p sc e.fr e.name s else if e.kind=4 then A5h its p e.fr e.name e.args.length s else s:=rfl
 generalize B3a its p sc e s=r at hhr hhd |-;repeat' (first|refine A65 0 (fun _:NX=> [(0,ptr bc),(1,.pointer (some ⟨b,o,none⟩))]) (fun x w'=>Mem E x.I (NSt bc bf pi sc x.sa x.sp r x.da x.dp x.ua x.up) w'/\Le I x.I) ?_ ?_)
 ·refine⟨?_⟩
  by_cases k2:e.kind=2
  ·rw[if_pos k2]at hhr
   subst hhr;have hc:=fun (J:P6) (m:Le I J)=>C0m (I:=J) (bc:=bc) (sc:=sc) (sa:=sa) (sp:=sp) (s:=s) (da:=da) (dp:=dp) (ua:=ua) (up:=up) (hC.le m) e.fr e.name (hst (.inl k2)) hsc hs (by omega)
   repeat' (first|refine V7 (id:=2) 9 (h:=?_)|refine F6 (d:=21) ?_ hm (hp:=A3E) (hc:=hc I (Le.refl _));clear hm;rintro _ I2 _ _ ⟨rfl,sa2,sp2,da2,dp2,ua2,up2,rfl⟩ hleI2 hm;try simp only[F9]at hm|refine J5 ?_ hm|refine A0q ?_ hm|refine D8 ?_|refine D6 ?_|refine N9 ?_|refine E5 ?_|refine C9 ?_|refine D9 ?_|refine A7 ?_|refine D7 ?_|refine E8 ?_|refine A8 ?_|refine F5 ?_|refine A0e ?_;intro _ hkq;replace hm:=hm.kept0 hkq;clear hkq|(refine D5 (ht:=fun _=>?_) (hf:=fun _=>?_)<;>try first|contradiction|omega)|refine X5 ?_|refine O8 ?_|refine L6 ?_)
   exact A02 (⟨0,I2,sa2,sp2,da2,dp2,ua2,up2⟩:NX) (by exact⟨rfl,rfl,trivial⟩) ⟨hm,hleI2⟩
  rw[if_neg k2]at hhr;by_cases k4:e.kind=4
  ·rw[if_pos k4]at hhr
   have hin:=B3h its p 2 e.fr e.name s;have hbd:=(hC.st.sub _ _ (hst (.inr k4))).1;have hlen:=hC.len;cases hf:A0Z its 2 e.name with
   |none=>
    rw[B8x hf]at hhr;subst hhr;have hc:=fun (J:P6) (m:Le I J)=>B5v (I:=J) (bc:=bc) (sc:=sc) (sa:=sa) (sp:=sp) (s:=s) (da:=da) (dp:=dp) (ua:=ua) (up:=up) (hC.le m) 2 e.fr e.name (hst (.inr k4)) (by omega) hf
    repeat' (first|refine V7 (id:=4) 9 (h:=?_)|refine F6 (d:=33) ?_ hm (hp:=A3E) (hc:=hc I (Le.refl _));clear hm;rintro _ I2 _ _ ⟨rfl,sa2,sp2,da2,dp2,ua2,up2,rfl⟩ hleI2 hm;try simp only[F9]at hm|refine A78 (e:=43) (k:=?_)|refine J5 ?_ hm|refine A0q ?_ hm|refine D8 ?_|refine D6 ?_|refine N9 ?_|refine E5 ?_|refine C9 ?_|refine D9 ?_|refine A7 ?_|refine D7 ?_|refine E8 ?_|refine A8 ?_|refine F5 ?_|refine G5 ?_|refine U5 ?_|refine A0j ?_;intro _ hkq;replace hm:=hm.kept0 hkq;clear hkq|refine A0e ?_;intro _ hkq;replace hm:=hm.kept0 hkq;clear hkq|refine F7 ?_|(refine D5 (ht:=fun _=>?_) (hf:=fun _=>?_)<;>try first|contradiction|omega)|refine X5 ?_|refine A09 ?_|refine O8 ?_|refine L6 ?_|refine A38 ?_)
    exact A02 (⟨0,I2,sa2,sp2,da2,dp2,ua2,up2⟩:NX) (by exact⟨rfl,rfl,trivial⟩) ⟨hm,hleI2⟩
   |some j=>
    rw[B8y hf]at hhr;have hc:=fun (J:P6) (m:Le I J)=>B5w (I:=J) (bc:=bc) (sc:=sc) (sa:=sa) (sp:=sp) (s:=s) (da:=da) (dp:=dp) (ua:=ua) (up:=up) (hC.le m) 2 e.fr e.name (hst (.inr k4)) (by omega) hf
    generalize A5e its p 2 e.fr e.name s=s1 at hc hhr hin;by_cases hpl:(A0o its j).params.length≠e.args.length
    ·rw[if_pos hpl]at hhr
     subst hhr;have hT:=fun (J:P6) (sa:Option Addr) (sp:Nat) (da:Option Addr) (dp:Nat) (ua:Option Addr) (up:Nat)=>B1C (I:=J) (bc:=bc) (bf:=bf) (pi:=pi) (sc:=sc) (sa:=sa) (sp:=sp) (s:=s1) (da:=da) (dp:=dp) (ua:=ua) (up:=up) e.name e.fr 5 (by omega) (by omega)
     repeat' (first|refine V7 (id:=4) 9 (h:=?_)|refine F6 (d:=33) ?_ hm (hp:=A3E) (hc:=hc I (Le.refl _));clear hm;rintro _ I2 _ _ ⟨⟨bj,oj,cj,rfl,hpj,hatj⟩,sa2,sp2,da2,dp2,ua2,up2,rfl⟩ hleI2 hm;try simp only[F9]at hm;have hp2:=hp.le hleI2;obtain⟨pa,pc,sa9,sc9,ba,bc9,da9,dc9,xb,rfl,_⟩:=hatj|refine A78 (e:=43) (k:=?_)|refine V7 (id:=6) 9 (h:=?_)|refine F6 (d:=58) ?_ hm (hp:=A3E) (hc:=hT I2 sa2 sp2 da2 dp2 ua2 up2);clear hm;rintro _ I3 _ _ ⟨rfl,sa3,sp3,da3,dp3,ua3,up3,rfl⟩ hleI3 hm;try simp only[F9]at hm|refine J5 ?_ hm|refine A0q ?_ hm|refine D8 ?_|refine D6 ?_|refine N9 ?_|refine E5 ?_|refine C9 ?_|refine D9 ?_|refine A7 ?_|refine D7 ?_|refine E8 ?_|refine A8 ?_|refine F5 ?_|refine U5 ?_|refine A0j ?_;intro _ hkq;replace hm:=hm.kept0 hkq;clear hkq|refine A0e ?_;intro _ hkq;replace hm:=hm.kept0 hkq;clear hkq|(refine D5 (ht:=fun _=>?_) (hf:=fun _=>?_)<;>try first|contradiction|omega)|refine X5 ?_|refine A0p ?_|refine B7J ?_|refine V4 ?_|refine O8 ?_|refine L6 ?_)
     exact A02 (⟨0,I3,sa3,sp3,da3,dp3,ua3,up3⟩:NX) (by exact⟨rfl,rfl,trivial⟩) ⟨hm,hleI2.trans hleI3⟩
    ·rw[if_neg hpl]at hhr
     subst hhr;repeat' (first|refine V7 (id:=4) 9 (h:=?_)|refine F6 (d:=33) ?_ hm (hp:=A3E) (hc:=hc I (Le.refl _));clear hm;rintro _ I2 _ _ ⟨⟨bj,oj,cj,rfl,hpj,hatj⟩,sa2,sp2,da2,dp2,ua2,up2,rfl⟩ hleI2 hm;try simp only[F9]at hm;have hp2:=hp.le hleI2;obtain⟨pa,pc,sa9,sc9,ba,bc9,da9,dc9,xb,rfl,_⟩:=hatj|refine A78 (e:=43) (k:=?_)|refine J5 ?_ hm|refine A0q ?_ hm|refine D8 ?_|refine D6 ?_|refine N9 ?_|refine E5 ?_|refine C9 ?_|refine D9 ?_|refine A7 ?_|refine D7 ?_|refine E8 ?_|refine A8 ?_|refine F5 ?_|refine G5 ?_|refine U5 ?_|refine A0j ?_;intro _ hkq;replace hm:=hm.kept0 hkq;clear hkq|refine A0e ?_;intro _ hkq;replace hm:=hm.kept0 hkq;clear hkq|(refine D5 (ht:=fun _=>?_) (hf:=fun _=>?_)<;>try first|contradiction|omega)|refine X5 ?_|refine A0p ?_|refine B7J ?_|refine V4 ?_|refine O8 ?_|refine L6 ?_)
     exact A02 (⟨0,I2,sa2,sp2,da2,dp2,ua2,up2⟩:NX) (by exact⟨rfl,rfl,trivial⟩) ⟨hm,hleI2⟩
  ·rw[if_neg k4]at hhr
   subst hhr;repeat' (first|refine J5 ?_ hm|refine D8 ?_|refine D6 ?_|refine N9 ?_|refine E5 ?_|refine C9 ?_|refine D9 ?_|refine A7 ?_|refine D7 ?_|refine E8 ?_|refine A8 ?_|refine F5 ?_|refine G5 ?_|(refine D5 (ht:=fun _=>?_) (hf:=fun _=>?_)<;>try first|contradiction|omega))
   exact A02 (⟨0,I,sa,sp,da,dp,ua,up⟩:NX) (by exact⟨rfl,rfl,trivial⟩) ⟨hm,Le.refl _⟩
 ·clear hm hhr
  rintro⟨_,I1,sa1,sp1,da1,dp1,ua1,up1⟩ w1 ⟨hm,hle1⟩;dsimp only at hm hle1 |-;have hp1:=hp.le hle1;repeat' (first|refine J5 ?_ hm|refine D8 ?_|refine G7 ?_|refine E5 ?_|refine C9 ?_|refine D9 ?_|refine A7 ?_|refine E8 ?_|refine A8 ?_|refine F5 ?_)
  refine U2 (fun x:NX=> [(0,ptr bc),(1,.pointer (some ⟨b,o,none⟩)),(63,nt e.args.length),(64,nt x.k)])
   (fun x w'=>Mem E x.I (NSt bc bf pi sc x.sa x.sp (A5d its p sc (e.args.take x.k) r) x.da x.dp x.ua x.up) w'/\Le I x.I/\x.k<=e.args.length) (fun x=>e.args.length-x.k) ⟨0,I1,sa1,sp1,da1,dp1,ua1,up1⟩
   (by exact⟨rfl,rfl,rfl,rfl,trivial⟩) ⟨by dsimp only;rw[Z9,A5d];exact hm,hle1,H7 _⟩ ?_
  clear hm hp1;rintro⟨k,I2,sa2,sp2,da2,dp2,ua2,up2⟩ w2 ⟨hm,hle2,hk⟩;dsimp only at hm hle2 hk |-;have hC2:=hC.le hle2;have hp2:=hp.le hle2;have hrow:=hr.le hle2;by_cases hlt:k<e.args.length
  ·have hg:e.args[k]?=some e.args[k]:=G6 hlt
   have hsz2:=A2r (O7 hlt);have hsm2:=A1G hasm hg;have hal2:=A6n haall hg;obtain⟨ea2,ec2,ys2,hc2,hr2,hx2⟩:=(hx.get hg).out;generalize e.args[k]=y at hg hsz2 hsm2 hal2 hc2 hr2 hx2;have hstp:=C0Y its p sc hg r;have hcy:=B6U hg;have hnn:=B8F its p sc (e.args.take k) r;generalize A5d its p sc (e.args.take k) r=s1 at hm hstp hnn;have hcl:=fun b o tc (hpt:PtrI I2 b o tc (A0z y ea2 ec2))=>ih y (by omega) hsm2 hal2 I2 b o tc ea2 ec2 ys2 s1 sa2 sp2 da2 dp2 ua2 up2 (by omega) hC2 hpt (hr2.le hle2) (Y7.le hle2 _ _ hx2)
   generalize Sp.exN its p sc y s1=s2 at hcl hstp;repeat' (first|refine O0 (d:=73) ?_ (hr:=hrow);intro bt ot hpt;rw[show ((k:Int).toNat *6)=k *6 from rfl,hc2]at hpt|refine F6 (d:=74) ?_ hm (hp:=A3E) (hc:=hcl _ _ _ hpt);clear hm;rintro _ I3 _ _ ⟨rfl,sa3,sp3,da3,dp3,ua3,up3,rfl⟩ hleI3 hm;try simp only[F9]at hm|refine J5 ?_ hm|refine D8 ?_|refine D6 ?_|refine J6 ?_|refine E5 ?_|refine P7 ?_|refine C9 ?_|refine D9 ?_|refine A7 ?_|refine D7 ?_|refine E8 ?_|refine A8 ?_|refine F5 ?_|refine G5 ?_|(refine D5 (ht:=fun _=>?_) (hf:=fun _=>?_)<;>try first|contradiction|omega))
   exact L9 (⟨k+1,I3,sa3,sp3,da3,dp3,ua3,up3⟩:NX) (by exact⟨rfl,rfl,rfl,rfl,trivial⟩) ⟨by dsimp only;rw[hstp];exact hm,hle2.trans hleI3,by dsimp only;omega⟩ (by dsimp only;omega)
  ·obtain rfl:k=e.args.length:=by omega
   rw[V5]at hm;repeat' (first|refine J6 ?_|refine D9 ?_|refine A7 ?_|refine H9 ?_|refine H5 ?_|refine E8 ?_|refine A8 ?_|refine P9 ?_|refine X0 ?_|(refine D5 (ht:=fun _=>?_) (hf:=fun _=>?_)<;>try first|contradiction|omega))
   exact⟨I2,_,⟨rfl,_,_,_,_,_,_,rfl⟩,hm⟩
end
end Go.Proofs
