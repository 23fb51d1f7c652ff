/- Own work: texts FlI, InfT, NsA, NsB, NsC, one behind the other. -/
import Derived.Test.YtfjdfdgpkncpfaaGreatDoorQc18
set_option maxHeartbeats 64000000
namespace Go.Sp
theorem ItI.toItF {it:Itm} (h:ItI it):ItF it:=⟨h.small,h.body,by have:=h.cnt;omega⟩
theorem B2Y (n:List UInt8) {l:List Lc}{k:Nat}{x:Lc} (h:l[k]?=some x):A1e (l.take (k+1)) n=if x.name=n then some x else A1e (l.take k) n:=by
 rw[X0 h,A6r]
end Go.Sp
namespace Go.Fw
open Go.Sp
theorem A9b {R:List HItem}{a b c d:HItem}:∀h∈ [a,b,c,d],h∈a::b::c::d::R:=by simp
theorem A2L {R:List HItem}{a b c d:HItem}:(a::b::c::d::R).Perm ([a,b,c,d]++R):=.refl _
theorem A93 {R:List HItem}{a b c d x:HItem}:(x::a::b::c::d::R).Perm ([a,b,c,d]++(x::R)):=
 (pm3_1 (R:=d::R)).trans (((List.Perm.swap d x R).cons c).cons b|>.cons a)
end Go.Fw
namespace Go.Sp
theorem B4W {b:Int}{sc:List Lc}{a:Nat}{n:List UInt8}{s:NW}{l:Lc} (h:A1e sc n=some l):A7e b sc a n s=s.use b a n (b+l.at_):=by rw[A7e,h]
theorem B4V {b:Int}{sc:List Lc}{a:Nat}{n:List UInt8}{s:NW} (h:A1e sc n=none):A7e b sc a n s=if n= [] then s else s.tell a 6 n:=by rw[A7e,h]
theorem B4S {its:List Itm}{b k:Int}{a:Nat}{n:List UInt8}{s:NW}{j:Nat} (h:A0M its k n=some j):A34 its b k a n s=s.use b a n ((Z7 its j).at_+(Z7 its j).mark):=by rw[A34,h]
theorem B4R {its:List Itm}{b k:Int}{a:Nat}{n:List UInt8}{s:NW} (h:A0M its k n=none):A34 its b k a n s=if n= [] then s else s.tell a 6 n:=by rw[A34,h]
theorem B58 {n:List UInt8}{a:Nat}{sc:List Lc}{s:NW}{l:Lc} (hn:n≠ []) (h:A1e sc n=some l):mkN n a sc s=(sc++ [⟨n,a⟩],s.tell a 7 n):=by rw[mkN,if_neg hn,h]
theorem B57 {n:List UInt8}{a:Nat}{sc:List Lc}{s:NW} (hn:n≠ []) (h:A1e sc n=none):mkN n a sc s=(sc++ [⟨n,a⟩],s):=by rw[mkN,if_neg hn,h]
def A8T (its:List Itm) (b:Int) (sc:List Lc) (e:Ex) (s:NW):NW:=if e.kind=2 then A7e b sc e.fr e.name s else if e.kind=4 then A4m its b e.fr e.name e.args.length s else s
theorem B74 (its:List Itm) (b:Int) (sc:List Lc) (e:Ex) (s:NW):exN its b sc e s=A33 its b sc e.args (A8T its b sc e s):=by cases e;rw[exN,A8T];rfl
theorem B61 (its:List Itm) (b:Int) (sc:List Lc) (e:Ex) (s:NW):s.n<=(A8T its b sc e s).n/\(A8T its b sc e s).n<=s.n+2:=by
 have h1:=B3a b sc e.fr e.name s;have h2:=B3W its b e.fr e.name e.args.length s;rw[A8T];split
 ·omega
 ·split<;>omega
theorem B5G (e:Ex):e.cnt=A0Y e.args+1:=by cases e;rw[Ex.cnt];rfl
theorem B1x {l:List Ex}{k:Nat}{y:Ex} (h:l[k]?=some y):A0Y (l.take k)+y.cnt<=A0Y l:=by
 have e:l=l.take (k+1)++l.drop (k+1):=(A5L _ _).symm;have h2:=congrArg A0Y e;rw[A3l,X0 h,A3l,A4B]at h2;omega
theorem B2M {its:List Itm}{b:Int}{a:Nat}{n:List UInt8}{m:Nat}{s:NW} (h:A0M its 2 n=none):A4m its b a n m s=A34 its b 2 a n s:=by rw[A4m,h]
theorem B2N {its:List Itm}{b:Int}{a:Nat}{n:List UInt8}{m:Nat}{s:NW}{j:Nat} (h:A0M its 2 n=some j):A4m its b a n m s=if (Z7 its j).params.length≠m then (A34 its b 2 a n s).tell a 5 n else A34 its b 2 a n s:=by rw[A4m,h]
end Go.Sp
namespace Go.Proofs
open Go.Proofs.Tryz
open Go.Sp
open Go.Fw
section
variable {its:List Sp.Itm}{a:Option Addr}{cp:Nat}{xs:List Value}
theorem B6X (i:Nat) (hi:i<its.length) (at_:Int) (bf:Nat) (I:U0) (hfile:PtrI I bf 0 25 [.slice a its.length cp]) (h:FE I its a cp xs) (hlab:A2o its) (hF:∀x∈its,Sp.ItF x):
  CalM prog 101 #[ptr bf,nt i,.int .i64 at_] I [] (fun v _ H'=> ∃bc pi vf sc sa sp da dp,v=ptr bc/\H'=FSt bc bf pi sc sa sp (A3H its i at_) da dp vf at_):=by
 refine CalM.of fun w E hm=>enter (N:=69) func101 rfl [(0,ptr bf),(1,nt i),(2,.int .i64 at_)] A6f rfl ?_
 have hfew:=h.few;have hg:=A2P hi;obtain⟨ci,hci,hat,hlc⟩:=h.get hg;have hri:=h.row;have hmem:=A8V hi;have hIt:=hF _ hmem;have hlb:=hlab _ hmem;have hck:A3H its i at_=if (Z7 its i).kind=2 then (Sp.stmsF its (Z7 its i).label at_ (Z7 its i).body (A43 (Z7 its i).params) 0 Sp.FW0).2 else Sp.FW0:=rfl
 generalize A3H its i at_=fin at hck |-;have hfl:=fun (J:U0) (m:Le I J)=>B5N (I:=J) (h.le m) hlab (fun x hx=>(hF x hx).small)
 generalize Z7 its i=it at hg hat hmem hIt hlb hck;have hat0:=hat
 obtain⟨pa,pc,sa9,sc9,ba,bc9,da9,dc9,xb,rfl,hpar,hsnd,hrb,hbs,_⟩:=hat
 have hsp:=hIt.small.params;have hsb:=hIt.small.body;by_cases k2:it.kind=2
 case neg=>
  rw[if_neg k2]at hck;subst hck;repeat' (first|refine A0K (id:=1) (hm.perm pm0) [0,1,2,3,4,5,6,7,8,9,11] [10,12,13] 14 (h:=?_);clear hm;intro wd hR hm|refine A13 (d:=16) ?_ (hr:=hri);intro bt ot hpt;rw[show ((i:Int).toNat *10)=i *10 from rfl,hci]at hpt|refine A0X (d:=19) ?_ hR (hp:=hfile)|refine A02 (d:=20) ?_ hm (hc:=hfl I (Le.refl _));clear hm;rintro _ I2 _ _ ⟨rfl,fa,fp,rfl,hflr⟩ hle hm;have hleI2:=hle;try simp only[F7]at hm;have hpt2:=hpt.le hleI2|refine B6b (d:=23) ?_ hm;clear hm;intro bc _ hm|refine A1u ?_ hR|refine A3T ?_ hm|refine A1m ?_;replace hm:=hR.back hm;clear hR;try simp only[F7]at hm|refine H8 ?_ hm|refine J4 ?_ hm|refine D8 ?_|refine D5 ?_|refine Q5 ?_|refine E5 ?_|refine C9 ?_|refine D9 ?_|refine A7 ?_|refine E8 ?_|refine A8 ?_|refine F9 ?_|refine H7 ?_|refine H9 ?_|(refine D6 (ht:=fun _=>?_) (hf:=fun _=>?_)<;>try first|contradiction|omega)|refine A1V ?_|refine Z4 ?_|refine S9 ?_|refine A08 ?_)
  all_goals try omega
  exact⟨I2,_,⟨bc,_,_,[],none,0,none,0,rfl,rfl⟩,((hm.nil 92 4).swap.nil 219 2).swap⟩
 rw[if_pos k2]at hck;repeat' (first|refine A0K (id:=1) (hm.perm pm0) [0,1,2,3,4,5,6,7,8,9,11] [10,12,13] 14 (h:=?_);clear hm;intro wd hR hm|refine A13 (d:=16) ?_ (hr:=hri);intro bt ot hpt;rw[show ((i:Int).toNat *10)=i *10 from rfl,hci]at hpt|refine A0X (d:=19) ?_ hR (hp:=hfile)|refine A02 (d:=20) ?_ hm (hc:=hfl I (Le.refl _));clear hm;rintro _ I2 _ _ ⟨rfl,fa,fp,rfl,hflr⟩ hle hm;have hleI2:=hle;try simp only[F7]at hm;have hpt2:=hpt.le hleI2|refine B6b (d:=23) ?_ hm;clear hm;intro bc _ hm|refine A1u ?_ hR|refine A3T ?_ hm|refine A1m ?_;replace hm:=hR.back hm;clear hR;try simp only[F7]at hm|refine H8 ?_ hm|refine J4 ?_ hm|refine D8 ?_|refine D5 ?_|refine Q5 ?_|refine G8 ?_|refine E5 ?_|refine C9 ?_|refine D9 ?_|refine A7 ?_|refine E8 ?_|refine A8 ?_|refine F5 ?_|(refine D6 (ht:=fun _=>?_) (hf:=fun _=>?_)<;>try first|contradiction|omega)|refine A1V ?_|refine Z4 ?_|refine S9 ?_|refine A08 ?_)
 all_goals try omega
 have hC2:FC I2 its it bf a cp xs (.pointer (some ⟨bt,ot,none⟩)) (.slice fa its.length fp):=⟨hfile.le hleI2,h.le hleI2,⟨bt,ot,_,_,rfl,hpt2,hat0.le hleI2⟩,⟨fa,fp,rfl,hflr⟩,hlab,hlb.1⟩;have hpar2:=hpar.le hleI2;refine X7 (fun x:FX=> [(0,ptr bf),(1,nt i),(2,.int .i64 at_),(7,ptr bc),(38,.slice pa it.params.length pc),(39,nt it.params.length),(40,nt x.k)])
  (fun x w'=>Mem E I2 (FSt bc bf (.pointer (some ⟨bt,ot,none⟩)) (A43 (it.params.take x.k)) x.sa x.sp Sp.FW0 none 0 (.slice fa its.length fp) at_) w'/\x.k<=it.params.length) (fun x=>it.params.length-x.k) ⟨0,I2,none,0,none,0⟩
  (by exact⟨rfl,rfl,rfl,rfl,rfl,rfl,rfl,trivial⟩) ⟨((hm.nil 92 4).swap.nil 219 2).swap,J7 _⟩ ?_
 clear hm;rintro⟨k,_,sa1,sp1,_,_⟩ w1 ⟨hm,hk⟩;dsimp only at hm hk |-;by_cases hlt:k<it.params.length
 ·have hgp:it.params[k]?=some it.params[k]:=G9 hlt
  generalize it.params[k]=p at hgp;have hst:=B3r hgp;have hpl:(A43 (it.params.take k)).length=k:=by rw[A43,A3S,Y9];omega
  generalize A43 (it.params.take k)=sc at hm hst hpl;repeat' (first|refine A0i (d:=42) (enc:=A2r) (z:=p) ?_ (hr:=hpar2) (he:=fun _=>rfl) (hz:=by exact hgp);intro bz oz hpz|refine A0r (id:=6) (hm.perm pm1_2) 10 12 (h:=?_);clear hm;intro wd hR hm|refine A0g ?_ hR|refine A2K (d:=55) ?_ hm;clear hm;intro a55 cp55 _ _ hm;replace hm:=hR.back hm;clear hR;try simp only[F7]at hm|refine A0j (d:=9) ?_ hm;clear hm;intro b9 _ hm|refine Y8 ?_ hm|refine J6 hm (k:=?_);clear hm;intro _ hm;try simp only[F7]at hm|refine D8 ?_|refine O0 ?_|refine E5 ?_|refine Q4 ?_|refine C9 ?_|refine D9 ?_|refine A7 ?_|refine D7 ?_|refine E8 ?_|refine A8 ?_|refine F5 ?_|refine F9 ?_|(refine D6 (ht:=fun _=>?_) (hf:=fun _=>?_)<;>try first|contradiction|omega)|refine A1V ?_|refine Z4 ?_|refine S9 ?_|refine A4X ?_|refine A08 ?_)
  all_goals try omega
  refine N7 (⟨k+1,I2,a55,cp55,none,0⟩:FX) (by exact⟨rfl,rfl,rfl,rfl,rfl,rfl,rfl,trivial⟩) ⟨?_,by dsimp only;omega⟩ (by dsimp only;omega)
  dsimp only
  rw[hst, <-A8D];exact((hm.front 1 rfl).tl).swap
 ·obtain rfl:k=it.params.length:=by omega
  rw[A0b]at hm;have hsl:=B48 hlab hmem;have hpl:(A43 it.params).length=it.params.length:=by rw[A43,A3S]
  have hcn:=hIt.cnt;have hblk:=B8Z (its:=its) (it:=it) (bc:=bc) (bf:=bf) (a:=a) (cp:=cp) (xs:=xs) (pi:=.pointer (some ⟨bt,ot,none⟩)) (vf:=.slice fa its.length fp) (at_:=at_) _ it.body (H6 _) (by omega) hIt.small.stms hIt.body I2 ba bc9 xb 0 (A43 it.params) Sp.FW0 sa1 sp1 none 0 (by omega) hsl (by omega) (by simp[Sp.FW0];omega) hC2 (hrb.le hleI2) (U8.le hleI2 _ _ hbs);rw[<-hck]at hblk;generalize A43 it.params=sc at hm hblk;repeat' (first|refine F6 (d:=67) ?_ hm (hc:=hblk);clear hm;rintro _ I3 _ _ ⟨rfl,sa3,sp3,da3,dp3,rfl⟩ hle hm;have hleI3:=hle;try simp only[F7]at hm|refine H8 ?_ hm|refine J4 ?_ hm|refine D8 ?_|refine D5 ?_|refine O0 ?_|refine E5 ?_|refine C9 ?_|refine D9 ?_|refine A7 ?_|refine G7 ?_|refine G5 ?_|refine E8 ?_|refine A8 ?_|refine O7 ?_|refine H7 ?_|refine H9 ?_|(refine D6 (ht:=fun _=>?_) (hf:=fun _=>?_)<;>try first|contradiction|omega))
  all_goals try omega
  exact⟨I3,_,⟨bc,_,_,sc,sa3,sp3,da3,dp3,rfl,rfl⟩,hm⟩
theorem B6Y (i:Nat) (hi:i<its.length) (I:U0) (h:FE I its a cp xs) (hlab:A2o its) (hF:∀x∈its,Sp.ItF x):
  CalM prog 69 #[.agg [.slice a its.length cp].toArray,nt i] I [] (fun v I' H'=>H'= []/\∃da dp,v=.slice da (A3H its i (-1)).ds.length dp/\RowI I' 92 4 (.slice da (A3H its i (-1)).ds.length dp) (A3H its i (-1)).ds.length ((A3H its i (-1)).ds.flatMap A32)):=by
 refine CalM.of fun w E hm=>enter (N:=19) func69 rfl [(0,.agg [.slice a its.length cp].toArray),(1,nt i)] A1P rfl ?_
 have hfew:=h.few;repeat' (first|refine A0z (d:=2) ?_ hm;clear hm;intro b2 _ hm|refine H8 ?_ hm|refine D8 ?_|refine D5 ?_|refine J9 ?_|refine O0 ?_|refine A1J ?_|refine G8 ?_|refine C9 ?_|refine D9 ?_|refine A7 ?_|refine E8 ?_|refine A8 ?_|refine F9 ?_|(refine D6 (ht:=fun _=>?_) (hf:=fun _=>?_)<;>try first|contradiction|omega))
 all_goals try omega
 obtain⟨I2,hle2,hm2,hpf⟩:=hm.freezeO;clear hm;have hm:=hm2;clear hm2;have hck:=B6X i hi (-1) b2 I2 hpf (h.le hle2) hlab hF;generalize A3H its i (-1)=fin at hck |-;repeat' (first|refine F6 (d:=15) ?_ hm (hc:=hck);clear hm;rintro _ I3 _ _ ⟨bc,pi,vf,sc,sa,sp,da,dp,rfl,rfl⟩ hle hm;have hleI3:=hle;try simp only[F7]at hm|refine H8 ?_ hm|refine D5 ?_|refine E5 ?_|refine C9 ?_|refine D9 ?_|refine A7 ?_|refine H7 ?_|refine H9 ?_)
 all_goals try omega
 obtain⟨I4,hle4,hm4,hrow⟩:=(hm.front 2 rfl).freeze;exact⟨I4,[],⟨rfl,da,dp,rfl,hrow⟩,hm4.left (H:= [])⟩
theorem B32 (I:U0) (h:FE I its a cp xs) (hlab:A2o its) (hF:∀x∈its,Sp.ItF x):
  CalM prog 44 #[.agg [.slice a its.length cp].toArray] I [] (fun v _ H'=>H'= []/\∃b,v=.bool b/\(b=true↔B3x its)):=by
 refine CalM.of fun w E hm=>enter (N:=16) func44 rfl [(0,.agg [.slice a its.length cp].toArray)] A0v rfl ?_
 have hfew:=h.few;repeat' (first|refine A0z (d:=1) ?_ hm;clear hm;intro b1 _ hm|refine H8 ?_ hm|refine D8 ?_|refine D5 ?_|refine G8 ?_|refine C9 ?_|refine D9 ?_|refine A7 ?_|refine E8 ?_|refine A8 ?_|refine F5 ?_)
 refine X7 (fun x:NI=> [(1,ptr b1),(6,nt its.length),(7,nt x.k)]) (fun x w'=>Mem E x.I [.cell b1 [.slice a its.length cp] 25] w'/\Le I x.I/\x.k<=its.length/\∀j,j<x.k->(A3H its j (-1)).ds= []) (fun x=>its.length-x.k) ⟨0,I⟩
  (by exact⟨rfl,rfl,rfl,trivial⟩) ⟨hm,Le.refl _,J7 _,fun j hj=>absurd hj (Nat.not_lt_zero j)⟩ ?_
 clear hm;rintro⟨k,I1⟩ w1 ⟨hm,hle1,hk,hno⟩;dsimp only at hm hle1 hk hno |-;by_cases hlt:k<its.length
 ·have hd:=B6Y k hlt I1 (h.le hle1) hlab hF
  obtain⟨n,hn⟩:∃n,n=(A3H its k (-1)).ds.length:=⟨_,rfl⟩;rw[<-hn]at hd;by_cases h0:n=0
  ·subst h0
   have h0':=List.length_eq_zero_iff.1 hn.symm;repeat' (first|refine F6 (d:=12) ?_ hm (hc:=hd);clear hm;rintro _ I2 _ _ ⟨rfl,da,dp,rfl,_⟩ hle hm;have hleI2:=hle;try simp only[F7]at hm|refine O1 ?_ hm|refine D8 ?_|refine D5 ?_|refine O0 ?_|refine A5g ?_|refine G8 ?_|refine Q4 ?_|refine D9 ?_|refine A7 ?_|refine D7 ?_|refine E8 ?_|refine A8 ?_|refine F5 ?_|refine F9 ?_|refine E9 ?_|(refine D6 (ht:=fun _=>?_) (hf:=fun _=>?_)<;>try first|contradiction|omega))
   all_goals try omega
   refine N7 (⟨k+1,I2⟩:NI) (by exact⟨rfl,rfl,rfl,trivial⟩) ⟨hm,hle1.trans hleI2,by dsimp only;omega,fun j hj=>?_⟩ (by dsimp only;omega)
   rcases X3 j k with hjk|hjk
   ·exact hno j hjk
   ·obtain rfl:j=k:=by dsimp only at hj;omega
    exact h0'
  ·skip
   repeat' (first|refine F6 (d:=12) ?_ hm (hc:=hd);clear hm;rintro _ I2 _ _ ⟨rfl,da,dp,rfl,_⟩ hle hm;have hleI2:=hle;try simp only[F7]at hm|refine O1 ?_ hm|refine D8 ?_|refine D5 ?_|refine O0 ?_|refine A5g ?_|refine G8 ?_|refine D9 ?_|refine A7 ?_|refine H5 ?_|refine L8 ?_|refine E8 ?_|refine A8 ?_|refine F5 ?_|refine F9 ?_|refine H7 ?_|refine H9 ?_|(refine D6 (ht:=fun _=>?_) (hf:=fun _=>?_)<;>try first|contradiction|omega))
   all_goals try omega
   refine⟨I2,[],⟨rfl,false,rfl,fun hf=>(by cases hf),fun hs=>?_⟩,hm.left (H:= [])⟩
   exfalso
   have:=hs k hlt;rw[this]at hn;exact h0 hn
 ·obtain rfl:k=its.length:=by omega
  repeat' (first|refine D5 ?_|refine O0 ?_|refine D9 ?_|refine A7 ?_|refine G7 ?_|refine G5 ?_|refine E8 ?_|refine A8 ?_|refine O7 ?_|refine H7 ?_|refine H9 ?_|(refine D6 (ht:=fun _=>?_) (hf:=fun _=>?_)<;>try first|contradiction|omega))
  all_goals try omega
  exact⟨I1,[],⟨rfl,true,rfl,fun _=>hno,fun _=>rfl⟩,hm.left (H:= [])⟩
end
theorem B64 (I:U0) (hC:A3b I):CalM prog 20 #[] I [] (fun v _ H'=>v=.bool true/\H'= []):=by
 refine CalM.of fun w E hm=>enter (N:=58) func20 rfl [] B7I rfl ?_
 have h1:=fun (J:U0) (m:Le I J)=>B6o A2h J (hC.le m) (by decide)
 rw[B24]at h1;obtain⟨g1,g2,_⟩:=B1z A2h;have l1:=A7a;have hbad:=B22;have hlabs:= @B1K;generalize P8 A2h=its at h1 g1 g2 l1 hbad hlabs;have hA:=fun (J:U0) (a cp xs) (h:FE J its a cp xs)=>A8U g2 g1 J a cp xs h
 have hS:=fun (J:U0) (a cp xs) (h:FE J its a cp xs)=>B32 J h g2 (fun x hx=>(g1 x hx).toItF)
 repeat' (first|refine F6 (d:=5) ?_ hm (hp:=pm0) (hc:=h1 I (Le.refl _));clear hm;rintro _ I2 _ _ ⟨a,cp,xs,rfl,hrow,hits,rfl⟩ hleI2 hm;try simp only[F7]at hm;have q1:=B33 hrow hits (by omega)|refine F6 (d:=9) ?_ hm (hp:=pm0) (hc:=hA I2 _ _ _ q1);clear hm;rintro _ I3 _ _ ⟨rfl,ra,rp,rx,r,hr,rfl,hrr,hrx⟩ hleI3 hm;try simp only[F7]at hm|refine A25 3 ?_|refine A0j (d:=1) ?_ hm;clear hm;intro b1 _ hm|refine A0j (d:=3) ?_ hm;clear hm;intro b3 _ hm|refine O1 ?_ hm|refine D8 ?_|refine D5 ?_|refine A1r ?_|refine D9 ?_|refine A7 ?_|refine E8 ?_|refine A8 ?_)
 all_goals try first|omega|contradiction
 obtain⟨r1,r2,it,x,r3,r4,r5,r6,r7⟩:=hlabs hr;obtain⟨k1,k2⟩:=B1P hr g1 g2;have q3:=B33 hrr hrx (by omega);have hS2:=fun (J:U0) (m:Le I3 J)=>B32 J (q3.le m) k2 (fun x hx=>(k1 x hx).toItF)
 obtain⟨ci,hci,hat,_⟩:=q3.get r3;rw[A09]at hci;obtain⟨pa,pc,sa9,sc9,ba,bc9,da9,dc9,xb,rfl,_,_,hrb,hbs,_⟩:=hat
 obtain⟨cs,hcs⟩:∃cs,(xb.drop (0 *15)).take 15=cs:=⟨_,rfl⟩;have hax:=hbs.get r5;rw[hcs]at hax;rw[A09]at hcs;obtain⟨ea,ec,ex,a1',c1,xs1,a2',c2,xs2,rfl,_⟩:=hax.out;rw[r6,r7]at hcs;rw[r4]at hrb hci;rw[r1]at hrr hm hS2;refine⟨?_⟩
 repeat' (first|refine U3 (t:=23) ?_ (hr:=hrr);intro bt ot hpt;rw[show (((0:Int).toNat *10))=0 from rfl,hci]at hpt|refine U3 (t:=58) ?_ (hr:=hrb);intro bu ou hpu;rw[show (((0:Int).toNat *15))=0 from rfl,hcs]at hpu|refine F6 (d:=51) ?_ hm (hp:=pm0) (hc:=hS I3 _ _ _ (q1.le hleI3));clear hm;rintro _ I4 _ _ ⟨rfl,sb1,rfl,hsb1⟩ hleI4 hm;try simp only[F7]at hm;have:sb1=false:=(by cases sb1;rfl;exact absurd (hsb1.1 rfl) hbad);subst this|refine F6 (d:=56) ?_ hm (hp:=pm0) (hc:=hS2 I4 hleI4);clear hm;rintro _ I5 _ _ ⟨rfl,sb2,rfl,hsb2⟩ hleI5 hm;try simp only[F7]at hm;have:=hsb2.2 r2;subst this|refine H8 ?_ hm|refine J4 ?_ hm|refine O1 ?_ hm|refine D8 ?_|refine D5 ?_|refine N9 ?_|refine Q5 ?_|refine G8 ?_|refine Y7 ?_|refine C9 ?_|refine D9 ?_|refine A7 ?_|refine A8 ?_|refine H7 ?_|refine H9 ?_)
 all_goals try first|omega|contradiction
 all_goals exact⟨I5,[],⟨rfl,rfl⟩,hm.left (H:= [])⟩
abbrev A6R (l:Sp.Lc):List Value:= [str l.name,nt l.at_]
abbrev A6p (u:Sp.Us):List Value:= [.int .i64 u.fr,.int .i64 u.to,.int .i64 u.df]
abbrev B39 (sc:List Sp.Lc) (sa:Option Addr) (sp:Nat):HItem:=.row (.slice sa sc.length sp) 221 2 sc.length (sc.flatMap A6R)
abbrev B6H (us:List Sp.Us) (ua:Option Addr) (up:Nat):HItem:=.row (.slice ua us.length up) 53 3 us.length (us.flatMap A6p)
abbrev B85 (bc bf:Nat) (pi:Value) (sc:List Sp.Lc) (sa:Option Addr) (sp:Nat) (s:Sp.NW) (da:Option Addr) (dp:Nat) (ua:Option Addr) (up:Nat):HItem:=
 .obj bc (.cells [ptr bf,pi,.slice sa sc.length sp,.slice da s.ds.length dp,.slice ua s.us.length up].toArray 126 (0,0))
abbrev NSt (bc bf:Nat) (pi:Value) (sc:List Sp.Lc) (sa:Option Addr) (sp:Nat) (s:Sp.NW) (da:Option Addr) (dp:Nat) (ua:Option Addr) (up:Nat):List HItem:=
 [B85 bc bf pi sc sa sp s da dp ua up,B6H s.us ua up,B39 sc sa sp,A26 s.ds da dp]
abbrev ToN (bc bf:Nat) (pi:Value) (sc:List Sp.Lc) (s:Sp.NW) (val:Value):Value->U0->List HItem->Prop:=
 fun v _ H'=>v=val/\∃sa sp da dp ua up,H'=NSt bc bf pi sc sa sp s da dp ua up
structure NRd (J:U0) (bc bf:Nat) (pi:Value) (sc:List Sp.Lc) (sa:Option Addr) (sp:Nat) (v3 v4:Value):Prop where
 ptr:PtrI J bc 0 126 [ptr bf,pi,.slice sa sc.length sp,v3,v4]
 row:RowI J 221 2 (.slice sa sc.length sp) sc.length (sc.flatMap A6R)
theorem NRd.le {I J:U0} (m:Le I J) {bc bf:Nat}{pi:Value}{sc:List Sp.Lc}{sa:Option Addr}{sp:Nat}{v3 v4:Value} (h:NRd I bc bf pi sc sa sp v3 v4):NRd J bc bf pi sc sa sp v3 v4:=⟨h.ptr.le m,h.row.le m⟩
def lcV:Option Sp.Lc->Value
 |some l=> .tuple #[.agg [str l.name,nt l.at_].toArray,.bool true]
 |none=> .tuple #[.agg [str [],nt 0].toArray,.bool false]
structure NC (I:U0) (src:List UInt8) (p:Nat) (q:List UInt8) (its:List Sp.Itm) (it:Sp.Itm) (bf:Nat) (a:Option Addr) (cp:Nat) (xs:List Value) (pi:Value):Prop where
 file:PtrI I bf 0 25 [.slice a its.length cp]
 fe:FE I its a cp xs
 item:∃bi oi tc ci,pi=.pointer (some ⟨bi,oi,none⟩)/\PtrI I bi oi tc ci/\A5a I it ci
 len:src.length<=4000
 st:Sp.ItS src p q it
 sts:∀x∈its,B6O src x
theorem NC.le {I J:U0} (m:Le I J) {src:List UInt8}{p:Nat}{q:List UInt8}{its:List Sp.Itm}{it:Sp.Itm}{bf:Nat}{a:Option Addr}{cp:Nat}{xs:List Value}{pi:Value} (h:NC I src p q its it bf a cp xs pi):NC J src p q its it bf a cp xs pi:=by
 obtain⟨h1,h2,⟨bi,oi,tc,ci,e,h3,h4⟩,h5,h6,h7⟩:=h;exact⟨h1.le m,h2.le m,⟨bi,oi,tc,ci,e,h3.le m,h4.le m⟩,h5,h6,h7⟩
section
variable {I:U0}{bc bf sp dp up:Nat}{pi:Value}{sc:List Sp.Lc}{sa da ua:Option Addr}{s:Sp.NW}
theorem CalR.walker {f:FuncId}{args:Array Value}{v:Value} (h:∀J,Le I J->NRd J bc bf pi sc sa sp (.slice da s.ds.length dp) (.slice ua s.us.length up)->CalR prog f args J [] v):
  CalR prog f args I (NSt bc bf pi sc sa sp s da dp ua up) v:=
 CalR.of fun w J hm hl hH hJ=>by
  have h1:=A5n (hH (B85 bc bf pi sc sa sp s da dp ua up) (by simp));have h2:=A9N (hH (B39 sc sa sp) (by simp));rw[<-hJ]at h1 h2;exact(h J hl ⟨h1,h2⟩).run w hm.inv (fun _ h=>by cases h)
theorem B4b {J:U0}{v3 v4:Value} (n:List UInt8) (hs:sc.length<=1099511627776) (h:NRd J bc bf pi sc sa sp v3 v4):CalM prog 126 #[ptr bc,str n] J [] (fun v _ H'=>v=lcV (A1e sc n)/\H'= []):=by
 refine CalM.of fun w E hm=>enter (N:=35) func126 rfl [(0,ptr bc),(1,str n)] A1P rfl ?_
 obtain⟨hp,hr⟩:=h;repeat' (first|refine V6 (d:=4) ?_ hm;clear hm;intro b4 _ hm|refine J4 ?_ hm|refine D8 ?_|refine D5 ?_|refine G8 ?_|refine E5 ?_|refine A5h ?_|refine C9 ?_|refine D9 ?_|refine A7 ?_|refine E8 ?_|refine A8 ?_|refine F5 ?_)
 refine X7 (fun k:Nat=> [(0,ptr bc),(1,str n),(4,ptr b4),(6,.int .i64 ((k:Int)-1))]) (fun k w'=>Mem E J [.cell b4 [str [],nt 0] 221] w'/\k<=sc.length/\A1e sc n=A1e (sc.take k) n) (fun k=>k) sc.length (by exact⟨rfl,rfl,rfl,rfl,trivial⟩) ⟨hm,H6 _,by rw[A0b]⟩ ?_
 clear hm;rintro k w1 ⟨hm,hk,hf⟩;try dsimp only at hm hk hf |-
 by_cases h0:0<k
 ·have hg:sc[k-1]?=some sc[k-1]:=G9 (by omega)
  have hcut:=B2Y n hg;rw[show k-1+1=k by omega]at hcut;generalize sc[k-1]=x at hg hcut;rw[hcut]at hf;have hi:sc[((k:Int)-1).toNat]?=some x:=by rw[show ((k:Int)-1).toNat=k-1 by omega];exact hg
  by_cases hx:x.name=n
  ·rw[if_pos hx]at hf
   repeat' (first|refine A0i (d:=22) (enc:=A6R) (z:=x) ?_ (hr:=hr) (he:=fun _=>rfl) (hz:=hi);intro b1 o1 p1|refine A0i (d:=32) (enc:=A6R) (z:=x) ?_ (hr:=hr) (he:=fun _=>rfl) (hz:=hi);intro b2 o2 p2|refine J4 ?_ hm|refine Y8 ?_ hm|refine O4 ?_ hm;clear hm;intro _ hm;try simp only[F7]at hm|refine A0k ?_ hm|refine D8 ?_|refine D5 ?_|refine A1J ?_|refine A0c ?_|refine E5 ?_|refine C9 ?_|refine D9 ?_|refine A7 ?_|refine H5 ?_|refine L8 ?_|refine E8 ?_|refine A8 ?_|refine F5 ?_|refine F9 ?_|refine H7 ?_|(refine D6 (ht:=fun _=>?_) (hf:=fun _=>?_)<;>try first|contradiction|omega))
   all_goals try first|omega|contradiction
   exact⟨J,[],⟨by rw[hf];rfl,rfl⟩,hm.left (H:= [])⟩
  ·rw[if_neg hx]at hf
   repeat' (first|refine A0i (d:=22) (enc:=A6R) (z:=x) ?_ (hr:=hr) (he:=fun _=>rfl) (hz:=hi);intro b1 o1 p1|refine J4 ?_ hm|refine D8 ?_|refine D5 ?_|refine A1J ?_|refine A0c ?_|refine E5 ?_|refine A5h ?_|refine C9 ?_|refine D9 ?_|refine A7 ?_|refine D7 ?_|refine E8 ?_|refine A8 ?_|refine F5 ?_|refine F9 ?_|(refine D6 (ht:=fun _=>?_) (hf:=fun _=>?_)<;>try first|contradiction|omega))
   all_goals try first|omega|contradiction
   refine N7 (k-1:Nat) (by exact⟨rfl,rfl,rfl,by rw[show (((k-1:Nat):Int)-1)=(k:Int)-1-1 by omega];rfl,trivial⟩) ⟨hm,by omega,hf⟩ (by omega)
 ·obtain rfl:k=0:=by omega
  repeat' (first|refine O4 ?_ hm;clear hm;intro _ hm;try simp only[F7]at hm|refine A0k ?_ hm|refine D8 ?_|refine D5 ?_|refine A1J ?_|refine X4 ?_|refine D9 ?_|refine A7 ?_|refine G7 ?_|refine G5 ?_|refine E8 ?_|refine A8 ?_|refine O7 ?_|refine H7 ?_|refine E9 ?_)
  all_goals try omega
  exact⟨J,[],⟨by rw[hf];rfl,rfl⟩,hm.left (H:= [])⟩
theorem B5t (bc bf:Nat) (pi:Value) (sc:List Sp.Lc) (sa:Option Addr) (sp:Nat) (s:Sp.NW) (f e:Nat) (n:List UInt8) (da:Option Addr) (dp:Nat) (ua:Option Addr) (up:Nat):
  [.obj bc (.cells [ptr bf,pi,.slice sa sc.length sp,.slice da (s.ds.length+1) dp,.slice ua s.us.length up].toArray 126 (0,0)),B6H s.us ua up,B39 sc sa sp,.row (.slice da (s.ds.length+1) dp) 92 4 (s.ds.length+1) (s.ds.flatMap A32++A32 ⟨f,f+n.length,e,n⟩)]=NSt bc bf pi sc sa sp (s.tell f e n) da dp ua up:=by
 simp[Sp.NW.tell,A0F]
theorem B6P (bc bf:Nat) (pi:Value) (sc:List Sp.Lc) (sa:Option Addr) (sp:Nat) (s:Sp.NW) (b:Int) (f:Nat) (n:List UInt8) (d:Int) (da:Option Addr) (dp:Nat) (ua:Option Addr) (up:Nat):
  [.obj bc (.cells [ptr bf,pi,.slice sa sc.length sp,.slice da s.ds.length dp,.slice ua (s.us.length+1) up].toArray 126 (0,0)),.row (.slice ua (s.us.length+1) up) 53 3 (s.us.length+1) (s.us.flatMap A6p++A6p ⟨b+f,b+f+n.length,d⟩),B39 sc sa sp,A26 s.ds da dp]=NSt bc bf pi sc sa sp (s.use b f n d) da dp ua up:=by
 simp[Sp.NW.use,A0F]
theorem A74 (n:List UInt8) (f e:Nat) (hf:f+n.length<=1099511627776) (hd:s.n<=1000000000):
  CalM prog 79 #[ptr bc,nt f,nt e,str n] I (NSt bc bf pi sc sa sp s da dp ua up) (ToN bc bf pi sc (s.tell f e n) (.tuple #[])):=by
 have hn:s.n=s.ds.length+s.us.length:=rfl;refine CalM.of fun w E hm=>enter (N:=25) func79 rfl [(0,ptr bc),(1,nt f),(2,nt e),(3,str n)] A9C rfl ?_
 repeat' (first|refine A3A (d:=22) ?_ hm;clear hm;intro a22 cp22 _ _ hm;try simp only[F7]at hm|refine H8 ?_ hm|refine J6 hm (k:=?_);clear hm;intro _ hm;try simp only[F7]at hm|refine D8 ?_|refine X9 ?_|refine E5 ?_|refine Q4 ?_|refine C9 ?_|refine X4 ?_|refine D9 ?_|refine A8 ?_|refine A0f ?_)
 exact⟨I,_,⟨rfl,_,_,_,_,_,_,B5t _ _ _ _ _ _ s f e n _ _ _ _⟩,hm⟩
theorem B7O {src:List UInt8}{p:Nat}{q:List UInt8}{its:List Sp.Itm}{it:Sp.Itm}{a:Option Addr}{cp:Nat}{xs:List Value} (hC:NC I src p q its it bf a cp xs pi) (f:Nat) (n:List UInt8) (d:Int) (hst:A1A q f n) (hd:s.n<=1000000000):
  CalM prog 127 #[ptr bc,nt f,str n,.int .i64 d] I (NSt bc bf pi sc sa sp s da dp ua up) (ToN bc bf pi sc (s.use p f n d) (.tuple #[])):=by
 have hn:s.n=s.ds.length+s.us.length:=rfl;have hb:=(hC.st.sub _ _ hst).1;have hlen:=hC.len;have hat:=hC.st.at_;refine CalM.of fun w E hm=>enter (N:=40) func127 rfl [(0,ptr bc),(1,nt f),(2,str n),(3,.int .i64 d)] A9C rfl ?_
 obtain⟨bi,oi,tci,ci,rfl,hpi,hati⟩:=hC.item;obtain⟨pa,pc,sa9,sc9,ba,bc9,da9,dc9,xb,rfl,_⟩:=hati;rw[hat]at hpi;repeat' (first|refine A0r (id:=0) (hm.perm pm1_1) 28 30 (h:=?_);clear hm;intro wd hR hm|refine A0g ?_ hR|refine A1u ?_ hR|refine A2K (d:=37) ?_ hm;clear hm;intro a37 cp37 _ _ hm;replace hm:=hR.back hm;clear hR;try simp only[F7]at hm|refine J6 hm (k:=?_);clear hm;intro _ hm;try simp only[F7]at hm|refine E5 ?_|refine C9 ?_|refine D9 ?_|refine A0f ?_|refine A1V ?_|refine A6P ?_|refine Z4 ?_|refine B4t ?_|refine S9 ?_|refine A4X ?_|refine A08 ?_)
 all_goals try omega
 exact⟨I,_,⟨rfl,_,_,_,_,_,_,B6P _ _ _ _ _ _ s p f n d _ _ _ _⟩,hm.swap⟩
end
theorem B1d (bc bf:Nat) (pi:Value) (sc:List Sp.Lc) (sa:Option Addr) (sp:Nat) (s:Sp.NW) (n:List UInt8) (x:Nat) (da:Option Addr) (dp:Nat) (ua:Option Addr) (up:Nat):
  [.obj bc (.cells [ptr bf,pi,.slice sa (sc.length+1) sp,.slice da s.ds.length dp,.slice ua s.us.length up].toArray 126 (0,0)),B6H s.us ua up,.row (.slice sa (sc.length+1) sp) 221 2 (sc.length+1) (sc.flatMap A6R++A6R ⟨n,x⟩),A26 s.ds da dp]=NSt bc bf pi (sc++ [⟨n,x⟩]) sa sp s da dp ua up:=by
 simp[A0F]
section
variable {I:U0}{bc bf sp dp up:Nat}{pi:Value}{sc:List Sp.Lc}{sa da ua:Option Addr}{s:Sp.NW}
theorem B6d (n:List UInt8) (a:Nat) (ha:a+n.length<=1099511627776) (hs:sc.length<=1000000000) (hd:s.n<=1000000000):
  CalM prog 104 #[ptr bc,str n,nt a] I (NSt bc bf pi sc sa sp s da dp ua up) (ToN bc bf pi (Sp.mkN n a sc s).1 (Sp.mkN n a sc s).2 (.tuple #[])):=by
 refine CalM.of fun w E hm=>enter (N:=33) func104 rfl [(0,ptr bc),(1,str n),(2,nt a)] A6f rfl ?_
 by_cases hn:n= []
 ·subst hn
  repeat' (first|refine D8 ?_|refine A0c ?_|refine D9 ?_|refine A7 ?_|refine H5 ?_|refine E8 ?_|refine A8 ?_|refine H7 ?_|refine B0j ?_|refine F8 ?_)
  all_goals try first|omega|contradiction
  exact⟨I,_,⟨rfl,_,_,_,_,_,_,rfl⟩,hm⟩
 have hg:=CalR.walker (I:=I) (bc:=bc) (bf:=bf) (pi:=pi) (sc:=sc) (sa:=sa) (sp:=sp) (s:=s) (da:=da) (dp:=dp) (ua:=ua) (up:=up) (fun J m h=>(B4b n (by omega) h).read);cases hf:A1e sc n with
 |some l=>
  rw[hf]at hg;dsimp only[lcV]at hg;rw[B58 hn hf];have hT:=fun (J:U0)=>A74 (I:=J) (bc:=bc) (bf:=bf) (pi:=pi) (sc:=sc) (sa:=sa) (sp:=sp) (s:=s) (da:=da) (dp:=dp) (ua:=ua) (up:=up) n a 7 ha hd
  repeat' (first|refine P9 (d:=13) ?_ hm (hs:=A9b) (hc:=by exact hg);clear hm;intro _ hm|refine F6 (d:=20) ?_ hm (hp:=A93) (hc:=hT I);clear hm;rintro _ I2 _ _ ⟨rfl,sa2,sp2,da2,dp2,ua2,up2,rfl⟩ hleI2 hm;try simp only[F7]at hm|refine A0j (d:=6) ?_ hm;clear hm;intro b6 _ hm|refine A3A (d:=30) ?_ hm;clear hm;intro a30 cp30 _ _ hm;try simp only[F7]at hm|refine H8 ?_ hm|refine J6 hm (k:=?_);clear hm;intro _ hm;try simp only[F7]at hm|refine D8 ?_|refine D5 ?_|refine A0c ?_|refine A1r ?_|refine E5 ?_|refine C9 ?_|refine X4 ?_|refine D9 ?_|refine A7 ?_|refine E8 ?_|refine A8 ?_|refine F9 ?_|refine A0f ?_|refine F8 ?_|(refine D6 (ht:=fun _=>?_) (hf:=fun _=>?_)<;>try first|contradiction|omega))
  all_goals try first|omega|contradiction
  exact⟨I2,_,⟨rfl,_,_,_,_,_,_,B1d _ _ _ _ _ _ (s.tell a 7 n) n a _ _ _ _⟩,hm.left⟩
 |none=>
  rw[hf]at hg;dsimp only[lcV]at hg;rw[B57 hn hf];repeat' (first|refine P9 (d:=13) ?_ hm (hs:=A9b) (hc:=by exact hg);clear hm;intro _ hm|refine A0j (d:=6) ?_ hm;clear hm;intro b6 _ hm|refine A3A (d:=30) ?_ hm;clear hm;intro a30 cp30 _ _ hm;try simp only[F7]at hm|refine H8 ?_ hm|refine J6 hm (k:=?_);clear hm;intro _ hm;try simp only[F7]at hm|refine D8 ?_|refine D5 ?_|refine A0c ?_|refine A1r ?_|refine E5 ?_|refine C9 ?_|refine X4 ?_|refine D9 ?_|refine A7 ?_|refine E8 ?_|refine A8 ?_|refine F9 ?_|refine A0f ?_|refine E9 ?_|(refine D6 (ht:=fun _=>?_) (hf:=fun _=>?_)<;>try first|contradiction|omega))
  all_goals try first|omega|contradiction
  exact⟨I,_,⟨rfl,_,_,_,_,_,_,B1d _ _ _ _ _ _ s n a _ _ _ _⟩,hm.tl⟩
variable {src:List UInt8}{p:Nat}{q:List UInt8}{its:List Sp.Itm}{it:Sp.Itm}{a:Option Addr}{cp:Nat}{xs:List Value}
theorem B4c (hC:NC I src p q its it bf a cp xs pi) (f:Nat) (n:List UInt8) (hst:A1A q f n) (hsc:A78 q sc) (hs:sc.length<=1000000000) (hd:s.n<=1000000000):
  CalM prog 157 #[ptr bc,nt f,str n] I (NSt bc bf pi sc sa sp s da dp ua up) (ToN bc bf pi sc (A7e p sc f n s) (.tuple #[])):=by
 have hb:=(hC.st.sub _ _ hst).1;have hlen:=hC.len;have hat:=hC.st.at_;refine CalM.of fun w E hm=>enter (N:=35) func157 rfl [(0,ptr bc),(1,nt f),(2,str n)] A6f rfl ?_
 have hg:=CalR.walker (I:=I) (bc:=bc) (bf:=bf) (pi:=pi) (sc:=sc) (sa:=sa) (sp:=sp) (s:=s) (da:=da) (dp:=dp) (ua:=ua) (up:=up) (fun J m h=>(B4b n (by omega) h).read);cases hf:A1e sc n with
 |some l=>
  rw[hf]at hg;dsimp only[lcV]at hg;rw[B4W hf];have hl:=(hC.st.sub _ _ (hsc _ (A64 hf).1).2).1;have hU:=fun (J:U0) (m:Le I J)=>B7O (I:=J) (bc:=bc) (sc:=sc) (sa:=sa) (sp:=sp) (s:=s) (da:=da) (dp:=dp) (ua:=ua) (up:=up) (hC.le m) f n ((p:Int)+l.at_) hst hd
  obtain⟨bi,oi,tci,ci,rfl,hpi,hati⟩:=hC.item;obtain⟨pa,pc,sa9,sc9,ba,bc9,da9,dc9,xb,rfl,_⟩:=hati;rw[hat]at hpi;repeat' (first|refine P9 (d:=11) ?_ hm (hs:=A9b) (hc:=by exact hg);clear hm;intro _ hm|refine Q9 (id:=2) 13 (h:=?_)|refine F6 (d:=28) ?_ hm (hp:=A93) (hc:=hU I (Le.refl _));clear hm;rintro _ I2 _ _ ⟨rfl,sa2,sp2,da2,dp2,ua2,up2,rfl⟩ hleI2 hm;try simp only[F7]at hm|refine A0j (d:=6) ?_ hm;clear hm;intro b6 _ hm|refine J8 ?_ hm|refine U1 ?_ hm|refine D8 ?_|refine D5 ?_|refine A1r ?_|refine D9 ?_|refine A7 ?_|refine E8 ?_|refine A8 ?_|refine A0f ?_|refine L9 ?_;intro _ hkq;replace hm:=hm.kept0 hkq;clear hkq|refine F8 ?_|refine P5 ?_|refine J5 ?_|refine A2p ?_|refine G6 ?_)
  all_goals try first|omega|contradiction
  exact⟨I2,_,⟨rfl,_,_,_,_,_,_,rfl⟩,hm.left⟩
 |none=>
  rw[hf]at hg;dsimp only[lcV]at hg;rw[B4V hf];by_cases hn:n= []
  ·rw[if_pos hn]
   subst hn;repeat' (first|refine P9 (d:=11) ?_ hm (hs:=A9b) (hc:=by exact hg);clear hm;intro _ hm|refine A0j (d:=6) ?_ hm;clear hm;intro b6 _ hm|refine D8 ?_|refine D5 ?_|refine V4 ?_|refine A1r ?_|refine D9 ?_|refine A7 ?_|refine E8 ?_|refine A8 ?_|refine F9 ?_|refine A0f ?_|refine E9 ?_)
   all_goals try first|omega|contradiction
   exact⟨I,_,⟨rfl,_,_,_,_,_,_,rfl⟩,hm.tl⟩
  ·rw[if_neg hn]
   have hT:=fun (J:U0)=>A74 (I:=J) (bc:=bc) (bf:=bf) (pi:=pi) (sc:=sc) (sa:=sa) (sp:=sp) (s:=s) (da:=da) (dp:=dp) (ua:=ua) (up:=up) n f 6 (by omega) hd
   repeat' (first|refine P9 (d:=11) ?_ hm (hs:=A9b) (hc:=by exact hg);clear hm;intro _ hm|refine F6 (d:=34) ?_ hm (hp:=A93) (hc:=hT I);clear hm;rintro _ I2 _ _ ⟨rfl,sa2,sp2,da2,dp2,ua2,up2,rfl⟩ hleI2 hm;try simp only[F7]at hm|refine A0j (d:=6) ?_ hm;clear hm;intro b6 _ hm|refine D8 ?_|refine D5 ?_|refine V4 ?_|refine A1r ?_|refine D9 ?_|refine A7 ?_|refine E8 ?_|refine A8 ?_|refine A0f ?_|refine E9 ?_|(refine D6 (ht:=fun _=>?_) (hf:=fun _=>?_)<;>try first|contradiction|omega))
   all_goals try first|omega|contradiction
   exact⟨I2,_,⟨rfl,_,_,_,_,_,_,rfl⟩,hm.left⟩
theorem B0D (hC:NC I src p q its it bf a cp xs pi) (k:Int) (f:Nat) (n:List UInt8) (hst:A1A q f n) (hd:s.n<=1000000000) (hf:A0M its k n=none):
  CalM prog 105 #[ptr bc,.int .i64 k,nt f,str n] I (NSt bc bf pi sc sa sp s da dp ua up) (ToN bc bf pi sc (A34 its p k f n s) (.pointer none)):=by
 have hb:=(hC.st.sub _ _ hst).1;have hlen:=hC.len;refine CalM.of fun w E hm=>enter (N:=51) func105 rfl [(0,ptr bc),(1,.int .i64 k),(2,nt f),(3,str n)] A9C rfl ?_
 have hCf:=hC.file;have hfind:=(A7g k n its I a cp xs hC.fe).read;rw[A6h,hf]at hfind;dsimp only at hfind;rw[B4R hf];by_cases hn:n= []
 ·rw[if_pos hn]
  subst hn;repeat' (first|refine P9 (d:=19) ?_ hm (hc:=hfind);clear hm;intro _ hm|refine H8 ?_ hm|refine Y8 ?_ hm|refine D8 ?_|refine D5 ?_|refine O0 ?_|refine V4 ?_|refine E5 ?_|refine C9 ?_|refine D9 ?_|refine A7 ?_|refine H5 ?_|refine E8 ?_|refine A8 ?_|refine F9 ?_|refine H7 ?_|refine H9 ?_|refine F8 ?_|refine E9 ?_)
  all_goals try first|omega|contradiction
  exact⟨I,_,⟨rfl,_,_,_,_,_,_,rfl⟩,hm⟩
 ·rw[if_neg hn]
  have hT:=fun (J:U0)=>A74 (I:=J) (bc:=bc) (bf:=bf) (pi:=pi) (sc:=sc) (sa:=sa) (sp:=sp) (s:=s) (da:=da) (dp:=dp) (ua:=ua) (up:=up) n f 6 (by omega) hd
  repeat' (first|refine P9 (d:=19) ?_ hm (hc:=hfind);clear hm;intro _ hm|refine F6 (d:=27) ?_ hm (hp:=A2L) (hc:=hT I);clear hm;rintro _ I2 _ _ ⟨rfl,sa2,sp2,da2,dp2,ua2,up2,rfl⟩ hleI2 hm;try simp only[F7]at hm|refine H8 ?_ hm|refine Y8 ?_ hm|refine D8 ?_|refine D5 ?_|refine O0 ?_|refine V4 ?_|refine E5 ?_|refine C9 ?_|refine D9 ?_|refine A7 ?_|refine H5 ?_|refine E8 ?_|refine A8 ?_|refine H7 ?_|refine H9 ?_|refine F8 ?_|(refine D6 (ht:=fun _=>?_) (hf:=fun _=>?_)<;>try first|contradiction|omega))
  all_goals try first|omega|contradiction
  exact⟨I2,_,⟨rfl,_,_,_,_,_,_,rfl⟩,hm⟩
theorem B0E (hC:NC I src p q its it bf a cp xs pi) (k:Int) (f:Nat) (n:List UInt8) (hst:A1A q f n) (hd:s.n<=1000000000) {j:Nat} (hf:A0M its k n=some j):
  CalM prog 105 #[ptr bc,.int .i64 k,nt f,str n] I (NSt bc bf pi sc sa sp s da dp ua up)
   (fun v I' H'=>(∃bj oj cj,v=.pointer (some ⟨bj,oj,none⟩)/\PtrI I' bj oj 60 cj/\A5a I' (Z7 its j) cj)/\∃sa sp da dp ua up,H'=NSt bc bf pi sc sa sp (A34 its p k f n s) da dp ua up):=by
 refine CalM.of fun w E hm=>enter (N:=51) func105 rfl [(0,ptr bc),(1,.int .i64 k),(2,nt f),(3,str n)] A9C rfl ?_
 have hCf:=hC.file;have hlen:=hC.len;have hri:=hC.fe.row;have hfew:=hC.fe.few;have hfind:=(A7g k n its I a cp xs hC.fe).read;rw[A6h,hf]at hfind;dsimp only at hfind;rw[B4S hf];obtain⟨hj,_,_,_,hmemj⟩:=A2F hf;obtain⟨_,dd,hdd,hds⟩:=B4I hC.sts hf;have hd0:=hds.1;have hU:=fun (J:U0) (m:Le I J)=>B7O (I:=J) (bc:=bc) (sc:=sc) (sa:=sa) (sp:=sp) (s:=s) (da:=da) (dp:=dp) (ua:=ua) (up:=up) (hC.le m) f n ((Z7 its j).at_+(Z7 its j).mark) hst hd
 obtain⟨ci,hci,hat,hlc⟩:=hC.fe.get (A2P hj);have hat0:=hat
 obtain⟨pa,pc,sa9,sc9,ba,bc9,da9,dc9,xb,rfl,_⟩:=hat
 repeat' (first|refine P9 (d:=19) ?_ hm (hc:=hfind);clear hm;intro _ hm|refine U3 (d:=36) ?_ (hr:=hri);intro bu ou hpu;rw[show ((j:Int).toNat *10)=j *10 from rfl,hci]at hpu|refine Q9 (id:=7) 12 (h:=?_)|refine F6 (d:=49) ?_ hm (hp:=A2L) (hc:=hU I (Le.refl _));clear hm;rintro _ I2 _ _ ⟨rfl,sa2,sp2,da2,dp2,ua2,up2,rfl⟩ hleI2 hm;try simp only[F7]at hm|refine H8 ?_ hm|refine J4 ?_ hm|refine Y8 ?_ hm|refine U1 ?_ hm|refine D8 ?_|refine D5 ?_|refine O0 ?_|refine E5 ?_|refine C9 ?_|refine D9 ?_|refine A7 ?_|refine E8 ?_|refine A8 ?_|refine F9 ?_|refine H7 ?_|refine H9 ?_|refine L9 ?_;intro _ hkq;replace hm:=hm.kept0 hkq;clear hkq|refine E9 ?_|refine P5 ?_|refine J5 ?_|refine A2p ?_|refine G6 ?_)
 all_goals try first|omega|contradiction
 exact⟨I2,_,And.intro ⟨_,_,_,rfl,hpu.le hleI2,hat0.le hleI2⟩ ⟨_,_,_,_,_,_,rfl⟩,hm⟩
end
structure NX where
 k:Nat
 I:U0
 sa:Option Addr
 sp:Nat
 da:Option Addr
 dp:Nat
 ua:Option Addr
 up:Nat
def B8L (src:List UInt8) (p:Nat) (q:List UInt8) (its:List Sp.Itm) (it:Sp.Itm) (bc bf:Nat) (a:Option Addr) (cp:Nat) (xs:List Value) (pi:Value) (sc:List Sp.Lc) (e:Sp.Ex):Prop:=
 ∀(I:U0) (b o tc:Nat) (ea:Option Addr) (ec:Nat) (ys:List Value) (s:Sp.NW) (sa:Option Addr) (sp:Nat) (da:Option Addr) (dp:Nat) (ua:Option Addr) (up:Nat),s.n+2 *e.cnt<=900000000->NC I src p q its it bf a cp xs pi->
  PtrI I b o tc (A0G e ea ec)->RowI I 107 6 (.slice ea e.args.length ec) e.args.length ys->V7 I e.args ys->
  CalM prog 156 #[ptr bc,.pointer (some ⟨b,o,none⟩)] I (NSt bc bf pi sc sa sp s da dp ua up) (ToN bc bf pi sc (Sp.exN its p sc e s) (.tuple #[]))
section
variable {src:List UInt8}{p:Nat}{q:List UInt8}{its:List Sp.Itm}{it:Sp.Itm}{bc bf:Nat}{a:Option Addr}{cp:Nat}{xs:List Value}{pi:Value}{sc:List Sp.Lc}
theorem B8d (hs:sc.length<=1000000000) (hsc:A78 q sc):∀(n:Nat) (e:Sp.Ex),SizeOf.sizeOf e<=n->e.small->e.all (Sp.stE q)->B8L src p q its it bc bf a cp xs pi sc e:=by
 intro n;induction n with
 |zero=>intro e h;cases e;simp at h
 |succ n ih=>
 intro e hsz hsm hall I b o tc ea ec ys s sa sp da dp ua up hn hC hp hr hx;obtain⟨hal,hasm⟩:=A3s hsm;obtain⟨hst,haall⟩:=Sp.Ex.all_node hall;have hcnt:=B5G e;refine CalM.of fun w E hm=>enter (N:=76) func156 rfl [(0,ptr bc),(1,.pointer (some ⟨b,o,none⟩))] A1P rfl ?_
 have hhd:=B61 its p sc e s;rw[B74];have hhr:A8T its p sc e s=if e.kind=2 then A7e p sc e.fr e.name s else if e.kind=4 then A4m its p e.fr e.name e.args.length s else s:=rfl
 generalize A8T its p sc e s=r at hhr hhd |-;repeat' (first|refine A8r 0 (fun _:NX=> [(0,ptr bc),(1,.pointer (some ⟨b,o,none⟩))]) (fun x w'=>Mem E x.I (NSt bc bf pi sc x.sa x.sp r x.da x.dp x.ua x.up) w'/\Le I x.I) ?_ ?_)
 ·refine⟨?_⟩
  by_cases k2:e.kind=2
  ·rw[if_pos k2]at hhr
   subst hhr;have hc:=fun (J:U0) (m:Le I J)=>B4c (I:=J) (bc:=bc) (sc:=sc) (sa:=sa) (sp:=sp) (s:=s) (da:=da) (dp:=dp) (ua:=ua) (up:=up) (hC.le m) e.fr e.name (hst (.inl k2)) hsc hs (by omega)
   repeat' (first|refine Q9 (id:=2) 9 (h:=?_)|refine F6 (d:=21) ?_ hm (hp:=A2L) (hc:=hc I (Le.refl _));clear hm;rintro _ I2 _ _ ⟨rfl,sa2,sp2,da2,dp2,ua2,up2,rfl⟩ hleI2 hm;try simp only[F7]at hm|refine J4 ?_ hm|refine U1 ?_ hm|refine D8 ?_|refine D5 ?_|refine Q5 ?_|refine E5 ?_|refine C9 ?_|refine D9 ?_|refine A7 ?_|refine D7 ?_|refine E8 ?_|refine A8 ?_|refine F5 ?_|refine L9 ?_;intro _ hkq;replace hm:=hm.kept0 hkq;clear hkq|(refine D6 (ht:=fun _=>?_) (hf:=fun _=>?_)<;>try first|contradiction|omega)|refine P5 ?_|refine J5 ?_|refine G6 ?_)
   all_goals try omega
   exact A0L (⟨0,I2,sa2,sp2,da2,dp2,ua2,up2⟩:NX) (by exact⟨rfl,rfl,trivial⟩) ⟨hm,hleI2⟩
  rw[if_neg k2]at hhr;by_cases k4:e.kind=4
  ·rw[if_pos k4]at hhr
   have hin:=A8W its p 2 e.fr e.name s;have hbd:=(hC.st.sub _ _ (hst (.inr k4))).1;have hlen:=hC.len;cases hf:A0M its 2 e.name with
   |none=>
    rw[B2M hf]at hhr;subst hhr;have hc:=fun (J:U0) (m:Le I J)=>B0D (I:=J) (bc:=bc) (sc:=sc) (sa:=sa) (sp:=sp) (s:=s) (da:=da) (dp:=dp) (ua:=ua) (up:=up) (hC.le m) 2 e.fr e.name (hst (.inr k4)) (by omega) hf
    repeat' (first|refine Q9 (id:=4) 9 (h:=?_)|refine F6 (d:=33) ?_ hm (hp:=A2L) (hc:=hc I (Le.refl _));clear hm;rintro _ I2 _ _ ⟨rfl,sa2,sp2,da2,dp2,ua2,up2,rfl⟩ hleI2 hm;try simp only[F7]at hm|refine A52 (e:=60) (k:=?_)|refine J4 ?_ hm|refine U1 ?_ hm|refine D8 ?_|refine D5 ?_|refine Q5 ?_|refine E5 ?_|refine C9 ?_|refine D9 ?_|refine A7 ?_|refine D7 ?_|refine E8 ?_|refine A8 ?_|refine F5 ?_|refine F9 ?_|refine L6 ?_|refine U4 ?_;intro _ hkq;replace hm:=hm.kept0 hkq;clear hkq|refine L9 ?_;intro _ hkq;replace hm:=hm.kept0 hkq;clear hkq|refine E9 ?_|(refine D6 (ht:=fun _=>?_) (hf:=fun _=>?_)<;>try first|contradiction|omega)|refine P5 ?_|refine V9 ?_|refine J5 ?_|refine G6 ?_|refine A05 ?_)
    all_goals try omega
    exact A0L (⟨0,I2,sa2,sp2,da2,dp2,ua2,up2⟩:NX) (by exact⟨rfl,rfl,trivial⟩) ⟨hm,hleI2⟩
   |some j=>
    rw[B2N hf]at hhr;have hc:=fun (J:U0) (m:Le I J)=>B0E (I:=J) (bc:=bc) (sc:=sc) (sa:=sa) (sp:=sp) (s:=s) (da:=da) (dp:=dp) (ua:=ua) (up:=up) (hC.le m) 2 e.fr e.name (hst (.inr k4)) (by omega) hf
    generalize A34 its p 2 e.fr e.name s=s1 at hc hhr hin;by_cases hpl:(Z7 its j).params.length≠e.args.length
    ·rw[if_pos hpl]at hhr
     subst hhr;have hT:=fun (J:U0) (sa:Option Addr) (sp:Nat) (da:Option Addr) (dp:Nat) (ua:Option Addr) (up:Nat)=>A74 (I:=J) (bc:=bc) (bf:=bf) (pi:=pi) (sc:=sc) (sa:=sa) (sp:=sp) (s:=s1) (da:=da) (dp:=dp) (ua:=ua) (up:=up) e.name e.fr 5 (by omega) (by omega)
     repeat' (first|refine Q9 (id:=4) 9 (h:=?_)|refine F6 (d:=33) ?_ hm (hp:=A2L) (hc:=hc I (Le.refl _));clear hm;rintro _ I2 _ _ ⟨⟨bj,oj,cj,rfl,hpj,hatj⟩,sa2,sp2,da2,dp2,ua2,up2,rfl⟩ hleI2 hm;try simp only[F7]at hm;have hp2:=hp.le hleI2;obtain⟨pa,pc,sa9,sc9,ba,bc9,da9,dc9,xb,rfl,_⟩:=hatj|refine A52 (e:=60) (k:=?_)|refine Q9 (id:=6) 9 (h:=?_)|refine F6 (d:=58) ?_ hm (hp:=A2L) (hc:=hT I2 sa2 sp2 da2 dp2 ua2 up2);clear hm;rintro _ I3 _ _ ⟨rfl,sa3,sp3,da3,dp3,ua3,up3,rfl⟩ hleI3 hm;try simp only[F7]at hm|refine J4 ?_ hm|refine U1 ?_ hm|refine D8 ?_|refine D5 ?_|refine Q5 ?_|refine E5 ?_|refine C9 ?_|refine D9 ?_|refine A7 ?_|refine D7 ?_|refine E8 ?_|refine A8 ?_|refine F5 ?_|refine L6 ?_|refine U4 ?_;intro _ hkq;replace hm:=hm.kept0 hkq;clear hkq|refine L9 ?_;intro _ hkq;replace hm:=hm.kept0 hkq;clear hkq|(refine D6 (ht:=fun _=>?_) (hf:=fun _=>?_)<;>try first|contradiction|omega)|refine P5 ?_|refine P7 ?_|refine A3j ?_|refine J3 ?_|refine J5 ?_|refine G6 ?_)
     all_goals try omega
     exact A0L (⟨0,I3,sa3,sp3,da3,dp3,ua3,up3⟩:NX) (by exact⟨rfl,rfl,trivial⟩) ⟨hm,hleI2.trans hleI3⟩
    ·rw[if_neg hpl]at hhr
     subst hhr;repeat' (first|refine Q9 (id:=4) 9 (h:=?_)|refine F6 (d:=33) ?_ hm (hp:=A2L) (hc:=hc I (Le.refl _));clear hm;rintro _ I2 _ _ ⟨⟨bj,oj,cj,rfl,hpj,hatj⟩,sa2,sp2,da2,dp2,ua2,up2,rfl⟩ hleI2 hm;try simp only[F7]at hm;have hp2:=hp.le hleI2;obtain⟨pa,pc,sa9,sc9,ba,bc9,da9,dc9,xb,rfl,_⟩:=hatj|refine A52 (e:=60) (k:=?_)|refine J4 ?_ hm|refine U1 ?_ hm|refine D8 ?_|refine D5 ?_|refine Q5 ?_|refine E5 ?_|refine C9 ?_|refine D9 ?_|refine A7 ?_|refine D7 ?_|refine E8 ?_|refine A8 ?_|refine F5 ?_|refine F9 ?_|refine L6 ?_|refine U4 ?_;intro _ hkq;replace hm:=hm.kept0 hkq;clear hkq|refine L9 ?_;intro _ hkq;replace hm:=hm.kept0 hkq;clear hkq|(refine D6 (ht:=fun _=>?_) (hf:=fun _=>?_)<;>try first|contradiction|omega)|refine P5 ?_|refine P7 ?_|refine A3j ?_|refine J3 ?_|refine J5 ?_|refine G6 ?_)
     all_goals try omega
     exact A0L (⟨0,I2,sa2,sp2,da2,dp2,ua2,up2⟩:NX) (by exact⟨rfl,rfl,trivial⟩) ⟨hm,hleI2⟩
  ·rw[if_neg k4]at hhr
   subst hhr;repeat' (first|refine J4 ?_ hm|refine D8 ?_|refine D5 ?_|refine Q5 ?_|refine E5 ?_|refine C9 ?_|refine D9 ?_|refine A7 ?_|refine D7 ?_|refine E8 ?_|refine A8 ?_|refine F5 ?_|refine F9 ?_|(refine D6 (ht:=fun _=>?_) (hf:=fun _=>?_)<;>try first|contradiction|omega))
   all_goals try omega
   exact A0L (⟨0,I,sa,sp,da,dp,ua,up⟩:NX) (by exact⟨rfl,rfl,trivial⟩) ⟨hm,Le.refl _⟩
 ·clear hm hhr
  rintro⟨_,I1,sa1,sp1,da1,dp1,ua1,up1⟩ w1 ⟨hm,hle1⟩;dsimp only at hm hle1 |-;have hp1:=hp.le hle1;repeat' (first|refine J4 ?_ hm|refine D8 ?_|refine G8 ?_|refine E5 ?_|refine C9 ?_|refine D9 ?_|refine A7 ?_|refine E8 ?_|refine A8 ?_|refine F5 ?_)
  all_goals try omega
  refine X7 (fun x:NX=> [(0,ptr bc),(1,.pointer (some ⟨b,o,none⟩)),(63,nt e.args.length),(64,nt x.k)])
   (fun x w'=>Mem E x.I (NSt bc bf pi sc x.sa x.sp (A33 its p sc (e.args.take x.k) r) x.da x.dp x.ua x.up) w'/\Le I x.I/\x.k<=e.args.length) (fun x=>e.args.length-x.k) ⟨0,I1,sa1,sp1,da1,dp1,ua1,up1⟩
   (by exact⟨rfl,rfl,rfl,rfl,trivial⟩) ⟨by dsimp only;rw[A07,A33];exact hm,hle1,J7 _⟩ ?_
  clear hm hp1;rintro⟨k,I2,sa2,sp2,da2,dp2,ua2,up2⟩ w2 ⟨hm,hle2,hk⟩;dsimp only at hm hle2 hk |-;have hC2:=hC.le hle2;have hp2:=hp.le hle2;have hrow:=hr.le hle2;by_cases hlt:k<e.args.length
  ·have hg:e.args[k]?=some e.args[k]:=G9 hlt
   have hsz2:=A3V (Q8 hlt);have hsm2:=A12 hasm hg;have hal2:=A8P haall hg;obtain⟨ea2,ec2,ys2,hc2,hr2,hx2⟩:=(hx.get hg).out;generalize e.args[k]=y at hg hsz2 hsm2 hal2 hc2 hr2 hx2;have hstp:=B4C its p sc hg r;have hcy:=B1x hg;have hnn:=B2S its p sc (e.args.take k) r;generalize A33 its p sc (e.args.take k) r=s1 at hm hstp hnn;have hcl:=fun b o tc (hpt:PtrI I2 b o tc (A0G y ea2 ec2))=>ih y (by omega) hsm2 hal2 I2 b o tc ea2 ec2 ys2 s1 sa2 sp2 da2 dp2 ua2 up2 (by omega) hC2 hpt (hr2.le hle2) (V7.le hle2 _ _ hx2)
   generalize Sp.exN its p sc y s1=s2 at hcl hstp;repeat' (first|refine U3 (d:=73) ?_ (hr:=hrow);intro bt ot hpt;rw[show ((k:Int).toNat *6)=k *6 from rfl,hc2]at hpt|refine F6 (d:=74) ?_ hm (hp:=A2L) (hc:=hcl _ _ _ hpt);clear hm;rintro _ I3 _ _ ⟨rfl,sa3,sp3,da3,dp3,ua3,up3,rfl⟩ hleI3 hm;try simp only[F7]at hm|refine J4 ?_ hm|refine D8 ?_|refine D5 ?_|refine O0 ?_|refine E5 ?_|refine Q4 ?_|refine C9 ?_|refine D9 ?_|refine A7 ?_|refine D7 ?_|refine E8 ?_|refine A8 ?_|refine F5 ?_|refine F9 ?_|(refine D6 (ht:=fun _=>?_) (hf:=fun _=>?_)<;>try first|contradiction|omega))
   all_goals try omega
   exact N7 (⟨k+1,I3,sa3,sp3,da3,dp3,ua3,up3⟩:NX) (by exact⟨rfl,rfl,rfl,rfl,trivial⟩) ⟨by dsimp only;rw[hstp];exact hm,hle2.trans hleI3,by dsimp only;omega⟩ (by dsimp only;omega)
  ·obtain rfl:k=e.args.length:=by omega
   rw[A0b]at hm;repeat' (first|refine O0 ?_|refine D9 ?_|refine A7 ?_|refine G7 ?_|refine G5 ?_|refine E8 ?_|refine A8 ?_|refine O7 ?_|refine A0f ?_|(refine D6 (ht:=fun _=>?_) (hf:=fun _=>?_)<;>try first|contradiction|omega))
   all_goals try omega
   exact⟨I2,_,⟨rfl,_,_,_,_,_,_,rfl⟩,hm⟩
end
end Go.Proofs
