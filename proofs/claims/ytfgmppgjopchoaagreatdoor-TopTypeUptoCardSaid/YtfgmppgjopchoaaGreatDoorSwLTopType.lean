/- Own work: the law TopType. -/
import Derived.Test.YtfgmppgjopchoaaGreatDoorSw27
set_option maxHeartbeats 64000000
namespace Go.Sp
theorem C4H (s:Srv) (q:Qn) (h:q.kind=3) (hb:s.op=true):A9X s q= { A65 with id:=q.id,dgs:=A4T (J7 s.text)}:=by
 rw[A9X,A3n,if_neg (by omega),if_neg (by omega),if_neg (by rw[hb];decide),if_neg (by omega),C2Z,if_pos h]
def B0i (s:List UInt8) (i:Nat):Qn:=⟨0,2,i,i,(s.drop i).take 1,[]⟩
def A3v (s:List UInt8) (n k:Nat):List Qn:=⟨0,1,0,0,s.drop n,[]⟩::(List.range k).map (B0i s)
theorem B0G (s:List UInt8) (n k:Nat):A3v s n (k+1)=A3v s n k++ [B0i s k]:=by
 rw[A3v,A3v,A1C,Y8,X3];rfl
theorem A7S (s:List UInt8) (n k:Nat):(A3v s n k).length=k+1:=by simp[A3v]
theorem C4O {s:Srv}{t:List UInt8} (h:(A8S s t).2.err=0):(A8S s t).1=⟨t,true⟩:=by
 rw[A8S]at h |-;split
 ·rename_i h1
  rw[if_pos h1]at h;exact absurd h h1
 ·rfl
theorem B28 (s:Srv) (t:List UInt8):A3n s ⟨0,1,0,0,t,[]⟩=A8S s t:=by
 rw[A3n,if_neg (by dsimp only;omega),if_pos rfl]
theorem C2U (t s:List UInt8) (k:Nat):A3n ⟨t,true⟩ (B0i s k)=if A5P t k k ((s.drop k).take 1)≠0 then (⟨t,true⟩,B4p (A5P t k k ((s.drop k).take 1))) else A8S ⟨t,true⟩ (B1C t k k ((s.drop k).take 1)):=by
 rw[A3n,if_neg (by show ¬((2:Int)<1\/9<(2:Int));omega),if_neg (by show ¬(2:Int)=1;omega),if_neg (fun h=>by cases h),if_pos (.inl rfl),B1D,if_pos (show (B0i s k).kind=2 from rfl)];rfl
theorem C1h {s:List UInt8}{n:Nat} (hn:n<=s.length):∀(k:Nat),k<=n->(∀r∈rpQ A1b (A3v s n k),r.err=0)->stQ A1b (A3v s n k)=⟨s.take k++s.drop n,true⟩
 |0,_,h=>by
  have h1:=h _ (Q5);have h2:(A3n A1b ⟨0,1,0,0,s.drop n,[]⟩).2.err=0:=h1;rw[B28]at h2;have h3:stQ A1b (A3v s n 0)=(A3n A1b ⟨0,1,0,0,s.drop n,[]⟩).1:=rfl;rw[h3,B28,C4O h2];rfl
 |k+1,hk,h=>by
  rw[B0G,A9O]at h;have ih:=C1h hn k (by omega) (fun r hr=>h r (A1x _ hr));have h1:=h { (A3n (stQ A1b (A3v s n k)) (B0i s k)).2 with id:=(B0i s k).id} (A1P _ Q5);have h2:(A3n (stQ A1b (A3v s n k)) (B0i s k)).2.err=0:=h1;have h3:stQ A1b (A3v s n (k+1))=(A3n (stQ A1b (A3v s n k)) (B0i s k)).1:=by rw[B0G,B6s];rfl
  rw[h3];rw[ih]at h2 |-;rw[C2U]at h2 |-;by_cases hc:A5P (s.take k++s.drop n) k k ((s.drop k).take 1)=0
  ·rw[if_neg (by omega)]at h2 |-
   rw[C4O h2,B1C,if_pos hc];have hl:(s.take k).length=k:=by rw[P6];omega
   have e1:(s.take k++s.drop n).take k=s.take k:=List.take_left' hl;have e2:(s.take k++s.drop n).drop k=s.drop n:=List.drop_left' hl;show Srv.mk ((s.take k++s.drop n).take (k:Int).toNat++(s.drop k).take 1++(s.take k++s.drop n).drop (k:Int).toNat) true=_
   rw[A1j,e1,e2, <-List.take_add]
  ·rw[if_pos hc]at h2
   exact absurd h2 hc
def A9z:List Qn:= [⟨0,3,0,0,[],[]⟩,⟨0,9,0,0,[],[]⟩]
def B1b (s:List UInt8):List Qn:= [⟨0,1,0,0,s,[]⟩,⟨0,3,0,0,[],[]⟩]
theorem C46 {s:List UInt8}{n:Nat} (hn:n<=s.length) (h:∀(i:Nat) (r:Rpl),i<n+1->(rpQ A1b (A3v s n n++A9z))[i]?=some r->r.err=0):
  Y4 s=0/\(rpQ A1b (A3v s n n++A9z))[n+1]?=some { A65 with dgs:=A4T (J7 s)}/\
   (rpQ A1b (A3v s n n++A9z))[n+2]?=some { A65 with text:=s}/\
   (rpQ A1b (B1b s))[0]?=some (C75 (A3p [] s))/\(rpQ A1b (B1b s))[1]?=some { A65 with dgs:=A4T (J7 s)}:=by
 rw[A9O]at h |-;rw[A9z]at h |-;rw[B1b];have hl:(rpQ A1b (A3v s n n)).length=n+1:=by rw[A5N,A7S]
 have hst:=C1h hn n (H6 _) (fun r hr=>by
  obtain⟨i,hi,rfl⟩:=A1y hr;exact h i _ (by omega) (by rw[A23 hi,G6 hi]))
 rw[A2t]at hst;have hok:=B6t (A3v s n n) C0S;rw[hst]at hok |-;have he:Y4 s=0:=hok.err;have hs:A3n A1b ⟨0,1,0,0,s,[]⟩=(⟨s,true⟩,C75 (A3p [] s)):=by
  rw[B28,A8S,if_neg (by omega)];rfl
 have hd:=C4H ⟨s,true⟩ ⟨0,3,0,0,[],[]⟩ rfl rfl;have ht:=C03 ⟨s,true⟩ ⟨0,9,0,0,[],[]⟩ rfl;refine⟨he,?_,?_,?_,?_⟩
 ·rw[A16 (by omega),hl,A3R]
  exact congrArg some hd
 ·rw[A16 (by omega),hl,show n+2-(n+1)=1 by omega,rpQ,A0w,B4x rfl]
  exact congrArg some ht
 ·rw[rpQ,A0z,hs];rfl
 ·rw[rpQ,A0w,hs]
  exact congrArg some hd
end Go.Sp
namespace Go.Proofs
open Go.Proofs.Tryz
open Go.Sp
open Go.Fw
structure TyX where
 k:Nat
 a:Option Addr
 cp:Nat
 xs:List Value
theorem C45 (I:P7) (s:List UInt8) (_n k:Nat):A7r I (B0i s k) (B2z 0 2 k k ((s.drop k).take 1) none 0 0):=B1A I (B0i s k) rfl
theorem B8A (I:P7):A0F I A9z (B2z 0 3 0 0 [] none 0 0++B2z 0 9 0 0 [] none 0 0):=⟨_,_,rfl,B1A I ⟨0,3,0,0,[],[]⟩ rfl,_,[],rfl,B1A I ⟨0,9,0,0,[],[]⟩ rfl,rfl⟩
theorem C4p (I:P7) (s:List UInt8):A0F I (B1b s) (B2z 0 1 0 0 s none 0 0++B2z 0 3 0 0 [] none 0 0):=⟨_,_,rfl,B1A I ⟨0,1,0,0,s,[]⟩ rfl,_,[],rfl,B1A I ⟨0,3,0,0,[],[]⟩ rfl,rfl⟩
theorem C47 {s:List UInt8} (hs:s.length<=1099511627776) (n k:Nat):∀q∈A3v s n k++A9z,q.text.length<=1099511627776:=fun q hq=>by
 rw[A3v,X3]at hq;rcases U8.1 hq with rfl|hq
 ·show (s.drop n).length<=_
  rw[A0r];omega
 rcases Z9.1 hq with hq|hq
 ·obtain⟨i,_,rfl⟩:=A0x.1 hq
  show ((s.drop i).take 1).length<=_
  rw[P6];omega
 ·simp only[A9z,U8,List.not_mem_nil,or_false]at hq
  rcases hq with rfl|rfl<;>decide
theorem sp_ttype (s:List UInt8) (n:Int) (hs:s.length<=1099511627776) (I:P7) (hC:Conv I) (hT:A5O I):
  CalM prog 4 #[str s,.int .i64 n] I [] (fun v _ H'=>v=.bool true/\H'= []):=by
 refine CalM.of fun w E hm=>enter (N:=112) func4 rfl [(0,str s),(1,.int .i64 n)] A0T rfl ?_
 have hAl:=B6z I hC hT;by_cases hn:n<0\/36<n\/(s.length:Int)<n
 ·skip
  repeat' (first|refine F6 (d:=12) ?_ hm (hp:=pm0) (hc:=hAl);clear hm;rintro _ I1 _ _ ⟨rfl,rfl⟩ hleI1 hm;try simp only[F8]at hm|refine D8 ?_|refine D6 ?_|refine O1 ?_|refine J8 ?_|refine J6 ?_|refine A0u ?_|refine A0C ?_|refine Y2 ?_|refine A0E ?_|(refine N8 (h1:=fun _=>?_) (h0:=fun _=>?_)<;>try first|contradiction|omega)|refine D9 ?_|refine A7 ?_|refine G8 ?_|refine E5 ?_|refine A8 ?_|refine G5 ?_|refine H9 ?_|refine J9 ?_|refine H5 ?_|refine F7 ?_|(refine D5 (ht:=fun _=>?_) (hf:=fun _=>?_)<;>try first|contradiction|omega))
  all_goals exact⟨I1,[],⟨rfl,rfl⟩,hm.left (H:= [])⟩
 obtain⟨m,rfl⟩:∃m:Nat,n=m:=⟨n.toNat,by omega⟩;have hm36:m<=36:=by omega
 have hms:m<=s.length:=by omega
 repeat' (first|refine F6 (d:=12) ?_ hm (hp:=pm0) (hc:=hAl);clear hm;rintro _ I1 _ _ ⟨rfl,rfl⟩ hleI1 hm;try simp only[F8]at hm|refine F6 (d:=29) ?_ hm (hp:=pm0) (hc:=B36 1 (s.drop m) I1);clear hm;rintro _ I2 _ _ ⟨rfl,rfl⟩ hleI2 hm;try simp only[F8]at hm|refine A1n (d:=30) ?_ hm;clear hm;intro b7 _ hm|refine D8 ?_|refine D6 ?_|refine J8 ?_|refine J6 ?_|refine A0u ?_|refine A0C ?_|refine Y2 ?_|refine A5M ?_|(refine N8 (h1:=fun _=>?_) (h0:=fun _=>?_)<;>try first|contradiction|omega)|refine D9 ?_|refine A7 ?_|refine E5 ?_|refine A8 ?_|refine F5 ?_|refine G5 ?_|refine F7 ?_|(refine D5 (ht:=fun _=>?_) (hf:=fun _=>?_)<;>try first|contradiction|omega))
 refine U0 (fun x:TyX=> [(0,str s),(1,nt m),(5,.slice x.a (x.k+1) x.cp),(31,nt m),(32,nt x.k)])
  (fun x w'=>Mem E I2 [.row (.slice x.a (x.k+1) x.cp) 38 6 (x.k+1) x.xs] w'/\x.k<=m/\A0F I2 (A3v s m x.k) x.xs) (fun x=>m-x.k) ⟨0,some ⟨b7,0,none⟩,1,B2z 0 1 0 0 (s.drop m) none 0 0⟩
  (by exact⟨rfl,rfl,rfl,rfl,rfl,trivial⟩) ⟨hm,H7 _,_,[],rfl,B1A I2 ⟨0,1,0,0,s.drop m,[]⟩ rfl,rfl⟩ ?_
 clear hm;rintro⟨k,oa,op,xs⟩ w1 ⟨hm,hk,hgs⟩;dsimp only at hm hk hgs |-;by_cases hlt:k<m
 ·have hgs2:=A0F.snoc (C45 I2 s m k) hgs
  rw[<-B0G]at hgs2;repeat' (first|refine A2b (d:=45) ?_ hm;clear hm;intro a45 cp45 _ _ hm;try simp only[F8]at hm|refine D8 ?_|refine D6 ?_|refine J6 ?_|refine P5 ?_|refine A8j ?_|refine Q3 ?_|refine D9 ?_|refine A7 ?_|refine D7 ?_|refine E5 ?_|refine A8 ?_|refine F5 ?_|refine G5 ?_|(refine D5 (ht:=fun _=>?_) (hf:=fun _=>?_)<;>try first|contradiction|omega))
  all_goals rw[show ((k:Int)+1).toNat-(k:Int).toNat=1 by omega,A1j]at hm
  all_goals exact L8 (⟨k+1,a45,cp45,xs++B2z 0 2 k k ((s.drop k).take 1) none 0 0⟩:TyX) (by exact⟨rfl,rfl,rfl,rfl,rfl,trivial⟩) ⟨hm,by dsimp only;omega,by dsimp only;exact hgs2⟩ (by dsimp only;omega)
 obtain rfl:k=m:=by omega
 have hall:=C46 (s:=s) hms;have hP:=fun (J:P7) (mm:Le I J) (a:Option Addr) (cp:Nat) (ys:List Value) (h:RowI J 38 6 (.slice a (k+1+2) cp) (k+1+2) ys) (h2:A0F J (A3v s k k++A9z) ys)=>A9v (qs:=A3v s k k++A9z) (la:=a) (lc:=cp) (by rw[E9,A7S];exact h) h2 (C47 hs k k) (hC.le mm) (hT.le mm) (by rw[E9,A7S];show k+1+2<=_;omega)
 rw[E9,A7S,if_neg (by show ¬40<k+1+2;omega)]at hP;have hl1:(Sp.rpQ A1b (A3v s k k++A9z)).length=k+3:=by rw[A5N,E9,A7S];rfl
 have hP2:=fun (J:P7) (mm:Le I J) (b:Nat) (ys:List Value) (h:RowI J 38 6 (.slice (some ⟨b,0,none⟩) 2 2) 2 ys) (h2:A0F J (B1b s) ys)=>A9v (qs:=B1b s) h h2 (fun q hq=>by
  simp only[B1b,U8,List.not_mem_nil,or_false]at hq;rcases hq with rfl|rfl
  ·exact hs
  ·decide) (hC.le mm) (hT.le mm) (by show 2<=_;omega)
 rw[if_neg (by show ¬40<2;omega)]at hP2;have hl2:(Sp.rpQ A1b (B1b s)).length=2:=by rw[A5N];rfl
 generalize Sp.rpQ A1b (A3v s k k++A9z)=rs at hall hP hl1;generalize Sp.rpQ A1b (B1b s)=ro at hall hP2 hl2;repeat' (first|refine F6 (d:=49) ?_ hm (hp:=pm0) (hc:=B36 3 [] I2);clear hm;rintro _ I3 _ _ ⟨rfl,rfl⟩ hleI3 hm;try simp only[F8]at hm|refine F6 (d:=50) ?_ hm (hp:=pm0) (hc:=B36 9 [] I3);clear hm;rintro _ I4 _ _ ⟨rfl,rfl⟩ hleI4 hm;try simp only[F8]at hm|refine A1n (d:=51) ?_ hm;clear hm;intro b8 _ hm;obtain⟨I5,hle5,hm5,hr8⟩:=hm.freeze;clear hm;have hm:=hm5;clear hm5;have ho8:=(B8A I5).one|refine A7D (d:=52) ?_ hm (hr:=hr8) (h1:=ho8);clear hm;intro a9 cp9 _ hm;try simp only[F8]at hm;obtain⟨I6,hle6,hm6,hr9⟩:=hm.freeze;clear hm;have hm:=hm6;clear hm6;have ha9:=A0F.app (B8A I6) ((((hgs.le hleI3).le hleI4).le hle5).le hle6);have hle16:=hleI1.trans (hleI2.trans (hleI3.trans (hleI4.trans (hle5.trans hle6))))|refine F6 (d:=53) ?_ hm (hp:=pm0) (hc:=hP I6 hle16 _ _ _ hr9 ha9);clear hm;rintro _ I7 _ _ ⟨rfl,pa,pc,ps,rfl,hpr,hps⟩ hleI7 hm;try simp only[F8]at hm|refine F6 (d:=58) ?_ hm (hp:=pm0) (hc:=B36 1 s I7);clear hm;rintro _ I8 _ _ ⟨rfl,rfl⟩ hleI8 hm;try simp only[F8]at hm|refine F6 (d:=59) ?_ hm (hp:=pm0) (hc:=B36 3 [] I8);clear hm;rintro _ I9 _ _ ⟨rfl,rfl⟩ hleI9 hm;try simp only[F8]at hm|refine A1n (d:=60) ?_ hm;clear hm;intro b10 _ hm;obtain⟨J1,hleJ1,hmJ,hr10⟩:=hm.freeze;clear hm;have hm:=hmJ;clear hmJ;have hle17:=hle16.trans (hleI7.trans (hleI8.trans (hleI9.trans hleJ1)))|refine F6 (d:=61) ?_ hm (hp:=pm0) (hc:=hP2 J1 hle17 _ _ hr10 (C4p J1 s));clear hm;rintro _ J2 _ _ ⟨rfl,qa,qc,qx,rfl,hqr,hqs⟩ hleJ2 hm;try simp only[F8]at hm|refine D8 ?_|refine D6 ?_|refine J8 ?_|refine J6 ?_|refine A0n ?_|refine U5 ?_|refine P5 ?_|refine D9 ?_|refine A7 ?_|refine H8 ?_|refine G9 ?_|refine E5 ?_|refine A8 ?_|refine F5 ?_|refine G5 ?_|refine P8 ?_|refine F7 ?_|(refine D5 (ht:=fun _=>?_) (hf:=fun _=>?_)<;>try first|contradiction|omega))
 have hle72:=hleI8.trans (hleI9.trans (hleJ1.trans hleJ2));have hpr2:=hpr.le hle72;have hps2:=A4V.le hle72 hps;refine U0 (fun i:Nat=> [(0,str s),(1,nt k),(7,.slice pa rs.length pc),(9,.slice qa ro.length qc),(71,nt (k+1)),(72,nt i)])
  (fun i w'=>(∃H,Mem E J2 H w')/\i<=k+1/\∀(j:Nat) (r:Sp.Rpl),j<i->rs[j]?=some r->r.err=0) (fun i=>k+1-i) 0
  (by exact⟨rfl,rfl,rfl,rfl,rfl,rfl,trivial⟩) ⟨⟨_,hm⟩,H7 _,fun j r hj=>absurd hj (by omega)⟩ ?_
 clear hm;rintro i w2 ⟨⟨H,hm⟩,hi,hz⟩;try dsimp only at hm hi hz |-
 have hm:=Mem.right (H:=H) (R:= []) (by rw[J3];exact hm);by_cases hlt:i<k+1
 ·have hg:rs[i]?=some rs[i]:=G6 (by omega)
  obtain⟨da,dp,ea,ep,hc1,_,_⟩:=hps2.get hg;generalize rs[i]=r at hg hc1;by_cases he:r.err=0
  ·skip
   repeat' (first|refine N7 (d:=77) ?_ (hr:=hpr2);intro bt ot hpt;rw[show ((i:Int).toNat *11)=i *11 from rfl,hc1]at hpt|refine J5 ?_ hm|refine D8 ?_|refine D6 ?_|refine J6 ?_|refine A0n ?_|refine P5 ?_|refine C9 ?_|refine D9 ?_|refine A7 ?_|refine D7 ?_|refine E5 ?_|refine A8 ?_|refine F5 ?_|refine G5 ?_|(refine D5 (ht:=fun _=>?_) (hf:=fun _=>?_)<;>try first|contradiction|omega))
   all_goals refine L8 (i+1:Nat) (by exact⟨rfl,rfl,rfl,rfl,rfl,rfl,trivial⟩) ⟨⟨_,hm⟩,by omega,fun j r' hj hr'=>?_⟩ (by omega)
   all_goals rcases Nat.lt_succ_iff_lt_or_eq.1 hj with hj|rfl
   all_goals first|exact hz j r' hj hr'|(rw[hg]at hr';obtain rfl:=A0V hr';exact he)
  ·skip
   repeat' (first|refine N7 (d:=77) ?_ (hr:=hpr2);intro bt ot hpt;rw[show ((i:Int).toNat *11)=i *11 from rfl,hc1]at hpt|refine J5 ?_ hm|refine D8 ?_|refine D6 ?_|refine J6 ?_|refine A0n ?_|refine C9 ?_|refine D9 ?_|refine A7 ?_|refine G8 ?_|refine O3 ?_|refine E5 ?_|refine A8 ?_|refine F5 ?_|refine G5 ?_|refine H9 ?_|refine J9 ?_|(refine D5 (ht:=fun _=>?_) (hf:=fun _=>?_)<;>try first|contradiction|omega))
   all_goals exact⟨J2,[],⟨rfl,rfl⟩,hm⟩
 obtain rfl:i=k+1:=by omega
 obtain⟨_,h1,h2,h3,h4⟩:=hall hz;obtain⟨da,dp,ea,ep,hc1,_,_⟩:=hps2.get h1;obtain⟨db,dq,eb,eq,hc2,_,_⟩:=hps2.get h2;obtain⟨dc,dr,ec,er,hc3,_,_⟩:=hqs.get h3;obtain⟨dd,ds,ed,es,hc4,_,_⟩:=hqs.get h4;repeat' (first|refine A2l (d:=83) ?_ (hr:=hqr);intro bt ot hpt;rw[show ((0:Int).toNat *11)=0 *11 from rfl,hc3]at hpt|refine A2l (d:=91) ?_ (hr:=hpr2);intro bu ou hpu;rw[show (((k:Int)+2).toNat *11)=(k+2) *11 by omega,hc2]at hpu|refine A2l (d:=101) ?_ (hr:=hpr2);intro bv ov hpv;rw[show (((k:Int)+1).toNat *11)=(k+1) *11 by omega,hc1]at hpv|refine A2l (d:=106) ?_ (hr:=hqr);intro bx ox hpx;rw[show ((1:Int).toNat *11)=1 *11 from rfl,hc4]at hpx|refine A0m ?_ hm|refine J6 ?_|refine D9 ?_|refine A7 ?_|refine H8 ?_|refine G9 ?_|refine E5 ?_|refine A8 ?_|refine P8 ?_|refine H9 ?_|refine J9 ?_|refine U3 ?_|refine A0g ?_;intro _ hkq;replace hm:=hm.kept0 hkq;clear hkq|(refine D5 (ht:=fun _=>?_) (hf:=fun _=>?_)<;>try first|contradiction|omega)|refine X6 ?_|refine A1Q ?_|refine A0o ?_|refine A6W ?_|refine A7J ?_|refine V4 ?_|refine A9o ?_|refine L9 ?_|(refine Y5 (fun _=>?_) (h1:=fun _=>?_)<;>try first|contradiction|omega))
 all_goals exact⟨J2,[],⟨by simp,rfl⟩,hm⟩
end Go.Proofs
