/- Own work: the law TopLoop. -/
import Derived.Test.YtfgmppgjopchoaaGreatDoorSw27
set_option maxHeartbeats 64000000
namespace Go.Sp
def B3G:List UInt8:= [99,104,97,110,32,111,117,116,58,32,123,125,59,10,102,110,32,115,117,109,40,110,58,32,123,125,41,58,32,123,125,32,115,101,110,100,115,32,111,117,116,32,123,10,32,32,108,101,116,32,105,32,61,32,48,59,10,32,32,108,101,116,32,115,32,61,32,48,59,10,32,32,119,104,105,108,101,32,105,32,60,32,110,32,123,10,32,32,32,32,115,32,61,32,115,32,43,32,105,59,10,32,32,32,32,115,101,110,100,32,111,117,116,32,115,59,10,32,32,32,32,105,32,61,32,105,32,43,32,49,59,10,32,32,125,10,32,32,114,101,116,117,114,110,32,115,59,10,125]
def tri (k:Nat):Nat:=k *(k-1) / 2
theorem C44 (k:Nat):tri (k+1)=tri k+k:=by
 rw[tri,tri,Nat.add_sub_cancel];cases k with
 |zero=>rfl
 |succ k=>
  rw[Nat.add_sub_cancel];have h:(k+1+1) *(k+1)=(k+1) *k+2 *(k+1):=by rw[show k+1+1=k+2 from rfl,A1D,Nat.mul_comm k]
  rw[h,Nat.mul_comm 2,Nat.add_mul_div_right _ _ (by decide)]
theorem B7L:Y4 B3G=0:=by decide+kernel
theorem C32:∀n:Nat,n<61->(A9Y (J7 B3G) [115,117,109] [(n:Int)]).err=0/\(A9Y (J7 B3G) [115,117,109] [(n:Int)]).n=tri n/\(A9Y (J7 B3G) [115,117,109] [(n:Int)]).ev.map (·.n)=(List.range n).map (fun i=>(tri (i+1):Int)):=by decide+kernel
end Go.Sp
namespace Go.Proofs
open Go.Proofs.Tryz
open Go.Sp
open Go.Fw
theorem C8m {k:Nat} (h:k<=60):Sp.tri k<=1770:=by
 have:k *(k-1)<=60 *59:=Nat.mul_le_mul h (by omega);rw[Sp.tri];omega
theorem sp_tloop (n:Int) (I:P7) (hC:Conv I) (hT:A5O I):
  CalM prog 3 #[.int .i64 n] I [] (fun v _ H'=>v=.bool true/\H'= []):=by
 refine CalM.of fun w E hm=>enter (N:=58) func3 rfl [(0,.int .i64 n)] A0G rfl ?_
 have hAl:=B6z I hC hT;by_cases hn:n<0\/60<n
 ·skip
  repeat' (first|refine F6 (d:=8) ?_ hm (hp:=pm0) (hc:=hAl);clear hm;rintro _ I1 _ _ ⟨rfl,rfl⟩ hleI1 hm;try simp only[F8]at hm|refine D8 ?_|refine D6 ?_|refine O1 ?_|refine J8 ?_|refine J6 ?_|refine A0u ?_|refine Y2 ?_|refine A0E ?_|(refine N8 (h1:=fun _=>?_) (h0:=fun _=>?_)<;>try first|contradiction|omega)|refine D9 ?_|refine A7 ?_|refine G8 ?_|refine E5 ?_|refine A8 ?_|refine G5 ?_|refine H9 ?_|refine J9 ?_|refine H5 ?_|refine F7 ?_|(refine D5 (ht:=fun _=>?_) (hf:=fun _=>?_)<;>try first|contradiction|omega))
  all_goals exact⟨I1,[],⟨rfl,rfl⟩,hm.left (H:= [])⟩
 obtain⟨m,rfl⟩:∃m:Nat,n=m:=⟨n.toNat,by omega⟩;have hm60:m<=60:=by omega
 have hF:=fun (J:P7) (m:Le I J)=>B9N B3G J (hC.le m) (by decide+kernel)
 rw[B7L]at hF;have hA:=A9B B7L;have hok:=fun h=>B90 (s:=B3G) h
 have hran:=C32 m (by omega);generalize J7 B3G=its at hF hA hok hran;have h30:=hA.few;have hR:=fun (J:P7) (a cp xs) (h:FE J its a cp xs) (aa:Option Addr) (ac:Nat) (hr:RowI J 3 1 (.slice aa 1 ac) 1 (B5Q [(m:Int)]))=>C4E [115,117,109] [(m:Int)] J h hA hok aa ac hr
 unfold C2O B9Y at hR
 generalize A9Y its [115,117,109] [(m:Int)]=r at hR hran;obtain⟨e1,e2,e3⟩:=hran;have hel:r.ev.length=m:=by
  have:=congrArg List.length e3;simpa using this
 have hev:∀(k:Nat) (hk:k<m),∃e,r.ev[k]?=some e/\e.n=(Sp.tri (k+1):Int):=fun k hk=>by
  have hg:r.ev[k]?=some r.ev[k]:=G6 (by omega);refine⟨_,hg,?_⟩
  have h1:=congrArg (fun l=>l[k]?) e3;simp only[A0e,hg,List.getElem?_range hk,A1T,U4]at h1;exact h1
 rw[e1,e2]at hR;generalize r.ev=ev at hR hel hev;repeat' (first|refine F6 (d:=8) ?_ hm (hp:=pm0) (hc:=hAl);clear hm;rintro _ I1 _ _ ⟨rfl,rfl⟩ hleI1 hm;try simp only[F8]at hm|refine F6 (d:=17) ?_ hm (hp:=pm0) (hc:=hF I1 hleI1);clear hm;rintro _ I2 _ _ ⟨a,cp,xs,rfl,hrow,hits,rfl⟩ hleI2 hm;try simp only[F8]at hm;have hfe:=B3n hrow hits h30|refine A1n (d:=22) ?_ hm;clear hm;intro b7 _ hm;obtain⟨I3,hle3,hm3,hr7⟩:=hm.freeze;clear hm;have hm:=hm3;clear hm3|refine F6 (d:=23) ?_ hm (hp:=pm0) (hc:=hR I3 _ _ _ (hfe.le hle3) _ _ hr7);clear hm;rintro _ I4 _ _ ⟨rfl,ea,ep,rfl,hre⟩ hleI4 hm;try simp only[F8]at hm|refine A0K 9 ?_|refine Y1 (d:=3) ?_ hm;clear hm;intro b3 _ hm|refine Y1 (d:=5) ?_ hm;clear hm;intro b5 _ hm|refine J4 ?_ hm|refine X5 ?_ hm|refine D8 ?_|refine D6 ?_|refine J8 ?_|refine J6 ?_|refine A0u ?_|refine A0n ?_|refine G7 ?_|refine Y2 ?_|refine U5 ?_|refine C9 ?_|refine D9 ?_|refine A7 ?_|refine E5 ?_|refine A8 ?_|refine G5 ?_|refine F7 ?_|(refine D5 (ht:=fun _=>?_) (hf:=fun _=>?_)<;>try first|contradiction|omega))
 obtain⟨I5,hle5,hm5,hpr⟩:=hm.freezeO;clear hm;have hm:=hm5;clear hm5;have hre5:=hre.le hle5;refine⟨?_⟩
 repeat' (first|refine D8 ?_|refine D6 ?_|refine D9 ?_|refine A7 ?_|refine E5 ?_|refine A8 ?_|refine F5 ?_)
 refine U0 (fun k:Nat=> [(5,ptr b5),(6,nt (Sp.tri k)),(38,nt m),(39,nt k)])
  (fun k w'=>(∃H,Mem E I5 H w')/\k<=m) (fun k=>m-k) 0
  (by exact⟨rfl,rfl,rfl,rfl,trivial⟩) ⟨⟨_,hm⟩,H7 _⟩ ?_
 clear hm;rintro k w1 ⟨⟨H,hm⟩,hk⟩;try dsimp only at hm hk |-
 have hm:=Mem.right (H:=H) (R:= []) (by rw[J3];exact hm);by_cases hlt:k<m
 ·obtain⟨e,hg,he⟩:=hev k hlt
  have ht:=C44 k;have hb:=C8m (k:=k) (by omega);repeat' (first|refine Q8 (d:=48) (enc:=A7v) (z:=e) ?_ (hr:=hre5) (he:=fun _=>rfl) (hz:=by exact hg);intro bz oz hpz|refine J5 ?_ hm|refine D8 ?_|refine D6 ?_|refine J6 ?_|refine A0n ?_|refine P5 ?_|refine C9 ?_|refine D9 ?_|refine A7 ?_|refine D7 ?_|refine E5 ?_|refine A8 ?_|refine F5 ?_|refine G5 ?_|(refine D5 (ht:=fun _=>?_) (hf:=fun _=>?_)<;>try first|contradiction|omega))
  all_goals exact L8 (k+1:Nat) (by exact⟨rfl,by rw[ht];rfl,rfl,rfl,trivial⟩) ⟨⟨_,hm⟩,by omega⟩ (by omega)
 ·obtain rfl:k=m:=by omega
  repeat' (first|refine J5 ?_ hm|refine D8 ?_|refine D6 ?_|refine J6 ?_|refine O0 ?_|refine C9 ?_|refine D9 ?_|refine A7 ?_|refine H8 ?_|refine G9 ?_|refine E5 ?_|refine A8 ?_|refine P8 ?_|refine H9 ?_|refine J9 ?_|(refine D5 (ht:=fun _=>?_) (hf:=fun _=>?_)<;>try first|contradiction|omega))
  exact⟨I5,[],⟨by simp,rfl⟩,hm⟩
end Go.Proofs
