/- Own work: the law TopDeep. -/
import Derived.Test.YtfgmppgjopchoaaGreatDoorSw27
set_option maxHeartbeats 64000000
namespace Go.Sp
def B4H:List UInt8:= [102,110,32,102,40,110,58,32,123,125,41,58,32,123,125,32,123,32,105,102,32,110,32,123,32,114,101,116,117,114,110,32,49,32,43,32,102,40,110,32,45,32,49,41,59,32,125,32,125]
theorem B7i:Y4 B4H=0:=by decide+kernel
theorem C3i:∀n:Nat,n<61->(A9Y (J7 B4H) [102] [(n:Int)]).err=(if 40<=n then 12 else 0)/\(A9Y (J7 B4H) [102] [(n:Int)]).n=(if 40<=n then 0 else (n:Int)):=by decide+kernel
end Go.Sp
namespace Go.Proofs
open Go.Proofs.Tryz
open Go.Sp
open Go.Fw
theorem sp_tdeep (n:Int) (I:P7) (hC:Conv I) (hT:A5O I):
  CalM prog 8 #[.int .i64 n] I [] (fun v _ H'=>v=.bool true/\H'= []):=by
 refine CalM.of fun w E hm=>enter (N:=49) func8 rfl [(0,.int .i64 n)] A0G rfl ?_
 have hAl:=B6z I hC hT;by_cases hn:n<0\/60<n
 ·skip
  repeat' (first|refine F6 (d:=6) ?_ hm (hp:=pm0) (hc:=hAl);clear hm;rintro _ I1 _ _ ⟨rfl,rfl⟩ hleI1 hm;try simp only[F8]at hm|refine D8 ?_|refine D6 ?_|refine O1 ?_|refine J8 ?_|refine J6 ?_|refine A0u ?_|refine Y2 ?_|refine A0E ?_|(refine N8 (h1:=fun _=>?_) (h0:=fun _=>?_)<;>try first|contradiction|omega)|refine D9 ?_|refine A7 ?_|refine G8 ?_|refine E5 ?_|refine A8 ?_|refine G5 ?_|refine H9 ?_|refine J9 ?_|refine H5 ?_|refine F7 ?_|(refine D5 (ht:=fun _=>?_) (hf:=fun _=>?_)<;>try first|contradiction|omega))
  all_goals exact⟨I1,[],⟨rfl,rfl⟩,hm.left (H:= [])⟩
 obtain⟨m,rfl⟩:∃m:Nat,n=m:=⟨n.toNat,by omega⟩;have hF:=fun (J:P7) (m:Le I J)=>B9N B4H J (hC.le m) (by decide)
 rw[B7i]at hF;have hA:=A9B B7i;have hok:=fun h=>B90 (s:=B4H) h
 have hran:=C3i m (by omega);generalize J7 B4H=its at hF hA hok hran;have h30:=hA.few;have hR:=fun (J:P7) (a cp xs) (h:FE J its a cp xs) (aa:Option Addr) (ac:Nat) (hr:RowI J 3 1 (.slice aa 1 ac) 1 (B5Q [(m:Int)]))=>C4E [102] [(m:Int)] J h hA hok aa ac hr
 unfold C2O B9Y at hR
 generalize A9Y its [102] [(m:Int)]=r at hR hran;obtain⟨e1,e2⟩:=hran;by_cases h40:40<=m
 ·rw[if_pos h40]at e1 e2
  rw[e1,e2]at hR;repeat' (first|refine F6 (d:=6) ?_ hm (hp:=pm0) (hc:=hAl);clear hm;rintro _ I1 _ _ ⟨rfl,rfl⟩ hleI1 hm;try simp only[F8]at hm|refine F6 (d:=15) ?_ hm (hp:=pm0) (hc:=hF I1 hleI1);clear hm;rintro _ I2 _ _ ⟨a,cp,xs,rfl,hrow,hits,rfl⟩ hleI2 hm;try simp only[F8]at hm;have hfe:=B3n hrow hits h30|refine A1n (d:=20) ?_ hm;clear hm;intro b7 _ hm;obtain⟨I3,hle3,hm3,hr7⟩:=hm.freeze;clear hm;have hm:=hm3;clear hm3|refine F6 (d:=21) ?_ hm (hp:=pm0) (hc:=hR I3 _ _ _ (hfe.le hle3) _ _ hr7);clear hm;rintro _ I4 _ _ ⟨rfl,ea,ep,rfl,hre⟩ hleI4 hm;try simp only[F8]at hm|refine Y1 (d:=3) ?_ hm;clear hm;intro b3 _ hm|refine Y1 (d:=5) ?_ hm;clear hm;intro b5 _ hm|refine J4 ?_ hm|refine X5 ?_ hm|refine D8 ?_|refine D6 ?_|refine O1 ?_|refine J8 ?_|refine J6 ?_|refine A0u ?_|refine A04 ?_|refine O0 ?_|refine Y2 ?_|refine U5 ?_|refine C9 ?_|refine D9 ?_|refine A7 ?_|refine G8 ?_|refine E5 ?_|refine A8 ?_|refine G5 ?_|refine H9 ?_|refine J9 ?_|refine F7 ?_|(refine D5 (ht:=fun _=>?_) (hf:=fun _=>?_)<;>try first|contradiction|omega))
  all_goals exact⟨I4,[],⟨rfl,rfl⟩,hm.left (H:= [])⟩
 ·rw[if_neg h40]at e1 e2
  rw[e1,e2]at hR;repeat' (first|refine F6 (d:=6) ?_ hm (hp:=pm0) (hc:=hAl);clear hm;rintro _ I1 _ _ ⟨rfl,rfl⟩ hleI1 hm;try simp only[F8]at hm|refine F6 (d:=15) ?_ hm (hp:=pm0) (hc:=hF I1 hleI1);clear hm;rintro _ I2 _ _ ⟨a,cp,xs,rfl,hrow,hits,rfl⟩ hleI2 hm;try simp only[F8]at hm;have hfe:=B3n hrow hits h30|refine A1n (d:=20) ?_ hm;clear hm;intro b7 _ hm;obtain⟨I3,hle3,hm3,hr7⟩:=hm.freeze;clear hm;have hm:=hm3;clear hm3|refine F6 (d:=21) ?_ hm (hp:=pm0) (hc:=hR I3 _ _ _ (hfe.le hle3) _ _ hr7);clear hm;rintro _ I4 _ _ ⟨rfl,ea,ep,rfl,hre⟩ hleI4 hm;try simp only[F8]at hm|refine Y1 (d:=3) ?_ hm;clear hm;intro b3 _ hm|refine Y1 (d:=5) ?_ hm;clear hm;intro b5 _ hm|refine J4 ?_ hm|refine X5 ?_ hm|refine D8 ?_|refine D6 ?_|refine O1 ?_|refine J8 ?_|refine J6 ?_|refine A0u ?_|refine A04 ?_|refine O0 ?_|refine Y2 ?_|refine U5 ?_|refine C9 ?_|refine D9 ?_|refine A7 ?_|refine E5 ?_|refine A8 ?_|refine G5 ?_|refine H9 ?_|refine J9 ?_|refine F7 ?_|(refine D5 (ht:=fun _=>?_) (hf:=fun _=>?_)<;>try first|contradiction|omega))
  all_goals exact⟨I4,[],⟨by simp,rfl⟩,hm.left (H:= [])⟩
end Go.Proofs
