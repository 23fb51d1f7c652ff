/- Own work: the law ServeAll. -/
import Derived.Test.YtfgmppgjopchoaaGreatDoorSy27
set_option maxHeartbeats 64000000
namespace Go.Proofs
open Go.Proofs.Tryz
open Go.Sp
open Go.Fw
theorem C6j (qs:List Sp.Qn) (n:Int) {la:Option Addr}{lc:Nat}{ys:List Value} (I:P6) (hr:RowI I 38 6 (.slice la qs.length lc) qs.length ys) (hat:A0T I qs ys) (hq:∀q∈qs,q.text.length<=1099511627776) (hlen:qs.length<=1099511627776) (hC:Conv I) (hT:A55 I):
  CalM prog 5 #[.slice la qs.length lc,.int .i64 n] I [] (fun v _ H'=>v=.bool true/\H'= []):=by
 refine CalM.of fun w E hm=>enter (N:=88) func5 rfl [(0,.slice la qs.length lc),(1,.int .i64 n)] A0R rfl ?_
 have hAl:=C03 I hC hT;have hP:=fun (J:P6) (m:Le I J)=>B1N (hr.le m) (hat.le m) hq (hC.le m) (hT.le m) hlen
 by_cases h40:40<qs.length
 ·rw[if_pos h40]at hP
  repeat' (first|refine F6 (d:=10) ?_ hm (hp:=pm0) (hc:=hAl);clear hm;rintro _ I1 _ _ ⟨rfl,rfl⟩ hleI1 hm;try simp only[F8]at hm|refine F6 (d:=14) ?_ hm (hp:=pm0) (hc:=hP I1 hleI1);clear hm;rintro _ I2 _ _ ⟨rfl,pa,pc,ps,rfl,hpr,hps⟩ hleI2 hm;try simp only[F8]at hm|refine D8 ?_|refine D6 ?_|refine O1 ?_|refine A0v ?_|refine O0 ?_|refine A0t ?_|refine G7 ?_|refine Y3 ?_|refine U6 ?_|refine D9 ?_|refine A7 ?_|refine G8 ?_|refine E5 ?_|refine A8 ?_|refine G5 ?_|refine H8 ?_|refine J9 ?_|refine H5 ?_|refine F7 ?_)
  all_goals exact⟨I2,[],⟨by rw[decide_eq_true (by omega)],rfl⟩,hm.left (H:= [])⟩
 rw[if_neg h40]at hP;have hrl:=A8c A15 qs;have hfw:=C0M C32 qs;have hid:=fun (k:Nat) (q:Sp.Qn) (r:Sp.Rpl) (h1:qs[k]?=some q) (h2:(Sp.rpQ A15 qs)[k]?=some r)=>C7O h1 h2
 have htk:=C4p A15 qs;generalize hrs:Sp.rpQ A15 qs=rs at hP hrl hfw hid htk;repeat' (first|refine F6 (d:=10) ?_ hm (hp:=pm0) (hc:=hAl);clear hm;rintro _ I1 _ _ ⟨rfl,rfl⟩ hleI1 hm;try simp only[F8]at hm|refine F6 (d:=14) ?_ hm (hp:=pm0) (hc:=hP I1 hleI1);clear hm;rintro _ I2 _ _ ⟨rfl,pa,pc,ps,rfl,hpr,hps⟩ hleI2 hm;try simp only[F8]at hm|refine D8 ?_|refine D6 ?_|refine A0t ?_|refine G7 ?_|refine Y3 ?_|refine U6 ?_|refine D9 ?_|refine A7 ?_|refine E5 ?_|refine A8 ?_|refine F5 ?_|refine G5 ?_|refine F7 ?_|(refine D5 (ht:=fun _=>?_) (hf:=fun _=>?_)<;>try first|contradiction|omega))
 have hr2:=(hr.le hleI1).le hleI2;have ha2:=(hat.le hleI1).le hleI2;refine U1 (fun k:Nat=> [(0,.slice la qs.length lc),(1,.int .i64 n),(5,.slice pa rs.length pc),(33,nt rs.length),(34,nt k)])
  (fun k w'=>Mem E I2 [] w'/\k<=rs.length) (fun k=>rs.length-k) 0
  (by exact⟨rfl,rfl,rfl,rfl,rfl,trivial⟩) ⟨hm,H7 _⟩ ?_
 clear hm;rintro k w1 ⟨hm,hk⟩;try dsimp only at hm hk |-
 by_cases hlt:k<rs.length
 ·have hg:rs[k]?=some rs[k]:=G6 hlt
  have hlq:k<qs.length:=by omega
  have hgq:qs[k]?=some qs[k]:=G6 hlq;have heq:=hid k _ _ hgq hg;obtain⟨da,dp,ea,ep,hc1,_,_⟩:=hps.get hg;obtain⟨aa,ac,hc2,_⟩:=ha2.get hgq;generalize rs[k]=r at hg heq hc1;generalize qs[k]=q at hgq heq hc2;repeat' (first|refine A4U (d:=39) ?_ (hr:=hpr);intro bt ot hpt;rw[show ((k:Int).toNat *11)=k *11 from rfl,hc1]at hpt|refine A4U (d:=44) ?_ (hr:=hr2);intro bu ou hpu;rw[show ((k:Int).toNat *6)=k *6 from rfl,hc2]at hpu|refine A0o ?_ hm|refine D8 ?_|refine D6 ?_|refine J6 ?_|refine P5 ?_|refine D9 ?_|refine A7 ?_|refine D7 ?_|refine E5 ?_|refine A8 ?_|refine F5 ?_|refine G5 ?_|refine U4 ?_|refine A0h ?_;intro _ hkq;replace hm:=hm.kept0 hkq;clear hkq|(refine D5 (ht:=fun _=>?_) (hf:=fun _=>?_)<;>try first|contradiction|omega)|refine X7 ?_|refine B44 ?_|refine L9 ?_)
  all_goals exact L8 (k+1:Nat) (by exact⟨rfl,rfl,rfl,rfl,rfl,trivial⟩) ⟨hm,by omega⟩ (by omega)
 obtain rfl:k=rs.length:=by omega
 by_cases hn:n<0\/(qs.length:Int)<n
 ·skip
  repeat' (first|refine D8 ?_|refine D6 ?_|refine O1 ?_|refine J8 ?_|refine J6 ?_|refine A0v ?_|refine G7 ?_|refine A0D ?_|(refine N9 (h1:=fun _=>?_) (h0:=fun _=>?_)<;>try first|contradiction|omega)|refine D9 ?_|refine A7 ?_|refine G8 ?_|refine H9 ?_|refine G9 ?_|refine E5 ?_|refine A8 ?_|refine P9 ?_|refine H8 ?_|refine J9 ?_|refine H5 ?_|(refine D5 (ht:=fun _=>?_) (hf:=fun _=>?_)<;>try first|contradiction|omega))
  all_goals exact⟨I2,[],⟨rfl,rfl⟩,hm⟩
 obtain⟨m,rfl⟩:∃m:Nat,n=m:=⟨n.toNat,by omega⟩;have hml:m<=qs.length:=by omega
 have hmt:(qs.take m).length=m:=by rw[P8];omega
 have hP2:∀(hr3:RowI I2 38 6 (.slice la m lc) m (ys.take (m *6))),CalM prog 13 #[.slice la m lc] I2 [] (B8B (rs.take m) 0):=fun hr3=>by
  have:=B1N (qs:=qs.take m) (la:=la) (lc:=lc) (ys:=ys.take (m *6)) (by rw[hmt];exact hr3) (A0T.take m ha2) (fun q hq'=>hq q (A6w hq')) ((hC.le hleI1).le hleI2) ((hT.le hleI1).le hleI2) (by omega);rw[if_neg (by omega),hmt, <-htk m]at this;exact this
 have hlm:(rs.take m).length=m:=by rw[P8];omega
 repeat' (first|refine A9q (d:=60) ?_ hr2;intro hr3|refine F6 (d:=61) ?_ hm (hp:=pm0) (hc:=hP2 hr3);clear hm;rintro _ I3 _ _ ⟨rfl,qa,qc,qx,rfl,hqr,hqx⟩ hleI3 hm;try simp only[F8]at hm|refine D8 ?_|refine D6 ?_|refine J8 ?_|refine J6 ?_|refine A0v ?_|refine G7 ?_|refine U6 ?_|refine D9 ?_|refine A7 ?_|refine H9 ?_|refine G9 ?_|refine E5 ?_|refine A8 ?_|refine F5 ?_|refine G5 ?_|refine P9 ?_|(refine D5 (ht:=fun _=>?_) (hf:=fun _=>?_)<;>try first|contradiction|omega))
 have hpr3:=hpr.le hleI3;refine U1 (fun k:Nat=> [(1,nt m),(5,.slice pa rs.length pc),(6,nt 0),(8,.slice qa (rs.take m).length qc),(65,nt (rs.take m).length),(66,nt k)])
  (fun k w'=>(∃J,Le I3 J/\Mem E J [] w')/\k<=m) (fun k=>m-k) 0
  (by exact⟨rfl,rfl,rfl,rfl,rfl,rfl,trivial⟩) ⟨⟨I3,Le.refl _,hm⟩,H7 _⟩ ?_
 clear hm;rintro k w1 ⟨⟨J,hleJ,hm⟩,hk⟩;try dsimp only at hm hk |-
 by_cases hlt:k<m
 ·have hg:rs[k]?=some rs[k]:=G6 (by omega)
  have hg2:(rs.take m)[k]?=some rs[k]:=by rw[A1t,if_pos hlt];exact hg
  have hfe:=hfw _ (O5 (by omega:k<rs.length));have h1:=(A5e.le hleI3 hps).get hg;have h2:=hqx.get hg2;have hS:=C7V (h1.le hleJ) (h2.le hleJ) hfe.1 hfe.2;have hprJ:=hpr3.le hleJ;have hqrJ:=hqr.le hleJ;have hl1:=h1.len;have hl2:=h2.len;repeat' (first|refine A1m (id:=20) (hm.perm pm0) [0,1,2,3,4,5,6,7] 9 (h:=?_);clear hm;intro wd hR hm|refine A04 (d:=71) ?_ (hr:=hprJ);intro bt ot hpt;rw[show ((k:Int).toNat *11)=k *11 from rfl]at hpt|refine A04 (d:=75) ?_ (hr:=hqrJ);intro bu ou hpu;rw[show ((k:Int).toNat *11)=k *11 from rfl]at hpu|refine A1U (d:=72) ?_ hR (hp:=hpt) (hc:=hl1)|refine A1U (d:=76) ?_ hR (hp:=hpu) (hc:=hl2)|refine A5G (d:=77) hm (by rfl) (by rfl) (by rfl) pm0 hS ?_;clear hm;rintro _ J2 _ _ ⟨rfl,rfl⟩ hleJ2 hm;try simp only[F8]at hm|refine A1B (i:=8) ?_ (by decide+kernel)|refine A46 (by decide+kernel) ?_;replace hm:=hR.back hm;clear hR;try simp only[F8]at hm|refine A9J ?_|refine D8 ?_|refine D6 ?_|refine J6 ?_|refine Y3 ?_|refine P5 ?_|refine D9 ?_|refine A7 ?_|refine D7 ?_|refine E5 ?_|refine A8 ?_|refine F5 ?_|refine G5 ?_|refine F7 ?_|(refine D5 (ht:=fun _=>?_) (hf:=fun _=>?_)<;>try first|contradiction|omega)|refine Z5 ?_)
  all_goals exact L8 (k+1:Nat) (by exact⟨rfl,rfl,rfl,rfl,rfl,rfl,trivial⟩) ⟨⟨J2,hleJ.trans hleJ2,hm⟩,by omega⟩ (by omega)
 ·obtain rfl:k=m:=by omega
  repeat' (first|refine D8 ?_|refine D6 ?_|refine O1 ?_|refine J6 ?_|refine O0 ?_|refine G7 ?_|refine D9 ?_|refine A7 ?_|refine H9 ?_|refine G9 ?_|refine E5 ?_|refine A8 ?_|refine P9 ?_|refine H8 ?_|refine J9 ?_|(refine D5 (ht:=fun _=>?_) (hf:=fun _=>?_)<;>try first|contradiction|omega))
  all_goals exact⟨J,[],⟨by rw[decide_eq_true (by omega)],rfl⟩,hm⟩
end Go.Proofs
