/- Own work. -/
import Derived.Test.YtfgmppgjopchoaaGreatDoorSz26
set_option maxHeartbeats 64000000
namespace Go.Sp
def Rpl.few (r:Rpl):Prop:=r.dgs.length<=1000000000000/\r.ran.ev.length<=1000000000
end Go.Sp
namespace Go.Proofs
open Go.Proofs.Tryz
open Go.Sp
open Go.Fw
theorem C9l {s:Sp.Srv} (h:Sp.OkQ s) (q:Sp.Qn) (hql:q.text.length<=1099511627776) (I:O9) (hC:Conv I) (hT:A7c I) {a:Option Addr}{c:Nat}{xs:List Value} (hfe:FE I (J5 s.text) a c xs) (bs:Nat) {ba off:Nat}{aa:Option Addr}{ac:Nat} (hp:C25 I ba off q aa ac)
  (hra:RowI I 3 1 (.slice aa q.args.length ac) q.args.length (B9o q.args)):
  CalM prog 22 #[ptr bs,.pointer (some ⟨ba,off,none⟩)] I [B30 bs s a c] (C64 bs (A56 s q)):=by
 refine CalM.of fun w E hm=>enter (N:=121) func22 rfl [(0,ptr bs),(1,.pointer (some ⟨ba,off,none⟩))] A0Z rfl ?_
 rw[A56];by_cases hk:q.kind<1\/9<q.kind
 ·rw[if_pos hk]
  repeat' (first|refine U2 (d:=4) ?_ hm;clear hm;intro b4 _ hm|refine J6 ?_ hm|refine N8 ?_ hm;clear hm;intro _ hm;try simp only[F8]at hm|refine Y6 ?_ hm|refine D8 ?_|refine D6 ?_|refine P7 ?_|refine L6 ?_|refine J7 ?_|refine A0E ?_|refine E5 ?_|refine C9 ?_|refine P9 ?_|refine A0Q ?_|(refine O0 (h1:=fun _=>?_) (h0:=fun _=>?_)<;>try first|contradiction|omega)|refine D9 ?_|refine A7 ?_|refine G9 ?_|refine O3 ?_|refine E8 ?_|refine A8 ?_|refine F5 ?_|refine H9 ?_|refine H6 ?_|(refine D5 (ht:=fun _=>?_) (hf:=fun _=>?_)<;>try first|contradiction|omega))
  all_goals exact⟨I,_,⟨_,a,c,xs,rfl,A4X.plain I rfl rfl,rfl,hfe⟩,hm.tl⟩
 rw[if_neg hk];by_cases hk1:q.kind=1
 ·rw[if_pos hk1]
  have hS:=C4M h q.text (by omega) I hC hfe bs;repeat' (first|refine F6 (d:=35) ?_ hm (hp:=pm1_1) (hc:=hS);clear hm;rintro _ I3 _ _ ⟨_,a3,c3,xs3,rfl,⟨da,dp,ea,ep,rfl,hd3,he3⟩,rfl,hfe3⟩ hleI3 hm;try simp only[F8]at hm|refine U2 (d:=4) ?_ hm;clear hm;intro b4 _ hm|refine J6 ?_ hm|refine N8 ?_ hm;clear hm;intro _ hm;try simp only[F8]at hm|refine Y6 ?_ hm|refine D8 ?_|refine D6 ?_|refine L6 ?_|refine J7 ?_|refine A0E ?_|refine N9 ?_|refine E5 ?_|refine C9 ?_|(refine O0 (h1:=fun _=>?_) (h0:=fun _=>?_)<;>try first|contradiction|omega)|refine D9 ?_|refine A7 ?_|refine G9 ?_|refine O3 ?_|refine E8 ?_|refine A8 ?_|refine F5 ?_|refine H9 ?_|(refine D5 (ht:=fun _=>?_) (hf:=fun _=>?_)<;>try first|contradiction|omega))
  all_goals exact⟨I3,_,⟨_,a3,c3,xs3,rfl,⟨da,dp,ea,ep,rfl,hd3,he3⟩,rfl,hfe3⟩,hm.left (H:= [_])⟩
 rw[if_neg hk1];obtain⟨tx,op⟩:=s;cases op with
 |false=>
  rw[if_pos rfl];repeat' (first|refine U2 (d:=4) ?_ hm;clear hm;intro b4 _ hm|refine J4 ?_ hm|refine J6 ?_ hm|refine N8 ?_ hm;clear hm;intro _ hm;try simp only[F8]at hm|refine Y6 ?_ hm|refine D8 ?_|refine D6 ?_|refine L6 ?_|refine J7 ?_|refine A0E ?_|refine N9 ?_|refine Z5 ?_|refine E5 ?_|refine C9 ?_|refine P9 ?_|(refine O0 (h1:=fun _=>?_) (h0:=fun _=>?_)<;>try first|contradiction|omega)|refine D9 ?_|refine A7 ?_|refine G9 ?_|refine O3 ?_|refine E8 ?_|refine A8 ?_|refine F5 ?_|refine H9 ?_|refine H6 ?_|(refine D5 (ht:=fun _=>?_) (hf:=fun _=>?_)<;>try first|contradiction|omega))
  all_goals exact⟨I,_,⟨_,a,c,xs,rfl,A4X.plain I rfl rfl,rfl,hfe⟩,hm.tl⟩
 |true=>
 rw[if_neg (fun e=>by cases e)];by_cases h26:q.kind=2\/q.kind=6
 ·rw[if_pos h26]
  have hS:CalM prog 32 #[ptr bs,.pointer (some ⟨ba,off,none⟩)] I [B30 bs ⟨tx,true⟩ a c] (C2U bs (B5A ⟨tx,true⟩ q)):=by
   rcases h26 with h2|h6
   ·exact C8e h q h2 hql I hC hfe bs hp
   ·exact C8f h q h6 hql I hC hfe bs hp
  repeat' (first|refine F6 (d:=46) ?_ hm (hp:=pm1_1) (hc:=hS);clear hm;rintro _ I3 _ _ ⟨_,a3,c3,xs3,rfl,⟨da,dp,ea,ep,rfl,hd3,he3⟩,rfl,hfe3⟩ hleI3 hm;try simp only[F8]at hm|refine U2 (d:=4) ?_ hm;clear hm;intro b4 _ hm|refine Y7 (d:=5) ?_ hm;clear hm;intro b5 _ hm|refine J4 ?_ hm|refine J6 ?_ hm|refine Y5 ?_ hm|refine N8 ?_ hm;clear hm;intro _ hm;try simp only[F8]at hm|refine Y6 ?_ hm|refine D8 ?_|refine D6 ?_|refine L6 ?_|refine J7 ?_|refine A0E ?_|refine N9 ?_|refine Z5 ?_|refine V8 ?_|refine E5 ?_|refine C9 ?_|(refine O0 (h1:=fun _=>?_) (h0:=fun _=>?_)<;>try first|contradiction|omega)|refine D9 ?_|refine A7 ?_|refine G9 ?_|refine D7 ?_|refine E8 ?_|refine A8 ?_|refine F5 ?_|refine G5 ?_|refine H9 ?_|refine H6 ?_|refine F7 ?_|(refine D5 (ht:=fun _=>?_) (hf:=fun _=>?_)<;>try first|contradiction|omega))
  all_goals exact⟨I3,_,⟨_,a3,c3,xs3,rfl,⟨da,dp,ea,ep,rfl,hd3,he3⟩,rfl,hfe3⟩,hm.tl.hd⟩
 rw[if_neg h26];have hN:=C8d (s:=⟨tx,true⟩) q (fun e=>h26 (.inl e)) (fun e=>h26 (.inr e)) I (a:=a) (c:=c) bs hp;have h4:Y3 tx=0:=h.err;have hA:=B2L h4;have hin:=fun k it (hg:(J5 tx)[k]?=some it)=>B5I tx h4 hg
 have hfe:FE I (J5 tx) a c xs:=hfe;rw[C5B];by_cases k3:q.kind=3
 ·rw[if_pos k3]
  have hD:=fun (J:O9) (m:Le I J)=>B8c J (hfe.le m) hA
  repeat' (first|refine F6 (d:=46) ?_ hm (hp:=pm1_1) (hc:=hN);clear hm;rintro _ I3 _ _ ⟨rfl,rfl⟩ hleI3 hm;try simp only[F8]at hm;have hp3:=PtrI.le hp hleI3|refine B5T (d:=60) hm (by rfl) (by rfl) (by rfl) (by first|exact gt0|exact gt1|exact gt2|exact gt3|exact gt4|exact gt5|exact gt6) (by rfl) (by rfl) ?_|refine F6 (d:=61) ?_ hm (hp:=pm0) (hc:=hD I3 hleI3);clear hm;rintro _ I4 _ _ ⟨rfl,da,dp,rfl,hrd⟩ hleI4 hm;try simp only[F8]at hm|refine U2 (d:=4) ?_ hm;clear hm;intro b4 _ hm|refine Y7 (d:=5) ?_ hm;clear hm;intro b5 _ hm|refine J4 ?_ hm|refine J6 ?_ hm|refine N8 ?_ hm;clear hm;intro _ hm;try simp only[F8]at hm|refine Y6 ?_ hm|refine D8 ?_|refine D6 ?_|refine L6 ?_|refine J7 ?_|refine A0E ?_|refine N9 ?_|refine Z5 ?_|refine V8 ?_|refine E5 ?_|refine C9 ?_|refine P9 ?_|(refine O0 (h1:=fun _=>?_) (h0:=fun _=>?_)<;>try first|contradiction|omega)|refine D9 ?_|refine A7 ?_|refine G9 ?_|refine D7 ?_|refine O3 ?_|refine E8 ?_|refine A8 ?_|refine F5 ?_|refine G5 ?_|refine H9 ?_|refine F7 ?_|(refine D5 (ht:=fun _=>?_) (hf:=fun _=>?_)<;>try first|contradiction|omega))
  all_goals exact⟨I4,_,⟨_,a,c,xs,rfl,⟨da,dp,none,0,rfl,hrd,A0X _ _ _ _ _⟩,rfl,hfe.le (hleI3.trans hleI4)⟩,hm.tl.hd⟩
 rw[if_neg k3];by_cases k4:q.kind=4
 ·rw[if_pos k4]
  have hH:=fun (J:O9) (m:Le I J)=>C9n hA hin q.fr J (hfe.le m) bs true
  repeat' (first|refine F6 (d:=46) ?_ hm (hp:=pm1_1) (hc:=hN);clear hm;rintro _ I3 _ _ ⟨rfl,rfl⟩ hleI3 hm;try simp only[F8]at hm;have hp3:=PtrI.le hp hleI3|refine F6 (d:=70) ?_ hm (hp:=pm1_1) (hc:=hH I3 hleI3);clear hm;rintro _ I4 _ _ ⟨_,rfl,⟨da,dp,ea,ep,rfl,hd3,he3⟩,rfl⟩ hleI4 hm;try simp only[F8]at hm|refine U2 (d:=4) ?_ hm;clear hm;intro b4 _ hm|refine Y7 (d:=5) ?_ hm;clear hm;intro b5 _ hm|refine J4 ?_ hm|refine J6 ?_ hm|refine N8 ?_ hm;clear hm;intro _ hm;try simp only[F8]at hm|refine Y6 ?_ hm|refine D8 ?_|refine D6 ?_|refine L6 ?_|refine J7 ?_|refine A0E ?_|refine N9 ?_|refine Z5 ?_|refine V8 ?_|refine E5 ?_|refine C9 ?_|(refine O0 (h1:=fun _=>?_) (h0:=fun _=>?_)<;>try first|contradiction|omega)|refine D9 ?_|refine A7 ?_|refine G9 ?_|refine D7 ?_|refine O3 ?_|refine E8 ?_|refine A8 ?_|refine F5 ?_|refine G5 ?_|refine H9 ?_|refine F7 ?_|(refine D5 (ht:=fun _=>?_) (hf:=fun _=>?_)<;>try first|contradiction|omega))
  all_goals exact⟨I4,_,⟨_,a,c,xs,rfl,⟨da,dp,ea,ep,rfl,hd3,he3⟩,rfl,hfe.le (hleI3.trans hleI4)⟩,hm.left (H:= [_])⟩
 rw[if_neg k4];by_cases k5:q.kind=5
 ·rw[if_pos k5]
  have hD:=fun (J:O9) (m:Le I J)=>C4J q.fr J (hfe.le m) hA.len hA.nm (B14 hA.nm (hfe.few))
  cases hdf:B69 (J5 tx) q.fr with
  |none=>
   rw[hdf]at hD;repeat' (first|refine F6 (d:=46) ?_ hm (hp:=pm1_1) (hc:=hN);clear hm;rintro _ I3 _ _ ⟨rfl,rfl⟩ hleI3 hm;try simp only[F8]at hm;have hp3:=PtrI.le hp hleI3|refine A1p (id:=16) (hm.perm pm0) [0,1,2,3,4,5,6,7] 13 (h:=?_);clear hm;intro wd hR hm|refine A47 (d:=77) ?_ hR|refine A4t [9,10,11,12] (by decide+kernel) hm.kept ?_|refine A46 (d:=82) hm (by rfl) (by rfl) (by rfl) pm0 (hD I3 hleI3) ?_;clear hm;rintro _ I4 _ _ ⟨rfl,rfl⟩ hleI4 hm;simp only[C1A];try simp only[F8]at hm|refine A1A (i:=8) ?_ (by decide+kernel)|refine A6k ?_|refine A5e (by decide+kernel) ?_;replace hm:=hR.back hm;clear hR;try simp only[F8]at hm|refine Z9 ?_ hR|refine U2 (d:=4) ?_ hm;clear hm;intro b4 _ hm|refine Y7 (d:=5) ?_ hm;clear hm;intro b5 _ hm|refine J4 ?_ hm|refine J6 ?_ hm|refine N8 ?_ hm;clear hm;intro _ hm;try simp only[F8]at hm|refine Y6 ?_ hm|refine D8 ?_|refine D6 ?_|refine L6 ?_|refine J7 ?_|refine A0E ?_|refine N9 ?_|refine Z5 ?_|refine V8 ?_|refine E5 ?_|refine C9 ?_|refine P9 ?_|(refine O0 (h1:=fun _=>?_) (h0:=fun _=>?_)<;>try first|contradiction|omega)|refine D9 ?_|refine A7 ?_|refine G9 ?_|refine D7 ?_|refine O3 ?_|refine E8 ?_|refine A8 ?_|refine F5 ?_|refine G5 ?_|refine H9 ?_|refine F7 ?_|(refine D5 (ht:=fun _=>?_) (hf:=fun _=>?_)<;>try first|contradiction|omega)|refine Z7 ?_|refine A6Y ?_|refine A5I ?_|refine O6 ?_|refine J8 ?_)
   all_goals exact⟨I4,_,⟨_,a,c,xs,rfl,A4X.plain I4 rfl rfl,rfl,hfe.le (hleI3.trans hleI4)⟩,hm.tl.hd⟩
  |some df=>
   rw[hdf]at hD;repeat' (first|refine F6 (d:=46) ?_ hm (hp:=pm1_1) (hc:=hN);clear hm;rintro _ I3 _ _ ⟨rfl,rfl⟩ hleI3 hm;try simp only[F8]at hm;have hp3:=PtrI.le hp hleI3|refine A1p (id:=16) (hm.perm pm0) [0,1,2,3,4,5,6,7] 13 (h:=?_);clear hm;intro wd hR hm|refine A47 (d:=77) ?_ hR|refine A4t [9,10,11,12] (by decide+kernel) hm.kept ?_|refine A46 (d:=82) hm (by rfl) (by rfl) (by rfl) pm0 (hD I3 hleI3) ?_;clear hm;rintro _ I4 _ _ ⟨rfl,rfl⟩ hleI4 hm;simp only[C1A];try simp only[F8]at hm|refine A1A (i:=8) ?_ (by decide+kernel)|refine A6k ?_|refine A5e (by decide+kernel) ?_;replace hm:=hR.back hm;clear hR;try simp only[F8]at hm|refine Z9 ?_ hR|refine U2 (d:=4) ?_ hm;clear hm;intro b4 _ hm|refine Y7 (d:=5) ?_ hm;clear hm;intro b5 _ hm|refine J4 ?_ hm|refine J6 ?_ hm|refine N8 ?_ hm;clear hm;intro _ hm;try simp only[F8]at hm|refine Y6 ?_ hm|refine D8 ?_|refine D6 ?_|refine L6 ?_|refine J7 ?_|refine A0E ?_|refine N9 ?_|refine Z5 ?_|refine V8 ?_|refine E5 ?_|refine C9 ?_|refine P9 ?_|(refine O0 (h1:=fun _=>?_) (h0:=fun _=>?_)<;>try first|contradiction|omega)|refine D9 ?_|refine A7 ?_|refine G9 ?_|refine D7 ?_|refine O3 ?_|refine E8 ?_|refine A8 ?_|refine F5 ?_|refine G5 ?_|refine H9 ?_|refine H6 ?_|refine F7 ?_|(refine D5 (ht:=fun _=>?_) (hf:=fun _=>?_)<;>try first|contradiction|omega)|refine Z7 ?_|refine A6Y ?_|refine A5I ?_|refine O6 ?_|refine J8 ?_)
   all_goals exact⟨I4,_,⟨_,a,c,xs,rfl,A4X.plain I4 rfl rfl,rfl,hfe.le (hleI3.trans hleI4)⟩,hm.tl.hd⟩
 rw[if_neg k5];by_cases k7:q.kind=7
 ·rw[if_pos k7]
  have hH:=fun (J:O9) (m:Le I J)=>C9o (src:=tx) rfl J (hT.le m) (hfe.le m) bs true
  repeat' (first|refine F6 (d:=46) ?_ hm (hp:=pm1_1) (hc:=hN);clear hm;rintro _ I3 _ _ ⟨rfl,rfl⟩ hleI3 hm;try simp only[F8]at hm;have hp3:=PtrI.le hp hleI3|refine F6 (d:=92) ?_ hm (hp:=pm1_1) (hc:=hH I3 hleI3);clear hm;rintro _ I4 _ _ ⟨_,rfl,⟨da,dp,ea,ep,rfl,hd3,he3⟩,rfl⟩ hleI4 hm;try simp only[F8]at hm|refine U2 (d:=4) ?_ hm;clear hm;intro b4 _ hm|refine Y7 (d:=5) ?_ hm;clear hm;intro b5 _ hm|refine J4 ?_ hm|refine J6 ?_ hm|refine N8 ?_ hm;clear hm;intro _ hm;try simp only[F8]at hm|refine Y6 ?_ hm|refine D8 ?_|refine D6 ?_|refine L6 ?_|refine J7 ?_|refine A0E ?_|refine N9 ?_|refine Z5 ?_|refine V8 ?_|refine E5 ?_|refine C9 ?_|(refine O0 (h1:=fun _=>?_) (h0:=fun _=>?_)<;>try first|contradiction|omega)|refine D9 ?_|refine A7 ?_|refine G9 ?_|refine D7 ?_|refine O3 ?_|refine E8 ?_|refine A8 ?_|refine F5 ?_|refine G5 ?_|refine H9 ?_|refine F7 ?_|(refine D5 (ht:=fun _=>?_) (hf:=fun _=>?_)<;>try first|contradiction|omega))
  all_goals exact⟨I4,_,⟨_,a,c,xs,rfl,⟨da,dp,ea,ep,rfl,hd3,he3⟩,rfl,hfe.le (hleI3.trans hleI4)⟩,hm.left (H:= [_])⟩
 rw[if_neg k7];by_cases k8:q.kind=8
 ·rw[if_pos k8,C9k]
  have hR8:=fun (J:O9) (m:Le I J)=>C9i q.text q.args J (hfe.le m) hA (fun h=>C8c (s:=tx) h) aa ac (hra.le m)
  generalize B94 (J5 tx) q.text q.args=r at hR8 |-;by_cases he:r.err≠0
  ·rw[if_pos he]
   repeat' (first|refine F6 (d:=46) ?_ hm (hp:=pm1_1) (hc:=hN);clear hm;rintro _ I3 _ _ ⟨rfl,rfl⟩ hleI3 hm;try simp only[F8]at hm;have hp3:=PtrI.le hp hleI3|refine A1p (id:=23) (hm.perm pm0) [0,1,2,3,4,5,6,7,8,9,10,11] 14 (h:=?_);clear hm;intro wd hR hm|refine A47 (d:=98) ?_ hR|refine A46 (d:=107) hm (by rfl) (by rfl) (by rfl) pm0 (hR8 I3 hleI3) ?_;clear hm;rintro _ I4 _ _ ⟨rfl,ea,ep,rfl,hre⟩ hleI4 hm;try simp only[F8]at hm|refine A8D (i:=12) (j:=13) ?_ (by decide+kernel) (h:=?_)|refine A1A (i:=12) ?_ (by decide+kernel)|refine A1A (i:=13) ?_ (by decide+kernel)|refine A5e (by decide+kernel) ?_;replace hm:=hR.back hm;clear hR;try simp only[F8]at hm|refine Z9 ?_ hR|refine B1P (d:=9) ?_ hm;clear hm;intro b9 _ hm|refine B1q ?_|refine U2 (d:=4) ?_ hm;clear hm;intro b4 _ hm|refine Y7 (d:=5) ?_ hm;clear hm;intro b5 _ hm|refine J4 ?_ hm|refine J6 ?_ hm|refine N8 ?_ hm;clear hm;intro _ hm;try simp only[F8]at hm|refine Y6 ?_ hm|refine D8 ?_|refine D6 ?_|refine L6 ?_|refine J7 ?_|refine A0E ?_|refine N9 ?_|refine A0y ?_|refine Z5 ?_|refine V8 ?_|refine E5 ?_|refine C9 ?_|refine P9 ?_|(refine O0 (h1:=fun _=>?_) (h0:=fun _=>?_)<;>try first|contradiction|omega)|refine D9 ?_|refine A7 ?_|refine G9 ?_|refine D7 ?_|refine O3 ?_|refine E8 ?_|refine A8 ?_|refine F5 ?_|refine G5 ?_|refine H9 ?_|refine F7 ?_|(refine D5 (ht:=fun _=>?_) (hf:=fun _=>?_)<;>try first|contradiction|omega)|refine Z7 ?_|refine O6 ?_|refine J8 ?_)
   all_goals exact⟨I4,_,⟨_,a,c,xs,rfl,A4X.plain I4 rfl rfl,rfl,hfe.le (hleI3.trans hleI4)⟩,hm.tl.tl.hd⟩
  ·rw[if_neg he]
   have he0:r.err=0:=by omega
   repeat' (first|refine F6 (d:=46) ?_ hm (hp:=pm1_1) (hc:=hN);clear hm;rintro _ I3 _ _ ⟨rfl,rfl⟩ hleI3 hm;try simp only[F8]at hm;have hp3:=PtrI.le hp hleI3|refine A1p (id:=23) (hm.perm pm0) [0,1,2,3,4,5,6,7,8,9,10,11] 14 (h:=?_);clear hm;intro wd hR hm|refine A47 (d:=98) ?_ hR|refine A46 (d:=107) hm (by rfl) (by rfl) (by rfl) pm0 (hR8 I3 hleI3) ?_;clear hm;rintro _ I4 _ _ ⟨rfl,ea,ep,rfl,hre⟩ hleI4 hm;try simp only[F8]at hm|refine A8D (i:=12) (j:=13) ?_ (by decide+kernel) (h:=?_)|refine A1A (i:=12) ?_ (by decide+kernel)|refine A1A (i:=13) ?_ (by decide+kernel)|refine A5e (by decide+kernel) ?_;replace hm:=hR.back hm;clear hR;try simp only[F8]at hm|refine Z9 ?_ hR|refine B1P (d:=9) ?_ hm;clear hm;intro b9 _ hm|refine B1q ?_|refine U2 (d:=4) ?_ hm;clear hm;intro b4 _ hm|refine Y7 (d:=5) ?_ hm;clear hm;intro b5 _ hm|refine J4 ?_ hm|refine J6 ?_ hm|refine Y5 ?_ hm|refine N8 ?_ hm;clear hm;intro _ hm;try simp only[F8]at hm|refine Y6 ?_ hm|refine D8 ?_|refine D6 ?_|refine L6 ?_|refine J7 ?_|refine A0E ?_|refine N9 ?_|refine A0y ?_|refine Z5 ?_|refine V8 ?_|refine E5 ?_|refine C9 ?_|refine P9 ?_|(refine O0 (h1:=fun _=>?_) (h0:=fun _=>?_)<;>try first|contradiction|omega)|refine D9 ?_|refine A7 ?_|refine G9 ?_|refine D7 ?_|refine O3 ?_|refine E8 ?_|refine A8 ?_|refine F5 ?_|refine G5 ?_|refine H9 ?_|refine F7 ?_|(refine D5 (ht:=fun _=>?_) (hf:=fun _=>?_)<;>try first|contradiction|omega)|refine Z7 ?_|refine O6 ?_|refine J8 ?_)
   all_goals exact⟨I4,_,⟨_,a,c,xs,rfl,⟨none,0,ea,ep,rfl,A0X _ _ _ _ _,hre⟩,rfl,hfe.le (hleI3.trans hleI4)⟩,hm.tl.tl.hd⟩
 rw[if_neg k8];repeat' (first|refine F6 (d:=46) ?_ hm (hp:=pm1_1) (hc:=hN);clear hm;rintro _ I3 _ _ ⟨rfl,rfl⟩ hleI3 hm;try simp only[F8]at hm;have hp3:=PtrI.le hp hleI3|refine U2 (d:=4) ?_ hm;clear hm;intro b4 _ hm|refine Y7 (d:=5) ?_ hm;clear hm;intro b5 _ hm|refine J4 ?_ hm|refine J6 ?_ hm|refine N8 ?_ hm;clear hm;intro _ hm;try simp only[F8]at hm|refine Y6 ?_ hm|refine D8 ?_|refine D6 ?_|refine L6 ?_|refine J7 ?_|refine A0E ?_|refine N9 ?_|refine Z5 ?_|refine V8 ?_|refine E5 ?_|refine C9 ?_|refine P9 ?_|(refine O0 (h1:=fun _=>?_) (h0:=fun _=>?_)<;>try first|contradiction|omega)|refine D9 ?_|refine A7 ?_|refine D7 ?_|refine E8 ?_|refine A8 ?_|refine F5 ?_|refine G5 ?_|refine H9 ?_|refine F7 ?_|(refine D5 (ht:=fun _=>?_) (hf:=fun _=>?_)<;>try first|contradiction|omega))
 all_goals exact⟨I3,_,⟨_,a,c,xs,rfl,A4X.plain I3 rfl rfl,rfl,hfe.le hleI3⟩,hm.tl.hd⟩
def A4Y (I:O9):List Sp.Rpl->List Value->Prop
 | [],xs=>xs= []
 |r::rs,xs=> ∃c t,xs=c++t/\A4X I r c/\A4Y I rs t
theorem A4X.le {I I':O9}{r:Sp.Rpl}{c:List Value} (h:A4X I r c) (m:Le I I'):A4X I' r c:=by
 obtain⟨da,dp,ea,ep,h1,h2,h3⟩:=h;exact⟨da,dp,ea,ep,h1,h2.le m,h3.le m⟩
theorem A4X.len {I:O9}{r:Sp.Rpl}{c:List Value} (h:A4X I r c):c.length=11:=by
 obtain⟨da,dp,ea,ep,rfl,_⟩:=h;rfl
theorem A4Y.le {I I':O9} (m:Le I I'):∀ {rs:List Sp.Rpl}{xs:List Value},A4Y I rs xs->A4Y I' rs xs
 | [],_,h=>h
 |_::_,_,⟨c,r,e,h1,h2⟩=>⟨c,r,e,h1.le m,A4Y.le m h2⟩
theorem A4Y.snoc {I:O9}{q:Sp.Rpl}{c:List Value} (hq:A4X I q c):∀ {rs:List Sp.Rpl}{xs:List Value},A4Y I rs xs->A4Y I (rs++ [q]) (xs++c)
 | [],xs,h=>by
  obtain rfl:xs= []:=h;exact⟨c,[],by simp,hq,rfl⟩
 |_::_,_,⟨c',r,e,h1,h2⟩=>⟨c',r++c,by rw[e,O4],h1,A4Y.snoc hq h2⟩
theorem A4Y.get {I:O9}:∀ {rs:List Sp.Rpl}{xs:List Value}{i:Nat}{q:Sp.Rpl},A4Y I rs xs->rs[i]?=some q->A4X I q ((xs.drop (i *11)).take 11)
 | [],_,_,_,_,h=>by simp at h
 |q::qs,_,0,q',⟨c,r,e,h1,h2⟩,h=>by
  simp only[A0B,U7]at h;subst h;rw[e,A1n,A2o,A15 (by rw[h1.len];omega),A0u (by rw[h1.len];omega)];exact h1
 |q::qs,_,i+1,q',⟨c,r,e,h1,h2⟩,h=>by
  rw[A0A]at h;have:=A4Y.get h2 h;rw[e,A5A,List.drop_eq_nil_of_le (by rw[h1.len];omega),P6,h1.len,show (i+1) *11-11=i *11 by omega];exact this
def C2V (rs:List Sp.Rpl) (e:Nat):Value->O9->List HItem->Prop:=fun v I' H'=>H'= []/\∃a cp xs,v=.tuple #[.slice a rs.length cp,nt e]/\RowI I' 46 11 (.slice a rs.length cp) rs.length xs/\A4Y I' rs xs
structure PlX where
 k:Nat
 I:O9
 a:Option Addr
 cp:Nat
 xs:List Value
 fa:Option Addr
 fc:Nat
 fx:List Value
theorem C23 {I:O9}{aa:Option Addr}{ac:Nat}{l:List Int} (h:RowI I 3 1 (.slice aa l.length ac) l.length (l.flatMap C5L)):RowI I 3 1 (.slice aa l.length ac) l.length (B9o l):=by
 rw[B4O]at h;exact h
theorem B1X {I:O9}{qs:List Sp.Qn}{la:Option Addr}{lc:Nat}{ys:List Value} (hr:RowI I 38 6 (.slice la qs.length lc) qs.length ys) (hat:A0L I qs ys) (hq:∀q∈qs,q.text.length<=1099511627776) (hC:Conv I) (hT:A7c I) (hlen:qs.length<=1099511627776):
  CalM prog 13 #[.slice la qs.length lc] I [] (if 40<qs.length then C2V [] 5 else C2V (Sp.rpQ A1v qs) 0):=by
 refine CalM.of fun w E hm=>enter (N:=35) func13 rfl [(0,.slice la qs.length lc)] A0I rfl ?_
 by_cases h40:40<qs.length
 ·rw[if_pos h40]
  repeat' (first|refine D8 ?_|refine D6 ?_|refine A0E ?_|refine G7 ?_|refine D9 ?_|refine A7 ?_|refine G9 ?_|refine E8 ?_|refine A8 ?_|refine H9 ?_|refine A1Y ?_|(refine D5 (ht:=fun _=>?_) (hf:=fun _=>?_)<;>try first|contradiction|omega))
  exact⟨I,[],⟨rfl,none,0,[],rfl,A0X _ _ _ _ _,rfl⟩,hm⟩
 rw[if_neg h40];repeat' (first|refine A0W (d:=12) ?_ hm;clear hm;intro b12 _ hm|refine D8 ?_|refine D6 ?_|refine A0E ?_|refine G7 ?_|refine P9 ?_|refine D9 ?_|refine A7 ?_|refine E8 ?_|refine A8 ?_|refine F5 ?_|refine G5 ?_|(refine D5 (ht:=fun _=>?_) (hf:=fun _=>?_)<;>try first|contradiction|omega))
 have hm:=hm.nil 46 11;refine U3 (fun x:PlX=> [(0,.slice la qs.length lc),(4,ptr b12),(5,.slice x.a (Sp.rpQ A1v (qs.take x.k)).length x.cp),(14,nt qs.length),(15,nt x.k)])
  (fun x w'=>Mem E x.I [.row (.slice x.a (Sp.rpQ A1v (qs.take x.k)).length x.cp) 46 11 (Sp.rpQ A1v (qs.take x.k)).length x.xs,B30 b12 (Sp.stQ A1v (qs.take x.k)) x.fa x.fc] w'/\Le I x.I/\x.k<=qs.length/\A4Y x.I (Sp.rpQ A1v (qs.take x.k)) x.xs/\FE x.I (J5 (Sp.stQ A1v (qs.take x.k)).text) x.fa x.fc x.fx) (fun x=>qs.length-x.k) ⟨0,I,none,0,[],none,0,[]⟩
  (by exact⟨rfl,rfl,rfl,rfl,rfl,trivial⟩) ⟨hm,Le.refl _,H7 _,rfl,?_⟩ ?_
 ·exact⟨A0X _ _ _ _ _,rfl,by dsimp only;rw[A0a];decide+kernel⟩
 clear hm;rintro⟨k,I1,oa,op,xs,fa,fc,fx⟩ w1 ⟨hm,hle,hk,hrs,hfe⟩;dsimp only at hm hle hk hrs hfe |-;by_cases hlt:k<qs.length
 ·have hg:qs[k]?=some qs[k]:=G6 hlt
  have hqk:=hq _ (O5 hlt);have hs1:=C4G A1v hg;have hs2:=C4T A1v hg;have hok:=B31 (qs.take k) C0X;have hl1:(Sp.rpQ A1v (qs.take k)).length<=40:=by rw[A6g,P8];omega
  obtain⟨aa,ac,hci,hargs⟩:=(hat.le hle).get hg;have hr1:=hr.le hle;generalize qs[k]=q at hg hqk hs1 hs2 hci hargs;generalize Sp.stQ A1v (qs.take k)=st at hm hfe hs1 hs2 hok;generalize Sp.rpQ A1v (qs.take k)=rs at hm hrs hs1 hl1;have hA:=fun (bt ot:Nat) (hp:C25 I1 bt ot q aa ac)=>C9l hok q hqk I1 (hC.le hle) (hT.le hle) hfe b12 hp (C23 hargs)
  have hid:A9S st q= { (A56 st q).2 with id:=q.id}:=rfl;generalize A9S st q=rp at hs1 hid;generalize A56 st q=an at hA hs2 hid;obtain⟨st2,r⟩:=an;dsimp only at hA hs2 hid;repeat' (first|refine N7 (d:=21) ?_ (hr:=hr1);intro bt ot hpt;rw[show ((k:Int).toNat *6)=k *6 from rfl,hci]at hpt|refine N7 (d:=25) ?_ (hr:=hr1.le hleI2);intro bu ou hpu;rw[show ((k:Int).toNat *6)=k *6 from rfl,hci]at hpu|refine F6 (d:=22) ?_ hm (hp:=pm1_1) (hc:=hA bt ot hpt);clear hm;rintro _ I2 _ _ ⟨_,a3,c3,x3,rfl,⟨da,dp,ea,ep,rfl,hd3,he3⟩,rfl,hfe3⟩ hleI2 hm;try simp only[F8]at hm|refine Y7 (d:=7) ?_ hm;clear hm;intro b7 _ hm|refine A2d (d:=32) ?_ hm;clear hm;intro a32 cp32 _ _ hm;try simp only[F8]at hm|refine J6 ?_ hm|refine Y5 ?_ hm|refine O7 hm (k:=?_);clear hm;intro _ hm;try simp only[F8]at hm|refine D8 ?_|refine D6 ?_|refine J7 ?_|refine P5 ?_|refine C9 ?_|refine D9 ?_|refine A7 ?_|refine D7 ?_|refine E8 ?_|refine A8 ?_|refine F5 ?_|refine G5 ?_|(refine D5 (ht:=fun _=>?_) (hf:=fun _=>?_)<;>try first|contradiction|omega))
  have hrp:A4X I2 rp (rpV rp da dp ea ep):=by
   subst hid;exact⟨da,dp,ea,ep,rfl,hd3,he3⟩
  have hrs2:=A4Y.snoc hrp (A4Y.le hleI2 hrs);subst hid;refine L9 (⟨k+1,I2,a32,cp32,xs++rpV { r with id:=q.id} da dp ea ep,a3,c3,x3⟩:PlX) (by exact⟨rfl,rfl,by rw[hs1,E9];rfl,rfl,rfl,trivial⟩) ⟨?_,hle.trans hleI2,by dsimp only;omega,by dsimp only;rw[hs1];exact hrs2,by dsimp only;rw[hs2];exact hfe3⟩ (by dsimp only;omega)
  dsimp only
  rw[hs1,hs2,E9];exact hm.tl.swap
 ·obtain rfl:k=qs.length:=by omega
  rw[V6]at hm hrs hfe |-;repeat' (first|refine D8 ?_|refine D6 ?_|refine J7 ?_|refine D9 ?_|refine A7 ?_|refine H8 ?_|refine H5 ?_|refine E8 ?_|refine A8 ?_|refine Q3 ?_|refine H9 ?_|refine A1Y ?_|(refine D5 (ht:=fun _=>?_) (hf:=fun _=>?_)<;>try first|contradiction|omega))
  obtain⟨I4,hle4,hm4,hrow⟩:=hm.freeze;exact⟨I4,[],⟨rfl,_,_,xs,rfl,hrow,A4Y.le hle4 hrs⟩,hm4.left (H:= [])⟩
theorem C5H (d:Sp.DI):A7R (A5Q d) (A5Q d)=true:=by simp[A7R,B0l]
theorem C9m (l:List Sp.DI) (hl:l.length<=1000000000000) (I:O9) (a b:Option Addr) (c d:Nat) (ha:RowI I 56 4 (.slice a l.length c) l.length (l.flatMap A5Q)) (hb:RowI I 56 4 (.slice b l.length d) l.length (l.flatMap A5Q)):
  CalM prog 17 #[.slice a l.length c,.slice b l.length d] I [] (fun v _ H'=>v=.bool true/\H'= []):=by
 refine CalM.of fun w E hm=>enter (N:=26) func17 rfl [(0,.slice a l.length c),(1,.slice b l.length d)] A0Z rfl ?_
 repeat' (first|refine D8 ?_|refine D6 ?_|refine A0y ?_|refine G7 ?_|refine D9 ?_|refine A7 ?_|refine E8 ?_|refine A8 ?_|refine F5 ?_|refine G5 ?_|(refine D5 (ht:=fun _=>?_) (hf:=fun _=>?_)<;>try first|contradiction|omega))
 refine U3 (fun k:Nat=> [(0,.slice a l.length c),(1,.slice b l.length d),(12,nt l.length),(13,nt k)])
  (fun k w'=>Mem E I [] w'/\k<=l.length) (fun k=>l.length-k) 0 (by exact⟨rfl,rfl,rfl,rfl,trivial⟩) ⟨hm,H7 _⟩ ?_
 clear hm;rintro k w1 ⟨hm,hk⟩;try dsimp only at hm hk |-
 by_cases hlt:k<l.length
 ·have hg:l[k]?=some l[k]:=G6 hlt
  generalize l[k]=s at hg;repeat' (first|refine A0f (d:=18) (enc:=A5Q) (z:=s) ?_ (hr:=ha) (he:=fun _=>rfl) (hz:=by exact hg);intro b1 o1 p1|refine A0f (d:=22) (enc:=A5Q) (z:=s) ?_ (hr:=hb) (he:=fun _=>rfl) (hz:=by exact hg);intro b2 o2 p2|refine A7v ?_ hm|refine D8 ?_|refine D6 ?_|refine J7 ?_|refine P5 ?_|refine D9 ?_|refine A7 ?_|refine G9 ?_|refine D7 ?_|refine O3 ?_|refine E8 ?_|refine A8 ?_|refine F5 ?_|refine G5 ?_|refine H9 ?_|refine J9 ?_|refine U4 ?_|refine A0k ?_;intro _ hkq;replace hm:=hm.kept0 hkq;clear hkq|(refine D5 (ht:=fun _=>?_) (hf:=fun _=>?_)<;>try first|contradiction|omega)|refine A9R (ht:=fun _=>?_) (hf:=fun _=>?_)|refine X9 ?_|refine B9Z ?_)
  all_goals try (exfalso;rename_i hx;rw[C5H]at hx;exact absurd hx (by decide))
  exact L9 (k+1:Nat) (by exact⟨rfl,rfl,rfl,rfl,trivial⟩) ⟨hm,by omega⟩ (by omega)
 ·obtain rfl:k=l.length:=by omega
  repeat' (first|refine D6 ?_|refine J7 ?_|refine D9 ?_|refine A7 ?_|refine H8 ?_|refine H5 ?_|refine E8 ?_|refine A8 ?_|refine Q3 ?_|refine H9 ?_|refine J9 ?_|(refine D5 (ht:=fun _=>?_) (hf:=fun _=>?_)<;>try first|contradiction|omega))
  exact⟨I,[],⟨rfl,rfl⟩,hm⟩
theorem A0L.one {I:O9}:∀ {qs:List Sp.Qn}{xs:List Value},A0L I qs xs->∀u∈xs,u.oneCell'=true
 | [],xs,h,u,hu=>by
  obtain rfl:xs= []:=h;cases hu
 |q::qs,xs,h,u,hu=>by
  obtain⟨c,r,rfl,⟨a,cp,rfl,_⟩,h2⟩:=h;rcases X6.1 hu with hu|hu
  ·simp only[U9,List.not_mem_nil,or_false]at hu
   rcases hu with rfl|rfl|rfl|rfl|rfl|rfl<;>rfl
  ·exact h2.one u hu
theorem B0N (I:O9) (q:Sp.Qn) (h:q.args= []):A7n I q (B3b q.id q.kind q.fr q.to q.text none 0 0):=by
 refine⟨none,0,by rw[h];rfl,?_⟩
 rw[h];exact A0X _ _ _ _ _
theorem C6W (I:O9) (hC:Conv I) (hT:A7c I):CalM prog 14 #[] I [] (fun v _ H'=>v=.bool true/\H'= []):=by
 refine CalM.of fun w E hm=>enter (N:=40) func14 rfl [] C22 rfl ?_
 obtain⟨r0,r1,r2,hrs⟩:∃r0 r1 r2,Sp.rpQ A1v B8t= [r0,r1,r2]:=⟨_,_,_,rfl⟩;have hal:=C2E;rw[hrs]at hal;obtain⟨e0,e2,e3⟩:=hal;simp only[List.getD_cons_zero,List.getD_cons_succ]at e0 e2 e3;have hP:=fun (J:O9) (m:Le I J) (b:Nat) (ys:List Value) (h:RowI J 38 6 (.slice (some ⟨b,0,none⟩) 3 3) 3 ys) (h2:A0L J B8t ys)=>B1X (qs:=B8t) h h2 (fun q hq=>by
  simp only[B8t,U9,List.not_mem_nil,or_false]at hq;rcases hq with rfl|rfl|rfl<;>decide) (hC.le m) (hT.le m) (by decide)
 rw[if_neg (by decide),hrs]at hP;repeat' (first|refine A1P (d:=7) ?_ hm;clear hm;intro b7 _ hm;obtain⟨I3,hle3,hm3,hr7⟩:=hm.freeze;clear hm;have hm:=hm3;clear hm3;have ha7:A0L I3 B8t _:=⟨_,_,rfl,B0N _ _ rfl,_,_,rfl,B0N _ _ rfl,_,[],rfl,B0N _ _ rfl,rfl⟩|refine F6 (d:=8) ?_ hm (hp:=pm0) (hc:=hP I3 hle3 b7 _ hr7 ha7);clear hm;rintro _ I4 _ _ ⟨rfl,pa,pc,ps,rfl,hpr,hps⟩ hleI4 hm;try simp only[F8]at hm;obtain⟨da,dp,ea,ep,hc0,_,_⟩:=hps.get (i:=0) rfl;obtain⟨db,dq,eb,eq,hc2,_,_⟩:=hps.get (i:=2) rfl|refine N7 (d:=20) ?_ (hr:=hpr) (h1:=by simp);intro bt ot hpt;rw[show ((0:Int).toNat *11)=0 *11 from rfl,hc0]at hpt|refine N7 (d:=27) ?_ (hr:=hpr) (h1:=by simp);intro bu ou hpu;rw[show ((2:Int).toNat *11)=2 *11 from rfl,hc2]at hpu|refine N7 (d:=34) ?_ (hr:=hpr) (h1:=by simp);intro bx ox hpx;rw[show ((2:Int).toNat *11)=2 *11 from rfl,hc2]at hpx|refine J6 (d:=37) (off:=ox) (j:=7) ?_ hm (hp:=hpx)|refine J6 ?_ hm|refine D8 ?_|refine D6 ?_|refine P7 ?_|refine N9 ?_|refine G7 ?_|refine V8 ?_|refine C9 ?_|refine P9 ?_|(refine O0 (h1:=fun _=>?_) (h0:=fun _=>?_)<;>try first|contradiction|omega)|refine D9 ?_|refine A7 ?_|refine E8 ?_|refine A8 ?_|refine H9 ?_|refine J9 ?_)
 all_goals exact⟨I4,[],⟨by rw[e3];rfl,rfl⟩,hm.left (H:= [])⟩
theorem C8v {I:O9}{qs:List Sp.Qn}{la:Option Addr}{lc:Nat}{ys:List Value} (hr:RowI I 38 6 (.slice la qs.length lc) qs.length ys) (hat:A0L I qs ys) (hq:∀q∈qs,q.text.length<=1099511627776) (hC:Conv I) (hT:A7c I) (hlen:qs.length<=39):
  CalM prog 16 #[.slice la qs.length lc] I [] (fun v _ H'=>v=.tuple #[str (Sp.stQ A1v qs).text,.bool (Sp.stQ A1v qs).op]/\H'= []):=by
 refine CalM.of fun w E hm=>enter (N:=33) func16 rfl [(0,.slice la qs.length lc)] A0I rfl ?_
 have hone:=hat.one;have hP:=fun (J:O9) (m:Le I J) (a:Option Addr) (cp:Nat) (xs:List Value) (h:RowI J 38 6 (.slice a (qs.length+1) cp) (qs.length+1) xs) (h2:A0L J (qs++ [A8L]) xs)=>B1X (qs:=qs++ [A8L]) (la:=a) (lc:=cp) (by rw[E9];exact h) h2 (fun q hq'=>by
  rcases X6.1 hq' with h|h
  ·exact hq q h
  ·rw[A0v.1 h];decide) (hC.le m) (hT.le m) (by rw[E9];show qs.length+1<=_;omega)
 rw[E9,if_neg (by show ¬40<qs.length+1;omega),A9H]at hP;have hrl:=A6g A1v qs;have hsh:=(B31 qs C0X).shut;have htx:=C06 (Sp.stQ A1v qs) A8L rfl;have hlast:Sp.rpQ (Sp.stQ A1v qs) [A8L]= [A9S (Sp.stQ A1v qs) A8L]:=rfl;rw[hlast]at hP;have hget:(Sp.rpQ A1v qs++ [A9S (Sp.stQ A1v qs) A8L])[qs.length]?=some (A9S (Sp.stQ A1v qs) A8L):=by
  rw[A1R (by omega),hrl,A3e];rfl
 have hlen2:(Sp.rpQ A1v qs++ [A9S (Sp.stQ A1v qs) A8L]).length=qs.length+1:=by rw[E9,hrl];rfl
 generalize A9S (Sp.stQ A1v qs) A8L=rp at hP htx hget hlen2;generalize Sp.stQ A1v qs=st at hsh htx |-;generalize Sp.rpQ A1v qs++ [rp]=rs at hP hget hlen2;have hP2:∀(J:O9) (m:Le I J) (n:Nat) (hn:n=qs.length+1) (a:Option Addr) (cp:Nat) (xs:List Value) (h:RowI J 38 6 (.slice a n cp) n xs) (h2:A0L J (qs++ [A8L]) xs),CalM prog 13 #[.slice a n cp] J [] (fun v I' H'=>H'= []/\∃pa pc ps,v=Value.tuple #[.slice pa (qs.length+1) pc,nt 0]/\RowI I' 46 11 (.slice pa (qs.length+1) pc) (qs.length+1) ps/\∃da dp ea ep,(ps.drop (qs.length *11)).take 11=rpV rp da dp ea ep):=fun J m n hn a cp xs h h2=>by
  subst hn;exact(hP J m a cp xs h h2).mono (fun v I' H' _ ⟨e1,pa,pc,ps,e2,e3,e4⟩=>by
   rw[hlen2]at e2 e3;obtain⟨da,dp,ea,ep,hc,_,_⟩:=e4.get hget;exact⟨e1,pa,pc,ps,e2,e3,da,dp,ea,ep,hc⟩)
 clear hP;obtain⟨tx,op⟩:=st;cases op with
 |true=>
  rw[if_pos rfl]at htx;subst htx;repeat' (first|refine A1P (d:=7) ?_ hm;clear hm;intro b7 _ hm|refine A6n (d:=9) ?_ hm (hr:=hr) (h1:=hone);clear hm;intro a9 cp9 _ hm;try simp only[F8]at hm|refine A2d (d:=12) ?_ hm;clear hm;intro a12 cp12 _ _ hm;try simp only[F8]at hm;obtain⟨I3,hle3,hm3,hr7⟩:=hm.freeze;clear hm;have hm:=hm3;clear hm3;have ha7:=A0L.snoc (B0N I3 A8L rfl) (hat.le hle3)|refine F6 (d:=13) ?_ hm (hp:=pm0) (hc:=hP2 I3 hle3 _ (by omega) _ _ _ hr7 ha7);clear hm;rintro _ I4 _ _ ⟨rfl,pa,pc,ps,rfl,hpr,da,dp,ea,ep,hc⟩ hleI4 hm;try simp only[F8]at hm|refine N7 (d:=22) ?_ (hr:=hpr);intro bt ot hpt;rw[show (((qs.length:Nat):Int).toNat *11)=qs.length *11 from rfl,hc]at hpt|refine N7 (d:=30) ?_ (hr:=hpr);intro bu ou hpu;rw[show (((qs.length:Nat):Int).toNat *11)=qs.length *11 from rfl,hc]at hpu|refine J6 ?_ hm|refine D8 ?_|refine D6 ?_|refine L6 ?_|refine A0y ?_|refine G7 ?_|refine V8 ?_|refine C9 ?_|refine P9 ?_|refine D9 ?_|refine A7 ?_|refine E8 ?_|refine A8 ?_|refine G5 ?_|refine H9 ?_|refine A1Y ?_|refine F7 ?_)
  all_goals exact⟨I4,[],⟨rfl,rfl⟩,hm.left (H:= [])⟩
 |false=>
  rw[if_neg (fun e=>by cases e)]at htx;have h0:tx= []:=hsh rfl;subst h0;subst htx;repeat' (first|refine A1P (d:=7) ?_ hm;clear hm;intro b7 _ hm|refine A6n (d:=9) ?_ hm (hr:=hr) (h1:=hone);clear hm;intro a9 cp9 _ hm;try simp only[F8]at hm|refine A2d (d:=12) ?_ hm;clear hm;intro a12 cp12 _ _ hm;try simp only[F8]at hm;obtain⟨I3,hle3,hm3,hr7⟩:=hm.freeze;clear hm;have hm:=hm3;clear hm3;have ha7:=A0L.snoc (B0N I3 A8L rfl) (hat.le hle3)|refine F6 (d:=13) ?_ hm (hp:=pm0) (hc:=hP2 I3 hle3 _ (by omega) _ _ _ hr7 ha7);clear hm;rintro _ I4 _ _ ⟨rfl,pa,pc,ps,rfl,hpr,da,dp,ea,ep,hc⟩ hleI4 hm;try simp only[F8]at hm|refine N7 (d:=22) ?_ (hr:=hpr);intro bt ot hpt;rw[show (((qs.length:Nat):Int).toNat *11)=qs.length *11 from rfl,hc]at hpt|refine J6 ?_ hm|refine D8 ?_|refine D6 ?_|refine L6 ?_|refine A0y ?_|refine G7 ?_|refine V8 ?_|refine C9 ?_|refine P9 ?_|refine D9 ?_|refine A7 ?_|refine G9 ?_|refine E8 ?_|refine A8 ?_|refine H9 ?_|refine A1Y ?_|refine H6 ?_)
  all_goals exact⟨I4,[],⟨rfl,rfl⟩,hm.left (H:= [])⟩
end Go.Proofs
