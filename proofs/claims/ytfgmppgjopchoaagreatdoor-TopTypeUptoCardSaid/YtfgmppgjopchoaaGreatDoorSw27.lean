/- Own work. -/
import Derived.Test.YtfgmppgjopchoaaGreatDoorSw26
set_option maxHeartbeats 64000000
namespace Go.Sp
def Rpl.few (r:Rpl):Prop:=r.dgs.length<=1000000000000/\r.ran.ev.length<=1000000000
end Go.Sp
namespace Go.Proofs
open Go.Proofs.Tryz
open Go.Sp
open Go.Fw
theorem C9c {s:Sp.Srv} (h:Sp.OkQ s) (q:Sp.Qn) (hql:q.text.length<=1099511627776) (I:P7) (hC:Conv I) (hT:A5O I) {a:Option Addr}{c:Nat}{xs:List Value} (hfe:FE I (J7 s.text) a c xs) (bs:Nat) {ba off:Nat}{aa:Option Addr}{ac:Nat} (hp:C2Y I ba off q aa ac)
  (hra:RowI I 3 1 (.slice aa q.args.length ac) q.args.length (B5Q q.args)):
  CalM prog 22 #[ptr bs,.pointer (some ⟨ba,off,none⟩)] I [B33 bs s a c] (C6Z bs (A3n s q)):=by
 refine CalM.of fun w E hm=>enter (N:=121) func22 rfl [(0,ptr bs),(1,.pointer (some ⟨ba,off,none⟩))] A0T rfl ?_
 rw[A3n];by_cases hk:q.kind<1\/9<q.kind
 ·rw[if_pos hk]
  repeat' (first|refine S9 (d:=4) ?_ hm;clear hm;intro b4 _ hm|refine J5 ?_ hm|refine N9 ?_ hm;clear hm;intro _ hm;try simp only[F8]at hm|refine Y6 ?_ hm|refine D8 ?_|refine D6 ?_|refine O1 ?_|refine J8 ?_|refine J6 ?_|refine A0u ?_|refine E8 ?_|refine C9 ?_|refine Q3 ?_|refine A0E ?_|(refine N8 (h1:=fun _=>?_) (h0:=fun _=>?_)<;>try first|contradiction|omega)|refine D9 ?_|refine A7 ?_|refine G8 ?_|refine O3 ?_|refine E5 ?_|refine A8 ?_|refine F5 ?_|refine H9 ?_|refine H5 ?_|(refine D5 (ht:=fun _=>?_) (hf:=fun _=>?_)<;>try first|contradiction|omega))
  all_goals exact⟨I,_,⟨_,a,c,xs,rfl,A4w.plain I rfl rfl,rfl,hfe⟩,hm.tl⟩
 rw[if_neg hk];by_cases hk1:q.kind=1
 ·rw[if_pos hk1]
  have hS:=C4M h q.text (by omega) I hC hfe bs;repeat' (first|refine F6 (d:=35) ?_ hm (hp:=pm1_1) (hc:=hS);clear hm;rintro _ I3 _ _ ⟨_,a3,c3,xs3,rfl,⟨da,dp,ea,ep,rfl,hd3,he3⟩,rfl,hfe3⟩ hleI3 hm;try simp only[F8]at hm|refine S9 (d:=4) ?_ hm;clear hm;intro b4 _ hm|refine J5 ?_ hm|refine N9 ?_ hm;clear hm;intro _ hm;try simp only[F8]at hm|refine Y6 ?_ hm|refine D8 ?_|refine D6 ?_|refine J8 ?_|refine J6 ?_|refine A0u ?_|refine O0 ?_|refine E8 ?_|refine C9 ?_|(refine N8 (h1:=fun _=>?_) (h0:=fun _=>?_)<;>try first|contradiction|omega)|refine D9 ?_|refine A7 ?_|refine G8 ?_|refine O3 ?_|refine E5 ?_|refine A8 ?_|refine F5 ?_|refine H9 ?_|(refine D5 (ht:=fun _=>?_) (hf:=fun _=>?_)<;>try first|contradiction|omega))
  all_goals exact⟨I3,_,⟨_,a3,c3,xs3,rfl,⟨da,dp,ea,ep,rfl,hd3,he3⟩,rfl,hfe3⟩,hm.left (H:= [_])⟩
 rw[if_neg hk1];obtain⟨tx,op⟩:=s;cases op with
 |false=>
  rw[if_pos rfl];repeat' (first|refine S9 (d:=4) ?_ hm;clear hm;intro b4 _ hm|refine J4 ?_ hm|refine J5 ?_ hm|refine N9 ?_ hm;clear hm;intro _ hm;try simp only[F8]at hm|refine Y6 ?_ hm|refine D8 ?_|refine D6 ?_|refine J8 ?_|refine J6 ?_|refine A0u ?_|refine O0 ?_|refine Y2 ?_|refine E8 ?_|refine C9 ?_|refine Q3 ?_|(refine N8 (h1:=fun _=>?_) (h0:=fun _=>?_)<;>try first|contradiction|omega)|refine D9 ?_|refine A7 ?_|refine G8 ?_|refine O3 ?_|refine E5 ?_|refine A8 ?_|refine F5 ?_|refine H9 ?_|refine H5 ?_|(refine D5 (ht:=fun _=>?_) (hf:=fun _=>?_)<;>try first|contradiction|omega))
  all_goals exact⟨I,_,⟨_,a,c,xs,rfl,A4w.plain I rfl rfl,rfl,hfe⟩,hm.tl⟩
 |true=>
 rw[if_neg (fun e=>by cases e)];by_cases h26:q.kind=2\/q.kind=6
 ·rw[if_pos h26]
  have hS:CalM prog 32 #[ptr bs,.pointer (some ⟨ba,off,none⟩)] I [B33 bs ⟨tx,true⟩ a c] (C2N bs (B1D ⟨tx,true⟩ q)):=by
   rcases h26 with h2|h6
   ·exact C79 h q h2 hql I hC hfe bs hp
   ·exact C8a h q h6 hql I hC hfe bs hp
  repeat' (first|refine F6 (d:=46) ?_ hm (hp:=pm1_1) (hc:=hS);clear hm;rintro _ I3 _ _ ⟨_,a3,c3,xs3,rfl,⟨da,dp,ea,ep,rfl,hd3,he3⟩,rfl,hfe3⟩ hleI3 hm;try simp only[F8]at hm|refine S9 (d:=4) ?_ hm;clear hm;intro b4 _ hm|refine Y1 (d:=5) ?_ hm;clear hm;intro b5 _ hm|refine J4 ?_ hm|refine J5 ?_ hm|refine X5 ?_ hm|refine N9 ?_ hm;clear hm;intro _ hm;try simp only[F8]at hm|refine Y6 ?_ hm|refine D8 ?_|refine D6 ?_|refine J8 ?_|refine J6 ?_|refine A0u ?_|refine O0 ?_|refine Y2 ?_|refine U5 ?_|refine E8 ?_|refine C9 ?_|(refine N8 (h1:=fun _=>?_) (h0:=fun _=>?_)<;>try first|contradiction|omega)|refine D9 ?_|refine A7 ?_|refine G8 ?_|refine D7 ?_|refine E5 ?_|refine A8 ?_|refine F5 ?_|refine G5 ?_|refine H9 ?_|refine H5 ?_|refine F7 ?_|(refine D5 (ht:=fun _=>?_) (hf:=fun _=>?_)<;>try first|contradiction|omega))
  all_goals exact⟨I3,_,⟨_,a3,c3,xs3,rfl,⟨da,dp,ea,ep,rfl,hd3,he3⟩,rfl,hfe3⟩,hm.tl.hd⟩
 rw[if_neg h26];have hN:=C78 (s:=⟨tx,true⟩) q (fun e=>h26 (.inl e)) (fun e=>h26 (.inr e)) I (a:=a) (c:=c) bs hp;have h4:Y4 tx=0:=h.err;have hA:=A9B h4;have hin:=fun k it (hg:(J7 tx)[k]?=some it)=>C0G tx h4 hg
 have hfe:FE I (J7 tx) a c xs:=hfe;rw[C2Z];by_cases k3:q.kind=3
 ·rw[if_pos k3]
  have hD:=fun (J:P7) (m:Le I J)=>C00 J (hfe.le m) hA
  repeat' (first|refine F6 (d:=46) ?_ hm (hp:=pm1_1) (hc:=hN);clear hm;rintro _ I3 _ _ ⟨rfl,rfl⟩ hleI3 hm;try simp only[F8]at hm;have hp3:=PtrI.le hp hleI3|refine B1a (d:=60) hm (by rfl) (by rfl) (by rfl) (by first|exact gt0|exact gt1|exact gt2|exact gt3|exact gt4|exact gt5|exact gt6) (by rfl) (by rfl) ?_|refine F6 (d:=61) ?_ hm (hp:=pm0) (hc:=hD I3 hleI3);clear hm;rintro _ I4 _ _ ⟨rfl,da,dp,rfl,hrd⟩ hleI4 hm;try simp only[F8]at hm|refine S9 (d:=4) ?_ hm;clear hm;intro b4 _ hm|refine Y1 (d:=5) ?_ hm;clear hm;intro b5 _ hm|refine J4 ?_ hm|refine J5 ?_ hm|refine N9 ?_ hm;clear hm;intro _ hm;try simp only[F8]at hm|refine Y6 ?_ hm|refine D8 ?_|refine D6 ?_|refine J8 ?_|refine J6 ?_|refine A0u ?_|refine O0 ?_|refine Y2 ?_|refine U5 ?_|refine E8 ?_|refine C9 ?_|refine Q3 ?_|(refine N8 (h1:=fun _=>?_) (h0:=fun _=>?_)<;>try first|contradiction|omega)|refine D9 ?_|refine A7 ?_|refine G8 ?_|refine D7 ?_|refine O3 ?_|refine E5 ?_|refine A8 ?_|refine F5 ?_|refine G5 ?_|refine H9 ?_|refine F7 ?_|(refine D5 (ht:=fun _=>?_) (hf:=fun _=>?_)<;>try first|contradiction|omega))
  all_goals exact⟨I4,_,⟨_,a,c,xs,rfl,⟨da,dp,none,0,rfl,hrd,A0Y _ _ _ _ _⟩,rfl,hfe.le (hleI3.trans hleI4)⟩,hm.tl.hd⟩
 rw[if_neg k3];by_cases k4:q.kind=4
 ·rw[if_pos k4]
  have hH:=fun (J:P7) (m:Le I J)=>C9f hA hin q.fr J (hfe.le m) bs true
  repeat' (first|refine F6 (d:=46) ?_ hm (hp:=pm1_1) (hc:=hN);clear hm;rintro _ I3 _ _ ⟨rfl,rfl⟩ hleI3 hm;try simp only[F8]at hm;have hp3:=PtrI.le hp hleI3|refine F6 (d:=70) ?_ hm (hp:=pm1_1) (hc:=hH I3 hleI3);clear hm;rintro _ I4 _ _ ⟨_,rfl,⟨da,dp,ea,ep,rfl,hd3,he3⟩,rfl⟩ hleI4 hm;try simp only[F8]at hm|refine S9 (d:=4) ?_ hm;clear hm;intro b4 _ hm|refine Y1 (d:=5) ?_ hm;clear hm;intro b5 _ hm|refine J4 ?_ hm|refine J5 ?_ hm|refine N9 ?_ hm;clear hm;intro _ hm;try simp only[F8]at hm|refine Y6 ?_ hm|refine D8 ?_|refine D6 ?_|refine J8 ?_|refine J6 ?_|refine A0u ?_|refine O0 ?_|refine Y2 ?_|refine U5 ?_|refine E8 ?_|refine C9 ?_|(refine N8 (h1:=fun _=>?_) (h0:=fun _=>?_)<;>try first|contradiction|omega)|refine D9 ?_|refine A7 ?_|refine G8 ?_|refine D7 ?_|refine O3 ?_|refine E5 ?_|refine A8 ?_|refine F5 ?_|refine G5 ?_|refine H9 ?_|refine F7 ?_|(refine D5 (ht:=fun _=>?_) (hf:=fun _=>?_)<;>try first|contradiction|omega))
  all_goals exact⟨I4,_,⟨_,a,c,xs,rfl,⟨da,dp,ea,ep,rfl,hd3,he3⟩,rfl,hfe.le (hleI3.trans hleI4)⟩,hm.left (H:= [_])⟩
 rw[if_neg k4];by_cases k5:q.kind=5
 ·rw[if_pos k5]
  have hD:=fun (J:P7) (m:Le I J)=>C4J q.fr J (hfe.le m) hA.len hA.nm (B17 hA.nm (hfe.few))
  cases hdf:B7j (J7 tx) q.fr with
  |none=>
   rw[hdf]at hD;repeat' (first|refine F6 (d:=46) ?_ hm (hp:=pm1_1) (hc:=hN);clear hm;rintro _ I3 _ _ ⟨rfl,rfl⟩ hleI3 hm;try simp only[F8]at hm;have hp3:=PtrI.le hp hleI3|refine A1q (id:=16) (hm.perm pm0) [0,1,2,3,4,5,6,7] 13 (h:=?_);clear hm;intro wd hR hm|refine A44 (d:=77) ?_ hR|refine A5d [9,10,11,12] (by decide+kernel) hm.kept ?_|refine A5J (d:=82) hm (by rfl) (by rfl) (by rfl) pm0 (hD I3 hleI3) ?_;clear hm;rintro _ I4 _ _ ⟨rfl,rfl⟩ hleI4 hm;simp only[C1t];try simp only[F8]at hm|refine A1H (i:=8) ?_ (by decide+kernel)|refine A7g ?_|refine A5c (by decide+kernel) ?_;replace hm:=hR.back hm;clear hR;try simp only[F8]at hm|refine A0d ?_ hR|refine S9 (d:=4) ?_ hm;clear hm;intro b4 _ hm|refine Y1 (d:=5) ?_ hm;clear hm;intro b5 _ hm|refine J4 ?_ hm|refine J5 ?_ hm|refine N9 ?_ hm;clear hm;intro _ hm;try simp only[F8]at hm|refine Y6 ?_ hm|refine D8 ?_|refine D6 ?_|refine J8 ?_|refine J6 ?_|refine A0u ?_|refine O0 ?_|refine Y2 ?_|refine U5 ?_|refine E8 ?_|refine C9 ?_|refine Q3 ?_|(refine N8 (h1:=fun _=>?_) (h0:=fun _=>?_)<;>try first|contradiction|omega)|refine D9 ?_|refine A7 ?_|refine G8 ?_|refine D7 ?_|refine O3 ?_|refine E5 ?_|refine A8 ?_|refine F5 ?_|refine G5 ?_|refine H9 ?_|refine F7 ?_|(refine D5 (ht:=fun _=>?_) (hf:=fun _=>?_)<;>try first|contradiction|omega)|refine Z5 ?_|refine A63 ?_|refine A5G ?_|refine O7 ?_|refine L6 ?_)
   all_goals exact⟨I4,_,⟨_,a,c,xs,rfl,A4w.plain I4 rfl rfl,rfl,hfe.le (hleI3.trans hleI4)⟩,hm.tl.hd⟩
  |some df=>
   rw[hdf]at hD;repeat' (first|refine F6 (d:=46) ?_ hm (hp:=pm1_1) (hc:=hN);clear hm;rintro _ I3 _ _ ⟨rfl,rfl⟩ hleI3 hm;try simp only[F8]at hm;have hp3:=PtrI.le hp hleI3|refine A1q (id:=16) (hm.perm pm0) [0,1,2,3,4,5,6,7] 13 (h:=?_);clear hm;intro wd hR hm|refine A44 (d:=77) ?_ hR|refine A5d [9,10,11,12] (by decide+kernel) hm.kept ?_|refine A5J (d:=82) hm (by rfl) (by rfl) (by rfl) pm0 (hD I3 hleI3) ?_;clear hm;rintro _ I4 _ _ ⟨rfl,rfl⟩ hleI4 hm;simp only[C1t];try simp only[F8]at hm|refine A1H (i:=8) ?_ (by decide+kernel)|refine A7g ?_|refine A5c (by decide+kernel) ?_;replace hm:=hR.back hm;clear hR;try simp only[F8]at hm|refine A0d ?_ hR|refine S9 (d:=4) ?_ hm;clear hm;intro b4 _ hm|refine Y1 (d:=5) ?_ hm;clear hm;intro b5 _ hm|refine J4 ?_ hm|refine J5 ?_ hm|refine N9 ?_ hm;clear hm;intro _ hm;try simp only[F8]at hm|refine Y6 ?_ hm|refine D8 ?_|refine D6 ?_|refine J8 ?_|refine J6 ?_|refine A0u ?_|refine O0 ?_|refine Y2 ?_|refine U5 ?_|refine E8 ?_|refine C9 ?_|refine Q3 ?_|(refine N8 (h1:=fun _=>?_) (h0:=fun _=>?_)<;>try first|contradiction|omega)|refine D9 ?_|refine A7 ?_|refine G8 ?_|refine D7 ?_|refine O3 ?_|refine E5 ?_|refine A8 ?_|refine F5 ?_|refine G5 ?_|refine H9 ?_|refine H5 ?_|refine F7 ?_|(refine D5 (ht:=fun _=>?_) (hf:=fun _=>?_)<;>try first|contradiction|omega)|refine Z5 ?_|refine A63 ?_|refine A5G ?_|refine O7 ?_|refine L6 ?_)
   all_goals exact⟨I4,_,⟨_,a,c,xs,rfl,A4w.plain I4 rfl rfl,rfl,hfe.le (hleI3.trans hleI4)⟩,hm.tl.hd⟩
 rw[if_neg k5];by_cases k7:q.kind=7
 ·rw[if_pos k7]
  have hH:=fun (J:P7) (m:Le I J)=>C9g (src:=tx) rfl J (hT.le m) (hfe.le m) bs true
  repeat' (first|refine F6 (d:=46) ?_ hm (hp:=pm1_1) (hc:=hN);clear hm;rintro _ I3 _ _ ⟨rfl,rfl⟩ hleI3 hm;try simp only[F8]at hm;have hp3:=PtrI.le hp hleI3|refine F6 (d:=92) ?_ hm (hp:=pm1_1) (hc:=hH I3 hleI3);clear hm;rintro _ I4 _ _ ⟨_,rfl,⟨da,dp,ea,ep,rfl,hd3,he3⟩,rfl⟩ hleI4 hm;try simp only[F8]at hm|refine S9 (d:=4) ?_ hm;clear hm;intro b4 _ hm|refine Y1 (d:=5) ?_ hm;clear hm;intro b5 _ hm|refine J4 ?_ hm|refine J5 ?_ hm|refine N9 ?_ hm;clear hm;intro _ hm;try simp only[F8]at hm|refine Y6 ?_ hm|refine D8 ?_|refine D6 ?_|refine J8 ?_|refine J6 ?_|refine A0u ?_|refine O0 ?_|refine Y2 ?_|refine U5 ?_|refine E8 ?_|refine C9 ?_|(refine N8 (h1:=fun _=>?_) (h0:=fun _=>?_)<;>try first|contradiction|omega)|refine D9 ?_|refine A7 ?_|refine G8 ?_|refine D7 ?_|refine O3 ?_|refine E5 ?_|refine A8 ?_|refine F5 ?_|refine G5 ?_|refine H9 ?_|refine F7 ?_|(refine D5 (ht:=fun _=>?_) (hf:=fun _=>?_)<;>try first|contradiction|omega))
  all_goals exact⟨I4,_,⟨_,a,c,xs,rfl,⟨da,dp,ea,ep,rfl,hd3,he3⟩,rfl,hfe.le (hleI3.trans hleI4)⟩,hm.left (H:= [_])⟩
 rw[if_neg k7];by_cases k8:q.kind=8
 ·rw[if_pos k8,C76]
  have hR8:=fun (J:P7) (m:Le I J)=>C4E q.text q.args J (hfe.le m) hA (fun h=>B90 (s:=tx) h) aa ac (hra.le m)
  generalize A9Y (J7 tx) q.text q.args=r at hR8 |-;by_cases he:r.err≠0
  ·rw[if_pos he]
   repeat' (first|refine F6 (d:=46) ?_ hm (hp:=pm1_1) (hc:=hN);clear hm;rintro _ I3 _ _ ⟨rfl,rfl⟩ hleI3 hm;try simp only[F8]at hm;have hp3:=PtrI.le hp hleI3|refine A1q (id:=23) (hm.perm pm0) [0,1,2,3,4,5,6,7,8,9,10,11] 14 (h:=?_);clear hm;intro wd hR hm|refine A44 (d:=98) ?_ hR|refine A5J (d:=107) hm (by rfl) (by rfl) (by rfl) pm0 (hR8 I3 hleI3) ?_;clear hm;rintro _ I4 _ _ ⟨rfl,ea,ep,rfl,hre⟩ hleI4 hm;try simp only[F8]at hm|refine A8G (i:=12) (j:=13) ?_ (by decide+kernel) (h:=?_)|refine A1H (i:=12) ?_ (by decide+kernel)|refine A1H (i:=13) ?_ (by decide+kernel)|refine A5c (by decide+kernel) ?_;replace hm:=hR.back hm;clear hR;try simp only[F8]at hm|refine A0d ?_ hR|refine B1U (d:=9) ?_ hm;clear hm;intro b9 _ hm|refine A9W ?_|refine S9 (d:=4) ?_ hm;clear hm;intro b4 _ hm|refine Y1 (d:=5) ?_ hm;clear hm;intro b5 _ hm|refine J4 ?_ hm|refine J5 ?_ hm|refine N9 ?_ hm;clear hm;intro _ hm;try simp only[F8]at hm|refine Y6 ?_ hm|refine D8 ?_|refine D6 ?_|refine J8 ?_|refine J6 ?_|refine A0u ?_|refine O0 ?_|refine A0n ?_|refine Y2 ?_|refine U5 ?_|refine E8 ?_|refine C9 ?_|refine Q3 ?_|(refine N8 (h1:=fun _=>?_) (h0:=fun _=>?_)<;>try first|contradiction|omega)|refine D9 ?_|refine A7 ?_|refine G8 ?_|refine D7 ?_|refine O3 ?_|refine E5 ?_|refine A8 ?_|refine F5 ?_|refine G5 ?_|refine H9 ?_|refine F7 ?_|(refine D5 (ht:=fun _=>?_) (hf:=fun _=>?_)<;>try first|contradiction|omega)|refine Z5 ?_|refine O7 ?_|refine L6 ?_)
   all_goals exact⟨I4,_,⟨_,a,c,xs,rfl,A4w.plain I4 rfl rfl,rfl,hfe.le (hleI3.trans hleI4)⟩,hm.tl.tl.hd⟩
  ·rw[if_neg he]
   have he0:r.err=0:=by omega
   repeat' (first|refine F6 (d:=46) ?_ hm (hp:=pm1_1) (hc:=hN);clear hm;rintro _ I3 _ _ ⟨rfl,rfl⟩ hleI3 hm;try simp only[F8]at hm;have hp3:=PtrI.le hp hleI3|refine A1q (id:=23) (hm.perm pm0) [0,1,2,3,4,5,6,7,8,9,10,11] 14 (h:=?_);clear hm;intro wd hR hm|refine A44 (d:=98) ?_ hR|refine A5J (d:=107) hm (by rfl) (by rfl) (by rfl) pm0 (hR8 I3 hleI3) ?_;clear hm;rintro _ I4 _ _ ⟨rfl,ea,ep,rfl,hre⟩ hleI4 hm;try simp only[F8]at hm|refine A8G (i:=12) (j:=13) ?_ (by decide+kernel) (h:=?_)|refine A1H (i:=12) ?_ (by decide+kernel)|refine A1H (i:=13) ?_ (by decide+kernel)|refine A5c (by decide+kernel) ?_;replace hm:=hR.back hm;clear hR;try simp only[F8]at hm|refine A0d ?_ hR|refine B1U (d:=9) ?_ hm;clear hm;intro b9 _ hm|refine A9W ?_|refine S9 (d:=4) ?_ hm;clear hm;intro b4 _ hm|refine Y1 (d:=5) ?_ hm;clear hm;intro b5 _ hm|refine J4 ?_ hm|refine J5 ?_ hm|refine X5 ?_ hm|refine N9 ?_ hm;clear hm;intro _ hm;try simp only[F8]at hm|refine Y6 ?_ hm|refine D8 ?_|refine D6 ?_|refine J8 ?_|refine J6 ?_|refine A0u ?_|refine O0 ?_|refine A0n ?_|refine Y2 ?_|refine U5 ?_|refine E8 ?_|refine C9 ?_|refine Q3 ?_|(refine N8 (h1:=fun _=>?_) (h0:=fun _=>?_)<;>try first|contradiction|omega)|refine D9 ?_|refine A7 ?_|refine G8 ?_|refine D7 ?_|refine O3 ?_|refine E5 ?_|refine A8 ?_|refine F5 ?_|refine G5 ?_|refine H9 ?_|refine F7 ?_|(refine D5 (ht:=fun _=>?_) (hf:=fun _=>?_)<;>try first|contradiction|omega)|refine Z5 ?_|refine O7 ?_|refine L6 ?_)
   all_goals exact⟨I4,_,⟨_,a,c,xs,rfl,⟨none,0,ea,ep,rfl,A0Y _ _ _ _ _,hre⟩,rfl,hfe.le (hleI3.trans hleI4)⟩,hm.tl.tl.hd⟩
 rw[if_neg k8];repeat' (first|refine F6 (d:=46) ?_ hm (hp:=pm1_1) (hc:=hN);clear hm;rintro _ I3 _ _ ⟨rfl,rfl⟩ hleI3 hm;try simp only[F8]at hm;have hp3:=PtrI.le hp hleI3|refine S9 (d:=4) ?_ hm;clear hm;intro b4 _ hm|refine Y1 (d:=5) ?_ hm;clear hm;intro b5 _ hm|refine J4 ?_ hm|refine J5 ?_ hm|refine N9 ?_ hm;clear hm;intro _ hm;try simp only[F8]at hm|refine Y6 ?_ hm|refine D8 ?_|refine D6 ?_|refine J8 ?_|refine J6 ?_|refine A0u ?_|refine O0 ?_|refine Y2 ?_|refine U5 ?_|refine E8 ?_|refine C9 ?_|refine Q3 ?_|(refine N8 (h1:=fun _=>?_) (h0:=fun _=>?_)<;>try first|contradiction|omega)|refine D9 ?_|refine A7 ?_|refine D7 ?_|refine E5 ?_|refine A8 ?_|refine F5 ?_|refine G5 ?_|refine H9 ?_|refine F7 ?_|(refine D5 (ht:=fun _=>?_) (hf:=fun _=>?_)<;>try first|contradiction|omega))
 all_goals exact⟨I3,_,⟨_,a,c,xs,rfl,A4w.plain I3 rfl rfl,rfl,hfe.le hleI3⟩,hm.tl.hd⟩
def A4V (I:P7):List Sp.Rpl->List Value->Prop
 | [],xs=>xs= []
 |r::rs,xs=> ∃c t,xs=c++t/\A4w I r c/\A4V I rs t
theorem A4w.le {I I':P7}{r:Sp.Rpl}{c:List Value} (h:A4w I r c) (m:Le I I'):A4w I' r c:=by
 obtain⟨da,dp,ea,ep,h1,h2,h3⟩:=h;exact⟨da,dp,ea,ep,h1,h2.le m,h3.le m⟩
theorem A4w.len {I:P7}{r:Sp.Rpl}{c:List Value} (h:A4w I r c):c.length=11:=by
 obtain⟨da,dp,ea,ep,rfl,_⟩:=h;rfl
theorem A4V.le {I I':P7} (m:Le I I'):∀ {rs:List Sp.Rpl}{xs:List Value},A4V I rs xs->A4V I' rs xs
 | [],_,h=>h
 |_::_,_,⟨c,r,e,h1,h2⟩=>⟨c,r,e,h1.le m,A4V.le m h2⟩
theorem A4V.snoc {I:P7}{q:Sp.Rpl}{c:List Value} (hq:A4w I q c):∀ {rs:List Sp.Rpl}{xs:List Value},A4V I rs xs->A4V I (rs++ [q]) (xs++c)
 | [],xs,h=>by
  obtain rfl:xs= []:=h;exact⟨c,[],by simp,hq,rfl⟩
 |_::_,_,⟨c',r,e,h1,h2⟩=>⟨c',r++c,by rw[e,O4],h1,A4V.snoc hq h2⟩
theorem A4V.get {I:P7}:∀ {rs:List Sp.Rpl}{xs:List Value}{i:Nat}{q:Sp.Rpl},A4V I rs xs->rs[i]?=some q->A4w I q ((xs.drop (i *11)).take 11)
 | [],_,_,_,_,h=>by simp at h
 |q::qs,_,0,q',⟨c,r,e,h1,h2⟩,h=>by
  simp only[A0z,U4]at h;subst h;rw[e,A1o,A2o,A14 (by rw[h1.len];omega),A0q (by rw[h1.len];omega)];exact h1
 |q::qs,_,i+1,q',⟨c,r,e,h1,h2⟩,h=>by
  rw[A0w]at h;have:=A4V.get h2 h;rw[e,A5A,List.drop_eq_nil_of_le (by rw[h1.len];omega),P9,h1.len,show (i+1) *11-11=i *11 by omega];exact this
def B8S (rs:List Sp.Rpl) (e:Nat):Value->P7->List HItem->Prop:=fun v I' H'=>H'= []/\∃a cp xs,v=.tuple #[.slice a rs.length cp,nt e]/\RowI I' 46 11 (.slice a rs.length cp) rs.length xs/\A4V I' rs xs
structure PlX where
 k:Nat
 I:P7
 a:Option Addr
 cp:Nat
 xs:List Value
 fa:Option Addr
 fc:Nat
 fx:List Value
theorem C2W {I:P7}{aa:Option Addr}{ac:Nat}{l:List Int} (h:RowI I 3 1 (.slice aa l.length ac) l.length (l.flatMap C5K)):RowI I 3 1 (.slice aa l.length ac) l.length (B5Q l):=by
 rw[B4U]at h;exact h
theorem A9v {I:P7}{qs:List Sp.Qn}{la:Option Addr}{lc:Nat}{ys:List Value} (hr:RowI I 38 6 (.slice la qs.length lc) qs.length ys) (hat:A0F I qs ys) (hq:∀q∈qs,q.text.length<=1099511627776) (hC:Conv I) (hT:A5O I) (hlen:qs.length<=1099511627776):
  CalM prog 13 #[.slice la qs.length lc] I [] (if 40<qs.length then B8S [] 5 else B8S (Sp.rpQ A1b qs) 0):=by
 refine CalM.of fun w E hm=>enter (N:=35) func13 rfl [(0,.slice la qs.length lc)] A0G rfl ?_
 by_cases h40:40<qs.length
 ·rw[if_pos h40]
  repeat' (first|refine D8 ?_|refine D6 ?_|refine A0u ?_|refine G7 ?_|refine D9 ?_|refine A7 ?_|refine G8 ?_|refine E5 ?_|refine A8 ?_|refine H9 ?_|refine A1W ?_|(refine D5 (ht:=fun _=>?_) (hf:=fun _=>?_)<;>try first|contradiction|omega))
  exact⟨I,[],⟨rfl,none,0,[],rfl,A0Y _ _ _ _ _,rfl⟩,hm⟩
 rw[if_neg h40];repeat' (first|refine A0P (d:=12) ?_ hm;clear hm;intro b12 _ hm|refine D8 ?_|refine D6 ?_|refine A0u ?_|refine G7 ?_|refine Q3 ?_|refine D9 ?_|refine A7 ?_|refine E5 ?_|refine A8 ?_|refine F5 ?_|refine G5 ?_|(refine D5 (ht:=fun _=>?_) (hf:=fun _=>?_)<;>try first|contradiction|omega))
 have hm:=hm.nil 46 11;refine U0 (fun x:PlX=> [(0,.slice la qs.length lc),(4,ptr b12),(5,.slice x.a (Sp.rpQ A1b (qs.take x.k)).length x.cp),(14,nt qs.length),(15,nt x.k)])
  (fun x w'=>Mem E x.I [.row (.slice x.a (Sp.rpQ A1b (qs.take x.k)).length x.cp) 46 11 (Sp.rpQ A1b (qs.take x.k)).length x.xs,B33 b12 (Sp.stQ A1b (qs.take x.k)) x.fa x.fc] w'/\Le I x.I/\x.k<=qs.length/\A4V x.I (Sp.rpQ A1b (qs.take x.k)) x.xs/\FE x.I (J7 (Sp.stQ A1b (qs.take x.k)).text) x.fa x.fc x.fx) (fun x=>qs.length-x.k) ⟨0,I,none,0,[],none,0,[]⟩
  (by exact⟨rfl,rfl,rfl,rfl,rfl,trivial⟩) ⟨hm,Le.refl _,H7 _,rfl,?_⟩ ?_
 ·exact⟨A0Y _ _ _ _ _,rfl,by dsimp only;rw[A0a];decide+kernel⟩
 clear hm;rintro⟨k,I1,oa,op,xs,fa,fc,fx⟩ w1 ⟨hm,hle,hk,hrs,hfe⟩;dsimp only at hm hle hk hrs hfe |-;by_cases hlt:k<qs.length
 ·have hg:qs[k]?=some qs[k]:=G6 hlt
  have hqk:=hq _ (O6 hlt);have hs1:=C4F A1b hg;have hs2:=C4S A1b hg;have hok:=B6t (qs.take k) C0S;have hl1:(Sp.rpQ A1b (qs.take k)).length<=40:=by rw[A5N,P6];omega
  obtain⟨aa,ac,hci,hargs⟩:=(hat.le hle).get hg;have hr1:=hr.le hle;generalize qs[k]=q at hg hqk hs1 hs2 hci hargs;generalize Sp.stQ A1b (qs.take k)=st at hm hfe hs1 hs2 hok;generalize Sp.rpQ A1b (qs.take k)=rs at hm hrs hs1 hl1;have hA:=fun (bt ot:Nat) (hp:C2Y I1 bt ot q aa ac)=>C9c hok q hqk I1 (hC.le hle) (hT.le hle) hfe b12 hp (C2W hargs)
  have hid:A9X st q= { (A3n st q).2 with id:=q.id}:=rfl;generalize A9X st q=rp at hs1 hid;generalize A3n st q=an at hA hs2 hid;obtain⟨st2,r⟩:=an;dsimp only at hA hs2 hid;repeat' (first|refine N7 (d:=21) ?_ (hr:=hr1);intro bt ot hpt;rw[show ((k:Int).toNat *6)=k *6 from rfl,hci]at hpt|refine N7 (d:=25) ?_ (hr:=hr1.le hleI2);intro bu ou hpu;rw[show ((k:Int).toNat *6)=k *6 from rfl,hci]at hpu|refine F6 (d:=22) ?_ hm (hp:=pm1_1) (hc:=hA bt ot hpt);clear hm;rintro _ I2 _ _ ⟨_,a3,c3,x3,rfl,⟨da,dp,ea,ep,rfl,hd3,he3⟩,rfl,hfe3⟩ hleI2 hm;try simp only[F8]at hm|refine Y1 (d:=7) ?_ hm;clear hm;intro b7 _ hm|refine A2b (d:=32) ?_ hm;clear hm;intro a32 cp32 _ _ hm;try simp only[F8]at hm|refine J5 ?_ hm|refine X5 ?_ hm|refine O8 hm (k:=?_);clear hm;intro _ hm;try simp only[F8]at hm|refine D8 ?_|refine D6 ?_|refine J6 ?_|refine P5 ?_|refine C9 ?_|refine D9 ?_|refine A7 ?_|refine D7 ?_|refine E5 ?_|refine A8 ?_|refine F5 ?_|refine G5 ?_|(refine D5 (ht:=fun _=>?_) (hf:=fun _=>?_)<;>try first|contradiction|omega))
  have hrp:A4w I2 rp (rpV rp da dp ea ep):=by
   subst hid;exact⟨da,dp,ea,ep,rfl,hd3,he3⟩
  have hrs2:=A4V.snoc hrp (A4V.le hleI2 hrs);subst hid;refine L8 (⟨k+1,I2,a32,cp32,xs++rpV { r with id:=q.id} da dp ea ep,a3,c3,x3⟩:PlX) (by exact⟨rfl,rfl,by rw[hs1,E9];rfl,rfl,rfl,trivial⟩) ⟨?_,hle.trans hleI2,by dsimp only;omega,by dsimp only;rw[hs1];exact hrs2,by dsimp only;rw[hs2];exact hfe3⟩ (by dsimp only;omega)
  dsimp only
  rw[hs1,hs2,E9];exact hm.tl.swap
 ·obtain rfl:k=qs.length:=by omega
  rw[V7]at hm hrs hfe |-;repeat' (first|refine D8 ?_|refine D6 ?_|refine J6 ?_|refine D9 ?_|refine A7 ?_|refine H8 ?_|refine G9 ?_|refine E5 ?_|refine A8 ?_|refine P8 ?_|refine H9 ?_|refine A1W ?_|(refine D5 (ht:=fun _=>?_) (hf:=fun _=>?_)<;>try first|contradiction|omega))
  obtain⟨I4,hle4,hm4,hrow⟩:=hm.freeze;exact⟨I4,[],⟨rfl,_,_,xs,rfl,hrow,A4V.le hle4 hrs⟩,hm4.left (H:= [])⟩
theorem A0F.one {I:P7}:∀ {qs:List Sp.Qn}{xs:List Value},A0F I qs xs->∀u∈xs,u.oneCell'=true
 | [],xs,h,u,hu=>by
  obtain rfl:xs= []:=h;cases hu
 |q::qs,xs,h,u,hu=>by
  obtain⟨c,r,rfl,⟨a,cp,rfl,_⟩,h2⟩:=h;rcases Z9.1 hu with hu|hu
  ·simp only[U8,List.not_mem_nil,or_false]at hu
   rcases hu with rfl|rfl|rfl|rfl|rfl|rfl<;>rfl
  ·exact h2.one u hu
theorem B1A (I:P7) (q:Sp.Qn) (h:q.args= []):A7r I q (B2z q.id q.kind q.fr q.to q.text none 0 0):=by
 refine⟨none,0,by rw[h];rfl,?_⟩
 rw[h];exact A0Y _ _ _ _ _
theorem C1j (I:P7) (hC:Conv I) (hT:A5O I):CalM prog 14 #[] I [] (fun v _ H'=>v=.bool true/\H'= []):=by
 refine CalM.of fun w E hm=>enter (N:=40) func14 rfl [] C2V rfl ?_
 obtain⟨r0,r1,r2,hrs⟩:∃r0 r1 r2,Sp.rpQ A1b B8p= [r0,r1,r2]:=⟨_,_,_,rfl⟩;have hal:=C2w;rw[hrs]at hal;obtain⟨e0,e2,e3⟩:=hal;simp only[List.getD_cons_zero,List.getD_cons_succ]at e0 e2 e3;have hP:=fun (J:P7) (m:Le I J) (b:Nat) (ys:List Value) (h:RowI J 38 6 (.slice (some ⟨b,0,none⟩) 3 3) 3 ys) (h2:A0F J B8p ys)=>A9v (qs:=B8p) h h2 (fun q hq=>by
  simp only[B8p,U8,List.not_mem_nil,or_false]at hq;rcases hq with rfl|rfl|rfl<;>decide) (hC.le m) (hT.le m) (by decide)
 rw[if_neg (by decide),hrs]at hP;repeat' (first|refine A1n (d:=7) ?_ hm;clear hm;intro b7 _ hm;obtain⟨I3,hle3,hm3,hr7⟩:=hm.freeze;clear hm;have hm:=hm3;clear hm3;have ha7:A0F I3 B8p _:=⟨_,_,rfl,B1A _ _ rfl,_,_,rfl,B1A _ _ rfl,_,[],rfl,B1A _ _ rfl,rfl⟩|refine F6 (d:=8) ?_ hm (hp:=pm0) (hc:=hP I3 hle3 b7 _ hr7 ha7);clear hm;rintro _ I4 _ _ ⟨rfl,pa,pc,ps,rfl,hpr,hps⟩ hleI4 hm;try simp only[F8]at hm;obtain⟨da,dp,ea,ep,hc0,_,_⟩:=hps.get (i:=0) rfl;obtain⟨db,dq,eb,eq,hc2,_,_⟩:=hps.get (i:=2) rfl|refine N7 (d:=20) ?_ (hr:=hpr) (h1:=by simp);intro bt ot hpt;rw[show ((0:Int).toNat *11)=0 *11 from rfl,hc0]at hpt|refine N7 (d:=27) ?_ (hr:=hpr) (h1:=by simp);intro bu ou hpu;rw[show ((2:Int).toNat *11)=2 *11 from rfl,hc2]at hpu|refine N7 (d:=34) ?_ (hr:=hpr) (h1:=by simp);intro bx ox hpx;rw[show ((2:Int).toNat *11)=2 *11 from rfl,hc2]at hpx|refine J5 (d:=37) (off:=ox) (j:=7) ?_ hm (hp:=hpx)|refine J5 ?_ hm|refine D8 ?_|refine D6 ?_|refine O1 ?_|refine O0 ?_|refine G7 ?_|refine U5 ?_|refine C9 ?_|refine Q3 ?_|(refine N8 (h1:=fun _=>?_) (h0:=fun _=>?_)<;>try first|contradiction|omega)|refine D9 ?_|refine A7 ?_|refine E5 ?_|refine A8 ?_|refine H9 ?_|refine J9 ?_)
 all_goals exact⟨I4,[],⟨by rw[e3];rfl,rfl⟩,hm.left (H:= [])⟩
theorem B36 (k:Int) (t:List UInt8) (I:P7):CalM prog 12 #[.int .i64 k,str t] I [] (fun v _ H'=>v=.agg (B2z 0 k 0 0 t none 0 0).toArray/\H'= []):=by
 refine CalM.of fun w E hm=>enter (N:=8) func12 rfl [(0,.int .i64 k),(1,str t)] A0T rfl ?_
 repeat' (first|refine S9 (d:=4) ?_ hm;clear hm;intro b4 _ hm|refine N9 ?_ hm;clear hm;intro _ hm;try simp only[F8]at hm|refine Y6 ?_ hm|refine D8 ?_|refine Q3 ?_|refine D9 ?_|refine A7 ?_|refine E5 ?_|refine A8 ?_|refine H9 ?_)
 exact⟨I,[],⟨rfl,rfl⟩,hm.tl⟩
theorem B6z (I:P7) (hC:Conv I) (hT:A5O I):CalM prog 9 #[] I [] (fun v _ H'=>v=.bool true/\H'= []):=by
 refine CalM.of fun w E hm=>enter (N:=35) func9 rfl [] C2V rfl ?_
 obtain⟨r0,r1,hrs⟩:∃r0 r1,Sp.rpQ A1b B5x= [r0,r1]:=⟨_,_,rfl⟩;have hal:=C0g;rw[hrs]at hal;simp only[List.getD_cons_zero,List.getD_cons_succ]at hal;obtain⟨d,hd1,hd2⟩:∃d,r1.dgs= [d]/\d.err=9:=by
  cases h:r1.dgs with
  |nil=>rw[h]at hal;cases hal
  |cons d l=>
   rw[h]at hal;simp only[X7,A2L,List.map_eq_nil_iff]at hal;exact⟨d,by rw[hal.2],hal.1⟩
 have hP:=fun (J:P7) (m:Le I J) (b:Nat) (ys:List Value) (h:RowI J 38 6 (.slice (some ⟨b,0,none⟩) 2 2) 2 ys) (h2:A0F J B5x ys)=>A9v (qs:=B5x) h h2 (fun q hq=>by
  simp only[B5x,U8,List.not_mem_nil,or_false]at hq;rcases hq with rfl|rfl<;>decide) (hC.le m) (hT.le m) (by decide)
 rw[if_neg (by decide),hrs]at hP;repeat' (first|refine F6 (d:=4) ?_ hm (hp:=pm0) (hc:=B36 1 C7a I);clear hm;rintro _ I1 _ _ ⟨rfl,rfl⟩ hleI1 hm;try simp only[F8]at hm|refine F6 (d:=5) ?_ hm (hp:=pm0) (hc:=B36 3 [] I1);clear hm;rintro _ I2 _ _ ⟨rfl,rfl⟩ hleI2 hm;try simp only[F8]at hm|refine A1n (d:=6) ?_ hm;clear hm;intro b7 _ hm;obtain⟨I3,hle3,hm3,hr7⟩:=hm.freeze;clear hm;have hm:=hm3;clear hm3;have ha7:A0F I3 B5x _:=⟨_,_,rfl,B1A _ _ rfl,_,[],rfl,B1A _ _ rfl,rfl⟩|refine F6 (d:=7) ?_ hm (hp:=pm0) (hc:=hP I3 ((hleI1.trans hleI2).trans hle3) b7 _ hr7 ha7);clear hm;rintro _ I4 _ _ ⟨rfl,pa,pc,ps,rfl,hpr,hps⟩ hleI4 hm;try simp only[F8]at hm;obtain⟨db,dq,eb,eq,hc2,hdr,_⟩:=hps.get (i:=1) rfl;unfold rpV at hc2;rw[hd1]at hc2 hdr|refine N7 (d:=19) ?_ (hr:=hpr) (h1:=by simp);intro bu ou hpu;rw[show ((1:Int).toNat *11)=1 *11 from rfl,hc2]at hpu|refine N7 (d:=27) ?_ (hr:=hpr) (h1:=by simp);intro bx ox hpx;rw[show ((1:Int).toNat *11)=1 *11 from rfl,hc2]at hpx|refine Q8 (d:=30) (enc:=A6c) (z:=d) ?_ (hr:=hdr) (he:=fun _=>rfl) (h1:=by simp) (hz:=by rfl);intro bz oz hpz|refine J5 ?_ hm|refine D8 ?_|refine D6 ?_|refine O1 ?_|refine O0 ?_|refine G7 ?_|refine U5 ?_|refine C9 ?_|refine D9 ?_|refine A7 ?_|refine E5 ?_|refine A8 ?_|refine H9 ?_|refine J9 ?_)
 all_goals exact⟨I4,[],⟨by rw[hd2];rfl,rfl⟩,hm.left (H:= [])⟩
end Go.Proofs
