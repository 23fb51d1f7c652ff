/- Own work. -/
import Derived.Test.YtbmbnippbldmfaaGreatDoorSn26
set_option maxHeartbeats 64000000
namespace Go.Sp
theorem C5O (its:List Itm) (nm:List UInt8) (args:List Int):(B5R its nm args).ev.length<=3000:=by
 have h:=A8O its 40 nm args MR0 (H7 _);have h1:=h.top;have h2:=h.ev;have h3:MR0.ev.length=0:=rfl;have h4:MR0.steps=0:=rfl;rw[B5R];split
 ·exact H7 _
 ·split
  ·exact H7 _
  ·split
   ·exact H7 _
   ·split
    ·exact H7 _
    ·dsimp only;omega
def Rpl.few (r:Rpl):Prop:=r.dgs.length<=1000000000000/\r.ran.ev.length<=1000000000
theorem A9N {r:Rpl} (h1:r.dgs= []) (h2:r.ran.ev= []):r.few:=by rw[Rpl.few,h1,h2];simp
theorem B3E (s:Srv) (t:List UInt8):(B32 s t).2.few:=by
 rw[B32];split<;>exact A9N rfl rfl
theorem C7n {s:Srv} (h:OkQ s) (q:Qn):(A7w s q).few:=by
 have key:(A8K s q).2.few:=by
  rw[A8K];split
  ·exact A9N rfl rfl
  ·split
   ·exact B3E _ _
   ·split
    ·exact A9N rfl rfl
    ·split
     ·rw[B5d]
      split
      ·split
       ·exact A9N rfl rfl
       ·exact B3E _ _
      ·split
       ·exact A9N rfl rfl
       ·exact B3E _ _
     ·dsimp only
      have hA:=B2s h.err;have hf:=hA.few;rw[C4Q];split
      ·have h1:=B1g hA _ (G9 _)
       refine⟨?_,H7 _⟩
       show (A6V (J7 s.text) _).length<=_
       omega
      ·split
       ·rw[C28];split<;>exact A9N rfl rfl
       ·split
        ·split<;>exact A9N rfl rfl
        ·split
         ·rw[C3j];split<;>exact A9N rfl rfl
         ·split
          ·rw[C7o]
           split
           ·exact A9N rfl rfl
           ·have h1:=C5O (J7 s.text) q.text q.args
            exact⟨H7 _,by dsimp only;omega⟩
          ·exact A9N rfl rfl
 exact key
end Go.Sp
namespace Go.Proofs
open Go.Proofs.Tryz
open Go.Sp
open Go.Fw
theorem C8z {s:Sp.Srv} (h:Sp.OkQ s) (q:Sp.Qn) (hql:q.text.length<=1099511627776) (I:P6) (hC:Conv I) (hT:A8B I) {a:Option Addr}{c:Nat}{xs:List Value} (hfe:FE I (J7 s.text) a c xs) (bs:Nat) {ba off:Nat}{aa:Option Addr}{ac:Nat} (hp:C2l I ba off q aa ac)
  (hra:RowI I 3 1 (.slice aa q.args.length ac) q.args.length (B8S q.args)):
  CalM prog 63 #[ptr bs,.pointer (some ⟨ba,off,none⟩)] I [B3H bs s a c] (C6j bs (A8K s q)):=by
 refine CalM.of fun w E hm=>enter (N:=121) func63 rfl [(0,ptr bs),(1,.pointer (some ⟨ba,off,none⟩))] A0T rfl ?_
 rw[A8K];by_cases hk:q.kind<1\/9<q.kind
 ·rw[if_pos hk]
  repeat' (first|refine U1 (d:=4) ?_ hm;clear hm;intro b4 _ hm|refine J5 ?_ hm|refine N7 ?_ hm;clear hm;intro _ hm;try simp only[F9]at hm|refine Y4 ?_ hm|refine D8 ?_|refine D6 ?_|refine O9 ?_|refine L8 ?_|refine J6 ?_|refine A0F ?_|refine E5 ?_|refine C9 ?_|refine Q3 ?_|refine A0N ?_|(refine N8 (h1:=fun _=>?_) (h0:=fun _=>?_)<;>try first|contradiction|omega)|refine D9 ?_|refine A7 ?_|refine G8 ?_|refine O1 ?_|refine E8 ?_|refine A8 ?_|refine F5 ?_|refine H8 ?_|refine H6 ?_|(refine D5 (ht:=fun _=>?_) (hf:=fun _=>?_)<;>try first|contradiction|omega))
  all_goals exact⟨I,_,⟨_,a,c,xs,rfl,A4u.plain I rfl rfl,rfl,hfe⟩,hm.tl⟩
 rw[if_neg hk];by_cases hk1:q.kind=1
 ·rw[if_pos hk1]
  have hS:=C38 h q.text (by omega) I hC hfe bs;repeat' (first|refine F6 (d:=35) ?_ hm (hp:=pm1_1) (hc:=hS);clear hm;rintro _ I3 _ _ ⟨_,a3,c3,xs3,rfl,⟨da,dp,ea,ep,rfl,hd3,he3⟩,rfl,hfe3⟩ hleI3 hm;try simp only[F9]at hm|refine U1 (d:=4) ?_ hm;clear hm;intro b4 _ hm|refine J5 ?_ hm|refine N7 ?_ hm;clear hm;intro _ hm;try simp only[F9]at hm|refine Y4 ?_ hm|refine D8 ?_|refine D6 ?_|refine L8 ?_|refine J6 ?_|refine A0F ?_|refine N9 ?_|refine E5 ?_|refine C9 ?_|(refine N8 (h1:=fun _=>?_) (h0:=fun _=>?_)<;>try first|contradiction|omega)|refine D9 ?_|refine A7 ?_|refine G8 ?_|refine O1 ?_|refine E8 ?_|refine A8 ?_|refine F5 ?_|refine H8 ?_|(refine D5 (ht:=fun _=>?_) (hf:=fun _=>?_)<;>try first|contradiction|omega))
  all_goals exact⟨I3,_,⟨_,a3,c3,xs3,rfl,⟨da,dp,ea,ep,rfl,hd3,he3⟩,rfl,hfe3⟩,hm.left (H:= [_])⟩
 rw[if_neg hk1];obtain⟨tx,op⟩:=s;cases op with
 |false=>
  rw[if_pos rfl];repeat' (first|refine U1 (d:=4) ?_ hm;clear hm;intro b4 _ hm|refine J4 ?_ hm|refine J5 ?_ hm|refine N7 ?_ hm;clear hm;intro _ hm;try simp only[F9]at hm|refine Y4 ?_ hm|refine D8 ?_|refine D6 ?_|refine L8 ?_|refine J6 ?_|refine A0F ?_|refine N9 ?_|refine Y9 ?_|refine E5 ?_|refine C9 ?_|refine Q3 ?_|(refine N8 (h1:=fun _=>?_) (h0:=fun _=>?_)<;>try first|contradiction|omega)|refine D9 ?_|refine A7 ?_|refine G8 ?_|refine O1 ?_|refine E8 ?_|refine A8 ?_|refine F5 ?_|refine H8 ?_|refine H6 ?_|(refine D5 (ht:=fun _=>?_) (hf:=fun _=>?_)<;>try first|contradiction|omega))
  all_goals exact⟨I,_,⟨_,a,c,xs,rfl,A4u.plain I rfl rfl,rfl,hfe⟩,hm.tl⟩
 |true=>
 rw[if_neg (fun e=>by cases e)];by_cases h26:q.kind=2\/q.kind=6
 ·rw[if_pos h26]
  have hS:CalM prog 94 #[ptr bs,.pointer (some ⟨ba,off,none⟩)] I [B3H bs ⟨tx,true⟩ a c] (C2c bs (B5d ⟨tx,true⟩ q)):=by
   rcases h26 with h2|h6
   ·exact C7s h q h2 hql I hC hfe bs hp
   ·exact C7t h q h6 hql I hC hfe bs hp
  repeat' (first|refine F6 (d:=46) ?_ hm (hp:=pm1_1) (hc:=hS);clear hm;rintro _ I3 _ _ ⟨_,a3,c3,xs3,rfl,⟨da,dp,ea,ep,rfl,hd3,he3⟩,rfl,hfe3⟩ hleI3 hm;try simp only[F9]at hm|refine U1 (d:=4) ?_ hm;clear hm;intro b4 _ hm|refine Y5 (d:=5) ?_ hm;clear hm;intro b5 _ hm|refine J4 ?_ hm|refine J5 ?_ hm|refine Y1 ?_ hm|refine N7 ?_ hm;clear hm;intro _ hm;try simp only[F9]at hm|refine Y4 ?_ hm|refine D8 ?_|refine D6 ?_|refine L8 ?_|refine J6 ?_|refine A0F ?_|refine N9 ?_|refine Y9 ?_|refine W9 ?_|refine E5 ?_|refine C9 ?_|(refine N8 (h1:=fun _=>?_) (h0:=fun _=>?_)<;>try first|contradiction|omega)|refine D9 ?_|refine A7 ?_|refine G8 ?_|refine D7 ?_|refine E8 ?_|refine A8 ?_|refine F5 ?_|refine G5 ?_|refine H8 ?_|refine H6 ?_|refine F7 ?_|(refine D5 (ht:=fun _=>?_) (hf:=fun _=>?_)<;>try first|contradiction|omega))
  all_goals exact⟨I3,_,⟨_,a3,c3,xs3,rfl,⟨da,dp,ea,ep,rfl,hd3,he3⟩,rfl,hfe3⟩,hm.tl.hd⟩
 rw[if_neg h26];have hN:=C7r (s:=⟨tx,true⟩) q (fun e=>h26 (.inl e)) (fun e=>h26 (.inr e)) I (a:=a) (c:=c) bs hp;have h4:Z5 tx=0:=h.err;have hA:=B2s h4;have hin:=fun k it (hg:(J7 tx)[k]?=some it)=>C0a tx h4 hg
 have hfe:FE I (J7 tx) a c xs:=hfe;rw[C4Q];by_cases k3:q.kind=3
 ·rw[if_pos k3]
  have hD:=fun (J:P6) (m:Le I J)=>C0s J (hfe.le m) hA
  repeat' (first|refine F6 (d:=46) ?_ hm (hp:=pm1_1) (hc:=hN);clear hm;rintro _ I3 _ _ ⟨rfl,rfl⟩ hleI3 hm;try simp only[F9]at hm;have hp3:=PtrI.le hp hleI3|refine B0R (d:=60) hm (by rfl) (by rfl) (by rfl) (by first|exact gt0|exact gt1|exact gt2|exact gt3|exact gt4|exact gt5|exact gt6) (by rfl) (by rfl) ?_|refine F6 (d:=61) ?_ hm (hp:=pm0) (hc:=hD I3 hleI3);clear hm;rintro _ I4 _ _ ⟨rfl,da,dp,rfl,hrd⟩ hleI4 hm;try simp only[F9]at hm|refine U1 (d:=4) ?_ hm;clear hm;intro b4 _ hm|refine Y5 (d:=5) ?_ hm;clear hm;intro b5 _ hm|refine J4 ?_ hm|refine J5 ?_ hm|refine N7 ?_ hm;clear hm;intro _ hm;try simp only[F9]at hm|refine Y4 ?_ hm|refine D8 ?_|refine D6 ?_|refine L8 ?_|refine J6 ?_|refine A0F ?_|refine N9 ?_|refine Y9 ?_|refine W9 ?_|refine E5 ?_|refine C9 ?_|refine Q3 ?_|(refine N8 (h1:=fun _=>?_) (h0:=fun _=>?_)<;>try first|contradiction|omega)|refine D9 ?_|refine A7 ?_|refine G8 ?_|refine D7 ?_|refine O1 ?_|refine E8 ?_|refine A8 ?_|refine F5 ?_|refine G5 ?_|refine H8 ?_|refine F7 ?_|(refine D5 (ht:=fun _=>?_) (hf:=fun _=>?_)<;>try first|contradiction|omega))
  all_goals exact⟨I4,_,⟨_,a,c,xs,rfl,⟨da,dp,none,0,rfl,hrd,A0W _ _ _ _ _⟩,rfl,hfe.le (hleI3.trans hleI4)⟩,hm.tl.hd⟩
 rw[if_neg k3];by_cases k4:q.kind=4
 ·rw[if_pos k4]
  have hH:=fun (J:P6) (m:Le I J)=>C8C hA hin q.fr J (hfe.le m) bs true
  repeat' (first|refine F6 (d:=46) ?_ hm (hp:=pm1_1) (hc:=hN);clear hm;rintro _ I3 _ _ ⟨rfl,rfl⟩ hleI3 hm;try simp only[F9]at hm;have hp3:=PtrI.le hp hleI3|refine F6 (d:=70) ?_ hm (hp:=pm1_1) (hc:=hH I3 hleI3);clear hm;rintro _ I4 _ _ ⟨_,rfl,⟨da,dp,ea,ep,rfl,hd3,he3⟩,rfl⟩ hleI4 hm;try simp only[F9]at hm|refine U1 (d:=4) ?_ hm;clear hm;intro b4 _ hm|refine Y5 (d:=5) ?_ hm;clear hm;intro b5 _ hm|refine J4 ?_ hm|refine J5 ?_ hm|refine N7 ?_ hm;clear hm;intro _ hm;try simp only[F9]at hm|refine Y4 ?_ hm|refine D8 ?_|refine D6 ?_|refine L8 ?_|refine J6 ?_|refine A0F ?_|refine N9 ?_|refine Y9 ?_|refine W9 ?_|refine E5 ?_|refine C9 ?_|(refine N8 (h1:=fun _=>?_) (h0:=fun _=>?_)<;>try first|contradiction|omega)|refine D9 ?_|refine A7 ?_|refine G8 ?_|refine D7 ?_|refine O1 ?_|refine E8 ?_|refine A8 ?_|refine F5 ?_|refine G5 ?_|refine H8 ?_|refine F7 ?_|(refine D5 (ht:=fun _=>?_) (hf:=fun _=>?_)<;>try first|contradiction|omega))
  all_goals exact⟨I4,_,⟨_,a,c,xs,rfl,⟨da,dp,ea,ep,rfl,hd3,he3⟩,rfl,hfe.le (hleI3.trans hleI4)⟩,hm.left (H:= [_])⟩
 rw[if_neg k4];by_cases k5:q.kind=5
 ·rw[if_pos k5]
  have hD:=fun (J:P6) (m:Le I J)=>C34 q.fr J (hfe.le m) hA.len hA.nm (B1M hA.nm (hfe.few))
  cases hdf:B6N (J7 tx) q.fr with
  |none=>
   rw[hdf]at hD;repeat' (first|refine F6 (d:=46) ?_ hm (hp:=pm1_1) (hc:=hN);clear hm;rintro _ I3 _ _ ⟨rfl,rfl⟩ hleI3 hm;try simp only[F9]at hm;have hp3:=PtrI.le hp hleI3|refine A1k (id:=16) (hm.perm pm0) [0,1,2,3,4,5,6,7] 13 (h:=?_);clear hm;intro wd hR hm|refine A4o (d:=77) ?_ hR|refine A3Y [9,10,11,12] (by decide+kernel) hm.kept ?_|refine A42 (d:=82) hm (by rfl) (by rfl) (by rfl) pm0 (hD I3 hleI3) ?_;clear hm;rintro _ I4 _ _ ⟨rfl,rfl⟩ hleI4 hm;simp only[C0S];try simp only[F9]at hm|refine A1j (i:=8) ?_ (by decide+kernel)|refine A6b ?_|refine A5a (by decide+kernel) ?_;replace hm:=hR.back hm;clear hR;try simp only[F9]at hm|refine A0c ?_ hR|refine U1 (d:=4) ?_ hm;clear hm;intro b4 _ hm|refine Y5 (d:=5) ?_ hm;clear hm;intro b5 _ hm|refine J4 ?_ hm|refine J5 ?_ hm|refine N7 ?_ hm;clear hm;intro _ hm;try simp only[F9]at hm|refine Y4 ?_ hm|refine D8 ?_|refine D6 ?_|refine L8 ?_|refine J6 ?_|refine A0F ?_|refine N9 ?_|refine Y9 ?_|refine W9 ?_|refine E5 ?_|refine C9 ?_|refine Q3 ?_|(refine N8 (h1:=fun _=>?_) (h0:=fun _=>?_)<;>try first|contradiction|omega)|refine D9 ?_|refine A7 ?_|refine G8 ?_|refine D7 ?_|refine O1 ?_|refine E8 ?_|refine A8 ?_|refine F5 ?_|refine G5 ?_|refine H8 ?_|refine F7 ?_|(refine D5 (ht:=fun _=>?_) (hf:=fun _=>?_)<;>try first|contradiction|omega)|refine Z4 ?_|refine A5V ?_|refine A4Q ?_|refine O5 ?_|refine J8 ?_)
   all_goals exact⟨I4,_,⟨_,a,c,xs,rfl,A4u.plain I4 rfl rfl,rfl,hfe.le (hleI3.trans hleI4)⟩,hm.tl.hd⟩
  |some df=>
   rw[hdf]at hD;repeat' (first|refine F6 (d:=46) ?_ hm (hp:=pm1_1) (hc:=hN);clear hm;rintro _ I3 _ _ ⟨rfl,rfl⟩ hleI3 hm;try simp only[F9]at hm;have hp3:=PtrI.le hp hleI3|refine A1k (id:=16) (hm.perm pm0) [0,1,2,3,4,5,6,7] 13 (h:=?_);clear hm;intro wd hR hm|refine A4o (d:=77) ?_ hR|refine A3Y [9,10,11,12] (by decide+kernel) hm.kept ?_|refine A42 (d:=82) hm (by rfl) (by rfl) (by rfl) pm0 (hD I3 hleI3) ?_;clear hm;rintro _ I4 _ _ ⟨rfl,rfl⟩ hleI4 hm;simp only[C0S];try simp only[F9]at hm|refine A1j (i:=8) ?_ (by decide+kernel)|refine A6b ?_|refine A5a (by decide+kernel) ?_;replace hm:=hR.back hm;clear hR;try simp only[F9]at hm|refine A0c ?_ hR|refine U1 (d:=4) ?_ hm;clear hm;intro b4 _ hm|refine Y5 (d:=5) ?_ hm;clear hm;intro b5 _ hm|refine J4 ?_ hm|refine J5 ?_ hm|refine N7 ?_ hm;clear hm;intro _ hm;try simp only[F9]at hm|refine Y4 ?_ hm|refine D8 ?_|refine D6 ?_|refine L8 ?_|refine J6 ?_|refine A0F ?_|refine N9 ?_|refine Y9 ?_|refine W9 ?_|refine E5 ?_|refine C9 ?_|refine Q3 ?_|(refine N8 (h1:=fun _=>?_) (h0:=fun _=>?_)<;>try first|contradiction|omega)|refine D9 ?_|refine A7 ?_|refine G8 ?_|refine D7 ?_|refine O1 ?_|refine E8 ?_|refine A8 ?_|refine F5 ?_|refine G5 ?_|refine H8 ?_|refine H6 ?_|refine F7 ?_|(refine D5 (ht:=fun _=>?_) (hf:=fun _=>?_)<;>try first|contradiction|omega)|refine Z4 ?_|refine A5V ?_|refine A4Q ?_|refine O5 ?_|refine J8 ?_)
   all_goals exact⟨I4,_,⟨_,a,c,xs,rfl,A4u.plain I4 rfl rfl,rfl,hfe.le (hleI3.trans hleI4)⟩,hm.tl.hd⟩
 rw[if_neg k5];by_cases k7:q.kind=7
 ·rw[if_pos k7]
  have hH:=fun (J:P6) (m:Le I J)=>C8D (src:=tx) rfl J (hT.le m) (hfe.le m) bs true
  repeat' (first|refine F6 (d:=46) ?_ hm (hp:=pm1_1) (hc:=hN);clear hm;rintro _ I3 _ _ ⟨rfl,rfl⟩ hleI3 hm;try simp only[F9]at hm;have hp3:=PtrI.le hp hleI3|refine F6 (d:=92) ?_ hm (hp:=pm1_1) (hc:=hH I3 hleI3);clear hm;rintro _ I4 _ _ ⟨_,rfl,⟨da,dp,ea,ep,rfl,hd3,he3⟩,rfl⟩ hleI4 hm;try simp only[F9]at hm|refine U1 (d:=4) ?_ hm;clear hm;intro b4 _ hm|refine Y5 (d:=5) ?_ hm;clear hm;intro b5 _ hm|refine J4 ?_ hm|refine J5 ?_ hm|refine N7 ?_ hm;clear hm;intro _ hm;try simp only[F9]at hm|refine Y4 ?_ hm|refine D8 ?_|refine D6 ?_|refine L8 ?_|refine J6 ?_|refine A0F ?_|refine N9 ?_|refine Y9 ?_|refine W9 ?_|refine E5 ?_|refine C9 ?_|(refine N8 (h1:=fun _=>?_) (h0:=fun _=>?_)<;>try first|contradiction|omega)|refine D9 ?_|refine A7 ?_|refine G8 ?_|refine D7 ?_|refine O1 ?_|refine E8 ?_|refine A8 ?_|refine F5 ?_|refine G5 ?_|refine H8 ?_|refine F7 ?_|(refine D5 (ht:=fun _=>?_) (hf:=fun _=>?_)<;>try first|contradiction|omega))
  all_goals exact⟨I4,_,⟨_,a,c,xs,rfl,⟨da,dp,ea,ep,rfl,hd3,he3⟩,rfl,hfe.le (hleI3.trans hleI4)⟩,hm.left (H:= [_])⟩
 rw[if_neg k7];by_cases k8:q.kind=8
 ·rw[if_pos k8,C7o]
  have hR8:=fun (J:P6) (m:Le I J)=>C8x q.text q.args J (hfe.le m) hA (fun h=>C7q (s:=tx) h) aa ac (hra.le m)
  generalize B5R (J7 tx) q.text q.args=r at hR8 |-;by_cases he:r.err≠0
  ·rw[if_pos he]
   repeat' (first|refine F6 (d:=46) ?_ hm (hp:=pm1_1) (hc:=hN);clear hm;rintro _ I3 _ _ ⟨rfl,rfl⟩ hleI3 hm;try simp only[F9]at hm;have hp3:=PtrI.le hp hleI3|refine A1k (id:=23) (hm.perm pm0) [0,1,2,3,4,5,6,7,8,9,10,11] 14 (h:=?_);clear hm;intro wd hR hm|refine A4o (d:=98) ?_ hR|refine A42 (d:=107) hm (by rfl) (by rfl) (by rfl) pm0 (hR8 I3 hleI3) ?_;clear hm;rintro _ I4 _ _ ⟨rfl,ea,ep,rfl,hre⟩ hleI4 hm;try simp only[F9]at hm|refine A6R (i:=12) (j:=13) ?_ (by decide+kernel) (h:=?_)|refine A1j (i:=12) ?_ (by decide+kernel)|refine A1j (i:=13) ?_ (by decide+kernel)|refine A5a (by decide+kernel) ?_;replace hm:=hR.back hm;clear hR;try simp only[F9]at hm|refine A0c ?_ hR|refine B1A (d:=9) ?_ hm;clear hm;intro b9 _ hm|refine B09 ?_|refine U1 (d:=4) ?_ hm;clear hm;intro b4 _ hm|refine Y5 (d:=5) ?_ hm;clear hm;intro b5 _ hm|refine J4 ?_ hm|refine J5 ?_ hm|refine N7 ?_ hm;clear hm;intro _ hm;try simp only[F9]at hm|refine Y4 ?_ hm|refine D8 ?_|refine D6 ?_|refine L8 ?_|refine J6 ?_|refine A0F ?_|refine N9 ?_|refine A0y ?_|refine Y9 ?_|refine W9 ?_|refine E5 ?_|refine C9 ?_|refine Q3 ?_|(refine N8 (h1:=fun _=>?_) (h0:=fun _=>?_)<;>try first|contradiction|omega)|refine D9 ?_|refine A7 ?_|refine G8 ?_|refine D7 ?_|refine O1 ?_|refine E8 ?_|refine A8 ?_|refine F5 ?_|refine G5 ?_|refine H8 ?_|refine F7 ?_|(refine D5 (ht:=fun _=>?_) (hf:=fun _=>?_)<;>try first|contradiction|omega)|refine Z4 ?_|refine O5 ?_|refine J8 ?_)
   all_goals exact⟨I4,_,⟨_,a,c,xs,rfl,A4u.plain I4 rfl rfl,rfl,hfe.le (hleI3.trans hleI4)⟩,hm.tl.tl.hd⟩
  ·rw[if_neg he]
   have he0:r.err=0:=by omega
   repeat' (first|refine F6 (d:=46) ?_ hm (hp:=pm1_1) (hc:=hN);clear hm;rintro _ I3 _ _ ⟨rfl,rfl⟩ hleI3 hm;try simp only[F9]at hm;have hp3:=PtrI.le hp hleI3|refine A1k (id:=23) (hm.perm pm0) [0,1,2,3,4,5,6,7,8,9,10,11] 14 (h:=?_);clear hm;intro wd hR hm|refine A4o (d:=98) ?_ hR|refine A42 (d:=107) hm (by rfl) (by rfl) (by rfl) pm0 (hR8 I3 hleI3) ?_;clear hm;rintro _ I4 _ _ ⟨rfl,ea,ep,rfl,hre⟩ hleI4 hm;try simp only[F9]at hm|refine A6R (i:=12) (j:=13) ?_ (by decide+kernel) (h:=?_)|refine A1j (i:=12) ?_ (by decide+kernel)|refine A1j (i:=13) ?_ (by decide+kernel)|refine A5a (by decide+kernel) ?_;replace hm:=hR.back hm;clear hR;try simp only[F9]at hm|refine A0c ?_ hR|refine B1A (d:=9) ?_ hm;clear hm;intro b9 _ hm|refine B09 ?_|refine U1 (d:=4) ?_ hm;clear hm;intro b4 _ hm|refine Y5 (d:=5) ?_ hm;clear hm;intro b5 _ hm|refine J4 ?_ hm|refine J5 ?_ hm|refine Y1 ?_ hm|refine N7 ?_ hm;clear hm;intro _ hm;try simp only[F9]at hm|refine Y4 ?_ hm|refine D8 ?_|refine D6 ?_|refine L8 ?_|refine J6 ?_|refine A0F ?_|refine N9 ?_|refine A0y ?_|refine Y9 ?_|refine W9 ?_|refine E5 ?_|refine C9 ?_|refine Q3 ?_|(refine N8 (h1:=fun _=>?_) (h0:=fun _=>?_)<;>try first|contradiction|omega)|refine D9 ?_|refine A7 ?_|refine G8 ?_|refine D7 ?_|refine O1 ?_|refine E8 ?_|refine A8 ?_|refine F5 ?_|refine G5 ?_|refine H8 ?_|refine F7 ?_|(refine D5 (ht:=fun _=>?_) (hf:=fun _=>?_)<;>try first|contradiction|omega)|refine Z4 ?_|refine O5 ?_|refine J8 ?_)
   all_goals exact⟨I4,_,⟨_,a,c,xs,rfl,⟨none,0,ea,ep,rfl,A0W _ _ _ _ _,hre⟩,rfl,hfe.le (hleI3.trans hleI4)⟩,hm.tl.tl.hd⟩
 rw[if_neg k8];repeat' (first|refine F6 (d:=46) ?_ hm (hp:=pm1_1) (hc:=hN);clear hm;rintro _ I3 _ _ ⟨rfl,rfl⟩ hleI3 hm;try simp only[F9]at hm;have hp3:=PtrI.le hp hleI3|refine U1 (d:=4) ?_ hm;clear hm;intro b4 _ hm|refine Y5 (d:=5) ?_ hm;clear hm;intro b5 _ hm|refine J4 ?_ hm|refine J5 ?_ hm|refine N7 ?_ hm;clear hm;intro _ hm;try simp only[F9]at hm|refine Y4 ?_ hm|refine D8 ?_|refine D6 ?_|refine L8 ?_|refine J6 ?_|refine A0F ?_|refine N9 ?_|refine Y9 ?_|refine W9 ?_|refine E5 ?_|refine C9 ?_|refine Q3 ?_|(refine N8 (h1:=fun _=>?_) (h0:=fun _=>?_)<;>try first|contradiction|omega)|refine D9 ?_|refine A7 ?_|refine D7 ?_|refine E8 ?_|refine A8 ?_|refine F5 ?_|refine G5 ?_|refine H8 ?_|refine F7 ?_|(refine D5 (ht:=fun _=>?_) (hf:=fun _=>?_)<;>try first|contradiction|omega))
 all_goals exact⟨I3,_,⟨_,a,c,xs,rfl,A4u.plain I3 rfl rfl,rfl,hfe.le hleI3⟩,hm.tl.hd⟩
def A5g (I:P6):List Sp.Rpl->List Value->Prop
 | [],xs=>xs= []
 |r::rs,xs=> ∃c t,xs=c++t/\A4u I r c/\A5g I rs t
theorem A4u.le {I I':P6}{r:Sp.Rpl}{c:List Value} (h:A4u I r c) (m:Le I I'):A4u I' r c:=by
 obtain⟨da,dp,ea,ep,h1,h2,h3⟩:=h;exact⟨da,dp,ea,ep,h1,h2.le m,h3.le m⟩
theorem A4u.len {I:P6}{r:Sp.Rpl}{c:List Value} (h:A4u I r c):c.length=11:=by
 obtain⟨da,dp,ea,ep,rfl,_⟩:=h;rfl
theorem A5g.le {I I':P6} (m:Le I I'):∀ {rs:List Sp.Rpl}{xs:List Value},A5g I rs xs->A5g I' rs xs
 | [],_,h=>h
 |_::_,_,⟨c,r,e,h1,h2⟩=>⟨c,r,e,h1.le m,A5g.le m h2⟩
theorem A5g.snoc {I:P6}{q:Sp.Rpl}{c:List Value} (hq:A4u I q c):∀ {rs:List Sp.Rpl}{xs:List Value},A5g I rs xs->A5g I (rs++ [q]) (xs++c)
 | [],xs,h=>by
  obtain rfl:xs= []:=h;exact⟨c,[],by simp,hq,rfl⟩
 |_::_,_,⟨c',r,e,h1,h2⟩=>⟨c',r++c,by rw[e,O3],h1,A5g.snoc hq h2⟩
theorem A5g.get {I:P6}:∀ {rs:List Sp.Rpl}{xs:List Value}{i:Nat}{q:Sp.Rpl},A5g I rs xs->rs[i]?=some q->A4u I q ((xs.drop (i *11)).take 11)
 | [],_,_,_,_,h=>by simp at h
 |q::qs,_,0,q',⟨c,r,e,h1,h2⟩,h=>by
  simp only[A0A,U3]at h;subst h;rw[e,A1n,A2o,A11 (by rw[h1.len];omega),A0u (by rw[h1.len];omega)];exact h1
 |q::qs,_,i+1,q',⟨c,r,e,h1,h2⟩,h=>by
  rw[A0E]at h;have:=A5g.get h2 h;rw[e,A5x,List.drop_eq_nil_of_le (by rw[h1.len];omega),P5,h1.len,show (i+1) *11-11=i *11 by omega];exact this
def C2d (rs:List Sp.Rpl) (e:Nat):Value->P6->List HItem->Prop:=fun v I' H'=>H'= []/\∃a cp xs,v=.tuple #[.slice a rs.length cp,nt e]/\RowI I' 80 11 (.slice a rs.length cp) rs.length xs/\A5g I' rs xs
structure PlX where
 k:Nat
 I:P6
 a:Option Addr
 cp:Nat
 xs:List Value
 fa:Option Addr
 fc:Nat
 fx:List Value
theorem C2j {I:P6}{aa:Option Addr}{ac:Nat}{l:List Int} (h:RowI I 3 1 (.slice aa l.length ac) l.length (l.flatMap C2G)):RowI I 3 1 (.slice aa l.length ac) l.length (B8S l):=by
 rw[B4u]at h;exact h
theorem B5T {I:P6}{qs:List Sp.Qn}{la:Option Addr}{lc:Nat}{ys:List Value} (hr:RowI I 72 6 (.slice la qs.length lc) qs.length ys) (hat:A1d I qs ys) (hq:∀q∈qs,q.text.length<=1099511627776) (hC:Conv I) (hT:A8B I) (hlen:qs.length<=1099511627776):
  CalM prog 33 #[.slice la qs.length lc] I [] (if 40<qs.length then C2d [] 5 else C2d (Sp.rpQ A2g qs) 0):=by
 refine CalM.of fun w E hm=>enter (N:=35) func33 rfl [(0,.slice la qs.length lc)] A0I rfl ?_
 by_cases h40:40<qs.length
 ·rw[if_pos h40]
  repeat' (first|refine D8 ?_|refine D6 ?_|refine A0F ?_|refine G7 ?_|refine D9 ?_|refine A7 ?_|refine G8 ?_|refine E8 ?_|refine A8 ?_|refine H8 ?_|refine A1T ?_|(refine D5 (ht:=fun _=>?_) (hf:=fun _=>?_)<;>try first|contradiction|omega))
  exact⟨I,[],⟨rfl,none,0,[],rfl,A0W _ _ _ _ _,rfl⟩,hm⟩
 rw[if_neg h40];repeat' (first|refine A0K (d:=12) ?_ hm;clear hm;intro b12 _ hm|refine D8 ?_|refine D6 ?_|refine A0F ?_|refine G7 ?_|refine Q3 ?_|refine D9 ?_|refine A7 ?_|refine E8 ?_|refine A8 ?_|refine F5 ?_|refine G5 ?_|(refine D5 (ht:=fun _=>?_) (hf:=fun _=>?_)<;>try first|contradiction|omega))
 have hm:=hm.nil 80 11;refine U2 (fun x:PlX=> [(0,.slice la qs.length lc),(4,ptr b12),(5,.slice x.a (Sp.rpQ A2g (qs.take x.k)).length x.cp),(14,nt qs.length),(15,nt x.k)])
  (fun x w'=>Mem E x.I [.row (.slice x.a (Sp.rpQ A2g (qs.take x.k)).length x.cp) 80 11 (Sp.rpQ A2g (qs.take x.k)).length x.xs,B3H b12 (Sp.stQ A2g (qs.take x.k)) x.fa x.fc] w'/\Le I x.I/\x.k<=qs.length/\A5g x.I (Sp.rpQ A2g (qs.take x.k)) x.xs/\FE x.I (J7 (Sp.stQ A2g (qs.take x.k)).text) x.fa x.fc x.fx) (fun x=>qs.length-x.k) ⟨0,I,none,0,[],none,0,[]⟩
  (by exact⟨rfl,rfl,rfl,rfl,rfl,trivial⟩) ⟨hm,Le.refl _,H7 _,rfl,?_⟩ ?_
 ·exact⟨A0W _ _ _ _ _,rfl,by dsimp only;rw[Z9];decide+kernel⟩
 clear hm;rintro⟨k,I1,oa,op,xs,fa,fc,fx⟩ w1 ⟨hm,hle,hk,hrs,hfe⟩;dsimp only at hm hle hk hrs hfe |-;by_cases hlt:k<qs.length
 ·have hg:qs[k]?=some qs[k]:=G6 hlt
  have hqk:=hq _ (O7 hlt);have hs1:=C31 A2g hg;have hs2:=C4e A2g hg;have hok:=B51 (qs.take k) C3E;have hl1:(Sp.rpQ A2g (qs.take k)).length<=40:=by rw[A9z,Q4];omega
  obtain⟨aa,ac,hci,hargs⟩:=(hat.le hle).get hg;have hr1:=hr.le hle;generalize qs[k]=q at hg hqk hs1 hs2 hci hargs;generalize Sp.stQ A2g (qs.take k)=st at hm hfe hs1 hs2 hok;generalize Sp.rpQ A2g (qs.take k)=rs at hm hrs hs1 hl1;have hA:=fun (bt ot:Nat) (hp:C2l I1 bt ot q aa ac)=>C8z hok q hqk I1 (hC.le hle) (hT.le hle) hfe b12 hp (C2j hargs)
  have hid:A7w st q= { (A8K st q).2 with id:=q.id}:=rfl;generalize A7w st q=rp at hs1 hid;generalize A8K st q=an at hA hs2 hid;obtain⟨st2,r⟩:=an;dsimp only at hA hs2 hid;repeat' (first|refine O0 (d:=21) ?_ (hr:=hr1);intro bt ot hpt;rw[show ((k:Int).toNat *6)=k *6 from rfl,hci]at hpt|refine O0 (d:=25) ?_ (hr:=hr1.le hleI2);intro bu ou hpu;rw[show ((k:Int).toNat *6)=k *6 from rfl,hci]at hpu|refine F6 (d:=22) ?_ hm (hp:=pm1_1) (hc:=hA bt ot hpt);clear hm;rintro _ I2 _ _ ⟨_,a3,c3,x3,rfl,⟨da,dp,ea,ep,rfl,hd3,he3⟩,rfl,hfe3⟩ hleI2 hm;try simp only[F9]at hm|refine Y5 (d:=7) ?_ hm;clear hm;intro b7 _ hm|refine A2l (d:=32) ?_ hm;clear hm;intro a32 cp32 _ _ hm;try simp only[F9]at hm|refine J5 ?_ hm|refine Y1 ?_ hm|refine O6 hm (k:=?_);clear hm;intro _ hm;try simp only[F9]at hm|refine D8 ?_|refine D6 ?_|refine J6 ?_|refine P7 ?_|refine C9 ?_|refine D9 ?_|refine A7 ?_|refine D7 ?_|refine E8 ?_|refine A8 ?_|refine F5 ?_|refine G5 ?_|(refine D5 (ht:=fun _=>?_) (hf:=fun _=>?_)<;>try first|contradiction|omega))
  have hrp:A4u I2 rp (rpV rp da dp ea ep):=by
   subst hid;exact⟨da,dp,ea,ep,rfl,hd3,he3⟩
  have hrs2:=A5g.snoc hrp (A5g.le hleI2 hrs);subst hid;refine L9 (⟨k+1,I2,a32,cp32,xs++rpV { r with id:=q.id} da dp ea ep,a3,c3,x3⟩:PlX) (by exact⟨rfl,rfl,by rw[hs1,E9];rfl,rfl,rfl,trivial⟩) ⟨?_,hle.trans hleI2,by dsimp only;omega,by dsimp only;rw[hs1];exact hrs2,by dsimp only;rw[hs2];exact hfe3⟩ (by dsimp only;omega)
  dsimp only
  rw[hs1,hs2,E9];exact hm.tl.swap
 ·obtain rfl:k=qs.length:=by omega
  rw[V5]at hm hrs hfe |-;repeat' (first|refine D8 ?_|refine D6 ?_|refine J6 ?_|refine D9 ?_|refine A7 ?_|refine H9 ?_|refine H5 ?_|refine E8 ?_|refine A8 ?_|refine P9 ?_|refine H8 ?_|refine A1T ?_|(refine D5 (ht:=fun _=>?_) (hf:=fun _=>?_)<;>try first|contradiction|omega))
  obtain⟨I4,hle4,hm4,hrow⟩:=hm.freeze;exact⟨I4,[],⟨rfl,_,_,xs,rfl,hrow,A5g.le hle4 hrs⟩,hm4.left (H:= [])⟩
theorem C4X (d:Sp.DI):A54 (A6k d) (A6k d)=true:=by simp[A54,A8R]
theorem C2J (d:Sp.Ev):A54 (A8t d) (A8t d)=true:=by simp[A54,A8R]
theorem C8A (l:List Sp.DI) (hl:l.length<=1000000000000) (I:P6) (a b:Option Addr) (c d:Nat) (ha:RowI I 85 4 (.slice a l.length c) l.length (l.flatMap A6k)) (hb:RowI I 85 4 (.slice b l.length d) l.length (l.flatMap A6k)):
  CalM prog 64 #[.slice a l.length c,.slice b l.length d] I [] (fun v _ H'=>v=.bool true/\H'= []):=by
 refine CalM.of fun w E hm=>enter (N:=26) func64 rfl [(0,.slice a l.length c),(1,.slice b l.length d)] A0T rfl ?_
 repeat' (first|refine D8 ?_|refine D6 ?_|refine A0y ?_|refine G7 ?_|refine D9 ?_|refine A7 ?_|refine E8 ?_|refine A8 ?_|refine F5 ?_|refine G5 ?_|(refine D5 (ht:=fun _=>?_) (hf:=fun _=>?_)<;>try first|contradiction|omega))
 refine U2 (fun k:Nat=> [(0,.slice a l.length c),(1,.slice b l.length d),(12,nt l.length),(13,nt k)])
  (fun k w'=>Mem E I [] w'/\k<=l.length) (fun k=>l.length-k) 0 (by exact⟨rfl,rfl,rfl,rfl,trivial⟩) ⟨hm,H7 _⟩ ?_
 clear hm;rintro k w1 ⟨hm,hk⟩;try dsimp only at hm hk |-
 by_cases hlt:k<l.length
 ·have hg:l[k]?=some l[k]:=G6 hlt
  generalize l[k]=s at hg;repeat' (first|refine Z7 (d:=18) (enc:=A6k) (z:=s) ?_ (hr:=ha) (he:=fun _=>rfl) (hz:=by exact hg);intro b1 o1 p1|refine Z7 (d:=22) (enc:=A6k) (z:=s) ?_ (hr:=hb) (he:=fun _=>rfl) (hz:=by exact hg);intro b2 o2 p2|refine A6s ?_ hm|refine D8 ?_|refine D6 ?_|refine J6 ?_|refine P7 ?_|refine D9 ?_|refine A7 ?_|refine G8 ?_|refine D7 ?_|refine O1 ?_|refine E8 ?_|refine A8 ?_|refine F5 ?_|refine G5 ?_|refine H8 ?_|refine J9 ?_|refine U5 ?_|refine A0j ?_;intro _ hkq;replace hm:=hm.kept0 hkq;clear hkq|(refine D5 (ht:=fun _=>?_) (hf:=fun _=>?_)<;>try first|contradiction|omega)|refine A8r (ht:=fun _=>?_) (hf:=fun _=>?_)|refine X5 ?_|refine B3A ?_)
  all_goals try (exfalso;rename_i hx;rw[C4X]at hx;exact absurd hx (by decide))
  exact L9 (k+1:Nat) (by exact⟨rfl,rfl,rfl,rfl,trivial⟩) ⟨hm,by omega⟩ (by omega)
 ·obtain rfl:k=l.length:=by omega
  repeat' (first|refine D6 ?_|refine J6 ?_|refine D9 ?_|refine A7 ?_|refine H9 ?_|refine H5 ?_|refine E8 ?_|refine A8 ?_|refine P9 ?_|refine H8 ?_|refine J9 ?_|(refine D5 (ht:=fun _=>?_) (hf:=fun _=>?_)<;>try first|contradiction|omega))
  exact⟨I,[],⟨rfl,rfl⟩,hm⟩
theorem C8B (l:List Sp.Ev) (hl:l.length<=1000000000) (I:P6) (a b:Option Addr) (c d:Nat) (ha:RowI I 186 2 (.slice a l.length c) l.length (l.flatMap A8t)) (hb:RowI I 186 2 (.slice b l.length d) l.length (l.flatMap A8t)):
  CalM prog 60 #[.slice a l.length c,.slice b l.length d] I [] (fun v _ H'=>v=.bool true/\H'= []):=by
 refine CalM.of fun w E hm=>enter (N:=26) func60 rfl [(0,.slice a l.length c),(1,.slice b l.length d)] A0T rfl ?_
 repeat' (first|refine D8 ?_|refine D6 ?_|refine A0y ?_|refine G7 ?_|refine D9 ?_|refine A7 ?_|refine E8 ?_|refine A8 ?_|refine F5 ?_|refine G5 ?_|(refine D5 (ht:=fun _=>?_) (hf:=fun _=>?_)<;>try first|contradiction|omega))
 refine U2 (fun k:Nat=> [(0,.slice a l.length c),(1,.slice b l.length d),(12,nt l.length),(13,nt k)])
  (fun k w'=>Mem E I [] w'/\k<=l.length) (fun k=>l.length-k) 0 (by exact⟨rfl,rfl,rfl,rfl,trivial⟩) ⟨hm,H7 _⟩ ?_
 clear hm;rintro k w1 ⟨hm,hk⟩;try dsimp only at hm hk |-
 by_cases hlt:k<l.length
 ·have hg:l[k]?=some l[k]:=G6 hlt
  generalize l[k]=s at hg;repeat' (first|refine Z7 (d:=18) (enc:=A8t) (z:=s) ?_ (hr:=ha) (he:=fun _=>rfl) (hz:=by exact hg);intro b1 o1 p1|refine Z7 (d:=22) (enc:=A8t) (z:=s) ?_ (hr:=hb) (he:=fun _=>rfl) (hz:=by exact hg);intro b2 o2 p2|refine A6s ?_ hm|refine D8 ?_|refine D6 ?_|refine J6 ?_|refine P7 ?_|refine D9 ?_|refine A7 ?_|refine G8 ?_|refine D7 ?_|refine O1 ?_|refine E8 ?_|refine A8 ?_|refine F5 ?_|refine G5 ?_|refine H8 ?_|refine J9 ?_|refine U5 ?_|refine A0j ?_;intro _ hkq;replace hm:=hm.kept0 hkq;clear hkq|(refine D5 (ht:=fun _=>?_) (hf:=fun _=>?_)<;>try first|contradiction|omega)|refine A8r (ht:=fun _=>?_) (hf:=fun _=>?_)|refine X5 ?_|refine B3A ?_)
  all_goals try (exfalso;rename_i hx;rw[C2J]at hx;exact absurd hx (by decide))
  exact L9 (k+1:Nat) (by exact⟨rfl,rfl,rfl,rfl,trivial⟩) ⟨hm,by omega⟩ (by omega)
 ·obtain rfl:k=l.length:=by omega
  repeat' (first|refine D6 ?_|refine J6 ?_|refine D9 ?_|refine A7 ?_|refine H9 ?_|refine H5 ?_|refine E8 ?_|refine A8 ?_|refine P9 ?_|refine H8 ?_|refine J9 ?_|(refine D5 (ht:=fun _=>?_) (hf:=fun _=>?_)<;>try first|contradiction|omega))
  exact⟨I,[],⟨rfl,rfl⟩,hm⟩
theorem C8E (r:Sp.Rn) (hl:r.ev.length<=1000000000) (I:P6) (a b:Option Addr) (c d:Nat) (ha:RowI I 186 2 (.slice a r.ev.length c) r.ev.length (r.ev.flatMap A8t)) (hb:RowI I 186 2 (.slice b r.ev.length d) r.ev.length (r.ev.flatMap A8t)):
  CalM prog 29 #[C30 a c r,C30 b d r] I [] (fun v _ H'=>v=.bool true/\H'= []):=by
 refine CalM.of fun w E hm=>enter (N:=31) func29 rfl [(0,C30 a c r),(1,C30 b d r)] A0T rfl ?_
 have hE:=C8B r.ev hl I a b c d ha hb;repeat' (first|refine F6 (d:=9) ?_ hm (hp:=pm0) (hc:=hE);clear hm;rintro _ I2 _ _ ⟨rfl,rfl⟩ hleI2 hm;try simp only[F9]at hm|refine A0K (d:=2) ?_ hm;clear hm;intro b2 _ hm|refine A0K (d:=3) ?_ hm;clear hm;intro b3 _ hm|refine J4 ?_ hm|refine D8 ?_|refine D6 ?_|refine O9 ?_|refine N9 ?_|refine C9 ?_|(refine N8 (h1:=fun _=>?_) (h0:=fun _=>?_)<;>try first|contradiction|omega)|refine D9 ?_|refine A7 ?_|refine E8 ?_|refine A8 ?_|refine H8 ?_|refine J9 ?_)
 all_goals exact⟨I2,[],⟨by simp,rfl⟩,hm.left (H:= [])⟩
theorem C7u {r:Sp.Rpl}{c d:List Value}{I:P6} (h1:A4u I r c) (h2:A4u I r d) (hl:r.dgs.length<=1000000000000) (he:r.ran.ev.length<=1000000000):
  CalM prog 34 #[.agg c.toArray,.agg d.toArray] I [] (fun v _ H'=>v=.bool true/\H'= []):=by
 obtain⟨da,dp,ea,ep,rfl,g1,g2⟩:=h1;obtain⟨db,dq,eb,eq,rfl,g3,g4⟩:=h2;refine CalM.of fun w E hm=>enter (N:=59) func34 rfl [(0,.agg (rpV r da dp ea ep).toArray),(1,.agg (rpV r db dq eb eq).toArray)] A0T rfl ?_
 have hD:=C8A r.dgs hl I da db dp dq g1 g3;have hR:=fun (J:P6) (m:Le I J)=>C8E r.ran he J ea eb ep eq (g2.le m) (g4.le m)
 repeat' (first|refine B0R (d:=47) hm (by rfl) (by rfl) (by rfl) (by first|exact gt0|exact gt1|exact gt2|exact gt3|exact gt4|exact gt5|exact gt6) (by rfl) (by rfl) ?_|refine B0R (d:=49) hm (by rfl) (by rfl) (by rfl) (by first|exact gt0|exact gt1|exact gt2|exact gt3|exact gt4|exact gt5|exact gt6) (by rfl) (by rfl) ?_|refine F6 (d:=22) ?_ hm (hp:=pm0) (hc:=hD);clear hm;rintro _ I2 _ _ ⟨rfl,rfl⟩ hleI2 hm;try simp only[F9]at hm|refine F6 (d:=50) ?_ hm (hp:=pm0) (hc:=hR I2 hleI2);clear hm;rintro _ I3 _ _ ⟨rfl,rfl⟩ hleI3 hm;try simp only[F9]at hm|refine A0K (d:=2) ?_ hm;clear hm;intro b2 _ hm|refine A0K (d:=3) ?_ hm;clear hm;intro b3 _ hm|refine J4 ?_ hm|refine D8 ?_|refine D6 ?_|refine O9 ?_|refine N9 ?_|refine V9 ?_|refine C9 ?_|(refine N8 (h1:=fun _=>?_) (h0:=fun _=>?_)<;>try first|contradiction|omega)|refine D9 ?_|refine A7 ?_|refine E8 ?_|refine A8 ?_|refine H8 ?_|refine J9 ?_)
 all_goals exact⟨I3,[],⟨by simp,rfl⟩,hm.left (H:= [])⟩
theorem A1d.one {I:P6}:∀ {qs:List Sp.Qn}{xs:List Value},A1d I qs xs->∀u∈xs,u.oneCell'=true
 | [],xs,h,u,hu=>by
  obtain rfl:xs= []:=h;cases hu
 |q::qs,xs,h,u,hu=>by
  obtain⟨c,r,rfl,⟨a,cp,rfl,_⟩,h2⟩:=h;rcases A0d.1 hu with hu|hu
  ·simp only[V8,List.not_mem_nil,or_false]at hu
   rcases hu with rfl|rfl|rfl|rfl|rfl|rfl<;>rfl
  ·exact h2.one u hu
theorem C0P (I:P6) (q:Sp.Qn) (h:q.args= []):A7g I q (B6B q.id q.kind q.fr q.to q.text none 0 0):=by
 refine⟨none,0,by rw[h];rfl,?_⟩
 rw[h];exact A0W _ _ _ _ _
theorem C6c (I:P6) (hC:Conv I) (hT:A8B I):CalM prog 31 #[] I [] (fun v _ H'=>v=.bool true/\H'= []):=by
 refine CalM.of fun w E hm=>enter (N:=40) func31 rfl [] C6l rfl ?_
 obtain⟨r0,r1,r2,hrs⟩:∃r0 r1 r2,Sp.rpQ A2g B7Y= [r0,r1,r2]:=⟨_,_,_,rfl⟩;have hal:=C1U;rw[hrs]at hal;obtain⟨e0,e2,e3⟩:=hal;simp only[List.getD_cons_zero,List.getD_cons_succ]at e0 e2 e3;have hP:=fun (J:P6) (m:Le I J) (b:Nat) (ys:List Value) (h:RowI J 72 6 (.slice (some ⟨b,0,none⟩) 3 3) 3 ys) (h2:A1d J B7Y ys)=>B5T (qs:=B7Y) h h2 (fun q hq=>by
  simp only[B7Y,V8,List.not_mem_nil,or_false]at hq;rcases hq with rfl|rfl|rfl<;>decide) (hC.le m) (hT.le m) (by decide)
 rw[if_neg (by decide),hrs]at hP;repeat' (first|refine A2R (d:=7) ?_ hm;clear hm;intro b7 _ hm;obtain⟨I3,hle3,hm3,hr7⟩:=hm.freeze;clear hm;have hm:=hm3;clear hm3;have ha7:A1d I3 B7Y _:=⟨_,_,rfl,C0P _ _ rfl,_,_,rfl,C0P _ _ rfl,_,[],rfl,C0P _ _ rfl,rfl⟩|refine F6 (d:=8) ?_ hm (hp:=pm0) (hc:=hP I3 hle3 b7 _ hr7 ha7);clear hm;rintro _ I4 _ _ ⟨rfl,pa,pc,ps,rfl,hpr,hps⟩ hleI4 hm;try simp only[F9]at hm;obtain⟨da,dp,ea,ep,hc0,_,_⟩:=hps.get (i:=0) rfl;obtain⟨db,dq,eb,eq,hc2,_,_⟩:=hps.get (i:=2) rfl|refine O0 (d:=20) ?_ (hr:=hpr) (h1:=by simp);intro bt ot hpt;rw[show ((0:Int).toNat *11)=0 *11 from rfl,hc0]at hpt|refine O0 (d:=27) ?_ (hr:=hpr) (h1:=by simp);intro bu ou hpu;rw[show ((2:Int).toNat *11)=2 *11 from rfl,hc2]at hpu|refine O0 (d:=34) ?_ (hr:=hpr) (h1:=by simp);intro bx ox hpx;rw[show ((2:Int).toNat *11)=2 *11 from rfl,hc2]at hpx|refine J5 (d:=37) (off:=ox) (j:=7) ?_ hm (hp:=hpx)|refine J5 ?_ hm|refine D8 ?_|refine D6 ?_|refine O9 ?_|refine N9 ?_|refine G7 ?_|refine W9 ?_|refine C9 ?_|refine Q3 ?_|(refine N8 (h1:=fun _=>?_) (h0:=fun _=>?_)<;>try first|contradiction|omega)|refine D9 ?_|refine A7 ?_|refine E8 ?_|refine A8 ?_|refine H8 ?_|refine J9 ?_)
 all_goals exact⟨I4,[],⟨by rw[e3];rfl,rfl⟩,hm.left (H:= [])⟩
theorem C7L {I:P6}{qs:List Sp.Qn}{la:Option Addr}{lc:Nat}{ys:List Value} (hr:RowI I 72 6 (.slice la qs.length lc) qs.length ys) (hat:A1d I qs ys) (hq:∀q∈qs,q.text.length<=1099511627776) (hC:Conv I) (hT:A8B I) (hlen:qs.length<=39):
  CalM prog 32 #[.slice la qs.length lc] I [] (fun v _ H'=>v=.tuple #[str (Sp.stQ A2g qs).text,.bool (Sp.stQ A2g qs).op]/\H'= []):=by
 refine CalM.of fun w E hm=>enter (N:=33) func32 rfl [(0,.slice la qs.length lc)] A0I rfl ?_
 have hone:=hat.one;have hP:=fun (J:P6) (m:Le I J) (a:Option Addr) (cp:Nat) (xs:List Value) (h:RowI J 72 6 (.slice a (qs.length+1) cp) (qs.length+1) xs) (h2:A1d J (qs++ [A8A]) xs)=>B5T (qs:=qs++ [A8A]) (la:=a) (lc:=cp) (by rw[E9];exact h) h2 (fun q hq'=>by
  rcases A0d.1 hq' with h|h
  ·exact hq q h
  ·rw[A0v.1 h];decide) (hC.le m) (hT.le m) (by rw[E9];show qs.length+1<=_;omega)
 rw[E9,if_neg (by show ¬40<qs.length+1;omega),B2z]at hP;have hrl:=A9z A2g qs;have hsh:=(B51 qs C3E).shut;have htx:=C5M (Sp.stQ A2g qs) A8A rfl;have hlast:Sp.rpQ (Sp.stQ A2g qs) [A8A]= [A7w (Sp.stQ A2g qs) A8A]:=rfl;rw[hlast]at hP;have hget:(Sp.rpQ A2g qs++ [A7w (Sp.stQ A2g qs) A8A])[qs.length]?=some (A7w (Sp.stQ A2g qs) A8A):=by
  rw[A19 (by omega),hrl,A3N];rfl
 have hlen2:(Sp.rpQ A2g qs++ [A7w (Sp.stQ A2g qs) A8A]).length=qs.length+1:=by rw[E9,hrl];rfl
 generalize A7w (Sp.stQ A2g qs) A8A=rp at hP htx hget hlen2;generalize Sp.stQ A2g qs=st at hsh htx |-;generalize Sp.rpQ A2g qs++ [rp]=rs at hP hget hlen2;have hP2:∀(J:P6) (m:Le I J) (n:Nat) (hn:n=qs.length+1) (a:Option Addr) (cp:Nat) (xs:List Value) (h:RowI J 72 6 (.slice a n cp) n xs) (h2:A1d J (qs++ [A8A]) xs),CalM prog 33 #[.slice a n cp] J [] (fun v I' H'=>H'= []/\∃pa pc ps,v=Value.tuple #[.slice pa (qs.length+1) pc,nt 0]/\RowI I' 80 11 (.slice pa (qs.length+1) pc) (qs.length+1) ps/\∃da dp ea ep,(ps.drop (qs.length *11)).take 11=rpV rp da dp ea ep):=fun J m n hn a cp xs h h2=>by
  subst hn;exact(hP J m a cp xs h h2).mono (fun v I' H' _ ⟨e1,pa,pc,ps,e2,e3,e4⟩=>by
   rw[hlen2]at e2 e3;obtain⟨da,dp,ea,ep,hc,_,_⟩:=e4.get hget;exact⟨e1,pa,pc,ps,e2,e3,da,dp,ea,ep,hc⟩)
 clear hP;obtain⟨tx,op⟩:=st;cases op with
 |true=>
  rw[if_pos rfl]at htx;subst htx;repeat' (first|refine A2R (d:=7) ?_ hm;clear hm;intro b7 _ hm|refine A9s (d:=9) ?_ hm (hr:=hr) (h1:=hone);clear hm;intro a9 cp9 _ hm;try simp only[F9]at hm|refine A2l (d:=12) ?_ hm;clear hm;intro a12 cp12 _ _ hm;try simp only[F9]at hm;obtain⟨I3,hle3,hm3,hr7⟩:=hm.freeze;clear hm;have hm:=hm3;clear hm3;have ha7:=A1d.snoc (C0P I3 A8A rfl) (hat.le hle3)|refine F6 (d:=13) ?_ hm (hp:=pm0) (hc:=hP2 I3 hle3 _ (by omega) _ _ _ hr7 ha7);clear hm;rintro _ I4 _ _ ⟨rfl,pa,pc,ps,rfl,hpr,da,dp,ea,ep,hc⟩ hleI4 hm;try simp only[F9]at hm|refine O0 (d:=22) ?_ (hr:=hpr);intro bt ot hpt;rw[show (((qs.length:Nat):Int).toNat *11)=qs.length *11 from rfl,hc]at hpt|refine O0 (d:=30) ?_ (hr:=hpr);intro bu ou hpu;rw[show (((qs.length:Nat):Int).toNat *11)=qs.length *11 from rfl,hc]at hpu|refine J5 ?_ hm|refine D8 ?_|refine D6 ?_|refine L8 ?_|refine A0y ?_|refine G7 ?_|refine W9 ?_|refine C9 ?_|refine Q3 ?_|refine D9 ?_|refine A7 ?_|refine E8 ?_|refine A8 ?_|refine G5 ?_|refine H8 ?_|refine A1T ?_|refine F7 ?_)
  all_goals exact⟨I4,[],⟨rfl,rfl⟩,hm.left (H:= [])⟩
 |false=>
  rw[if_neg (fun e=>by cases e)]at htx;have h0:tx= []:=hsh rfl;subst h0;subst htx;repeat' (first|refine A2R (d:=7) ?_ hm;clear hm;intro b7 _ hm|refine A9s (d:=9) ?_ hm (hr:=hr) (h1:=hone);clear hm;intro a9 cp9 _ hm;try simp only[F9]at hm|refine A2l (d:=12) ?_ hm;clear hm;intro a12 cp12 _ _ hm;try simp only[F9]at hm;obtain⟨I3,hle3,hm3,hr7⟩:=hm.freeze;clear hm;have hm:=hm3;clear hm3;have ha7:=A1d.snoc (C0P I3 A8A rfl) (hat.le hle3)|refine F6 (d:=13) ?_ hm (hp:=pm0) (hc:=hP2 I3 hle3 _ (by omega) _ _ _ hr7 ha7);clear hm;rintro _ I4 _ _ ⟨rfl,pa,pc,ps,rfl,hpr,da,dp,ea,ep,hc⟩ hleI4 hm;try simp only[F9]at hm|refine O0 (d:=22) ?_ (hr:=hpr);intro bt ot hpt;rw[show (((qs.length:Nat):Int).toNat *11)=qs.length *11 from rfl,hc]at hpt|refine J5 ?_ hm|refine D8 ?_|refine D6 ?_|refine L8 ?_|refine A0y ?_|refine G7 ?_|refine W9 ?_|refine C9 ?_|refine Q3 ?_|refine D9 ?_|refine A7 ?_|refine G8 ?_|refine E8 ?_|refine A8 ?_|refine H8 ?_|refine A1T ?_|refine H6 ?_)
  all_goals exact⟨I4,[],⟨rfl,rfl⟩,hm.left (H:= [])⟩
theorem C7K {J:P6} (qs:List Sp.Qn) (q':Sp.Qn) (hq:∀q∈qs,q.text.length<=1099511627776) (hq':q'.text.length<=1099511627776) (hC:Conv J) (hT:A8B J) (hlen:qs.length<=39) (n:Nat) (hn:n=qs.length+1) (a:Option Addr) (cp:Nat) (xs:List Value)
  (h:RowI J 72 6 (.slice a n cp) n xs) (h2:A1d J (qs++ [q']) xs):CalM prog 33 #[.slice a n cp] J [] (fun v I' H'=>H'= []/\∃pa pc ps,v=Value.tuple #[.slice pa (qs.length+1) pc,nt 0]/\RowI I' 80 11 (.slice pa (qs.length+1) pc) (qs.length+1) ps/\A5g I' (Sp.rpQ A2g qs++ [A7w (Sp.stQ A2g qs) q']) ps):=by
 subst hn;have hP:=B5T (qs:=qs++ [q']) (la:=a) (lc:=cp) (by rw[E9];exact h) h2 (fun q hx=>by
  rcases A0d.1 hx with h|h
  ·exact hq q h
  ·rw[A0v.1 h];exact hq') hC hT (by rw[E9];show qs.length+1<=_;omega)
 rw[E9,if_neg (by show ¬40<qs.length+1;omega),B2z]at hP;have hl:(Sp.rpQ A2g qs++Sp.rpQ (Sp.stQ A2g qs) [q']).length=qs.length+1:=by rw[E9,A9z];rfl
 refine hP.mono (fun v I' H' _ ⟨e1,pa,pc,ps,e2,e3,e4⟩=>?_)
 rw[hl]at e2 e3;exact⟨e1,pa,pc,ps,e2,e3,e4⟩
theorem C3u (qs:List Sp.Qn) (q':Sp.Qn):(Sp.rpQ A2g qs++ [A7w (Sp.stQ A2g qs) q'])[qs.length]?=some (A7w (Sp.stQ A2g qs) q'):=by
 rw[A19 (by rw[A9z];exact G9 _),A9z,A3N];rfl
theorem C4a (qs:List Sp.Qn) (q:Sp.Qn) {la qa:Option Addr}{lc qc:Nat}{ys:List Value} (I:P6) (hr:RowI I 72 6 (.slice la qs.length lc) qs.length ys) (hat:A1d I qs ys) (hq:∀q∈qs,q.text.length<=1099511627776) (hlen:qs.length<=1099511627776)
  (hqr:RowI I 3 1 (.slice qa q.args.length qc) q.args.length (q.args.flatMap C2G)) (hql:q.text.length<=1099511627776) (hC:Conv I) (hT:A8B I):
  CalM prog 7 #[.slice la qs.length lc,.agg (B6B q.id q.kind q.fr q.to q.text qa q.args.length qc).toArray] I [] (fun v _ H'=>v=.bool true/\H'= []):=by
 refine CalM.of fun w E hm=>enter (N:=73) func7 rfl [(0,.slice la qs.length lc),(1,.agg (B6B q.id q.kind q.fr q.to q.text qa q.args.length qc).toArray)] A0T rfl ?_
 have hAl:=C6c I hC hT;have hone:=hat.one;by_cases h40:40<=qs.length
 ·skip
  repeat' (first|refine F6 (d:=11) ?_ hm (hp:=pm0) (hc:=hAl);clear hm;rintro _ I1 _ _ ⟨rfl,rfl⟩ hleI1 hm;try simp only[F9]at hm|refine A0K (d:=3) ?_ hm;clear hm;intro b3 _ hm|refine D8 ?_|refine D6 ?_|refine O9 ?_|refine A04 ?_|refine G7 ?_|refine Y9 ?_|refine A0N ?_|(refine N8 (h1:=fun _=>?_) (h0:=fun _=>?_)<;>try first|contradiction|omega)|refine D9 ?_|refine A7 ?_|refine G8 ?_|refine E8 ?_|refine A8 ?_|refine G5 ?_|refine H8 ?_|refine J9 ?_|refine H6 ?_|refine F7 ?_)
  all_goals exact⟨I1,[],⟨rfl,rfl⟩,hm.left (H:= [])⟩
 by_cases hk:q.kind=1\/q.kind=2\/q.kind=6
 ·skip
  repeat' (first|refine F6 (d:=11) ?_ hm (hp:=pm0) (hc:=hAl);clear hm;rintro _ I1 _ _ ⟨rfl,rfl⟩ hleI1 hm;try simp only[F9]at hm|refine A0K (d:=3) ?_ hm;clear hm;intro b3 _ hm|refine J4 ?_ hm|refine D8 ?_|refine D6 ?_|refine O9 ?_|refine L8 ?_|refine A04 ?_|refine N9 ?_|refine G7 ?_|refine Y9 ?_|refine C9 ?_|refine A0N ?_|(refine N8 (h1:=fun _=>?_) (h0:=fun _=>?_)<;>try first|contradiction|omega)|refine D9 ?_|refine A7 ?_|refine G8 ?_|refine E8 ?_|refine A8 ?_|refine G5 ?_|refine H8 ?_|refine J9 ?_|refine H6 ?_|refine F7 ?_|(refine D5 (ht:=fun _=>?_) (hf:=fun _=>?_)<;>try first|contradiction|omega))
  all_goals exact⟨I1,[],⟨rfl,rfl⟩,hm.left (H:= [])⟩
 have htx:=fun (J:P6) (m:Le I J)=>C7L (hr.le m) (hat.le m) hq (hC.le m) (hT.le m) (by omega)
 have hmo:=fun (J:P6) (m:Le I J)=>C7K (J:=J) qs q hq hql (hC.le m) (hT.le m) (by omega)
 have hget:=C3u qs q;have hok:=B51 qs C3E;have hfe:=C7n hok q;have hPl:=fun (o:Sp.Qn) (ho:o.text.length<=1099511627776) (J:P6) (m:Le I J) (a:Option Addr) (cp:Nat) (xs:List Value) (h:RowI J 72 6 (.slice a 2 cp) 2 xs) (h2:A1d J [o,q] xs)=>B5T (qs:= [o,q]) h h2 (fun x hx=>by
  rcases V8.1 hx with rfl|hx
  ·exact ho
  ·rw[A0v.1 hx];exact hql) (hC.le m) (hT.le m) (by show 2<=1099511627776;decide)
 have hsame:∀o:Sp.Qn,o.kind=1->o.text=(Sp.stQ A2g qs).text->(Sp.stQ A2g qs).op=true->Sp.rpQ A2g [o,q]= [A7w A2g o,A7w (Sp.stQ A2g qs) q]:=fun o h1 h2 h3=>by
  have:=C5t hok h3 o h1 h2;show [A7w A2g o,A7w (A8K A2g o).1 q]=_
  rw[this]
 have htl:=B5A hok;generalize A7w (Sp.stQ A2g qs) q=rp at hmo hget hfe hsame;generalize Sp.rpQ A2g qs++ [rp]=rs at hmo hget;generalize Sp.stQ A2g qs=st at htx hok hsame htl;obtain⟨tx,op⟩:=st;cases op with
 |false=>
  repeat' (first|refine F6 (d:=11) ?_ hm (hp:=pm0) (hc:=hAl);clear hm;rintro _ I1 _ _ ⟨rfl,rfl⟩ hleI1 hm;try simp only[F9]at hm|refine F6 (d:=33) ?_ hm (hp:=pm0) (hc:=htx I1 hleI1);clear hm;rintro _ I2 _ _ ⟨rfl,rfl⟩ hleI2 hm;try simp only[F9]at hm|refine A0K (d:=3) ?_ hm;clear hm;intro b3 _ hm|refine J4 ?_ hm|refine D8 ?_|refine D6 ?_|refine L8 ?_|refine A04 ?_|refine N9 ?_|refine G7 ?_|refine Y9 ?_|refine W9 ?_|refine C9 ?_|(refine N8 (h1:=fun _=>?_) (h0:=fun _=>?_)<;>try first|contradiction|omega)|refine D9 ?_|refine A7 ?_|refine G8 ?_|refine E8 ?_|refine A8 ?_|refine G5 ?_|refine H8 ?_|refine J9 ?_|refine H6 ?_|refine F7 ?_|(refine D5 (ht:=fun _=>?_) (hf:=fun _=>?_)<;>try first|contradiction|omega))
  all_goals exact⟨I2,[],⟨rfl,rfl⟩,hm.left (H:= [])⟩
 |true=>
 dsimp only at hsame htl;have hs2:=hsame ⟨0,1,0,0,tx,[]⟩ rfl rfl rfl;generalize A7w A2g ⟨0,1,0,0,tx,[]⟩=ro at hs2;have hP2:=fun (J:P6) (m:Le I J) (a:Option Addr) (cp:Nat) (xs:List Value) (h:RowI J 72 6 (.slice a 2 cp) 2 xs) (h2:A1d J [⟨0,1,0,0,tx,[]⟩,q] xs)=>hPl ⟨0,1,0,0,tx,[]⟩ (by dsimp only;omega) J m a cp xs h h2
 rw[if_neg (by show ¬40<2;decide),hs2]at hP2;clear hPl hsame hs2;have hqone:∀u∈B6B q.id q.kind q.fr q.to q.text qa q.args.length qc,u.oneCell'=true:=A1d.one (qs:= [q]) (I:=I) ⟨_,[],(J3 _).symm,⟨qa,qc,rfl,hqr⟩,rfl⟩;obtain⟨hlr,_⟩:=A0t.1 hget;repeat' (first|refine F6 (d:=11) ?_ hm (hp:=pm0) (hc:=hAl);clear hm;rintro _ I1 _ _ ⟨rfl,rfl⟩ hleI1 hm;try simp only[F9]at hm|refine F6 (d:=33) ?_ hm (hp:=pm0) (hc:=htx I1 hleI1);clear hm;rintro _ I2 _ _ ⟨rfl,rfl⟩ hleI2 hm;try simp only[F9]at hm;have hle2:=hleI1.trans hleI2;have hr2:=hr.le hle2|refine A0H 8 ?_|refine A0K (d:=3) ?_ hm;clear hm;intro b3 _ hm|refine J4 ?_ hm|refine D8 ?_|refine D6 ?_|refine L8 ?_|refine A04 ?_|refine N9 ?_|refine G7 ?_|refine Y9 ?_|refine W9 ?_|refine C9 ?_|(refine N8 (h1:=fun _=>?_) (h0:=fun _=>?_)<;>try first|contradiction|omega)|refine D9 ?_|refine A7 ?_|refine E8 ?_|refine A8 ?_|refine G5 ?_|refine F7 ?_|(refine D5 (ht:=fun _=>?_) (hf:=fun _=>?_)<;>try first|contradiction|omega))
 refine⟨?_⟩
 repeat' (first|refine A1k (id:=8) (hm.perm pm0) [1,3] 11 (h:=?_);clear hm;intro wd hR hm|refine A4o (d:=42) ?_ hR|refine B7s (d:=39) (vs:= []) (xs:= []) hm (by rfl) (by rfl) (by rfl) (by rfl) (by rfl) (by rfl) (by rfl) (by rfl) ?_;clear hm;intro b39 _ hm|refine C1r (d:=43) hm (by rfl) (by rfl) (by rfl) (by rfl) (by rfl) (by rfl) (by rfl) ?_;clear hm;intro I43 a43 _ hle43 hm hr43|refine C0j (d:=41) hm (by rfl) (by rfl) (by rfl) (by rfl) (by first|exact gt0|exact gt1|exact gt2|exact gt3|exact gt4|exact gt5|exact gt6) (by first|exact hr2|exact hr2.le hle43) hone (by omega) (by omega) ?_;clear hm;intro a41 cp41 _ hm;try simp only[F9]at hm|refine C0j (d:=44) hm (by rfl) (by rfl) (by rfl) (by rfl) (by first|exact gt0|exact gt1|exact gt2|exact gt3|exact gt4|exact gt5|exact gt6) hr43 hqone (by omega) (by omega) ?_;clear hm;intro a44 cp44 _ hm;try simp only[F9]at hm;obtain⟨I3,hle3,hm3,hr44⟩:=hm.freeze;clear hm;have hm:=hm3;clear hm3;have hl3:=(hle2.trans hle43).trans hle3;have ha44:A1d I3 (qs++ [q]) _:=A1d.snoc ⟨qa,qc,rfl,hqr.le hl3⟩ (hat.le hl3)|refine A42 (d:=45) hm (by rfl) (by rfl) (by rfl) pm0 (hmo I3 hl3 _ (by omega) _ _ _ hr44 ha44) ?_;clear hm;rintro _ I4 _ _ ⟨rfl,pa,pc,ps,rfl,hpr,hps⟩ hleI4 hm;try simp only[F9]at hm|refine A6R (i:=0) (j:=4) ?_ (by decide+kernel) (h:=?_)|refine A6R (i:=2) (j:=4) ?_ (by decide+kernel) (h:=?_)|refine A1j (i:=0) ?_ (by decide+kernel)|refine A1j (i:=2) ?_ (by decide+kernel)|refine A1j (i:=4) ?_ (by decide+kernel)|refine A1j (i:=5) ?_ (by decide+kernel)|refine A1j (i:=6) ?_ (by decide+kernel)|refine A3Y [7,8,9,10] (by decide+kernel) hm.kept ?_|refine A6b ?_|refine A5a (by decide+kernel) ?_;replace hm:=hR.back hm;clear hR;try simp only[F9]at hm|refine A2R (d:=52) ?_ hm;clear hm;intro b52 _ hm;obtain⟨I5,hle5,hm5,hr52⟩:=hm.freeze;clear hm;have hm:=hm5;clear hm5;have hl5:=(hl3.trans hleI4).trans hle5;have ha52:A1d I5 [⟨0,1,0,0,tx,[]⟩,q] (B6B 0 1 0 0 tx none 0 0++B6B q.id q.kind q.fr q.to q.text qa q.args.length qc):=⟨_,_,rfl,C0P I5 ⟨0,1,0,0,tx,[]⟩ rfl,_,[],rfl,⟨qa,qc,rfl,hqr.le hl5⟩,rfl⟩|refine F6 (d:=53) ?_ hm (hp:=pm0) (hc:=hP2 I5 hl5 _ _ _ hr52 ha52);clear hm;rintro _ I6 _ _ ⟨rfl,ua,uc,ux,rfl,hur,hux⟩ hleI6 hm;try simp only[F9]at hm;have hpr6:=(hpr.le hle5).le hleI6;have h1:=((hps.get hget).le hle5).le hleI6;have h2:=hux.get (i:=1) rfl;have hl1:=h1.len;have hl2:=h2.len;have hS:=C7u h1 h2 hfe.1 hfe.2;have hul:([ro,rp]:List Sp.Rpl).length=2:=rfl|refine A1k (id:=10) (hm.perm pm0) [0,1,2,3,4,5,6,7,8,9,10,11,12,13,14] 17 (h:=?_);clear hm;intro wd hR hm|refine A05 (d:=66) ?_ (hr:=hpr6);intro bt ot hpt;rw[show (((qs.length:Nat):Int).toNat *11)=qs.length *11 from rfl]at hpt|refine A05 (d:=69) ?_ (hr:=hur);intro bu ou hpu;rw[show ((1:Int).toNat *11)=1 *11 from rfl]at hpu|refine A1W (d:=67) ?_ hR (hp:=hpt) (hc:=hl1)|refine A1W (d:=70) ?_ hR (hp:=hpu) (hc:=hl2)|refine A42 (d:=71) hm (by rfl) (by rfl) (by rfl) pm0 hS ?_;clear hm;rintro _ I7 _ _ ⟨rfl,rfl⟩ hleI7 hm;try simp only[F9]at hm|refine A1j (i:=15) ?_ (by decide+kernel)|refine A3Y [16] (by decide+kernel) hm.kept ?_|refine Y1 ?_ hm|refine D8 ?_|refine D6 ?_|refine W9 ?_|refine Q3 ?_|refine D9 ?_|refine A7 ?_|refine E8 ?_|refine A8 ?_|refine H8 ?_|refine J9 ?_|refine Z4 ?_|refine A5V ?_|refine B8d ?_|refine C8F ?_|refine A9j ?_|refine A4Q ?_)
 all_goals exact⟨_,[],⟨rfl,rfl⟩,hm.left (H:= [])⟩
end Go.Proofs
