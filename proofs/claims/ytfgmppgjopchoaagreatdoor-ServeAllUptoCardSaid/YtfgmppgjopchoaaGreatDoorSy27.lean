/- Own work. -/
import Derived.Test.YtfgmppgjopchoaaGreatDoorSy26
set_option maxHeartbeats 64000000
namespace Go.Sp
theorem C6e (its:List Itm) (nm:List UInt8) (args:List Int):(A9K its nm args).ev.length<=3000:=by
 have h:=A8Q its 40 nm args MR0 (H7 _);have h1:=h.top;have h2:=h.ev;have h3:MR0.ev.length=0:=rfl;have h4:MR0.steps=0:=rfl;rw[A9K];split
 ·exact H7 _
 ·split
  ·exact H7 _
  ·split
   ·exact H7 _
   ·split
    ·exact H7 _
    ·dsimp only;omega
def Rpl.few (r:Rpl):Prop:=r.dgs.length<=1000000000000/\r.ran.ev.length<=1000000000
theorem A9R {r:Rpl} (h1:r.dgs= []) (h2:r.ran.ev= []):r.few:=by rw[Rpl.few,h1,h2];simp
theorem B3O (s:Srv) (t:List UInt8):(B2r s t).2.few:=by
 rw[B2r];split<;>exact A9R rfl rfl
theorem C7P {s:Srv} (h:OkQ s) (q:Qn):(B02 s q).few:=by
 have key:(A5j s q).2.few:=by
  rw[A5j];split
  ·exact A9R rfl rfl
  ·split
   ·exact B3O _ _
   ·split
    ·exact A9R rfl rfl
    ·split
     ·rw[B2l]
      split
      ·split
       ·exact A9R rfl rfl
       ·exact B3O _ _
      ·split
       ·exact A9R rfl rfl
       ·exact B3O _ _
     ·dsimp only
      have hA:=A9m h.err;have hf:=hA.few;rw[C5h];split
      ·have h1:=B1l hA _ (H6 _)
       refine⟨?_,H7 _⟩
       show (A6U (J7 s.text) _).length<=_
       omega
      ·split
       ·rw[C3w];split<;>exact A9R rfl rfl
       ·split
        ·split<;>exact A9R rfl rfl
        ·split
         ·rw[C3H];split<;>exact A9R rfl rfl
         ·split
          ·rw[C7Q]
           split
           ·exact A9R rfl rfl
           ·have h1:=C6e (J7 s.text) q.text q.args
            exact⟨H7 _,by dsimp only;omega⟩
          ·exact A9R rfl rfl
 exact key
theorem C0M:∀ {s:Srv},OkQ s->∀(l:List Qn),∀r∈rpQ s l,r.few
 |_,_,[],r,hr=>by cases hr
 |s,h,q::l,r,hr=>by
  rw[rpQ]at hr;rcases V7.1 hr with rfl|hr
  ·exact C7P h q
  ·exact C0M (C0d h q) l r hr
end Go.Sp
namespace Go.Proofs
open Go.Proofs.Tryz
open Go.Sp
open Go.Fw
theorem C8W {s:Sp.Srv} (h:Sp.OkQ s) (q:Sp.Qn) (hql:q.text.length<=1099511627776) (I:P6) (hC:Conv I) (hT:A55 I) {a:Option Addr}{c:Nat}{xs:List Value} (hfe:FE I (J7 s.text) a c xs) (bs:Nat) {ba off:Nat}{aa:Option Addr}{ac:Nat} (hp:C2I I ba off q aa ac)
  (hra:RowI I 3 1 (.slice aa q.args.length ac) q.args.length (B5B q.args)):
  CalM prog 22 #[ptr bs,.pointer (some ⟨ba,off,none⟩)] I [B3R bs s a c] (C6J bs (A5j s q)):=by
 refine CalM.of fun w E hm=>enter (N:=121) func22 rfl [(0,ptr bs),(1,.pointer (some ⟨ba,off,none⟩))] A0R rfl ?_
 rw[A5j];by_cases hk:q.kind<1\/9<q.kind
 ·rw[if_pos hk]
  repeat' (first|refine S9 (d:=4) ?_ hm;clear hm;intro b4 _ hm|refine J5 ?_ hm|refine N8 ?_ hm;clear hm;intro _ hm;try simp only[F8]at hm|refine Y4 ?_ hm|refine D8 ?_|refine D6 ?_|refine O1 ?_|refine J8 ?_|refine J6 ?_|refine A0v ?_|refine E8 ?_|refine C9 ?_|refine Q4 ?_|refine A0D ?_|(refine N9 (h1:=fun _=>?_) (h0:=fun _=>?_)<;>try first|contradiction|omega)|refine D9 ?_|refine A7 ?_|refine G8 ?_|refine O3 ?_|refine E5 ?_|refine A8 ?_|refine F5 ?_|refine H8 ?_|refine H5 ?_|(refine D5 (ht:=fun _=>?_) (hf:=fun _=>?_)<;>try first|contradiction|omega))
  all_goals exact⟨I,_,⟨_,a,c,xs,rfl,A4s.plain I rfl rfl,rfl,hfe⟩,hm.tl⟩
 rw[if_neg hk];by_cases hk1:q.kind=1
 ·rw[if_pos hk1]
  have hS:=C4u h q.text (by omega) I hC hfe bs;repeat' (first|refine F6 (d:=35) ?_ hm (hp:=pm1_1) (hc:=hS);clear hm;rintro _ I3 _ _ ⟨_,a3,c3,xs3,rfl,⟨da,dp,ea,ep,rfl,hd3,he3⟩,rfl,hfe3⟩ hleI3 hm;try simp only[F8]at hm|refine S9 (d:=4) ?_ hm;clear hm;intro b4 _ hm|refine J5 ?_ hm|refine N8 ?_ hm;clear hm;intro _ hm;try simp only[F8]at hm|refine Y4 ?_ hm|refine D8 ?_|refine D6 ?_|refine J8 ?_|refine J6 ?_|refine A0v ?_|refine O0 ?_|refine E8 ?_|refine C9 ?_|(refine N9 (h1:=fun _=>?_) (h0:=fun _=>?_)<;>try first|contradiction|omega)|refine D9 ?_|refine A7 ?_|refine G8 ?_|refine O3 ?_|refine E5 ?_|refine A8 ?_|refine F5 ?_|refine H8 ?_|(refine D5 (ht:=fun _=>?_) (hf:=fun _=>?_)<;>try first|contradiction|omega))
  all_goals exact⟨I3,_,⟨_,a3,c3,xs3,rfl,⟨da,dp,ea,ep,rfl,hd3,he3⟩,rfl,hfe3⟩,hm.left (H:= [_])⟩
 rw[if_neg hk1];obtain⟨tx,op⟩:=s;cases op with
 |false=>
  rw[if_pos rfl];repeat' (first|refine S9 (d:=4) ?_ hm;clear hm;intro b4 _ hm|refine J4 ?_ hm|refine J5 ?_ hm|refine N8 ?_ hm;clear hm;intro _ hm;try simp only[F8]at hm|refine Y4 ?_ hm|refine D8 ?_|refine D6 ?_|refine J8 ?_|refine J6 ?_|refine A0v ?_|refine O0 ?_|refine Y3 ?_|refine E8 ?_|refine C9 ?_|refine Q4 ?_|(refine N9 (h1:=fun _=>?_) (h0:=fun _=>?_)<;>try first|contradiction|omega)|refine D9 ?_|refine A7 ?_|refine G8 ?_|refine O3 ?_|refine E5 ?_|refine A8 ?_|refine F5 ?_|refine H8 ?_|refine H5 ?_|(refine D5 (ht:=fun _=>?_) (hf:=fun _=>?_)<;>try first|contradiction|omega))
  all_goals exact⟨I,_,⟨_,a,c,xs,rfl,A4s.plain I rfl rfl,rfl,hfe⟩,hm.tl⟩
 |true=>
 rw[if_neg (fun e=>by cases e)];by_cases h26:q.kind=2\/q.kind=6
 ·rw[if_pos h26]
  have hS:CalM prog 32 #[ptr bs,.pointer (some ⟨ba,off,none⟩)] I [B3R bs ⟨tx,true⟩ a c] (C2y bs (B2l ⟨tx,true⟩ q)):=by
   rcases h26 with h2|h6
   ·exact C7T h q h2 hql I hC hfe bs hp
   ·exact C7U h q h6 hql I hC hfe bs hp
  repeat' (first|refine F6 (d:=46) ?_ hm (hp:=pm1_1) (hc:=hS);clear hm;rintro _ I3 _ _ ⟨_,a3,c3,xs3,rfl,⟨da,dp,ea,ep,rfl,hd3,he3⟩,rfl,hfe3⟩ hleI3 hm;try simp only[F8]at hm|refine S9 (d:=4) ?_ hm;clear hm;intro b4 _ hm|refine Y1 (d:=5) ?_ hm;clear hm;intro b5 _ hm|refine J4 ?_ hm|refine J5 ?_ hm|refine X4 ?_ hm|refine N8 ?_ hm;clear hm;intro _ hm;try simp only[F8]at hm|refine Y4 ?_ hm|refine D8 ?_|refine D6 ?_|refine J8 ?_|refine J6 ?_|refine A0v ?_|refine O0 ?_|refine Y3 ?_|refine U6 ?_|refine E8 ?_|refine C9 ?_|(refine N9 (h1:=fun _=>?_) (h0:=fun _=>?_)<;>try first|contradiction|omega)|refine D9 ?_|refine A7 ?_|refine G8 ?_|refine D7 ?_|refine E5 ?_|refine A8 ?_|refine F5 ?_|refine G5 ?_|refine H8 ?_|refine H5 ?_|refine F7 ?_|(refine D5 (ht:=fun _=>?_) (hf:=fun _=>?_)<;>try first|contradiction|omega))
  all_goals exact⟨I3,_,⟨_,a3,c3,xs3,rfl,⟨da,dp,ea,ep,rfl,hd3,he3⟩,rfl,hfe3⟩,hm.tl.hd⟩
 rw[if_neg h26];have hN:=C7S (s:=⟨tx,true⟩) q (fun e=>h26 (.inl e)) (fun e=>h26 (.inr e)) I (a:=a) (c:=c) bs hp;have h4:Y7 tx=0:=h.err;have hA:=A9m h4;have hin:=fun k it (hg:(J7 tx)[k]?=some it)=>C0r tx h4 hg
 have hfe:FE I (J7 tx) a c xs:=hfe;rw[C5h];by_cases k3:q.kind=3
 ·rw[if_pos k3]
  have hD:=fun (J:P6) (m:Le I J)=>C0K J (hfe.le m) hA
  repeat' (first|refine F6 (d:=46) ?_ hm (hp:=pm1_1) (hc:=hN);clear hm;rintro _ I3 _ _ ⟨rfl,rfl⟩ hleI3 hm;try simp only[F8]at hm;have hp3:=PtrI.le hp hleI3|refine B0W (d:=60) hm (by rfl) (by rfl) (by rfl) (by first|exact gt0|exact gt1|exact gt2|exact gt3|exact gt4|exact gt5|exact gt6) (by rfl) (by rfl) ?_|refine F6 (d:=61) ?_ hm (hp:=pm0) (hc:=hD I3 hleI3);clear hm;rintro _ I4 _ _ ⟨rfl,da,dp,rfl,hrd⟩ hleI4 hm;try simp only[F8]at hm|refine S9 (d:=4) ?_ hm;clear hm;intro b4 _ hm|refine Y1 (d:=5) ?_ hm;clear hm;intro b5 _ hm|refine J4 ?_ hm|refine J5 ?_ hm|refine N8 ?_ hm;clear hm;intro _ hm;try simp only[F8]at hm|refine Y4 ?_ hm|refine D8 ?_|refine D6 ?_|refine J8 ?_|refine J6 ?_|refine A0v ?_|refine O0 ?_|refine Y3 ?_|refine U6 ?_|refine E8 ?_|refine C9 ?_|refine Q4 ?_|(refine N9 (h1:=fun _=>?_) (h0:=fun _=>?_)<;>try first|contradiction|omega)|refine D9 ?_|refine A7 ?_|refine G8 ?_|refine D7 ?_|refine O3 ?_|refine E5 ?_|refine A8 ?_|refine F5 ?_|refine G5 ?_|refine H8 ?_|refine F7 ?_|(refine D5 (ht:=fun _=>?_) (hf:=fun _=>?_)<;>try first|contradiction|omega))
  all_goals exact⟨I4,_,⟨_,a,c,xs,rfl,⟨da,dp,none,0,rfl,hrd,A0W _ _ _ _ _⟩,rfl,hfe.le (hleI3.trans hleI4)⟩,hm.tl.hd⟩
 rw[if_neg k3];by_cases k4:q.kind=4
 ·rw[if_pos k4]
  have hH:=fun (J:P6) (m:Le I J)=>C8Z hA hin q.fr J (hfe.le m) bs true
  repeat' (first|refine F6 (d:=46) ?_ hm (hp:=pm1_1) (hc:=hN);clear hm;rintro _ I3 _ _ ⟨rfl,rfl⟩ hleI3 hm;try simp only[F8]at hm;have hp3:=PtrI.le hp hleI3|refine F6 (d:=70) ?_ hm (hp:=pm1_1) (hc:=hH I3 hleI3);clear hm;rintro _ I4 _ _ ⟨_,rfl,⟨da,dp,ea,ep,rfl,hd3,he3⟩,rfl⟩ hleI4 hm;try simp only[F8]at hm|refine S9 (d:=4) ?_ hm;clear hm;intro b4 _ hm|refine Y1 (d:=5) ?_ hm;clear hm;intro b5 _ hm|refine J4 ?_ hm|refine J5 ?_ hm|refine N8 ?_ hm;clear hm;intro _ hm;try simp only[F8]at hm|refine Y4 ?_ hm|refine D8 ?_|refine D6 ?_|refine J8 ?_|refine J6 ?_|refine A0v ?_|refine O0 ?_|refine Y3 ?_|refine U6 ?_|refine E8 ?_|refine C9 ?_|(refine N9 (h1:=fun _=>?_) (h0:=fun _=>?_)<;>try first|contradiction|omega)|refine D9 ?_|refine A7 ?_|refine G8 ?_|refine D7 ?_|refine O3 ?_|refine E5 ?_|refine A8 ?_|refine F5 ?_|refine G5 ?_|refine H8 ?_|refine F7 ?_|(refine D5 (ht:=fun _=>?_) (hf:=fun _=>?_)<;>try first|contradiction|omega))
  all_goals exact⟨I4,_,⟨_,a,c,xs,rfl,⟨da,dp,ea,ep,rfl,hd3,he3⟩,rfl,hfe.le (hleI3.trans hleI4)⟩,hm.left (H:= [_])⟩
 rw[if_neg k4];by_cases k5:q.kind=5
 ·rw[if_pos k5]
  have hD:=fun (J:P6) (m:Le I J)=>C4r q.fr J (hfe.le m) hA.len hA.nm (B1R hA.nm (hfe.few))
  cases hdf:B60 (J7 tx) q.fr with
  |none=>
   rw[hdf]at hD;repeat' (first|refine F6 (d:=46) ?_ hm (hp:=pm1_1) (hc:=hN);clear hm;rintro _ I3 _ _ ⟨rfl,rfl⟩ hleI3 hm;try simp only[F8]at hm;have hp3:=PtrI.le hp hleI3|refine A1m (id:=16) (hm.perm pm0) [0,1,2,3,4,5,6,7] 13 (h:=?_);clear hm;intro wd hR hm|refine A4Y (d:=77) ?_ hR|refine A47 [9,10,11,12] (by decide+kernel) hm.kept ?_|refine A5G (d:=82) hm (by rfl) (by rfl) (by rfl) pm0 (hD I3 hleI3) ?_;clear hm;rintro _ I4 _ _ ⟨rfl,rfl⟩ hleI4 hm;simp only[C1e];try simp only[F8]at hm|refine A1B (i:=8) ?_ (by decide+kernel)|refine A65 ?_|refine A46 (by decide+kernel) ?_;replace hm:=hR.back hm;clear hR;try simp only[F8]at hm|refine A0b ?_ hR|refine S9 (d:=4) ?_ hm;clear hm;intro b4 _ hm|refine Y1 (d:=5) ?_ hm;clear hm;intro b5 _ hm|refine J4 ?_ hm|refine J5 ?_ hm|refine N8 ?_ hm;clear hm;intro _ hm;try simp only[F8]at hm|refine Y4 ?_ hm|refine D8 ?_|refine D6 ?_|refine J8 ?_|refine J6 ?_|refine A0v ?_|refine O0 ?_|refine Y3 ?_|refine U6 ?_|refine E8 ?_|refine C9 ?_|refine Q4 ?_|(refine N9 (h1:=fun _=>?_) (h0:=fun _=>?_)<;>try first|contradiction|omega)|refine D9 ?_|refine A7 ?_|refine G8 ?_|refine D7 ?_|refine O3 ?_|refine E5 ?_|refine A8 ?_|refine F5 ?_|refine G5 ?_|refine H8 ?_|refine F7 ?_|(refine D5 (ht:=fun _=>?_) (hf:=fun _=>?_)<;>try first|contradiction|omega)|refine Z5 ?_|refine A6R ?_|refine A5D ?_|refine O6 ?_|refine L6 ?_)
   all_goals exact⟨I4,_,⟨_,a,c,xs,rfl,A4s.plain I4 rfl rfl,rfl,hfe.le (hleI3.trans hleI4)⟩,hm.tl.hd⟩
  |some df=>
   rw[hdf]at hD;repeat' (first|refine F6 (d:=46) ?_ hm (hp:=pm1_1) (hc:=hN);clear hm;rintro _ I3 _ _ ⟨rfl,rfl⟩ hleI3 hm;try simp only[F8]at hm;have hp3:=PtrI.le hp hleI3|refine A1m (id:=16) (hm.perm pm0) [0,1,2,3,4,5,6,7] 13 (h:=?_);clear hm;intro wd hR hm|refine A4Y (d:=77) ?_ hR|refine A47 [9,10,11,12] (by decide+kernel) hm.kept ?_|refine A5G (d:=82) hm (by rfl) (by rfl) (by rfl) pm0 (hD I3 hleI3) ?_;clear hm;rintro _ I4 _ _ ⟨rfl,rfl⟩ hleI4 hm;simp only[C1e];try simp only[F8]at hm|refine A1B (i:=8) ?_ (by decide+kernel)|refine A65 ?_|refine A46 (by decide+kernel) ?_;replace hm:=hR.back hm;clear hR;try simp only[F8]at hm|refine A0b ?_ hR|refine S9 (d:=4) ?_ hm;clear hm;intro b4 _ hm|refine Y1 (d:=5) ?_ hm;clear hm;intro b5 _ hm|refine J4 ?_ hm|refine J5 ?_ hm|refine N8 ?_ hm;clear hm;intro _ hm;try simp only[F8]at hm|refine Y4 ?_ hm|refine D8 ?_|refine D6 ?_|refine J8 ?_|refine J6 ?_|refine A0v ?_|refine O0 ?_|refine Y3 ?_|refine U6 ?_|refine E8 ?_|refine C9 ?_|refine Q4 ?_|(refine N9 (h1:=fun _=>?_) (h0:=fun _=>?_)<;>try first|contradiction|omega)|refine D9 ?_|refine A7 ?_|refine G8 ?_|refine D7 ?_|refine O3 ?_|refine E5 ?_|refine A8 ?_|refine F5 ?_|refine G5 ?_|refine H8 ?_|refine H5 ?_|refine F7 ?_|(refine D5 (ht:=fun _=>?_) (hf:=fun _=>?_)<;>try first|contradiction|omega)|refine Z5 ?_|refine A6R ?_|refine A5D ?_|refine O6 ?_|refine L6 ?_)
   all_goals exact⟨I4,_,⟨_,a,c,xs,rfl,A4s.plain I4 rfl rfl,rfl,hfe.le (hleI3.trans hleI4)⟩,hm.tl.hd⟩
 rw[if_neg k5];by_cases k7:q.kind=7
 ·rw[if_pos k7]
  have hH:=fun (J:P6) (m:Le I J)=>C80 (src:=tx) rfl J (hT.le m) (hfe.le m) bs true
  repeat' (first|refine F6 (d:=46) ?_ hm (hp:=pm1_1) (hc:=hN);clear hm;rintro _ I3 _ _ ⟨rfl,rfl⟩ hleI3 hm;try simp only[F8]at hm;have hp3:=PtrI.le hp hleI3|refine F6 (d:=92) ?_ hm (hp:=pm1_1) (hc:=hH I3 hleI3);clear hm;rintro _ I4 _ _ ⟨_,rfl,⟨da,dp,ea,ep,rfl,hd3,he3⟩,rfl⟩ hleI4 hm;try simp only[F8]at hm|refine S9 (d:=4) ?_ hm;clear hm;intro b4 _ hm|refine Y1 (d:=5) ?_ hm;clear hm;intro b5 _ hm|refine J4 ?_ hm|refine J5 ?_ hm|refine N8 ?_ hm;clear hm;intro _ hm;try simp only[F8]at hm|refine Y4 ?_ hm|refine D8 ?_|refine D6 ?_|refine J8 ?_|refine J6 ?_|refine A0v ?_|refine O0 ?_|refine Y3 ?_|refine U6 ?_|refine E8 ?_|refine C9 ?_|(refine N9 (h1:=fun _=>?_) (h0:=fun _=>?_)<;>try first|contradiction|omega)|refine D9 ?_|refine A7 ?_|refine G8 ?_|refine D7 ?_|refine O3 ?_|refine E5 ?_|refine A8 ?_|refine F5 ?_|refine G5 ?_|refine H8 ?_|refine F7 ?_|(refine D5 (ht:=fun _=>?_) (hf:=fun _=>?_)<;>try first|contradiction|omega))
  all_goals exact⟨I4,_,⟨_,a,c,xs,rfl,⟨da,dp,ea,ep,rfl,hd3,he3⟩,rfl,hfe.le (hleI3.trans hleI4)⟩,hm.left (H:= [_])⟩
 rw[if_neg k7];by_cases k8:q.kind=8
 ·rw[if_pos k8,C7Q]
  have hR8:=fun (J:P6) (m:Le I J)=>C4n q.text q.args J (hfe.le m) hA (fun h=>B9K (s:=tx) h) aa ac (hra.le m)
  generalize A9K (J7 tx) q.text q.args=r at hR8 |-;by_cases he:r.err≠0
  ·rw[if_pos he]
   repeat' (first|refine F6 (d:=46) ?_ hm (hp:=pm1_1) (hc:=hN);clear hm;rintro _ I3 _ _ ⟨rfl,rfl⟩ hleI3 hm;try simp only[F8]at hm;have hp3:=PtrI.le hp hleI3|refine A1m (id:=23) (hm.perm pm0) [0,1,2,3,4,5,6,7,8,9,10,11] 14 (h:=?_);clear hm;intro wd hR hm|refine A4Y (d:=98) ?_ hR|refine A5G (d:=107) hm (by rfl) (by rfl) (by rfl) pm0 (hR8 I3 hleI3) ?_;clear hm;rintro _ I4 _ _ ⟨rfl,ea,ep,rfl,hre⟩ hleI4 hm;try simp only[F8]at hm|refine A8t (i:=12) (j:=13) ?_ (by decide+kernel) (h:=?_)|refine A1B (i:=12) ?_ (by decide+kernel)|refine A1B (i:=13) ?_ (by decide+kernel)|refine A46 (by decide+kernel) ?_;replace hm:=hR.back hm;clear hR;try simp only[F8]at hm|refine A0b ?_ hR|refine B1F (d:=9) ?_ hm;clear hm;intro b9 _ hm|refine A9J ?_|refine S9 (d:=4) ?_ hm;clear hm;intro b4 _ hm|refine Y1 (d:=5) ?_ hm;clear hm;intro b5 _ hm|refine J4 ?_ hm|refine J5 ?_ hm|refine N8 ?_ hm;clear hm;intro _ hm;try simp only[F8]at hm|refine Y4 ?_ hm|refine D8 ?_|refine D6 ?_|refine J8 ?_|refine J6 ?_|refine A0v ?_|refine O0 ?_|refine A0t ?_|refine Y3 ?_|refine U6 ?_|refine E8 ?_|refine C9 ?_|refine Q4 ?_|(refine N9 (h1:=fun _=>?_) (h0:=fun _=>?_)<;>try first|contradiction|omega)|refine D9 ?_|refine A7 ?_|refine G8 ?_|refine D7 ?_|refine O3 ?_|refine E5 ?_|refine A8 ?_|refine F5 ?_|refine G5 ?_|refine H8 ?_|refine F7 ?_|(refine D5 (ht:=fun _=>?_) (hf:=fun _=>?_)<;>try first|contradiction|omega)|refine Z5 ?_|refine O6 ?_|refine L6 ?_)
   all_goals exact⟨I4,_,⟨_,a,c,xs,rfl,A4s.plain I4 rfl rfl,rfl,hfe.le (hleI3.trans hleI4)⟩,hm.tl.tl.hd⟩
  ·rw[if_neg he]
   have he0:r.err=0:=by omega
   repeat' (first|refine F6 (d:=46) ?_ hm (hp:=pm1_1) (hc:=hN);clear hm;rintro _ I3 _ _ ⟨rfl,rfl⟩ hleI3 hm;try simp only[F8]at hm;have hp3:=PtrI.le hp hleI3|refine A1m (id:=23) (hm.perm pm0) [0,1,2,3,4,5,6,7,8,9,10,11] 14 (h:=?_);clear hm;intro wd hR hm|refine A4Y (d:=98) ?_ hR|refine A5G (d:=107) hm (by rfl) (by rfl) (by rfl) pm0 (hR8 I3 hleI3) ?_;clear hm;rintro _ I4 _ _ ⟨rfl,ea,ep,rfl,hre⟩ hleI4 hm;try simp only[F8]at hm|refine A8t (i:=12) (j:=13) ?_ (by decide+kernel) (h:=?_)|refine A1B (i:=12) ?_ (by decide+kernel)|refine A1B (i:=13) ?_ (by decide+kernel)|refine A46 (by decide+kernel) ?_;replace hm:=hR.back hm;clear hR;try simp only[F8]at hm|refine A0b ?_ hR|refine B1F (d:=9) ?_ hm;clear hm;intro b9 _ hm|refine A9J ?_|refine S9 (d:=4) ?_ hm;clear hm;intro b4 _ hm|refine Y1 (d:=5) ?_ hm;clear hm;intro b5 _ hm|refine J4 ?_ hm|refine J5 ?_ hm|refine X4 ?_ hm|refine N8 ?_ hm;clear hm;intro _ hm;try simp only[F8]at hm|refine Y4 ?_ hm|refine D8 ?_|refine D6 ?_|refine J8 ?_|refine J6 ?_|refine A0v ?_|refine O0 ?_|refine A0t ?_|refine Y3 ?_|refine U6 ?_|refine E8 ?_|refine C9 ?_|refine Q4 ?_|(refine N9 (h1:=fun _=>?_) (h0:=fun _=>?_)<;>try first|contradiction|omega)|refine D9 ?_|refine A7 ?_|refine G8 ?_|refine D7 ?_|refine O3 ?_|refine E5 ?_|refine A8 ?_|refine F5 ?_|refine G5 ?_|refine H8 ?_|refine F7 ?_|(refine D5 (ht:=fun _=>?_) (hf:=fun _=>?_)<;>try first|contradiction|omega)|refine Z5 ?_|refine O6 ?_|refine L6 ?_)
   all_goals exact⟨I4,_,⟨_,a,c,xs,rfl,⟨none,0,ea,ep,rfl,A0W _ _ _ _ _,hre⟩,rfl,hfe.le (hleI3.trans hleI4)⟩,hm.tl.tl.hd⟩
 rw[if_neg k8];repeat' (first|refine F6 (d:=46) ?_ hm (hp:=pm1_1) (hc:=hN);clear hm;rintro _ I3 _ _ ⟨rfl,rfl⟩ hleI3 hm;try simp only[F8]at hm;have hp3:=PtrI.le hp hleI3|refine S9 (d:=4) ?_ hm;clear hm;intro b4 _ hm|refine Y1 (d:=5) ?_ hm;clear hm;intro b5 _ hm|refine J4 ?_ hm|refine J5 ?_ hm|refine N8 ?_ hm;clear hm;intro _ hm;try simp only[F8]at hm|refine Y4 ?_ hm|refine D8 ?_|refine D6 ?_|refine J8 ?_|refine J6 ?_|refine A0v ?_|refine O0 ?_|refine Y3 ?_|refine U6 ?_|refine E8 ?_|refine C9 ?_|refine Q4 ?_|(refine N9 (h1:=fun _=>?_) (h0:=fun _=>?_)<;>try first|contradiction|omega)|refine D9 ?_|refine A7 ?_|refine D7 ?_|refine E5 ?_|refine A8 ?_|refine F5 ?_|refine G5 ?_|refine H8 ?_|refine F7 ?_|(refine D5 (ht:=fun _=>?_) (hf:=fun _=>?_)<;>try first|contradiction|omega))
 all_goals exact⟨I3,_,⟨_,a,c,xs,rfl,A4s.plain I3 rfl rfl,rfl,hfe.le hleI3⟩,hm.tl.hd⟩
def A5e (I:P6):List Sp.Rpl->List Value->Prop
 | [],xs=>xs= []
 |r::rs,xs=> ∃c t,xs=c++t/\A4s I r c/\A5e I rs t
theorem A4s.le {I I':P6}{r:Sp.Rpl}{c:List Value} (h:A4s I r c) (m:Le I I'):A4s I' r c:=by
 obtain⟨da,dp,ea,ep,h1,h2,h3⟩:=h;exact⟨da,dp,ea,ep,h1,h2.le m,h3.le m⟩
theorem A4s.len {I:P6}{r:Sp.Rpl}{c:List Value} (h:A4s I r c):c.length=11:=by
 obtain⟨da,dp,ea,ep,rfl,_⟩:=h;rfl
theorem A5e.le {I I':P6} (m:Le I I'):∀ {rs:List Sp.Rpl}{xs:List Value},A5e I rs xs->A5e I' rs xs
 | [],_,h=>h
 |_::_,_,⟨c,r,e,h1,h2⟩=>⟨c,r,e,h1.le m,A5e.le m h2⟩
theorem A5e.snoc {I:P6}{q:Sp.Rpl}{c:List Value} (hq:A4s I q c):∀ {rs:List Sp.Rpl}{xs:List Value},A5e I rs xs->A5e I (rs++ [q]) (xs++c)
 | [],xs,h=>by
  obtain rfl:xs= []:=h;exact⟨c,[],by simp,hq,rfl⟩
 |_::_,_,⟨c',r,e,h1,h2⟩=>⟨c',r++c,by rw[e,O8],h1,A5e.snoc hq h2⟩
theorem A5e.get {I:P6}:∀ {rs:List Sp.Rpl}{xs:List Value}{i:Nat}{q:Sp.Rpl},A5e I rs xs->rs[i]?=some q->A4s I q ((xs.drop (i *11)).take 11)
 | [],_,_,_,_,h=>by simp at h
 |q::qs,_,0,q',⟨c,r,e,h1,h2⟩,h=>by
  simp only[A0A,U3]at h;subst h;rw[e,A1k,A2l,A10 (by rw[h1.len];omega),A0n (by rw[h1.len];omega)];exact h1
 |q::qs,_,i+1,q',⟨c,r,e,h1,h2⟩,h=>by
  rw[A0z]at h;have:=A5e.get h2 h;rw[e,A5x,List.drop_eq_nil_of_le (by rw[h1.len];omega),P7,h1.len,show (i+1) *11-11=i *11 by omega];exact this
def B8B (rs:List Sp.Rpl) (e:Nat):Value->P6->List HItem->Prop:=fun v I' H'=>H'= []/\∃a cp xs,v=.tuple #[.slice a rs.length cp,nt e]/\RowI I' 46 11 (.slice a rs.length cp) rs.length xs/\A5e I' rs xs
structure PlX where
 k:Nat
 I:P6
 a:Option Addr
 cp:Nat
 xs:List Value
 fa:Option Addr
 fc:Nat
 fx:List Value
theorem C2G {I:P6}{aa:Option Addr}{ac:Nat}{l:List Int} (h:RowI I 3 1 (.slice aa l.length ac) l.length (l.flatMap C5r)):RowI I 3 1 (.slice aa l.length ac) l.length (B5B l):=by
 rw[B4F]at h;exact h
theorem B1N {I:P6}{qs:List Sp.Qn}{la:Option Addr}{lc:Nat}{ys:List Value} (hr:RowI I 38 6 (.slice la qs.length lc) qs.length ys) (hat:A0T I qs ys) (hq:∀q∈qs,q.text.length<=1099511627776) (hC:Conv I) (hT:A55 I) (hlen:qs.length<=1099511627776):
  CalM prog 13 #[.slice la qs.length lc] I [] (if 40<qs.length then B8B [] 5 else B8B (Sp.rpQ A15 qs) 0):=by
 refine CalM.of fun w E hm=>enter (N:=35) func13 rfl [(0,.slice la qs.length lc)] A0E rfl ?_
 by_cases h40:40<qs.length
 ·rw[if_pos h40]
  repeat' (first|refine D8 ?_|refine D6 ?_|refine A0v ?_|refine G7 ?_|refine D9 ?_|refine A7 ?_|refine G8 ?_|refine E5 ?_|refine A8 ?_|refine H8 ?_|refine A1R ?_|(refine D5 (ht:=fun _=>?_) (hf:=fun _=>?_)<;>try first|contradiction|omega))
  exact⟨I,[],⟨rfl,none,0,[],rfl,A0W _ _ _ _ _,rfl⟩,hm⟩
 rw[if_neg h40];repeat' (first|refine A0O (d:=12) ?_ hm;clear hm;intro b12 _ hm|refine D8 ?_|refine D6 ?_|refine A0v ?_|refine G7 ?_|refine Q4 ?_|refine D9 ?_|refine A7 ?_|refine E5 ?_|refine A8 ?_|refine F5 ?_|refine G5 ?_|(refine D5 (ht:=fun _=>?_) (hf:=fun _=>?_)<;>try first|contradiction|omega))
 have hm:=hm.nil 46 11;refine U1 (fun x:PlX=> [(0,.slice la qs.length lc),(4,ptr b12),(5,.slice x.a (Sp.rpQ A15 (qs.take x.k)).length x.cp),(14,nt qs.length),(15,nt x.k)])
  (fun x w'=>Mem E x.I [.row (.slice x.a (Sp.rpQ A15 (qs.take x.k)).length x.cp) 46 11 (Sp.rpQ A15 (qs.take x.k)).length x.xs,B3R b12 (Sp.stQ A15 (qs.take x.k)) x.fa x.fc] w'/\Le I x.I/\x.k<=qs.length/\A5e x.I (Sp.rpQ A15 (qs.take x.k)) x.xs/\FE x.I (J7 (Sp.stQ A15 (qs.take x.k)).text) x.fa x.fc x.fx) (fun x=>qs.length-x.k) ⟨0,I,none,0,[],none,0,[]⟩
  (by exact⟨rfl,rfl,rfl,rfl,rfl,trivial⟩) ⟨hm,Le.refl _,H7 _,rfl,?_⟩ ?_
 ·exact⟨A0W _ _ _ _ _,rfl,by dsimp only;rw[Z9];decide+kernel⟩
 clear hm;rintro⟨k,I1,oa,op,xs,fa,fc,fx⟩ w1 ⟨hm,hle,hk,hrs,hfe⟩;dsimp only at hm hle hk hrs hfe |-;by_cases hlt:k<qs.length
 ·have hg:qs[k]?=some qs[k]:=G6 hlt
  have hqk:=hq _ (O5 hlt);have hs1:=C4o A15 hg;have hs2:=C4B A15 hg;have hok:=B9O (qs.take k) C32;have hl1:(Sp.rpQ A15 (qs.take k)).length<=40:=by rw[A8c,P8];omega
  obtain⟨aa,ac,hci,hargs⟩:=(hat.le hle).get hg;have hr1:=hr.le hle;generalize qs[k]=q at hg hqk hs1 hs2 hci hargs;generalize Sp.stQ A15 (qs.take k)=st at hm hfe hs1 hs2 hok;generalize Sp.rpQ A15 (qs.take k)=rs at hm hrs hs1 hl1;have hA:=fun (bt ot:Nat) (hp:C2I I1 bt ot q aa ac)=>C8W hok q hqk I1 (hC.le hle) (hT.le hle) hfe b12 hp (C2G hargs)
  have hid:B02 st q= { (A5j st q).2 with id:=q.id}:=rfl;generalize B02 st q=rp at hs1 hid;generalize A5j st q=an at hA hs2 hid;obtain⟨st2,r⟩:=an;dsimp only at hA hs2 hid;repeat' (first|refine N7 (d:=21) ?_ (hr:=hr1);intro bt ot hpt;rw[show ((k:Int).toNat *6)=k *6 from rfl,hci]at hpt|refine N7 (d:=25) ?_ (hr:=hr1.le hleI2);intro bu ou hpu;rw[show ((k:Int).toNat *6)=k *6 from rfl,hci]at hpu|refine F6 (d:=22) ?_ hm (hp:=pm1_1) (hc:=hA bt ot hpt);clear hm;rintro _ I2 _ _ ⟨_,a3,c3,x3,rfl,⟨da,dp,ea,ep,rfl,hd3,he3⟩,rfl,hfe3⟩ hleI2 hm;try simp only[F8]at hm|refine Y1 (d:=7) ?_ hm;clear hm;intro b7 _ hm|refine A2d (d:=32) ?_ hm;clear hm;intro a32 cp32 _ _ hm;try simp only[F8]at hm|refine J5 ?_ hm|refine X4 ?_ hm|refine O7 hm (k:=?_);clear hm;intro _ hm;try simp only[F8]at hm|refine D8 ?_|refine D6 ?_|refine J6 ?_|refine P5 ?_|refine C9 ?_|refine D9 ?_|refine A7 ?_|refine D7 ?_|refine E5 ?_|refine A8 ?_|refine F5 ?_|refine G5 ?_|(refine D5 (ht:=fun _=>?_) (hf:=fun _=>?_)<;>try first|contradiction|omega))
  have hrp:A4s I2 rp (rpV rp da dp ea ep):=by
   subst hid;exact⟨da,dp,ea,ep,rfl,hd3,he3⟩
  have hrs2:=A5e.snoc hrp (A5e.le hleI2 hrs);subst hid;refine L8 (⟨k+1,I2,a32,cp32,xs++rpV { r with id:=q.id} da dp ea ep,a3,c3,x3⟩:PlX) (by exact⟨rfl,rfl,by rw[hs1,E9];rfl,rfl,rfl,trivial⟩) ⟨?_,hle.trans hleI2,by dsimp only;omega,by dsimp only;rw[hs1];exact hrs2,by dsimp only;rw[hs2];exact hfe3⟩ (by dsimp only;omega)
  dsimp only
  rw[hs1,hs2,E9];exact hm.tl.swap
 ·obtain rfl:k=qs.length:=by omega
  rw[V6]at hm hrs hfe |-;repeat' (first|refine D8 ?_|refine D6 ?_|refine J6 ?_|refine D9 ?_|refine A7 ?_|refine H9 ?_|refine G9 ?_|refine E5 ?_|refine A8 ?_|refine P9 ?_|refine H8 ?_|refine A1R ?_|(refine D5 (ht:=fun _=>?_) (hf:=fun _=>?_)<;>try first|contradiction|omega))
  obtain⟨I4,hle4,hm4,hrow⟩:=hm.freeze;exact⟨I4,[],⟨rfl,_,_,xs,rfl,hrow,A5e.le hle4 hrs⟩,hm4.left (H:= [])⟩
theorem C5n (d:Sp.DI):A57 (A52 d) (A52 d)=true:=by simp[A57,A8T]
theorem C27 (d:Sp.Ev):A57 (A7j d) (A7j d)=true:=by simp[A57,A8T]
theorem C8X (l:List Sp.DI) (hl:l.length<=1000000000000) (I:P6) (a b:Option Addr) (c d:Nat) (ha:RowI I 56 4 (.slice a l.length c) l.length (l.flatMap A52)) (hb:RowI I 56 4 (.slice b l.length d) l.length (l.flatMap A52)):
  CalM prog 17 #[.slice a l.length c,.slice b l.length d] I [] (fun v _ H'=>v=.bool true/\H'= []):=by
 refine CalM.of fun w E hm=>enter (N:=26) func17 rfl [(0,.slice a l.length c),(1,.slice b l.length d)] A0R rfl ?_
 repeat' (first|refine D8 ?_|refine D6 ?_|refine A0t ?_|refine G7 ?_|refine D9 ?_|refine A7 ?_|refine E5 ?_|refine A8 ?_|refine F5 ?_|refine G5 ?_|(refine D5 (ht:=fun _=>?_) (hf:=fun _=>?_)<;>try first|contradiction|omega))
 refine U1 (fun k:Nat=> [(0,.slice a l.length c),(1,.slice b l.length d),(12,nt l.length),(13,nt k)])
  (fun k w'=>Mem E I [] w'/\k<=l.length) (fun k=>l.length-k) 0 (by exact⟨rfl,rfl,rfl,rfl,trivial⟩) ⟨hm,H7 _⟩ ?_
 clear hm;rintro k w1 ⟨hm,hk⟩;try dsimp only at hm hk |-
 by_cases hlt:k<l.length
 ·have hg:l[k]?=some l[k]:=G6 hlt
  generalize l[k]=s at hg;repeat' (first|refine Z7 (d:=18) (enc:=A52) (z:=s) ?_ (hr:=ha) (he:=fun _=>rfl) (hz:=by exact hg);intro b1 o1 p1|refine Z7 (d:=22) (enc:=A52) (z:=s) ?_ (hr:=hb) (he:=fun _=>rfl) (hz:=by exact hg);intro b2 o2 p2|refine A6s ?_ hm|refine D8 ?_|refine D6 ?_|refine J6 ?_|refine P5 ?_|refine D9 ?_|refine A7 ?_|refine G8 ?_|refine D7 ?_|refine O3 ?_|refine E5 ?_|refine A8 ?_|refine F5 ?_|refine G5 ?_|refine H8 ?_|refine J9 ?_|refine U4 ?_|refine A0h ?_;intro _ hkq;replace hm:=hm.kept0 hkq;clear hkq|(refine D5 (ht:=fun _=>?_) (hf:=fun _=>?_)<;>try first|contradiction|omega)|refine A8u (ht:=fun _=>?_) (hf:=fun _=>?_)|refine X7 ?_|refine B3J ?_)
  all_goals try (exfalso;rename_i hx;rw[C5n]at hx;exact absurd hx (by decide))
  exact L8 (k+1:Nat) (by exact⟨rfl,rfl,rfl,rfl,trivial⟩) ⟨hm,by omega⟩ (by omega)
 ·obtain rfl:k=l.length:=by omega
  repeat' (first|refine D6 ?_|refine J6 ?_|refine D9 ?_|refine A7 ?_|refine H9 ?_|refine G9 ?_|refine E5 ?_|refine A8 ?_|refine P9 ?_|refine H8 ?_|refine J9 ?_|(refine D5 (ht:=fun _=>?_) (hf:=fun _=>?_)<;>try first|contradiction|omega))
  exact⟨I,[],⟨rfl,rfl⟩,hm⟩
theorem C8Y (l:List Sp.Ev) (hl:l.length<=1000000000) (I:P6) (a b:Option Addr) (c d:Nat) (ha:RowI I 35 2 (.slice a l.length c) l.length (l.flatMap A7j)) (hb:RowI I 35 2 (.slice b l.length d) l.length (l.flatMap A7j)):
  CalM prog 36 #[.slice a l.length c,.slice b l.length d] I [] (fun v _ H'=>v=.bool true/\H'= []):=by
 refine CalM.of fun w E hm=>enter (N:=26) func36 rfl [(0,.slice a l.length c),(1,.slice b l.length d)] A0R rfl ?_
 repeat' (first|refine D8 ?_|refine D6 ?_|refine A0t ?_|refine G7 ?_|refine D9 ?_|refine A7 ?_|refine E5 ?_|refine A8 ?_|refine F5 ?_|refine G5 ?_|(refine D5 (ht:=fun _=>?_) (hf:=fun _=>?_)<;>try first|contradiction|omega))
 refine U1 (fun k:Nat=> [(0,.slice a l.length c),(1,.slice b l.length d),(12,nt l.length),(13,nt k)])
  (fun k w'=>Mem E I [] w'/\k<=l.length) (fun k=>l.length-k) 0 (by exact⟨rfl,rfl,rfl,rfl,trivial⟩) ⟨hm,H7 _⟩ ?_
 clear hm;rintro k w1 ⟨hm,hk⟩;try dsimp only at hm hk |-
 by_cases hlt:k<l.length
 ·have hg:l[k]?=some l[k]:=G6 hlt
  generalize l[k]=s at hg;repeat' (first|refine Z7 (d:=18) (enc:=A7j) (z:=s) ?_ (hr:=ha) (he:=fun _=>rfl) (hz:=by exact hg);intro b1 o1 p1|refine Z7 (d:=22) (enc:=A7j) (z:=s) ?_ (hr:=hb) (he:=fun _=>rfl) (hz:=by exact hg);intro b2 o2 p2|refine A6s ?_ hm|refine D8 ?_|refine D6 ?_|refine J6 ?_|refine P5 ?_|refine D9 ?_|refine A7 ?_|refine G8 ?_|refine D7 ?_|refine O3 ?_|refine E5 ?_|refine A8 ?_|refine F5 ?_|refine G5 ?_|refine H8 ?_|refine J9 ?_|refine U4 ?_|refine A0h ?_;intro _ hkq;replace hm:=hm.kept0 hkq;clear hkq|(refine D5 (ht:=fun _=>?_) (hf:=fun _=>?_)<;>try first|contradiction|omega)|refine A8u (ht:=fun _=>?_) (hf:=fun _=>?_)|refine X7 ?_|refine B3J ?_)
  all_goals try (exfalso;rename_i hx;rw[C27]at hx;exact absurd hx (by decide))
  exact L8 (k+1:Nat) (by exact⟨rfl,rfl,rfl,rfl,trivial⟩) ⟨hm,by omega⟩ (by omega)
 ·obtain rfl:k=l.length:=by omega
  repeat' (first|refine D6 ?_|refine J6 ?_|refine D9 ?_|refine A7 ?_|refine H9 ?_|refine G9 ?_|refine E5 ?_|refine A8 ?_|refine P9 ?_|refine H8 ?_|refine J9 ?_|(refine D5 (ht:=fun _=>?_) (hf:=fun _=>?_)<;>try first|contradiction|omega))
  exact⟨I,[],⟨rfl,rfl⟩,hm⟩
theorem C81 (r:Sp.Rn) (hl:r.ev.length<=1000000000) (I:P6) (a b:Option Addr) (c d:Nat) (ha:RowI I 35 2 (.slice a r.ev.length c) r.ev.length (r.ev.flatMap A7j)) (hb:RowI I 35 2 (.slice b r.ev.length d) r.ev.length (r.ev.flatMap A7j)):
  CalM prog 23 #[B9I a c r,B9I b d r] I [] (fun v _ H'=>v=.bool true/\H'= []):=by
 refine CalM.of fun w E hm=>enter (N:=31) func23 rfl [(0,B9I a c r),(1,B9I b d r)] A0R rfl ?_
 have hE:=C8Y r.ev hl I a b c d ha hb;repeat' (first|refine F6 (d:=9) ?_ hm (hp:=pm0) (hc:=hE);clear hm;rintro _ I2 _ _ ⟨rfl,rfl⟩ hleI2 hm;try simp only[F8]at hm|refine A0O (d:=2) ?_ hm;clear hm;intro b2 _ hm|refine A0O (d:=3) ?_ hm;clear hm;intro b3 _ hm|refine J4 ?_ hm|refine D8 ?_|refine D6 ?_|refine O1 ?_|refine O0 ?_|refine C9 ?_|(refine N9 (h1:=fun _=>?_) (h0:=fun _=>?_)<;>try first|contradiction|omega)|refine D9 ?_|refine A7 ?_|refine E5 ?_|refine A8 ?_|refine H8 ?_|refine J9 ?_)
 all_goals exact⟨I2,[],⟨by simp,rfl⟩,hm.left (H:= [])⟩
theorem C7V {r:Sp.Rpl}{c d:List Value}{I:P6} (h1:A4s I r c) (h2:A4s I r d) (hl:r.dgs.length<=1000000000000) (he:r.ran.ev.length<=1000000000):
  CalM prog 15 #[.agg c.toArray,.agg d.toArray] I [] (fun v _ H'=>v=.bool true/\H'= []):=by
 obtain⟨da,dp,ea,ep,rfl,g1,g2⟩:=h1;obtain⟨db,dq,eb,eq,rfl,g3,g4⟩:=h2;refine CalM.of fun w E hm=>enter (N:=59) func15 rfl [(0,.agg (rpV r da dp ea ep).toArray),(1,.agg (rpV r db dq eb eq).toArray)] A0R rfl ?_
 have hD:=C8X r.dgs hl I da db dp dq g1 g3;have hR:=fun (J:P6) (m:Le I J)=>C81 r.ran he J ea eb ep eq (g2.le m) (g4.le m)
 repeat' (first|refine B0W (d:=47) hm (by rfl) (by rfl) (by rfl) (by first|exact gt0|exact gt1|exact gt2|exact gt3|exact gt4|exact gt5|exact gt6) (by rfl) (by rfl) ?_|refine B0W (d:=49) hm (by rfl) (by rfl) (by rfl) (by first|exact gt0|exact gt1|exact gt2|exact gt3|exact gt4|exact gt5|exact gt6) (by rfl) (by rfl) ?_|refine F6 (d:=22) ?_ hm (hp:=pm0) (hc:=hD);clear hm;rintro _ I2 _ _ ⟨rfl,rfl⟩ hleI2 hm;try simp only[F8]at hm|refine F6 (d:=50) ?_ hm (hp:=pm0) (hc:=hR I2 hleI2);clear hm;rintro _ I3 _ _ ⟨rfl,rfl⟩ hleI3 hm;try simp only[F8]at hm|refine A0O (d:=2) ?_ hm;clear hm;intro b2 _ hm|refine A0O (d:=3) ?_ hm;clear hm;intro b3 _ hm|refine J4 ?_ hm|refine D8 ?_|refine D6 ?_|refine O1 ?_|refine O0 ?_|refine V8 ?_|refine C9 ?_|(refine N9 (h1:=fun _=>?_) (h0:=fun _=>?_)<;>try first|contradiction|omega)|refine D9 ?_|refine A7 ?_|refine E5 ?_|refine A8 ?_|refine H8 ?_|refine J9 ?_)
 all_goals exact⟨I3,[],⟨by simp,rfl⟩,hm.left (H:= [])⟩
theorem A0T.one {I:P6}:∀ {qs:List Sp.Qn}{xs:List Value},A0T I qs xs->∀u∈xs,u.oneCell'=true
 | [],xs,h,u,hu=>by
  obtain rfl:xs= []:=h;cases hu
 |q::qs,xs,h,u,hu=>by
  obtain⟨c,r,rfl,⟨a,cp,rfl,_⟩,h2⟩:=h;rcases A0d.1 hu with hu|hu
  ·simp only[V7,List.not_mem_nil,or_false]at hu
   rcases hu with rfl|rfl|rfl|rfl|rfl|rfl<;>rfl
  ·exact h2.one u hu
theorem B8E (I:P6) (q:Sp.Qn) (h:q.args= []):A8w I q (C2J q.id q.kind q.fr q.to q.text none 0 0):=by
 refine⟨none,0,by rw[h];rfl,?_⟩
 rw[h];exact A0W _ _ _ _ _
theorem C03 (I:P6) (hC:Conv I) (hT:A55 I):CalM prog 14 #[] I [] (fun v _ H'=>v=.bool true/\H'= []):=by
 refine CalM.of fun w E hm=>enter (N:=40) func14 rfl [] C2F rfl ?_
 obtain⟨r0,r1,r2,hrs⟩:∃r0 r1 r2,Sp.rpQ A15 B79= [r0,r1,r2]:=⟨_,_,_,rfl⟩;have hal:=C2h;rw[hrs]at hal;obtain⟨e0,e2,e3⟩:=hal;simp only[List.getD_cons_zero,List.getD_cons_succ]at e0 e2 e3;have hP:=fun (J:P6) (m:Le I J) (b:Nat) (ys:List Value) (h:RowI J 38 6 (.slice (some ⟨b,0,none⟩) 3 3) 3 ys) (h2:A0T J B79 ys)=>B1N (qs:=B79) h h2 (fun q hq=>by
  simp only[B79,V7,List.not_mem_nil,or_false]at hq;rcases hq with rfl|rfl|rfl<;>decide) (hC.le m) (hT.le m) (by decide)
 rw[if_neg (by decide),hrs]at hP;repeat' (first|refine A13 (d:=7) ?_ hm;clear hm;intro b7 _ hm;obtain⟨I3,hle3,hm3,hr7⟩:=hm.freeze;clear hm;have hm:=hm3;clear hm3;have ha7:A0T I3 B79 _:=⟨_,_,rfl,B8E _ _ rfl,_,_,rfl,B8E _ _ rfl,_,[],rfl,B8E _ _ rfl,rfl⟩|refine F6 (d:=8) ?_ hm (hp:=pm0) (hc:=hP I3 hle3 b7 _ hr7 ha7);clear hm;rintro _ I4 _ _ ⟨rfl,pa,pc,ps,rfl,hpr,hps⟩ hleI4 hm;try simp only[F8]at hm;obtain⟨da,dp,ea,ep,hc0,_,_⟩:=hps.get (i:=0) rfl;obtain⟨db,dq,eb,eq,hc2,_,_⟩:=hps.get (i:=2) rfl|refine N7 (d:=20) ?_ (hr:=hpr) (h1:=by simp);intro bt ot hpt;rw[show ((0:Int).toNat *11)=0 *11 from rfl,hc0]at hpt|refine N7 (d:=27) ?_ (hr:=hpr) (h1:=by simp);intro bu ou hpu;rw[show ((2:Int).toNat *11)=2 *11 from rfl,hc2]at hpu|refine N7 (d:=34) ?_ (hr:=hpr) (h1:=by simp);intro bx ox hpx;rw[show ((2:Int).toNat *11)=2 *11 from rfl,hc2]at hpx|refine J5 (d:=37) (off:=ox) (j:=7) ?_ hm (hp:=hpx)|refine J5 ?_ hm|refine D8 ?_|refine D6 ?_|refine O1 ?_|refine O0 ?_|refine G7 ?_|refine U6 ?_|refine C9 ?_|refine Q4 ?_|(refine N9 (h1:=fun _=>?_) (h0:=fun _=>?_)<;>try first|contradiction|omega)|refine D9 ?_|refine A7 ?_|refine E5 ?_|refine A8 ?_|refine H8 ?_|refine J9 ?_)
 all_goals exact⟨I4,[],⟨by rw[e3];rfl,rfl⟩,hm.left (H:= [])⟩
theorem C4U {I:P6}{qs:List Sp.Qn}{la:Option Addr}{lc:Nat}{ys:List Value} (hr:RowI I 38 6 (.slice la qs.length lc) qs.length ys) (hat:A0T I qs ys) (hq:∀q∈qs,q.text.length<=1099511627776) (hC:Conv I) (hT:A55 I) (hlen:qs.length<=39):
  CalM prog 16 #[.slice la qs.length lc] I [] (fun v _ H'=>v=.tuple #[str (Sp.stQ A15 qs).text,.bool (Sp.stQ A15 qs).op]/\H'= []):=by
 refine CalM.of fun w E hm=>enter (N:=33) func16 rfl [(0,.slice la qs.length lc)] A0E rfl ?_
 have hone:=hat.one;have hP:=fun (J:P6) (m:Le I J) (a:Option Addr) (cp:Nat) (xs:List Value) (h:RowI J 38 6 (.slice a (qs.length+1) cp) (qs.length+1) xs) (h2:A0T J (qs++ [A8D]) xs)=>B1N (qs:=qs++ [A8D]) (la:=a) (lc:=cp) (by rw[E9];exact h) h2 (fun q hq'=>by
  rcases A0d.1 hq' with h|h
  ·exact hq q h
  ·rw[A0B.1 h];decide) (hC.le m) (hT.le m) (by rw[E9];show qs.length+1<=_;omega)
 rw[E9,if_neg (by show ¬40<qs.length+1;omega),B2H]at hP;have hrl:=A8c A15 qs;have hsh:=(B9O qs C32).shut;have htx:=C6c (Sp.stQ A15 qs) A8D rfl;have hlast:Sp.rpQ (Sp.stQ A15 qs) [A8D]= [B02 (Sp.stQ A15 qs) A8D]:=rfl;rw[hlast]at hP;have hget:(Sp.rpQ A15 qs++ [B02 (Sp.stQ A15 qs) A8D])[qs.length]?=some (B02 (Sp.stQ A15 qs) A8D):=by
  rw[A2C (by omega),hrl,Nat.sub_self];rfl
 have hlen2:(Sp.rpQ A15 qs++ [B02 (Sp.stQ A15 qs) A8D]).length=qs.length+1:=by rw[E9,hrl];rfl
 generalize B02 (Sp.stQ A15 qs) A8D=rp at hP htx hget hlen2;generalize Sp.stQ A15 qs=st at hsh htx |-;generalize Sp.rpQ A15 qs++ [rp]=rs at hP hget hlen2;have hP2:∀(J:P6) (m:Le I J) (n:Nat) (hn:n=qs.length+1) (a:Option Addr) (cp:Nat) (xs:List Value) (h:RowI J 38 6 (.slice a n cp) n xs) (h2:A0T J (qs++ [A8D]) xs),CalM prog 13 #[.slice a n cp] J [] (fun v I' H'=>H'= []/\∃pa pc ps,v=Value.tuple #[.slice pa (qs.length+1) pc,nt 0]/\RowI I' 46 11 (.slice pa (qs.length+1) pc) (qs.length+1) ps/\∃da dp ea ep,(ps.drop (qs.length *11)).take 11=rpV rp da dp ea ep):=fun J m n hn a cp xs h h2=>by
  subst hn;exact(hP J m a cp xs h h2).mono (fun v I' H' _ ⟨e1,pa,pc,ps,e2,e3,e4⟩=>by
   rw[hlen2]at e2 e3;obtain⟨da,dp,ea,ep,hc,_,_⟩:=e4.get hget;exact⟨e1,pa,pc,ps,e2,e3,da,dp,ea,ep,hc⟩)
 clear hP;obtain⟨tx,op⟩:=st;cases op with
 |true=>
  rw[if_pos rfl]at htx;subst htx;repeat' (first|refine A13 (d:=7) ?_ hm;clear hm;intro b7 _ hm|refine A9v (d:=9) ?_ hm (hr:=hr) (h1:=hone);clear hm;intro a9 cp9 _ hm;try simp only[F8]at hm|refine A2d (d:=12) ?_ hm;clear hm;intro a12 cp12 _ _ hm;try simp only[F8]at hm;obtain⟨I3,hle3,hm3,hr7⟩:=hm.freeze;clear hm;have hm:=hm3;clear hm3;have ha7:=A0T.snoc (B8E I3 A8D rfl) (hat.le hle3)|refine F6 (d:=13) ?_ hm (hp:=pm0) (hc:=hP2 I3 hle3 _ (by omega) _ _ _ hr7 ha7);clear hm;rintro _ I4 _ _ ⟨rfl,pa,pc,ps,rfl,hpr,da,dp,ea,ep,hc⟩ hleI4 hm;try simp only[F8]at hm|refine N7 (d:=22) ?_ (hr:=hpr);intro bt ot hpt;rw[show (((qs.length:Nat):Int).toNat *11)=qs.length *11 from rfl,hc]at hpt|refine N7 (d:=30) ?_ (hr:=hpr);intro bu ou hpu;rw[show (((qs.length:Nat):Int).toNat *11)=qs.length *11 from rfl,hc]at hpu|refine J5 ?_ hm|refine D8 ?_|refine D6 ?_|refine J8 ?_|refine A0t ?_|refine G7 ?_|refine U6 ?_|refine C9 ?_|refine Q4 ?_|refine D9 ?_|refine A7 ?_|refine E5 ?_|refine A8 ?_|refine G5 ?_|refine H8 ?_|refine A1R ?_|refine F7 ?_)
  all_goals exact⟨I4,[],⟨rfl,rfl⟩,hm.left (H:= [])⟩
 |false=>
  rw[if_neg (fun e=>by cases e)]at htx;have h0:tx= []:=hsh rfl;subst h0;subst htx;repeat' (first|refine A13 (d:=7) ?_ hm;clear hm;intro b7 _ hm|refine A9v (d:=9) ?_ hm (hr:=hr) (h1:=hone);clear hm;intro a9 cp9 _ hm;try simp only[F8]at hm|refine A2d (d:=12) ?_ hm;clear hm;intro a12 cp12 _ _ hm;try simp only[F8]at hm;obtain⟨I3,hle3,hm3,hr7⟩:=hm.freeze;clear hm;have hm:=hm3;clear hm3;have ha7:=A0T.snoc (B8E I3 A8D rfl) (hat.le hle3)|refine F6 (d:=13) ?_ hm (hp:=pm0) (hc:=hP2 I3 hle3 _ (by omega) _ _ _ hr7 ha7);clear hm;rintro _ I4 _ _ ⟨rfl,pa,pc,ps,rfl,hpr,da,dp,ea,ep,hc⟩ hleI4 hm;try simp only[F8]at hm|refine N7 (d:=22) ?_ (hr:=hpr);intro bt ot hpt;rw[show (((qs.length:Nat):Int).toNat *11)=qs.length *11 from rfl,hc]at hpt|refine J5 ?_ hm|refine D8 ?_|refine D6 ?_|refine J8 ?_|refine A0t ?_|refine G7 ?_|refine U6 ?_|refine C9 ?_|refine Q4 ?_|refine D9 ?_|refine A7 ?_|refine G8 ?_|refine E5 ?_|refine A8 ?_|refine H8 ?_|refine A1R ?_|refine H5 ?_)
  all_goals exact⟨I4,[],⟨rfl,rfl⟩,hm.left (H:= [])⟩
theorem C6U (k:Int) (t:List UInt8) (I:P6):CalM prog 12 #[.int .i64 k,str t] I [] (fun v _ H'=>v=.agg (C2J 0 k 0 0 t none 0 0).toArray/\H'= []):=by
 refine CalM.of fun w E hm=>enter (N:=8) func12 rfl [(0,.int .i64 k),(1,str t)] A0R rfl ?_
 repeat' (first|refine S9 (d:=4) ?_ hm;clear hm;intro b4 _ hm|refine N8 ?_ hm;clear hm;intro _ hm;try simp only[F8]at hm|refine Y4 ?_ hm|refine D8 ?_|refine Q4 ?_|refine D9 ?_|refine A7 ?_|refine E5 ?_|refine A8 ?_|refine H8 ?_)
 exact⟨I,[],⟨rfl,rfl⟩,hm.tl⟩
theorem C0Z (I:P6) (hC:Conv I) (hT:A55 I):CalM prog 9 #[] I [] (fun v _ H'=>v=.bool true/\H'= []):=by
 refine CalM.of fun w E hm=>enter (N:=35) func9 rfl [] C2F rfl ?_
 obtain⟨r0,r1,hrs⟩:∃r0 r1,Sp.rpQ A15 B5i= [r0,r1]:=⟨_,_,rfl⟩;have hal:=B91;rw[hrs]at hal;simp only[List.getD_cons_zero,List.getD_cons_succ]at hal;obtain⟨d,hd1,hd2⟩:∃d,r1.dgs= [d]/\d.err=9:=by
  cases h:r1.dgs with
  |nil=>rw[h]at hal;cases hal
  |cons d l=>
   rw[h]at hal;simp only[X5,A2I,List.map_eq_nil_iff]at hal;exact⟨d,by rw[hal.2],hal.1⟩
 have hP:=fun (J:P6) (m:Le I J) (b:Nat) (ys:List Value) (h:RowI J 38 6 (.slice (some ⟨b,0,none⟩) 2 2) 2 ys) (h2:A0T J B5i ys)=>B1N (qs:=B5i) h h2 (fun q hq=>by
  simp only[B5i,V7,List.not_mem_nil,or_false]at hq;rcases hq with rfl|rfl<;>decide) (hC.le m) (hT.le m) (by decide)
 rw[if_neg (by decide),hrs]at hP;repeat' (first|refine F6 (d:=4) ?_ hm (hp:=pm0) (hc:=C6U 1 C6V I);clear hm;rintro _ I1 _ _ ⟨rfl,rfl⟩ hleI1 hm;try simp only[F8]at hm|refine F6 (d:=5) ?_ hm (hp:=pm0) (hc:=C6U 3 [] I1);clear hm;rintro _ I2 _ _ ⟨rfl,rfl⟩ hleI2 hm;try simp only[F8]at hm|refine A13 (d:=6) ?_ hm;clear hm;intro b7 _ hm;obtain⟨I3,hle3,hm3,hr7⟩:=hm.freeze;clear hm;have hm:=hm3;clear hm3;have ha7:A0T I3 B5i _:=⟨_,_,rfl,B8E _ _ rfl,_,[],rfl,B8E _ _ rfl,rfl⟩|refine F6 (d:=7) ?_ hm (hp:=pm0) (hc:=hP I3 ((hleI1.trans hleI2).trans hle3) b7 _ hr7 ha7);clear hm;rintro _ I4 _ _ ⟨rfl,pa,pc,ps,rfl,hpr,hps⟩ hleI4 hm;try simp only[F8]at hm;obtain⟨db,dq,eb,eq,hc2,hdr,_⟩:=hps.get (i:=1) rfl;unfold rpV at hc2;rw[hd1]at hc2 hdr|refine N7 (d:=19) ?_ (hr:=hpr) (h1:=by simp);intro bu ou hpu;rw[show ((1:Int).toNat *11)=1 *11 from rfl,hc2]at hpu|refine N7 (d:=27) ?_ (hr:=hpr) (h1:=by simp);intro bx ox hpx;rw[show ((1:Int).toNat *11)=1 *11 from rfl,hc2]at hpx|refine Q8 (d:=30) (enc:=A52) (z:=d) ?_ (hr:=hdr) (he:=fun _=>rfl) (h1:=by simp) (hz:=by rfl);intro bz oz hpz|refine J5 ?_ hm|refine D8 ?_|refine D6 ?_|refine O1 ?_|refine O0 ?_|refine G7 ?_|refine U6 ?_|refine C9 ?_|refine D9 ?_|refine A7 ?_|refine E5 ?_|refine A8 ?_|refine H8 ?_|refine J9 ?_)
 all_goals exact⟨I4,[],⟨by rw[hd2];rfl,rfl⟩,hm.left (H:= [])⟩
end Go.Proofs
