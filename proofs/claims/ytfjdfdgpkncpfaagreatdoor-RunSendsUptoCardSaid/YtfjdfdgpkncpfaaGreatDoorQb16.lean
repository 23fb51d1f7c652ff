/- Own work: texts PpM, PpN, FwTyM, PpO, PpP, PpQ, one behind the other. -/
import Derived.Test.YtfjdfdgpkncpfaaGreatDoorQb15
set_option maxHeartbeats 64000000
section
namespace Go.Proofs.YtfjdfdgpkncpfaaGreatDoor
open Go.Proofs.Tryz
open Go.Fw
structure QPar where
 f:Nat
 l:List Sp.Par
 n:Nat
 s:Sp.St
 a:Option Addr
 cp:Nat
 da:Option Addr
 dc:Nat
structure QSnd where
 f:Nat
 l:List Sp.Rf
 n:Nat
 s:Sp.St
 a:Option Addr
 cp:Nat
 da:Option Addr
 dc:Nat
def B0W (T:Sp.Src) (s:Sp.St):List Sp.Par×Sp.St:=((Sp.A2v T 6 [] (s.need T [40]).2).1,((Sp.A2v T 6 [] (s.need T [40]).2).2.need T [41]).2)
abbrev C1n (pb:Nat) (la:Option Addr) (lc:Nat) (T:Sp.Src) (deep:Nat) (r:List Sp.Par×Sp.St):Value→O5→List HItem→Prop:=fun v I' H'=>
 r.2.i≤T.l.length∧r.2.ds.length≤2 *r.2.i+60∧(∃a c,v=.slice a r.1.length c∧RowI I' 65 3 (.slice a r.1.length c) r.1.length (r.1.flatMap A2a))∧∃da dc,H'=QSt pb la lc T r.2 deep da dc
theorem B7B (T:Sp.Src) (pb:Nat) (hT:Ok T) (I:O5) (la:Option Addr) (lc deep:Nat) (da:Option Addr) (dc:Nat) (s:Sp.St) (hr:A1o I T la lc) (hi:s.i≤T.l.length) (hd:s.ds.length≤2 *s.i+10):
  CalM prog 117 #[ptr pb] I (QSt pb la lc T s deep da dc) (C1n pb la lc T deep (B0W T s)):=by
 have h2:=hT.size
 have h3:=hT.len
 have hmu:=fun da dc=>A1k (pb:=pb) (deep:=deep) (da:=da) (dc:=dc) s [40] (by simp) hr hT (by omega) hi
 have hgm:=Sp.X6 T s [40]
 rw[B0W]
 generalize s.need T [40]=s0 at hmu hgm ⊢
 have he1:=hgm.le
 have he2:=hgm.top hi
 have he3:=hgm.ds
 obtain⟨R,hR⟩:∃R,R=Sp.A2v T 6 [] s0.2:=⟨_,rfl⟩
 rw[←hR]
 refine CalM.of fun w E hm=>enter (N:=49) func117 rfl [(0,ptr pb)] Z4 rfl ?_
 repeat' (first|(refine A65 0 (fun x:QPar=> [(0,ptr pb),(3,.slice x.a x.n x.cp)]) (fun x w'=>x.n=R.1.length∧R.2.i≤T.l.length∧R.2.ds.length≤2 *R.2.i+50∧Mem E I [A3d pb la lc T R.2 deep x.da x.dc,A15 R.2.ds x.da x.dc,B0X R.1 x.n x.a x.cp] w') ?_ ?_)|(refine F5 ?_ hm (hc:=hmu _ _);clear hm;rintro _ _ _ _ ⟨rfl,rfl,da1,dc1,rfl⟩ hle hm;try simp only[F7] at hm)|refine D7 ?_|refine D5 ?_|refine D8 ?_|refine A7 ?_|refine E5 ?_|refine A8 ?_)
 ·have hm2:=hm.nil 65 3
  clear hm hmu
  refine U4 (fun x:QPar=> [(0,ptr pb),(3,.slice x.a x.n x.cp)])
   (fun x w'=>Mem E I [A3d pb la lc T x.s deep x.da x.dc,A15 x.s.ds x.da x.dc,B0X x.l x.n x.a x.cp] w'∧
    x.l.length=x.n∧x.n≤5∧x.f+x.n=6∧x.s.i≤T.l.length∧x.s.ds.length≤2 *x.s.i+3 *x.n+20∧Sp.A2v T x.f x.l x.s=R)
   (fun x=>x.f) ⟨6,[],0,s0.2,none,0,da1,dc1⟩ (by exact⟨rfl,rfl,trivial⟩) ⟨hm2.perm pm2_1,rfl,by dsimp only;omega,rfl,he2,by dsimp only;omega,hR.symm⟩ ?_
  clear hm2
  rintro⟨f1,l1,n1,s2,a1,cp1,da3,dc3⟩ w2 ⟨hm,hl,hn5,hf,hi2,hd2,hL⟩
  dsimp only at hm hl hn5 hf hi2 hd2 hL ⊢
  obtain⟨f1,rfl⟩:∃f',f1=f'+1:=⟨f1-1,by omega⟩
  rw[Sp.A2v] at hL
  have hpk:=A06 (pb:=pb) (deep:=deep) (da:=da3) (dc:=dc3) s2 hr
  by_cases hend:T.l.length≤s2.i∨T.is s2.i [41]=true
  ·rw[if_pos hend] at hL
   subst hL
   by_cases hl1:T.l.length≤s2.i
   ·skip
    repeat' (first|refine P8 ?_ hm|refine A7 ?_|refine G9 ?_|refine G6 ?_|refine E5 ?_|refine O4 ?_|refine O6 ?_|(refine W9 ?_;intro _ hkq;replace hm:=hm.kept0 hkq;clear hkq)|refine F6 ?_|refine U3 ?_|refine A0p ?_|refine A03 ?_|refine O1 ?_|refine J4 ?_|refine H7 ?_|refine A2k ?_|(refine U6 (fun _=>?_) (h1:=fun _=>?_)<;>(try first|contradiction|(exfalso;omega))))
    all_goals try first|omega|contradiction
    exact Y6 (⟨0,[],n1,s2,a1,cp1,da3,dc3⟩:QPar) (by exact⟨rfl,rfl,trivial⟩) ⟨hl.symm,hi2,by dsimp only;omega,hm⟩
   ·rw[Sp.B0E (hend.resolve_left hl1)] at hpk
    repeat' (first|(refine V3 ?_ hm (hc:=hpk))|refine P8 ?_ hm|refine A7 ?_|refine G9 ?_|refine G6 ?_|refine E5 ?_|refine O4 ?_|refine O6 ?_|(refine W9 ?_;intro _ hkq;replace hm:=hm.kept0 hkq;clear hkq)|refine F6 ?_|refine U3 ?_|refine V8 ?_|refine A03 ?_|refine A0A ?_|refine O1 ?_|refine J4 ?_|refine H7 ?_|(refine U6 (fun _=>?_) (h1:=fun _=>?_)<;>(try first|contradiction|(exfalso;omega))))
    all_goals try first|omega|contradiction
    exact Y6 (⟨0,[],n1,s2,a1,cp1,da3,dc3⟩:QPar) (by exact⟨rfl,rfl,trivial⟩) ⟨hl.symm,hi2,by dsimp only;omega,hm⟩
  rw[if_neg hend] at hL
  have hlt1:s2.i<T.l.length:=by omega
  have htt:(T.tok s2.i).text≠ [41]:=fun e=>hend (.inr (Sp.A5Z e (by simp)))
  by_cases h5:5≤l1.length
  ·rw[if_pos h5] at hL
   subst hL
   repeat' (first|(refine V3 ?_ hm (hc:=hpk))|(refine F5 ?_ hm (hc:=A2c s2 5 hr hT hi2 (by omega));clear hm;rintro _ _ _ _ ⟨rfl,rfl,da4,dc4,rfl⟩ hle hm;try simp only[F7] at hm)|refine P8 ?_ hm|refine D7 ?_|refine L8 ?_|refine G7 ?_|refine D8 ?_|refine A7 ?_|refine G9 ?_|refine G6 ?_|refine A0u ?_|refine E5 ?_|refine A8 ?_|refine E9 ?_|refine F8 ?_|refine O4 ?_|refine O6 ?_|(refine W9 ?_;intro _ hkq;replace hm:=hm.kept0 hkq;clear hkq)|(refine D6 (ht:=fun _=>?_) (hf:=fun _=>?_)<;>(try first|contradiction|(exfalso;omega)))|refine U3 ?_|refine V8 ?_|refine A03 ?_|refine A0A ?_|refine O1 ?_|refine J4 ?_|refine H7 ?_|(refine U6 (fun _=>?_) (h1:=fun _=>?_)<;>(try first|contradiction|(exfalso;omega))))
   all_goals try first|omega|contradiction
   exact Y6 (⟨0,[],n1,s2,a1,cp1,da4,dc4⟩:QPar) (by exact⟨rfl,rfl,trivial⟩) ⟨hl.symm,hi2,by simp[Sp.St.bad];omega,hm⟩
  rw[if_neg h5] at hL
  dsimp only at hL
  have hnm:=fun da dc=>A5z (pb:=pb) (deep:=deep) (da:=da) (dc:=dc) s2 hr hT (by omega) hi2
  have hgn:=Sp.A0q T s2
  generalize s2.named T=q at hnm hgn hL
  have hq1:=hgn.le
  have hq2:=hgn.top hi2
  have hq3:=hgn.ds
  have hnd:=fun da dc=>A1k (pb:=pb) (deep:=deep) (da:=da) (dc:=dc) q.2 [58] (by simp) hr hT (by omega) hq2
  have hgd:=Sp.X6 T q.2 [58]
  generalize (q.2.need T [58])=q4 at hnd hgd hL
  have hd4:=hgd.le
  have hd5:=hgd.top hq2
  have hd6:=hgd.ds
  by_cases hcol:q4.1=true
  case neg=>
   have hcol':q4.1=false:=by simpa using hcol
   rw[hcol',if_pos (by rfl)] at hL
   rw[hcol'] at hnd
   subst hL
   repeat' (first|(refine V3 ?_ hm (hc:=hpk))|(refine L9 ?_ hm (hc:=A0k s2 hr);clear hm;intro _ hm)|(refine F5 ?_ hm (hc:=hnm _ _);clear hm;rintro _ _ _ _ ⟨rfl,rfl,da4,dc4,rfl⟩ hle hm;try simp only[F7] at hm)|(refine F5 ?_ hm (hc:=hnd _ _);clear hm;rintro _ _ _ _ ⟨rfl,rfl,da5,dc5,rfl⟩ hle hm;try simp only[F7] at hm)|(refine V7 (d:=4) ?_ hm;clear hm;intro b4 _ hm)|refine P8 ?_ hm|(refine J6 hm (k:=?_);clear hm;intro _ hm;try simp only[F7] at hm)|refine D7 ?_|refine L8 ?_|refine G7 ?_|refine U9 ?_|refine C9 ?_|refine Q9 ?_|refine D8 ?_|refine A7 ?_|refine G9 ?_|refine G6 ?_|refine A0u ?_|refine E5 ?_|refine A8 ?_|refine E9 ?_|refine F8 ?_|refine O4 ?_|refine O6 ?_|(refine W9 ?_;intro _ hkq;replace hm:=hm.kept0 hkq;clear hkq)|refine F9 ?_|(refine D6 (ht:=fun _=>?_) (hf:=fun _=>?_)<;>(try first|contradiction|(exfalso;omega)))|refine U3 ?_|refine V8 ?_|refine A03 ?_|refine A0A ?_|refine O1 ?_|refine J4 ?_|refine H7 ?_|(refine U6 (fun _=>?_) (h1:=fun _=>?_)<;>(try first|contradiction|(exfalso;omega))))
   all_goals try first|omega|contradiction
   exact Y6 (⟨0,[],n1,s2,a1,cp1,da5,dc5⟩:QPar) (by exact⟨rfl,rfl,trivial⟩) ⟨hl.symm,hd5,by dsimp only;omega,(hm.front 2 rfl).tl⟩
  rw[hcol,if_neg (by simp)] at hL
  rw[hcol] at hnd
  have hlb:=fun da dc=>A8p (pb:=pb) (deep:=deep) (da:=da) (dc:=dc) q4.2 hr hT hd5 (by omega)
  have hgl:=Sp.A2i T q4.2
  generalize Sp.lab T q4.2=lb at hlb hgl hL
  have hl1:=hgl.le
  have hl2:=hgl.top hd5
  have hl3:=hgl.ds
  have hnl:(l1++ [(⟨q.1,lb.1,(T.tok s2.i).pos⟩:Sp.Par)]).length=n1+1:=by simp[hl]
  have hfm:(l1++ [(⟨q.1,lb.1,(T.tok s2.i).pos⟩:Sp.Par)]).flatMap A2a=l1.flatMap A2a++ [str q.1,nt lb.1,nt (T.tok s2.i).pos]:=by simp[List.flatMap_append]
  have hcm:=fun da dc=>A0f (pb:=pb) (deep:=deep) (da:=da) (dc:=dc) lb.2 [44] (by simp) hr hT hl2
  have hn4:n1<5:=by omega
  have hni:lb.2.next.i=lb.2.i+1:=rfl
  have hnd2:lb.2.next.ds.length=lb.2.ds.length:=rfl
  by_cases hcomma:T.is lb.2.i [44]=true
  ·rw[if_pos hcomma] at hL
   rw[hcomma,if_pos (by rfl)] at hcm
   have hlt2:=Sp.is_lt hcomma
   repeat' (first|(refine V3 ?_ hm (hc:=hpk))|(refine L9 ?_ hm (hc:=A0k s2 hr);clear hm;intro _ hm)|(refine F5 ?_ hm (hc:=hnm _ _);clear hm;rintro _ _ _ _ ⟨rfl,rfl,da4,dc4,rfl⟩ hle hm;try simp only[F7] at hm)|(refine F5 ?_ hm (hc:=hnd _ _);clear hm;rintro _ _ _ _ ⟨rfl,rfl,da5,dc5,rfl⟩ hle hm;try simp only[F7] at hm)|(refine F5 ?_ hm (hc:=hlb _ _);clear hm;rintro _ _ _ _ ⟨rfl,rfl,da6,dc6,rfl⟩ hle hm;try simp only[F7] at hm)|(refine F5 ?_ hm (hc:=hcm _ _);clear hm;rintro _ _ _ _ ⟨rfl,rfl,da7,dc7,rfl⟩ hle hm;try simp only[F7] at hm)|(refine V7 (d:=4) ?_ hm;clear hm;intro b4 _ hm)|(refine A2b (d:=42) ?_ hm;clear hm;intro a42 cp42 _ _ hm;try simp only[F7] at hm)|refine U5 ?_ hm|refine P8 ?_ hm|(refine J6 hm (k:=?_);clear hm;intro _ hm;try simp only[F7] at hm)|refine D7 ?_|refine D5 ?_|refine L8 ?_|refine G7 ?_|refine U9 ?_|refine C9 ?_|refine Q9 ?_|refine D8 ?_|refine A7 ?_|refine D9 ?_|refine E5 ?_|refine A8 ?_|refine E9 ?_|refine F8 ?_|refine O6 ?_|(refine W9 ?_;intro _ hkq;replace hm:=hm.kept0 hkq;clear hkq)|refine F6 ?_|(refine D6 (ht:=fun _=>?_) (hf:=fun _=>?_)<;>(try first|contradiction|(exfalso;omega)))|refine U3 ?_|refine V8 ?_|refine A03 ?_|refine A0A ?_|refine O1 ?_|refine J4 ?_|refine H7 ?_|(refine U6 (fun _=>?_) (h1:=fun _=>?_)<;>(try first|contradiction|(exfalso;omega))))
   all_goals try first|omega|contradiction
   refine J9 (⟨f1,_,n1+1,lb.2.next,a42,cp42,da7,dc7⟩:QPar) (by exact⟨rfl,rfl,trivial⟩) ⟨?_,hnl,by dsimp only;omega,by dsimp only;omega,by dsimp only;omega,by dsimp only;omega,hL⟩ (by dsimp only;omega)
   dsimp only[B0X]
   rw[hfm]
   exact(hm.front 2 rfl).tl
  ·rw[if_neg hcomma] at hL
   rw[show T.is lb.2.i [44]=false by simpa using hcomma,if_neg (by simp)] at hcm
   subst hL
   repeat' (first|(refine V3 ?_ hm (hc:=hpk))|(refine L9 ?_ hm (hc:=A0k s2 hr);clear hm;intro _ hm)|(refine F5 ?_ hm (hc:=hnm _ _);clear hm;rintro _ _ _ _ ⟨rfl,rfl,da4,dc4,rfl⟩ hle hm;try simp only[F7] at hm)|(refine F5 ?_ hm (hc:=hnd _ _);clear hm;rintro _ _ _ _ ⟨rfl,rfl,da5,dc5,rfl⟩ hle hm;try simp only[F7] at hm)|(refine F5 ?_ hm (hc:=hlb _ _);clear hm;rintro _ _ _ _ ⟨rfl,rfl,da6,dc6,rfl⟩ hle hm;try simp only[F7] at hm)|(refine F5 ?_ hm (hc:=hcm _ _);clear hm;rintro _ _ _ _ ⟨rfl,rfl,da7,dc7,rfl⟩ hle hm;try simp only[F7] at hm)|(refine V7 (d:=4) ?_ hm;clear hm;intro b4 _ hm)|(refine A2b (d:=42) ?_ hm;clear hm;intro a42 cp42 _ _ hm;try simp only[F7] at hm)|refine U5 ?_ hm|refine P8 ?_ hm|(refine J6 hm (k:=?_);clear hm;intro _ hm;try simp only[F7] at hm)|refine D7 ?_|refine D5 ?_|refine L8 ?_|refine G7 ?_|refine U9 ?_|refine C9 ?_|refine Q9 ?_|refine D8 ?_|refine A7 ?_|refine G9 ?_|refine G6 ?_|refine A0u ?_|refine E5 ?_|refine A8 ?_|refine E9 ?_|refine F8 ?_|refine O4 ?_|refine O6 ?_|(refine W9 ?_;intro _ hkq;replace hm:=hm.kept0 hkq;clear hkq)|refine F9 ?_|refine F6 ?_|(refine D6 (ht:=fun _=>?_) (hf:=fun _=>?_)<;>(try first|contradiction|(exfalso;omega)))|refine U3 ?_|refine V8 ?_|refine A03 ?_|refine A0A ?_|refine O1 ?_|refine J4 ?_|refine H7 ?_|(refine U6 (fun _=>?_) (h1:=fun _=>?_)<;>(try first|contradiction|(exfalso;omega))))
   all_goals try first|omega|contradiction
   refine Y6 (⟨0,[],n1+1,s2,a42,cp42,da7,dc7⟩:QPar) (by exact⟨rfl,rfl,trivial⟩) ⟨hnl.symm,hl2,by dsimp only;omega,?_⟩
   dsimp only[B0X]
   rw[hfm]
   exact(hm.front 2 rfl).tl
 clear hm hmu
 rintro⟨_,_,n1,_,a1,cp1,da3,dc3⟩ w2 ⟨hn,hi2,hd2,hm⟩
 dsimp only at hn hm ⊢
 subst hn
 have hgd:=Sp.X6 T R.2 [41]
 have k1:=hgd.le
 have k2:=hgd.top hi2
 have k3:=hgd.ds
 repeat' (first|(refine F5 ?_ hm (hc:=A1k R.2 [41] (by simp) hr hT (by omega) hi2);clear hm;rintro _ _ _ _ ⟨rfl,rfl,da4,dc4,rfl⟩ hle hm;try simp only[F7] at hm)|refine D7 ?_|refine D5 ?_|refine D8 ?_|refine A7 ?_|refine E5 ?_|refine A8 ?_|refine G8 ?_|refine H5 ?_)
 obtain⟨I3,hle3,hm3,hrow3⟩:=(hm.front 2 rfl).freeze
 exact⟨I3,_,⟨k2,by dsimp only;omega,⟨a1,cp1,rfl,hrow3⟩,da4,dc4,rfl⟩,hm3⟩
abbrev C1m (pb bi:Nat) (la:Option Addr) (lc:Nat) (T:Sp.Src) (q:Sp.Itm×Sp.St):Value→O5→List HItem→Prop:=
 fun v I' H'=>q.2.i≤T.l.length∧q.2.ds.length≤1099511626000∧v=.tuple #[]∧∃ap cp as_ cs ab cb xb da dc,
  RowI I' 65 3 (.slice ap q.1.params.length cp) q.1.params.length (q.1.params.flatMap A2a)∧RowI I' 62 2 (.slice as_ q.1.sends.length cs) q.1.sends.length (q.1.sends.flatMap A1v)∧
  RowI I' 109 15 (.slice ab q.1.body.length cb) q.1.body.length xb∧U8 I' q.1.body xb∧
  H'= [A3d pb la lc T q.2 0 da dc,A15 q.2.ds da dc,.cell bi (A1m q.1.kind q.1.name q.1.label (.slice ap q.1.params.length cp) (.slice as_ q.1.sends.length cs) (.slice ab q.1.body.length cb) q.1.at_ q.1.size q.1.mark A10) 60]
theorem B6W (T:Sp.Src) (at_:Int) (size:Nat) (s:Sp.St):Sp.A4q T at_ size s=
  (let r:=s.named T
   let p:=B0W T r.2
   let s4:=(p.2.need T [58]).2
   let r5:=Sp.lab T s4
   let r6:=if T.is r5.2.i [115,101,110,100,115] then Sp.A2E T 6 [] r5.2.next else ([],r5.2)
   let r7:=Sp.block T (Sp.A4P T) 0 r6.2
   (⟨2,r.1,r5.1,p.1,r6.1,r7.1,at_,size,(T.tok s.i).pos,[]⟩,r7.2)):=rfl
theorem C1s (T:Sp.Src) (pb bi:Nat) (hT:Ok T) (I:O5) (la:Option Addr) (lc:Nat) (da:Option Addr) (dc:Nat) (s:Sp.St) (at_:Int) (size:Nat) (hC:A1X I) (hr:A1o I T la lc) (hi:s.i≤T.l.length) (hd:s.ds= []):
  CalM prog 91 #[ptr pb,ptr bi] I [A3d pb la lc T s 0 da dc,A15 s.ds da dc,.cell bi (A1m 3 [] 0 A10 A10 A10 at_ size 0 A10) 60]
   (C1m pb bi la lc T (Sp.A4q T at_ size s)):=by
 have h2:=hT.size
 have h3:=hT.len
 have h1:=hT.at_ s.i
 have hd0:s.ds.length=0:=by rw[hd];rfl
 rw[B6W]
 have hnm:=fun da dc=>A5z (pb:=pb) (deep:=0) (da:=da) (dc:=dc) s hr hT (by omega) hi
 have hgn:=Sp.A0q T s
 dsimp only
 generalize s.named T=r at hnm hgn ⊢
 have hn1:=hgn.le
 have hn2:=hgn.top hi
 have hn3:=hgn.ds
 have hpa:=fun da dc=>B7B T pb hT I la lc 0 da dc r.2 hr hn2 (by omega)
 generalize B0W T r.2=R at hpa ⊢
 refine CalM.of fun w E hm=>enter (N:=64) func91 rfl [(0,ptr pb),(1,ptr bi)] A0B rfl ?_
 repeat' (first|(refine L9 ?_ hm (hc:=A0k s hr);clear hm;intro _ hm)|(refine F5 ?_ hm (hc:=hnm _ _);clear hm;rintro _ _ _ _ ⟨rfl,rfl,da1,dc1,rfl⟩ hle hm;try simp only[F7] at hm)|(refine F5 ?_ hm (hp:=by first|exact pm2_0|exact pm2_1) (hc:=hpa _ _);clear hm;rintro _ I2 _ _ ⟨hi2,hd2,⟨ap,cp,rfl,hrowp⟩,da2,dc2,rfl⟩ hle2 hm;replace hr:=hr.le hle2;replace hC:=hC.le hle2)|(refine J6 hm (k:=?_);clear hm;intro _ hm;try simp only[F7] at hm)|refine D7 ?_|refine E8 ?_|refine C9 ?_|refine D8 ?_|refine A7 ?_|refine E5 ?_|refine A8 ?_)
 have hd9:=fun da dc=>A1k (pb:=pb) (deep:=0) (da:=da) (dc:=dc) R.2 [58] (by simp) hr hT (by omega) hi2
 have hg9:=Sp.X6 T R.2 [58]
 generalize (R.2.need T [58])=s4 at hd9 hg9 ⊢
 have k4:=hg9.le
 have k5:=hg9.top hi2
 have k6:=hg9.ds
 have hlb:=fun da dc=>A8p (pb:=pb) (deep:=0) (da:=da) (dc:=dc) s4.2 hr hT k5 (by omega)
 have hgl:=Sp.A2i T s4.2
 generalize Sp.lab T s4.2=r5 at hlb hgl ⊢
 have k7:=hgl.le
 have k8:=hgl.top k5
 have k9:=hgl.ds
 have hsd:=fun da dc=>A0f (pb:=pb) (deep:=0) (da:=da) (dc:=dc) r5.2 [115,101,110,100,115] (by simp) hr hT k8
 obtain⟨R6,hR6⟩:∃R6,R6=(if T.is r5.2.i [115,101,110,100,115]=true then Sp.A2E T 6 [] r5.2.next else ([],r5.2)):=⟨_,rfl⟩
 rw[←hR6]
 cases hyes:T.is r5.2.i [115,101,110,100,115] with
 |true=>
  rw[hyes,if_pos rfl] at hR6
  rw[hyes,if_pos rfl] at hsd
  have hlt6:=Sp.is_lt hyes
  have hni:r5.2.next.i=r5.2.i+1:=rfl
  have hnd2:r5.2.next.ds.length=r5.2.ds.length:=rfl
  repeat' (first|(refine A65 0 (fun x:QSnd=> [(0,ptr pb),(1,ptr bi)]) (fun x w'=>x.n=R6.1.length∧R6.2.i≤T.l.length∧R6.2.ds.length≤16000000∧Mem E I2 [A3d pb la lc T R6.2 0 x.da x.dc,A15 R6.2.ds x.da x.dc,B1a R6.1 x.n x.a x.cp,.cell bi (A1m 2 r.1 r5.1 (.slice ap R.1.length cp) (.slice x.a x.n x.cp) A10 at_ size (T.tok s.i).pos A10) 60] w') ?_ ?_)|(refine F5 ?_ hm (hc:=hd9 _ _);clear hm;rintro _ _ _ _ ⟨rfl,rfl,da5,dc5,rfl⟩ hle hm;try simp only[F7] at hm)|(refine F5 ?_ hm (hc:=hlb _ _);clear hm;rintro _ _ _ _ ⟨rfl,rfl,da6,dc6,rfl⟩ hle hm;try simp only[F7] at hm)|(refine F5 ?_ hm (hc:=hsd _ _);clear hm;rintro _ _ _ _ ⟨rfl,rfl,da7,dc7,rfl⟩ hle hm;try simp only[F7] at hm)|(refine J6 hm (k:=?_);clear hm;intro _ hm;try simp only[F7] at hm)|refine D7 ?_|refine E8 ?_|refine C9 ?_|refine D8 ?_|refine A7 ?_|refine E5 ?_|refine A8 ?_|refine F9 ?_)
  ·have hm2:=hm.nil 62 2
   clear hm
   refine U4 (fun x:QSnd=> [(0,ptr pb),(1,ptr bi)])
    (fun x w'=>Mem E I2 [A3d pb la lc T x.s 0 x.da x.dc,A15 x.s.ds x.da x.dc,B1a x.l x.n x.a x.cp,.cell bi (A1m 2 r.1 r5.1 (.slice ap R.1.length cp) (.slice x.a x.n x.cp) A10 at_ size (T.tok s.i).pos A10) 60] w'∧
     x.l.length=x.n∧x.n≤5∧x.f+x.n=6∧x.s.i≤T.l.length∧x.s.ds.length≤8000010+2 *x.s.i+3 *x.n∧Sp.A2E T x.f x.l x.s=R6)
    (fun x=>x.f) ⟨6,[],0,r5.2.next,none,0,da7,dc7⟩ (by exact⟨rfl,rfl,trivial⟩) ⟨hm2.perm pm2_1,rfl,by dsimp only;omega,rfl,by dsimp only;omega,by dsimp only;omega,hR6.symm⟩ ?_
   clear hm2
   rintro⟨f1,l1,n1,s2,a2,cp2,da3,dc3⟩ w2 ⟨hm,hl,hn5,hf,hi3,hd3,hL⟩
   dsimp only at hm hl hn5 hf hi3 hd3 hL ⊢
   obtain⟨f1,rfl⟩:∃f',f1=f'+1:=⟨f1-1,by omega⟩
   rw[Sp.A2E] at hL
   by_cases h5:5≤l1.length
   ·rw[if_pos h5] at hL
    subst hL
    repeat' (first|(refine F5 ?_ hm (hc:=A2c s2 5 hr hT hi3 (by omega));clear hm;rintro _ _ _ _ ⟨rfl,rfl,da4,dc4,rfl⟩ hle hm;try simp only[F7] at hm)|refine H6 ?_ hm|refine D7 ?_|refine L8 ?_|refine G7 ?_|refine E8 ?_|refine C9 ?_|refine D8 ?_|refine A7 ?_|refine G9 ?_|refine G6 ?_|refine A0u ?_|refine E5 ?_|refine A8 ?_|refine E9 ?_|refine O4 ?_|(refine D6 (ht:=fun _=>?_) (hf:=fun _=>?_)<;>(try first|contradiction|(exfalso;omega))))
    all_goals try omega
    exact Y6 (⟨0,[],n1,s2,a2,cp2,da4,dc4⟩:QSnd) (by exact⟨rfl,rfl,trivial⟩) ⟨hl.symm,hi3,by simp[Sp.St.bad];omega,hm⟩
   rw[if_neg h5] at hL
   dsimp only at hL
   have hnm2:=fun da dc=>A5z (pb:=pb) (deep:=0) (da:=da) (dc:=dc) s2 hr hT (by omega) hi3
   have hgn2:=Sp.A0q T s2
   generalize s2.named T=q at hnm2 hgn2 hL
   have hq1:=hgn2.le
   have hq2:=hgn2.top hi3
   have hq3:=hgn2.ds
   have hnl:(l1++ [(⟨q.1,(T.tok s2.i).pos⟩:Sp.Rf)]).length=n1+1:=by simp[hl]
   have hfm:(l1++ [(⟨q.1,(T.tok s2.i).pos⟩:Sp.Rf)]).flatMap A1v=l1.flatMap A1v++ [str q.1,nt (T.tok s2.i).pos]:=by simp[List.flatMap_append]
   have hcm:=fun da dc=>A0f (pb:=pb) (deep:=0) (da:=da) (dc:=dc) q.2 [44] (by simp) hr hT hq2
   have hn4:n1<5:=by omega
   have hni:q.2.next.i=q.2.i+1:=rfl
   have hnd2:q.2.next.ds.length=q.2.ds.length:=rfl
   by_cases hcomma:T.is q.2.i [44]=true
   ·rw[if_pos hcomma] at hL
    rw[hcomma,if_pos (by rfl)] at hcm
    have hlt2:=Sp.is_lt hcomma
    repeat' (first|(refine Y0 (id:=10) (hm.perm pm1_3) 6 8 (h:=?_);clear hm;intro wd hR hm)|(refine L9 ?_ hm (hc:=A0k s2 hr);clear hm;intro _ hm)|(refine F5 ?_ hm (hc:=hnm2 _ _);clear hm;rintro _ _ _ _ ⟨rfl,rfl,da4,dc4,rfl⟩ hle hm;try simp only[F7] at hm)|(refine F5 ?_ hm (hc:=hcm _ _);clear hm;rintro _ _ _ _ ⟨rfl,rfl,da8,dc8,rfl⟩ hle hm;try simp only[F7] at hm)|refine A6k ?_ hR|refine Y7 ?_ hR|(refine A1N (d:=53) ?_ hm;clear hm;intro a53 cp53 _ _ hm;replace hm:=hR.back hm;clear hR;try simp only[F7] at hm)|(refine V7 (d:=4) ?_ hm;clear hm;intro b4 _ hm)|refine H6 ?_ hm|(refine J6 hm (k:=?_);clear hm;intro _ hm;try simp only[F7] at hm)|refine D7 ?_|refine L8 ?_|refine G7 ?_|refine U9 ?_|refine E8 ?_|refine C9 ?_|refine Q9 ?_|refine D8 ?_|refine A7 ?_|refine D9 ?_|refine E5 ?_|refine A8 ?_|refine E9 ?_|refine F8 ?_|refine F6 ?_|(refine D6 (ht:=fun _=>?_) (hf:=fun _=>?_)<;>(try first|contradiction|(exfalso;omega)))|refine A0P ?_|refine X5 ?_|refine Q3 ?_|refine A0s ?_)
    all_goals try first|omega|contradiction
    refine J9 (⟨f1,_,n1+1,q.2.next,a53,cp53,da8,dc8⟩:QSnd) (by exact⟨rfl,rfl,trivial⟩) ⟨?_,hnl,by dsimp only;omega,by dsimp only;omega,by dsimp only;omega,by dsimp only;omega,hL⟩ (by dsimp only;omega)
    dsimp only[B1a]
    rw[hfm]
    exact(hm.front 3 rfl).tl
   ·rw[if_neg hcomma] at hL
    rw[show T.is q.2.i [44]=false by simpa using hcomma,if_neg (by simp)] at hcm
    subst hL
    repeat' (first|(refine Y0 (id:=10) (hm.perm pm1_3) 6 8 (h:=?_);clear hm;intro wd hR hm)|(refine L9 ?_ hm (hc:=A0k s2 hr);clear hm;intro _ hm)|(refine F5 ?_ hm (hc:=hnm2 _ _);clear hm;rintro _ _ _ _ ⟨rfl,rfl,da4,dc4,rfl⟩ hle hm;try simp only[F7] at hm)|(refine F5 ?_ hm (hc:=hcm _ _);clear hm;rintro _ _ _ _ ⟨rfl,rfl,da8,dc8,rfl⟩ hle hm;try simp only[F7] at hm)|refine A6k ?_ hR|refine Y7 ?_ hR|(refine A1N (d:=53) ?_ hm;clear hm;intro a53 cp53 _ _ hm;replace hm:=hR.back hm;clear hR;try simp only[F7] at hm)|(refine V7 (d:=4) ?_ hm;clear hm;intro b4 _ hm)|refine H6 ?_ hm|(refine J6 hm (k:=?_);clear hm;intro _ hm;try simp only[F7] at hm)|refine D7 ?_|refine L8 ?_|refine G7 ?_|refine U9 ?_|refine E8 ?_|refine C9 ?_|refine Q9 ?_|refine D8 ?_|refine A7 ?_|refine G9 ?_|refine G6 ?_|refine A0u ?_|refine E5 ?_|refine A8 ?_|refine E9 ?_|refine F8 ?_|refine O4 ?_|refine F9 ?_|(refine D6 (ht:=fun _=>?_) (hf:=fun _=>?_)<;>(try first|contradiction|(exfalso;omega)))|refine A0P ?_|refine X5 ?_|refine Q3 ?_|refine A0s ?_)
    all_goals try first|omega|contradiction
    refine Y6 (⟨0,[],n1+1,s2,a53,cp53,da8,dc8⟩:QSnd) (by exact⟨rfl,rfl,trivial⟩) ⟨hnl.symm,hq2,by dsimp only;omega,?_⟩
    dsimp only[B1a]
    rw[hfm]
    exact(hm.front 3 rfl).tl
  ·clear hm hd9 hlb hsd
   rintro⟨_,_,n2,_,a2,cp2,da3,dc3⟩ w3 ⟨hn,hi3,hd3,hm⟩
   dsimp only at hn hm ⊢
   subst hn
   have hbl:=fun da dc=>(A9e T pb hT (Sp.A4P T)).2 I2 la lc 0 da dc R6.2 hC hr hi3 (by rw[Sp.A4P];omega) (by omega) (by omega)
   have hgb:=(Sp.A0N T (Sp.A4P T)).1 0 R6.2
   generalize Sp.block T (Sp.A4P T) 0 R6.2=r7 at hbl hgb ⊢
   have j1:=hgb.le
   have j2:=hgb.top hi3
   have j3:=hgb.ds
   repeat' (first|(refine F5 ?_ hm (hc:=hbl _ _);clear hm;rintro _ I3 _ _ ⟨⟨ab,cb,xb,rfl,hrow,hsts⟩,da8,dc8,rfl⟩ hle hm;have hleI3:=hle;try simp only[F7] at hm)|(refine J6 hm (k:=?_);clear hm;intro _ hm;try simp only[F7] at hm)|refine D7 ?_|refine E8 ?_|refine C9 ?_|refine D8 ?_|refine A7 ?_|refine A8 ?_|refine X3 ?_)
   obtain⟨I4,hle4,hm4,hrow4⟩:=(hm.front 2 rfl).freeze
   exact⟨I4,_,⟨j2,by dsimp only;omega,rfl,ap,cp,a2,cp2,ab,cb,xb,da8,dc8,(hrowp.le hleI3).le hle4,hrow4,hrow.le hle4,U8.le hle4 _ _ hsts,rfl⟩,hm4⟩
 |false=>
  rw[hyes,if_neg (by simp)] at hR6
  rw[hyes,if_neg (by simp)] at hsd
  have hi3:R6.2.i≤T.l.length:=by rw[hR6];exact k8
  have hd3:R6.2.ds.length≤16000000:=by rw[hR6];dsimp only;omega
  have hs6:R6.1= []:=by rw[hR6]
  have hbl:=fun da dc=>(A9e T pb hT (Sp.A4P T)).2 I2 la lc 0 da dc R6.2 hC hr hi3 (by rw[Sp.A4P];omega) (by omega) (by omega)
  have hgb:=(Sp.A0N T (Sp.A4P T)).1 0 R6.2
  generalize Sp.block T (Sp.A4P T) 0 R6.2=r7 at hbl hgb ⊢
  have j1:=hgb.le
  have j2:=hgb.top hi3
  have j3:=hgb.ds
  subst hR6
  repeat' (first|(refine F5 ?_ hm (hc:=hd9 _ _);clear hm;rintro _ _ _ _ ⟨rfl,rfl,da5,dc5,rfl⟩ hle hm;try simp only[F7] at hm)|(refine F5 ?_ hm (hc:=hlb _ _);clear hm;rintro _ _ _ _ ⟨rfl,rfl,da6,dc6,rfl⟩ hle hm;try simp only[F7] at hm)|(refine F5 ?_ hm (hc:=hsd _ _);clear hm;rintro _ _ _ _ ⟨rfl,rfl,da7,dc7,rfl⟩ hle hm;try simp only[F7] at hm)|(refine F5 ?_ hm (hc:=hbl _ _);clear hm;rintro _ I3 _ _ ⟨⟨ab,cb,xb,rfl,hrow,hsts⟩,da8,dc8,rfl⟩ hle hm;have hleI3:=hle;try simp only[F7] at hm)|(refine J6 hm (k:=?_);clear hm;intro _ hm;try simp only[F7] at hm)|refine D7 ?_|refine E8 ?_|refine C9 ?_|refine D8 ?_|refine A7 ?_|refine E5 ?_|refine A8 ?_|refine F8 ?_|refine X3 ?_|refine F6 ?_)
  exact⟨I3,_,⟨j2,by dsimp only;omega,rfl,ap,cp,none,0,ab,cb,xb,da8,dc8,hrowp.le hleI3,A0z _ _ _ _ _,hrow,hsts,rfl⟩,hm⟩
theorem B98 (s:List UInt8) (at_:Int) (I:O5) (hC:A1X I) (hs:s.length≤1048576):CalM prog 63 #[str s,.int .i64 at_] I [] (C0I (Sp.item s at_)):=by
 have hT:=B5I s hs
 rw[Sp.A6L]
 generalize hTd:(Sp.Src.mk (Sp.O3 s) s.length)=T at hT ⊢
 have hsz:T.size=s.length:=by rw[←hTd]
 have h2:=hT.size
 have h3:=hT.len
 obtain⟨q,hq⟩:∃q,q=Sp.A3H T at_ s.length:=⟨_,rfl⟩
 rw[←hq]
 refine CalM.of fun w E hm=>enter (N:=67) func63 rfl [(0,str s),(1,.int .i64 at_)] A0B rfl ?_
 repeat' (first|(refine A65 0 (fun x:ItX=> [(4,ptr b4),(5,ptr b5),(6,ptr b16)]) (fun x w'=>q.2.i≤T.l.length∧q.2.ds.length≤1099511626000∧A1o x.I T ta tc∧RowI x.I 65 3 (.slice x.ap q.1.params.length x.cp) q.1.params.length (q.1.params.flatMap A2a)∧RowI x.I 62 2 (.slice x.as_ q.1.sends.length x.cs) q.1.sends.length (q.1.sends.flatMap A1v)∧RowI x.I 109 15 (.slice x.ab q.1.body.length x.cb) q.1.body.length x.xb∧U8 x.I q.1.body x.xb∧Mem E x.I [A3d b16 ta tc T q.2 0 x.da x.dc,A15 q.2.ds x.da x.dc,.cell b5 (itV q.1 x) 60,.cell b4 (A1m 0 [] 0 A10 A10 A10 0 0 0 A10) 60] w') ?_ ?_)|(refine Q7 (hc:=by exact B1H s (by omega) _) (k:=?_);rintro tv wt ⟨hto,hkt⟩;obtain⟨ta,tc,rfl⟩:=A3o hto;obtain⟨I1,hle1,hm1,hrow⟩:=hm.take hkt hto;clear hm;have hm:=hm1;clear hm1)|(refine V6 (d:=4) ?_ hm;clear hm;intro b4 _ hm)|(refine V7 (d:=5) ?_ hm;clear hm;intro b5 _ hm)|(refine A0t (d:=16) ?_ hm;clear hm;intro b16 _ hm)|refine D7 ?_|refine D5 ?_|refine A0Z ?_|refine Q9 ?_|refine D8 ?_|refine A7 ?_|refine E5 ?_|refine A8 ?_)
 ·rename_i wB
  have hr:A1o I1 T ta tc:=by rw[←hTd];exact hrow
  have hC1:=hC.le hle1
  have hm2:Mem E I1 [A3d b16 ta tc T ⟨0,[]⟩ 0 none 0,.cell b5 (A1m 3 [] 0 A10 A10 A10 at_ s.length 0 A10) 60,.cell b4 (A1m 0 [] 0 A10 A10 A10 0 0 0 A10) 60] wB:=by rw[←hTd];exact hm
  have hm3:Mem E I1 [A3d b16 ta tc T ⟨0,[]⟩ 0 none 0,A15 [] none 0,.cell b5 (A1m 3 [] 0 A10 A10 A10 at_ s.length 0 A10) 60,.cell b4 (A1m 0 [] 0 A10 A10 A10 0 0 0 A10) 60] wB:=(hm2.nil 92 4).swap
  clear hm hm2 hrow hto
  have hm:=hm3
  clear hm3
  have hq1:=fun da dc=>A0f (pb:=b16) (deep:=0) (da:=da) (dc:=dc) ⟨0,[]⟩ [102,110] (by simp) hr hT (Nat.zero_le _)
  have hq2:=fun da dc=>A0f (pb:=b16) (deep:=0) (da:=da) (dc:=dc) ⟨0,[]⟩ [99,104,97,110] (by simp) hr hT (Nat.zero_le _)
  dsimp only at hq1 hq2
  rw[Sp.A3H] at hq
  by_cases hf:T.is 0 [102,110]=true
  ·rw[if_pos hf] at hq
   rw[if_pos hf,hf] at hq1
   have hlt:=Sp.is_lt hf
   have hfn:=fun da dc=>C1s T b16 b5 hT I1 ta tc da dc ⟨1,[]⟩ at_ s.length hC1 hr hlt rfl
   rw[←hq] at hfn
   repeat' (first|(refine F5 ?_ hm (hc:=hq1 _ _);clear hm;rintro _ _ _ _ ⟨rfl,rfl,da1,dc1,rfl⟩ hle hm;try simp only[F7] at hm)|(refine F5 ?_ hm (hc:=hfn _ _);clear hm;rintro _ I2 _ _ ⟨hqi,hqd,rfl,ap,cp,as_,cs,ab,cb,xb,da2,dc2,r1,r2,r3,r4,rfl⟩ hle hm;have hleI2:=hle;try simp only[F7] at hm)|refine D7 ?_|refine D5 ?_|refine D8 ?_|refine A7 ?_|refine D9 ?_|refine A8 ?_|refine F9 ?_)
   exact Y6 (⟨I2,da2,dc2,ap,cp,as_,cs,ab,cb,xb⟩:ItX) (by exact⟨rfl,rfl,rfl,trivial⟩) ⟨hqi,hqd,hr.le hleI2,r1,r2,r3,r4,hm⟩
  rw[if_neg hf] at hq
  rw[if_neg hf,show T.is 0 [102,110]=false by simpa using hf] at hq1
  by_cases hc:T.is 0 [99,104,97,110]=true
  ·rw[if_pos hc,Sp.A8N] at hq
   rw[if_pos hc,hc] at hq2
   have hlt:=Sp.is_lt hc
   dsimp only at hq
   have hnm:=fun da dc=>A5z (pb:=b16) (deep:=0) (da:=da) (dc:=dc) ⟨1,[]⟩ hr hT (by simp) hlt
   have hhr:=fun da dc=>A0k (pb:=b16) (deep:=0) (da:=da) (dc:=dc) ⟨1,[]⟩ hr
   have hgn:=Sp.A0q T ⟨1,[]⟩
   generalize (⟨1,[]⟩:Sp.St).named T=r at hnm hgn hq
   have hn1:=hgn.le
   have hn2:=hgn.top hlt
   have hn3:=hgn.ds
   dsimp only[List.length_nil] at hn1 hn3
   have hd1:=fun da dc=>A1k (pb:=b16) (deep:=0) (da:=da) (dc:=dc) r.2 [58] (by simp) hr hT (by omega) hn2
   have hg1:=Sp.X6 T r.2 [58]
   generalize (r.2.need T [58])=s1 at hd1 hg1 hq
   have k1:=hg1.le
   have k2:=hg1.top hn2
   have k3:=hg1.ds
   have hlb:=fun da dc=>A8p (pb:=b16) (deep:=0) (da:=da) (dc:=dc) s1.2 hr hT k2 (by omega)
   have hgl:=Sp.A2i T s1.2
   generalize Sp.lab T s1.2=r2 at hlb hgl hq
   have k4:=hgl.le
   have k5:=hgl.top k2
   have k6:=hgl.ds
   have hd2:=fun da dc=>A1k (pb:=b16) (deep:=0) (da:=da) (dc:=dc) r2.2 [59] (by simp) hr hT (by omega) k5
   have hg2:=Sp.X6 T r2.2 [59]
   generalize (r2.2.need T [59])=s3 at hd2 hg2 hq
   have k7:=hg2.le
   have k8:=hg2.top k5
   have k9:=hg2.ds
   subst hq
   repeat' (first|(refine F5 ?_ hm (hc:=hq1 _ _);clear hm;rintro _ _ _ _ ⟨rfl,rfl,da5,dc5,rfl⟩ hle hm;try simp only[F7] at hm)|(refine F5 ?_ hm (hc:=hq2 _ _);clear hm;rintro _ _ _ _ ⟨rfl,rfl,da6,dc6,rfl⟩ hle hm;try simp only[F7] at hm)|(refine L9 ?_ hm (hc:=hhr _ _);clear hm;intro _ hm)|(refine F5 ?_ hm (hc:=hnm _ _);clear hm;rintro _ _ _ _ ⟨rfl,rfl,da1,dc1,rfl⟩ hle hm;try simp only[F7] at hm)|(refine F5 (d:=48) ?_ hm (hc:=hd2 _ _);clear hm;rintro _ _ _ _ ⟨rfl,rfl,da4,dc4,rfl⟩ hle hm;try simp only[F7] at hm)|(refine F5 ?_ hm (hc:=hd1 _ _);clear hm;rintro _ _ _ _ ⟨rfl,rfl,da2,dc2,rfl⟩ hle hm;try simp only[F7] at hm)|(refine F5 ?_ hm (hc:=hlb _ _);clear hm;rintro _ _ _ _ ⟨rfl,rfl,da3,dc3,rfl⟩ hle hm;try simp only[F7] at hm)|(refine J6 hm (k:=?_);clear hm;intro _ hm;try simp only[F7] at hm)|refine D7 ?_|refine D5 ?_|refine C9 ?_|refine D8 ?_|refine A7 ?_|refine D9 ?_|refine E5 ?_|refine A8 ?_|refine F9 ?_|refine F6 ?_)
   exact Y6 (⟨I1,da4,dc4,none,0,none,0,none,0,[]⟩:ItX) (by exact⟨rfl,rfl,rfl,trivial⟩) ⟨k8,by dsimp only;omega,hr,A0z _ _ _ _ _,A0z _ _ _ _ _,A0z _ _ _ _ _,.nil,hm⟩
  ·rw[if_neg hc] at hq
   rw[if_neg hc,show T.is 0 [99,104,97,110]=false by simpa using hc] at hq2
   subst hq
   repeat' (first|(refine F5 ?_ hm (hc:=hq1 _ _);clear hm;rintro _ _ _ _ ⟨rfl,rfl,da5,dc5,rfl⟩ hle hm;try simp only[F7] at hm)|(refine F5 ?_ hm (hc:=hq2 _ _);clear hm;rintro _ _ _ _ ⟨rfl,rfl,da6,dc6,rfl⟩ hle hm;try simp only[F7] at hm)|(refine F5 ?_ hm (hc:=A2c ⟨0,[]⟩ 2 hr hT (Nat.zero_le _) (by simp));clear hm;rintro _ _ _ _ ⟨rfl,rfl,da2,dc2,rfl⟩ hle hm;try simp only[F7] at hm)|refine H6 ?_ hm|(refine J6 hm (k:=?_);clear hm;intro _ hm;try simp only[F7] at hm)|refine D7 ?_|refine D5 ?_|refine G7 ?_|refine E8 ?_|refine C9 ?_|refine D8 ?_|refine A7 ?_|refine D9 ?_|refine E5 ?_|refine A8 ?_|refine F6 ?_)
   exact Y6 (⟨I1,da2,dc2,none,0,none,0,none,0,[]⟩:ItX) (by exact⟨rfl,rfl,rfl,trivial⟩) ⟨Nat.le_refl _,by simp[Sp.St.bad],hr,A0z _ _ _ _ _,A0z _ _ _ _ _,A0z _ _ _ _ _,.nil,hm⟩
 clear hm
 rintro⟨I2,da,dc,ap,cp,as_,cs,ab,cb,xb⟩ w2 ⟨hi,hd,hr,r1,r2,r3,r4,hm⟩
 dsimp only[itV] at hi hd hr r1 r2 r3 r4 hm ⊢
 rw[Sp.B4A]
 by_cases hlt:q.2.i<T.l.length
 ·rw[if_pos hlt]
  repeat' (first|(refine F5 ?_ hm (hc:=A2c q.2 2 hr hT hi (by omega));clear hm;rintro _ _ _ _ ⟨rfl,rfl,da2,dc2,rfl⟩ hle hm;try simp only[F7] at hm)|refine H6 ?_ hm|refine U5 ?_ hm|refine P8 ?_ hm|(refine N8 ?_ hm;clear hm;intro _ hm;try simp only[F7] at hm)|(refine J6 hm (k:=?_);clear hm;intro _ hm;try simp only[F7] at hm)|refine Y9 ?_ hm|refine D7 ?_|refine E8 ?_|refine C9 ?_|refine D8 ?_|refine A7 ?_|refine E5 ?_|refine A8 ?_|refine G8 ?_|refine O6 ?_|(refine W9 ?_;intro _ hkq;replace hm:=hm.kept0 hkq;clear hkq)|(refine D6 (ht:=fun _=>?_) (hf:=fun _=>?_)<;>(try first|contradiction|(exfalso;omega)))|refine U3 ?_|refine A03 ?_|refine O1 ?_|refine J4 ?_|refine H7 ?_)
  all_goals try omega
  obtain⟨I3,hle3,hm3,hrow3⟩:=(hm.front 1 rfl).freeze
  exact⟨I3,[],⟨_,rfl,⟨ap,cp,as_,cs,ab,cb,da2,dc2,xb,rfl,r1.le hle3,r2.le hle3,r3.le hle3,U8.le hle3 _ _ r4,hrow3⟩,rfl⟩,hm3.left (H:= [])⟩
 ·rw[if_neg hlt]
  repeat' (first|refine H6 ?_ hm|refine U5 ?_ hm|refine P8 ?_ hm|(refine N8 ?_ hm;clear hm;intro _ hm;try simp only[F7] at hm)|(refine J6 hm (k:=?_);clear hm;intro _ hm;try simp only[F7] at hm)|refine Y9 ?_ hm|refine D7 ?_|refine E8 ?_|refine C9 ?_|refine D8 ?_|refine A7 ?_|refine E5 ?_|refine A8 ?_|refine F8 ?_|refine G8 ?_|refine O6 ?_|(refine W9 ?_;intro _ hkq;replace hm:=hm.kept0 hkq;clear hkq)|(refine D6 (ht:=fun _=>?_) (hf:=fun _=>?_)<;>(try first|contradiction|(exfalso;omega)))|refine U3 ?_|refine A03 ?_|refine O1 ?_|refine J4 ?_|refine H7 ?_)
  all_goals try omega
  obtain⟨I3,hle3,hm3,hrow3⟩:=(hm.front 1 rfl).freeze
  exact⟨I3,[],⟨_,rfl,⟨ap,cp,as_,cs,ab,cb,da,dc,xb,rfl,r1.le hle3,r2.le hle3,r3.le hle3,U8.le hle3 _ _ r4,hrow3⟩,rfl⟩,hm3.left (H:= [])⟩
end Go.Proofs.YtfjdfdgpkncpfaaGreatDoor
end
section
namespace Go.Proofs.YtfjdfdgpkncpfaaGreatDoor
open Go.Proofs.Tryz
open Go Go.Fw
instance :TyMap prog 77 3 4:=⟨by kernel_rfl⟩
instance :TyMap prog 113 3 3:=⟨by kernel_rfl⟩
instance :TyMap prog 142 9 60:=⟨by kernel_rfl⟩
end Go.Proofs.YtfjdfdgpkncpfaaGreatDoor
end
section
namespace Go.Proofs.YtfjdfdgpkncpfaaGreatDoor
open Go.Proofs.Tryz
open Go.Fw
theorem _root_.Go.Fw.RowI.none {I:O5}{ty:TypeId}{sz n cp:Nat}{us:List Value} (h:RowI I ty sz (.slice none n cp) n us):n=0:=by
 obtain⟨_,a,cap,e1,_,e3⟩:=h
 rcases Nat.eq_zero_or_pos n with h0|h0
 ·exact h0
 ·obtain⟨b,off,c,fr,f1,_⟩:=e3 h0
  injection e1 with e1
  rw[f1] at e1;cases e1
abbrev B6d (ty:TypeId) (sz n:Nat) (us:List Value):Value→O5→List HItem→Prop:=fun v I' H'=>H'= []∧∃a cp,v=.slice a n cp∧RowI I' ty sz (.slice a n cp) n us
theorem B7z (I:O5) (a:Option Addr) (n cp:Nat) (us:List Value) (hr:RowI I 65 3 (.slice a n cp) n us) (h1:us.all (·.oneCell')=true) (hn:n≤1099511627776):
  CalM prog 70 #[.slice a n cp] I [] (B6d 65 3 n us):=by
 refine CalM.of fun w E hm=>enter (N:=8) func70 rfl [(0,.slice a n cp)] Z4 rfl ?_
 cases a with
 |none=>
  have h0:n=0:=hr.none
  subst h0
  have hu:us= []:=List.eq_nil_of_length_eq_zero (by have:=hr.len;simpa using this)
  subst hu
  repeat' (first|(refine A08 ?_)|refine D7 ?_|refine D5 ?_|refine D8 ?_|refine A7 ?_|refine G5 ?_|refine E5 ?_|refine A8 ?_|refine G8 ?_|refine H5 ?_|refine F9 ?_)
  exact⟨I,[],⟨rfl,none,0,rfl,A0z _ _ _ _ _⟩,hm⟩
 |some ad=>
  repeat' (first|(refine A08 ?_)|(refine A2J ?_ hm;clear hm;intro bb _ hm)|(refine A7w ?_ hm (hr:=hr) (h1:=h1);clear hm;intro a2 cp2 _ hm;try simp only[F7] at hm)|refine D7 ?_|refine D5 ?_|refine D8 ?_|refine A7 ?_|refine E5 ?_|refine A8 ?_|refine F8 ?_|refine G8 ?_|refine H5 ?_|refine F6 ?_)
  simp only[Nat.zero_add] at hm ⊢
  obtain⟨I3,hle3,hm3,hrow3⟩:=(hm.front 0 rfl).freeze
  exact⟨I3,[],⟨rfl,a2,cp2,rfl,hrow3⟩,hm3.left (H:= [])⟩
theorem B7A (I:O5) (a:Option Addr) (n cp:Nat) (us:List Value) (hr:RowI I 62 2 (.slice a n cp) n us) (h1:us.all (·.oneCell')=true) (hn:n≤1099511627776):
  CalM prog 71 #[.slice a n cp] I [] (B6d 62 2 n us):=by
 refine CalM.of fun w E hm=>enter (N:=8) func71 rfl [(0,.slice a n cp)] Z4 rfl ?_
 cases a with
 |none=>
  have h0:n=0:=hr.none
  subst h0
  have hu:us= []:=List.eq_nil_of_length_eq_zero (by have:=hr.len;simpa using this)
  subst hu
  repeat' (first|(refine A08 ?_)|refine D7 ?_|refine D5 ?_|refine D8 ?_|refine A7 ?_|refine G5 ?_|refine E5 ?_|refine A8 ?_|refine G8 ?_|refine H5 ?_|refine F9 ?_)
  exact⟨I,[],⟨rfl,none,0,rfl,A0z _ _ _ _ _⟩,hm⟩
 |some ad=>
  repeat' (first|(refine A08 ?_)|(refine A2J ?_ hm;clear hm;intro bb _ hm)|(refine A7w ?_ hm (hr:=hr) (h1:=h1);clear hm;intro a2 cp2 _ hm;try simp only[F7] at hm)|refine D7 ?_|refine D5 ?_|refine D8 ?_|refine A7 ?_|refine E5 ?_|refine A8 ?_|refine F8 ?_|refine G8 ?_|refine H5 ?_|refine F6 ?_)
  simp only[Nat.zero_add] at hm ⊢
  obtain⟨I3,hle3,hm3,hrow3⟩:=(hm.front 0 rfl).freeze
  exact⟨I3,[],⟨rfl,a2,cp2,rfl,hrow3⟩,hm3.left (H:= [])⟩
theorem B7y (I:O5) (a:Option Addr) (n cp:Nat) (us:List Value) (hr:RowI I 92 4 (.slice a n cp) n us) (h1:us.all (·.oneCell')=true) (hn:n≤1099511627776):
  CalM prog 72 #[.slice a n cp] I [] (B6d 92 4 n us):=by
 refine CalM.of fun w E hm=>enter (N:=8) func72 rfl [(0,.slice a n cp)] Z4 rfl ?_
 cases a with
 |none=>
  have h0:n=0:=hr.none
  subst h0
  have hu:us= []:=List.eq_nil_of_length_eq_zero (by have:=hr.len;simpa using this)
  subst hu
  repeat' (first|(refine A08 ?_)|refine D7 ?_|refine D5 ?_|refine D8 ?_|refine A7 ?_|refine G5 ?_|refine E5 ?_|refine A8 ?_|refine G8 ?_|refine H5 ?_|refine F9 ?_)
  exact⟨I,[],⟨rfl,none,0,rfl,A0z _ _ _ _ _⟩,hm⟩
 |some ad=>
  repeat' (first|(refine A08 ?_)|(refine A2J ?_ hm;clear hm;intro bb _ hm)|(refine A7w ?_ hm (hr:=hr) (h1:=h1);clear hm;intro a2 cp2 _ hm;try simp only[F7] at hm)|refine D7 ?_|refine D5 ?_|refine D8 ?_|refine A7 ?_|refine E5 ?_|refine A8 ?_|refine F8 ?_|refine G8 ?_|refine H5 ?_|refine F6 ?_)
  simp only[Nat.zero_add] at hm ⊢
  obtain⟨I3,hle3,hm3,hrow3⟩:=(hm.front 0 rfl).freeze
  exact⟨I3,[],⟨rfl,a2,cp2,rfl,hrow3⟩,hm3.left (H:= [])⟩
theorem B7E (l:List Sp.Par):(l.flatMap A2a).all (·.oneCell')=true:=by
 induction l with
 |nil=>rfl
 |cons p l ih=>rw[List.flatMap_cons,List.all_append,ih];rfl
theorem B81 (l:List Sp.Rf):(l.flatMap A1v).all (·.oneCell')=true:=by
 induction l with
 |nil=>rfl
 |cons p l ih=>rw[List.flatMap_cons,List.all_append,ih];rfl
theorem B8o (l:List Sp.Dg):(l.flatMap A3w).all (·.oneCell')=true:=by
 induction l with
 |nil=>rfl
 |cons p l ih=>rw[List.flatMap_cons,List.all_append,ih];rfl
end Go.Proofs.YtfjdfdgpkncpfaaGreatDoor
end
section
namespace Go.Sp
end Go.Sp
namespace Go.Proofs.YtfjdfdgpkncpfaaGreatDoor
open Go.Proofs.Tryz
open Go.Fw
structure CpX where
 k:Nat
 I:O5
 a:Option Addr
 cp:Nat
 xs:List Value
abbrev C0F (e:Sp.Ex):Value→O5→List HItem→Prop:=fun v I' H'=>H'= []∧∃ea ec xs,v=.agg (A0d e ea ec).toArray∧RowI I' 107 6 (.slice ea e.args.length ec) e.args.length xs∧V5 I' e.args xs
theorem B5K:∀(n:Nat) (e:Sp.Ex),SizeOf.sizeOf e≤n→e.small→∀(I:O5) (ea:Option Addr) (ec:Nat) (xs:List Value),RowI I 107 6 (.slice ea e.args.length ec) e.args.length xs→V5 I e.args xs→
  CalM prog 102 #[.agg (A0d e ea ec).toArray] I [] (C0F e):=by
 intro n
 induction n with
 |zero=>intro e h;cases e;simp at h
 |succ n ih=>
 intro e hsz hsm I ea ec xs hr hx
 obtain⟨hal,hasm⟩:=Sp.A2q hsm
 refine CalM.of fun w E hm=>enter (N:=22) func102 rfl [(0,.agg (A0d e ea ec).toArray)] Z4 rfl ?_
 repeat' (first|(refine A0t (d:=1) ?_ hm;clear hm;intro b1 _ hm)|(refine V6 (d:=2) ?_ hm;clear hm;intro b2 _ hm)|refine H6 ?_ hm|refine D7 ?_|refine D5 ?_|refine G7 ?_|refine C9 ?_|refine D8 ?_|refine A7 ?_|refine E5 ?_|refine A8 ?_|refine E9 ?_)
 have hm:=hm.nil 107 6
 refine U4 (fun x:CpX=> [(1,ptr b1),(2,ptr b2),(3,.slice x.a x.k x.cp),(7,.slice ea e.args.length ec),(8,nt e.args.length),(9,nt x.k)])
  (fun x w'=>Mem E x.I [B22 x.k x.a x.cp x.xs,.cell b2 ex0 107,.cell b1 (A0d e ea ec) 107] w'∧Le I x.I∧V5 x.I (e.args.take x.k) x.xs∧x.k≤e.args.length)
  (fun x=>e.args.length-x.k) ⟨0,I,none,0,[]⟩ (by exact⟨rfl,rfl,rfl,rfl,rfl,rfl,trivial⟩) ⟨hm,Le.refl _,.nil,Nat.zero_le _⟩ ?_
 clear hm
 rintro⟨k,I1,a1,cp1,xs1⟩ w2 ⟨hm,hle1,hxs,hk⟩
 dsimp only at hm hle1 hxs hk ⊢
 by_cases hlt:k<e.args.length
 ·have hg:e.args[k]?=some e.args[k]:=List.getElem?_eq_getElem hlt
  have hme:e.args[k]∈e.args:=List.getElem_mem hlt
  obtain⟨ea2,ec2,xs2,hc2,hr2,hx2⟩:=(hx.get hg).out
  have hsm2:=Sp.A0G hasm hg
  have hsz2:=Sp.A12 hme
  generalize e.args[k]=y at hg hc2 hr2 hx2 hsm2 hsz2
  have hcall:=fun (I':O5) (m:Le I I')=>ih y (by omega) hsm2 I' ea2 ec2 xs2 (hr2.le m) (V5.le m _ _ hx2)
  have htk:e.args.take (k+1)=e.args.take k++ [y]:=by rw[List.take_add_one,hg];rfl
  have hri:=hr.le hle1
  repeat' (first|(refine L6 ?_ (hr:=hri);intro bt ot hpt;rw[show ((k:Int).toNat *6)=k *6 from rfl,hc2] at hpt)|(refine F5 ?_ hm (hc:=hcall _ hle1);clear hm;rintro _ I2 _ _ ⟨rfl,ea3,ec3,xs3,rfl,hr3,hx3⟩ hle hm;have hleI2:=hle;try simp only[F7] at hm)|(refine V7 (d:=5) ?_ hm;clear hm;intro b5 _ hm)|(refine A2b (d:=17) ?_ hm;clear hm;intro a17 cp17 _ _ hm;try simp only[F7] at hm)|refine U5 ?_ hm|refine U7 ?_ hm|refine D7 ?_|refine D5 ?_|refine J5 ?_|refine Q4 ?_|refine D8 ?_|refine A7 ?_|refine D9 ?_|refine E5 ?_|refine A8 ?_|refine E9 ?_|refine F8 ?_|(refine D6 (ht:=fun _=>?_) (hf:=fun _=>?_)<;>(try first|contradiction|(exfalso;omega))))
  all_goals try omega
  refine J9 (⟨k+1,I2,_,_,_⟩:CpX) (by exact⟨rfl,rfl,rfl,rfl,rfl,rfl,trivial⟩) ⟨hm.tl,hle1.trans hleI2,?_,by dsimp only;omega⟩ (by dsimp only;omega)
  dsimp only
  rw[htk]
  exact(V5.le hleI2 _ _ hxs).snoc (A3x hr3 hx3)
 ·obtain rfl:k=e.args.length:=by omega
  rw[List.take_length] at hxs
  repeat' (first|refine U5 ?_ hm|(refine N8 ?_ hm;clear hm;intro _ hm;try simp only[F7] at hm)|(refine J6 hm (k:=?_);clear hm;intro _ hm;try simp only[F7] at hm)|refine Y9 ?_ hm|refine D7 ?_|refine J5 ?_|refine C9 ?_|refine D8 ?_|refine A7 ?_|refine G9 ?_|refine G6 ?_|refine E5 ?_|refine A8 ?_|refine O4 ?_|refine G8 ?_|(refine D6 (ht:=fun _=>?_) (hf:=fun _=>?_)<;>(try first|contradiction|(exfalso;omega))))
  all_goals try omega
  obtain⟨I3,hle3,hm3,hrow3⟩:=(hm.front 0 rfl).freeze
  exact⟨I3,[],⟨rfl,a1,cp1,xs1,rfl,hrow3,V5.le hle3 _ _ hxs⟩,hm3.left (H:= [])⟩
abbrev C0G (l:List Sp.Stm):Value→O5→List HItem→Prop:=fun v I' H'=>H'= []∧∃a c xs,v=.slice a l.length c∧RowI I' 109 15 (.slice a l.length c) l.length xs∧U8 I' l xs
theorem B3F:∀(n:Nat) (l:List Sp.Stm),SizeOf.sizeOf l≤n→l.length≤64→Sp.X4 l→∀(I:O5) (a:Option Addr) (c:Nat) (xs:List Value),RowI I 109 15 (.slice a l.length c) l.length xs→U8 I l xs→
  CalM prog 73 #[.slice a l.length c] I [] (C0G l):=by
 intro n
 induction n with
 |zero=>intro l h;cases l<;>simp at h
 |succ n ih=>
 intro l hsz hll hsm I a c xs hr hx
 refine CalM.of fun w E hm=>enter (N:=30) func73 rfl [(0,.slice a l.length c)] Z4 rfl ?_
 repeat' (first|refine D7 ?_|refine D5 ?_|refine G7 ?_|refine D8 ?_|refine A7 ?_|refine E5 ?_|refine A8 ?_|refine E9 ?_)
 have hm:=hm.nil 109 15
 refine U4 (fun x:CpX=> [(3,.slice x.a x.k x.cp),(6,.slice a l.length c),(7,nt l.length),(8,nt x.k)])
  (fun x w'=>Mem E x.I [B7S x.k x.a x.cp x.xs] w'∧Le I x.I∧U8 x.I (l.take x.k) x.xs∧x.k≤l.length)
  (fun x=>l.length-x.k) ⟨0,I,none,0,[]⟩ (by exact⟨rfl,rfl,rfl,rfl,trivial⟩) ⟨hm,Le.refl _,.nil,Nat.zero_le _⟩ ?_
 clear hm
 rintro⟨k,I1,a1,cp1,xs1⟩ w2 ⟨hm,hle1,hxs,hk⟩
 dsimp only at hm hle1 hxs hk ⊢
 by_cases hlt:k<l.length
 ·have hg:l[k]?=some l[k]:=List.getElem?_eq_getElem hlt
  have hme:=Sp.A4B (List.getElem_mem hlt)
  obtain⟨ea2,ec2,ex2,a2,c2,xs2,a3,c3,xs3,hc2,hr2,hx2,hr3,hx3,hr4,hx4⟩:=(hx.get hg).out
  have hsm2:=Sp.A1J hsm hg
  generalize l[k]=y at hg hc2 hr2 hx2 hr3 hx3 hr4 hx4 hsm2 hme
  obtain⟨s1,s2,s3,s4,s5⟩:=Sp.A1h hsm2
  obtain⟨z1,z2⟩:=Sp.A5C (s:=y)
  have hce:=fun (I':O5) (m:Le I I')=>B5K (SizeOf.sizeOf y.e) y.e (Nat.le_refl _) s1 I' ea2 ec2 ex2 (hr2.le m) (V5.le m _ _ hx2)
  have hct:=fun (I':O5) (m:Le I I')=>ih y.thn (by omega) s2 s3 I' a2 c2 xs2 (hr3.le m) (U8.le m _ _ hx3)
  have hcl:=fun (I':O5) (m:Le I I')=>ih y.els (by omega) s4 s5 I' a3 c3 xs3 (hr4.le m) (U8.le m _ _ hx4)
  have htk:l.take (k+1)=l.take k++ [y]:=by rw[List.take_add_one,hg];rfl
  have hri:=hr.le hle1
  repeat' (first|(refine A3Y (id:=5) (hm.perm pm0) [([0,1,3,4,6,7],[2]),([9],[5]),([],[8])] 10 (h:=?_);clear hm;intro wd hR hm)|(refine L6 ?_ (hr:=hri);intro bt ot hpt;rw[show ((k:Int).toNat *15)=k *15 from rfl,hc2] at hpt)|(refine Z7 (d:=14) ?_ hm (hc:=hce _ hle1);clear hm;rintro _ I2 _ _ ⟨rfl,ea3,ec3,ex3,rfl,hr5,hx5⟩ hle hm;have hleI2:=hle;try simp only[F7] at hm)|(refine Z7 (d:=17) ?_ hm (hc:=hct _ (hle1.trans hleI2));clear hm;rintro _ I3 _ _ ⟨rfl,a4,c4,xs4,rfl,hr6,hx6⟩ hle hm;have hleI3:=hle;try simp only[F7] at hm)|(refine Z7 (d:=20) ?_ hm (hc:=hcl _ ((hle1.trans hleI2).trans hleI3));clear hm;rintro _ I4 _ _ ⟨rfl,a5,c5,xs5,rfl,hr7,hx7⟩ hle hm;have hleI4:=hle;try simp only[F7] at hm)|refine Y7 ?_ hR|refine B7m ?_ hR|refine A69 ?_|refine A68 ?_|refine A1l ?_|refine B6k ?_|(refine A9y ?_;replace hm:=hR.back hm;clear hR;try simp only[F7] at hm)|(refine V7 (d:=5) ?_ hm;clear hm;intro b5 _ hm)|(refine A2b (d:=27) ?_ hm;clear hm;intro a27 cp27 _ _ hm;try simp only[F7] at hm)|refine U5 ?_ hm|refine U7 ?_ hm|(refine J6 hm (k:=?_);clear hm;intro _ hm;try simp only[F7] at hm)|(refine A1V ?_ hm;clear hm;intro _ hm;try simp only[F7] at hm)|refine D7 ?_|refine D5 ?_|refine J5 ?_|refine Q4 ?_|refine C9 ?_|refine D8 ?_|refine A7 ?_|refine D9 ?_|refine E5 ?_|refine A8 ?_|refine E9 ?_|refine F8 ?_|(refine D6 (ht:=fun _=>?_) (hf:=fun _=>?_)<;>(try first|contradiction|(exfalso;omega)))|refine Q3 ?_)
  all_goals try omega
  refine J9 (⟨k+1,I4,_,_,_⟩:CpX) (by exact⟨rfl,rfl,rfl,rfl,trivial⟩) ⟨hm.tl,((hle1.trans hleI2).trans hleI3).trans hleI4,?_,by dsimp only;omega⟩ (by dsimp only;omega)
  dsimp only
  rw[htk]
  exact(U8.le ((hleI2.trans hleI3).trans hleI4) _ _ hxs).snoc (A6p (hr5.le (hleI3.trans hleI4)) (V5.le (hleI3.trans hleI4) _ _ hx5) (hr6.le hleI4) (U8.le hleI4 _ _ hx6) hr7 hx7)
 ·obtain rfl:k=l.length:=by omega
  rw[List.take_length] at hxs
  repeat' (first|refine D7 ?_|refine D5 ?_|refine J5 ?_|refine D8 ?_|refine A7 ?_|refine G9 ?_|refine G6 ?_|refine E5 ?_|refine A8 ?_|refine O4 ?_|refine G8 ?_|refine H5 ?_|(refine D6 (ht:=fun _=>?_) (hf:=fun _=>?_)<;>(try first|contradiction|(exfalso;omega))))
  all_goals try omega
  obtain⟨I3,hle3,hm3,hrow3⟩:=(hm.front 0 rfl).freeze
  exact⟨I3,[],⟨rfl,a1,cp1,xs1,rfl,hrow3,U8.le hle3 _ _ hxs⟩,hm3.left (H:= [])⟩
end Go.Proofs.YtfjdfdgpkncpfaaGreatDoor
end
section
namespace Go.Fw
open Go
section
variable {P:Program}{N:Nat}{ds:List Deferred}{Q:Exit→Act→World→Prop}{l:Log}{w:World}{ops:Array Oper}{os:List Oper}
variable {d:Nat}{ty:TypeId}{pos:String}{af:Array Edge}{g:Option (Nat×Bool)}{t t':TypeId}{x y:Operand}{E:Ent}{I:O5}{H:List HItem}
def B9Z (es:A2H) (s:List UInt8):Bool:=(es.find? (fun p=>decide (p.1=s))).isSome
theorem A8b (es:A2H) (s:List UInt8):(es.findIdx? (fun p=>decide (p.1=s))).isSome=B9Z es s:=by
 rw[B9Z]
 induction es with
 |nil=>rfl
 |cons p es ih=>
  rw[List.findIdx?_cons,List.find?_cons]
  cases hd:decide (p.1=s) with
  |true=>simp
  |false=>simp[ih]
theorem B5z {kt et:TypeId} [TyMap P t kt et] [TyStr P kt] {i b:Nat}{es:A2H}{s:List UInt8}{zv:Value} (hm:Mem E I H w) (hw:P7 ops l ⟨some d,.lookup t x y true,ty,pos,af,g⟩=some true) (hN:Nat.blt d N=true)
  (hx:ev l x=some (.map (some b))) (hy:ev l y=some (str s)) (hi:H[i]?=some (.mp b es)) (_hn:(es.map (·.1)).Nodup) (hz:∀w,(zeroValue et).run P w=.ok zv w)
  (k:WL P N ds ops Q os ((d,.tuple #[B9v es s zv,.bool (B9Z es s)])::l) w):
  WL P N ds ops Q (⟨some d,.lookup t x y true,ty,pos,af,g⟩::os) l w:=
 O9 rfl hw hN (fun a ha=>by
  have h1:=run_underlying (P:=P) (w:=w) (TyMap.out (P:=P) (t:=t))
  have hk:=TyStr.out (P:=P) (t:=kt)
  have h2:=B2E (P:=P) (w:=w) hk s es 0
  have h3:=fun b=>B02 (P:=P) (w:=w) hk s b
  have h4:=MapKept.run_getObj_map (P:=P) (hm.get hi)
  have h5:=B6T es s
  have h6:=A8b es s
  rw[B9v, ←h5, ←h6]
  cases hf:es.findIdx? (fun p=>decide (p.1=s)) with
  |none=>
   rw[hf] at h2
   simp[execOp,Instr.lookup,ha.ev hx,ha.ev hy,h1,h4,h3,h2,hz]
  |some i=>
   rw[hf] at h2
   have hi:i<es.length:=by
    have:=List.findIdx?_eq_some_iff_getElem.1 hf
    exact this.1
   have hg:es[i]?=some es[i]:=List.getElem?_eq_getElem hi
   simp only[Option.bind_some,hg,Option.map_some] at h2
   simp[execOp,Instr.lookup,ha.ev hx,ha.ev hy,h1,h4,h3,h2,hg]) k
theorem A6j {fn:Func}{i tr u u2 n b:Nat}{tc:TypeId} [TyAgg P tc n] {c:List Value}{e:TypeId}{fr:Nat×Nat}{xv xv2:Value}{Post:Value→World→Prop} (hm:Mem E I H w) (hr:fn.results= #[.cell tr tc,.tmp u,.tmp u2])
  (hx:lk l tr=some (.pointer (some ⟨b,0,none⟩))) (hu:lk l u=some xv) (hu2:lk l u2=some xv2) (hb:H[i]?=some (.obj b (.cells c.toArray e fr))) (hl:c.length=n)
  (h:Post (.tuple #[.agg c.toArray,xv,xv2]) w):At N [] (bodyPost P fn (Ret Post)) .ret l w:=
 ⟨fun a ha=>⟨ha.defs,_,by
  have hv:=A23 (P:=P) (t:=tc) (off:=0) (vs:=c) (hm.get hb) hl (fun j v hv=>by simpa using hv)
  simp[results,hr,ha.vals tr _ hx,ha.vals u _ hu,ha.vals u2 _ hu2,asAddr,hv],h⟩⟩
end
end Go.Fw
namespace Go.Proofs.YtfjdfdgpkncpfaaGreatDoor
open Go.Proofs.Tryz
open Go.Fw
theorem C1b (it:Sp.Itm) (hs:it.small) (I:O5) (cs:List Value) (hi:A5g I it cs):CalM prog 45 #[.agg cs.toArray] I [] (C0I it):=by
 obtain⟨ap,cp,as_,cs',ab,cb,ad,cd,xb,rfl,r1,r2,r3,r4,r5⟩:=hi
 have k1:=hs.params
 have k2:=hs.sends
 have k3:=hs.diags
 have k4:=hs.body
 refine CalM.of fun w E hm=>enter (N:=20) func45 rfl [(0,.agg (A1m it.kind it.name it.label (.slice ap it.params.length cp) (.slice as_ it.sends.length cs') (.slice ab it.body.length cb) it.at_ it.size it.mark (.slice ad it.diags.length cd)).toArray)] Z4 rfl ?_
 have c1:=fun (I':O5) (m:Le I I')=>B7z I' ap it.params.length cp _ (r1.le m) (B7E _) (by omega)
 have c2:=fun (I':O5) (m:Le I I')=>B7A I' as_ it.sends.length cs' _ (r2.le m) (B81 _) (by omega)
 have c3:=fun (I':O5) (m:Le I I')=>B7y I' ad it.diags.length cd _ (r5.le m) (B8o _) (by omega)
 have c4:=fun (I':O5) (m:Le I I')=>B3F (SizeOf.sizeOf it.body) it.body (Nat.le_refl _) (by omega) hs.stms I' ab cb xb (r3.le m) (U8.le m _ _ r4)
 repeat' (first|(refine A3Y (id:=1) (hm.perm pm0) [([0,1,3,4,6,7],[2]),([9],[5]),([],[8])] 10 (h:=?_);clear hm;intro wd hR hm)|(refine Z7 (d:=5) ?_ hm (hc:=c1 _ (Le.refl _));clear hm;rintro _ I2 _ _ ⟨rfl,a1,d1,rfl,s1⟩ hle hm;have hleI2:=hle;try simp only[F7] at hm)|(refine Z7 (d:=8) ?_ hm (hc:=c2 _ hleI2);clear hm;rintro _ I3 _ _ ⟨rfl,a2,d2,rfl,s2⟩ hle hm;have hleI3:=hle;try simp only[F7] at hm)|(refine Z7 (d:=11) ?_ hm (hc:=c3 _ (hleI2.trans hleI3));clear hm;rintro _ I4 _ _ ⟨rfl,a3,d3,rfl,s3⟩ hle hm;have hleI4:=hle;try simp only[F7] at hm)|(refine F5 ?_ hm (hc:=c4 _ ((hleI2.trans hleI3).trans hleI4));clear hm;rintro _ I5 _ _ ⟨rfl,a4,d4,xs4,rfl,s4,t4⟩ hle hm;have hleI5:=hle;try simp only[F7] at hm)|refine Y7 ?_ hR|refine A69 ?_|refine A68 ?_|refine A1l ?_|refine B6k ?_|(refine A9y ?_;replace hm:=hR.back hm;clear hR;try simp only[F7] at hm)|(refine A0t (d:=1) ?_ hm;clear hm;intro b1 _ hm)|(refine V6 (d:=2) ?_ hm;clear hm;intro b2 _ hm)|refine H6 ?_ hm|refine U5 ?_ hm|(refine N8 ?_ hm;clear hm;intro _ hm;try simp only[F7] at hm)|(refine J6 hm (k:=?_);clear hm;intro _ hm;try simp only[F7] at hm)|refine Y9 ?_ hm|refine C9 ?_|refine D8 ?_|refine A7 ?_|refine E5 ?_|refine A8 ?_|refine G8 ?_|refine Q3 ?_)
 exact⟨I5,[],⟨_,rfl,⟨a1,d1,a2,d2,a4,d4,a3,d3,xs4,rfl,((s1.le hleI3).le hleI4).le hleI5,(s2.le hleI4).le hleI5,s4,t4,s3.le hleI5⟩,rfl⟩,hm.left (H:= [])⟩
end Go.Proofs.YtfjdfdgpkncpfaaGreatDoor
end
