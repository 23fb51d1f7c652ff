/- Own work: texts PpM, PpN, PpQ, PpR, NmA, FlA, one behind the other. -/
import Derived.Test.YtfjdfdgpkncpfaaGreatDoorQc16
set_option maxHeartbeats 64000000
namespace Go.Fw
open Go.Sp
open Go
section
variable {P:Program}{N:Nat}{ds:List Deferred}{Q:Exit->Act->World->Prop}{l:Log}{w:World}{ops:Array Oper}{os:List Oper}
variable {d:Nat}{ty:TypeId}{pos:String}{af:Array Edge}{g:Option (Nat×Bool)}{t t':TypeId}{x y:Operand}{E:Ent}{I:U0}{H:List HItem}
def B8c (es:A3G) (s:List UInt8):Bool:=(es.find? (fun p=>decide (p.1=s))).isSome
theorem A8t (es:A3G) (s:List UInt8):(es.findIdx? (fun p=>decide (p.1=s))).isSome=B8c es s:=by
 rw[B8c];induction es with
 |nil=>rfl
 |cons p es ih=>
  rw[A3n,A2y];cases hd:decide (p.1=s) with
  |true=>simp
  |false=>simp[ih]
theorem B4Z {kt et:TypeId} [TyMap P t kt et] [TyStr P kt] {i b:Nat}{es:A3G}{s:List UInt8}{zv:Value} (hm:Mem E I H w) (hw:O8 ops l ⟨some d,.lookup t x y true,ty,pos,af,g⟩=some true) (hN:Nat.blt d N=true)
  (hx:ev l x=some (.map (some b))) (hy:ev l y=some (str s)) (hi:H[i]?=some (.mp b es)) (_hn:(es.map (·.1)).Nodup) (hz:∀w,(zeroValue et).run P w=.ok zv w)
  (k:WL P N ds ops Q os ((d,.tuple #[B7N es s zv,.bool (B8c es s)])::l) w):
  WL P N ds ops Q (⟨some d,.lookup t x y true,ty,pos,af,g⟩::os) l w:=
 O9 rfl hw hN (fun a ha=>by
  have h1:=run_underlying (P:=P) (w:=w) (TyMap.out (P:=P) (t:=t));have hk:=TyStr.out (P:=P) (t:=kt);have h2:=B2n (P:=P) (w:=w) hk s es 0;have h3:=fun b=>B0S (P:=P) (w:=w) hk s b
  have h4:=MapKept.run_getObj_map (P:=P) (hm.get hi);have h5:=B5S es s;have h6:=A8t es s;rw[B7N, <-h5, <-h6];cases hf:es.findIdx? (fun p=>decide (p.1=s)) with
  |none=>
   rw[hf]at h2;simp[execOp,Instr.lookup,ha.ev hx,ha.ev hy,h1,h4,h3,h2,hz]
  |some i=>
   rw[hf]at h2;have hi:i<es.length:=by
    have:=A1O.1 hf;exact this.1
   have hg:es[i]?=some es[i]:=G9 hi;simp only[A1S,hg,A4N]at h2;simp[execOp,Instr.lookup,ha.ev hx,ha.ev hy,h1,h4,h3,h2,hg]) k
theorem A7f {fn:Func}{i tr u u2 n b:Nat}{tc:TypeId} [TyAgg P tc n] {c:List Value}{e:TypeId}{fr:Nat×Nat}{xv xv2:Value}{Post:Value->World->Prop} (hm:Mem E I H w) (hr:fn.results= #[.cell tr tc,.tmp u,.tmp u2])
  (hx:lk l tr=some (.pointer (some ⟨b,0,none⟩))) (hu:lk l u=some xv) (hu2:lk l u2=some xv2) (hb:H[i]?=some (.obj b (.cells c.toArray e fr))) (hl:c.length=n)
  (h:Post (.tuple #[.agg c.toArray,xv,xv2]) w):At N [] (bodyPost P fn (Ret Post)) .ret l w:=
 ⟨fun a ha=>⟨ha.defs,_,by
  have hv:=A4a (P:=P) (t:=tc) (off:=0) (vs:=c) (hm.get hb) hl (fun j v hv=>by simpa using hv);simp[results,hr,ha.vals tr _ hx,ha.vals u _ hu,ha.vals u2 _ hu2,asAddr,hv],h⟩⟩
end
end Go.Fw
namespace Go.Sp
theorem B2X (n:List UInt8) {l:List Lc}{k:Nat}{x:Lc} (h:l[k]?=some x):A1e (l.take (k+1)) n=if x.name=n then some x else A1e (l.take k) n:=by
 rw[X0 h,A6r]
end Go.Sp
namespace Go.Proofs
open Go.Proofs.Tryz
open Go.Sp
open Go.Fw
structure QPar where
 f:Nat
 l:List Sp.Par
 n:Nat
 s:Sp.St
 a:Option Addr
 cp:Nat
 da:Option Addr
 dc:Nat
structure QSnd where
 f:Nat
 l:List Sp.Rf
 n:Nat
 s:Sp.St
 a:Option Addr
 cp:Nat
 da:Option Addr
 dc:Nat
def B0O (T:Sp.Src) (s:Sp.St):List Sp.Par×Sp.St:=((A5v T 6 [] (s.need T [40]).2).1,((A5v T 6 [] (s.need T [40]).2).2.need T [41]).2)
abbrev B9h (pb:Nat) (la:Option Addr) (lc:Nat) (T:Sp.Src) (deep:Nat) (r:List Sp.Par×Sp.St):Value->U0->List HItem->Prop:=fun v I' H'=>
 r.2.i<=T.l.length/\r.2.ds.length<=2 *r.2.i+60/\(∃a c,v=.slice a r.1.length c/\RowI I' 65 3 (.slice a r.1.length c) r.1.length (r.1.flatMap A2r))/\∃da dc,H'=QSt pb la lc T r.2 deep da dc
theorem B6p (T:Sp.Src) (pb:Nat) (hT:Ok T) (I:U0) (la:Option Addr) (lc deep:Nat) (da:Option Addr) (dc:Nat) (s:Sp.St) (hr:A2e I T la lc) (hi:s.i<=T.l.length) (hd:s.ds.length<=2 *s.i+10):
  CalM prog 117 #[ptr pb] I (QSt pb la lc T s deep da dc) (B9h pb la lc T deep (B0O T s)):=by
 have h2:=hT.size;have h3:=hT.len;have hmu:=fun da dc=>A2b (pb:=pb) (deep:=deep) (da:=da) (dc:=dc) s [40] (by simp) hr hT (by omega) hi
 have hgm:=Z5 T s [40];rw[B0O];generalize s.need T [40]=s0 at hmu hgm |-;have he1:=hgm.le;have he2:=hgm.top hi;have he3:=hgm.ds;obtain⟨R,hR⟩:∃R,R=A5v T 6 [] s0.2:=⟨_,rfl⟩;rw[<-hR];refine CalM.of fun w E hm=>enter (N:=49) func117 rfl [(0,ptr pb)] A0v rfl ?_
 repeat' (first|refine A7L 0 (fun x:QPar=> [(0,ptr pb),(3,.slice x.a x.n x.cp)]) (fun x w'=>x.n=R.1.length/\R.2.i<=T.l.length/\R.2.ds.length<=2 *R.2.i+50/\Mem E I [A4i pb la lc T R.2 deep x.da x.dc,A26 R.2.ds x.da x.dc,B0P R.1 x.n x.a x.cp] w') ?_ ?_|refine F6 ?_ hm (hc:=hmu _ _);clear hm;rintro _ _ _ _ ⟨rfl,rfl,da1,dc1,rfl⟩ hle hm;try simp only[F7]at hm|refine D8 ?_|refine D5 ?_|refine D9 ?_|refine A7 ?_|refine E8 ?_|refine A8 ?_)
 ·have hm2:=hm.nil 65 3
  clear hm hmu;refine X7 (fun x:QPar=> [(0,ptr pb),(3,.slice x.a x.n x.cp)])
   (fun x w'=>Mem E I [A4i pb la lc T x.s deep x.da x.dc,A26 x.s.ds x.da x.dc,B0P x.l x.n x.a x.cp] w'/\
    x.l.length=x.n/\x.n<=5/\x.f+x.n=6/\x.s.i<=T.l.length/\x.s.ds.length<=2 *x.s.i+3 *x.n+20/\A5v T x.f x.l x.s=R)
   (fun x=>x.f) ⟨6,[],0,s0.2,none,0,da1,dc1⟩ (by exact⟨rfl,rfl,trivial⟩) ⟨hm2.perm pm2_1,rfl,by dsimp only;omega,rfl,he2,by dsimp only;omega,hR.symm⟩ ?_
  clear hm2;rintro⟨f1,l1,n1,s2,a1,cp1,da3,dc3⟩ w2 ⟨hm,hl,hn5,hf,hi2,hd2,hL⟩;dsimp only at hm hl hn5 hf hi2 hd2 hL |-;obtain⟨f1,rfl⟩:∃f',f1=f'+1:=⟨f1-1,by omega⟩;rw[A5v]at hL;have hpk:=A1X (pb:=pb) (deep:=deep) (da:=da3) (dc:=dc3) s2 hr;by_cases hend:T.l.length<=s2.i\/T.is s2.i [41]=true
  ·rw[if_pos hend]at hL
   subst hL;by_cases hl1:T.l.length<=s2.i
   ·skip
    repeat' (first|refine J8 ?_ hm|refine A7 ?_|refine G7 ?_|refine G5 ?_|refine E8 ?_|refine O7 ?_|refine L6 ?_|refine U4 ?_;intro _ hkq;replace hm:=hm.kept0 hkq;clear hkq|refine E9 ?_|refine P5 ?_|refine V9 ?_|refine A0I ?_|refine J3 ?_|refine J5 ?_|refine G6 ?_|refine A05 ?_|(refine O3 (fun _=>?_) (h1:=fun _=>?_)<;>try first|contradiction|omega))
    all_goals try first|omega|contradiction
    exact A0L (⟨0,[],n1,s2,a1,cp1,da3,dc3⟩:QPar) (by exact⟨rfl,rfl,trivial⟩) ⟨hl.symm,hi2,by dsimp only;omega,hm⟩
   ·rw[B0u (hend.resolve_left hl1)]at hpk
    repeat' (first|refine Y0 ?_ hm (hc:=hpk)|refine J8 ?_ hm|refine A7 ?_|refine G7 ?_|refine G5 ?_|refine E8 ?_|refine O7 ?_|refine L6 ?_|refine U4 ?_;intro _ hkq;replace hm:=hm.kept0 hkq;clear hkq|refine E9 ?_|refine P5 ?_|refine P7 ?_|refine A0I ?_|refine X5 ?_|refine J3 ?_|refine J5 ?_|refine G6 ?_|(refine O3 (fun _=>?_) (h1:=fun _=>?_)<;>try first|contradiction|omega))
    all_goals try first|omega|contradiction
    exact A0L (⟨0,[],n1,s2,a1,cp1,da3,dc3⟩:QPar) (by exact⟨rfl,rfl,trivial⟩) ⟨hl.symm,hi2,by dsimp only;omega,hm⟩
  rw[if_neg hend]at hL;have hlt1:s2.i<T.l.length:=by omega
  have htt:(T.tok s2.i).text≠ [41]:=fun e=>hend (.inr (A6T e (by simp)))
  by_cases h5:5<=l1.length
  ·rw[if_pos h5]at hL
   subst hL;repeat' (first|refine Y0 ?_ hm (hc:=hpk)|refine F6 ?_ hm (hc:=A29 s2 5 hr hT hi2 (by omega));clear hm;rintro _ _ _ _ ⟨rfl,rfl,da4,dc4,rfl⟩ hle hm;try simp only[F7]at hm|refine J8 ?_ hm|refine D8 ?_|refine Q5 ?_|refine G8 ?_|refine D9 ?_|refine A7 ?_|refine G7 ?_|refine G5 ?_|refine Q3 ?_|refine E8 ?_|refine A8 ?_|refine F5 ?_|refine F9 ?_|refine O7 ?_|refine L6 ?_|refine U4 ?_;intro _ hkq;replace hm:=hm.kept0 hkq;clear hkq|(refine D6 (ht:=fun _=>?_) (hf:=fun _=>?_)<;>try first|contradiction|omega)|refine P5 ?_|refine P7 ?_|refine A0I ?_|refine X5 ?_|refine J3 ?_|refine J5 ?_|refine G6 ?_|(refine O3 (fun _=>?_) (h1:=fun _=>?_)<;>try first|contradiction|omega))
   all_goals try first|omega|contradiction
   exact A0L (⟨0,[],n1,s2,a1,cp1,da4,dc4⟩:QPar) (by exact⟨rfl,rfl,trivial⟩) ⟨hl.symm,hi2,by simp[Sp.St.bad];omega,hm⟩
  rw[if_neg h5]at hL;dsimp only at hL;have hnm:=fun da dc=>A6v (pb:=pb) (deep:=deep) (da:=da) (dc:=dc) s2 hr hT (by omega) hi2
  have hgn:=A0R T s2;generalize s2.named T=q at hnm hgn hL;have hq1:=hgn.le;have hq2:=hgn.top hi2;have hq3:=hgn.ds;have hnd:=fun da dc=>A2b (pb:=pb) (deep:=deep) (da:=da) (dc:=dc) q.2 [58] (by simp) hr hT (by omega) hq2
  have hgd:=Z5 T q.2 [58];generalize (q.2.need T [58])=q4 at hnd hgd hL;have hd4:=hgd.le;have hd5:=hgd.top hq2;have hd6:=hgd.ds;by_cases hcol:q4.1=true
  case neg=>
   have hcol':q4.1=false:=by simpa using hcol
   rw[hcol',if_pos (by rfl)]at hL;rw[hcol']at hnd;subst hL;repeat' (first|refine Y0 ?_ hm (hc:=hpk)|refine P9 ?_ hm (hc:=A0Z s2 hr);clear hm;intro _ hm|refine F6 ?_ hm (hc:=hnm _ _);clear hm;rintro _ _ _ _ ⟨rfl,rfl,da4,dc4,rfl⟩ hle hm;try simp only[F7]at hm|refine F6 ?_ hm (hc:=hnd _ _);clear hm;rintro _ _ _ _ ⟨rfl,rfl,da5,dc5,rfl⟩ hle hm;try simp only[F7]at hm|refine A0j (d:=4) ?_ hm;clear hm;intro b4 _ hm|refine J8 ?_ hm|refine J6 hm (k:=?_);clear hm;intro _ hm;try simp only[F7]at hm|refine D8 ?_|refine Q5 ?_|refine G8 ?_|refine Y7 ?_|refine C9 ?_|refine X4 ?_|refine D9 ?_|refine A7 ?_|refine G7 ?_|refine G5 ?_|refine Q3 ?_|refine E8 ?_|refine A8 ?_|refine F5 ?_|refine F9 ?_|refine O7 ?_|refine L6 ?_|refine U4 ?_;intro _ hkq;replace hm:=hm.kept0 hkq;clear hkq|refine F8 ?_|(refine D6 (ht:=fun _=>?_) (hf:=fun _=>?_)<;>try first|contradiction|omega)|refine P5 ?_|refine P7 ?_|refine A0I ?_|refine X5 ?_|refine J3 ?_|refine J5 ?_|refine G6 ?_|(refine O3 (fun _=>?_) (h1:=fun _=>?_)<;>try first|contradiction|omega))
   all_goals try first|omega|contradiction
   exact A0L (⟨0,[],n1,s2,a1,cp1,da5,dc5⟩:QPar) (by exact⟨rfl,rfl,trivial⟩) ⟨hl.symm,hd5,by dsimp only;omega,(hm.front 2 rfl).tl⟩
  rw[hcol,if_neg (by simp)]at hL;rw[hcol]at hnd;have hlb:=fun da dc=>A8C (pb:=pb) (deep:=deep) (da:=da) (dc:=dc) q4.2 hr hT hd5 (by omega)
  have hgl:=A2D T q4.2;generalize Sp.lab T q4.2=lb at hlb hgl hL;have hl1:=hgl.le;have hl2:=hgl.top hd5;have hl3:=hgl.ds;have hnl:(l1++ [(⟨q.1,lb.1,(T.tok s2.i).pos⟩:Sp.Par)]).length=n1+1:=by simp[hl]
  have hfm:(l1++ [(⟨q.1,lb.1,(T.tok s2.i).pos⟩:Sp.Par)]).flatMap A2r=l1.flatMap A2r++ [str q.1,nt lb.1,nt (T.tok s2.i).pos]:=by simp[A0F]
  have hcm:=fun da dc=>A0U (pb:=pb) (deep:=deep) (da:=da) (dc:=dc) lb.2 [44] (by simp) hr hT hl2
  have hn4:n1<5:=by omega
  have hni:lb.2.next.i=lb.2.i+1:=rfl;have hnd2:lb.2.next.ds.length=lb.2.ds.length:=rfl;by_cases hcomma:T.is lb.2.i [44]=true
  ·rw[if_pos hcomma]at hL
   rw[hcomma,if_pos (by rfl)]at hcm;have hlt2:=Sp.is_lt hcomma;repeat' (first|refine Y0 ?_ hm (hc:=hpk)|refine P9 ?_ hm (hc:=A0Z s2 hr);clear hm;intro _ hm|refine F6 ?_ hm (hc:=hnm _ _);clear hm;rintro _ _ _ _ ⟨rfl,rfl,da4,dc4,rfl⟩ hle hm;try simp only[F7]at hm|refine F6 ?_ hm (hc:=hnd _ _);clear hm;rintro _ _ _ _ ⟨rfl,rfl,da5,dc5,rfl⟩ hle hm;try simp only[F7]at hm|refine F6 ?_ hm (hc:=hlb _ _);clear hm;rintro _ _ _ _ ⟨rfl,rfl,da6,dc6,rfl⟩ hle hm;try simp only[F7]at hm|refine F6 ?_ hm (hc:=hcm _ _);clear hm;rintro _ _ _ _ ⟨rfl,rfl,da7,dc7,rfl⟩ hle hm;try simp only[F7]at hm|refine A0j (d:=4) ?_ hm;clear hm;intro b4 _ hm|refine A3A (d:=42) ?_ hm;clear hm;intro a42 cp42 _ _ hm;try simp only[F7]at hm|refine O1 ?_ hm|refine J8 ?_ hm|refine J6 hm (k:=?_);clear hm;intro _ hm;try simp only[F7]at hm|refine D8 ?_|refine D5 ?_|refine Q5 ?_|refine G8 ?_|refine Y7 ?_|refine C9 ?_|refine X4 ?_|refine D9 ?_|refine A7 ?_|refine D7 ?_|refine E8 ?_|refine A8 ?_|refine F5 ?_|refine F9 ?_|refine L6 ?_|refine U4 ?_;intro _ hkq;replace hm:=hm.kept0 hkq;clear hkq|refine E9 ?_|(refine D6 (ht:=fun _=>?_) (hf:=fun _=>?_)<;>try first|contradiction|omega)|refine P5 ?_|refine P7 ?_|refine A0I ?_|refine X5 ?_|refine J3 ?_|refine J5 ?_|refine G6 ?_|(refine O3 (fun _=>?_) (h1:=fun _=>?_)<;>try first|contradiction|omega))
   all_goals try first|omega|contradiction
   refine N7 (⟨f1,_,n1+1,lb.2.next,a42,cp42,da7,dc7⟩:QPar) (by exact⟨rfl,rfl,trivial⟩) ⟨?_,hnl,by dsimp only;omega,by dsimp only;omega,by dsimp only;omega,by dsimp only;omega,hL⟩ (by dsimp only;omega)
   dsimp only[B0P];rw[hfm];exact(hm.front 2 rfl).tl
  ·rw[if_neg hcomma]at hL
   rw[show T.is lb.2.i [44]=false by simpa using hcomma,if_neg (by simp)]at hcm;subst hL;repeat' (first|refine Y0 ?_ hm (hc:=hpk)|refine P9 ?_ hm (hc:=A0Z s2 hr);clear hm;intro _ hm|refine F6 ?_ hm (hc:=hnm _ _);clear hm;rintro _ _ _ _ ⟨rfl,rfl,da4,dc4,rfl⟩ hle hm;try simp only[F7]at hm|refine F6 ?_ hm (hc:=hnd _ _);clear hm;rintro _ _ _ _ ⟨rfl,rfl,da5,dc5,rfl⟩ hle hm;try simp only[F7]at hm|refine F6 ?_ hm (hc:=hlb _ _);clear hm;rintro _ _ _ _ ⟨rfl,rfl,da6,dc6,rfl⟩ hle hm;try simp only[F7]at hm|refine F6 ?_ hm (hc:=hcm _ _);clear hm;rintro _ _ _ _ ⟨rfl,rfl,da7,dc7,rfl⟩ hle hm;try simp only[F7]at hm|refine A0j (d:=4) ?_ hm;clear hm;intro b4 _ hm|refine A3A (d:=42) ?_ hm;clear hm;intro a42 cp42 _ _ hm;try simp only[F7]at hm|refine O1 ?_ hm|refine J8 ?_ hm|refine J6 hm (k:=?_);clear hm;intro _ hm;try simp only[F7]at hm|refine D8 ?_|refine D5 ?_|refine Q5 ?_|refine G8 ?_|refine Y7 ?_|refine C9 ?_|refine X4 ?_|refine D9 ?_|refine A7 ?_|refine G7 ?_|refine G5 ?_|refine Q3 ?_|refine E8 ?_|refine A8 ?_|refine F5 ?_|refine F9 ?_|refine O7 ?_|refine L6 ?_|refine U4 ?_;intro _ hkq;replace hm:=hm.kept0 hkq;clear hkq|refine F8 ?_|refine E9 ?_|(refine D6 (ht:=fun _=>?_) (hf:=fun _=>?_)<;>try first|contradiction|omega)|refine P5 ?_|refine P7 ?_|refine A0I ?_|refine X5 ?_|refine J3 ?_|refine J5 ?_|refine G6 ?_|(refine O3 (fun _=>?_) (h1:=fun _=>?_)<;>try first|contradiction|omega))
   all_goals try first|omega|contradiction
   refine A0L (⟨0,[],n1+1,s2,a42,cp42,da7,dc7⟩:QPar) (by exact⟨rfl,rfl,trivial⟩) ⟨hnl.symm,hl2,by dsimp only;omega,?_⟩
   dsimp only[B0P];rw[hfm];exact(hm.front 2 rfl).tl
 clear hm hmu;rintro⟨_,_,n1,_,a1,cp1,da3,dc3⟩ w2 ⟨hn,hi2,hd2,hm⟩;dsimp only at hn hm |-;subst hn;have hgd:=Z5 T R.2 [41];have k1:=hgd.le;have k2:=hgd.top hi2;have k3:=hgd.ds;repeat' (first|refine F6 ?_ hm (hc:=A2b R.2 [41] (by simp) hr hT (by omega) hi2);clear hm;rintro _ _ _ _ ⟨rfl,rfl,da4,dc4,rfl⟩ hle hm;try simp only[F7]at hm|refine D8 ?_|refine D5 ?_|refine D9 ?_|refine A7 ?_|refine E8 ?_|refine A8 ?_|refine H7 ?_|refine H9 ?_)
 obtain⟨I3,hle3,hm3,hrow3⟩:=(hm.front 2 rfl).freeze;exact⟨I3,_,⟨k2,by dsimp only;omega,⟨a1,cp1,rfl,hrow3⟩,da4,dc4,rfl⟩,hm3⟩
abbrev B9g (pb bi:Nat) (la:Option Addr) (lc:Nat) (T:Sp.Src) (q:Sp.Itm×Sp.St):Value->U0->List HItem->Prop:=
 fun v I' H'=>q.2.i<=T.l.length/\q.2.ds.length<=1099511626000/\v=.tuple #[]/\∃ap cp as_ cs ab cb xb da dc,
  RowI I' 65 3 (.slice ap q.1.params.length cp) q.1.params.length (q.1.params.flatMap A2r)/\RowI I' 62 2 (.slice as_ q.1.sends.length cs) q.1.sends.length (q.1.sends.flatMap A2f)/\
  RowI I' 109 15 (.slice ab q.1.body.length cb) q.1.body.length xb/\U8 I' q.1.body xb/\
  H'= [A4i pb la lc T q.2 0 da dc,A26 q.2.ds da dc,.cell bi (A0P q.1.kind q.1.name q.1.label (.slice ap q.1.params.length cp) (.slice as_ q.1.sends.length cs) (.slice ab q.1.body.length cb) q.1.at_ q.1.size q.1.mark A21) 60]
theorem B5V (T:Sp.Src) (at_:Int) (size:Nat) (s:Sp.St):A5m T at_ size s=
  (let r:=s.named T
   let p:=B0O T r.2
   let s4:=(p.2.need T [58]).2
   let r5:=Sp.lab T s4
   let r6:=if T.is r5.2.i [115,101,110,100,115] then A40 T 6 [] r5.2.next else ([],r5.2)
   let r7:=Sp.block T (A68 T) 0 r6.2
   (⟨2,r.1,r5.1,p.1,r6.1,r7.1,at_,size,(T.tok s.i).pos,[]⟩,r7.2)):=rfl
theorem B9l (T:Sp.Src) (pb bi:Nat) (hT:Ok T) (I:U0) (la:Option Addr) (lc:Nat) (da:Option Addr) (dc:Nat) (s:Sp.St) (at_:Int) (size:Nat) (hC:A3b I) (hr:A2e I T la lc) (hi:s.i<=T.l.length) (hd:s.ds= []):
  CalM prog 91 #[ptr pb,ptr bi] I [A4i pb la lc T s 0 da dc,A26 s.ds da dc,.cell bi (A0P 3 [] 0 A21 A21 A21 at_ size 0 A21) 60]
   (B9g pb bi la lc T (A5m T at_ size s)):=by
 have h2:=hT.size;have h3:=hT.len;have h1:=hT.at_ s.i;have hd0:s.ds.length=0:=by rw[hd];rfl
 rw[B5V];have hnm:=fun da dc=>A6v (pb:=pb) (deep:=0) (da:=da) (dc:=dc) s hr hT (by omega) hi
 have hgn:=A0R T s;dsimp only
 generalize s.named T=r at hnm hgn |-;have hn1:=hgn.le;have hn2:=hgn.top hi;have hn3:=hgn.ds;have hpa:=fun da dc=>B6p T pb hT I la lc 0 da dc r.2 hr hn2 (by omega)
 generalize B0O T r.2=R at hpa |-;refine CalM.of fun w E hm=>enter (N:=64) func91 rfl [(0,ptr pb),(1,ptr bi)] A1P rfl ?_
 repeat' (first|refine P9 ?_ hm (hc:=A0Z s hr);clear hm;intro _ hm|refine F6 ?_ hm (hc:=hnm _ _);clear hm;rintro _ _ _ _ ⟨rfl,rfl,da1,dc1,rfl⟩ hle hm;try simp only[F7]at hm|refine F6 ?_ hm (hp:=by first|exact pm2_0|exact pm2_1) (hc:=hpa _ _);clear hm;rintro _ I2 _ _ ⟨hi2,hd2,⟨ap,cp,rfl,hrowp⟩,da2,dc2,rfl⟩ hle2 hm;replace hr:=hr.le hle2;replace hC:=hC.le hle2|refine J6 hm (k:=?_);clear hm;intro _ hm;try simp only[F7]at hm|refine D8 ?_|refine E5 ?_|refine C9 ?_|refine D9 ?_|refine A7 ?_|refine E8 ?_|refine A8 ?_)
 have hd9:=fun da dc=>A2b (pb:=pb) (deep:=0) (da:=da) (dc:=dc) R.2 [58] (by simp) hr hT (by omega) hi2
 have hg9:=Z5 T R.2 [58];generalize (R.2.need T [58])=s4 at hd9 hg9 |-;have k4:=hg9.le;have k5:=hg9.top hi2;have k6:=hg9.ds;have hlb:=fun da dc=>A8C (pb:=pb) (deep:=0) (da:=da) (dc:=dc) s4.2 hr hT k5 (by omega)
 have hgl:=A2D T s4.2;generalize Sp.lab T s4.2=r5 at hlb hgl |-;have k7:=hgl.le;have k8:=hgl.top k5;have k9:=hgl.ds;have hsd:=fun da dc=>A0U (pb:=pb) (deep:=0) (da:=da) (dc:=dc) r5.2 [115,101,110,100,115] (by simp) hr hT k8
 obtain⟨R6,hR6⟩:∃R6,R6=(if T.is r5.2.i [115,101,110,100,115]=true then A40 T 6 [] r5.2.next else ([],r5.2)):=⟨_,rfl⟩;rw[<-hR6];cases hyes:T.is r5.2.i [115,101,110,100,115]with
 |true=>
  rw[hyes,if_pos rfl]at hR6;rw[hyes,if_pos rfl]at hsd;have hlt6:=Sp.is_lt hyes;have hni:r5.2.next.i=r5.2.i+1:=rfl;have hnd2:r5.2.next.ds.length=r5.2.ds.length:=rfl;repeat' (first|refine A7L 0 (fun x:QSnd=> [(0,ptr pb),(1,ptr bi)]) (fun x w'=>x.n=R6.1.length/\R6.2.i<=T.l.length/\R6.2.ds.length<=16000000/\Mem E I2 [A4i pb la lc T R6.2 0 x.da x.dc,A26 R6.2.ds x.da x.dc,B0X R6.1 x.n x.a x.cp,.cell bi (A0P 2 r.1 r5.1 (.slice ap R.1.length cp) (.slice x.a x.n x.cp) A21 at_ size (T.tok s.i).pos A21) 60] w') ?_ ?_|refine F6 ?_ hm (hc:=hd9 _ _);clear hm;rintro _ _ _ _ ⟨rfl,rfl,da5,dc5,rfl⟩ hle hm;try simp only[F7]at hm|refine F6 ?_ hm (hc:=hlb _ _);clear hm;rintro _ _ _ _ ⟨rfl,rfl,da6,dc6,rfl⟩ hle hm;try simp only[F7]at hm|refine F6 ?_ hm (hc:=hsd _ _);clear hm;rintro _ _ _ _ ⟨rfl,rfl,da7,dc7,rfl⟩ hle hm;try simp only[F7]at hm|refine J6 hm (k:=?_);clear hm;intro _ hm;try simp only[F7]at hm|refine D8 ?_|refine E5 ?_|refine C9 ?_|refine D9 ?_|refine A7 ?_|refine E8 ?_|refine A8 ?_|refine F8 ?_)
  ·have hm2:=hm.nil 62 2
   clear hm;refine X7 (fun x:QSnd=> [(0,ptr pb),(1,ptr bi)])
    (fun x w'=>Mem E I2 [A4i pb la lc T x.s 0 x.da x.dc,A26 x.s.ds x.da x.dc,B0X x.l x.n x.a x.cp,.cell bi (A0P 2 r.1 r5.1 (.slice ap R.1.length cp) (.slice x.a x.n x.cp) A21 at_ size (T.tok s.i).pos A21) 60] w'/\
     x.l.length=x.n/\x.n<=5/\x.f+x.n=6/\x.s.i<=T.l.length/\x.s.ds.length<=8000010+2 *x.s.i+3 *x.n/\A40 T x.f x.l x.s=R6)
    (fun x=>x.f) ⟨6,[],0,r5.2.next,none,0,da7,dc7⟩ (by exact⟨rfl,rfl,trivial⟩) ⟨hm2.perm pm2_1,rfl,by dsimp only;omega,rfl,by dsimp only;omega,by dsimp only;omega,hR6.symm⟩ ?_
   clear hm2;rintro⟨f1,l1,n1,s2,a2,cp2,da3,dc3⟩ w2 ⟨hm,hl,hn5,hf,hi3,hd3,hL⟩;dsimp only at hm hl hn5 hf hi3 hd3 hL |-;obtain⟨f1,rfl⟩:∃f',f1=f'+1:=⟨f1-1,by omega⟩;rw[A40]at hL;by_cases h5:5<=l1.length
   ·rw[if_pos h5]at hL
    subst hL;repeat' (first|refine F6 ?_ hm (hc:=A29 s2 5 hr hT hi3 (by omega));clear hm;rintro _ _ _ _ ⟨rfl,rfl,da4,dc4,rfl⟩ hle hm;try simp only[F7]at hm|refine H8 ?_ hm|refine D8 ?_|refine Q5 ?_|refine G8 ?_|refine E5 ?_|refine C9 ?_|refine D9 ?_|refine A7 ?_|refine G7 ?_|refine G5 ?_|refine Q3 ?_|refine E8 ?_|refine A8 ?_|refine F5 ?_|refine O7 ?_|(refine D6 (ht:=fun _=>?_) (hf:=fun _=>?_)<;>try first|contradiction|omega))
    all_goals try omega
    exact A0L (⟨0,[],n1,s2,a2,cp2,da4,dc4⟩:QSnd) (by exact⟨rfl,rfl,trivial⟩) ⟨hl.symm,hi3,by simp[Sp.St.bad];omega,hm⟩
   rw[if_neg h5]at hL;dsimp only at hL;have hnm2:=fun da dc=>A6v (pb:=pb) (deep:=0) (da:=da) (dc:=dc) s2 hr hT (by omega) hi3
   have hgn2:=A0R T s2;generalize s2.named T=q at hnm2 hgn2 hL;have hq1:=hgn2.le;have hq2:=hgn2.top hi3;have hq3:=hgn2.ds;have hnl:(l1++ [(⟨q.1,(T.tok s2.i).pos⟩:Sp.Rf)]).length=n1+1:=by simp[hl]
   have hfm:(l1++ [(⟨q.1,(T.tok s2.i).pos⟩:Sp.Rf)]).flatMap A2f=l1.flatMap A2f++ [str q.1,nt (T.tok s2.i).pos]:=by simp[A0F]
   have hcm:=fun da dc=>A0U (pb:=pb) (deep:=0) (da:=da) (dc:=dc) q.2 [44] (by simp) hr hT hq2
   have hn4:n1<5:=by omega
   have hni:q.2.next.i=q.2.i+1:=rfl;have hnd2:q.2.next.ds.length=q.2.ds.length:=rfl;by_cases hcomma:T.is q.2.i [44]=true
   ·rw[if_pos hcomma]at hL
    rw[hcomma,if_pos (by rfl)]at hcm;have hlt2:=Sp.is_lt hcomma;repeat' (first|refine A0r (id:=10) (hm.perm pm1_3) 6 8 (h:=?_);clear hm;intro wd hR hm|refine P9 ?_ hm (hc:=A0Z s2 hr);clear hm;intro _ hm|refine F6 ?_ hm (hc:=hnm2 _ _);clear hm;rintro _ _ _ _ ⟨rfl,rfl,da4,dc4,rfl⟩ hle hm;try simp only[F7]at hm|refine F6 ?_ hm (hc:=hcm _ _);clear hm;rintro _ _ _ _ ⟨rfl,rfl,da8,dc8,rfl⟩ hle hm;try simp only[F7]at hm|refine A2V ?_ hR|refine A0g ?_ hR|refine A2K (d:=53) ?_ hm;clear hm;intro a53 cp53 _ _ hm;replace hm:=hR.back hm;clear hR;try simp only[F7]at hm|refine A0j (d:=4) ?_ hm;clear hm;intro b4 _ hm|refine H8 ?_ hm|refine J6 hm (k:=?_);clear hm;intro _ hm;try simp only[F7]at hm|refine D8 ?_|refine Q5 ?_|refine G8 ?_|refine Y7 ?_|refine E5 ?_|refine C9 ?_|refine X4 ?_|refine D9 ?_|refine A7 ?_|refine D7 ?_|refine E8 ?_|refine A8 ?_|refine F5 ?_|refine F9 ?_|refine E9 ?_|(refine D6 (ht:=fun _=>?_) (hf:=fun _=>?_)<;>try first|contradiction|omega)|refine A1V ?_|refine Z4 ?_|refine S9 ?_|refine A08 ?_)
    all_goals try first|omega|contradiction
    refine N7 (⟨f1,_,n1+1,q.2.next,a53,cp53,da8,dc8⟩:QSnd) (by exact⟨rfl,rfl,trivial⟩) ⟨?_,hnl,by dsimp only;omega,by dsimp only;omega,by dsimp only;omega,by dsimp only;omega,hL⟩ (by dsimp only;omega)
    dsimp only[B0X];rw[hfm];exact(hm.front 3 rfl).tl
   ·rw[if_neg hcomma]at hL
    rw[show T.is q.2.i [44]=false by simpa using hcomma,if_neg (by simp)]at hcm;subst hL;repeat' (first|refine A0r (id:=10) (hm.perm pm1_3) 6 8 (h:=?_);clear hm;intro wd hR hm|refine P9 ?_ hm (hc:=A0Z s2 hr);clear hm;intro _ hm|refine F6 ?_ hm (hc:=hnm2 _ _);clear hm;rintro _ _ _ _ ⟨rfl,rfl,da4,dc4,rfl⟩ hle hm;try simp only[F7]at hm|refine F6 ?_ hm (hc:=hcm _ _);clear hm;rintro _ _ _ _ ⟨rfl,rfl,da8,dc8,rfl⟩ hle hm;try simp only[F7]at hm|refine A2V ?_ hR|refine A0g ?_ hR|refine A2K (d:=53) ?_ hm;clear hm;intro a53 cp53 _ _ hm;replace hm:=hR.back hm;clear hR;try simp only[F7]at hm|refine A0j (d:=4) ?_ hm;clear hm;intro b4 _ hm|refine H8 ?_ hm|refine J6 hm (k:=?_);clear hm;intro _ hm;try simp only[F7]at hm|refine D8 ?_|refine Q5 ?_|refine G8 ?_|refine Y7 ?_|refine E5 ?_|refine C9 ?_|refine X4 ?_|refine D9 ?_|refine A7 ?_|refine G7 ?_|refine G5 ?_|refine Q3 ?_|refine E8 ?_|refine A8 ?_|refine F5 ?_|refine F9 ?_|refine O7 ?_|refine F8 ?_|(refine D6 (ht:=fun _=>?_) (hf:=fun _=>?_)<;>try first|contradiction|omega)|refine A1V ?_|refine Z4 ?_|refine S9 ?_|refine A08 ?_)
    all_goals try first|omega|contradiction
    refine A0L (⟨0,[],n1+1,s2,a53,cp53,da8,dc8⟩:QSnd) (by exact⟨rfl,rfl,trivial⟩) ⟨hnl.symm,hq2,by dsimp only;omega,?_⟩
    dsimp only[B0X];rw[hfm];exact(hm.front 3 rfl).tl
  ·clear hm hd9 hlb hsd
   rintro⟨_,_,n2,_,a2,cp2,da3,dc3⟩ w3 ⟨hn,hi3,hd3,hm⟩;dsimp only at hn hm |-;subst hn;have hbl:=fun da dc=>(A85 T pb hT (A68 T)).2 I2 la lc 0 da dc R6.2 hC hr hi3 (by rw[A68];omega) (by omega) (by omega)
   have hgb:=(A1n T (A68 T)).1 0 R6.2;generalize Sp.block T (A68 T) 0 R6.2=r7 at hbl hgb |-;have j1:=hgb.le;have j2:=hgb.top hi3;have j3:=hgb.ds;repeat' (first|refine F6 ?_ hm (hc:=hbl _ _);clear hm;rintro _ I3 _ _ ⟨⟨ab,cb,xb,rfl,hrow,hsts⟩,da8,dc8,rfl⟩ hle hm;have hleI3:=hle;try simp only[F7]at hm|refine J6 hm (k:=?_);clear hm;intro _ hm;try simp only[F7]at hm|refine D8 ?_|refine E5 ?_|refine C9 ?_|refine D9 ?_|refine A7 ?_|refine A8 ?_|refine A0f ?_)
   obtain⟨I4,hle4,hm4,hrow4⟩:=(hm.front 2 rfl).freeze;exact⟨I4,_,⟨j2,by dsimp only;omega,rfl,ap,cp,a2,cp2,ab,cb,xb,da8,dc8,(hrowp.le hleI3).le hle4,hrow4,hrow.le hle4,U8.le hle4 _ _ hsts,rfl⟩,hm4⟩
 |false=>
  rw[hyes,if_neg (by simp)]at hR6;rw[hyes,if_neg (by simp)]at hsd;have hi3:R6.2.i<=T.l.length:=by rw[hR6];exact k8
  have hd3:R6.2.ds.length<=16000000:=by rw[hR6];dsimp only;omega
  have hs6:R6.1= []:=by rw[hR6]
  have hbl:=fun da dc=>(A85 T pb hT (A68 T)).2 I2 la lc 0 da dc R6.2 hC hr hi3 (by rw[A68];omega) (by omega) (by omega)
  have hgb:=(A1n T (A68 T)).1 0 R6.2;generalize Sp.block T (A68 T) 0 R6.2=r7 at hbl hgb |-;have j1:=hgb.le;have j2:=hgb.top hi3;have j3:=hgb.ds;subst hR6;repeat' (first|refine F6 ?_ hm (hc:=hd9 _ _);clear hm;rintro _ _ _ _ ⟨rfl,rfl,da5,dc5,rfl⟩ hle hm;try simp only[F7]at hm|refine F6 ?_ hm (hc:=hlb _ _);clear hm;rintro _ _ _ _ ⟨rfl,rfl,da6,dc6,rfl⟩ hle hm;try simp only[F7]at hm|refine F6 ?_ hm (hc:=hsd _ _);clear hm;rintro _ _ _ _ ⟨rfl,rfl,da7,dc7,rfl⟩ hle hm;try simp only[F7]at hm|refine F6 ?_ hm (hc:=hbl _ _);clear hm;rintro _ I3 _ _ ⟨⟨ab,cb,xb,rfl,hrow,hsts⟩,da8,dc8,rfl⟩ hle hm;have hleI3:=hle;try simp only[F7]at hm|refine J6 hm (k:=?_);clear hm;intro _ hm;try simp only[F7]at hm|refine D8 ?_|refine E5 ?_|refine C9 ?_|refine D9 ?_|refine A7 ?_|refine E8 ?_|refine A8 ?_|refine F9 ?_|refine A0f ?_|refine E9 ?_)
  exact⟨I3,_,⟨j2,by dsimp only;omega,rfl,ap,cp,none,0,ab,cb,xb,da8,dc8,hrowp.le hleI3,A1K _ _ _ _ _,hrow,hsts,rfl⟩,hm⟩
theorem B8l (s:List UInt8) (at_:Int) (I:U0) (hC:A3b I) (hs:s.length<=1048576):CalM prog 63 #[str s,.int .i64 at_] I [] (B8O (Sp.item s at_)):=by
 have hT:=B44 s hs;rw[A8z];generalize hTd:(Sp.Src.mk (O6 s) s.length)=T at hT |-;have hsz:T.size=s.length:=by rw[<-hTd]
 have h2:=hT.size;have h3:=hT.len;obtain⟨q,hq⟩:∃q,q=A5o T at_ s.length:=⟨_,rfl⟩;rw[<-hq];refine CalM.of fun w E hm=>enter (N:=67) func63 rfl [(0,str s),(1,.int .i64 at_)] A1P rfl ?_
 repeat' (first|refine A7L 0 (fun x:ItX=> [(4,ptr b4),(5,ptr b5),(6,ptr b16)]) (fun x w'=>q.2.i<=T.l.length/\q.2.ds.length<=1099511626000/\A2e x.I T ta tc/\RowI x.I 65 3 (.slice x.ap q.1.params.length x.cp) q.1.params.length (q.1.params.flatMap A2r)/\RowI x.I 62 2 (.slice x.as_ q.1.sends.length x.cs) q.1.sends.length (q.1.sends.flatMap A2f)/\RowI x.I 109 15 (.slice x.ab q.1.body.length x.cb) q.1.body.length x.xb/\U8 x.I q.1.body x.xb/\Mem E x.I [A4i b16 ta tc T q.2 0 x.da x.dc,A26 q.2.ds x.da x.dc,.cell b5 (itV q.1 x) 60,.cell b4 (A0P 0 [] 0 A21 A21 A21 0 0 0 A21) 60] w') ?_ ?_|refine X6 (hc:=by exact B1r s (by omega) _) (k:=?_);rintro tv wt ⟨hto,hkt⟩;obtain⟨ta,tc,rfl⟩:=A4r hto;obtain⟨I1,hle1,hm1,hrow⟩:=hm.take hkt hto;clear hm;have hm:=hm1;clear hm1|refine V6 (d:=4) ?_ hm;clear hm;intro b4 _ hm|refine A0j (d:=5) ?_ hm;clear hm;intro b5 _ hm|refine A0z (d:=16) ?_ hm;clear hm;intro b16 _ hm|refine D8 ?_|refine D5 ?_|refine X9 ?_|refine X4 ?_|refine D9 ?_|refine A7 ?_|refine E8 ?_|refine A8 ?_)
 ·rename_i wB
  have hr:A2e I1 T ta tc:=by rw[<-hTd];exact hrow
  have hC1:=hC.le hle1;have hm2:Mem E I1 [A4i b16 ta tc T ⟨0,[]⟩ 0 none 0,.cell b5 (A0P 3 [] 0 A21 A21 A21 at_ s.length 0 A21) 60,.cell b4 (A0P 0 [] 0 A21 A21 A21 0 0 0 A21) 60] wB:=by rw[<-hTd];exact hm
  have hm3:Mem E I1 [A4i b16 ta tc T ⟨0,[]⟩ 0 none 0,A26 [] none 0,.cell b5 (A0P 3 [] 0 A21 A21 A21 at_ s.length 0 A21) 60,.cell b4 (A0P 0 [] 0 A21 A21 A21 0 0 0 A21) 60] wB:=(hm2.nil 92 4).swap;clear hm hm2 hrow hto;have hm:=hm3;clear hm3;have hq1:=fun da dc=>A0U (pb:=b16) (deep:=0) (da:=da) (dc:=dc) ⟨0,[]⟩ [102,110] (by simp) hr hT (J7 _)
  have hq2:=fun da dc=>A0U (pb:=b16) (deep:=0) (da:=da) (dc:=dc) ⟨0,[]⟩ [99,104,97,110] (by simp) hr hT (J7 _)
  dsimp only at hq1 hq2;rw[A5o]at hq;by_cases hf:T.is 0 [102,110]=true
  ·rw[if_pos hf]at hq
   rw[if_pos hf,hf]at hq1;have hlt:=Sp.is_lt hf;have hfn:=fun da dc=>B9l T b16 b5 hT I1 ta tc da dc ⟨1,[]⟩ at_ s.length hC1 hr hlt rfl
   rw[<-hq]at hfn;repeat' (first|refine F6 ?_ hm (hc:=hq1 _ _);clear hm;rintro _ _ _ _ ⟨rfl,rfl,da1,dc1,rfl⟩ hle hm;try simp only[F7]at hm|refine F6 ?_ hm (hc:=hfn _ _);clear hm;rintro _ I2 _ _ ⟨hqi,hqd,rfl,ap,cp,as_,cs,ab,cb,xb,da2,dc2,r1,r2,r3,r4,rfl⟩ hle hm;have hleI2:=hle;try simp only[F7]at hm|refine D8 ?_|refine D5 ?_|refine D9 ?_|refine A7 ?_|refine D7 ?_|refine A8 ?_|refine F8 ?_)
   exact A0L (⟨I2,da2,dc2,ap,cp,as_,cs,ab,cb,xb⟩:ItX) (by exact⟨rfl,rfl,rfl,trivial⟩) ⟨hqi,hqd,hr.le hleI2,r1,r2,r3,r4,hm⟩
  rw[if_neg hf]at hq;rw[if_neg hf,show T.is 0 [102,110]=false by simpa using hf]at hq1;by_cases hc:T.is 0 [99,104,97,110]=true
  ·rw[if_pos hc,A9E]at hq
   rw[if_pos hc,hc]at hq2;have hlt:=Sp.is_lt hc;dsimp only at hq;have hnm:=fun da dc=>A6v (pb:=b16) (deep:=0) (da:=da) (dc:=dc) ⟨1,[]⟩ hr hT (by simp) hlt
   have hhr:=fun da dc=>A0Z (pb:=b16) (deep:=0) (da:=da) (dc:=dc) ⟨1,[]⟩ hr
   have hgn:=A0R T ⟨1,[]⟩;generalize (⟨1,[]⟩:Sp.St).named T=r at hnm hgn hq;have hn1:=hgn.le;have hn2:=hgn.top hlt;have hn3:=hgn.ds;dsimp only[List.length_nil]at hn1 hn3;have hd1:=fun da dc=>A2b (pb:=b16) (deep:=0) (da:=da) (dc:=dc) r.2 [58] (by simp) hr hT (by omega) hn2
   have hg1:=Z5 T r.2 [58];generalize (r.2.need T [58])=s1 at hd1 hg1 hq;have k1:=hg1.le;have k2:=hg1.top hn2;have k3:=hg1.ds;have hlb:=fun da dc=>A8C (pb:=b16) (deep:=0) (da:=da) (dc:=dc) s1.2 hr hT k2 (by omega)
   have hgl:=A2D T s1.2;generalize Sp.lab T s1.2=r2 at hlb hgl hq;have k4:=hgl.le;have k5:=hgl.top k2;have k6:=hgl.ds;have hd2:=fun da dc=>A2b (pb:=b16) (deep:=0) (da:=da) (dc:=dc) r2.2 [59] (by simp) hr hT (by omega) k5
   have hg2:=Z5 T r2.2 [59];generalize (r2.2.need T [59])=s3 at hd2 hg2 hq;have k7:=hg2.le;have k8:=hg2.top k5;have k9:=hg2.ds;subst hq;repeat' (first|refine F6 ?_ hm (hc:=hq1 _ _);clear hm;rintro _ _ _ _ ⟨rfl,rfl,da5,dc5,rfl⟩ hle hm;try simp only[F7]at hm|refine F6 ?_ hm (hc:=hq2 _ _);clear hm;rintro _ _ _ _ ⟨rfl,rfl,da6,dc6,rfl⟩ hle hm;try simp only[F7]at hm|refine P9 ?_ hm (hc:=hhr _ _);clear hm;intro _ hm|refine F6 ?_ hm (hc:=hnm _ _);clear hm;rintro _ _ _ _ ⟨rfl,rfl,da1,dc1,rfl⟩ hle hm;try simp only[F7]at hm|refine F6 (d:=48) ?_ hm (hc:=hd2 _ _);clear hm;rintro _ _ _ _ ⟨rfl,rfl,da4,dc4,rfl⟩ hle hm;try simp only[F7]at hm|refine F6 ?_ hm (hc:=hd1 _ _);clear hm;rintro _ _ _ _ ⟨rfl,rfl,da2,dc2,rfl⟩ hle hm;try simp only[F7]at hm|refine F6 ?_ hm (hc:=hlb _ _);clear hm;rintro _ _ _ _ ⟨rfl,rfl,da3,dc3,rfl⟩ hle hm;try simp only[F7]at hm|refine J6 hm (k:=?_);clear hm;intro _ hm;try simp only[F7]at hm|refine D8 ?_|refine D5 ?_|refine C9 ?_|refine D9 ?_|refine A7 ?_|refine D7 ?_|refine E8 ?_|refine A8 ?_|refine F8 ?_|refine E9 ?_)
   exact A0L (⟨I1,da4,dc4,none,0,none,0,none,0,[]⟩:ItX) (by exact⟨rfl,rfl,rfl,trivial⟩) ⟨k8,by dsimp only;omega,hr,A1K _ _ _ _ _,A1K _ _ _ _ _,A1K _ _ _ _ _,.nil,hm⟩
  ·rw[if_neg hc]at hq
   rw[if_neg hc,show T.is 0 [99,104,97,110]=false by simpa using hc]at hq2;subst hq;repeat' (first|refine F6 ?_ hm (hc:=hq1 _ _);clear hm;rintro _ _ _ _ ⟨rfl,rfl,da5,dc5,rfl⟩ hle hm;try simp only[F7]at hm|refine F6 ?_ hm (hc:=hq2 _ _);clear hm;rintro _ _ _ _ ⟨rfl,rfl,da6,dc6,rfl⟩ hle hm;try simp only[F7]at hm|refine F6 ?_ hm (hc:=A29 ⟨0,[]⟩ 2 hr hT (J7 _) (by simp));clear hm;rintro _ _ _ _ ⟨rfl,rfl,da2,dc2,rfl⟩ hle hm;try simp only[F7]at hm|refine H8 ?_ hm|refine J6 hm (k:=?_);clear hm;intro _ hm;try simp only[F7]at hm|refine D8 ?_|refine D5 ?_|refine G8 ?_|refine E5 ?_|refine C9 ?_|refine D9 ?_|refine A7 ?_|refine D7 ?_|refine E8 ?_|refine A8 ?_|refine E9 ?_)
   exact A0L (⟨I1,da2,dc2,none,0,none,0,none,0,[]⟩:ItX) (by exact⟨rfl,rfl,rfl,trivial⟩) ⟨H6 _,by simp[Sp.St.bad],hr,A1K _ _ _ _ _,A1K _ _ _ _ _,A1K _ _ _ _ _,.nil,hm⟩
 clear hm;rintro⟨I2,da,dc,ap,cp,as_,cs,ab,cb,xb⟩ w2 ⟨hi,hd,hr,r1,r2,r3,r4,hm⟩;dsimp only[itV]at hi hd hr r1 r2 r3 r4 hm |-;rw[B50];by_cases hlt:q.2.i<T.l.length
 ·rw[if_pos hlt]
  repeat' (first|refine F6 ?_ hm (hc:=A29 q.2 2 hr hT hi (by omega));clear hm;rintro _ _ _ _ ⟨rfl,rfl,da2,dc2,rfl⟩ hle hm;try simp only[F7]at hm|refine H8 ?_ hm|refine O1 ?_ hm|refine J8 ?_ hm|refine O4 ?_ hm;clear hm;intro _ hm;try simp only[F7]at hm|refine J6 hm (k:=?_);clear hm;intro _ hm;try simp only[F7]at hm|refine V3 ?_ hm|refine D8 ?_|refine E5 ?_|refine C9 ?_|refine D9 ?_|refine A7 ?_|refine E8 ?_|refine A8 ?_|refine H7 ?_|refine L6 ?_|refine U4 ?_;intro _ hkq;replace hm:=hm.kept0 hkq;clear hkq|(refine D6 (ht:=fun _=>?_) (hf:=fun _=>?_)<;>try first|contradiction|omega)|refine P5 ?_|refine A0I ?_|refine J3 ?_|refine J5 ?_|refine G6 ?_)
  all_goals try omega
  obtain⟨I3,hle3,hm3,hrow3⟩:=(hm.front 1 rfl).freeze;exact⟨I3,[],⟨_,rfl,⟨ap,cp,as_,cs,ab,cb,da2,dc2,xb,rfl,r1.le hle3,r2.le hle3,r3.le hle3,U8.le hle3 _ _ r4,hrow3⟩,rfl⟩,hm3.left (H:= [])⟩
 ·rw[if_neg hlt]
  repeat' (first|refine H8 ?_ hm|refine O1 ?_ hm|refine J8 ?_ hm|refine O4 ?_ hm;clear hm;intro _ hm;try simp only[F7]at hm|refine J6 hm (k:=?_);clear hm;intro _ hm;try simp only[F7]at hm|refine V3 ?_ hm|refine D8 ?_|refine E5 ?_|refine C9 ?_|refine D9 ?_|refine A7 ?_|refine E8 ?_|refine A8 ?_|refine F9 ?_|refine H7 ?_|refine L6 ?_|refine U4 ?_;intro _ hkq;replace hm:=hm.kept0 hkq;clear hkq|(refine D6 (ht:=fun _=>?_) (hf:=fun _=>?_)<;>try first|contradiction|omega)|refine P5 ?_|refine A0I ?_|refine J3 ?_|refine J5 ?_|refine G6 ?_)
  all_goals try omega
  obtain⟨I3,hle3,hm3,hrow3⟩:=(hm.front 1 rfl).freeze;exact⟨I3,[],⟨_,rfl,⟨ap,cp,as_,cs,ab,cb,da,dc,xb,rfl,r1.le hle3,r2.le hle3,r3.le hle3,U8.le hle3 _ _ r4,hrow3⟩,rfl⟩,hm3.left (H:= [])⟩
theorem B9a (it:Sp.Itm) (hs:it.small) (I:U0) (cs:List Value) (hi:A5a I it cs):CalM prog 45 #[.agg cs.toArray] I [] (B8O it):=by
 obtain⟨ap,cp,as_,cs',ab,cb,ad,cd,xb,rfl,r1,r2,r3,r4,r5⟩:=hi;have k1:=hs.params;have k2:=hs.sends;have k3:=hs.diags;have k4:=hs.body;refine CalM.of fun w E hm=>enter (N:=20) func45 rfl [(0,.agg (A0P it.kind it.name it.label (.slice ap it.params.length cp) (.slice as_ it.sends.length cs') (.slice ab it.body.length cb) it.at_ it.size it.mark (.slice ad it.diags.length cd)).toArray)] A0v rfl ?_
 have c1:=fun (I':U0) (m:Le I I')=>B6n I' ap it.params.length cp _ (r1.le m) (B2k _) (by omega)
 have c2:=fun (I':U0) (m:Le I I')=>B2f I' as_ it.sends.length cs' _ (r2.le m) (B4i _) (by omega)
 have c3:=fun (I':U0) (m:Le I I')=>B2e I' ad it.diags.length cd _ (r5.le m) (B30 _) (by omega)
 have c4:=fun (I':U0) (m:Le I I')=>B3m (SizeOf.sizeOf it.body) it.body (H6 _) (by omega) hs.stms I' ab cb xb (r3.le m) (U8.le m _ _ r4)
 repeat' (first|refine A4Y (id:=1) (hm.perm pm0) [([0,1,3,4,6,7],[2]),([9],[5]),([],[8])] 10 (h:=?_);clear hm;intro wd hR hm|refine A02 (d:=5) ?_ hm (hc:=c1 _ (Le.refl _));clear hm;rintro _ I2 _ _ ⟨rfl,a1,d1,rfl,s1⟩ hle hm;have hleI2:=hle;try simp only[F7]at hm|refine A02 (d:=8) ?_ hm (hc:=c2 _ hleI2);clear hm;rintro _ I3 _ _ ⟨rfl,a2,d2,rfl,s2⟩ hle hm;have hleI3:=hle;try simp only[F7]at hm|refine A02 (d:=11) ?_ hm (hc:=c3 _ (hleI2.trans hleI3));clear hm;rintro _ I4 _ _ ⟨rfl,a3,d3,rfl,s3⟩ hle hm;have hleI4:=hle;try simp only[F7]at hm|refine F6 ?_ hm (hc:=c4 _ ((hleI2.trans hleI3).trans hleI4));clear hm;rintro _ I5 _ _ ⟨rfl,a4,d4,xs4,rfl,s4,t4⟩ hle hm;have hleI5:=hle;try simp only[F7]at hm|refine A0g ?_ hR|refine A7N ?_|refine A7M ?_|refine A1m ?_|refine B5z ?_|refine A9k ?_;replace hm:=hR.back hm;clear hR;try simp only[F7]at hm|refine A0z (d:=1) ?_ hm;clear hm;intro b1 _ hm|refine V6 (d:=2) ?_ hm;clear hm;intro b2 _ hm|refine H8 ?_ hm|refine O1 ?_ hm|refine O4 ?_ hm;clear hm;intro _ hm;try simp only[F7]at hm|refine J6 hm (k:=?_);clear hm;intro _ hm;try simp only[F7]at hm|refine V3 ?_ hm|refine C9 ?_|refine D9 ?_|refine A7 ?_|refine E8 ?_|refine A8 ?_|refine H7 ?_|refine S9 ?_)
 exact⟨I5,[],⟨_,rfl,⟨a1,d1,a2,d2,a4,d4,a3,d3,xs4,rfl,((s1.le hleI3).le hleI4).le hleI5,(s2.le hleI4).le hleI5,s4,t4,s3.le hleI5⟩,rfl⟩,hm.left (H:= [])⟩
structure AgX where
 k:Nat
 I:U0
 a:Option Addr
 cp:Nat
 xs:List Value
abbrev it0:List Value:=A0P 0 [] 0 A21 A21 A21 0 0 0 A21
theorem B5q (w:World):(zeroValue 60).run prog w=.ok (.agg it0.toArray) w:=by kernel_rfl
abbrev B6Q (fresh err:Nat) (its:List Sp.Itm):Value->U0->List HItem->Prop:=fun v I' H'=> ∃a cp xs,v=.tuple #[.agg [.slice a its.length cp].toArray,nt fresh,nt err]/\RowI I' 60 10 (.slice a its.length cp) its.length xs/\A3c I' its xs/\H'= []
theorem B5I (s:List UInt8):(U9 s).length<=s.length:=by
 obtain⟨r,h1,h2⟩:=A7t s (O6 s) [];have e:U9 s=r:=by rw[U9,h1];simp
 have:=h2.length_le;have:=A5y s;rw[e];simp at *
 omega
theorem B6m (s:List UInt8) (I:U0) (hC:A3b I) (hs:s.length<=9223372036854775807):CalM prog 41 #[.agg [.slice none 0 0].toArray,str [],str s] I [] (B6Q (P8 s).length (A1d s) (P8 s)):=by
 refine CalM.of fun w E hm=>enter (N:=127) func41 rfl [(0,.agg [.slice none 0 0].toArray),(1,str []),(2,str s)] A6f rfl ?_
 by_cases hl:s.length>4000
 ·have he:A1d s=4:=by rw[A1d,if_pos hl]
  have hi:P8 s= []:=by rw[P8,he];rfl
  rw[he,hi];repeat' (first|refine A7f hm (by rfl) (by rfl) (by rfl) (by rfl) (by first|exact gt0|exact gt1|exact gt2|exact gt3|exact gt4|exact gt5|exact gt6) (by rfl) ?_|refine A0z (d:=3) ?_ hm;clear hm;intro b3 _ hm|refine V6 (d:=6) ?_ hm;clear hm;intro b6 _ hm|refine O4 ?_ hm;clear hm;intro _ hm;try simp only[F7]at hm|refine D8 ?_|refine D5 ?_|refine A5g ?_|refine X9 ?_|refine X4 ?_|refine D9 ?_|refine A7 ?_|refine H5 ?_|refine E8 ?_|refine A8 ?_|refine H7 ?_|(refine D6 (ht:=fun _=>?_) (hf:=fun _=>?_)<;>try first|contradiction|omega))
  all_goals try omega
  exact⟨_,_,⟨none,0,[],rfl,A1K _ _ _ _ _,rfl,rfl⟩,hm.left (H:= [])⟩
 have hcl:=B5I s;repeat' (first|refine A9V ?_ hm;clear hm;intro bm _ hm|refine A0z (d:=3) ?_ hm;clear hm;intro b3 _ hm|refine V6 (d:=6) ?_ hm;clear hm;intro b6 _ hm|refine H8 ?_ hm|refine D8 ?_|refine D5 ?_|refine A5g ?_|refine X9 ?_|refine G8 ?_|refine C9 ?_|refine D9 ?_|refine A7 ?_|refine E8 ?_|refine A8 ?_|refine F5 ?_|refine F9 ?_|(refine D6 (ht:=fun _=>?_) (hf:=fun _=>?_)<;>try first|contradiction|omega))
 all_goals try omega
 refine X7 (fun _:Unit=> [(2,str s),(3,ptr b3),(6,ptr b6),(9,.map (some bm)),(26,nt 0),(27,nt 0)]) (fun _ w'=>Mem E I [.mp bm [],.cell b6 [.slice none 0 0] 25,.cell b3 [.slice none 0 0] 25] w') (fun _=>0) () (by exact⟨rfl,rfl,rfl,rfl,rfl,rfl,trivial⟩) hm ?_
 clear hm;rintro⟨⟩ w1 hm;repeat' (first|refine X6 (hc:=by exact B70 s (by omega) _) (k:=?_);rintro tv wt ⟨hto,hkt⟩;obtain⟨ta,tc,rfl⟩:=A4r hto;replace hm:=hm.add (x:=.row (.slice ta (U9 s).length tc) 3 1 (U9 s).length ((U9 s).flatMap A2N)) hkt (A4s hto (J7 _)) (fun b hb=>(hto.lt b hb).1)|refine V6 (d:=12) ?_ hm;clear hm;intro b12 _ hm|refine A3A (d:=73) ?_ hm;clear hm;intro a73 cp73 _ _ hm;try simp only[F7]at hm|refine D8 ?_|refine D5 ?_|refine O0 ?_|refine X9 ?_|refine G8 ?_|refine A5h ?_|refine D9 ?_|refine A7 ?_|refine G7 ?_|refine G5 ?_|refine E8 ?_|refine A8 ?_|refine F5 ?_|refine O7 ?_|refine E9 ?_)
 all_goals try omega
 obtain⟨I2,hle2,hm2,hrow⟩:=hm.freeze;clear hm hto hkt;have hm:=hm2.nil 60 10;clear hm2;obtain⟨n,hn⟩:∃n,n=(U9 s).length:=⟨_,rfl⟩;have hcat:∀k,k<n->(U9 s).getD k 0<(U9 s).getD (k+1) s.length/\(U9 s).getD (k+1) s.length<=s.length:=fun k hk=>A41 s (by omega)
 have hfl:(U9 s).flatMap A2N++ [nt s.length]=(U9 s++ [s.length]).flatMap A2N:=by rw[A0F];rfl
 have hz1:∀k,k<n->(U9 s++ [s.length])[k]?=some ((U9 s).getD k 0):=fun k hk=>by
  rw[A3v (by omega),U2,G9 (by omega)];rfl
 have hz2:∀k,k<n->(U9 s++ [s.length])[k+1]?=some ((U9 s).getD (k+1) s.length):=fun k hk=>by
  rcases X3 (k+1) (U9 s).length with h|h
  ·rw[A3v h,U2,G9 h];rfl
  ·rw[A2G h,show k+1-(U9 s).length=0 by omega,U2,A1F h];rfl
 have hsm:∀k,(A1s s (U9 s) k).length<=1048576:=fun k=>by rw[A1s,Y9,A06];omega
 have hits0:A4G s (U9 s)=(List.range n).map (A2Q s (U9 s)):=by rw[A4G,hn]
 have herr:30<n->A1d s=5/\P8 s= []:=fun h=>by
  have:A1d s=5:=by rw[A1d,if_neg hl,if_pos (by omega)]
  exact⟨this,by rw[P8,this];rfl⟩
 have hok:n<=30->A1d s=0/\P8 s=A4G s (U9 s):=fun h=>by
  have:A1d s=0:=by rw[A1d,if_neg hl,if_neg (by omega)]
  exact⟨this,by rw[P8,this];rfl⟩
 change RowI I2 3 1 (.slice a73 ((U9 s).length+1) cp73) ((U9 s).length+1) ((U9 s).flatMap A2N++ [nt s.length]) at hrow
 rw[hfl, <-hn]at hrow;rw[<-hn]at hcl |-;generalize A1d s=er at herr hok |-;generalize P8 s=its at herr hok |-;clear hn hfl;have hsmall:∀k,(A2Q s (U9 s) k).small:=fun k=>A7b _ _ (hsm k)
 generalize U9 s=cz at hrow hcat hz1 hz2 hits0 hok hsm hsmall;refine X7 (fun x:AgX=> [(2,str s),(6,ptr b6),(9,.map (some bm)),(12,ptr b12),(13,nt x.k),(14,.slice a73 (n+1) cp73),(76,.int .i64 (((n+1:Nat):Int)-1)),(77,nt x.k)])
  (fun x w'=>Mem E x.I [A9P x.k x.a x.cp x.xs,.cell b12 [.slice x.a x.k x.cp] 25,.mp bm [],.cell b6 [.slice none 0 0] 25,.cell b3 [.slice none 0 0] 25] w'/\Le I2 x.I/\A3c x.I ((List.range x.k).map (A2Q s cz)) x.xs/\x.k<=n/\x.k<=30)
  (fun x=>n-x.k) ⟨0,I2,none,0,[]⟩ (by exact⟨rfl,rfl,rfl,rfl,rfl,rfl,rfl,rfl,trivial⟩) ⟨hm,Le.refl _,rfl,J7 _,by dsimp only;omega⟩ ?_
 clear hm;rintro⟨k,I3,a,cp,xs⟩ w2 ⟨hm,hle3,hits,hk,hk30⟩;dsimp only at hm hle3 hits hk hk30 |-;have hrow2:=hrow.le hle3;by_cases hlt:k<n
 ·by_cases h30:k=30
  ·obtain⟨he,hi⟩:=herr (by omega)
   subst he;subst hi;repeat' (first|refine A7f hm (by rfl) (by rfl) (by rfl) (by rfl) (by first|exact gt0|exact gt1|exact gt2|exact gt3|exact gt4|exact gt5|exact gt6) (by rfl) ?_|refine H8 ?_ hm|refine O4 ?_ hm;clear hm;intro _ hm;try simp only[F7]at hm|refine D8 ?_|refine D5 ?_|refine O0 ?_|refine Q5 ?_|refine G8 ?_|refine C9 ?_|refine X4 ?_|refine D9 ?_|refine A7 ?_|refine H5 ?_|refine L8 ?_|refine E8 ?_|refine A8 ?_|refine F5 ?_|refine F9 ?_|refine H7 ?_|(refine D6 (ht:=fun _=>?_) (hf:=fun _=>?_)<;>try first|contradiction|omega))
   all_goals try omega
   exact⟨_,_,⟨none,0,[],rfl,A1K _ _ _ _ _,rfl,rfl⟩,hm.left (H:= [])⟩
  ·have hca:=hcat k hlt
   have hza:(cz++ [s.length])[((k:Nat):Int).toNat]?=some (cz.getD k 0):=by rw[A4K];exact hz1 k hlt
   have hzb:(cz++ [s.length])[(((k:Nat):Int)+1).toNat]?=some (cz.getD (k+1) s.length):=by
    rw[show (((k:Nat):Int)+1).toNat=k+1 by omega];exact hz2 k hlt
   have hit:=B8l (A1s s cz k) ((cz.getD k 0:Nat):Int) I3 ((hC.le hle2).le hle3) (hsm k);rw[show Sp.item (A1s s cz k) ((cz.getD k 0:Nat):Int)=A2Q s cz k from rfl,A1s]at hit;have hat:(A2Q s cz k).at_=((cz.getD k 0:Nat):Int):=B0v _ _;have hsk:=hsmall k;have hsn:=B26 s cz k;generalize A2Q s cz k=it at hit hat hsk hsn;generalize cz.getD (k+1) s.length=e2 at hca hzb hit;generalize cz.getD k 0=e1 at hca hza hit hat
   clear hsmall hsm hcat hz1 hz2 hits0 herr hok;repeat' (first|refine A0r (id:=24) (hm.perm pm1_1) 3 6 (h:=?_);clear hm;intro wd hR hm|refine A0h (d:=88) (enc:=A2N) (z:=e1) ?_ (hr:=hrow2) (he:=fun _=>rfl) (hz:=hza);intro bt ot hpt|refine A0h (d:=93) (enc:=A2N) (z:=e2) ?_ (hr:=hrow2) (he:=fun _=>rfl) (hz:=hzb);intro bt2 ot2 hpt2|refine B4Z hm (by rfl) (by rfl) (by rfl) (by rfl) (by first|exact gt0|exact gt1|exact gt2|exact gt3|exact gt4|exact gt5|exact gt6) (by exact List.nodup_nil) B5q ?_|refine A0i (d:=109) (enc:=A2N) (z:=e1) ?_ (hr:=hrow2) (he:=fun _=>rfl) (hz:=hza);intro bt3 ot3 hpt3|refine F6 ?_ hm (hc:=hit);clear hm;rintro _ I4 _ _ ⟨_,rfl,⟨ap,cp1,as_,cs1,ab,cb,ad,cd,xb,rfl,r1,r2,r3,r4,r5⟩,rfl⟩ hle hm;have hleI4:=hle;try simp only[F7]at hm|refine A0i (d:=114) (enc:=A2N) (z:=e1) ?_ (hr:=hrow2.le hleI4) (he:=fun _=>rfl) (hz:=hza);intro bt4 ot4 hpt4|refine A02 (d:=120) ?_ hm (hc:=B9a it hsk _ _ ⟨ap,cp1,as_,cs1,ab,cb,ad,cd,xb,by rw[hat],r1,r2,r3,r4,r5⟩);clear hm;rintro _ I5 _ _ ⟨_,rfl,⟨ap2,cp2,as2,cs2,ab2,cb2,ad2,cd2,xb2,rfl,q1,q2,q3,q4,q5⟩,rfl⟩ hle hm;have hleI5:=hle;try simp only[F7]at hm|refine A2V ?_ hR|refine A0g ?_ hR|refine A2K (d:=122) ?_ hm;clear hm;intro a122 cp122 _ _ hm;replace hm:=hR.back hm;clear hR;try simp only[F7]at hm|refine A0j (d:=17) ?_ hm;clear hm;intro b17 _ hm|refine H8 ?_ hm|refine A0H ?_ hm|refine A0N ?_ hm|refine O4 ?_ hm;clear hm;intro _ hm;try simp only[F7]at hm|refine J6 hm (k:=?_);clear hm;intro _ hm;try simp only[F7]at hm|refine D8 ?_|refine D5 ?_|refine O0 ?_|refine Q5 ?_|refine G8 ?_|refine Y7 ?_|refine A1r ?_|refine Q4 ?_|refine C9 ?_|refine D9 ?_|refine A7 ?_|refine D7 ?_|refine E8 ?_|refine A8 ?_|refine F5 ?_|refine F9 ?_|refine L6 ?_|refine U4 ?_;intro _ hkq;replace hm:=hm.kept0 hkq;clear hkq|refine F8 ?_|(refine D6 (ht:=fun _=>?_) (hf:=fun _=>?_)<;>try first|contradiction|omega)|refine P5 ?_|refine A0d ?_|refine A2p ?_|refine B2l ?_|refine S9 ?_|refine A08 ?_)
   all_goals try first|omega|contradiction
   refine N7 (⟨k+1,I5,_,_,_⟩:AgX) (by exact⟨rfl,rfl,rfl,rfl,rfl,rfl,rfl,rfl,trivial⟩) ⟨(hm.front 1 rfl).tl,(hle3.trans hleI4).trans hleI5,?_,by dsimp only;omega,by dsimp only;omega⟩ (by dsimp only;omega)
   dsimp only
   rw[hsn];exact(hits.le (hleI4.trans hleI5)).snoc ⟨ap2,cp2,as2,cs2,ab2,cb2,ad2,cd2,xb2,rfl,q1,q2,q3,q4,q5⟩
 ·obtain rfl:k=n:=by omega
  obtain⟨he,hi⟩:=hok hk30;subst he;subst hi;have hln:(A4G s cz).length=k:=by rw[hits0];simp
  repeat' (first|refine A7f hm (by rfl) (by rfl) (by rfl) (by rfl) (by first|exact gt0|exact gt1|exact gt2|exact gt3|exact gt4|exact gt5|exact gt6) (by rfl) ?_|refine O1 ?_ hm|refine O4 ?_ hm;clear hm;intro _ hm;try simp only[F7]at hm|refine D8 ?_|refine D5 ?_|refine O0 ?_|refine D9 ?_|refine A7 ?_|refine G7 ?_|refine G5 ?_|refine E8 ?_|refine A8 ?_|refine O7 ?_|refine H7 ?_|(refine D6 (ht:=fun _=>?_) (hf:=fun _=>?_)<;>try first|contradiction|omega))
  all_goals try omega
  obtain⟨I4,hle4,hm4,hrow4⟩:=(hm.front 0 rfl).freeze;refine⟨I4,[],⟨a,cp,xs,?_,?_,by rw[hits0];exact hits.le hle4,rfl⟩,hm4.left (H:= [])⟩
  ·rw[hln];rfl
  ·rw[hln];exact hrow4
theorem B6o (s:List UInt8) (I:U0) (hC:A3b I) (hs:s.length<=9223372036854775807):CalM prog 16 #[str s] I [] (B7V (A1d s) (P8 s)):=by
 refine CalM.of fun w E hm=>enter (N:=16) func16 rfl [(0,str s)] A0v rfl ?_
 repeat' (first|refine F6 ?_ hm (hc:=B6m s I hC hs);clear hm;rintro _ I2 _ _ ⟨a,cp,xs,rfl,hrow,hits,rfl⟩ hle hm;have hleI2:=hle;try simp only[F7]at hm|refine V6 (d:=2) ?_ hm;clear hm;intro b2 _ hm|refine A0j (d:=4) ?_ hm;clear hm;intro b4 _ hm|refine O1 ?_ hm|refine O4 ?_ hm;clear hm;intro _ hm;try simp only[F7]at hm|refine A0k ?_ hm|refine D8 ?_|refine D5 ?_|refine A1r ?_|refine X4 ?_|refine D9 ?_|refine A7 ?_|refine E8 ?_|refine A8 ?_|refine H7 ?_)
 exact⟨I2,[],⟨a,cp,xs,rfl,hrow,hits,rfl⟩,hm.left (H:= [])⟩
abbrev A6g (l:Sp.Lc):List Value:= [str l.name,nt l.at_]
abbrev B55 (sc:List Sp.Lc) (sa:Option Addr) (sp:Nat):HItem:=.row (.slice sa sc.length sp) 219 2 sc.length (sc.flatMap A6g)
abbrev B75 (bf:Nat) (pi:Value) (sc:List Sp.Lc) (sa:Option Addr) (sp:Nat) (s:Sp.FW) (da:Option Addr) (dp:Nat) (vf:Value) (at_:Int):List Value:=
 [ptr bf,pi,.slice sa sc.length sp,.slice da s.ds.length dp,vf,.int .i64 at_,.bool s.hv.isSome,nt (s.hv.getD 0)]
abbrev B8Y (bc bf:Nat) (pi:Value) (sc:List Sp.Lc) (sa:Option Addr) (sp:Nat) (s:Sp.FW) (da:Option Addr) (dp:Nat) (vf:Value) (at_:Int):HItem:=
 .obj bc (.cells (B75 bf pi sc sa sp s da dp vf at_).toArray 190 (0,0))
abbrev FSt (bc bf:Nat) (pi:Value) (sc:List Sp.Lc) (sa:Option Addr) (sp:Nat) (s:Sp.FW) (da:Option Addr) (dp:Nat) (vf:Value) (at_:Int):List HItem:=
 [B8Y bc bf pi sc sa sp s da dp vf at_,B55 sc sa sp,A26 s.ds da dp]
abbrev ToF (bc bf:Nat) (pi:Value) (vf:Value) (at_:Int) (sc:List Sp.Lc) (s:Sp.FW) (val:Value):Value->U0->List HItem->Prop:=
 fun v _ H'=>v=val/\∃sa sp da dp,H'=FSt bc bf pi sc sa sp s da dp vf at_
structure FRd (J:U0) (bc bf:Nat) (pi:Value) (sc:List Sp.Lc) (sa:Option Addr) (sp:Nat) (v3 v4 v5 v6 v7:Value):Prop where
 ptr:PtrI J bc 0 190 [ptr bf,pi,.slice sa sc.length sp,v3,v4,v5,v6,v7]
 row:RowI J 219 2 (.slice sa sc.length sp) sc.length (sc.flatMap A6g)
theorem FRd.le {I J:U0} (m:Le I J) {bc bf:Nat}{pi:Value}{sc:List Sp.Lc}{sa:Option Addr}{sp:Nat}{v3 v4 v5 v6 v7:Value} (h:FRd I bc bf pi sc sa sp v3 v4 v5 v6 v7):FRd J bc bf pi sc sa sp v3 v4 v5 v6 v7:=⟨h.ptr.le m,h.row.le m⟩
section
variable {I:U0}{bc bf sp dp:Nat}{pi vf:Value}{sc:List Sp.Lc}{sa da:Option Addr}{s:Sp.FW}{at_:Int}
theorem CalR.flow {f:FuncId}{args:Array Value}{v:Value} (h:∀J,Le I J->FRd J bc bf pi sc sa sp (.slice da s.ds.length dp) vf (.int .i64 at_) (.bool s.hv.isSome) (nt (s.hv.getD 0))->CalR prog f args J [] v):
  CalR prog f args I (FSt bc bf pi sc sa sp s da dp vf at_) v:=
 CalR.of fun w J hm hl hH hJ=>by
  have h1:=A5n (hH (B8Y bc bf pi sc sa sp s da dp vf at_) (by simp));have h2:=A9N (hH (B55 sc sa sp) (by simp));rw[<-hJ]at h1 h2;exact(h J hl ⟨h1,h2⟩).run w hm.inv (fun _ h=>by cases h)
theorem B2T {J:U0}{v3 v4 v5 v6 v7:Value} (n:List UInt8) (hs:sc.length<=1099511627776) (h:FRd J bc bf pi sc sa sp v3 v4 v5 v6 v7):CalR prog 176 #[ptr bc,str n] J [] (nt (A6s sc n)):=by
 refine CalR.of fun w K hm hl _ _=>enter (N:=34) func176 rfl [(0,ptr bc),(1,str n)] A1P rfl ?_
 obtain⟨hp,hr⟩:=h.le hl;repeat' (first|refine J4 ?_ hm|refine D8 ?_|refine D5 ?_|refine G8 ?_|refine E5 ?_|refine A5h ?_|refine C9 ?_|refine D9 ?_|refine A7 ?_|refine E8 ?_|refine A8 ?_|refine F5 ?_)
 refine X7 (fun k:Nat=> [(0,ptr bc),(1,str n),(5,.int .i64 ((k:Int)-1))]) (fun k w'=>Mem ⟨w,[],K⟩ K [] w'/\k<=sc.length/\A1e sc n=A1e (sc.take k) n) (fun k=>k) sc.length (by exact⟨rfl,rfl,rfl,trivial⟩) ⟨hm,H6 _,by rw[A0b]⟩ ?_
 clear hm;rintro k w1 ⟨hm,hk,hf⟩;try dsimp only at hm hk hf |-
 by_cases h0:0<k
 ·have hg:sc[k-1]?=some sc[k-1]:=G9 (by omega)
  have hcut:=B2X n hg;rw[show k-1+1=k by omega]at hcut;generalize sc[k-1]=x at hg hcut;rw[hcut]at hf;have hi:sc[((k:Int)-1).toNat]?=some x:=by rw[show ((k:Int)-1).toNat=k-1 by omega];exact hg
  by_cases hx:x.name=n
  ·rw[if_pos hx]at hf
   repeat' (first|refine A0i (d:=21) (enc:=A6g) (z:=x) ?_ (hr:=hr) (he:=fun _=>rfl) (hz:=hi);intro b1 o1 p1|refine A0i (d:=31) (enc:=A6g) (z:=x) ?_ (hr:=hr) (he:=fun _=>rfl) (hz:=hi);intro b2 o2 p2|refine J4 ?_ hm|refine D8 ?_|refine D5 ?_|refine A1J ?_|refine A0c ?_|refine E5 ?_|refine C9 ?_|refine D9 ?_|refine A7 ?_|refine H5 ?_|refine L8 ?_|refine E8 ?_|refine A8 ?_|refine F5 ?_|refine F9 ?_|refine H7 ?_|refine H9 ?_|(refine D6 (ht:=fun _=>?_) (hf:=fun _=>?_)<;>try first|contradiction|omega))
   all_goals try first|omega|contradiction
   exact⟨by rw[A6s,hf],hm.kept⟩
  ·rw[if_neg hx]at hf
   repeat' (first|refine A0i (d:=21) (enc:=A6g) (z:=x) ?_ (hr:=hr) (he:=fun _=>rfl) (hz:=hi);intro b1 o1 p1|refine J4 ?_ hm|refine D8 ?_|refine D5 ?_|refine A1J ?_|refine A0c ?_|refine E5 ?_|refine A5h ?_|refine C9 ?_|refine D9 ?_|refine A7 ?_|refine D7 ?_|refine E8 ?_|refine A8 ?_|refine F5 ?_|refine F9 ?_|(refine D6 (ht:=fun _=>?_) (hf:=fun _=>?_)<;>try first|contradiction|omega))
   all_goals try first|omega|contradiction
   refine N7 (k-1:Nat) (by exact⟨rfl,rfl,by rw[show (((k-1:Nat):Int)-1)=(k:Int)-1-1 by omega];rfl,trivial⟩) ⟨hm,by omega,hf⟩ (by omega)
 ·obtain rfl:k=0:=by omega
  repeat' (first|refine D8 ?_|refine D5 ?_|refine A1J ?_|refine D9 ?_|refine A7 ?_|refine G7 ?_|refine G5 ?_|refine E8 ?_|refine A8 ?_|refine O7 ?_|refine H7 ?_|refine H9 ?_|refine E9 ?_)
  all_goals try omega
  exact⟨by rw[A6s,hf];rfl,hm.kept⟩
theorem B5s (bc bf:Nat) (pi:Value) (sc:List Sp.Lc) (sa:Option Addr) (sp:Nat) (s:Sp.FW) (f t:Nat) (n:List UInt8) (da:Option Addr) (dp:Nat) (vf:Value) (at_:Int):
  [.obj bc (.cells [ptr bf,pi,.slice sa sc.length sp,.slice da (s.ds.length+1) dp,vf,.int .i64 at_,.bool s.hv.isSome,nt (s.hv.getD 0)].toArray 190 (0,0)),B55 sc sa sp,.row (.slice da (s.ds.length+1) dp) 92 4 (s.ds.length+1) (s.ds.flatMap A32++A32 ⟨f,t,9,n⟩)]=FSt bc bf pi sc sa sp (s.tell f t n) da dp vf at_:=by
 simp[Sp.FW.tell,A0F]
theorem B2U (n:List UInt8) (f t:Nat) (hd:s.ds.length<1099511627776):
  CalM prog 192 #[ptr bc,nt f,nt t,str n] I (FSt bc bf pi sc sa sp s da dp vf at_) (ToF bc bf pi vf at_ sc (s.tell f t n) (.tuple #[])):=by
 refine CalM.of fun w E hm=>enter (N:=21) func192 rfl [(0,ptr bc),(1,nt f),(2,nt t),(3,str n)] A9C rfl ?_
 repeat' (first|refine A3A (d:=18) ?_ hm;clear hm;intro a18 cp18 _ _ hm;try simp only[F7]at hm|refine H8 ?_ hm|refine J6 hm (k:=?_);clear hm;intro _ hm;try simp only[F7]at hm|refine D8 ?_|refine E5 ?_|refine C9 ?_|refine X4 ?_|refine D9 ?_|refine A8 ?_|refine A0f ?_)
 exact⟨I,_,⟨rfl,_,_,_,_,B5s _ _ _ _ _ _ s f t n _ _ _ _⟩,hm⟩
theorem B9j (x:Sp.Stm) (b o tc:Nat) (cs:List Value) (hp:PtrI I b o tc cs) (hx:A4g I x cs) (a c:Nat) (ha:a<256) (hc:c<256) (hd:s.ds.length<1099511627776):
  CalM prog 175 #[ptr bc,.pointer (some ⟨b,o,none⟩),nt a,nt c] I (FSt bc bf pi sc sa sp s da dp vf at_) (ToF bc bf pi vf at_ sc (s.ask a c x.fr x.to x.name) (.tuple #[])):=by
 refine CalM.of fun w E hm=>enter (N:=26) func175 rfl [(0,ptr bc),(1,.pointer (some ⟨b,o,none⟩)),(2,nt a),(3,nt c)] A9C rfl ?_
 obtain⟨ea,ec,ex,a1,c1,xs1,a2,c2,xs2,rfl,_⟩:=hx.out;have hF:=fun w=>B0l a c ha hc w
 rw[Sp.FW.ask];cases hb:A3f a c with
 |true=>
  rw[hb]at hF;repeat' (first|refine X6 (d:=10) (hc:=by exact hF _) (k:=?_);rintro _ _ ⟨rfl,rfl⟩|refine D8 ?_|refine Y7 ?_|refine D9 ?_|refine A7 ?_|refine E8 ?_|refine A8 ?_|refine F9 ?_|refine A0f ?_|refine E9 ?_)
  all_goals try first|omega|contradiction
  exact⟨I,_,⟨rfl,_,_,_,_,rfl⟩,hm⟩
 |false=>
  rw[hb]at hF;have hT:=fun J=>B2U (I:=J) (bc:=bc) (bf:=bf) (pi:=pi) (sc:=sc) (sa:=sa) (sp:=sp) (s:=s) (da:=da) (dp:=dp) (vf:=vf) (at_:=at_) x.name x.fr x.to hd
  repeat' (first|refine X6 (d:=10) (hc:=by exact hF _) (k:=?_);rintro _ _ ⟨rfl,rfl⟩|refine Q9 (id:=1) 13 (h:=?_)|refine F6 (d:=25) ?_ hm (hc:=hT _);clear hm;rintro _ I2 _ _ ⟨rfl,sa2,sp2,da2,dp2,rfl⟩ hle hm;have hleI2:=hle;try simp only[F7]at hm|refine U1 ?_ hm|refine D8 ?_|refine Y7 ?_|refine D9 ?_|refine A7 ?_|refine E8 ?_|refine A8 ?_|refine A0f ?_|refine L9 ?_;intro _ hkq;replace hm:=hm.kept0 hkq;clear hkq|refine F8 ?_|refine P5 ?_|refine J5 ?_|refine G6 ?_)
  all_goals try first|omega|contradiction
  exact⟨I2,_,⟨rfl,_,_,_,_,rfl⟩,hm⟩
end
structure FC (I:U0) (its:List Sp.Itm) (it:Sp.Itm) (bf:Nat) (a:Option Addr) (cp:Nat) (xs:List Value) (pi vf:Value):Prop where
 file:PtrI I bf 0 25 [.slice a its.length cp]
 fe:FE I its a cp xs
 item:∃bi oi tc ci,pi=.pointer (some ⟨bi,oi,none⟩)/\PtrI I bi oi tc ci/\A5a I it ci
 floors:∃fa fp,vf=.slice fa its.length fp/\RowI I 3 1 (.slice fa its.length fp) its.length ((A3z its).flatMap A2N)
 lab:A2o its
 own:it.label<256
theorem FC.le {I J:U0} (m:Le I J) {its:List Sp.Itm}{it:Sp.Itm}{bf:Nat}{a:Option Addr}{cp:Nat}{xs:List Value}{pi vf:Value} (h:FC I its it bf a cp xs pi vf):FC J its it bf a cp xs pi vf:=by
 obtain⟨h1,h2,⟨bi,oi,tc,ci,e,h3,h4⟩,⟨fa,fp,e2,h5⟩,h6,h7⟩:=h;exact⟨h1.le m,h2.le m,⟨bi,oi,tc,ci,e,h3.le m,h4.le m⟩,⟨fa,fp,e2,h5.le m⟩,h6,h7⟩
end Go.Proofs
