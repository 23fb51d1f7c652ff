/- Own work. -/
import Derived.Test.YtbmbnippbldmfaaGreatDoorRa17
set_option maxHeartbeats 64000000
namespace Go.Fw
open Go.Sp
open Go
section
variable {P:Program}{N:Nat}{ds:List Deferred}{Q:Exit->Act->World->Prop}{l:Log}{w:World}{ops:Array Oper}{os:List Oper}
variable {d:Nat}{ty:TypeId}{pos:String}{af:Array Edge}{g:Option (Nat×Bool)}{t t':TypeId}{x y:Operand}{E:Ent}{I:P8}{H:List HItem}
def C5s (es:A8H) (s:List UInt8):Bool:=(es.find? (fun p=>decide (p.1=s))).isSome
theorem B6h (es:A8H) (s:List UInt8):(es.findIdx? (fun p=>decide (p.1=s))).isSome=C5s es s:=by
 rw[C5s];induction es with
 |nil=>rfl
 |cons p es ih=>
  rw[A6J,A4a];cases hd:decide (p.1=s) with
  |true=>simp
  |false=>simp[ih]
theorem B5h {kt et:TypeId} [TyMap P t kt et] [TyStr P kt] {i b:Nat}{es:A8H}{s:List UInt8}{zv:Value} (hm:Mem E I H w) (hw:X9 ops l ⟨some d,.lookup t x y true,ty,pos,af,g⟩=some true) (hN:Nat.blt d N=true)
  (hx:ev l x=some (.map (some b))) (hy:ev l y=some (str s)) (hi:H[i]?=some (.mp b es)) (_hn:(es.map (·.1)).Nodup) (hz:∀w,(zeroValue et).run P w=.ok zv w)
  (k:WL P N ds ops Q os ((d,.tuple #[B9F es s zv,.bool (C5s es s)])::l) w):
  WL P N ds ops Q (⟨some d,.lookup t x y true,ty,pos,af,g⟩::os) l w:=
 X6 rfl hw hN (fun a ha=>by
  have h1:=run_underlying (P:=P) (w:=w) (TyMap.out (P:=P) (t:=t));have hk:=TyStr.out (P:=P) (t:=kt);have h2:=B2g (P:=P) (w:=w) hk s es 0;have h3:=fun b=>B06 (P:=P) (w:=w) hk s b
  have h4:=MapKept.run_getObj_map (P:=P) (hm.get hi);have h5:=D0M es s;have h6:=B6h es s;rw[B9F, <-h5, <-h6];cases hf:es.findIdx? (fun p=>decide (p.1=s)) with
  |none=>
   rw[hf]at h2;simp[execOp,Instr.lookup,ha.ev hx,ha.ev hy,h1,h4,h3,h2,hz]
  |some i=>
   rw[hf]at h2;have hi:i<es.length:=by
    have:=A3k.1 hf;exact this.1
   have hg:es[i]?=some es[i]:=F9 hi;simp only[A2i,hg,A1g]at h2;simp[execOp,Instr.lookup,ha.ev hx,ha.ev hy,h1,h4,h3,h2,hg]) k
theorem A7G {fn:Func}{i tr u u2 n b:Nat}{tc:TypeId} [TyAgg P tc n] {c:List Value}{e:TypeId}{fr:Nat×Nat}{xv xv2:Value}{Post:Value->World->Prop} (hm:Mem E I H w) (hr:fn.results= #[.cell tr tc,.tmp u,.tmp u2])
  (hx:lk l tr=some (.pointer (some ⟨b,0,none⟩))) (hu:lk l u=some xv) (hu2:lk l u2=some xv2) (hb:H[i]?=some (.obj b (.cells c.toArray e fr))) (hl:c.length=n)
  (h:Post (.tuple #[.agg c.toArray,xv,xv2]) w):At N [] (bodyPost P fn (Ret Post)) .ret l w:=
 ⟨fun a ha=>⟨ha.defs,_,by
  have hv:=A8c (P:=P) (t:=tc) (off:=0) (vs:=c) (hm.get hb) hl (fun j v hv=>by simpa using hv);simp[results,hr,ha.vals tr _ hx,ha.vals u _ hu,ha.vals u2 _ hu2,asAddr,hv],h⟩⟩
end
end Go.Fw
namespace Go.Proofs
open Go.Proofs.Tryz
open Go.Sp
open Go.Fw
structure QBl where
 f:Nat
 l:List Sp.Stm
 n:Nat
 s:Sp.St
 I:P8
 a:Option Addr
 cp:Nat
 xs:List Value
 da:Option Addr
 dc:Nat
theorem D6F {E:Ent}{N b1 cp lc deep dc pb:Nat}{I:P8}{T:Sp.Src}{la da a:Option Addr}{xs:List Value}{R:List HItem}{l:Log}{w:World}{b:List Sp.Stm}{s':Sp.St} (hdp:deep<=12) (hx:lk l 2=some (.slice a b.length cp))
  (hm:Mem E I (.cell b1 [ptr pb] 201::A8j pb la lc T s' (deep+1) da dc::A6b s'.ds da dc::R) w)
  (hrow:RowI I 111 15 (.slice a b.length cp) b.length xs) (hsts:V4 I b xs):
  At N [⟨.fn (.func 171) #[ptr b1], #[]⟩] (bodyPostD prog Tryz.f136 (Ret (fun v w'=> ∃I' H',D7H pb la lc T deep (b,s') v I' H'/\Mem E I' H' w'))) .ret l w:=
 C11 rfl hx (D6E hdp hm) (fun _w' hm'=>⟨I,_,⟨⟨a,cp,xs,rfl,hrow,hsts⟩,da,dc,rfl⟩,hm'.tl.left (H:= [_,_])⟩)
theorem C06 (T:Sp.Src) (pb:Nat) (hT:Ok T) (n:Nat) (ih:∀g,g<n->D51 T pb g):B3m T pb n:=by
 intro I la lc deep da dc s hC hr hi hf hd hdp;obtain⟨f,rfl⟩:∃f,n=f+1:=⟨n-1,by omega⟩;have h2:=hT.size;have h3:=hT.len;have hn:=fun da dc=>A4s (pb:=pb) (deep:=deep) (da:=da) (dc:=dc) s [123] (by simp) hr hT (by omega) hi
 rw[Sp.St.need]at hn;rw[Sp.block];refine CalM.of fun w E hm=>A36 (N:=68) func136 rfl [(0,ptr pb)] A0Z rfl ?_
 by_cases hq:T.is s.i [123]=true
 case neg=>
  rw[if_neg hq]at hn;rw[show T.is s.i [123]=false by simpa using hq,if_pos (by rfl)];repeat' (first|refine F8 ?_ hm (hc:=hn _ _);clear hm;rintro _ _ _ _ ⟨rfl,rfl,da',dc',rfl⟩ hle hm;try simp only[G5]at hm|refine B32 ?_|refine A0T (d:=1) ?_ hm;clear hm;intro b1 _ hm|refine J6 ?_ hm|refine D6 ?_|refine A0h ?_|refine E5 ?_|refine A7 ?_|refine H8 ?_|refine E8 ?_|refine A8 ?_|refine J3 ?_|refine H5 ?_)
  exact⟨I,_,⟨⟨none,0,[],rfl,A3w _,.nil⟩,da',dc',rfl⟩,hm.left (H:= [_,_])⟩
 rw[if_pos hq]at hn;rw[hq,if_neg (by simp)];have hlt:=A22 hq;have hni:s.next.i=s.i+1:=rfl;have hnd:s.next.ds.length=s.ds.length:=rfl;by_cases hdeep:12<=deep
 ·rw[if_pos hdeep]
  have hd12:deep=12:=by omega
  repeat' (first|refine F8 ?_ hm (hc:=hn _ _);clear hm;rintro _ _ _ _ ⟨rfl,rfl,da',dc',rfl⟩ hle hm;try simp only[G5]at hm|refine F8 ?_ hm (hc:=A6i s.next 12 hr hT (by omega) (by omega));clear hm;rintro _ _ _ _ ⟨rfl,rfl,da2,dc2,rfl⟩ hle hm;try simp only[G5]at hm|refine B32 ?_|refine A0T (d:=1) ?_ hm;clear hm;intro b1 _ hm|refine J6 ?_ hm|refine D6 ?_|refine O6 ?_|refine A0h ?_|refine F5 ?_|refine D5 ?_|refine E5 ?_|refine A7 ?_|refine H8 ?_|refine E8 ?_|refine A8 ?_|refine G7 ?_|refine J3 ?_|refine F7 ?_|(refine C9 (ht:=fun _=>?_) (hf:=fun _=>?_)<;>try first|contradiction|omega))
  exact⟨I,_,⟨⟨none,0,[],rfl,A3w _,.nil⟩,da2,dc2,rfl⟩,hm.left (H:= [_,_])⟩
 rw[if_neg hdeep];dsimp only
 have hg:=(A3j T f).2.1 (deep+1) [] s.next;have hg1:=hg.le;have hg2:=hg.top (by omega);have hg3:=hg.ds;obtain⟨R,hR⟩:∃R,R=A5U T f (deep+1) [] s.next:=⟨_,rfl⟩;rw[<-hR]at hg hg1 hg2 hg3 |-;repeat' (first|refine B4O 0 (fun x:QBl=> [(1,ptr b1),(3,.slice x.a x.n x.cp)]) (fun x w'=>Mem E x.I [A8j pb la lc T R.2 (deep+1) x.da x.dc,A6b R.2.ds x.da x.dc,B8k x.n x.a x.cp x.xs,.cell b1 [ptr pb] 201] w'/\Le I x.I/\V4 x.I R.1 x.xs/\R.1.length=x.n) ?_ ?_|refine F8 ?_ hm (hc:=hn _ _);clear hm;rintro _ _ _ _ ⟨rfl,rfl,da',dc',rfl⟩ hle hm;try simp only[G5]at hm|refine A0T (d:=1) ?_ hm;clear hm;intro b1 _ hm|refine J6 ?_ hm|refine P5 hm (k:=?_);clear hm;intro _ hm;try simp only[G5]at hm|refine D6 ?_|refine O6 ?_|refine A0h ?_|refine F5 ?_|refine A2v ?_|refine O9 ?_|refine D5 ?_|refine E5 ?_|refine A7 ?_|refine E8 ?_|refine A8 ?_|refine G7 ?_|refine A81 ?_|refine F7 ?_|(refine C9 (ht:=fun _=>?_) (hf:=fun _=>?_)<;>try first|contradiction|omega))
 ·have hm2:=hm.nil 111 15
  clear hm;refine U3 (fun x:QBl=> [(1,ptr b1),(3,.slice x.a x.n x.cp)])
   (fun x w'=>Mem E x.I [A8j pb la lc T x.s (deep+1) x.da x.dc,A6b x.s.ds x.da x.dc,B8k x.n x.a x.cp x.xs,.cell b1 [ptr pb] 201] w'/\
    Le I x.I/\V4 x.I x.l x.xs/\x.l.length=x.n/\x.n<=40/\x.f<=f/\x.s.i<=T.l.length/\x.s.ds.length+8 *(T.l.length-x.s.i)<=s.ds.length+8 *(T.l.length-s.i)/\
    A5U T x.f (deep+1) x.l x.s=R/\5 *(T.l.length-x.s.i)+6<=x.f)
   (fun x=>T.l.length-x.s.i) ⟨f,[],0,s.next,I,none,0,[],da',dc'⟩ (by exact⟨rfl,rfl,trivial⟩)
   ⟨hm2.perm pm2_1,Le.refl _,.nil,rfl,by dsimp only;omega,H7 _,by dsimp only;omega,by dsimp only;omega,hR.symm,by dsimp only;omega⟩ ?_
  clear hm2 hn;rintro⟨f1,l1,n1,s1,I1,a1,cp1,xs1,da1,dc1⟩ w2 ⟨hm,hle0,hsts,hn1,hn40,hff,hi1,hd1,hL,hf1⟩;dsimp only at hm hle0 hsts hn1 hn40 hff hi1 hd1 hL hf1 |-;have hr1:=hr.le hle0;have hC1:=hC.le hle0;obtain⟨f1,rfl⟩:∃f',f1=f'+1:=⟨f1-1,by omega⟩;rw[A5U]at hL;have hpk:=A33 (pb:=pb) (deep:=deep+1) (da:=da1) (dc:=dc1) s1 hr1;by_cases hend:T.l.length<=s1.i\/T.is s1.i [125]=true
  ·rw[if_pos hend]at hL
   subst hL;by_cases hl1:T.l.length<=s1.i
   ·skip
    repeat' (first|refine V3 ?_ hm|refine A7 ?_|refine H6 ?_|refine G9 ?_|refine E8 ?_|refine O8 ?_|refine U6 ?_|refine A0s ?_;intro _ hkq;replace hm:=hm.kept0 hkq;clear hkq|refine F7 ?_|refine Y4 ?_|refine A0A ?_|refine A18 ?_|refine S9 ?_|refine Q9 ?_|refine L8 ?_|refine A2z ?_|(refine X3 (fun _=>?_) (h1:=fun _=>?_)<;>try first|contradiction|omega))
    exact A0V (⟨0,[],n1,s1,I1,a1,cp1,xs1,da1,dc1⟩:QBl) (by exact⟨rfl,rfl,trivial⟩) ⟨hm,hle0,hsts,hn1⟩
   ·rw[C0F (hend.resolve_left hl1)]at hpk
    repeat' (first|refine A0P ?_ hm (hc:=hpk)|refine V3 ?_ hm|refine A7 ?_|refine H6 ?_|refine G9 ?_|refine E8 ?_|refine O8 ?_|refine U6 ?_|refine A0s ?_;intro _ hkq;replace hm:=hm.kept0 hkq;clear hkq|refine F7 ?_|refine Y4 ?_|refine A0d ?_|refine A18 ?_|refine A0Q ?_|refine S9 ?_|refine Q9 ?_|refine L8 ?_|(refine X3 (fun _=>?_) (h1:=fun _=>?_)<;>try first|contradiction|omega))
    exact A0V (⟨0,[],n1,s1,I1,a1,cp1,xs1,da1,dc1⟩:QBl) (by exact⟨rfl,rfl,trivial⟩) ⟨hm,hle0,hsts,hn1⟩
  rw[if_neg hend]at hL;have hlt1:s1.i<T.l.length:=by omega
  have htt:(T.tok s1.i).text≠ [125]:=fun e=>hend (.inr (B3d e (by simp)))
  by_cases h40:40<=l1.length
  ·rw[if_pos h40]at hL
   subst hL;repeat' (first|refine A0P ?_ hm (hc:=hpk)|refine F8 ?_ hm (hc:=A6i s1 5 hr1 hT hi1 (by omega));clear hm;rintro _ _ _ _ ⟨rfl,rfl,da2,dc2,rfl⟩ hle hm;try simp only[G5]at hm|refine J6 ?_ hm|refine V3 ?_ hm|refine D8 ?_|refine O6 ?_|refine G6 ?_|refine E5 ?_|refine A7 ?_|refine H6 ?_|refine G9 ?_|refine Z5 ?_|refine E8 ?_|refine A8 ?_|refine F6 ?_|refine G7 ?_|refine O8 ?_|refine U6 ?_|refine A0s ?_;intro _ hkq;replace hm:=hm.kept0 hkq;clear hkq|(refine C9 (ht:=fun _=>?_) (hf:=fun _=>?_)<;>try first|contradiction|omega)|refine Y4 ?_|refine A0d ?_|refine A18 ?_|refine A0Q ?_|refine S9 ?_|refine Q9 ?_|refine L8 ?_|(refine X3 (fun _=>?_) (h1:=fun _=>?_)<;>try first|contradiction|omega))
   exact A0V (⟨0,[],n1,s1,I1,a1,cp1,xs1,da2,dc2⟩:QBl) (by exact⟨rfl,rfl,trivial⟩) ⟨hm,hle0,hsts,hn1⟩
  rw[if_neg h40]at hL;dsimp only at hL;have hst:=fun da dc=>ih f1 (by omega) I1 la lc (deep+1) da dc s1 hC1 hr1 hi1 (by omega) (by omega) (by omega)
  have hgr:=(A3j T f1).2.2 (deep+1) s1;generalize Sp.stm T f1 (deep+1) s1=r at hL hst hgr;have hgr1:=hgr.le;have hgr2:=hgr.top hi1;have hgr3:=hgr.ds0;have hgr4:=hgr.ds1;have hnl:(l1++ [r.1]).length=n1+1:=by simp[hn1]
  have hni:r.2.next.i=r.2.i+1:=rfl;have hnd:r.2.next.ds.length=r.2.ds.length:=rfl;repeat' (first|refine A0P ?_ hm (hc:=hpk)|refine F8 ?_ hm (hc:=hst _ _);clear hm;rintro _ I2 _ _ ⟨⟨ea,ec,ex,a3,c3,xs3,a4,c4,xs4,rfl,hrow,hexs,hrow3,hsts3,hrow4,hsts4⟩,da',dc',rfl⟩ hle hm;have hleI2:=hle;try simp only[G5]at hm|refine A2P (d:=51) ?_ hm;clear hm;intro a51 cp51 _ _ hm;try simp only[G5]at hm|refine J6 ?_ hm|refine V3 ?_ hm|refine P5 hm (k:=?_);clear hm;intro _ hm;try simp only[G5]at hm|refine D8 ?_|refine D6 ?_|refine O6 ?_|refine G6 ?_|refine F5 ?_|refine O9 ?_|refine D5 ?_|refine E5 ?_|refine A7 ?_|refine D7 ?_|refine E8 ?_|refine A8 ?_|refine F6 ?_|refine G7 ?_|refine U6 ?_|refine A0s ?_;intro _ hkq;replace hm:=hm.kept0 hkq;clear hkq|(refine C9 (ht:=fun _=>?_) (hf:=fun _=>?_)<;>try first|contradiction|omega)|refine Y4 ?_|refine A0d ?_|refine A18 ?_|refine A0Q ?_|refine S9 ?_|refine Q9 ?_|refine L8 ?_|(refine X3 (fun _=>?_) (h1:=fun _=>?_)<;>try first|contradiction|omega))
  ·rename_i hsame
   have hsame:r.2.i=s1.i:=by omega
   rw[if_pos hsame]at hL;have:=hgr3 hsame;exact L6 (⟨f1,l1++ [r.1],n1+1,r.2.next,I2,_,_,_,da',dc'⟩:QBl) (by exact⟨rfl,rfl,trivial⟩) ⟨hm,hle0.trans hleI2,(V4.le hleI2 _ _ hsts).snoc (B09 hrow hexs hrow3 hsts3 hrow4 hsts4),hnl,by dsimp only;omega,by dsimp only;omega,by dsimp only;omega,by dsimp only;omega,hL,by dsimp only;omega⟩ (by dsimp only;omega)
  ·rename_i hsame
   have hsame:¬r.2.i=s1.i:=by omega
   rw[if_neg hsame]at hL;have:=hgr4 (by omega);exact L6 (⟨f1,l1++ [r.1],n1+1,r.2,I2,_,_,_,da',dc'⟩:QBl) (by exact⟨rfl,rfl,trivial⟩) ⟨hm,hle0.trans hleI2,(V4.le hleI2 _ _ hsts).snoc (B09 hrow hexs hrow3 hsts3 hrow4 hsts4),hnl,by dsimp only;omega,by dsimp only;omega,hgr2,by dsimp only;omega,hL,by dsimp only;omega⟩ (by dsimp only;omega)
 ·clear hm hn
  rintro⟨_,_,n1,_,I1,a1,cp1,xs1,da1,dc1⟩ w2 ⟨hm,hle0,hsts,hn1⟩;dsimp only at hm hle0 hsts hn1 |-;have hr1:=hr.le hle0;subst hn1;repeat' (first|refine F8 ?_ hm (hc:=A4s R.2 [125] (by simp) hr1 hT (by omega) hg2);clear hm;rintro _ _ _ _ ⟨rfl,rfl,da2,dc2,rfl⟩ hle hm;try simp only[G5]at hm|refine J6 ?_ hm|refine D8 ?_|refine D6 ?_|refine E5 ?_|refine A7 ?_|refine E8 ?_|refine A8 ?_|refine J3 ?_)
  obtain⟨I3,hle3,hm3,hrow3⟩:=(hm.front 2 rfl).freeze;exact D6F (b:=R.1) (s':=(R.2.need T [125]).2) (by omega) rfl (hm3.front 2 rfl) hrow3 (V4.le hle3 _ _ hsts)
theorem C5Q (T:Sp.Src) (pb:Nat) (hT:Ok T) (n:Nat) (ih:∀g,g<n->B3m T pb g):D51 T pb n:=by
 intro I la lc deep da dc s hC hr hi hf hd hdp;obtain⟨f,rfl⟩:∃f,n=f+1:=⟨n-1,by omega⟩;have ihb:∀g,g<=f->B3m T pb g:=fun g hg=>ih g (by omega)
 by_cases h1:(T.tok s.i).text= [108,101,116]
 ·cases h6:T.is (s.next.named T).2.i [58]with
  |true=>exact D4B hT hC hr hi hf hd hdp h1 h6
  |false=>exact D4A hT hC hr hi hf hd hdp h1 h6
 by_cases h2:(T.tok s.i).text= [105,102]
 ·cases h6:T.is (Sp.block T f deep (A1b T f deep 1 s.next).2).2.i [101,108,115,101]with
  |true=>exact D6O hT hC hr hi hf hd hdp ihb h2 h6
  |false=>exact D6N hT hC hr hi hf hd hdp ihb h2 h6
 by_cases h3:(T.tok s.i).text= [119,104,105,108,101]
 ·exact D15 hT hC hr hi hf hd hdp ihb h3
 by_cases h4:(T.tok s.i).text= [115,101,110,100]
 ·exact D4C hT hC hr hi hf hd hdp h4
 by_cases h5:(T.tok s.i).text= [114,101,116,117,114,110]
 ·exact D4z hT hC hr hi hf hd hdp h5
 cases h6:Sp.name (T.tok s.i).text with
 |false=>exact D6M hT hC hr hi hf hd hdp h1 h2 h3 h4 h5 h6
 |true=>
  cases h7:T.is (s.i+1) [61]with
  |true=>exact D6P hT hC hr hi hf hd hdp h1 h2 h3 h4 h5 h6 h7
  |false=>exact D8f hT hC hr hi hf hd hdp h1 h2 h3 h4 h5 h6 h7
theorem B7Y (T:Sp.Src) (pb:Nat) (hT:Ok T) (n:Nat):D51 T pb n/\B3m T pb n:=by
 induction n using Nat.strongRecOn with
 |_ n ih=>exact⟨C5Q T pb hT n (fun g hg=>(ih g hg).2),C06 T pb hT n (fun g hg=>(ih g hg).1)⟩
structure QPar where
 f:Nat
 l:List Sp.Par
 n:Nat
 s:Sp.St
 a:Option Addr
 cp:Nat
 da:Option Addr
 dc:Nat
structure QSnd where
 f:Nat
 l:List Sp.Rf
 n:Nat
 s:Sp.St
 a:Option Addr
 cp:Nat
 da:Option Addr
 dc:Nat
def C08 (T:Sp.Src) (s:Sp.St):List Sp.Par×Sp.St:=((A52 T 6 [] (s.need T [40]).2).1,((A52 T 6 [] (s.need T [40]).2).2.need T [41]).2)
abbrev D8w (pb:Nat) (la:Option Addr) (lc:Nat) (T:Sp.Src) (deep:Nat) (r:List Sp.Par×Sp.St):Value->P8->List HItem->Prop:=fun v I' H'=>
 r.2.i<=T.l.length/\r.2.ds.length<=2 *r.2.i+60/\(∃a c,v=.slice a r.1.length c/\RowI I' 103 3 (.slice a r.1.length c) r.1.length (r.1.flatMap A2L))/\∃da dc,H'=QSt pb la lc T r.2 deep da dc
theorem D1W (T:Sp.Src) (pb:Nat) (hT:Ok T) (I:P8) (la:Option Addr) (lc deep:Nat) (da:Option Addr) (dc:Nat) (s:Sp.St) (hr:A4H I T la lc) (hi:s.i<=T.l.length) (hd:s.ds.length<=2 *s.i+10):
  CalM prog 135 #[ptr pb] I (QSt pb la lc T s deep da dc) (D8w pb la lc T deep (C08 T s)):=by
 have h2:=hT.size;have h3:=hT.len;have hmu:=fun da dc=>A4s (pb:=pb) (deep:=deep) (da:=da) (dc:=dc) s [40] (by simp) hr hT (by omega) hi
 have hgm:=A1k T s [40];rw[C08];generalize s.need T [40]=s0 at hmu hgm |-;have he1:=hgm.le;have he2:=hgm.top hi;have he3:=hgm.ds;obtain⟨R,hR⟩:∃R,R=A52 T 6 [] s0.2:=⟨_,rfl⟩;rw[<-hR];refine CalM.of fun w E hm=>enter (N:=49) func135 rfl [(0,ptr pb)] A0Z rfl ?_
 repeat' (first|refine B4O 0 (fun x:QPar=> [(0,ptr pb),(3,.slice x.a x.n x.cp)]) (fun x w'=>x.n=R.1.length/\R.2.i<=T.l.length/\R.2.ds.length<=2 *R.2.i+50/\Mem E I [A8j pb la lc T R.2 deep x.da x.dc,A6b R.2.ds x.da x.dc,C09 R.1 x.n x.a x.cp] w') ?_ ?_|refine F8 ?_ hm (hc:=hmu _ _);clear hm;rintro _ _ _ _ ⟨rfl,rfl,da1,dc1,rfl⟩ hle hm;try simp only[G5]at hm|refine D8 ?_|refine D6 ?_|refine E5 ?_|refine A7 ?_|refine E8 ?_|refine A8 ?_)
 ·have hm2:=hm.nil 103 3
  clear hm hmu;refine U3 (fun x:QPar=> [(0,ptr pb),(3,.slice x.a x.n x.cp)])
   (fun x w'=>Mem E I [A8j pb la lc T x.s deep x.da x.dc,A6b x.s.ds x.da x.dc,C09 x.l x.n x.a x.cp] w'/\
    x.l.length=x.n/\x.n<=5/\x.f+x.n=6/\x.s.i<=T.l.length/\x.s.ds.length<=2 *x.s.i+3 *x.n+20/\A52 T x.f x.l x.s=R)
   (fun x=>x.f) ⟨6,[],0,s0.2,none,0,da1,dc1⟩ (by exact⟨rfl,rfl,trivial⟩) ⟨hm2.perm pm2_1,rfl,by dsimp only;omega,rfl,he2,by dsimp only;omega,hR.symm⟩ ?_
  clear hm2;rintro⟨f1,l1,n1,s2,a1,cp1,da3,dc3⟩ w2 ⟨hm,hl,hn5,hf,hi2,hd2,hL⟩;dsimp only at hm hl hn5 hf hi2 hd2 hL |-;obtain⟨f1,rfl⟩:∃f',f1=f'+1:=⟨f1-1,by omega⟩;rw[A52]at hL;have hpk:=A33 (pb:=pb) (deep:=deep) (da:=da3) (dc:=dc3) s2 hr;by_cases hend:T.l.length<=s2.i\/T.is s2.i [41]=true
  ·rw[if_pos hend]at hL
   subst hL;by_cases hl1:T.l.length<=s2.i
   ·skip
    repeat' (first|refine V3 ?_ hm|refine A7 ?_|refine H6 ?_|refine G9 ?_|refine E8 ?_|refine O8 ?_|refine U6 ?_|refine A0s ?_;intro _ hkq;replace hm:=hm.kept0 hkq;clear hkq|refine F7 ?_|refine Y4 ?_|refine A0A ?_|refine A18 ?_|refine S9 ?_|refine Q9 ?_|refine L8 ?_|refine A2z ?_|(refine X3 (fun _=>?_) (h1:=fun _=>?_)<;>try first|contradiction|omega))
    exact A0V (⟨0,[],n1,s2,a1,cp1,da3,dc3⟩:QPar) (by exact⟨rfl,rfl,trivial⟩) ⟨hl.symm,hi2,by dsimp only;omega,hm⟩
   ·rw[C0F (hend.resolve_left hl1)]at hpk
    repeat' (first|refine A0P ?_ hm (hc:=hpk)|refine V3 ?_ hm|refine A7 ?_|refine H6 ?_|refine G9 ?_|refine E8 ?_|refine O8 ?_|refine U6 ?_|refine A0s ?_;intro _ hkq;replace hm:=hm.kept0 hkq;clear hkq|refine F7 ?_|refine Y4 ?_|refine A0d ?_|refine A18 ?_|refine A0Q ?_|refine S9 ?_|refine Q9 ?_|refine L8 ?_|(refine X3 (fun _=>?_) (h1:=fun _=>?_)<;>try first|contradiction|omega))
    exact A0V (⟨0,[],n1,s2,a1,cp1,da3,dc3⟩:QPar) (by exact⟨rfl,rfl,trivial⟩) ⟨hl.symm,hi2,by dsimp only;omega,hm⟩
  rw[if_neg hend]at hL;have hlt1:s2.i<T.l.length:=by omega
  have htt:(T.tok s2.i).text≠ [41]:=fun e=>hend (.inr (B3d e (by simp)))
  by_cases h5:5<=l1.length
  ·rw[if_pos h5]at hL
   subst hL;repeat' (first|refine A0P ?_ hm (hc:=hpk)|refine F8 ?_ hm (hc:=A6i s2 5 hr hT hi2 (by omega));clear hm;rintro _ _ _ _ ⟨rfl,rfl,da4,dc4,rfl⟩ hle hm;try simp only[G5]at hm|refine V3 ?_ hm|refine D8 ?_|refine O6 ?_|refine G6 ?_|refine E5 ?_|refine A7 ?_|refine H6 ?_|refine G9 ?_|refine Z5 ?_|refine E8 ?_|refine A8 ?_|refine F6 ?_|refine G7 ?_|refine O8 ?_|refine U6 ?_|refine A0s ?_;intro _ hkq;replace hm:=hm.kept0 hkq;clear hkq|(refine C9 (ht:=fun _=>?_) (hf:=fun _=>?_)<;>try first|contradiction|omega)|refine Y4 ?_|refine A0d ?_|refine A18 ?_|refine A0Q ?_|refine S9 ?_|refine Q9 ?_|refine L8 ?_|(refine X3 (fun _=>?_) (h1:=fun _=>?_)<;>try first|contradiction|omega))
   exact A0V (⟨0,[],n1,s2,a1,cp1,da4,dc4⟩:QPar) (by exact⟨rfl,rfl,trivial⟩) ⟨hl.symm,hi2,by simp[Sp.St.bad];omega,hm⟩
  rw[if_neg h5]at hL;dsimp only at hL;have hnm:=fun da dc=>B2b (pb:=pb) (deep:=deep) (da:=da) (dc:=dc) s2 hr hT (by omega) hi2
  have hgn:=A2h T s2;generalize s2.named T=q at hnm hgn hL;have hq1:=hgn.le;have hq2:=hgn.top hi2;have hq3:=hgn.ds;have hnd:=fun da dc=>A4s (pb:=pb) (deep:=deep) (da:=da) (dc:=dc) q.2 [58] (by simp) hr hT (by omega) hq2
  have hgd:=A1k T q.2 [58];generalize (q.2.need T [58])=q4 at hnd hgd hL;have hd4:=hgd.le;have hd5:=hgd.top hq2;have hd6:=hgd.ds;by_cases hcol:q4.1=true
  case neg=>
   have hcol':q4.1=false:=by simpa using hcol
   rw[hcol',if_pos (by rfl)]at hL;rw[hcol']at hnd;subst hL;repeat' (first|refine A0P ?_ hm (hc:=hpk)|refine U8 ?_ hm (hc:=A2E s2 hr);clear hm;intro _ hm|refine F8 ?_ hm (hc:=hnm _ _);clear hm;rintro _ _ _ _ ⟨rfl,rfl,da4,dc4,rfl⟩ hle hm;try simp only[G5]at hm|refine F8 ?_ hm (hc:=hnd _ _);clear hm;rintro _ _ _ _ ⟨rfl,rfl,da5,dc5,rfl⟩ hle hm;try simp only[G5]at hm|refine Y2 (d:=4) ?_ hm;clear hm;intro b4 _ hm|refine V3 ?_ hm|refine P5 hm (k:=?_);clear hm;intro _ hm;try simp only[G5]at hm|refine D8 ?_|refine O6 ?_|refine G6 ?_|refine A0h ?_|refine D5 ?_|refine Y0 ?_|refine E5 ?_|refine A7 ?_|refine H6 ?_|refine G9 ?_|refine Z5 ?_|refine E8 ?_|refine A8 ?_|refine F6 ?_|refine G7 ?_|refine O8 ?_|refine U6 ?_|refine A0s ?_;intro _ hkq;replace hm:=hm.kept0 hkq;clear hkq|refine H5 ?_|(refine C9 (ht:=fun _=>?_) (hf:=fun _=>?_)<;>try first|contradiction|omega)|refine Y4 ?_|refine A0d ?_|refine A18 ?_|refine A0Q ?_|refine S9 ?_|refine Q9 ?_|refine L8 ?_|(refine X3 (fun _=>?_) (h1:=fun _=>?_)<;>try first|contradiction|omega))
   exact A0V (⟨0,[],n1,s2,a1,cp1,da5,dc5⟩:QPar) (by exact⟨rfl,rfl,trivial⟩) ⟨hl.symm,hd5,by dsimp only;omega,(hm.front 2 rfl).tl⟩
  rw[hcol,if_neg (by simp)]at hL;rw[hcol]at hnd;have hlb:=fun da dc=>B6B (pb:=pb) (deep:=deep) (da:=da) (dc:=dc) q4.2 hr hT hd5 (by omega)
  have hgl:=A5i T q4.2;generalize Sp.lab T q4.2=lb at hlb hgl hL;have hl1:=hgl.le;have hl2:=hgl.top hd5;have hl3:=hgl.ds;have hnl:(l1++ [(⟨q.1,lb.1,(T.tok s2.i).pos⟩:Sp.Par)]).length=n1+1:=by simp[hl]
  have hfm:(l1++ [(⟨q.1,lb.1,(T.tok s2.i).pos⟩:Sp.Par)]).flatMap A2L=l1.flatMap A2L++ [str q.1,nt lb.1,nt (T.tok s2.i).pos]:=by simp
  have hcm:=fun da dc=>A2j (pb:=pb) (deep:=deep) (da:=da) (dc:=dc) lb.2 [44] (by simp) hr hT hl2
  have hn4:n1<5:=by omega
  have hni:lb.2.next.i=lb.2.i+1:=rfl;have hnd2:lb.2.next.ds.length=lb.2.ds.length:=rfl;by_cases hcomma:T.is lb.2.i [44]=true
  ·rw[if_pos hcomma]at hL
   rw[hcomma,if_pos (by rfl)]at hcm;have hlt2:=A22 hcomma;repeat' (first|refine A0P ?_ hm (hc:=hpk)|refine U8 ?_ hm (hc:=A2E s2 hr);clear hm;intro _ hm|refine F8 ?_ hm (hc:=hnm _ _);clear hm;rintro _ _ _ _ ⟨rfl,rfl,da4,dc4,rfl⟩ hle hm;try simp only[G5]at hm|refine F8 ?_ hm (hc:=hnd _ _);clear hm;rintro _ _ _ _ ⟨rfl,rfl,da5,dc5,rfl⟩ hle hm;try simp only[G5]at hm|refine F8 ?_ hm (hc:=hlb _ _);clear hm;rintro _ _ _ _ ⟨rfl,rfl,da6,dc6,rfl⟩ hle hm;try simp only[G5]at hm|refine F8 ?_ hm (hc:=hcm _ _);clear hm;rintro _ _ _ _ ⟨rfl,rfl,da7,dc7,rfl⟩ hle hm;try simp only[G5]at hm|refine Y2 (d:=4) ?_ hm;clear hm;intro b4 _ hm|refine A2P (d:=42) ?_ hm;clear hm;intro a42 cp42 _ _ hm;try simp only[G5]at hm|refine Q7 ?_ hm|refine V3 ?_ hm|refine P5 hm (k:=?_);clear hm;intro _ hm;try simp only[G5]at hm|refine D8 ?_|refine D6 ?_|refine O6 ?_|refine G6 ?_|refine A0h ?_|refine D5 ?_|refine Y0 ?_|refine E5 ?_|refine A7 ?_|refine D7 ?_|refine E8 ?_|refine A8 ?_|refine F6 ?_|refine G7 ?_|refine U6 ?_|refine A0s ?_;intro _ hkq;replace hm:=hm.kept0 hkq;clear hkq|refine F7 ?_|(refine C9 (ht:=fun _=>?_) (hf:=fun _=>?_)<;>try first|contradiction|omega)|refine Y4 ?_|refine A0d ?_|refine A18 ?_|refine A0Q ?_|refine S9 ?_|refine Q9 ?_|refine L8 ?_|(refine X3 (fun _=>?_) (h1:=fun _=>?_)<;>try first|contradiction|omega))
   refine L6 (⟨f1,_,n1+1,lb.2.next,a42,cp42,da7,dc7⟩:QPar) (by exact⟨rfl,rfl,trivial⟩) ⟨?_,hnl,by dsimp only;omega,by dsimp only;omega,by dsimp only;omega,by dsimp only;omega,hL⟩ (by dsimp only;omega)
   dsimp only[C09];rw[hfm];exact(hm.front 2 rfl).tl
  ·rw[if_neg hcomma]at hL
   rw[show T.is lb.2.i [44]=false by simpa using hcomma,if_neg (by simp)]at hcm;subst hL;repeat' (first|refine A0P ?_ hm (hc:=hpk)|refine U8 ?_ hm (hc:=A2E s2 hr);clear hm;intro _ hm|refine F8 ?_ hm (hc:=hnm _ _);clear hm;rintro _ _ _ _ ⟨rfl,rfl,da4,dc4,rfl⟩ hle hm;try simp only[G5]at hm|refine F8 ?_ hm (hc:=hnd _ _);clear hm;rintro _ _ _ _ ⟨rfl,rfl,da5,dc5,rfl⟩ hle hm;try simp only[G5]at hm|refine F8 ?_ hm (hc:=hlb _ _);clear hm;rintro _ _ _ _ ⟨rfl,rfl,da6,dc6,rfl⟩ hle hm;try simp only[G5]at hm|refine F8 ?_ hm (hc:=hcm _ _);clear hm;rintro _ _ _ _ ⟨rfl,rfl,da7,dc7,rfl⟩ hle hm;try simp only[G5]at hm|refine Y2 (d:=4) ?_ hm;clear hm;intro b4 _ hm|refine A2P (d:=42) ?_ hm;clear hm;intro a42 cp42 _ _ hm;try simp only[G5]at hm|refine Q7 ?_ hm|refine V3 ?_ hm|refine P5 hm (k:=?_);clear hm;intro _ hm;try simp only[G5]at hm|refine D8 ?_|refine D6 ?_|refine O6 ?_|refine G6 ?_|refine A0h ?_|refine D5 ?_|refine Y0 ?_|refine E5 ?_|refine A7 ?_|refine H6 ?_|refine G9 ?_|refine Z5 ?_|refine E8 ?_|refine A8 ?_|refine F6 ?_|refine G7 ?_|refine O8 ?_|refine U6 ?_|refine A0s ?_;intro _ hkq;replace hm:=hm.kept0 hkq;clear hkq|refine H5 ?_|refine F7 ?_|(refine C9 (ht:=fun _=>?_) (hf:=fun _=>?_)<;>try first|contradiction|omega)|refine Y4 ?_|refine A0d ?_|refine A18 ?_|refine A0Q ?_|refine S9 ?_|refine Q9 ?_|refine L8 ?_|(refine X3 (fun _=>?_) (h1:=fun _=>?_)<;>try first|contradiction|omega))
   refine A0V (⟨0,[],n1+1,s2,a42,cp42,da7,dc7⟩:QPar) (by exact⟨rfl,rfl,trivial⟩) ⟨hnl.symm,hl2,by dsimp only;omega,?_⟩
   dsimp only[C09];rw[hfm];exact(hm.front 2 rfl).tl
 clear hm hmu;rintro⟨_,_,n1,_,a1,cp1,da3,dc3⟩ w2 ⟨hn,hi2,hd2,hm⟩;dsimp only at hn hm |-;subst hn;have hgd:=A1k T R.2 [41];have k1:=hgd.le;have k2:=hgd.top hi2;have k3:=hgd.ds;repeat' (first|refine F8 ?_ hm (hc:=A4s R.2 [41] (by simp) hr hT (by omega) hi2);clear hm;rintro _ _ _ _ ⟨rfl,rfl,da4,dc4,rfl⟩ hle hm;try simp only[G5]at hm|refine D8 ?_|refine D6 ?_|refine E5 ?_|refine A7 ?_|refine E8 ?_|refine A8 ?_|refine J3 ?_|refine J7 ?_)
 obtain⟨I3,hle3,hm3,hrow3⟩:=(hm.front 2 rfl).freeze;exact⟨I3,_,⟨k2,by dsimp only;omega,⟨a1,cp1,rfl,hrow3⟩,da4,dc4,rfl⟩,hm3⟩
abbrev D8v (pb bi:Nat) (la:Option Addr) (lc:Nat) (T:Sp.Src) (q:Sp.Itm×Sp.St):Value->P8->List HItem->Prop:=
 fun v I' H'=>q.2.i<=T.l.length/\q.2.ds.length<=1099511626000/\v=.tuple #[]/\∃ap cp as_ cs ab cb xb da dc,
  RowI I' 103 3 (.slice ap q.1.params.length cp) q.1.params.length (q.1.params.flatMap A2L)/\RowI I' 106 2 (.slice as_ q.1.sends.length cs) q.1.sends.length (q.1.sends.flatMap A27)/\
  RowI I' 111 15 (.slice ab q.1.body.length cb) q.1.body.length xb/\V4 I' q.1.body xb/\
  H'= [A8j pb la lc T q.2 0 da dc,A6b q.2.ds da dc,.cell bi (A1J q.1.kind q.1.name q.1.label (.slice ap q.1.params.length cp) (.slice as_ q.1.sends.length cs) (.slice ab q.1.body.length cb) q.1.at_ q.1.size q.1.mark A50) 43]
theorem D0S (T:Sp.Src) (at_:Int) (size:Nat) (s:Sp.St):A7Z T at_ size s=
  (let r:=s.named T
   let p:=C08 T r.2
   let s4:=(p.2.need T [58]).2
   let r5:=Sp.lab T s4
   let r6:=if T.is r5.2.i [115,101,110,100,115] then A5T T 6 [] r5.2.next else ([],r5.2)
   let r7:=Sp.block T (A8s T) 0 r6.2
   (⟨2,r.1,r5.1,p.1,r6.1,r7.1,at_,size,(T.tok s.i).pos,[]⟩,r7.2)):=rfl
theorem D8K (T:Sp.Src) (pb bi:Nat) (hT:Ok T) (I:P8) (la:Option Addr) (lc:Nat) (da:Option Addr) (dc:Nat) (s:Sp.St) (at_:Int) (size:Nat) (hC:Conv I) (hr:A4H I T la lc) (hi:s.i<=T.l.length) (hd:s.ds= []):
  CalM prog 103 #[ptr pb,ptr bi] I [A8j pb la lc T s 0 da dc,A6b s.ds da dc,.cell bi (A1J 3 [] 0 A50 A50 A50 at_ size 0 A50) 43]
   (D8v pb bi la lc T (A7Z T at_ size s)):=by
 have h2:=hT.size;have h3:=hT.len;have h1:=hT.at_ s.i;have hd0:s.ds.length=0:=by rw[hd];rfl
 rw[D0S];have hnm:=fun da dc=>B2b (pb:=pb) (deep:=0) (da:=da) (dc:=dc) s hr hT (by omega) hi
 have hgn:=A2h T s;dsimp only
 generalize s.named T=r at hnm hgn |-;have hn1:=hgn.le;have hn2:=hgn.top hi;have hn3:=hgn.ds;have hpa:=fun da dc=>D1W T pb hT I la lc 0 da dc r.2 hr hn2 (by omega)
 generalize C08 T r.2=R at hpa |-;refine CalM.of fun w E hm=>enter (N:=64) func103 rfl [(0,ptr pb),(1,ptr bi)] A1x rfl ?_
 repeat' (first|refine U8 ?_ hm (hc:=A2E s hr);clear hm;intro _ hm|refine F8 ?_ hm (hc:=hnm _ _);clear hm;rintro _ _ _ _ ⟨rfl,rfl,da1,dc1,rfl⟩ hle hm;try simp only[G5]at hm|refine F8 ?_ hm (hp:=by first|exact pm2_0|exact pm2_1) (hc:=hpa _ _);clear hm;rintro _ I2 _ _ ⟨hi2,hd2,⟨ap,cp,rfl,hrowp⟩,da2,dc2,rfl⟩ hle2 hm;replace hr:=hr.le hle2;replace hC:=hC.le hle2|refine P5 hm (k:=?_);clear hm;intro _ hm;try simp only[G5]at hm|refine D8 ?_|refine F5 ?_|refine D5 ?_|refine E5 ?_|refine A7 ?_|refine E8 ?_|refine A8 ?_)
 have hd9:=fun da dc=>A4s (pb:=pb) (deep:=0) (da:=da) (dc:=dc) R.2 [58] (by simp) hr hT (by omega) hi2
 have hg9:=A1k T R.2 [58];generalize (R.2.need T [58])=s4 at hd9 hg9 |-;have k4:=hg9.le;have k5:=hg9.top hi2;have k6:=hg9.ds;have hlb:=fun da dc=>B6B (pb:=pb) (deep:=0) (da:=da) (dc:=dc) s4.2 hr hT k5 (by omega)
 have hgl:=A5i T s4.2;generalize Sp.lab T s4.2=r5 at hlb hgl |-;have k7:=hgl.le;have k8:=hgl.top k5;have k9:=hgl.ds;have hsd:=fun da dc=>A2j (pb:=pb) (deep:=0) (da:=da) (dc:=dc) r5.2 [115,101,110,100,115] (by simp) hr hT k8
 obtain⟨R6,hR6⟩:∃R6,R6=(if T.is r5.2.i [115,101,110,100,115]=true then A5T T 6 [] r5.2.next else ([],r5.2)):=⟨_,rfl⟩;rw[<-hR6];cases hyes:T.is r5.2.i [115,101,110,100,115]with
 |true=>
  rw[hyes,if_pos rfl]at hR6;rw[hyes,if_pos rfl]at hsd;have hlt6:=A22 hyes;have hni:r5.2.next.i=r5.2.i+1:=rfl;have hnd2:r5.2.next.ds.length=r5.2.ds.length:=rfl;repeat' (first|refine B4O 0 (fun x:QSnd=> [(0,ptr pb),(1,ptr bi)]) (fun x w'=>x.n=R6.1.length/\R6.2.i<=T.l.length/\R6.2.ds.length<=16000000/\Mem E I2 [A8j pb la lc T R6.2 0 x.da x.dc,A6b R6.2.ds x.da x.dc,C1n R6.1 x.n x.a x.cp,.cell bi (A1J 2 r.1 r5.1 (.slice ap R.1.length cp) (.slice x.a x.n x.cp) A50 at_ size (T.tok s.i).pos A50) 43] w') ?_ ?_|refine F8 ?_ hm (hc:=hd9 _ _);clear hm;rintro _ _ _ _ ⟨rfl,rfl,da5,dc5,rfl⟩ hle hm;try simp only[G5]at hm|refine F8 ?_ hm (hc:=hlb _ _);clear hm;rintro _ _ _ _ ⟨rfl,rfl,da6,dc6,rfl⟩ hle hm;try simp only[G5]at hm|refine F8 ?_ hm (hc:=hsd _ _);clear hm;rintro _ _ _ _ ⟨rfl,rfl,da7,dc7,rfl⟩ hle hm;try simp only[G5]at hm|refine P5 hm (k:=?_);clear hm;intro _ hm;try simp only[G5]at hm|refine D8 ?_|refine F5 ?_|refine D5 ?_|refine E5 ?_|refine A7 ?_|refine E8 ?_|refine A8 ?_|refine H5 ?_)
  ·have hm2:=hm.nil 106 2
   clear hm;refine U3 (fun x:QSnd=> [(0,ptr pb),(1,ptr bi)])
    (fun x w'=>Mem E I2 [A8j pb la lc T x.s 0 x.da x.dc,A6b x.s.ds x.da x.dc,C1n x.l x.n x.a x.cp,.cell bi (A1J 2 r.1 r5.1 (.slice ap R.1.length cp) (.slice x.a x.n x.cp) A50 at_ size (T.tok s.i).pos A50) 43] w'/\
     x.l.length=x.n/\x.n<=5/\x.f+x.n=6/\x.s.i<=T.l.length/\x.s.ds.length<=8000010+2 *x.s.i+3 *x.n/\A5T T x.f x.l x.s=R6)
    (fun x=>x.f) ⟨6,[],0,r5.2.next,none,0,da7,dc7⟩ (by exact⟨rfl,rfl,trivial⟩) ⟨hm2.perm pm2_1,rfl,by dsimp only;omega,rfl,by dsimp only;omega,by dsimp only;omega,hR6.symm⟩ ?_
   clear hm2;rintro⟨f1,l1,n1,s2,a2,cp2,da3,dc3⟩ w2 ⟨hm,hl,hn5,hf,hi3,hd3,hL⟩;dsimp only at hm hl hn5 hf hi3 hd3 hL |-;obtain⟨f1,rfl⟩:∃f',f1=f'+1:=⟨f1-1,by omega⟩;rw[A5T]at hL;by_cases h5:5<=l1.length
   ·rw[if_pos h5]at hL
    subst hL;repeat' (first|refine F8 ?_ hm (hc:=A6i s2 5 hr hT hi3 (by omega));clear hm;rintro _ _ _ _ ⟨rfl,rfl,da4,dc4,rfl⟩ hle hm;try simp only[G5]at hm|refine J6 ?_ hm|refine D8 ?_|refine O6 ?_|refine G6 ?_|refine F5 ?_|refine D5 ?_|refine E5 ?_|refine A7 ?_|refine H6 ?_|refine G9 ?_|refine Z5 ?_|refine E8 ?_|refine A8 ?_|refine F6 ?_|refine O8 ?_|(refine C9 (ht:=fun _=>?_) (hf:=fun _=>?_)<;>try first|contradiction|omega))
    exact A0V (⟨0,[],n1,s2,a2,cp2,da4,dc4⟩:QSnd) (by exact⟨rfl,rfl,trivial⟩) ⟨hl.symm,hi3,by simp[Sp.St.bad];omega,hm⟩
   rw[if_neg h5]at hL;dsimp only at hL;have hnm2:=fun da dc=>B2b (pb:=pb) (deep:=0) (da:=da) (dc:=dc) s2 hr hT (by omega) hi3
   have hgn2:=A2h T s2;generalize s2.named T=q at hnm2 hgn2 hL;have hq1:=hgn2.le;have hq2:=hgn2.top hi3;have hq3:=hgn2.ds;have hnl:(l1++ [(⟨q.1,(T.tok s2.i).pos⟩:Sp.Rf)]).length=n1+1:=by simp[hl]
   have hfm:(l1++ [(⟨q.1,(T.tok s2.i).pos⟩:Sp.Rf)]).flatMap A27=l1.flatMap A27++ [str q.1,nt (T.tok s2.i).pos]:=by simp
   have hcm:=fun da dc=>A2j (pb:=pb) (deep:=0) (da:=da) (dc:=dc) q.2 [44] (by simp) hr hT hq2
   have hn4:n1<5:=by omega
   have hni:q.2.next.i=q.2.i+1:=rfl;have hnd2:q.2.next.ds.length=q.2.ds.length:=rfl;by_cases hcomma:T.is q.2.i [44]=true
   ·rw[if_pos hcomma]at hL
    rw[hcomma,if_pos (by rfl)]at hcm;have hlt2:=A22 hcomma;repeat' (first|refine A0R (id:=10) (hm.perm pm1_3) 6 8 (h:=?_);clear hm;intro wd hR hm|refine U8 ?_ hm (hc:=A2E s2 hr);clear hm;intro _ hm|refine F8 ?_ hm (hc:=hnm2 _ _);clear hm;rintro _ _ _ _ ⟨rfl,rfl,da4,dc4,rfl⟩ hle hm;try simp only[G5]at hm|refine F8 ?_ hm (hc:=hcm _ _);clear hm;rintro _ _ _ _ ⟨rfl,rfl,da8,dc8,rfl⟩ hle hm;try simp only[G5]at hm|refine A3C ?_ hR|refine A0k ?_ hR|refine A3b (d:=53) ?_ hm;clear hm;intro a53 cp53 _ _ hm;replace hm:=hR.back hm;clear hR;try simp only[G5]at hm|refine Y2 (d:=4) ?_ hm;clear hm;intro b4 _ hm|refine J6 ?_ hm|refine P5 hm (k:=?_);clear hm;intro _ hm;try simp only[G5]at hm|refine D8 ?_|refine O6 ?_|refine G6 ?_|refine A0h ?_|refine F5 ?_|refine D5 ?_|refine Y0 ?_|refine E5 ?_|refine A7 ?_|refine D7 ?_|refine E8 ?_|refine A8 ?_|refine F6 ?_|refine G7 ?_|refine F7 ?_|(refine C9 (ht:=fun _=>?_) (hf:=fun _=>?_)<;>try first|contradiction|omega)|refine A0x ?_|refine U5 ?_|refine N8 ?_|refine A0y ?_)
    refine L6 (⟨f1,_,n1+1,q.2.next,a53,cp53,da8,dc8⟩:QSnd) (by exact⟨rfl,rfl,trivial⟩) ⟨?_,hnl,by dsimp only;omega,by dsimp only;omega,by dsimp only;omega,by dsimp only;omega,hL⟩ (by dsimp only;omega)
    dsimp only[C1n];rw[hfm];exact(hm.front 3 rfl).tl
   ·rw[if_neg hcomma]at hL
    rw[show T.is q.2.i [44]=false by simpa using hcomma,if_neg (by simp)]at hcm;subst hL;repeat' (first|refine A0R (id:=10) (hm.perm pm1_3) 6 8 (h:=?_);clear hm;intro wd hR hm|refine U8 ?_ hm (hc:=A2E s2 hr);clear hm;intro _ hm|refine F8 ?_ hm (hc:=hnm2 _ _);clear hm;rintro _ _ _ _ ⟨rfl,rfl,da4,dc4,rfl⟩ hle hm;try simp only[G5]at hm|refine F8 ?_ hm (hc:=hcm _ _);clear hm;rintro _ _ _ _ ⟨rfl,rfl,da8,dc8,rfl⟩ hle hm;try simp only[G5]at hm|refine A3C ?_ hR|refine A0k ?_ hR|refine A3b (d:=53) ?_ hm;clear hm;intro a53 cp53 _ _ hm;replace hm:=hR.back hm;clear hR;try simp only[G5]at hm|refine Y2 (d:=4) ?_ hm;clear hm;intro b4 _ hm|refine J6 ?_ hm|refine P5 hm (k:=?_);clear hm;intro _ hm;try simp only[G5]at hm|refine D8 ?_|refine O6 ?_|refine G6 ?_|refine A0h ?_|refine F5 ?_|refine D5 ?_|refine Y0 ?_|refine E5 ?_|refine A7 ?_|refine H6 ?_|refine G9 ?_|refine Z5 ?_|refine E8 ?_|refine A8 ?_|refine F6 ?_|refine G7 ?_|refine O8 ?_|refine H5 ?_|(refine C9 (ht:=fun _=>?_) (hf:=fun _=>?_)<;>try first|contradiction|omega)|refine A0x ?_|refine U5 ?_|refine N8 ?_|refine A0y ?_)
    refine A0V (⟨0,[],n1+1,s2,a53,cp53,da8,dc8⟩:QSnd) (by exact⟨rfl,rfl,trivial⟩) ⟨hnl.symm,hq2,by dsimp only;omega,?_⟩
    dsimp only[C1n];rw[hfm];exact(hm.front 3 rfl).tl
  ·clear hm hd9 hlb hsd
   rintro⟨_,_,n2,_,a2,cp2,da3,dc3⟩ w3 ⟨hn,hi3,hd3,hm⟩;dsimp only at hn hm |-;subst hn;have hbl:=fun da dc=>(B7Y T pb hT (A8s T)).2 I2 la lc 0 da dc R6.2 hC hr hi3 (by rw[A8s];omega) (by omega) (by omega)
   have hgb:=(A3j T (A8s T)).1 0 R6.2;generalize Sp.block T (A8s T) 0 R6.2=r7 at hbl hgb |-;have j1:=hgb.le;have j2:=hgb.top hi3;have j3:=hgb.ds;repeat' (first|refine F8 ?_ hm (hc:=hbl _ _);clear hm;rintro _ I3 _ _ ⟨⟨ab,cb,xb,rfl,hrow,hsts⟩,da8,dc8,rfl⟩ hle hm;have hleI3:=hle;try simp only[G5]at hm|refine P5 hm (k:=?_);clear hm;intro _ hm;try simp only[G5]at hm|refine D8 ?_|refine F5 ?_|refine D5 ?_|refine E5 ?_|refine A7 ?_|refine A8 ?_|refine A0p ?_)
   obtain⟨I4,hle4,hm4,hrow4⟩:=(hm.front 2 rfl).freeze;exact⟨I4,_,⟨j2,by dsimp only;omega,rfl,ap,cp,a2,cp2,ab,cb,xb,da8,dc8,(hrowp.le hleI3).le hle4,hrow4,hrow.le hle4,V4.le hle4 _ _ hsts,rfl⟩,hm4⟩
 |false=>
  rw[hyes,if_neg (by simp)]at hR6;rw[hyes,if_neg (by simp)]at hsd;have hi3:R6.2.i<=T.l.length:=by rw[hR6];exact k8
  have hd3:R6.2.ds.length<=16000000:=by rw[hR6];dsimp only;omega
  have hs6:R6.1= []:=by rw[hR6]
  have hbl:=fun da dc=>(B7Y T pb hT (A8s T)).2 I2 la lc 0 da dc R6.2 hC hr hi3 (by rw[A8s];omega) (by omega) (by omega)
  have hgb:=(A3j T (A8s T)).1 0 R6.2;generalize Sp.block T (A8s T) 0 R6.2=r7 at hbl hgb |-;have j1:=hgb.le;have j2:=hgb.top hi3;have j3:=hgb.ds;subst hR6;repeat' (first|refine F8 ?_ hm (hc:=hd9 _ _);clear hm;rintro _ _ _ _ ⟨rfl,rfl,da5,dc5,rfl⟩ hle hm;try simp only[G5]at hm|refine F8 ?_ hm (hc:=hlb _ _);clear hm;rintro _ _ _ _ ⟨rfl,rfl,da6,dc6,rfl⟩ hle hm;try simp only[G5]at hm|refine F8 ?_ hm (hc:=hsd _ _);clear hm;rintro _ _ _ _ ⟨rfl,rfl,da7,dc7,rfl⟩ hle hm;try simp only[G5]at hm|refine F8 ?_ hm (hc:=hbl _ _);clear hm;rintro _ I3 _ _ ⟨⟨ab,cb,xb,rfl,hrow,hsts⟩,da8,dc8,rfl⟩ hle hm;have hleI3:=hle;try simp only[G5]at hm|refine P5 hm (k:=?_);clear hm;intro _ hm;try simp only[G5]at hm|refine D8 ?_|refine F5 ?_|refine D5 ?_|refine E5 ?_|refine A7 ?_|refine E8 ?_|refine A8 ?_|refine G7 ?_|refine A0p ?_|refine F7 ?_)
  exact⟨I3,_,⟨j2,by dsimp only;omega,rfl,ap,cp,none,0,ab,cb,xb,da8,dc8,hrowp.le hleI3,A1L _ _ _ _ _,hrow,hsts,rfl⟩,hm⟩
theorem D1U (s:List UInt8) (at_:Int) (I:P8) (hC:Conv I) (hs:s.length<=1048576):CalM prog 71 #[str s,.int .i64 at_] I [] (D7z (Sp.item s at_)):=by
 have hT:=C83 s hs;rw[A9r];generalize hTd:(Sp.Src.mk (Q5 s) s.length)=T at hT |-;have hsz:T.size=s.length:=by rw[<-hTd]
 have h2:=hT.size;have h3:=hT.len;obtain⟨q,hq⟩:∃q,q=A6t T at_ s.length:=⟨_,rfl⟩;rw[<-hq];refine CalM.of fun w E hm=>enter (N:=67) func71 rfl [(0,str s),(1,.int .i64 at_)] A1x rfl ?_
 repeat' (first|refine B4O 0 (fun x:ItX=> [(4,ptr b4),(5,ptr b5),(6,ptr b16)]) (fun x w'=>q.2.i<=T.l.length/\q.2.ds.length<=1099511626000/\A4H x.I T ta tc/\RowI x.I 103 3 (.slice x.ap q.1.params.length x.cp) q.1.params.length (q.1.params.flatMap A2L)/\RowI x.I 106 2 (.slice x.as_ q.1.sends.length x.cs) q.1.sends.length (q.1.sends.flatMap A27)/\RowI x.I 111 15 (.slice x.ab q.1.body.length x.cb) q.1.body.length x.xb/\V4 x.I q.1.body x.xb/\Mem E x.I [A8j b16 ta tc T q.2 0 x.da x.dc,A6b q.2.ds x.da x.dc,.cell b5 (itV q.1 x) 43,.cell b4 (A1J 0 [] 0 A50 A50 A50 0 0 0 A50) 43] w') ?_ ?_|refine A0r (hc:=by exact C17 s (by omega) _) (k:=?_);rintro tv wt ⟨hto,hkt⟩;obtain⟨ta,tc,rfl⟩:=A5f hto;obtain⟨I1,hle1,hm1,hrow⟩:=hm.take hkt hto;clear hm;have hm:=hm1;clear hm1|refine X8 (d:=4) ?_ hm;clear hm;intro b4 _ hm|refine Y2 (d:=5) ?_ hm;clear hm;intro b5 _ hm|refine A0T (d:=16) ?_ hm;clear hm;intro b16 _ hm|refine D8 ?_|refine D6 ?_|refine A0m ?_|refine Y0 ?_|refine E5 ?_|refine A7 ?_|refine E8 ?_|refine A8 ?_)
 ·rename_i wB
  have hr:A4H I1 T ta tc:=by rw[<-hTd];exact hrow
  have hC1:=hC.le hle1;have hm2:Mem E I1 [A8j b16 ta tc T ⟨0,[]⟩ 0 none 0,.cell b5 (A1J 3 [] 0 A50 A50 A50 at_ s.length 0 A50) 43,.cell b4 (A1J 0 [] 0 A50 A50 A50 0 0 0 A50) 43] wB:=by rw[<-hTd];exact hm
  have hm3:Mem E I1 [A8j b16 ta tc T ⟨0,[]⟩ 0 none 0,A6b [] none 0,.cell b5 (A1J 3 [] 0 A50 A50 A50 at_ s.length 0 A50) 43,.cell b4 (A1J 0 [] 0 A50 A50 A50 0 0 0 A50) 43] wB:=(hm2.nil 85 4).swap;clear hm hm2 hrow hto;have hm:=hm3;clear hm3;have hq1:=fun da dc=>A2j (pb:=b16) (deep:=0) (da:=da) (dc:=dc) ⟨0,[]⟩ [102,110] (by simp) hr hT (H9 _)
  have hq2:=fun da dc=>A2j (pb:=b16) (deep:=0) (da:=da) (dc:=dc) ⟨0,[]⟩ [99,104,97,110] (by simp) hr hT (H9 _)
  dsimp only at hq1 hq2;rw[A6t]at hq;by_cases hf:T.is 0 [102,110]=true
  ·rw[if_pos hf]at hq
   rw[if_pos hf,hf]at hq1;have hlt:=A22 hf;have hfn:=fun da dc=>D8K T b16 b5 hT I1 ta tc da dc ⟨1,[]⟩ at_ s.length hC1 hr hlt rfl
   rw[<-hq]at hfn;repeat' (first|refine F8 ?_ hm (hc:=hq1 _ _);clear hm;rintro _ _ _ _ ⟨rfl,rfl,da1,dc1,rfl⟩ hle hm;try simp only[G5]at hm|refine F8 ?_ hm (hc:=hfn _ _);clear hm;rintro _ I2 _ _ ⟨hqi,hqd,rfl,ap,cp,as_,cs,ab,cb,xb,da2,dc2,r1,r2,r3,r4,rfl⟩ hle hm;have hleI2:=hle;try simp only[G5]at hm|refine D8 ?_|refine D6 ?_|refine E5 ?_|refine A7 ?_|refine D7 ?_|refine A8 ?_|refine H5 ?_)
   exact A0V (⟨I2,da2,dc2,ap,cp,as_,cs,ab,cb,xb⟩:ItX) (by exact⟨rfl,rfl,rfl,trivial⟩) ⟨hqi,hqd,hr.le hleI2,r1,r2,r3,r4,hm⟩
  rw[if_neg hf]at hq;rw[if_neg hf,show T.is 0 [102,110]=false by simpa using hf]at hq1;by_cases hc:T.is 0 [99,104,97,110]=true
  ·rw[if_pos hc,B29]at hq
   rw[if_pos hc,hc]at hq2;have hlt:=A22 hc;dsimp only at hq;have hnm:=fun da dc=>B2b (pb:=b16) (deep:=0) (da:=da) (dc:=dc) ⟨1,[]⟩ hr hT (by simp) hlt
   have hhr:=fun da dc=>A2E (pb:=b16) (deep:=0) (da:=da) (dc:=dc) ⟨1,[]⟩ hr
   have hgn:=A2h T ⟨1,[]⟩;generalize (⟨1,[]⟩:Sp.St).named T=r at hnm hgn hq;have hn1:=hgn.le;have hn2:=hgn.top hlt;have hn3:=hgn.ds;dsimp only[List.length_nil]at hn1 hn3;have hd1:=fun da dc=>A4s (pb:=b16) (deep:=0) (da:=da) (dc:=dc) r.2 [58] (by simp) hr hT (by omega) hn2
   have hg1:=A1k T r.2 [58];generalize (r.2.need T [58])=s1 at hd1 hg1 hq;have k1:=hg1.le;have k2:=hg1.top hn2;have k3:=hg1.ds;have hlb:=fun da dc=>B6B (pb:=b16) (deep:=0) (da:=da) (dc:=dc) s1.2 hr hT k2 (by omega)
   have hgl:=A5i T s1.2;generalize Sp.lab T s1.2=r2 at hlb hgl hq;have k4:=hgl.le;have k5:=hgl.top k2;have k6:=hgl.ds;have hd2:=fun da dc=>A4s (pb:=b16) (deep:=0) (da:=da) (dc:=dc) r2.2 [59] (by simp) hr hT (by omega) k5
   have hg2:=A1k T r2.2 [59];generalize (r2.2.need T [59])=s3 at hd2 hg2 hq;have k7:=hg2.le;have k8:=hg2.top k5;have k9:=hg2.ds;subst hq;repeat' (first|refine F8 ?_ hm (hc:=hq1 _ _);clear hm;rintro _ _ _ _ ⟨rfl,rfl,da5,dc5,rfl⟩ hle hm;try simp only[G5]at hm|refine F8 ?_ hm (hc:=hq2 _ _);clear hm;rintro _ _ _ _ ⟨rfl,rfl,da6,dc6,rfl⟩ hle hm;try simp only[G5]at hm|refine U8 ?_ hm (hc:=hhr _ _);clear hm;intro _ hm|refine F8 ?_ hm (hc:=hnm _ _);clear hm;rintro _ _ _ _ ⟨rfl,rfl,da1,dc1,rfl⟩ hle hm;try simp only[G5]at hm|refine F8 (d:=48) ?_ hm (hc:=hd2 _ _);clear hm;rintro _ _ _ _ ⟨rfl,rfl,da4,dc4,rfl⟩ hle hm;try simp only[G5]at hm|refine F8 ?_ hm (hc:=hd1 _ _);clear hm;rintro _ _ _ _ ⟨rfl,rfl,da2,dc2,rfl⟩ hle hm;try simp only[G5]at hm|refine F8 ?_ hm (hc:=hlb _ _);clear hm;rintro _ _ _ _ ⟨rfl,rfl,da3,dc3,rfl⟩ hle hm;try simp only[G5]at hm|refine P5 hm (k:=?_);clear hm;intro _ hm;try simp only[G5]at hm|refine D8 ?_|refine D6 ?_|refine D5 ?_|refine E5 ?_|refine A7 ?_|refine D7 ?_|refine E8 ?_|refine A8 ?_|refine H5 ?_|refine F7 ?_)
   exact A0V (⟨I1,da4,dc4,none,0,none,0,none,0,[]⟩:ItX) (by exact⟨rfl,rfl,rfl,trivial⟩) ⟨k8,by dsimp only;omega,hr,A1L _ _ _ _ _,A1L _ _ _ _ _,A1L _ _ _ _ _,.nil,hm⟩
  ·rw[if_neg hc]at hq
   rw[if_neg hc,show T.is 0 [99,104,97,110]=false by simpa using hc]at hq2;subst hq;repeat' (first|refine F8 ?_ hm (hc:=hq1 _ _);clear hm;rintro _ _ _ _ ⟨rfl,rfl,da5,dc5,rfl⟩ hle hm;try simp only[G5]at hm|refine F8 ?_ hm (hc:=hq2 _ _);clear hm;rintro _ _ _ _ ⟨rfl,rfl,da6,dc6,rfl⟩ hle hm;try simp only[G5]at hm|refine F8 ?_ hm (hc:=A6i ⟨0,[]⟩ 2 hr hT (H9 _) (by simp));clear hm;rintro _ _ _ _ ⟨rfl,rfl,da2,dc2,rfl⟩ hle hm;try simp only[G5]at hm|refine J6 ?_ hm|refine P5 hm (k:=?_);clear hm;intro _ hm;try simp only[G5]at hm|refine D8 ?_|refine D6 ?_|refine G6 ?_|refine F5 ?_|refine D5 ?_|refine E5 ?_|refine A7 ?_|refine D7 ?_|refine E8 ?_|refine A8 ?_|refine F7 ?_)
   exact A0V (⟨I1,da2,dc2,none,0,none,0,none,0,[]⟩:ItX) (by exact⟨rfl,rfl,rfl,trivial⟩) ⟨H7 _,by simp[Sp.St.bad],hr,A1L _ _ _ _ _,A1L _ _ _ _ _,A1L _ _ _ _ _,.nil,hm⟩
 clear hm;rintro⟨I2,da,dc,ap,cp,as_,cs,ab,cb,xb⟩ w2 ⟨hi,hd,hr,r1,r2,r3,r4,hm⟩;dsimp only[itV]at hi hd hr r1 r2 r3 r4 hm |-;rw[B5S];by_cases hlt:q.2.i<T.l.length
 ·rw[if_pos hlt]
  repeat' (first|refine F8 ?_ hm (hc:=A6i q.2 2 hr hT hi (by omega));clear hm;rintro _ _ _ _ ⟨rfl,rfl,da2,dc2,rfl⟩ hle hm;try simp only[G5]at hm|refine J6 ?_ hm|refine Q7 ?_ hm|refine V3 ?_ hm|refine P6 ?_ hm;clear hm;intro _ hm;try simp only[G5]at hm|refine P5 hm (k:=?_);clear hm;intro _ hm;try simp only[G5]at hm|refine A0a ?_ hm|refine D8 ?_|refine F5 ?_|refine D5 ?_|refine E5 ?_|refine A7 ?_|refine E8 ?_|refine A8 ?_|refine J3 ?_|refine U6 ?_|refine A0s ?_;intro _ hkq;replace hm:=hm.kept0 hkq;clear hkq|(refine C9 (ht:=fun _=>?_) (hf:=fun _=>?_)<;>try first|contradiction|omega)|refine Y4 ?_|refine A18 ?_|refine S9 ?_|refine Q9 ?_|refine L8 ?_)
  obtain⟨I3,hle3,hm3,hrow3⟩:=(hm.front 1 rfl).freeze;exact⟨I3,[],⟨_,rfl,⟨ap,cp,as_,cs,ab,cb,da2,dc2,xb,rfl,r1.le hle3,r2.le hle3,r3.le hle3,V4.le hle3 _ _ r4,hrow3⟩,rfl⟩,hm3.left (H:= [])⟩
 ·rw[if_neg hlt]
  repeat' (first|refine J6 ?_ hm|refine Q7 ?_ hm|refine V3 ?_ hm|refine P6 ?_ hm;clear hm;intro _ hm;try simp only[G5]at hm|refine P5 hm (k:=?_);clear hm;intro _ hm;try simp only[G5]at hm|refine A0a ?_ hm|refine D8 ?_|refine F5 ?_|refine D5 ?_|refine E5 ?_|refine A7 ?_|refine E8 ?_|refine A8 ?_|refine G7 ?_|refine J3 ?_|refine U6 ?_|refine A0s ?_;intro _ hkq;replace hm:=hm.kept0 hkq;clear hkq|(refine C9 (ht:=fun _=>?_) (hf:=fun _=>?_)<;>try first|contradiction|omega)|refine Y4 ?_|refine A18 ?_|refine S9 ?_|refine Q9 ?_|refine L8 ?_)
  obtain⟨I3,hle3,hm3,hrow3⟩:=(hm.front 1 rfl).freeze;exact⟨I3,[],⟨_,rfl,⟨ap,cp,as_,cs,ab,cb,da,dc,xb,rfl,r1.le hle3,r2.le hle3,r3.le hle3,V4.le hle3 _ _ r4,hrow3⟩,rfl⟩,hm3.left (H:= [])⟩
theorem D1V (it:Sp.Itm) (hs:it.small) (I:P8) (cs:List Value) (hi:A67 I it cs):CalM prog 48 #[.agg cs.toArray] I [] (D7z it):=by
 obtain⟨ap,cp,as_,cs',ab,cb,ad,cd,xb,rfl,r1,r2,r3,r4,r5⟩:=hi;have k1:=hs.params;have k2:=hs.sends;have k3:=hs.diags;have k4:=hs.body;refine CalM.of fun w E hm=>enter (N:=20) func48 rfl [(0,.agg (A1J it.kind it.name it.label (.slice ap it.params.length cp) (.slice as_ it.sends.length cs') (.slice ab it.body.length cb) it.at_ it.size it.mark (.slice ad it.diags.length cd)).toArray)] A0Z rfl ?_
 have c1:=fun (I':P8) (m:Le I I')=>D1T I' ap it.params.length cp _ (r1.le m) (B71 _) (by omega)
 have c2:=fun (I':P8) (m:Le I I')=>C3w I' as_ it.sends.length cs' _ (r2.le m) (C1c _) (by omega)
 have c3:=fun (I':P8) (m:Le I I')=>C3v I' ad it.diags.length cd _ (r5.le m) (C6S _) (by omega)
 have c4:=fun (I':P8) (m:Le I I')=>C5M (SizeOf.sizeOf it.body) it.body (H7 _) (by omega) hs.stms I' ab cb xb (r3.le m) (V4.le m _ _ r4)
 repeat' (first|refine A6T (id:=1) (hm.perm pm0) [([0,1,3,4,6,7],[2]),([9],[5]),([],[8])] 10 (h:=?_);clear hm;intro wd hR hm|refine V8 (d:=5) ?_ hm (hc:=c1 _ (Le.refl _));clear hm;rintro _ I2 _ _ ⟨rfl,a1,d1,rfl,s1⟩ hle hm;have hleI2:=hle;try simp only[G5]at hm|refine V8 (d:=8) ?_ hm (hc:=c2 _ hleI2);clear hm;rintro _ I3 _ _ ⟨rfl,a2,d2,rfl,s2⟩ hle hm;have hleI3:=hle;try simp only[G5]at hm|refine V8 (d:=11) ?_ hm (hc:=c3 _ (hleI2.trans hleI3));clear hm;rintro _ I4 _ _ ⟨rfl,a3,d3,rfl,s3⟩ hle hm;have hleI4:=hle;try simp only[G5]at hm|refine F8 ?_ hm (hc:=c4 _ ((hleI2.trans hleI3).trans hleI4));clear hm;rintro _ I5 _ _ ⟨rfl,a4,d4,xs4,rfl,s4,t4⟩ hle hm;have hleI5:=hle;try simp only[G5]at hm|refine A0k ?_ hR|refine B1s ?_|refine B1r ?_|refine A0K ?_|refine C4y ?_|refine B3U ?_;replace hm:=hR.back hm;clear hR;try simp only[G5]at hm|refine A0T (d:=1) ?_ hm;clear hm;intro b1 _ hm|refine X8 (d:=2) ?_ hm;clear hm;intro b2 _ hm|refine J6 ?_ hm|refine Q7 ?_ hm|refine P6 ?_ hm;clear hm;intro _ hm;try simp only[G5]at hm|refine P5 hm (k:=?_);clear hm;intro _ hm;try simp only[G5]at hm|refine A0a ?_ hm|refine D5 ?_|refine E5 ?_|refine A7 ?_|refine E8 ?_|refine A8 ?_|refine J3 ?_|refine N8 ?_)
 exact⟨I5,[],⟨_,rfl,⟨a1,d1,a2,d2,a4,d4,a3,d3,xs4,rfl,((s1.le hleI3).le hleI4).le hleI5,(s2.le hleI4).le hleI5,s4,t4,s3.le hleI5⟩,rfl⟩,hm.left (H:= [])⟩
structure AgX where
 k:Nat
 I:P8
 a:Option Addr
 cp:Nat
 xs:List Value
abbrev it0:List Value:=A1J 0 [] 0 A50 A50 A50 0 0 0 A50
theorem B5D (w:World):(zeroValue 43).run prog w=.ok (.agg it0.toArray) w:=by kernel_rfl
abbrev C6F (fresh err:Nat) (its:List Sp.Itm):Value->P8->List HItem->Prop:=fun v I' H'=> ∃a cp xs,v=.tuple #[.agg [.slice a its.length cp].toArray,nt fresh,nt err]/\RowI I' 43 10 (.slice a its.length cp) its.length xs/\A4W I' its xs/\H'= []
theorem C2f (s:List UInt8):(A0l s).length<=s.length:=by
 obtain⟨r,h1,h2⟩:=B37 s (Q5 s) [];have e:A0l s=r:=by rw[A0l,h1];simp
 have:=h2.length_le;have:=A8f s;rw[e];simp at *
 omega
theorem D1S (s:List UInt8) (I:P8) (hC:Conv I) (hs:s.length<=9223372036854775807):CalM prog 40 #[.agg [.slice none 0 0].toArray,str [],str s] I [] (C6F (G8 s).length (Y1 s) (G8 s)):=by
 refine CalM.of fun w E hm=>enter (N:=127) func40 rfl [(0,.agg [.slice none 0 0].toArray),(1,str []),(2,str s)] A4x rfl ?_
 by_cases hl:s.length>4000
 ·have he:Y1 s=4:=by rw[Y1,if_pos hl]
  have hi:G8 s= []:=by rw[G8,he];rfl
  rw[he,hi];repeat' (first|refine A7G hm (by rfl) (by rfl) (by rfl) (by rfl) (by first|exact gt0|exact gt1|exact gt2|exact gt3|exact gt4|exact gt5|exact gt6) (by rfl) ?_|refine A0T (d:=3) ?_ hm;clear hm;intro b3 _ hm|refine X8 (d:=6) ?_ hm;clear hm;intro b6 _ hm|refine P6 ?_ hm;clear hm;intro _ hm;try simp only[G5]at hm|refine D8 ?_|refine D6 ?_|refine A1H ?_|refine A0m ?_|refine Y0 ?_|refine E5 ?_|refine A7 ?_|refine H8 ?_|refine E8 ?_|refine A8 ?_|refine J3 ?_|(refine C9 (ht:=fun _=>?_) (hf:=fun _=>?_)<;>try first|contradiction|omega))
  exact⟨_,_,⟨none,0,[],rfl,A1L _ _ _ _ _,rfl,rfl⟩,hm.left (H:= [])⟩
 have hcl:=C2f s;repeat' (first|refine B2D ?_ hm;clear hm;intro bm _ hm|refine A0T (d:=3) ?_ hm;clear hm;intro b3 _ hm|refine X8 (d:=6) ?_ hm;clear hm;intro b6 _ hm|refine J6 ?_ hm|refine D8 ?_|refine D6 ?_|refine A1H ?_|refine A0m ?_|refine G6 ?_|refine D5 ?_|refine E5 ?_|refine A7 ?_|refine E8 ?_|refine A8 ?_|refine F6 ?_|refine G7 ?_|(refine C9 (ht:=fun _=>?_) (hf:=fun _=>?_)<;>try first|contradiction|omega))
 refine U3 (fun _:Unit=> [(2,str s),(3,ptr b3),(6,ptr b6),(9,.map (some bm)),(26,nt 0),(27,nt 0)]) (fun _ w'=>Mem E I [.mp bm [],.cell b6 [.slice none 0 0] 25,.cell b3 [.slice none 0 0] 25] w') (fun _=>0) () (by exact⟨rfl,rfl,rfl,rfl,rfl,rfl,trivial⟩) hm ?_
 clear hm;rintro⟨⟩ w1 hm;repeat' (first|refine A0r (hc:=by exact C98 s (by omega) _) (k:=?_);rintro tv wt ⟨hto,hkt⟩;obtain⟨ta,tc,rfl⟩:=A5f hto;replace hm:=hm.add (x:=.row (.slice ta (A0l s).length tc) 3 1 (A0l s).length ((A0l s).flatMap A2K)) hkt (A51 hto (H9 _)) (fun b hb=>(hto.lt b hb).1)|refine X8 (d:=12) ?_ hm;clear hm;intro b12 _ hm|refine A2P (d:=73) ?_ hm;clear hm;intro a73 cp73 _ _ hm;try simp only[G5]at hm|refine D8 ?_|refine D6 ?_|refine J8 ?_|refine A0m ?_|refine G6 ?_|refine A5e ?_|refine E5 ?_|refine A7 ?_|refine H6 ?_|refine G9 ?_|refine E8 ?_|refine A8 ?_|refine F6 ?_|refine O8 ?_|refine F7 ?_)
 obtain⟨I2,hle2,hm2,hrow⟩:=hm.freeze;clear hm hto hkt;have hm:=hm2.nil 43 10;clear hm2;obtain⟨n,hn⟩:∃n,n=(A0l s).length:=⟨_,rfl⟩;have hcat:∀k,k<n->(A0l s).getD k 0<(A0l s).getD (k+1) s.length/\(A0l s).getD (k+1) s.length<=s.length:=fun k hk=>B0x s (by omega)
 have hfl:(A0l s).flatMap A2K++ [nt s.length]=(A0l s++ [s.length]).flatMap A2K:=by rw[X0];rfl
 have hz1:∀k,k<n->(A0l s++ [s.length])[k]?=some ((A0l s).getD k 0):=fun k hk=>by
  rw[A4P (by omega),N9,F9 (by omega)];rfl
 have hz2:∀k,k<n->(A0l s++ [s.length])[k+1]?=some ((A0l s).getD (k+1) s.length):=fun k hk=>by
  rcases U9 (k+1) (A0l s).length with h|h
  ·rw[A4P h,N9,F9 h];rfl
  ·rw[A2B h,show k+1-(A0l s).length=0 by omega,N9,A1n h];rfl
 have hsm:∀k,(A1v s (A0l s) k).length<=1048576:=fun k=>by rw[A1v,P9,A0v];omega
 have hits0:A3Z s (A0l s)=(List.range n).map (A1d s (A0l s)):=by rw[A3Z,hn]
 have herr:30<n->Y1 s=5/\G8 s= []:=fun h=>by
  have:Y1 s=5:=by rw[Y1,if_neg hl,if_pos (by omega)]
  exact⟨this,by rw[G8,this];rfl⟩
 have hok:n<=30->Y1 s=0/\G8 s=A3Z s (A0l s):=fun h=>by
  have:Y1 s=0:=by rw[Y1,if_neg hl,if_neg (by omega)]
  exact⟨this,by rw[G8,this];rfl⟩
 change RowI I2 3 1 (.slice a73 ((A0l s).length+1) cp73) ((A0l s).length+1) ((A0l s).flatMap A2K++ [nt s.length]) at hrow
 rw[hfl, <-hn]at hrow;rw[<-hn]at hcl |-;generalize Y1 s=er at herr hok |-;generalize G8 s=its at herr hok |-;clear hn hfl;have hsmall:∀k,(A1d s (A0l s) k).small:=fun k=>A6G _ _ (hsm k)
 generalize A0l s=cz at hrow hcat hz1 hz2 hits0 hok hsm hsmall;refine U3 (fun x:AgX=> [(2,str s),(6,ptr b6),(9,.map (some bm)),(12,ptr b12),(13,nt x.k),(14,.slice a73 (n+1) cp73),(76,.int .i64 (((n+1:Nat):Int)-1)),(77,nt x.k)])
  (fun x w'=>Mem E x.I [B14 x.k x.a x.cp x.xs,.cell b12 [.slice x.a x.k x.cp] 25,.mp bm [],.cell b6 [.slice none 0 0] 25,.cell b3 [.slice none 0 0] 25] w'/\Le I2 x.I/\A4W x.I ((List.range x.k).map (A1d s cz)) x.xs/\x.k<=n/\x.k<=30)
  (fun x=>n-x.k) ⟨0,I2,none,0,[]⟩ (by exact⟨rfl,rfl,rfl,rfl,rfl,rfl,rfl,rfl,trivial⟩) ⟨hm,Le.refl _,rfl,H9 _,by dsimp only;omega⟩ ?_
 clear hm;rintro⟨k,I3,a,cp,xs⟩ w2 ⟨hm,hle3,hits,hk,hk30⟩;dsimp only at hm hle3 hits hk hk30 |-;have hrow2:=hrow.le hle3;by_cases hlt:k<n
 ·by_cases h30:k=30
  ·obtain⟨he,hi⟩:=herr (by omega)
   subst he;subst hi;repeat' (first|refine A7G hm (by rfl) (by rfl) (by rfl) (by rfl) (by first|exact gt0|exact gt1|exact gt2|exact gt3|exact gt4|exact gt5|exact gt6) (by rfl) ?_|refine J6 ?_ hm|refine P6 ?_ hm;clear hm;intro _ hm;try simp only[G5]at hm|refine D8 ?_|refine D6 ?_|refine J8 ?_|refine O6 ?_|refine G6 ?_|refine D5 ?_|refine Y0 ?_|refine E5 ?_|refine A7 ?_|refine H8 ?_|refine O5 ?_|refine E8 ?_|refine A8 ?_|refine F6 ?_|refine G7 ?_|refine J3 ?_|(refine C9 (ht:=fun _=>?_) (hf:=fun _=>?_)<;>try first|contradiction|omega))
   exact⟨_,_,⟨none,0,[],rfl,A1L _ _ _ _ _,rfl,rfl⟩,hm.left (H:= [])⟩
  ·have hca:=hcat k hlt
   have hza:(cz++ [s.length])[((k:Nat):Int).toNat]?=some (cz.getD k 0):=by rw[A1R];exact hz1 k hlt
   have hzb:(cz++ [s.length])[(((k:Nat):Int)+1).toNat]?=some (cz.getD (k+1) s.length):=by
    rw[show (((k:Nat):Int)+1).toNat=k+1 by omega];exact hz2 k hlt
   have hit:=D1U (A1v s cz k) ((cz.getD k 0:Nat):Int) I3 ((hC.le hle2).le hle3) (hsm k);rw[show Sp.item (A1v s cz k) ((cz.getD k 0:Nat):Int)=A1d s cz k from rfl,A1v]at hit;have hat:(A1d s cz k).at_=((cz.getD k 0:Nat):Int):=B6x _ _;have hsk:=hsmall k;have hsn:=B7C s cz k;generalize A1d s cz k=it at hit hat hsk hsn;generalize cz.getD (k+1) s.length=e2 at hca hzb hit;generalize cz.getD k 0=e1 at hca hza hit hat
   clear hsmall hsm hcat hz1 hz2 hits0 herr hok;repeat' (first|refine A0R (id:=24) (hm.perm pm1_1) 3 6 (h:=?_);clear hm;intro wd hR hm|refine A0i (d:=88) (enc:=A2K) (z:=e1) ?_ (hr:=hrow2) (he:=fun _=>rfl) (hz:=hza);intro bt ot hpt|refine A0i (d:=93) (enc:=A2K) (z:=e2) ?_ (hr:=hrow2) (he:=fun _=>rfl) (hz:=hzb);intro bt2 ot2 hpt2|refine B5h hm (by rfl) (by rfl) (by rfl) (by rfl) (by first|exact gt0|exact gt1|exact gt2|exact gt3|exact gt4|exact gt5|exact gt6) (by exact A76) B5D ?_|refine Q4 (d:=109) (enc:=A2K) (z:=e1) ?_ (hr:=hrow2) (he:=fun _=>rfl) (hz:=hza);intro bt3 ot3 hpt3|refine F8 ?_ hm (hc:=hit);clear hm;rintro _ I4 _ _ ⟨_,rfl,⟨ap,cp1,as_,cs1,ab,cb,ad,cd,xb,rfl,r1,r2,r3,r4,r5⟩,rfl⟩ hle hm;have hleI4:=hle;try simp only[G5]at hm|refine Q4 (d:=114) (enc:=A2K) (z:=e1) ?_ (hr:=hrow2.le hleI4) (he:=fun _=>rfl) (hz:=hza);intro bt4 ot4 hpt4|refine V8 (d:=120) ?_ hm (hc:=D1V it hsk _ _ ⟨ap,cp1,as_,cs1,ab,cb,ad,cd,xb,by rw[hat],r1,r2,r3,r4,r5⟩);clear hm;rintro _ I5 _ _ ⟨_,rfl,⟨ap2,cp2,as2,cs2,ab2,cb2,ad2,cd2,xb2,rfl,q1,q2,q3,q4,q5⟩,rfl⟩ hle hm;have hleI5:=hle;try simp only[G5]at hm|refine A3C ?_ hR|refine A0k ?_ hR|refine A3b (d:=122) ?_ hm;clear hm;intro a122 cp122 _ _ hm;replace hm:=hR.back hm;clear hR;try simp only[G5]at hm|refine Y2 (d:=17) ?_ hm;clear hm;intro b17 _ hm|refine J6 ?_ hm|refine A0O ?_ hm|refine A1Q ?_ hm|refine P6 ?_ hm;clear hm;intro _ hm;try simp only[G5]at hm|refine P5 hm (k:=?_);clear hm;intro _ hm;try simp only[G5]at hm|refine D8 ?_|refine D6 ?_|refine J8 ?_|refine O6 ?_|refine G6 ?_|refine A0h ?_|refine Y8 ?_|refine O9 ?_|refine D5 ?_|refine E5 ?_|refine A7 ?_|refine D7 ?_|refine E8 ?_|refine A8 ?_|refine F6 ?_|refine G7 ?_|refine U6 ?_|refine A0s ?_;intro _ hkq;replace hm:=hm.kept0 hkq;clear hkq|refine H5 ?_|(refine C9 (ht:=fun _=>?_) (hf:=fun _=>?_)<;>try first|contradiction|omega)|refine Y4 ?_|refine A1a ?_|refine A31 ?_|refine A9y ?_|refine N8 ?_|refine A0y ?_)
   refine L6 (⟨k+1,I5,_,_,_⟩:AgX) (by exact⟨rfl,rfl,rfl,rfl,rfl,rfl,rfl,rfl,trivial⟩) ⟨(hm.front 1 rfl).tl,(hle3.trans hleI4).trans hleI5,?_,by dsimp only;omega,by dsimp only;omega⟩ (by dsimp only;omega)
   dsimp only
   rw[hsn];exact(hits.le (hleI4.trans hleI5)).snoc ⟨ap2,cp2,as2,cs2,ab2,cb2,ad2,cd2,xb2,rfl,q1,q2,q3,q4,q5⟩
 ·obtain rfl:k=n:=by omega
  obtain⟨he,hi⟩:=hok hk30;subst he;subst hi;have hln:(A3Z s cz).length=k:=by rw[hits0];simp
  repeat' (first|refine A7G hm (by rfl) (by rfl) (by rfl) (by rfl) (by first|exact gt0|exact gt1|exact gt2|exact gt3|exact gt4|exact gt5|exact gt6) (by rfl) ?_|refine Q7 ?_ hm|refine P6 ?_ hm;clear hm;intro _ hm;try simp only[G5]at hm|refine D8 ?_|refine D6 ?_|refine J8 ?_|refine E5 ?_|refine A7 ?_|refine H6 ?_|refine G9 ?_|refine E8 ?_|refine A8 ?_|refine O8 ?_|refine J3 ?_|(refine C9 (ht:=fun _=>?_) (hf:=fun _=>?_)<;>try first|contradiction|omega))
  obtain⟨I4,hle4,hm4,hrow4⟩:=(hm.front 0 rfl).freeze;refine⟨I4,[],⟨a,cp,xs,?_,?_,by rw[hits0];exact hits.le hle4,rfl⟩,hm4.left (H:= [])⟩
  ·rw[hln];rfl
  ·rw[hln];exact hrow4
theorem A9R (s:List UInt8) (I:P8) (hC:Conv I) (hs:s.length<=9223372036854775807):CalM prog 12 #[str s] I [] (D52 (Y1 s) (G8 s)):=by
 refine CalM.of fun w E hm=>enter (N:=16) func12 rfl [(0,str s)] A0Z rfl ?_
 repeat' (first|refine F8 ?_ hm (hc:=D1S s I hC hs);clear hm;rintro _ I2 _ _ ⟨a,cp,xs,rfl,hrow,hits,rfl⟩ hle hm;have hleI2:=hle;try simp only[G5]at hm|refine X8 (d:=2) ?_ hm;clear hm;intro b2 _ hm|refine Y2 (d:=4) ?_ hm;clear hm;intro b4 _ hm|refine Q7 ?_ hm|refine P6 ?_ hm;clear hm;intro _ hm;try simp only[G5]at hm|refine A00 ?_ hm|refine D8 ?_|refine D6 ?_|refine Y8 ?_|refine Y0 ?_|refine E5 ?_|refine A7 ?_|refine E8 ?_|refine A8 ?_|refine J3 ?_)
 exact⟨I2,[],⟨a,cp,xs,rfl,hrow,hits,rfl⟩,hm.left (H:= [])⟩
theorem C77 {I0:P8} (hT:B1I I0) {bw:Nat}:∀(n:Nat),(∀(x:Sp.Stm),SizeOf.sizeOf x<=n->∀d,x.fitS d->SW I0 bw d x)/\(∀(l:List Sp.Stm),SizeOf.sizeOf l<=n->l.length<=40->∀d,d<=1000->A0J l d->BW I0 bw d l)
 |0=>⟨fun x h=>by cases x;simp at h,fun l h=>by cases l<;>simp at h⟩
 |n+1=>by
  obtain⟨ihS,ihB⟩:=C77 hT (bw:=bw) n;refine⟨fun x hsz d hfit=>?_,fun l hsz hl d hd hfit=>?_⟩
  ·obtain⟨hfe,hnode⟩:=B9m hfit
   have hd12:d<12:=by
    have:=hfe;cases he:x.e
    rw[he,Sp.Ex.fitE]at this;exact this.1
   have hz:SizeOf.sizeOf x.thn<SizeOf.sizeOf x/\SizeOf.sizeOf x.els<SizeOf.sizeOf x:=by
    cases x
    simp only[Sp.Stm.thn,Sp.Stm.els,Sp.Stm.mk.sizeOf_spec];omega
   have hnil:x.kind≠3->x.kind≠4->x.thn= []/\x.els= []:=fun h3 h4=>by
    cases x
    rw[Sp.Stm.fitS]at hfit;simp only[Sp.Stm.kind,Sp.Stm.thn,Sp.Stm.els]at h3 h4 |-;rcases hfit.2 with h|h|h|h|h|h
    ·exact h.2.2.2.2
    ·exact h.2.2.2.2
    ·exact h.2.2.2.2
    ·exact h.2.2.2.2
    ·exact⟨h.2.2.2.2.1,h.2.2.2.2.2.1⟩
    ·omega
   by_cases k34:x.kind=3\/x.kind=4
   ·obtain⟨_,t1,t2,t3,t4⟩:(x.kind=3\/x.kind=4)/\x.thn.length<=40/\x.els.length<=40/\A0J x.thn (d+1)/\A0J x.els (d+1):=by
     rcases hnode with h|h|h|h|h|h
     ·omega
     ·omega
     ·omega
     ·omega
     ·omega
     ·exact h
    exact D5X hT hfit (ihB x.thn (by omega) t1 _ (by omega) t3) (ihB x.els (by omega) t2 _ (by omega) t4)
   ·obtain⟨e1,e2⟩:=hnil (fun h=>k34 (.inl h)) (fun h=>k34 (.inr h))
    exact D5X hT hfit (ihB x.thn (by omega) (by rw[e1];exact H9 _) _ (by omega) (by rw[e1,A0J];trivial)) (ihB x.els (by omega) (by rw[e2];exact H9 _) _ (by omega) (by rw[e2,A0J];trivial))
  ·refine D5q hd (by omega) (fun x hx=>?_)
   obtain⟨j,hj,rfl⟩:=A2r hx;have h3:=A3v (O1 hj);exact ihS _ (by omega) d (B54 hfit (F9 hj))
end Go.Proofs
