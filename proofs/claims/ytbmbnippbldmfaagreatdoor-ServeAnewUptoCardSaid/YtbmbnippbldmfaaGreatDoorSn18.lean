/- Own work. -/
import Derived.Test.YtbmbnippbldmfaaGreatDoorSn17
set_option maxHeartbeats 64000000
namespace Go.Fw
open Go.Sp
open Go
section
variable {P:Program}{N:Nat}{ds:List Deferred}{Q:Exit->Act->World->Prop}{l:Log}{w:World}{ops:Array Oper}{os:List Oper}
variable {d:Nat}{ty:TypeId}{pos:String}{af:Array Edge}{g:Option (Nat×Bool)}{t t':TypeId}{x y:Operand}{E:Ent}{I:P6}{H:List HItem}
def B87 (es:A6i) (s:List UInt8):Bool:=(es.find? (fun p=>decide (p.1=s))).isSome
theorem B2f (es:A6i) (s:List UInt8):(es.findIdx? (fun p=>decide (p.1=s))).isSome=B87 es s:=by
 rw[B87];induction es with
 |nil=>rfl
 |cons p es ih=>
  rw[A6z,A3J];cases hd:decide (p.1=s) with
  |true=>simp
  |false=>simp[ih]
theorem B1w {kt et:TypeId} [TyMap P t kt et] [TyStr P kt] {i b:Nat}{es:A6i}{s:List UInt8}{zv:Value} (hm:Mem E I H w) (hw:U4 ops l ⟨some d,.lookup t x y true,ty,pos,af,g⟩=some true) (hN:Nat.blt d N=true)
  (hx:ev l x=some (.map (some b))) (hy:ev l y=some (str s)) (hi:H[i]?=some (.mp b es)) (_hn:(es.map (·.1)).Nodup) (hz:∀w,(zeroValue et).run P w=.ok zv w)
  (k:WL P N ds ops Q os ((d,.tuple #[B4G es s zv,.bool (B87 es s)])::l) w):
  WL P N ds ops Q (⟨some d,.lookup t x y true,ty,pos,af,g⟩::os) l w:=
 U6 rfl hw hN (fun a ha=>by
  have h1:=run_underlying (P:=P) (w:=w) (TyMap.out (P:=P) (t:=t));have hk:=TyStr.out (P:=P) (t:=kt);have h2:=A9e (P:=P) (w:=w) hk s es 0;have h3:=fun b=>A8c (P:=P) (w:=w) hk s b
  have h4:=MapKept.run_getObj_map (P:=P) (hm.get hi);have h5:=C2Z es s;have h6:=B2f es s;rw[B4G, <-h5, <-h6];cases hf:es.findIdx? (fun p=>decide (p.1=s)) with
  |none=>
   rw[hf]at h2;simp[execOp,Instr.lookup,ha.ev hx,ha.ev hy,h1,h4,h3,h2,hz]
  |some i=>
   rw[hf]at h2;have hi:i<es.length:=by
    have:=A2q.1 hf;exact this.1
   have hg:es[i]?=some es[i]:=G6 hi;simp only[A1m,hg,A17]at h2;simp[execOp,Instr.lookup,ha.ev hx,ha.ev hy,h1,h4,h3,h2,hg]) k
theorem A5y {fn:Func}{i tr u u2 n b:Nat}{tc:TypeId} [TyAgg P tc n] {c:List Value}{e:TypeId}{fr:Nat×Nat}{xv xv2:Value}{Post:Value->World->Prop} (hm:Mem E I H w) (hr:fn.results= #[.cell tr tc,.tmp u,.tmp u2])
  (hx:lk l tr=some (.pointer (some ⟨b,0,none⟩))) (hu:lk l u=some xv) (hu2:lk l u2=some xv2) (hb:H[i]?=some (.obj b (.cells c.toArray e fr))) (hl:c.length=n)
  (h:Post (.tuple #[.agg c.toArray,xv,xv2]) w):At N [] (bodyPost P fn (Ret Post)) .ret l w:=
 ⟨fun a ha=>⟨ha.defs,_,by
  have hv:=A5S (P:=P) (t:=tc) (off:=0) (vs:=c) (hm.get hb) hl (fun j v hv=>by simpa using hv);simp[results,hr,ha.vals tr _ hx,ha.vals u _ hu,ha.vals u2 _ hu2,asAddr,hv],h⟩⟩
end
end Go.Fw
namespace Go.Proofs
open Go.Proofs.Tryz
open Go.Sp
open Go.Fw
structure QBl where
 f:Nat
 l:List Sp.Stm
 n:Nat
 s:Sp.St
 I:P6
 a:Option Addr
 cp:Nat
 xs:List Value
 da:Option Addr
 dc:Nat
theorem C7a {E:Ent}{N b1 cp lc deep dc pb:Nat}{I:P6}{T:Sp.Src}{la da a:Option Addr}{xs:List Value}{R:List HItem}{l:Log}{w:World}{b:List Sp.Stm}{s':Sp.St} (hdp:deep<=12) (hx:lk l 2=some (.slice a b.length cp))
  (hm:Mem E I (.cell b1 [ptr pb] 201::A5Y pb la lc T s' (deep+1) da dc::A39 s'.ds da dc::R) w)
  (hrow:RowI I 111 15 (.slice a b.length cp) b.length xs) (hsts:X6 I b xs):
  At N [⟨.fn (.func 171) #[ptr b1], #[]⟩] (bodyPostD prog Tryz.f136 (Ret (fun v w'=> ∃I' H',C77 pb la lc T deep (b,s') v I' H'/\Mem E I' H' w'))) .ret l w:=
 B6D rfl hx (C68 hdp hm) (fun _w' hm'=>⟨I,_,⟨⟨a,cp,xs,rfl,hrow,hsts⟩,da,dc,rfl⟩,hm'.tl.left (H:= [_,_])⟩)
theorem B5J (T:Sp.Src) (pb:Nat) (hT:Ok T) (n:Nat) (ih:∀g,g<n->C6z T pb g):A91 T pb n:=by
 intro I la lc deep da dc s hC hr hi hf hd hdp;obtain⟨f,rfl⟩:∃f,n=f+1:=⟨n-1,by omega⟩;have h2:=hT.size;have h3:=hT.len;have hn:=fun da dc=>A2T (pb:=pb) (deep:=deep) (da:=da) (dc:=dc) s [123] (by simp) hr hT (by omega) hi
 rw[Sp.St.need]at hn;rw[Sp.block];refine CalM.of fun w E hm=>A2F (N:=68) func136 rfl [(0,ptr pb)] A0I rfl ?_
 by_cases hq:T.is s.i [123]=true
 case neg=>
  rw[if_neg hq]at hn;rw[show T.is s.i [123]=false by simpa using hq,if_pos (by rfl)];repeat' (first|refine F6 ?_ hm (hc:=hn _ _);clear hm;rintro _ _ _ _ ⟨rfl,rfl,da',dc',rfl⟩ hle hm;try simp only[F9]at hm|refine B0x ?_|refine A0K (d:=1) ?_ hm;clear hm;intro b1 _ hm|refine J4 ?_ hm|refine D6 ?_|refine Y9 ?_|refine D9 ?_|refine A7 ?_|refine G8 ?_|refine E8 ?_|refine A8 ?_|refine H8 ?_|refine H6 ?_)
  exact⟨I,_,⟨⟨none,0,[],rfl,A2a _,.nil⟩,da',dc',rfl⟩,hm.left (H:= [_,_])⟩
 rw[if_pos hq]at hn;rw[hq,if_neg (by simp)];have hlt:=A1H hq;have hni:s.next.i=s.i+1:=rfl;have hnd:s.next.ds.length=s.ds.length:=rfl;by_cases hdeep:12<=deep
 ·rw[if_pos hdeep]
  have hd12:deep=12:=by omega
  repeat' (first|refine F6 ?_ hm (hc:=hn _ _);clear hm;rintro _ _ _ _ ⟨rfl,rfl,da',dc',rfl⟩ hle hm;try simp only[F9]at hm|refine F6 ?_ hm (hc:=A4g s.next 12 hr hT (by omega) (by omega));clear hm;rintro _ _ _ _ ⟨rfl,rfl,da2,dc2,rfl⟩ hle hm;try simp only[F9]at hm|refine B0x ?_|refine A0K (d:=1) ?_ hm;clear hm;intro b1 _ hm|refine J4 ?_ hm|refine D6 ?_|refine N9 ?_|refine Y9 ?_|refine E5 ?_|refine C9 ?_|refine D9 ?_|refine A7 ?_|refine G8 ?_|refine E8 ?_|refine A8 ?_|refine G5 ?_|refine H8 ?_|refine F7 ?_|(refine D5 (ht:=fun _=>?_) (hf:=fun _=>?_)<;>try first|contradiction|omega))
  exact⟨I,_,⟨⟨none,0,[],rfl,A2a _,.nil⟩,da2,dc2,rfl⟩,hm.left (H:= [_,_])⟩
 rw[if_neg hdeep];dsimp only
 have hg:=(A10 T f).2.1 (deep+1) [] s.next;have hg1:=hg.le;have hg2:=hg.top (by omega);have hg3:=hg.ds;obtain⟨R,hR⟩:∃R,R=A4q T f (deep+1) [] s.next:=⟨_,rfl⟩;rw[<-hR]at hg hg1 hg2 hg3 |-;repeat' (first|refine B06 0 (fun x:QBl=> [(1,ptr b1),(3,.slice x.a x.n x.cp)]) (fun x w'=>Mem E x.I [A5Y pb la lc T R.2 (deep+1) x.da x.dc,A39 R.2.ds x.da x.dc,B70 x.n x.a x.cp x.xs,.cell b1 [ptr pb] 201] w'/\Le I x.I/\X6 x.I R.1 x.xs/\R.1.length=x.n) ?_ ?_|refine F6 ?_ hm (hc:=hn _ _);clear hm;rintro _ _ _ _ ⟨rfl,rfl,da',dc',rfl⟩ hle hm;try simp only[F9]at hm|refine A0K (d:=1) ?_ hm;clear hm;intro b1 _ hm|refine J4 ?_ hm|refine O6 hm (k:=?_);clear hm;intro _ hm;try simp only[F9]at hm|refine D6 ?_|refine N9 ?_|refine Y9 ?_|refine E5 ?_|refine A1o ?_|refine P7 ?_|refine C9 ?_|refine D9 ?_|refine A7 ?_|refine E8 ?_|refine A8 ?_|refine G5 ?_|refine A6H ?_|refine F7 ?_|(refine D5 (ht:=fun _=>?_) (hf:=fun _=>?_)<;>try first|contradiction|omega))
 ·have hm2:=hm.nil 111 15
  clear hm;refine U2 (fun x:QBl=> [(1,ptr b1),(3,.slice x.a x.n x.cp)])
   (fun x w'=>Mem E x.I [A5Y pb la lc T x.s (deep+1) x.da x.dc,A39 x.s.ds x.da x.dc,B70 x.n x.a x.cp x.xs,.cell b1 [ptr pb] 201] w'/\
    Le I x.I/\X6 x.I x.l x.xs/\x.l.length=x.n/\x.n<=40/\x.f<=f/\x.s.i<=T.l.length/\x.s.ds.length+8 *(T.l.length-x.s.i)<=s.ds.length+8 *(T.l.length-s.i)/\
    A4q T x.f (deep+1) x.l x.s=R/\5 *(T.l.length-x.s.i)+6<=x.f)
   (fun x=>T.l.length-x.s.i) ⟨f,[],0,s.next,I,none,0,[],da',dc'⟩ (by exact⟨rfl,rfl,trivial⟩)
   ⟨hm2.perm pm2_1,Le.refl _,.nil,rfl,by dsimp only;omega,G9 _,by dsimp only;omega,by dsimp only;omega,hR.symm,by dsimp only;omega⟩ ?_
  clear hm2 hn;rintro⟨f1,l1,n1,s1,I1,a1,cp1,xs1,da1,dc1⟩ w2 ⟨hm,hle0,hsts,hn1,hn40,hff,hi1,hd1,hL,hf1⟩;dsimp only at hm hle0 hsts hn1 hn40 hff hi1 hd1 hL hf1 |-;have hr1:=hr.le hle0;have hC1:=hC.le hle0;obtain⟨f1,rfl⟩:∃f',f1=f'+1:=⟨f1-1,by omega⟩;rw[A4q]at hL;have hpk:=A2B (pb:=pb) (deep:=deep+1) (da:=da1) (dc:=dc1) s1 hr1;by_cases hend:T.l.length<=s1.i\/T.is s1.i [125]=true
  ·rw[if_pos hend]at hL
   subst hL;by_cases hl1:T.l.length<=s1.i
   ·skip
    repeat' (first|refine V3 ?_ hm|refine A7 ?_|refine H9 ?_|refine H5 ?_|refine E8 ?_|refine P9 ?_|refine U5 ?_|refine A0j ?_;intro _ hkq;replace hm:=hm.kept0 hkq;clear hkq|refine F7 ?_|refine X5 ?_|refine A09 ?_|refine A2y ?_|refine V4 ?_|refine O8 ?_|refine L6 ?_|refine A38 ?_|(refine Y6 (fun _=>?_) (h1:=fun _=>?_)<;>try first|contradiction|omega))
    exact A02 (⟨0,[],n1,s1,I1,a1,cp1,xs1,da1,dc1⟩:QBl) (by exact⟨rfl,rfl,trivial⟩) ⟨hm,hle0,hsts,hn1⟩
   ·rw[B5n (hend.resolve_left hl1)]at hpk
    repeat' (first|refine A0n ?_ hm (hc:=hpk)|refine V3 ?_ hm|refine A7 ?_|refine H9 ?_|refine H5 ?_|refine E8 ?_|refine P9 ?_|refine U5 ?_|refine A0j ?_;intro _ hkq;replace hm:=hm.kept0 hkq;clear hkq|refine F7 ?_|refine X5 ?_|refine A0p ?_|refine A2y ?_|refine A1M ?_|refine V4 ?_|refine O8 ?_|refine L6 ?_|(refine Y6 (fun _=>?_) (h1:=fun _=>?_)<;>try first|contradiction|omega))
    exact A02 (⟨0,[],n1,s1,I1,a1,cp1,xs1,da1,dc1⟩:QBl) (by exact⟨rfl,rfl,trivial⟩) ⟨hm,hle0,hsts,hn1⟩
  rw[if_neg hend]at hL;have hlt1:s1.i<T.l.length:=by omega
  have htt:(T.tok s1.i).text≠ [125]:=fun e=>hend (.inr (A9P e (by simp)))
  by_cases h40:40<=l1.length
  ·rw[if_pos h40]at hL
   subst hL;repeat' (first|refine A0n ?_ hm (hc:=hpk)|refine F6 ?_ hm (hc:=A4g s1 5 hr1 hT hi1 (by omega));clear hm;rintro _ _ _ _ ⟨rfl,rfl,da2,dc2,rfl⟩ hle hm;try simp only[F9]at hm|refine J4 ?_ hm|refine V3 ?_ hm|refine D8 ?_|refine N9 ?_|refine G7 ?_|refine D9 ?_|refine A7 ?_|refine H9 ?_|refine H5 ?_|refine A1E ?_|refine E8 ?_|refine A8 ?_|refine F5 ?_|refine G5 ?_|refine P9 ?_|refine U5 ?_|refine A0j ?_;intro _ hkq;replace hm:=hm.kept0 hkq;clear hkq|(refine D5 (ht:=fun _=>?_) (hf:=fun _=>?_)<;>try first|contradiction|omega)|refine X5 ?_|refine A0p ?_|refine A2y ?_|refine A1M ?_|refine V4 ?_|refine O8 ?_|refine L6 ?_|(refine Y6 (fun _=>?_) (h1:=fun _=>?_)<;>try first|contradiction|omega))
   exact A02 (⟨0,[],n1,s1,I1,a1,cp1,xs1,da2,dc2⟩:QBl) (by exact⟨rfl,rfl,trivial⟩) ⟨hm,hle0,hsts,hn1⟩
  rw[if_neg h40]at hL;dsimp only at hL;have hst:=fun da dc=>ih f1 (by omega) I1 la lc (deep+1) da dc s1 hC1 hr1 hi1 (by omega) (by omega) (by omega)
  have hgr:=(A10 T f1).2.2 (deep+1) s1;generalize Sp.stm T f1 (deep+1) s1=r at hL hst hgr;have hgr1:=hgr.le;have hgr2:=hgr.top hi1;have hgr3:=hgr.ds0;have hgr4:=hgr.ds1;have hnl:(l1++ [r.1]).length=n1+1:=by simp[hn1]
  have hni:r.2.next.i=r.2.i+1:=rfl;have hnd:r.2.next.ds.length=r.2.ds.length:=rfl;repeat' (first|refine A0n ?_ hm (hc:=hpk)|refine F6 ?_ hm (hc:=hst _ _);clear hm;rintro _ I2 _ _ ⟨⟨ea,ec,ex,a3,c3,xs3,a4,c4,xs4,rfl,hrow,hexs,hrow3,hsts3,hrow4,hsts4⟩,da',dc',rfl⟩ hle hm;have hleI2:=hle;try simp only[F9]at hm|refine A2l (d:=51) ?_ hm;clear hm;intro a51 cp51 _ _ hm;try simp only[F9]at hm|refine J4 ?_ hm|refine V3 ?_ hm|refine O6 hm (k:=?_);clear hm;intro _ hm;try simp only[F9]at hm|refine D8 ?_|refine D6 ?_|refine N9 ?_|refine G7 ?_|refine E5 ?_|refine P7 ?_|refine C9 ?_|refine D9 ?_|refine A7 ?_|refine D7 ?_|refine E8 ?_|refine A8 ?_|refine F5 ?_|refine G5 ?_|refine U5 ?_|refine A0j ?_;intro _ hkq;replace hm:=hm.kept0 hkq;clear hkq|(refine D5 (ht:=fun _=>?_) (hf:=fun _=>?_)<;>try first|contradiction|omega)|refine X5 ?_|refine A0p ?_|refine A2y ?_|refine A1M ?_|refine V4 ?_|refine O8 ?_|refine L6 ?_|(refine Y6 (fun _=>?_) (h1:=fun _=>?_)<;>try first|contradiction|omega))
  ·rename_i hsame
   have hsame:r.2.i=s1.i:=by omega
   rw[if_pos hsame]at hL;have:=hgr3 hsame;exact L9 (⟨f1,l1++ [r.1],n1+1,r.2.next,I2,_,_,_,da',dc'⟩:QBl) (by exact⟨rfl,rfl,trivial⟩) ⟨hm,hle0.trans hleI2,(X6.le hleI2 _ _ hsts).snoc (B0m hrow hexs hrow3 hsts3 hrow4 hsts4),hnl,by dsimp only;omega,by dsimp only;omega,by dsimp only;omega,by dsimp only;omega,hL,by dsimp only;omega⟩ (by dsimp only;omega)
  ·rename_i hsame
   have hsame:¬r.2.i=s1.i:=by omega
   rw[if_neg hsame]at hL;have:=hgr4 (by omega);exact L9 (⟨f1,l1++ [r.1],n1+1,r.2,I2,_,_,_,da',dc'⟩:QBl) (by exact⟨rfl,rfl,trivial⟩) ⟨hm,hle0.trans hleI2,(X6.le hleI2 _ _ hsts).snoc (B0m hrow hexs hrow3 hsts3 hrow4 hsts4),hnl,by dsimp only;omega,by dsimp only;omega,hgr2,by dsimp only;omega,hL,by dsimp only;omega⟩ (by dsimp only;omega)
 ·clear hm hn
  rintro⟨_,_,n1,_,I1,a1,cp1,xs1,da1,dc1⟩ w2 ⟨hm,hle0,hsts,hn1⟩;dsimp only at hm hle0 hsts hn1 |-;have hr1:=hr.le hle0;subst hn1;repeat' (first|refine F6 ?_ hm (hc:=A2T R.2 [125] (by simp) hr1 hT (by omega) hg2);clear hm;rintro _ _ _ _ ⟨rfl,rfl,da2,dc2,rfl⟩ hle hm;try simp only[F9]at hm|refine J4 ?_ hm|refine D8 ?_|refine D6 ?_|refine D9 ?_|refine A7 ?_|refine E8 ?_|refine A8 ?_|refine H8 ?_)
  obtain⟨I3,hle3,hm3,hrow3⟩:=(hm.front 2 rfl).freeze;exact C7a (b:=R.1) (s':=(R.2.need T [125]).2) (by omega) rfl (hm3.front 2 rfl) hrow3 (X6.le hle3 _ _ hsts)
theorem B9n (T:Sp.Src) (pb:Nat) (hT:Ok T) (n:Nat) (ih:∀g,g<n->A91 T pb g):C6z T pb n:=by
 intro I la lc deep da dc s hC hr hi hf hd hdp;obtain⟨f,rfl⟩:∃f,n=f+1:=⟨n-1,by omega⟩;have ihb:∀g,g<=f->A91 T pb g:=fun g hg=>ih g (by omega)
 by_cases h1:(T.tok s.i).text= [108,101,116]
 ·cases h6:T.is (s.next.named T).2.i [58]with
  |true=>exact C5E hT hC hr hi hf hd hdp h1 h6
  |false=>exact C5D hT hC hr hi hf hd hdp h1 h6
 by_cases h2:(T.tok s.i).text= [105,102]
 ·cases h6:T.is (Sp.block T f deep (A0O T f deep 1 s.next).2).2.i [101,108,115,101]with
  |true=>exact C7j hT hC hr hi hf hd hdp ihb h2 h6
  |false=>exact C7i hT hC hr hi hf hd hdp ihb h2 h6
 by_cases h3:(T.tok s.i).text= [119,104,105,108,101]
 ·exact C3W hT hC hr hi hf hd hdp ihb h3
 by_cases h4:(T.tok s.i).text= [115,101,110,100]
 ·exact C5F hT hC hr hi hf hd hdp h4
 by_cases h5:(T.tok s.i).text= [114,101,116,117,114,110]
 ·exact C5C hT hC hr hi hf hd hdp h5
 cases h6:Sp.name (T.tok s.i).text with
 |false=>exact C7h hT hC hr hi hf hd hdp h1 h2 h3 h4 h5 h6
 |true=>
  cases h7:T.is (s.i+1) [61]with
  |true=>exact C7k hT hC hr hi hf hd hdp h1 h2 h3 h4 h5 h6 h7
  |false=>exact C8v hT hC hr hi hf hd hdp h1 h2 h3 h4 h5 h6 h7
theorem B3v (T:Sp.Src) (pb:Nat) (hT:Ok T) (n:Nat):C6z T pb n/\A91 T pb n:=by
 induction n using Nat.strongRecOn with
 |_ n ih=>exact⟨B9n T pb hT n (fun g hg=>(ih g hg).2),B5J T pb hT n (fun g hg=>(ih g hg).1)⟩
structure QPar where
 f:Nat
 l:List Sp.Par
 n:Nat
 s:Sp.St
 a:Option Addr
 cp:Nat
 da:Option Addr
 dc:Nat
structure QSnd where
 f:Nat
 l:List Sp.Rf
 n:Nat
 s:Sp.St
 a:Option Addr
 cp:Nat
 da:Option Addr
 dc:Nat
def B5L (T:Sp.Src) (s:Sp.St):List Sp.Par×Sp.St:=((A4E T 6 [] (s.need T [40]).2).1,((A4E T 6 [] (s.need T [40]).2).2.need T [41]).2)
abbrev C8M (pb:Nat) (la:Option Addr) (lc:Nat) (T:Sp.Src) (deep:Nat) (r:List Sp.Par×Sp.St):Value->P6->List HItem->Prop:=fun v I' H'=>
 r.2.i<=T.l.length/\r.2.ds.length<=2 *r.2.i+60/\(∃a c,v=.slice a r.1.length c/\RowI I' 103 3 (.slice a r.1.length c) r.1.length (r.1.flatMap A2N))/\∃da dc,H'=QSt pb la lc T r.2 deep da dc
theorem C3T (T:Sp.Src) (pb:Nat) (hT:Ok T) (I:P6) (la:Option Addr) (lc deep:Nat) (da:Option Addr) (dc:Nat) (s:Sp.St) (hr:A2Y I T la lc) (hi:s.i<=T.l.length) (hd:s.ds.length<=2 *s.i+10):
  CalM prog 135 #[ptr pb] I (QSt pb la lc T s deep da dc) (C8M pb la lc T deep (B5L T s)):=by
 have h2:=hT.size;have h3:=hT.len;have hmu:=fun da dc=>A2T (pb:=pb) (deep:=deep) (da:=da) (dc:=dc) s [40] (by simp) hr hT (by omega) hi
 have hgm:=A0C T s [40];rw[B5L];generalize s.need T [40]=s0 at hmu hgm |-;have he1:=hgm.le;have he2:=hgm.top hi;have he3:=hgm.ds;obtain⟨R,hR⟩:∃R,R=A4E T 6 [] s0.2:=⟨_,rfl⟩;rw[<-hR];refine CalM.of fun w E hm=>enter (N:=49) func135 rfl [(0,ptr pb)] A0I rfl ?_
 repeat' (first|refine B06 0 (fun x:QPar=> [(0,ptr pb),(3,.slice x.a x.n x.cp)]) (fun x w'=>x.n=R.1.length/\R.2.i<=T.l.length/\R.2.ds.length<=2 *R.2.i+50/\Mem E I [A5Y pb la lc T R.2 deep x.da x.dc,A39 R.2.ds x.da x.dc,B5M R.1 x.n x.a x.cp] w') ?_ ?_|refine F6 ?_ hm (hc:=hmu _ _);clear hm;rintro _ _ _ _ ⟨rfl,rfl,da1,dc1,rfl⟩ hle hm;try simp only[F9]at hm|refine D8 ?_|refine D6 ?_|refine D9 ?_|refine A7 ?_|refine E8 ?_|refine A8 ?_)
 ·have hm2:=hm.nil 103 3
  clear hm hmu;refine U2 (fun x:QPar=> [(0,ptr pb),(3,.slice x.a x.n x.cp)])
   (fun x w'=>Mem E I [A5Y pb la lc T x.s deep x.da x.dc,A39 x.s.ds x.da x.dc,B5M x.l x.n x.a x.cp] w'/\
    x.l.length=x.n/\x.n<=5/\x.f+x.n=6/\x.s.i<=T.l.length/\x.s.ds.length<=2 *x.s.i+3 *x.n+20/\A4E T x.f x.l x.s=R)
   (fun x=>x.f) ⟨6,[],0,s0.2,none,0,da1,dc1⟩ (by exact⟨rfl,rfl,trivial⟩) ⟨hm2.perm pm2_1,rfl,by dsimp only;omega,rfl,he2,by dsimp only;omega,hR.symm⟩ ?_
  clear hm2;rintro⟨f1,l1,n1,s2,a1,cp1,da3,dc3⟩ w2 ⟨hm,hl,hn5,hf,hi2,hd2,hL⟩;dsimp only at hm hl hn5 hf hi2 hd2 hL |-;obtain⟨f1,rfl⟩:∃f',f1=f'+1:=⟨f1-1,by omega⟩;rw[A4E]at hL;have hpk:=A2B (pb:=pb) (deep:=deep) (da:=da3) (dc:=dc3) s2 hr;by_cases hend:T.l.length<=s2.i\/T.is s2.i [41]=true
  ·rw[if_pos hend]at hL
   subst hL;by_cases hl1:T.l.length<=s2.i
   ·skip
    repeat' (first|refine V3 ?_ hm|refine A7 ?_|refine H9 ?_|refine H5 ?_|refine E8 ?_|refine P9 ?_|refine U5 ?_|refine A0j ?_;intro _ hkq;replace hm:=hm.kept0 hkq;clear hkq|refine F7 ?_|refine X5 ?_|refine A09 ?_|refine A2y ?_|refine V4 ?_|refine O8 ?_|refine L6 ?_|refine A38 ?_|(refine Y6 (fun _=>?_) (h1:=fun _=>?_)<;>try first|contradiction|omega))
    exact A02 (⟨0,[],n1,s2,a1,cp1,da3,dc3⟩:QPar) (by exact⟨rfl,rfl,trivial⟩) ⟨hl.symm,hi2,by dsimp only;omega,hm⟩
   ·rw[B5n (hend.resolve_left hl1)]at hpk
    repeat' (first|refine A0n ?_ hm (hc:=hpk)|refine V3 ?_ hm|refine A7 ?_|refine H9 ?_|refine H5 ?_|refine E8 ?_|refine P9 ?_|refine U5 ?_|refine A0j ?_;intro _ hkq;replace hm:=hm.kept0 hkq;clear hkq|refine F7 ?_|refine X5 ?_|refine A0p ?_|refine A2y ?_|refine A1M ?_|refine V4 ?_|refine O8 ?_|refine L6 ?_|(refine Y6 (fun _=>?_) (h1:=fun _=>?_)<;>try first|contradiction|omega))
    exact A02 (⟨0,[],n1,s2,a1,cp1,da3,dc3⟩:QPar) (by exact⟨rfl,rfl,trivial⟩) ⟨hl.symm,hi2,by dsimp only;omega,hm⟩
  rw[if_neg hend]at hL;have hlt1:s2.i<T.l.length:=by omega
  have htt:(T.tok s2.i).text≠ [41]:=fun e=>hend (.inr (A9P e (by simp)))
  by_cases h5:5<=l1.length
  ·rw[if_pos h5]at hL
   subst hL;repeat' (first|refine A0n ?_ hm (hc:=hpk)|refine F6 ?_ hm (hc:=A4g s2 5 hr hT hi2 (by omega));clear hm;rintro _ _ _ _ ⟨rfl,rfl,da4,dc4,rfl⟩ hle hm;try simp only[F9]at hm|refine V3 ?_ hm|refine D8 ?_|refine N9 ?_|refine G7 ?_|refine D9 ?_|refine A7 ?_|refine H9 ?_|refine H5 ?_|refine A1E ?_|refine E8 ?_|refine A8 ?_|refine F5 ?_|refine G5 ?_|refine P9 ?_|refine U5 ?_|refine A0j ?_;intro _ hkq;replace hm:=hm.kept0 hkq;clear hkq|(refine D5 (ht:=fun _=>?_) (hf:=fun _=>?_)<;>try first|contradiction|omega)|refine X5 ?_|refine A0p ?_|refine A2y ?_|refine A1M ?_|refine V4 ?_|refine O8 ?_|refine L6 ?_|(refine Y6 (fun _=>?_) (h1:=fun _=>?_)<;>try first|contradiction|omega))
   exact A02 (⟨0,[],n1,s2,a1,cp1,da4,dc4⟩:QPar) (by exact⟨rfl,rfl,trivial⟩) ⟨hl.symm,hi2,by simp[Sp.St.bad];omega,hm⟩
  rw[if_neg h5]at hL;dsimp only at hL;have hnm:=fun da dc=>A87 (pb:=pb) (deep:=deep) (da:=da) (dc:=dc) s2 hr hT (by omega) hi2
  have hgn:=A1e T s2;generalize s2.named T=q at hnm hgn hL;have hq1:=hgn.le;have hq2:=hgn.top hi2;have hq3:=hgn.ds;have hnd:=fun da dc=>A2T (pb:=pb) (deep:=deep) (da:=da) (dc:=dc) q.2 [58] (by simp) hr hT (by omega) hq2
  have hgd:=A0C T q.2 [58];generalize (q.2.need T [58])=q4 at hnd hgd hL;have hd4:=hgd.le;have hd5:=hgd.top hq2;have hd6:=hgd.ds;by_cases hcol:q4.1=true
  case neg=>
   have hcol':q4.1=false:=by simpa using hcol
   rw[hcol',if_pos (by rfl)]at hL;rw[hcol']at hnd;subst hL;repeat' (first|refine A0n ?_ hm (hc:=hpk)|refine S9 ?_ hm (hc:=A1q s2 hr);clear hm;intro _ hm|refine F6 ?_ hm (hc:=hnm _ _);clear hm;rintro _ _ _ _ ⟨rfl,rfl,da4,dc4,rfl⟩ hle hm;try simp only[F9]at hm|refine F6 ?_ hm (hc:=hnd _ _);clear hm;rintro _ _ _ _ ⟨rfl,rfl,da5,dc5,rfl⟩ hle hm;try simp only[F9]at hm|refine Y5 (d:=4) ?_ hm;clear hm;intro b4 _ hm|refine V3 ?_ hm|refine O6 hm (k:=?_);clear hm;intro _ hm;try simp only[F9]at hm|refine D8 ?_|refine N9 ?_|refine G7 ?_|refine Y9 ?_|refine C9 ?_|refine Q3 ?_|refine D9 ?_|refine A7 ?_|refine H9 ?_|refine H5 ?_|refine A1E ?_|refine E8 ?_|refine A8 ?_|refine F5 ?_|refine G5 ?_|refine P9 ?_|refine U5 ?_|refine A0j ?_;intro _ hkq;replace hm:=hm.kept0 hkq;clear hkq|refine H6 ?_|(refine D5 (ht:=fun _=>?_) (hf:=fun _=>?_)<;>try first|contradiction|omega)|refine X5 ?_|refine A0p ?_|refine A2y ?_|refine A1M ?_|refine V4 ?_|refine O8 ?_|refine L6 ?_|(refine Y6 (fun _=>?_) (h1:=fun _=>?_)<;>try first|contradiction|omega))
   exact A02 (⟨0,[],n1,s2,a1,cp1,da5,dc5⟩:QPar) (by exact⟨rfl,rfl,trivial⟩) ⟨hl.symm,hd5,by dsimp only;omega,(hm.front 2 rfl).tl⟩
  rw[hcol,if_neg (by simp)]at hL;rw[hcol]at hnd;have hlb:=fun da dc=>B2w (pb:=pb) (deep:=deep) (da:=da) (dc:=dc) q4.2 hr hT hd5 (by omega)
  have hgl:=A3l T q4.2;generalize Sp.lab T q4.2=lb at hlb hgl hL;have hl1:=hgl.le;have hl2:=hgl.top hd5;have hl3:=hgl.ds;have hnl:(l1++ [(⟨q.1,lb.1,(T.tok s2.i).pos⟩:Sp.Par)]).length=n1+1:=by simp[hl]
  have hfm:(l1++ [(⟨q.1,lb.1,(T.tok s2.i).pos⟩:Sp.Par)]).flatMap A2N=l1.flatMap A2N++ [str q.1,nt lb.1,nt (T.tok s2.i).pos]:=by simp
  have hcm:=fun da dc=>A1h (pb:=pb) (deep:=deep) (da:=da) (dc:=dc) lb.2 [44] (by simp) hr hT hl2
  have hn4:n1<5:=by omega
  have hni:lb.2.next.i=lb.2.i+1:=rfl;have hnd2:lb.2.next.ds.length=lb.2.ds.length:=rfl;by_cases hcomma:T.is lb.2.i [44]=true
  ·rw[if_pos hcomma]at hL
   rw[hcomma,if_pos (by rfl)]at hcm;have hlt2:=A1H hcomma;repeat' (first|refine A0n ?_ hm (hc:=hpk)|refine S9 ?_ hm (hc:=A1q s2 hr);clear hm;intro _ hm|refine F6 ?_ hm (hc:=hnm _ _);clear hm;rintro _ _ _ _ ⟨rfl,rfl,da4,dc4,rfl⟩ hle hm;try simp only[F9]at hm|refine F6 ?_ hm (hc:=hnd _ _);clear hm;rintro _ _ _ _ ⟨rfl,rfl,da5,dc5,rfl⟩ hle hm;try simp only[F9]at hm|refine F6 ?_ hm (hc:=hlb _ _);clear hm;rintro _ _ _ _ ⟨rfl,rfl,da6,dc6,rfl⟩ hle hm;try simp only[F9]at hm|refine F6 ?_ hm (hc:=hcm _ _);clear hm;rintro _ _ _ _ ⟨rfl,rfl,da7,dc7,rfl⟩ hle hm;try simp only[F9]at hm|refine Y5 (d:=4) ?_ hm;clear hm;intro b4 _ hm|refine A2l (d:=42) ?_ hm;clear hm;intro a42 cp42 _ _ hm;try simp only[F9]at hm|refine Y1 ?_ hm|refine V3 ?_ hm|refine O6 hm (k:=?_);clear hm;intro _ hm;try simp only[F9]at hm|refine D8 ?_|refine D6 ?_|refine N9 ?_|refine G7 ?_|refine Y9 ?_|refine C9 ?_|refine Q3 ?_|refine D9 ?_|refine A7 ?_|refine D7 ?_|refine E8 ?_|refine A8 ?_|refine F5 ?_|refine G5 ?_|refine U5 ?_|refine A0j ?_;intro _ hkq;replace hm:=hm.kept0 hkq;clear hkq|refine F7 ?_|(refine D5 (ht:=fun _=>?_) (hf:=fun _=>?_)<;>try first|contradiction|omega)|refine X5 ?_|refine A0p ?_|refine A2y ?_|refine A1M ?_|refine V4 ?_|refine O8 ?_|refine L6 ?_|(refine Y6 (fun _=>?_) (h1:=fun _=>?_)<;>try first|contradiction|omega))
   refine L9 (⟨f1,_,n1+1,lb.2.next,a42,cp42,da7,dc7⟩:QPar) (by exact⟨rfl,rfl,trivial⟩) ⟨?_,hnl,by dsimp only;omega,by dsimp only;omega,by dsimp only;omega,by dsimp only;omega,hL⟩ (by dsimp only;omega)
   dsimp only[B5M];rw[hfm];exact(hm.front 2 rfl).tl
  ·rw[if_neg hcomma]at hL
   rw[show T.is lb.2.i [44]=false by simpa using hcomma,if_neg (by simp)]at hcm;subst hL;repeat' (first|refine A0n ?_ hm (hc:=hpk)|refine S9 ?_ hm (hc:=A1q s2 hr);clear hm;intro _ hm|refine F6 ?_ hm (hc:=hnm _ _);clear hm;rintro _ _ _ _ ⟨rfl,rfl,da4,dc4,rfl⟩ hle hm;try simp only[F9]at hm|refine F6 ?_ hm (hc:=hnd _ _);clear hm;rintro _ _ _ _ ⟨rfl,rfl,da5,dc5,rfl⟩ hle hm;try simp only[F9]at hm|refine F6 ?_ hm (hc:=hlb _ _);clear hm;rintro _ _ _ _ ⟨rfl,rfl,da6,dc6,rfl⟩ hle hm;try simp only[F9]at hm|refine F6 ?_ hm (hc:=hcm _ _);clear hm;rintro _ _ _ _ ⟨rfl,rfl,da7,dc7,rfl⟩ hle hm;try simp only[F9]at hm|refine Y5 (d:=4) ?_ hm;clear hm;intro b4 _ hm|refine A2l (d:=42) ?_ hm;clear hm;intro a42 cp42 _ _ hm;try simp only[F9]at hm|refine Y1 ?_ hm|refine V3 ?_ hm|refine O6 hm (k:=?_);clear hm;intro _ hm;try simp only[F9]at hm|refine D8 ?_|refine D6 ?_|refine N9 ?_|refine G7 ?_|refine Y9 ?_|refine C9 ?_|refine Q3 ?_|refine D9 ?_|refine A7 ?_|refine H9 ?_|refine H5 ?_|refine A1E ?_|refine E8 ?_|refine A8 ?_|refine F5 ?_|refine G5 ?_|refine P9 ?_|refine U5 ?_|refine A0j ?_;intro _ hkq;replace hm:=hm.kept0 hkq;clear hkq|refine H6 ?_|refine F7 ?_|(refine D5 (ht:=fun _=>?_) (hf:=fun _=>?_)<;>try first|contradiction|omega)|refine X5 ?_|refine A0p ?_|refine A2y ?_|refine A1M ?_|refine V4 ?_|refine O8 ?_|refine L6 ?_|(refine Y6 (fun _=>?_) (h1:=fun _=>?_)<;>try first|contradiction|omega))
   refine A02 (⟨0,[],n1+1,s2,a42,cp42,da7,dc7⟩:QPar) (by exact⟨rfl,rfl,trivial⟩) ⟨hnl.symm,hl2,by dsimp only;omega,?_⟩
   dsimp only[B5M];rw[hfm];exact(hm.front 2 rfl).tl
 clear hm hmu;rintro⟨_,_,n1,_,a1,cp1,da3,dc3⟩ w2 ⟨hn,hi2,hd2,hm⟩;dsimp only at hn hm |-;subst hn;have hgd:=A0C T R.2 [41];have k1:=hgd.le;have k2:=hgd.top hi2;have k3:=hgd.ds;repeat' (first|refine F6 ?_ hm (hc:=A2T R.2 [41] (by simp) hr hT (by omega) hi2);clear hm;rintro _ _ _ _ ⟨rfl,rfl,da4,dc4,rfl⟩ hle hm;try simp only[F9]at hm|refine D8 ?_|refine D6 ?_|refine D9 ?_|refine A7 ?_|refine E8 ?_|refine A8 ?_|refine H8 ?_|refine J9 ?_)
 obtain⟨I3,hle3,hm3,hrow3⟩:=(hm.front 2 rfl).freeze;exact⟨I3,_,⟨k2,by dsimp only;omega,⟨a1,cp1,rfl,hrow3⟩,da4,dc4,rfl⟩,hm3⟩
abbrev C8L (pb bi:Nat) (la:Option Addr) (lc:Nat) (T:Sp.Src) (q:Sp.Itm×Sp.St):Value->P6->List HItem->Prop:=
 fun v I' H'=>q.2.i<=T.l.length/\q.2.ds.length<=1099511626000/\v=.tuple #[]/\∃ap cp as_ cs ab cb xb da dc,
  RowI I' 103 3 (.slice ap q.1.params.length cp) q.1.params.length (q.1.params.flatMap A2N)/\RowI I' 106 2 (.slice as_ q.1.sends.length cs) q.1.sends.length (q.1.sends.flatMap A2V)/\
  RowI I' 111 15 (.slice ab q.1.body.length cb) q.1.body.length xb/\X6 I' q.1.body xb/\
  H'= [A5Y pb la lc T q.2 0 da dc,A39 q.2.ds da dc,.cell bi (A1z q.1.kind q.1.name q.1.label (.slice ap q.1.params.length cp) (.slice as_ q.1.sends.length cs) (.slice ab q.1.body.length cb) q.1.at_ q.1.size q.1.mark A31) 43]
theorem C23 (T:Sp.Src) (at_:Int) (size:Nat) (s:Sp.St):A51 T at_ size s=
  (let r:=s.named T
   let p:=B5L T r.2
   let s4:=(p.2.need T [58]).2
   let r5:=Sp.lab T s4
   let r6:=if T.is r5.2.i [115,101,110,100,115] then A4H T 6 [] r5.2.next else ([],r5.2)
   let r7:=Sp.block T (A6S T) 0 r6.2
   (⟨2,r.1,r5.1,p.1,r6.1,r7.1,at_,size,(T.tok s.i).pos,[]⟩,r7.2)):=rfl
theorem C8T (T:Sp.Src) (pb bi:Nat) (hT:Ok T) (I:P6) (la:Option Addr) (lc:Nat) (da:Option Addr) (dc:Nat) (s:Sp.St) (at_:Int) (size:Nat) (hC:Conv I) (hr:A2Y I T la lc) (hi:s.i<=T.l.length) (hd:s.ds= []):
  CalM prog 103 #[ptr pb,ptr bi] I [A5Y pb la lc T s 0 da dc,A39 s.ds da dc,.cell bi (A1z 3 [] 0 A31 A31 A31 at_ size 0 A31) 43]
   (C8L pb bi la lc T (A51 T at_ size s)):=by
 have h2:=hT.size;have h3:=hT.len;have h1:=hT.at_ s.i;have hd0:s.ds.length=0:=by rw[hd];rfl
 rw[C23];have hnm:=fun da dc=>A87 (pb:=pb) (deep:=0) (da:=da) (dc:=dc) s hr hT (by omega) hi
 have hgn:=A1e T s;dsimp only
 generalize s.named T=r at hnm hgn |-;have hn1:=hgn.le;have hn2:=hgn.top hi;have hn3:=hgn.ds;have hpa:=fun da dc=>C3T T pb hT I la lc 0 da dc r.2 hr hn2 (by omega)
 generalize B5L T r.2=R at hpa |-;refine CalM.of fun w E hm=>enter (N:=64) func103 rfl [(0,ptr pb),(1,ptr bi)] A0T rfl ?_
 repeat' (first|refine S9 ?_ hm (hc:=A1q s hr);clear hm;intro _ hm|refine F6 ?_ hm (hc:=hnm _ _);clear hm;rintro _ _ _ _ ⟨rfl,rfl,da1,dc1,rfl⟩ hle hm;try simp only[F9]at hm|refine F6 ?_ hm (hp:=by first|exact pm2_0|exact pm2_1) (hc:=hpa _ _);clear hm;rintro _ I2 _ _ ⟨hi2,hd2,⟨ap,cp,rfl,hrowp⟩,da2,dc2,rfl⟩ hle2 hm;replace hr:=hr.le hle2;replace hC:=hC.le hle2|refine O6 hm (k:=?_);clear hm;intro _ hm;try simp only[F9]at hm|refine D8 ?_|refine E5 ?_|refine C9 ?_|refine D9 ?_|refine A7 ?_|refine E8 ?_|refine A8 ?_)
 have hd9:=fun da dc=>A2T (pb:=pb) (deep:=0) (da:=da) (dc:=dc) R.2 [58] (by simp) hr hT (by omega) hi2
 have hg9:=A0C T R.2 [58];generalize (R.2.need T [58])=s4 at hd9 hg9 |-;have k4:=hg9.le;have k5:=hg9.top hi2;have k6:=hg9.ds;have hlb:=fun da dc=>B2w (pb:=pb) (deep:=0) (da:=da) (dc:=dc) s4.2 hr hT k5 (by omega)
 have hgl:=A3l T s4.2;generalize Sp.lab T s4.2=r5 at hlb hgl |-;have k7:=hgl.le;have k8:=hgl.top k5;have k9:=hgl.ds;have hsd:=fun da dc=>A1h (pb:=pb) (deep:=0) (da:=da) (dc:=dc) r5.2 [115,101,110,100,115] (by simp) hr hT k8
 obtain⟨R6,hR6⟩:∃R6,R6=(if T.is r5.2.i [115,101,110,100,115]=true then A4H T 6 [] r5.2.next else ([],r5.2)):=⟨_,rfl⟩;rw[<-hR6];cases hyes:T.is r5.2.i [115,101,110,100,115]with
 |true=>
  rw[hyes,if_pos rfl]at hR6;rw[hyes,if_pos rfl]at hsd;have hlt6:=A1H hyes;have hni:r5.2.next.i=r5.2.i+1:=rfl;have hnd2:r5.2.next.ds.length=r5.2.ds.length:=rfl;repeat' (first|refine B06 0 (fun x:QSnd=> [(0,ptr pb),(1,ptr bi)]) (fun x w'=>x.n=R6.1.length/\R6.2.i<=T.l.length/\R6.2.ds.length<=16000000/\Mem E I2 [A5Y pb la lc T R6.2 0 x.da x.dc,A39 R6.2.ds x.da x.dc,B50 R6.1 x.n x.a x.cp,.cell bi (A1z 2 r.1 r5.1 (.slice ap R.1.length cp) (.slice x.a x.n x.cp) A31 at_ size (T.tok s.i).pos A31) 43] w') ?_ ?_|refine F6 ?_ hm (hc:=hd9 _ _);clear hm;rintro _ _ _ _ ⟨rfl,rfl,da5,dc5,rfl⟩ hle hm;try simp only[F9]at hm|refine F6 ?_ hm (hc:=hlb _ _);clear hm;rintro _ _ _ _ ⟨rfl,rfl,da6,dc6,rfl⟩ hle hm;try simp only[F9]at hm|refine F6 ?_ hm (hc:=hsd _ _);clear hm;rintro _ _ _ _ ⟨rfl,rfl,da7,dc7,rfl⟩ hle hm;try simp only[F9]at hm|refine O6 hm (k:=?_);clear hm;intro _ hm;try simp only[F9]at hm|refine D8 ?_|refine E5 ?_|refine C9 ?_|refine D9 ?_|refine A7 ?_|refine E8 ?_|refine A8 ?_|refine H6 ?_)
  ·have hm2:=hm.nil 106 2
   clear hm;refine U2 (fun x:QSnd=> [(0,ptr pb),(1,ptr bi)])
    (fun x w'=>Mem E I2 [A5Y pb la lc T x.s 0 x.da x.dc,A39 x.s.ds x.da x.dc,B50 x.l x.n x.a x.cp,.cell bi (A1z 2 r.1 r5.1 (.slice ap R.1.length cp) (.slice x.a x.n x.cp) A31 at_ size (T.tok s.i).pos A31) 43] w'/\
     x.l.length=x.n/\x.n<=5/\x.f+x.n=6/\x.s.i<=T.l.length/\x.s.ds.length<=8000010+2 *x.s.i+3 *x.n/\A4H T x.f x.l x.s=R6)
    (fun x=>x.f) ⟨6,[],0,r5.2.next,none,0,da7,dc7⟩ (by exact⟨rfl,rfl,trivial⟩) ⟨hm2.perm pm2_1,rfl,by dsimp only;omega,rfl,by dsimp only;omega,by dsimp only;omega,hR6.symm⟩ ?_
   clear hm2;rintro⟨f1,l1,n1,s2,a2,cp2,da3,dc3⟩ w2 ⟨hm,hl,hn5,hf,hi3,hd3,hL⟩;dsimp only at hm hl hn5 hf hi3 hd3 hL |-;obtain⟨f1,rfl⟩:∃f',f1=f'+1:=⟨f1-1,by omega⟩;rw[A4H]at hL;by_cases h5:5<=l1.length
   ·rw[if_pos h5]at hL
    subst hL;repeat' (first|refine F6 ?_ hm (hc:=A4g s2 5 hr hT hi3 (by omega));clear hm;rintro _ _ _ _ ⟨rfl,rfl,da4,dc4,rfl⟩ hle hm;try simp only[F9]at hm|refine J4 ?_ hm|refine D8 ?_|refine N9 ?_|refine G7 ?_|refine E5 ?_|refine C9 ?_|refine D9 ?_|refine A7 ?_|refine H9 ?_|refine H5 ?_|refine A1E ?_|refine E8 ?_|refine A8 ?_|refine F5 ?_|refine P9 ?_|(refine D5 (ht:=fun _=>?_) (hf:=fun _=>?_)<;>try first|contradiction|omega))
    exact A02 (⟨0,[],n1,s2,a2,cp2,da4,dc4⟩:QSnd) (by exact⟨rfl,rfl,trivial⟩) ⟨hl.symm,hi3,by simp[Sp.St.bad];omega,hm⟩
   rw[if_neg h5]at hL;dsimp only at hL;have hnm2:=fun da dc=>A87 (pb:=pb) (deep:=0) (da:=da) (dc:=dc) s2 hr hT (by omega) hi3
   have hgn2:=A1e T s2;generalize s2.named T=q at hnm2 hgn2 hL;have hq1:=hgn2.le;have hq2:=hgn2.top hi3;have hq3:=hgn2.ds;have hnl:(l1++ [(⟨q.1,(T.tok s2.i).pos⟩:Sp.Rf)]).length=n1+1:=by simp[hl]
   have hfm:(l1++ [(⟨q.1,(T.tok s2.i).pos⟩:Sp.Rf)]).flatMap A2V=l1.flatMap A2V++ [str q.1,nt (T.tok s2.i).pos]:=by simp
   have hcm:=fun da dc=>A1h (pb:=pb) (deep:=0) (da:=da) (dc:=dc) q.2 [44] (by simp) hr hT hq2
   have hn4:n1<5:=by omega
   have hni:q.2.next.i=q.2.i+1:=rfl;have hnd2:q.2.next.ds.length=q.2.ds.length:=rfl;by_cases hcomma:T.is q.2.i [44]=true
   ·rw[if_pos hcomma]at hL
    rw[hcomma,if_pos (by rfl)]at hcm;have hlt2:=A1H hcomma;repeat' (first|refine A0s (id:=10) (hm.perm pm1_3) 6 8 (h:=?_);clear hm;intro wd hR hm|refine S9 ?_ hm (hc:=A1q s2 hr);clear hm;intro _ hm|refine F6 ?_ hm (hc:=hnm2 _ _);clear hm;rintro _ _ _ _ ⟨rfl,rfl,da4,dc4,rfl⟩ hle hm;try simp only[F9]at hm|refine F6 ?_ hm (hc:=hcm _ _);clear hm;rintro _ _ _ _ ⟨rfl,rfl,da8,dc8,rfl⟩ hle hm;try simp only[F9]at hm|refine A3g ?_ hR|refine Y3 ?_ hR|refine A1U (d:=53) ?_ hm;clear hm;intro a53 cp53 _ _ hm;replace hm:=hR.back hm;clear hR;try simp only[F9]at hm|refine Y5 (d:=4) ?_ hm;clear hm;intro b4 _ hm|refine J4 ?_ hm|refine O6 hm (k:=?_);clear hm;intro _ hm;try simp only[F9]at hm|refine D8 ?_|refine N9 ?_|refine G7 ?_|refine Y9 ?_|refine E5 ?_|refine C9 ?_|refine Q3 ?_|refine D9 ?_|refine A7 ?_|refine D7 ?_|refine E8 ?_|refine A8 ?_|refine F5 ?_|refine G5 ?_|refine F7 ?_|(refine D5 (ht:=fun _=>?_) (hf:=fun _=>?_)<;>try first|contradiction|omega)|refine Z4 ?_|refine O5 ?_|refine J8 ?_|refine A0b ?_)
    refine L9 (⟨f1,_,n1+1,q.2.next,a53,cp53,da8,dc8⟩:QSnd) (by exact⟨rfl,rfl,trivial⟩) ⟨?_,hnl,by dsimp only;omega,by dsimp only;omega,by dsimp only;omega,by dsimp only;omega,hL⟩ (by dsimp only;omega)
    dsimp only[B50];rw[hfm];exact(hm.front 3 rfl).tl
   ·rw[if_neg hcomma]at hL
    rw[show T.is q.2.i [44]=false by simpa using hcomma,if_neg (by simp)]at hcm;subst hL;repeat' (first|refine A0s (id:=10) (hm.perm pm1_3) 6 8 (h:=?_);clear hm;intro wd hR hm|refine S9 ?_ hm (hc:=A1q s2 hr);clear hm;intro _ hm|refine F6 ?_ hm (hc:=hnm2 _ _);clear hm;rintro _ _ _ _ ⟨rfl,rfl,da4,dc4,rfl⟩ hle hm;try simp only[F9]at hm|refine F6 ?_ hm (hc:=hcm _ _);clear hm;rintro _ _ _ _ ⟨rfl,rfl,da8,dc8,rfl⟩ hle hm;try simp only[F9]at hm|refine A3g ?_ hR|refine Y3 ?_ hR|refine A1U (d:=53) ?_ hm;clear hm;intro a53 cp53 _ _ hm;replace hm:=hR.back hm;clear hR;try simp only[F9]at hm|refine Y5 (d:=4) ?_ hm;clear hm;intro b4 _ hm|refine J4 ?_ hm|refine O6 hm (k:=?_);clear hm;intro _ hm;try simp only[F9]at hm|refine D8 ?_|refine N9 ?_|refine G7 ?_|refine Y9 ?_|refine E5 ?_|refine C9 ?_|refine Q3 ?_|refine D9 ?_|refine A7 ?_|refine H9 ?_|refine H5 ?_|refine A1E ?_|refine E8 ?_|refine A8 ?_|refine F5 ?_|refine G5 ?_|refine P9 ?_|refine H6 ?_|(refine D5 (ht:=fun _=>?_) (hf:=fun _=>?_)<;>try first|contradiction|omega)|refine Z4 ?_|refine O5 ?_|refine J8 ?_|refine A0b ?_)
    refine A02 (⟨0,[],n1+1,s2,a53,cp53,da8,dc8⟩:QSnd) (by exact⟨rfl,rfl,trivial⟩) ⟨hnl.symm,hq2,by dsimp only;omega,?_⟩
    dsimp only[B50];rw[hfm];exact(hm.front 3 rfl).tl
  ·clear hm hd9 hlb hsd
   rintro⟨_,_,n2,_,a2,cp2,da3,dc3⟩ w3 ⟨hn,hi3,hd3,hm⟩;dsimp only at hn hm |-;subst hn;have hbl:=fun da dc=>(B3v T pb hT (A6S T)).2 I2 la lc 0 da dc R6.2 hC hr hi3 (by rw[A6S];omega) (by omega) (by omega)
   have hgb:=(A10 T (A6S T)).1 0 R6.2;generalize Sp.block T (A6S T) 0 R6.2=r7 at hbl hgb |-;have j1:=hgb.le;have j2:=hgb.top hi3;have j3:=hgb.ds;repeat' (first|refine F6 ?_ hm (hc:=hbl _ _);clear hm;rintro _ I3 _ _ ⟨⟨ab,cb,xb,rfl,hrow,hsts⟩,da8,dc8,rfl⟩ hle hm;have hleI3:=hle;try simp only[F9]at hm|refine O6 hm (k:=?_);clear hm;intro _ hm;try simp only[F9]at hm|refine D8 ?_|refine E5 ?_|refine C9 ?_|refine D9 ?_|refine A7 ?_|refine A8 ?_|refine X0 ?_)
   obtain⟨I4,hle4,hm4,hrow4⟩:=(hm.front 2 rfl).freeze;exact⟨I4,_,⟨j2,by dsimp only;omega,rfl,ap,cp,a2,cp2,ab,cb,xb,da8,dc8,(hrowp.le hleI3).le hle4,hrow4,hrow.le hle4,X6.le hle4 _ _ hsts,rfl⟩,hm4⟩
 |false=>
  rw[hyes,if_neg (by simp)]at hR6;rw[hyes,if_neg (by simp)]at hsd;have hi3:R6.2.i<=T.l.length:=by rw[hR6];exact k8
  have hd3:R6.2.ds.length<=16000000:=by rw[hR6];dsimp only;omega
  have hs6:R6.1= []:=by rw[hR6]
  have hbl:=fun da dc=>(B3v T pb hT (A6S T)).2 I2 la lc 0 da dc R6.2 hC hr hi3 (by rw[A6S];omega) (by omega) (by omega)
  have hgb:=(A10 T (A6S T)).1 0 R6.2;generalize Sp.block T (A6S T) 0 R6.2=r7 at hbl hgb |-;have j1:=hgb.le;have j2:=hgb.top hi3;have j3:=hgb.ds;subst hR6;repeat' (first|refine F6 ?_ hm (hc:=hd9 _ _);clear hm;rintro _ _ _ _ ⟨rfl,rfl,da5,dc5,rfl⟩ hle hm;try simp only[F9]at hm|refine F6 ?_ hm (hc:=hlb _ _);clear hm;rintro _ _ _ _ ⟨rfl,rfl,da6,dc6,rfl⟩ hle hm;try simp only[F9]at hm|refine F6 ?_ hm (hc:=hsd _ _);clear hm;rintro _ _ _ _ ⟨rfl,rfl,da7,dc7,rfl⟩ hle hm;try simp only[F9]at hm|refine F6 ?_ hm (hc:=hbl _ _);clear hm;rintro _ I3 _ _ ⟨⟨ab,cb,xb,rfl,hrow,hsts⟩,da8,dc8,rfl⟩ hle hm;have hleI3:=hle;try simp only[F9]at hm|refine O6 hm (k:=?_);clear hm;intro _ hm;try simp only[F9]at hm|refine D8 ?_|refine E5 ?_|refine C9 ?_|refine D9 ?_|refine A7 ?_|refine E8 ?_|refine A8 ?_|refine G5 ?_|refine X0 ?_|refine F7 ?_)
  exact⟨I3,_,⟨j2,by dsimp only;omega,rfl,ap,cp,none,0,ab,cb,xb,da8,dc8,hrowp.le hleI3,A0W _ _ _ _ _,hrow,hsts,rfl⟩,hm⟩
theorem C3R (s:List UInt8) (at_:Int) (I:P6) (hC:Conv I) (hs:s.length<=1048576):CalM prog 71 #[str s,.int .i64 at_] I [] (C71 (Sp.item s at_)):=by
 have hT:=C1w s hs;rw[A7M];generalize hTd:(Sp.Src.mk (U8 s) s.length)=T at hT |-;have hsz:T.size=s.length:=by rw[<-hTd]
 have h2:=hT.size;have h3:=hT.len;obtain⟨q,hq⟩:∃q,q=A41 T at_ s.length:=⟨_,rfl⟩;rw[<-hq];refine CalM.of fun w E hm=>enter (N:=67) func71 rfl [(0,str s),(1,.int .i64 at_)] A0T rfl ?_
 repeat' (first|refine B06 0 (fun x:ItX=> [(4,ptr b4),(5,ptr b5),(6,ptr b16)]) (fun x w'=>q.2.i<=T.l.length/\q.2.ds.length<=1099511626000/\A2Y x.I T ta tc/\RowI x.I 103 3 (.slice x.ap q.1.params.length x.cp) q.1.params.length (q.1.params.flatMap A2N)/\RowI x.I 106 2 (.slice x.as_ q.1.sends.length x.cs) q.1.sends.length (q.1.sends.flatMap A2V)/\RowI x.I 111 15 (.slice x.ab q.1.body.length x.cb) q.1.body.length x.xb/\X6 x.I q.1.body x.xb/\Mem E x.I [A5Y b16 ta tc T q.2 0 x.da x.dc,A39 q.2.ds x.da x.dc,.cell b5 (itV q.1 x) 43,.cell b4 (A1z 0 [] 0 A31 A31 A31 0 0 0 A31) 43] w') ?_ ?_|refine A0k (hc:=by exact B6H s (by omega) _) (k:=?_);rintro tv wt ⟨hto,hkt⟩;obtain⟨ta,tc,rfl⟩:=A3D hto;obtain⟨I1,hle1,hm1,hrow⟩:=hm.take hkt hto;clear hm;have hm:=hm1;clear hm1|refine U1 (d:=4) ?_ hm;clear hm;intro b4 _ hm|refine Y5 (d:=5) ?_ hm;clear hm;intro b5 _ hm|refine A0K (d:=16) ?_ hm;clear hm;intro b16 _ hm|refine D8 ?_|refine D6 ?_|refine A0G ?_|refine Q3 ?_|refine D9 ?_|refine A7 ?_|refine E8 ?_|refine A8 ?_)
 ·rename_i wB
  have hr:A2Y I1 T ta tc:=by rw[<-hTd];exact hrow
  have hC1:=hC.le hle1;have hm2:Mem E I1 [A5Y b16 ta tc T ⟨0,[]⟩ 0 none 0,.cell b5 (A1z 3 [] 0 A31 A31 A31 at_ s.length 0 A31) 43,.cell b4 (A1z 0 [] 0 A31 A31 A31 0 0 0 A31) 43] wB:=by rw[<-hTd];exact hm
  have hm3:Mem E I1 [A5Y b16 ta tc T ⟨0,[]⟩ 0 none 0,A39 [] none 0,.cell b5 (A1z 3 [] 0 A31 A31 A31 at_ s.length 0 A31) 43,.cell b4 (A1z 0 [] 0 A31 A31 A31 0 0 0 A31) 43] wB:=(hm2.nil 85 4).swap;clear hm hm2 hrow hto;have hm:=hm3;clear hm3;have hq1:=fun da dc=>A1h (pb:=b16) (deep:=0) (da:=da) (dc:=dc) ⟨0,[]⟩ [102,110] (by simp) hr hT (H7 _)
  have hq2:=fun da dc=>A1h (pb:=b16) (deep:=0) (da:=da) (dc:=dc) ⟨0,[]⟩ [99,104,97,110] (by simp) hr hT (H7 _)
  dsimp only at hq1 hq2;rw[A41]at hq;by_cases hf:T.is 0 [102,110]=true
  ·rw[if_pos hf]at hq
   rw[if_pos hf,hf]at hq1;have hlt:=A1H hf;have hfn:=fun da dc=>C8T T b16 b5 hT I1 ta tc da dc ⟨1,[]⟩ at_ s.length hC1 hr hlt rfl
   rw[<-hq]at hfn;repeat' (first|refine F6 ?_ hm (hc:=hq1 _ _);clear hm;rintro _ _ _ _ ⟨rfl,rfl,da1,dc1,rfl⟩ hle hm;try simp only[F9]at hm|refine F6 ?_ hm (hc:=hfn _ _);clear hm;rintro _ I2 _ _ ⟨hqi,hqd,rfl,ap,cp,as_,cs,ab,cb,xb,da2,dc2,r1,r2,r3,r4,rfl⟩ hle hm;have hleI2:=hle;try simp only[F9]at hm|refine D8 ?_|refine D6 ?_|refine D9 ?_|refine A7 ?_|refine D7 ?_|refine A8 ?_|refine H6 ?_)
   exact A02 (⟨I2,da2,dc2,ap,cp,as_,cs,ab,cb,xb⟩:ItX) (by exact⟨rfl,rfl,rfl,trivial⟩) ⟨hqi,hqd,hr.le hleI2,r1,r2,r3,r4,hm⟩
  rw[if_neg hf]at hq;rw[if_neg hf,show T.is 0 [102,110]=false by simpa using hf]at hq1;by_cases hc:T.is 0 [99,104,97,110]=true
  ·rw[if_pos hc,B0A]at hq
   rw[if_pos hc,hc]at hq2;have hlt:=A1H hc;dsimp only at hq;have hnm:=fun da dc=>A87 (pb:=b16) (deep:=0) (da:=da) (dc:=dc) ⟨1,[]⟩ hr hT (by simp) hlt
   have hhr:=fun da dc=>A1q (pb:=b16) (deep:=0) (da:=da) (dc:=dc) ⟨1,[]⟩ hr
   have hgn:=A1e T ⟨1,[]⟩;generalize (⟨1,[]⟩:Sp.St).named T=r at hnm hgn hq;have hn1:=hgn.le;have hn2:=hgn.top hlt;have hn3:=hgn.ds;dsimp only[List.length_nil]at hn1 hn3;have hd1:=fun da dc=>A2T (pb:=b16) (deep:=0) (da:=da) (dc:=dc) r.2 [58] (by simp) hr hT (by omega) hn2
   have hg1:=A0C T r.2 [58];generalize (r.2.need T [58])=s1 at hd1 hg1 hq;have k1:=hg1.le;have k2:=hg1.top hn2;have k3:=hg1.ds;have hlb:=fun da dc=>B2w (pb:=b16) (deep:=0) (da:=da) (dc:=dc) s1.2 hr hT k2 (by omega)
   have hgl:=A3l T s1.2;generalize Sp.lab T s1.2=r2 at hlb hgl hq;have k4:=hgl.le;have k5:=hgl.top k2;have k6:=hgl.ds;have hd2:=fun da dc=>A2T (pb:=b16) (deep:=0) (da:=da) (dc:=dc) r2.2 [59] (by simp) hr hT (by omega) k5
   have hg2:=A0C T r2.2 [59];generalize (r2.2.need T [59])=s3 at hd2 hg2 hq;have k7:=hg2.le;have k8:=hg2.top k5;have k9:=hg2.ds;subst hq;repeat' (first|refine F6 ?_ hm (hc:=hq1 _ _);clear hm;rintro _ _ _ _ ⟨rfl,rfl,da5,dc5,rfl⟩ hle hm;try simp only[F9]at hm|refine F6 ?_ hm (hc:=hq2 _ _);clear hm;rintro _ _ _ _ ⟨rfl,rfl,da6,dc6,rfl⟩ hle hm;try simp only[F9]at hm|refine S9 ?_ hm (hc:=hhr _ _);clear hm;intro _ hm|refine F6 ?_ hm (hc:=hnm _ _);clear hm;rintro _ _ _ _ ⟨rfl,rfl,da1,dc1,rfl⟩ hle hm;try simp only[F9]at hm|refine F6 (d:=48) ?_ hm (hc:=hd2 _ _);clear hm;rintro _ _ _ _ ⟨rfl,rfl,da4,dc4,rfl⟩ hle hm;try simp only[F9]at hm|refine F6 ?_ hm (hc:=hd1 _ _);clear hm;rintro _ _ _ _ ⟨rfl,rfl,da2,dc2,rfl⟩ hle hm;try simp only[F9]at hm|refine F6 ?_ hm (hc:=hlb _ _);clear hm;rintro _ _ _ _ ⟨rfl,rfl,da3,dc3,rfl⟩ hle hm;try simp only[F9]at hm|refine O6 hm (k:=?_);clear hm;intro _ hm;try simp only[F9]at hm|refine D8 ?_|refine D6 ?_|refine C9 ?_|refine D9 ?_|refine A7 ?_|refine D7 ?_|refine E8 ?_|refine A8 ?_|refine H6 ?_|refine F7 ?_)
   exact A02 (⟨I1,da4,dc4,none,0,none,0,none,0,[]⟩:ItX) (by exact⟨rfl,rfl,rfl,trivial⟩) ⟨k8,by dsimp only;omega,hr,A0W _ _ _ _ _,A0W _ _ _ _ _,A0W _ _ _ _ _,.nil,hm⟩
  ·rw[if_neg hc]at hq
   rw[if_neg hc,show T.is 0 [99,104,97,110]=false by simpa using hc]at hq2;subst hq;repeat' (first|refine F6 ?_ hm (hc:=hq1 _ _);clear hm;rintro _ _ _ _ ⟨rfl,rfl,da5,dc5,rfl⟩ hle hm;try simp only[F9]at hm|refine F6 ?_ hm (hc:=hq2 _ _);clear hm;rintro _ _ _ _ ⟨rfl,rfl,da6,dc6,rfl⟩ hle hm;try simp only[F9]at hm|refine F6 ?_ hm (hc:=A4g ⟨0,[]⟩ 2 hr hT (H7 _) (by simp));clear hm;rintro _ _ _ _ ⟨rfl,rfl,da2,dc2,rfl⟩ hle hm;try simp only[F9]at hm|refine J4 ?_ hm|refine O6 hm (k:=?_);clear hm;intro _ hm;try simp only[F9]at hm|refine D8 ?_|refine D6 ?_|refine G7 ?_|refine E5 ?_|refine C9 ?_|refine D9 ?_|refine A7 ?_|refine D7 ?_|refine E8 ?_|refine A8 ?_|refine F7 ?_)
   exact A02 (⟨I1,da2,dc2,none,0,none,0,none,0,[]⟩:ItX) (by exact⟨rfl,rfl,rfl,trivial⟩) ⟨G9 _,by simp[Sp.St.bad],hr,A0W _ _ _ _ _,A0W _ _ _ _ _,A0W _ _ _ _ _,.nil,hm⟩
 clear hm;rintro⟨I2,da,dc,ap,cp,as_,cs,ab,cb,xb⟩ w2 ⟨hi,hd,hr,r1,r2,r3,r4,hm⟩;dsimp only[itV]at hi hd hr r1 r2 r3 r4 hm |-;rw[B4B];by_cases hlt:q.2.i<T.l.length
 ·rw[if_pos hlt]
  repeat' (first|refine F6 ?_ hm (hc:=A4g q.2 2 hr hT hi (by omega));clear hm;rintro _ _ _ _ ⟨rfl,rfl,da2,dc2,rfl⟩ hle hm;try simp only[F9]at hm|refine J4 ?_ hm|refine Y1 ?_ hm|refine V3 ?_ hm|refine N7 ?_ hm;clear hm;intro _ hm;try simp only[F9]at hm|refine O6 hm (k:=?_);clear hm;intro _ hm;try simp only[F9]at hm|refine Y4 ?_ hm|refine D8 ?_|refine E5 ?_|refine C9 ?_|refine D9 ?_|refine A7 ?_|refine E8 ?_|refine A8 ?_|refine H8 ?_|refine U5 ?_|refine A0j ?_;intro _ hkq;replace hm:=hm.kept0 hkq;clear hkq|(refine D5 (ht:=fun _=>?_) (hf:=fun _=>?_)<;>try first|contradiction|omega)|refine X5 ?_|refine A2y ?_|refine V4 ?_|refine O8 ?_|refine L6 ?_)
  obtain⟨I3,hle3,hm3,hrow3⟩:=(hm.front 1 rfl).freeze;exact⟨I3,[],⟨_,rfl,⟨ap,cp,as_,cs,ab,cb,da2,dc2,xb,rfl,r1.le hle3,r2.le hle3,r3.le hle3,X6.le hle3 _ _ r4,hrow3⟩,rfl⟩,hm3.left (H:= [])⟩
 ·rw[if_neg hlt]
  repeat' (first|refine J4 ?_ hm|refine Y1 ?_ hm|refine V3 ?_ hm|refine N7 ?_ hm;clear hm;intro _ hm;try simp only[F9]at hm|refine O6 hm (k:=?_);clear hm;intro _ hm;try simp only[F9]at hm|refine Y4 ?_ hm|refine D8 ?_|refine E5 ?_|refine C9 ?_|refine D9 ?_|refine A7 ?_|refine E8 ?_|refine A8 ?_|refine G5 ?_|refine H8 ?_|refine U5 ?_|refine A0j ?_;intro _ hkq;replace hm:=hm.kept0 hkq;clear hkq|(refine D5 (ht:=fun _=>?_) (hf:=fun _=>?_)<;>try first|contradiction|omega)|refine X5 ?_|refine A2y ?_|refine V4 ?_|refine O8 ?_|refine L6 ?_)
  obtain⟨I3,hle3,hm3,hrow3⟩:=(hm.front 1 rfl).freeze;exact⟨I3,[],⟨_,rfl,⟨ap,cp,as_,cs,ab,cb,da,dc,xb,rfl,r1.le hle3,r2.le hle3,r3.le hle3,X6.le hle3 _ _ r4,hrow3⟩,rfl⟩,hm3.left (H:= [])⟩
theorem C3S (it:Sp.Itm) (hs:it.small) (I:P6) (cs:List Value) (hi:A5W I it cs):CalM prog 48 #[.agg cs.toArray] I [] (C71 it):=by
 obtain⟨ap,cp,as_,cs',ab,cb,ad,cd,xb,rfl,r1,r2,r3,r4,r5⟩:=hi;have k1:=hs.params;have k2:=hs.sends;have k3:=hs.diags;have k4:=hs.body;refine CalM.of fun w E hm=>enter (N:=20) func48 rfl [(0,.agg (A1z it.kind it.name it.label (.slice ap it.params.length cp) (.slice as_ it.sends.length cs') (.slice ab it.body.length cb) it.at_ it.size it.mark (.slice ad it.diags.length cd)).toArray)] A0I rfl ?_
 have c1:=fun (I':P6) (m:Le I I')=>C3Q I' ap it.params.length cp _ (r1.le m) (B7I _) (by omega)
 have c2:=fun (I':P6) (m:Le I I')=>B7E I' as_ it.sends.length cs' _ (r2.le m) (C0t _) (by omega)
 have c3:=fun (I':P6) (m:Le I I')=>B7D I' ad it.diags.length cd _ (r5.le m) (B92 _) (by omega)
 have c4:=fun (I':P6) (m:Le I I')=>B9m (SizeOf.sizeOf it.body) it.body (G9 _) (by omega) hs.stms I' ab cb xb (r3.le m) (X6.le m _ _ r4)
 repeat' (first|refine A8s (id:=1) (hm.perm pm0) [([0,1,3,4,6,7],[2]),([9],[5]),([],[8])] 10 (h:=?_);clear hm;intro wd hR hm|refine U7 (d:=5) ?_ hm (hc:=c1 _ (Le.refl _));clear hm;rintro _ I2 _ _ ⟨rfl,a1,d1,rfl,s1⟩ hle hm;have hleI2:=hle;try simp only[F9]at hm|refine U7 (d:=8) ?_ hm (hc:=c2 _ hleI2);clear hm;rintro _ I3 _ _ ⟨rfl,a2,d2,rfl,s2⟩ hle hm;have hleI3:=hle;try simp only[F9]at hm|refine U7 (d:=11) ?_ hm (hc:=c3 _ (hleI2.trans hleI3));clear hm;rintro _ I4 _ _ ⟨rfl,a3,d3,rfl,s3⟩ hle hm;have hleI4:=hle;try simp only[F9]at hm|refine F6 ?_ hm (hc:=c4 _ ((hleI2.trans hleI3).trans hleI4));clear hm;rintro _ I5 _ _ ⟨rfl,a4,d4,xs4,rfl,s4,t4⟩ hle hm;have hleI5:=hle;try simp only[F9]at hm|refine Y3 ?_ hR|refine B2F ?_|refine B2E ?_|refine A0w ?_|refine C4R ?_|refine B6d ?_;replace hm:=hR.back hm;clear hR;try simp only[F9]at hm|refine A0K (d:=1) ?_ hm;clear hm;intro b1 _ hm|refine U1 (d:=2) ?_ hm;clear hm;intro b2 _ hm|refine J4 ?_ hm|refine Y1 ?_ hm|refine N7 ?_ hm;clear hm;intro _ hm;try simp only[F9]at hm|refine O6 hm (k:=?_);clear hm;intro _ hm;try simp only[F9]at hm|refine Y4 ?_ hm|refine C9 ?_|refine D9 ?_|refine A7 ?_|refine E8 ?_|refine A8 ?_|refine H8 ?_|refine J8 ?_)
 exact⟨I5,[],⟨_,rfl,⟨a1,d1,a2,d2,a4,d4,a3,d3,xs4,rfl,((s1.le hleI3).le hleI4).le hleI5,(s2.le hleI4).le hleI5,s4,t4,s3.le hleI5⟩,rfl⟩,hm.left (H:= [])⟩
structure AgX where
 k:Nat
 I:P6
 a:Option Addr
 cp:Nat
 xs:List Value
abbrev it0:List Value:=A1z 0 [] 0 A31 A31 A31 0 0 0 A31
theorem B1N (w:World):(zeroValue 43).run prog w=.ok (.agg it0.toArray) w:=by kernel_rfl
abbrev B9U (fresh err:Nat) (its:List Sp.Itm):Value->P6->List HItem->Prop:=fun v I' H'=> ∃a cp xs,v=.tuple #[.agg [.slice a its.length cp].toArray,nt fresh,nt err]/\RowI I' 43 10 (.slice a its.length cp) its.length xs/\A5f I' its xs/\H'= []
theorem B6L (s:List UInt8):(Y2 s).length<=s.length:=by
 obtain⟨r,h1,h2⟩:=B0B s (U8 s) [];have e:Y2 s=r:=by rw[Y2,h1];simp
 have:=h2.length_le;have:=A7C s;rw[e];simp at *
 omega
theorem C3O (s:List UInt8) (I:P6) (hC:Conv I) (hs:s.length<=9223372036854775807):CalM prog 40 #[.agg [.slice none 0 0].toArray,str [],str s] I [] (B9U (J7 s).length (Z5 s) (J7 s)):=by
 refine CalM.of fun w E hm=>enter (N:=127) func40 rfl [(0,.agg [.slice none 0 0].toArray),(1,str []),(2,str s)] A3C rfl ?_
 by_cases hl:s.length>4000
 ·have he:Z5 s=4:=by rw[Z5,if_pos hl]
  have hi:J7 s= []:=by rw[J7,he];rfl
  rw[he,hi];repeat' (first|refine A5y hm (by rfl) (by rfl) (by rfl) (by rfl) (by first|exact gt0|exact gt1|exact gt2|exact gt3|exact gt4|exact gt5|exact gt6) (by rfl) ?_|refine A0K (d:=3) ?_ hm;clear hm;intro b3 _ hm|refine U1 (d:=6) ?_ hm;clear hm;intro b6 _ hm|refine N7 ?_ hm;clear hm;intro _ hm;try simp only[F9]at hm|refine D8 ?_|refine D6 ?_|refine A0F ?_|refine A0G ?_|refine Q3 ?_|refine D9 ?_|refine A7 ?_|refine G8 ?_|refine E8 ?_|refine A8 ?_|refine H8 ?_|(refine D5 (ht:=fun _=>?_) (hf:=fun _=>?_)<;>try first|contradiction|omega))
  exact⟨_,_,⟨none,0,[],rfl,A0W _ _ _ _ _,rfl,rfl⟩,hm.left (H:= [])⟩
 have hcl:=B6L s;repeat' (first|refine B1x ?_ hm;clear hm;intro bm _ hm|refine A0K (d:=3) ?_ hm;clear hm;intro b3 _ hm|refine U1 (d:=6) ?_ hm;clear hm;intro b6 _ hm|refine J4 ?_ hm|refine D8 ?_|refine D6 ?_|refine A0F ?_|refine A0G ?_|refine G7 ?_|refine C9 ?_|refine D9 ?_|refine A7 ?_|refine E8 ?_|refine A8 ?_|refine F5 ?_|refine G5 ?_|(refine D5 (ht:=fun _=>?_) (hf:=fun _=>?_)<;>try first|contradiction|omega))
 refine U2 (fun _:Unit=> [(2,str s),(3,ptr b3),(6,ptr b6),(9,.map (some bm)),(26,nt 0),(27,nt 0)]) (fun _ w'=>Mem E I [.mp bm [],.cell b6 [.slice none 0 0] 25,.cell b3 [.slice none 0 0] 25] w') (fun _=>0) () (by exact⟨rfl,rfl,rfl,rfl,rfl,rfl,trivial⟩) hm ?_
 clear hm;rintro⟨⟩ w1 hm;repeat' (first|refine A0k (hc:=by exact C2r s (by omega) _) (k:=?_);rintro tv wt ⟨hto,hkt⟩;obtain⟨ta,tc,rfl⟩:=A3D hto;replace hm:=hm.add (x:=.row (.slice ta (Y2 s).length tc) 3 1 (Y2 s).length ((Y2 s).flatMap A1t)) hkt (A32 hto (H7 _)) (fun b hb=>(hto.lt b hb).1)|refine U1 (d:=12) ?_ hm;clear hm;intro b12 _ hm|refine A2l (d:=73) ?_ hm;clear hm;intro a73 cp73 _ _ hm;try simp only[F9]at hm|refine D8 ?_|refine D6 ?_|refine J6 ?_|refine A0G ?_|refine G7 ?_|refine A3i ?_|refine D9 ?_|refine A7 ?_|refine H9 ?_|refine H5 ?_|refine E8 ?_|refine A8 ?_|refine F5 ?_|refine P9 ?_|refine F7 ?_)
 obtain⟨I2,hle2,hm2,hrow⟩:=hm.freeze;clear hm hto hkt;have hm:=hm2.nil 43 10;clear hm2;obtain⟨n,hn⟩:∃n,n=(Y2 s).length:=⟨_,rfl⟩;have hcat:∀k,k<n->(Y2 s).getD k 0<(Y2 s).getD (k+1) s.length/\(Y2 s).getD (k+1) s.length<=s.length:=fun k hk=>A7E s (by omega)
 have hfl:(Y2 s).flatMap A1t++ [nt s.length]=(Y2 s++ [s.length]).flatMap A1t:=by rw[X9];rfl
 have hz1:∀k,k<n->(Y2 s++ [s.length])[k]?=some ((Y2 s).getD k 0):=fun k hk=>by
  rw[A3r (by omega),O4,G6 (by omega)];rfl
 have hz2:∀k,k<n->(Y2 s++ [s.length])[k+1]?=some ((Y2 s).getD (k+1) s.length):=fun k hk=>by
  rcases U0 (k+1) (Y2 s).length with h|h
  ·rw[A3r h,O4,G6 h];rfl
  ·rw[A19 h,show k+1-(Y2 s).length=0 by omega,O4,A07 h];rfl
 have hsm:∀k,(A1b s (Y2 s) k).length<=1048576:=fun k=>by rw[A1b,Q4,A0r];omega
 have hits0:A3I s (Y2 s)=(List.range n).map (A0S s (Y2 s)):=by rw[A3I,hn]
 have herr:30<n->Z5 s=5/\J7 s= []:=fun h=>by
  have:Z5 s=5:=by rw[Z5,if_neg hl,if_pos (by omega)]
  exact⟨this,by rw[J7,this];rfl⟩
 have hok:n<=30->Z5 s=0/\J7 s=A3I s (Y2 s):=fun h=>by
  have:Z5 s=0:=by rw[Z5,if_neg hl,if_neg (by omega)]
  exact⟨this,by rw[J7,this];rfl⟩
 change RowI I2 3 1 (.slice a73 ((Y2 s).length+1) cp73) ((Y2 s).length+1) ((Y2 s).flatMap A1t++ [nt s.length]) at hrow
 rw[hfl, <-hn]at hrow;rw[<-hn]at hcl |-;generalize Z5 s=er at herr hok |-;generalize J7 s=its at herr hok |-;clear hn hfl;have hsmall:∀k,(A0S s (Y2 s) k).small:=fun k=>A4z _ _ (hsm k)
 generalize Y2 s=cz at hrow hcat hz1 hz2 hits0 hok hsm hsmall;refine U2 (fun x:AgX=> [(2,str s),(6,ptr b6),(9,.map (some bm)),(12,ptr b12),(13,nt x.k),(14,.slice a73 (n+1) cp73),(76,.int .i64 (((n+1:Nat):Int)-1)),(77,nt x.k)])
  (fun x w'=>Mem E x.I [B3e x.k x.a x.cp x.xs,.cell b12 [.slice x.a x.k x.cp] 25,.mp bm [],.cell b6 [.slice none 0 0] 25,.cell b3 [.slice none 0 0] 25] w'/\Le I2 x.I/\A5f x.I ((List.range x.k).map (A0S s cz)) x.xs/\x.k<=n/\x.k<=30)
  (fun x=>n-x.k) ⟨0,I2,none,0,[]⟩ (by exact⟨rfl,rfl,rfl,rfl,rfl,rfl,rfl,rfl,trivial⟩) ⟨hm,Le.refl _,rfl,H7 _,by dsimp only;omega⟩ ?_
 clear hm;rintro⟨k,I3,a,cp,xs⟩ w2 ⟨hm,hle3,hits,hk,hk30⟩;dsimp only at hm hle3 hits hk hk30 |-;have hrow2:=hrow.le hle3;by_cases hlt:k<n
 ·by_cases h30:k=30
  ·obtain⟨he,hi⟩:=herr (by omega)
   subst he;subst hi;repeat' (first|refine A5y hm (by rfl) (by rfl) (by rfl) (by rfl) (by first|exact gt0|exact gt1|exact gt2|exact gt3|exact gt4|exact gt5|exact gt6) (by rfl) ?_|refine J4 ?_ hm|refine N7 ?_ hm;clear hm;intro _ hm;try simp only[F9]at hm|refine D8 ?_|refine D6 ?_|refine J6 ?_|refine N9 ?_|refine G7 ?_|refine C9 ?_|refine Q3 ?_|refine D9 ?_|refine A7 ?_|refine G8 ?_|refine O1 ?_|refine E8 ?_|refine A8 ?_|refine F5 ?_|refine G5 ?_|refine H8 ?_|(refine D5 (ht:=fun _=>?_) (hf:=fun _=>?_)<;>try first|contradiction|omega))
   exact⟨_,_,⟨none,0,[],rfl,A0W _ _ _ _ _,rfl,rfl⟩,hm.left (H:= [])⟩
  ·have hca:=hcat k hlt
   have hza:(cz++ [s.length])[((k:Nat):Int).toNat]?=some (cz.getD k 0):=by rw[A1v];exact hz1 k hlt
   have hzb:(cz++ [s.length])[(((k:Nat):Int)+1).toNat]?=some (cz.getD (k+1) s.length):=by
    rw[show (((k:Nat):Int)+1).toNat=k+1 by omega];exact hz2 k hlt
   have hit:=C3R (A1b s cz k) ((cz.getD k 0:Nat):Int) I3 ((hC.le hle2).le hle3) (hsm k);rw[show Sp.item (A1b s cz k) ((cz.getD k 0:Nat):Int)=A0S s cz k from rfl,A1b]at hit;have hat:(A0S s cz k).at_=((cz.getD k 0:Nat):Int):=B2t _ _;have hsk:=hsmall k;have hsn:=B3g s cz k;generalize A0S s cz k=it at hit hat hsk hsn;generalize cz.getD (k+1) s.length=e2 at hca hzb hit;generalize cz.getD k 0=e1 at hca hza hit hat
   clear hsmall hsm hcat hz1 hz2 hits0 herr hok;repeat' (first|refine A0s (id:=24) (hm.perm pm1_1) 3 6 (h:=?_);clear hm;intro wd hR hm|refine Z7 (d:=88) (enc:=A1t) (z:=e1) ?_ (hr:=hrow2) (he:=fun _=>rfl) (hz:=hza);intro bt ot hpt|refine Z7 (d:=93) (enc:=A1t) (z:=e2) ?_ (hr:=hrow2) (he:=fun _=>rfl) (hz:=hzb);intro bt2 ot2 hpt2|refine B1w hm (by rfl) (by rfl) (by rfl) (by rfl) (by first|exact gt0|exact gt1|exact gt2|exact gt3|exact gt4|exact gt5|exact gt6) (by exact List.nodup_nil) B1N ?_|refine Q9 (d:=109) (enc:=A1t) (z:=e1) ?_ (hr:=hrow2) (he:=fun _=>rfl) (hz:=hza);intro bt3 ot3 hpt3|refine F6 ?_ hm (hc:=hit);clear hm;rintro _ I4 _ _ ⟨_,rfl,⟨ap,cp1,as_,cs1,ab,cb,ad,cd,xb,rfl,r1,r2,r3,r4,r5⟩,rfl⟩ hle hm;have hleI4:=hle;try simp only[F9]at hm|refine Q9 (d:=114) (enc:=A1t) (z:=e1) ?_ (hr:=hrow2.le hleI4) (he:=fun _=>rfl) (hz:=hza);intro bt4 ot4 hpt4|refine U7 (d:=120) ?_ hm (hc:=C3S it hsk _ _ ⟨ap,cp1,as_,cs1,ab,cb,ad,cd,xb,by rw[hat],r1,r2,r3,r4,r5⟩);clear hm;rintro _ I5 _ _ ⟨_,rfl,⟨ap2,cp2,as2,cs2,ab2,cb2,ad2,cd2,xb2,rfl,q1,q2,q3,q4,q5⟩,rfl⟩ hle hm;have hleI5:=hle;try simp only[F9]at hm|refine A3g ?_ hR|refine Y3 ?_ hR|refine A1U (d:=122) ?_ hm;clear hm;intro a122 cp122 _ _ hm;replace hm:=hR.back hm;clear hR;try simp only[F9]at hm|refine Y5 (d:=17) ?_ hm;clear hm;intro b17 _ hm|refine J4 ?_ hm|refine A1w ?_ hm|refine B1s ?_ hm|refine N7 ?_ hm;clear hm;intro _ hm;try simp only[F9]at hm|refine O6 hm (k:=?_);clear hm;intro _ hm;try simp only[F9]at hm|refine D8 ?_|refine D6 ?_|refine J6 ?_|refine N9 ?_|refine G7 ?_|refine Y9 ?_|refine W9 ?_|refine P7 ?_|refine C9 ?_|refine D9 ?_|refine A7 ?_|refine D7 ?_|refine E8 ?_|refine A8 ?_|refine F5 ?_|refine G5 ?_|refine U5 ?_|refine A0j ?_;intro _ hkq;replace hm:=hm.kept0 hkq;clear hkq|refine H6 ?_|(refine D5 (ht:=fun _=>?_) (hf:=fun _=>?_)<;>try first|contradiction|omega)|refine X5 ?_|refine A1X ?_|refine A9W ?_|refine A9b ?_|refine J8 ?_|refine A0b ?_)
   refine L9 (⟨k+1,I5,_,_,_⟩:AgX) (by exact⟨rfl,rfl,rfl,rfl,rfl,rfl,rfl,rfl,trivial⟩) ⟨(hm.front 1 rfl).tl,(hle3.trans hleI4).trans hleI5,?_,by dsimp only;omega,by dsimp only;omega⟩ (by dsimp only;omega)
   dsimp only
   rw[hsn];exact(hits.le (hleI4.trans hleI5)).snoc ⟨ap2,cp2,as2,cs2,ab2,cb2,ad2,cd2,xb2,rfl,q1,q2,q3,q4,q5⟩
 ·obtain rfl:k=n:=by omega
  obtain⟨he,hi⟩:=hok hk30;subst he;subst hi;have hln:(A3I s cz).length=k:=by rw[hits0];simp
  repeat' (first|refine A5y hm (by rfl) (by rfl) (by rfl) (by rfl) (by first|exact gt0|exact gt1|exact gt2|exact gt3|exact gt4|exact gt5|exact gt6) (by rfl) ?_|refine Y1 ?_ hm|refine N7 ?_ hm;clear hm;intro _ hm;try simp only[F9]at hm|refine D8 ?_|refine D6 ?_|refine J6 ?_|refine D9 ?_|refine A7 ?_|refine H9 ?_|refine H5 ?_|refine E8 ?_|refine A8 ?_|refine P9 ?_|refine H8 ?_|(refine D5 (ht:=fun _=>?_) (hf:=fun _=>?_)<;>try first|contradiction|omega))
  obtain⟨I4,hle4,hm4,hrow4⟩:=(hm.front 0 rfl).freeze;refine⟨I4,[],⟨a,cp,xs,?_,?_,by rw[hits0];exact hits.le hle4,rfl⟩,hm4.left (H:= [])⟩
  ·rw[hln];rfl
  ·rw[hln];exact hrow4
theorem C69 (s:List UInt8) (I:P6) (hC:Conv I) (hs:s.length<=9223372036854775807):CalM prog 12 #[str s] I [] (C6A (Z5 s) (J7 s)):=by
 refine CalM.of fun w E hm=>enter (N:=16) func12 rfl [(0,str s)] A0I rfl ?_
 repeat' (first|refine F6 ?_ hm (hc:=C3O s I hC hs);clear hm;rintro _ I2 _ _ ⟨a,cp,xs,rfl,hrow,hits,rfl⟩ hle hm;have hleI2:=hle;try simp only[F9]at hm|refine U1 (d:=2) ?_ hm;clear hm;intro b2 _ hm|refine Y5 (d:=4) ?_ hm;clear hm;intro b4 _ hm|refine Y1 ?_ hm|refine N7 ?_ hm;clear hm;intro _ hm;try simp only[F9]at hm|refine A2S ?_ hm|refine D8 ?_|refine D6 ?_|refine W9 ?_|refine Q3 ?_|refine D9 ?_|refine A7 ?_|refine E8 ?_|refine A8 ?_|refine H8 ?_)
 exact⟨I2,[],⟨a,cp,xs,rfl,hrow,hits,rfl⟩,hm.left (H:= [])⟩
end Go.Proofs
