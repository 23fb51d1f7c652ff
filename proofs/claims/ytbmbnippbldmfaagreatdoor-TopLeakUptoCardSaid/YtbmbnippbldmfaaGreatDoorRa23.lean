/- Own work. -/
import Derived.Test.YtbmbnippbldmfaaGreatDoorRa22
import Derived.Sort.OwnSortedInts
import Derived.Lib.SlicesCompact
set_option maxHeartbeats 64000000
namespace Go.Sp
theorem D09 (src:List UInt8) (at_:Int) (h:src.length<=1048576):ItF (item src at_)/\(item src at_).label<256/\∀p∈(item src at_).params,p.label<256:=by
 have hA:=B4i (src:=src) (p:=B1L) (q:=B24) (r:=fun p=>p.label<256) (t:=fun _=>True) at_ ⟨trivial,fun _=>trivial,fun _ _ _ _=>trivial,fun _ _=>trivial,fun _ _ _ _ _ _=>trivial,fun _ _ _ _ _ _ _ _ _ _ _ _ _ _ _ _=>trivial⟩
  ⟨by show 0<256;omega,fun _ _ lb _ _ h=>A7F h,fun _ _ _=>(by show 0<256;omega),fun _ _ _ _=>(by show 0<256;omega),fun _ _ _=>(by show 0<256;omega)⟩ (fun _ lb h=>A7F h) (fun _=>trivial)
 have hc:=B15 src at_;exact⟨⟨A6G src at_ h,hA.body,by omega⟩,A7F hA.label,hA.params⟩
theorem D0J (s:List UInt8):(∀x∈G8 s,ItF x)/\A3Y (G8 s):=by
 have key:∀x∈G8 s,ItF x/\x.label<256/\∀p∈x.params,p.label<256:=by
  intro x hx;by_cases h0:Y1 s=0
  ·have hl:s.length<=4000:=by
    rw[Y1]at h0;split at h0
    ·cases h0
    ·omega
   rw[G8,if_pos h0,A3Z]at hx;obtain⟨j,_,rfl⟩:=Y7.1 hx;exact D09 _ _ (by rw[A1v,P9,A0v];omega)
  ·rw[G8,if_neg h0]at hx
   simp at hx
 exact⟨fun x hx=>(key x hx).1,fun x hx=>(key x hx).2⟩
end Go.Sp
namespace Go.Fw
open Go.Sp
open Go
section
variable {P:Program}{N:Nat}{ds:List Deferred}{Q:Exit->Act->World->Prop}{K:Act->Prop}{l:Log}{w w0:World}{ops:Array Oper}{os os' tail:List Oper}{X:List Nat}
variable {d:Nat}{ty:TypeId}{pos:String}{af:Array Edge}{g:Option (Nat×Bool)}{t t':TypeId}{x y:Operand}{I I0:P8}{H:List HItem}
theorem D5x {m' f:Nat}{listed:Array Bool}{a b:Int} (hC:Kept X w0 w) (hw:X9 ops l ⟨some d,.binOp .add t x y t',ty,pos,af,g⟩=some true) (hN:Nat.blt d N=true)
  (hx:ev l x=some (.int .i64 a)) (hy:ev l y=some (.int .i64 b))
  (k:WA P N ds ops Q X w0 m' f listed tail ((d,.int .i64 (Sp.w64 (a+b)))::l) w):WU P N ds ops Q X w0 m' f listed tail ⟨some d,.binOp .add t x y t',ty,pos,af,g⟩ l w:=
 A6w rfl hw hN (fun c hc=>by simp[execOp,hc.ev hx,hc.ev hy,eqGuard,binOp,Op.intArith,B4Q]) hC k
theorem D8o {m' f:Nat}{listed listed':Array Bool} (he:listed=listed') (h:WA P N ds ops Q X w0 m' f listed' tail l w):WA P N ds ops Q X w0 m' f listed tail l w:=he ▸ h
theorem C8W {e:TypeId}{sz by_ n:Nat} [TySlice P t e] [Elem P e sz by_] {ps:List (Nat×Operand)}{vs:List (Nat×Value)}{xs:List Value} (hm:Mem ⟨w0,X,I0⟩ I H w)
  (hw:X9 ops l ⟨some d,.buildSlice t n ps.toArray,ty,pos,af,g⟩=some true) (hN:Nat.blt d N=true) (hx:evp l ps=some vs)
  (hi:vs.map (·.1)=List.range' 0 n) (hs:vs.all (fun p=>Nat.beq p.2.cells.toList.length sz)=true) (hn:Nat.ble (n *sz) 16777216=true) (hxs:vs.flatMap (·.2.cells.toList)=xs)
  (k:∀I' a w',Le I I'->Mem ⟨w0,X,I0⟩ I' H w'->RowI I' e sz (.slice a n n) n xs->WS P N ds ops Q X w0 os' tail ((d,.slice a n n)::l) w'):
  WS P N ds ops Q X w0 (⟨some d,.buildSlice t n ps.toArray,ty,pos,af,g⟩::os') tail l w:=by
 subst hxs;have hk:=Kept.alloc w (.cells (vs.flatMap (·.2.cells.toList)).toArray e (0,0));obtain⟨h1,h2⟩:=hm.fresh hk (H7 _) (heap_alloc_new w _);refine A5W rfl hw hN (fun a ha=>C9s ha hx hi hs (A4q hn)) h2.kept (k _ _ _ h1 h2 ⟨?_,_,_,rfl,H7 _,fun _=>⟨w.heap.size,0,_,(_,_),rfl,P8.add_self _ _ _,fun j u hj=>by rw[V9];simpa using hj⟩⟩)
 have hlen:vs.length=n:=by have:=congrArg List.length hi;simpa using this
 rw[C6I vs hs,hlen]
end
end Go.Fw
namespace Go.Sp
structure AllOk (src:List UInt8) (its:List Itm):Prop where
 len:src.length<=4000
 few:its.length<=30
 nm:∀x∈its,ItN src x
 fl:∀x∈its,ItF x
 lab:A3Y its
 ef:∀x∈its,x.fit/\U1 x.body<=400000000
 nms:(A4S its).length<=960000
theorem A8q {s:List UInt8} (h:Y1 s=0):AllOk s (G8 s):=by
 obtain⟨g1,few⟩:=C2z s;obtain⟨k1,k2⟩:=D0J s;have hl:s.length<=4000:=by
  rw[Y1]at h;split at h
  ·cases h
  ·omega
 exact⟨hl,few,D0K s,k1,k2,fun x hx=>⟨(g1 x hx).1.fit,by have:=(g1 x hx).2;omega⟩,C8Z g1 few⟩
theorem C3J {src:List UInt8}{its:List Itm} (h:AllOk src its) {i:Nat} (hi:i<its.length):(B8M its i).length<=2000000000:=by
 have h1:=(h.nm _ (B13 hi)).small.diags;have h2:=B8z h.nm (i:=i) hi;have h3:(A3x its i).ds.length<=(A3x its i).n:=by rw[NW.n];omega
 have h4:(A91 its i).length<=(B1K its i).length:=by rw[A91,P7];exact A4p _ _
 have h5:=C1P (its:=its) i;have h6:=h.nms;have h7:(A2J its i (-1)).ds.length<=800000000:=by
  have hc:=(h.fl _ (B13 hi)).cnt;rw[A2J];split
  ·have:=(B1e its (X7 its i).label (-1) (X7 its i).body (A44 (X7 its i).params) 0 FW0).2.1
   have e:FW0.ds.length=0:=rfl;omega
  ·exact H9 _
 rw[B8M,D9,D9,D9];omega
theorem B4W {src:List UInt8}{its:List Itm} (h:AllOk src its):∀k,k<=its.length->(A7s its k).length<=k *2000000000
 |0,_=>by rw[A7s];simp
 |k+1,hk=>by
  rw[B0v,D9,B38,P7];have:=B4W h k (by omega);have:=C3J h (i:=k) (by omega);omega
def plS (m:Nat):PS:=fun k _ a _ _ _ _=>k=1->a<=m
structure ItPl (it:Itm):Prop where
 small:it.small
 cnt:U1 it.body<=400000000
 at_:0<=it.at_/\it.at_<=1000000
 mark:it.mark<=1000000
 params:∀p∈it.params,p.at_<=1000000
 body:A0e D7J (plS 1000000) it.body
theorem ItN.pl {src:List UInt8}{it:Itm} (hs:src.length<=4000) (h:ItN src it):ItPl it:=by
 obtain⟨h1,h2,p,q,h3⟩:=h;have hm:=(h3.sub _ _ h3.mark).1;refine⟨h1,h2,by rw[h3.at_];omega,by omega,fun x hx=>?_,A7l (fun _ _ _ _ _ _ _=>trivial) (fun k nm a lb o f t hx hk=>?_) _ h3.body⟩
 ·have:=(h3.sub _ _ (h3.params x hx)).1
  omega
 ·have:=(h3.sub _ _ (hx (.inl hk))).1
  omega
end Go.Sp
namespace Go.Proofs
open Go.Proofs.Tryz
open Go.Sp
open Go.Fw
section
variable {its:List Sp.Itm}{a:Option Addr}{cp:Nat}{xs:List Value}
theorem D3O (i:Nat) (hi:i<its.length) (at_:Int) (bf:Nat) (I:P8) (hfile:PtrI I bf 0 25 [.slice a its.length cp]) (h:FE I its a cp xs) (hlab:A3Y its) (hF:∀x∈its,Sp.ItF x):
  CalM prog 75 #[ptr bf,nt i,.int .i64 at_] I [] (fun v _ H'=> ∃bc pi vf sc sa sp da dp,v=ptr bc/\H'=FSt bc bf pi sc sa sp (A2J its i at_) da dp vf at_):=by
 refine CalM.of fun w E hm=>enter (N:=69) func75 rfl [(0,ptr bf),(1,nt i),(2,.int .i64 at_)] A4x rfl ?_
 have hfew:=h.few;have hg:=A5j hi;obtain⟨ci,hci,hat,hlc⟩:=h.get hg;have hri:=h.row;have hmem:=B13 hi;have hIt:=hF _ hmem;have hlb:=hlab _ hmem;have hck:A2J its i at_=if (X7 its i).kind=2 then (A1C its (X7 its i).label at_ (X7 its i).body (A44 (X7 its i).params) 0 Sp.FW0).2 else Sp.FW0:=rfl
 generalize A2J its i at_=fin at hck |-;have hfl:=fun (J:P8) (m:Le I J)=>D0E (I:=J) (h.le m) hlab (fun x hx=>(hF x hx).small)
 generalize X7 its i=it at hg hat hmem hIt hlb hck;have hat0:=hat
 obtain⟨pa,pc,sa9,sc9,ba,bc9,da9,dc9,xb,rfl,hpar,hsnd,hrb,hbs,_⟩:=hat
 have hsp:=hIt.small.params;have hsb:=hIt.small.body;by_cases k2:it.kind=2
 case neg=>
  rw[if_neg k2]at hck;subst hck;repeat' (first|refine A0S (id:=1) (hm.perm pm0) [0,1,2,3,4,5,6,7,8,9,11] [10,12,13] 14 (h:=?_);clear hm;intro wd hR hm|refine A04 (d:=16) ?_ (hr:=hri);intro bt ot hpt;rw[show ((i:Int).toNat *10)=i *10 from rfl,hci]at hpt|refine A1y (d:=19) ?_ hR (hp:=hfile)|refine V8 (d:=20) ?_ hm (hc:=hfl I (Le.refl _));clear hm;rintro _ I2 _ _ ⟨rfl,fa,fp,rfl,hflr⟩ hle hm;have hleI2:=hle;try simp only[G5]at hm;have hpt2:=hpt.le hleI2|refine D1w (d:=23) ?_ hm;clear hm;intro bc _ hm|refine A0G ?_ hR|refine A7H ?_ hm|refine A0K ?_;replace hm:=hR.back hm;clear hR;try simp only[G5]at hm|refine J6 ?_ hm|refine J9 ?_ hm|refine D8 ?_|refine D6 ?_|refine O6 ?_|refine F5 ?_|refine D5 ?_|refine E5 ?_|refine A7 ?_|refine E8 ?_|refine A8 ?_|refine G7 ?_|refine J3 ?_|refine J7 ?_|(refine C9 (ht:=fun _=>?_) (hf:=fun _=>?_)<;>try first|contradiction|omega)|refine A0x ?_|refine U5 ?_|refine N8 ?_|refine A0y ?_)
  exact⟨I2,_,⟨bc,_,_,[],none,0,none,0,rfl,rfl⟩,((hm.nil 85 4).swap.nil 213 2).swap⟩
 rw[if_pos k2]at hck;repeat' (first|refine A0S (id:=1) (hm.perm pm0) [0,1,2,3,4,5,6,7,8,9,11] [10,12,13] 14 (h:=?_);clear hm;intro wd hR hm|refine A04 (d:=16) ?_ (hr:=hri);intro bt ot hpt;rw[show ((i:Int).toNat *10)=i *10 from rfl,hci]at hpt|refine A1y (d:=19) ?_ hR (hp:=hfile)|refine V8 (d:=20) ?_ hm (hc:=hfl I (Le.refl _));clear hm;rintro _ I2 _ _ ⟨rfl,fa,fp,rfl,hflr⟩ hle hm;have hleI2:=hle;try simp only[G5]at hm;have hpt2:=hpt.le hleI2|refine D1w (d:=23) ?_ hm;clear hm;intro bc _ hm|refine A0G ?_ hR|refine A7H ?_ hm|refine A0K ?_;replace hm:=hR.back hm;clear hR;try simp only[G5]at hm|refine J6 ?_ hm|refine J9 ?_ hm|refine D8 ?_|refine D6 ?_|refine O6 ?_|refine G6 ?_|refine F5 ?_|refine D5 ?_|refine E5 ?_|refine A7 ?_|refine E8 ?_|refine A8 ?_|refine F6 ?_|(refine C9 (ht:=fun _=>?_) (hf:=fun _=>?_)<;>try first|contradiction|omega)|refine A0x ?_|refine U5 ?_|refine N8 ?_|refine A0y ?_)
 have hC2:FC I2 its it bf a cp xs (.pointer (some ⟨bt,ot,none⟩)) (.slice fa its.length fp):=⟨hfile.le hleI2,h.le hleI2,⟨bt,ot,_,_,rfl,hpt2,hat0.le hleI2⟩,⟨fa,fp,rfl,hflr⟩,hlab,hlb.1⟩;have hpar2:=hpar.le hleI2;refine U3 (fun x:FX=> [(0,ptr bf),(1,nt i),(2,.int .i64 at_),(7,ptr bc),(38,.slice pa it.params.length pc),(39,nt it.params.length),(40,nt x.k)])
  (fun x w'=>Mem E I2 (FSt bc bf (.pointer (some ⟨bt,ot,none⟩)) (A44 (it.params.take x.k)) x.sa x.sp Sp.FW0 none 0 (.slice fa its.length fp) at_) w'/\x.k<=it.params.length) (fun x=>it.params.length-x.k) ⟨0,I2,none,0,none,0⟩
  (by exact⟨rfl,rfl,rfl,rfl,rfl,rfl,rfl,trivial⟩) ⟨((hm.nil 85 4).swap.nil 213 2).swap,H9 _⟩ ?_
 clear hm;rintro⟨k,_,sa1,sp1,_,_⟩ w1 ⟨hm,hk⟩;dsimp only at hm hk |-;by_cases hlt:k<it.params.length
 ·have hgp:it.params[k]?=some it.params[k]:=F9 hlt
  generalize it.params[k]=p at hgp;have hst:=C5R hgp;have hpl:(A44 (it.params.take k)).length=k:=by rw[A44,P7,P9];omega
  generalize A44 (it.params.take k)=sc at hm hst hpl;repeat' (first|refine Q4 (d:=42) (enc:=A2L) (z:=p) ?_ (hr:=hpar2) (he:=fun _=>rfl) (hz:=by exact hgp);intro bz oz hpz|refine A0R (id:=6) (hm.perm pm1_2) 10 12 (h:=?_);clear hm;intro wd hR hm|refine A0k ?_ hR|refine A3b (d:=55) ?_ hm;clear hm;intro a55 cp55 _ _ hm;replace hm:=hR.back hm;clear hR;try simp only[G5]at hm|refine Y2 (d:=9) ?_ hm;clear hm;intro b9 _ hm|refine U0 ?_ hm|refine P5 hm (k:=?_);clear hm;intro _ hm;try simp only[G5]at hm|refine D8 ?_|refine J8 ?_|refine F5 ?_|refine O9 ?_|refine D5 ?_|refine E5 ?_|refine A7 ?_|refine D7 ?_|refine E8 ?_|refine A8 ?_|refine F6 ?_|refine G7 ?_|(refine C9 (ht:=fun _=>?_) (hf:=fun _=>?_)<;>try first|contradiction|omega)|refine A0x ?_|refine U5 ?_|refine N8 ?_|refine A4U ?_|refine A0y ?_)
  refine L6 (⟨k+1,I2,a55,cp55,none,0⟩:FX) (by exact⟨rfl,rfl,rfl,rfl,rfl,rfl,rfl,trivial⟩) ⟨?_,by dsimp only;omega⟩ (by dsimp only;omega)
  dsimp only
  rw[hst, <-B6L];exact((hm.front 1 rfl).tl).swap
 ·obtain rfl:k=it.params.length:=by omega
  rw[V7]at hm;have hsl:=C9e hlab hmem;have hpl:(A44 it.params).length=it.params.length:=by rw[A44,P7]
  have hcn:=hIt.cnt;have hblk:=D7Y (its:=its) (it:=it) (bc:=bc) (bf:=bf) (a:=a) (cp:=cp) (xs:=xs) (pi:=.pointer (some ⟨bt,ot,none⟩)) (vf:=.slice fa its.length fp) (at_:=at_) _ it.body (H7 _) (by omega) hIt.small.stms hIt.body I2 ba bc9 xb 0 (A44 it.params) Sp.FW0 sa1 sp1 none 0 (by omega) hsl (by omega) (by simp[Sp.FW0];omega) hC2 (hrb.le hleI2) (V4.le hleI2 _ _ hbs);rw[<-hck]at hblk;generalize A44 it.params=sc at hm hblk;repeat' (first|refine F8 (d:=67) ?_ hm (hc:=hblk);clear hm;rintro _ I3 _ _ ⟨rfl,sa3,sp3,da3,dp3,rfl⟩ hle hm;have hleI3:=hle;try simp only[G5]at hm|refine J6 ?_ hm|refine J9 ?_ hm|refine D8 ?_|refine D6 ?_|refine J8 ?_|refine F5 ?_|refine D5 ?_|refine E5 ?_|refine A7 ?_|refine H6 ?_|refine G9 ?_|refine E8 ?_|refine A8 ?_|refine O8 ?_|refine J3 ?_|refine J7 ?_|(refine C9 (ht:=fun _=>?_) (hf:=fun _=>?_)<;>try first|contradiction|omega))
  exact⟨I3,_,⟨bc,_,_,sc,sa3,sp3,da3,dp3,rfl,rfl⟩,hm⟩
theorem C64 (i:Nat) (hi:i<its.length) (I:P8) (h:FE I its a cp xs) (hlab:A3Y its) (hF:∀x∈its,Sp.ItF x):
  CalM prog 47 #[.agg [.slice a its.length cp].toArray,nt i] I [] (fun v I' H'=>H'= []/\∃da dp,v=.slice da (A2J its i (-1)).ds.length dp/\RowI I' 85 4 (.slice da (A2J its i (-1)).ds.length dp) (A2J its i (-1)).ds.length ((A2J its i (-1)).ds.flatMap A5F)):=by
 refine CalM.of fun w E hm=>enter (N:=19) func47 rfl [(0,.agg [.slice a its.length cp].toArray),(1,nt i)] A1x rfl ?_
 have hfew:=h.few;repeat' (first|refine A0T (d:=2) ?_ hm;clear hm;intro b2 _ hm|refine J6 ?_ hm|refine D8 ?_|refine D6 ?_|refine N7 ?_|refine J8 ?_|refine A11 ?_|refine G6 ?_|refine D5 ?_|refine E5 ?_|refine A7 ?_|refine E8 ?_|refine A8 ?_|refine G7 ?_|(refine C9 (ht:=fun _=>?_) (hf:=fun _=>?_)<;>try first|contradiction|omega))
 obtain⟨I2,hle2,hm2,hpf⟩:=hm.freezeO;clear hm;have hm:=hm2;clear hm2;have hck:=D3O i hi (-1) b2 I2 hpf (h.le hle2) hlab hF;generalize A2J its i (-1)=fin at hck |-;repeat' (first|refine F8 (d:=15) ?_ hm (hc:=hck);clear hm;rintro _ I3 _ _ ⟨bc,pi,vf,sc,sa,sp,da,dp,rfl,rfl⟩ hle hm;have hleI3:=hle;try simp only[G5]at hm|refine J6 ?_ hm|refine D6 ?_|refine F5 ?_|refine D5 ?_|refine E5 ?_|refine A7 ?_|refine J3 ?_|refine J7 ?_)
 obtain⟨I4,hle4,hm4,hrow⟩:=(hm.front 2 rfl).freeze;exact⟨I4,[],⟨rfl,da,dp,rfl,hrow⟩,hm4.left (H:= [])⟩
theorem B2w (I:P8) (h:FE I its a cp xs) (hlab:A3Y its) (hF:∀x∈its,Sp.ItF x):
  CalM prog 19 #[.agg [.slice a its.length cp].toArray] I [] (fun v _ H'=>H'= []/\∃b,v=.bool b/\(b=true↔A8k its)):=by
 refine CalM.of fun w E hm=>enter (N:=16) func19 rfl [(0,.agg [.slice a its.length cp].toArray)] A0Z rfl ?_
 have hfew:=h.few;repeat' (first|refine A0T (d:=1) ?_ hm;clear hm;intro b1 _ hm|refine J6 ?_ hm|refine D8 ?_|refine D6 ?_|refine G6 ?_|refine D5 ?_|refine E5 ?_|refine A7 ?_|refine E8 ?_|refine A8 ?_|refine F6 ?_)
 refine U3 (fun x:NI=> [(1,ptr b1),(6,nt its.length),(7,nt x.k)]) (fun x w'=>Mem E x.I [.cell b1 [.slice a its.length cp] 25] w'/\Le I x.I/\x.k<=its.length/\∀j,j<x.k->(A2J its j (-1)).ds= []) (fun x=>its.length-x.k) ⟨0,I⟩
  (by exact⟨rfl,rfl,rfl,trivial⟩) ⟨hm,Le.refl _,H9 _,fun j hj=>absurd hj (Nat.not_lt_zero j)⟩ ?_
 clear hm;rintro⟨k,I1⟩ w1 ⟨hm,hle1,hk,hno⟩;dsimp only at hm hle1 hk hno |-;by_cases hlt:k<its.length
 ·have hd:=C64 k hlt I1 (h.le hle1) hlab hF
  obtain⟨n,hn⟩:∃n,n=(A2J its k (-1)).ds.length:=⟨_,rfl⟩;rw[<-hn]at hd;by_cases h0:n=0
  ·subst h0
   have h0':=List.length_eq_zero_iff.1 hn.symm;repeat' (first|refine F8 (d:=12) ?_ hm (hc:=hd);clear hm;rintro _ I2 _ _ ⟨rfl,da,dp,rfl,_⟩ hle hm;have hleI2:=hle;try simp only[G5]at hm|refine Q7 ?_ hm|refine D8 ?_|refine D6 ?_|refine J8 ?_|refine A1H ?_|refine G6 ?_|refine O9 ?_|refine E5 ?_|refine A7 ?_|refine D7 ?_|refine E8 ?_|refine A8 ?_|refine F6 ?_|refine G7 ?_|refine F7 ?_|(refine C9 (ht:=fun _=>?_) (hf:=fun _=>?_)<;>try first|contradiction|omega))
   refine L6 (⟨k+1,I2⟩:NI) (by exact⟨rfl,rfl,rfl,trivial⟩) ⟨hm,hle1.trans hleI2,by dsimp only;omega,fun j hj=>?_⟩ (by dsimp only;omega)
   rcases U9 j k with hjk|hjk
   ·exact hno j hjk
   ·obtain rfl:j=k:=by dsimp only at hj;omega
    exact h0'
  ·skip
   repeat' (first|refine F8 (d:=12) ?_ hm (hc:=hd);clear hm;rintro _ I2 _ _ ⟨rfl,da,dp,rfl,_⟩ hle hm;have hleI2:=hle;try simp only[G5]at hm|refine Q7 ?_ hm|refine D8 ?_|refine D6 ?_|refine J8 ?_|refine A1H ?_|refine G6 ?_|refine E5 ?_|refine A7 ?_|refine H8 ?_|refine O5 ?_|refine E8 ?_|refine A8 ?_|refine F6 ?_|refine G7 ?_|refine J3 ?_|refine J7 ?_|(refine C9 (ht:=fun _=>?_) (hf:=fun _=>?_)<;>try first|contradiction|omega))
   refine⟨I2,[],⟨rfl,false,rfl,fun hf=>(by cases hf),fun hs=>?_⟩,hm.left (H:= [])⟩
   exfalso
   have:=hs k hlt;rw[this]at hn;exact h0 hn
 ·obtain rfl:k=its.length:=by omega
  repeat' (first|refine D6 ?_|refine J8 ?_|refine E5 ?_|refine A7 ?_|refine H6 ?_|refine G9 ?_|refine E8 ?_|refine A8 ?_|refine O8 ?_|refine J3 ?_|refine J7 ?_|(refine C9 (ht:=fun _=>?_) (hf:=fun _=>?_)<;>try first|contradiction|omega))
  exact⟨I1,[],⟨rfl,true,rfl,fun _=>hno,fun _=>rfl⟩,hm.left (H:= [])⟩
end
abbrev B1u (d:Sp.DI):List Value:= [.int .i64 d.fr,.int .i64 d.to,nt d.err,str d.name]
theorem C8n {l:List Sp.DI}:∀u∈l.flatMap B1u,u.oneCell'=true:=fun u hu=>by
 obtain⟨d,_,hd⟩:=A3S.1 hu;rcases W9.1 hd with rfl|hd
 ·rfl
 ·rcases W9.1 hd with rfl|hd
  ·rfl
  ·rcases W9.1 hd with rfl|hd
   ·rfl
   ·obtain rfl:=A0q.1 hd;rfl
structure DgX where
 q:Nat
 sa:Option Addr
 sp:Nat
section
variable {src:List UInt8}{its:List Sp.Itm}{a:Option Addr}{cp:Nat}{xs:List Value}
theorem D4G (i:Nat) (hi:i<its.length) (I:P8) (h:FE I its a cp xs) (hA:Sp.AllOk src its):
  CalM prog 45 #[.agg [.slice a its.length cp].toArray,nt i] I [] (fun v I' H'=>H'= []/\∃da dp,v=.slice da (B38 its i).length dp/\RowI I' 85 4 (.slice da (B38 its i).length dp) (B38 its i).length ((B38 its i).flatMap B1u)):=by
 refine CalM.of fun w E hm=>enter (N:=73) func45 rfl [(0,.agg [.slice a its.length cp].toArray),(1,nt i)] A1x rfl ?_
 have hfew:=h.few;have hnms:=hA.nms;have hN:=fun (J:P8) (m:Le I J)=>C7q i hi J (h.le m) hA.len hA.nm
 have hE:=fun (J:P8) (m:Le I J)=>D3J i hi J a cp xs (h.le m) hA.ef (by omega)
 have hFl:=fun (J:P8) (m:Le I J)=>C64 i hi J (h.le m) hA.lab hA.fl
 have hraw:=C3J hA hi;have hrw:B8M its i=(X7 its i).diags++((A3x its i).ds++(A91 its i++(A2J its i (-1)).ds)):=rfl;rw[B38];generalize B8M its i=raw at hraw hrw |-;obtain⟨ci,hci,hat,_⟩:=h.get (A5j hi);have hri:=h.row;generalize (A3x its i).ds=wl at hN hrw;generalize A91 its i=ed at hE hrw;generalize (A2J its i (-1)).ds=fd at hFl hrw;generalize X7 its i=it at hat hrw |-;obtain⟨pa,pc,sa9,sc9,ba,bc9,da9,dc9,xb,rfl,_,_,_,_,hrd⟩:=hat
 repeat' (first|refine A0U 4 ?_|refine A0T (d:=2) ?_ hm;clear hm;intro b2 _ hm|refine J6 ?_ hm|refine D8 ?_|refine D6 ?_|refine N7 ?_|refine J8 ?_|refine A11 ?_|refine G6 ?_|refine D5 ?_|refine E5 ?_|refine A7 ?_|refine E8 ?_|refine A8 ?_|refine G7 ?_|(refine C9 (ht:=fun _=>?_) (hf:=fun _=>?_)<;>try first|contradiction|omega))
 obtain⟨I2,hle2,hm2,hpf⟩:=hm.freezeO;clear hm;have hm:=hm2;clear hm2;have hri2:=hri.le hle2;refine⟨?_⟩
 repeat' (first|refine A0B (id:=4) (hm.perm pm0) [0,1,2,3,4,5,6,7,9,10,12,13,17] [8,11,14,15,16] 18 (by kernel_rfl) ?_;clear hm;intro wd hR hm|refine A04 (d:=22) ?_ (hr:=hri2);intro bt ot hpt;rw[show ((i:Int).toNat *10)=i *10 from rfl,hci]at hpt|refine A1y (d:=25) ?_ hR (hp:=hpf)|refine A1y (d:=28) ?_ hR (hp:=hpf)|refine A1y (d:=31) ?_ hR (hp:=hpf)|refine V8 (d:=27) ?_ hm (hp:=pm0) (hc:=hN I2 hle2);clear hm;rintro _ I3 _ _ ⟨rfl,wa,wp,rfl,hrwd⟩ hleI3 hm;try simp only[G5]at hm|refine V8 (d:=30) ?_ hm (hp:=pm0) (hc:=hE I3 (hle2.trans hleI3));clear hm;rintro _ I4 _ _ ⟨rfl,ea,ep,rfl,hred⟩ hleI4 hm;try simp only[G5]at hm|refine V8 (d:=33) ?_ hm (hp:=pm0) (hc:=hFl I4 ((hle2.trans hleI3).trans hleI4));clear hm;rintro _ I5 _ _ ⟨rfl,fa,fp,rfl,hrfd⟩ hleI5 hm;try simp only[G5]at hm|refine C8W (d:=34) hm (by rfl) (by rfl) (by rfl) (by rfl) (by rfl) (by rfl) (by rfl) ?_;clear hm;intro I6 ta _ hle56 hm hrt|refine A0G ?_ hR|refine A0K ?_;replace hm:=hR.back hm;clear hR;try simp only[G5]at hm|refine C3N hm.kept (by rfl) (by rfl) (by rfl) ?_|refine E5 ?_|refine A7 ?_|refine F6 ?_|refine A0x ?_|refine N8 ?_|refine A0y ?_)
 have hle36:Le I3 I6:=(hleI4.trans hleI5).trans hle56;have hle26:Le I2 I6:=hleI3.trans hle36;have hle16:Le I I6:=hle2.trans hle26;obtain⟨T,hT⟩:∃T:List (Tri Sp.Dg),T= [(it.diags,da9,dc9),(wl,wa,wp),(ed,ea,ep),(fd,fa,fp)]:=⟨_,rfl⟩;have hTl:T.length=4:=by rw[hT];rfl
 have hTf:raw=T.flatMap (·.1):=by rw[hrw,hT];simp
 have hrt2:RowI I6 36 1 (.slice ta 4 4) 4 (T.flatMap (fun t=> [A3U t])):=by rw[hT];exact hrt
 have hTr:∀t∈T,RowI I6 85 4 (A3U t) t.1.length (t.1.flatMap A5F):=fun t ht=>by
  rw[hT]at ht;rcases W9.1 ht with rfl|ht
  ·exact hrd.le hle16
  ·rcases W9.1 ht with rfl|ht
   ·exact hrwd.le hle36
   ·rcases W9.1 ht with rfl|ht
    ·exact hred.le (hleI5.trans hle56)
    ·obtain rfl:=A0q.1 ht
     exact hrfd.le hle56
 have hpf6:=hpf.le hle26;have hri6:=hri2.le hle26;have hpt6:=hci;clear hT hrd hrwd hred hrfd hrt hN hE hFl;have hm:=hm.nil 85 4;have hsub:∀q,(((T.take q).flatMap (·.1)).map (A6k it.at_)).length<=2000000000:=fun q=>by
  rw[P7];have:((T.take q).flatMap (·.1)).length<=(T.flatMap (·.1)).length:=by
   conv=>rhs;rw[<-A23 q T]
   rw[X0,D9];omega
  rw[<-hTf]at this;omega
 refine U3 (fun x:DgX=> [(1,nt i),(2,ptr b2),(5,.slice x.sa (((T.take x.q).flatMap (·.1)).map (A6k it.at_)).length x.sp),(34,.slice ta 4 4),(35,nt 4),(36,nt x.q)])
  (fun x w'=>Mem E I6 [.row (.slice x.sa (((T.take x.q).flatMap (·.1)).map (A6k it.at_)).length x.sp) 85 4 (((T.take x.q).flatMap (·.1)).map (A6k it.at_)).length ((((T.take x.q).flatMap (·.1)).map (A6k it.at_)).flatMap B1u)] w'/\x.q<=4) (fun x=>4-x.q) ⟨0,none,0⟩
  (by exact⟨rfl,rfl,rfl,rfl,rfl,rfl,trivial⟩) ⟨hm,H9 _⟩ ?_
 clear hm;rintro⟨q,oa,op⟩ w1 ⟨hm,hq⟩;dsimp only at hm hq |-;by_cases hlq:q<4
 ·have hg:T[q]?=some T[q]:=F9 (by omega)
  have htr:=hTr _ (A03 hg);have htk:(T.take (q+1)).flatMap (·.1)=(T.take q).flatMap (·.1)++T[q].1:=by
   rw[A2N,hg,X0];simp
  have hsb:=hsub (q+1);rw[htk]at hsb;generalize T[q]=t at hg htr htk hsb;obtain⟨td,tda,tdc⟩:=t;dsimp only at htr htk hsb;generalize (T.take q).flatMap (·.1)=pre at hm htk hsb;rw[V5,D9,P7,P7]at hsb;repeat' (first|refine Q4 (d:=38) (enc:=fun t=> [A3U t]) (z:=(td,tda,tdc)) ?_ (hr:=hrt2) (he:=fun _=>rfl) (hz:=by exact hg);intro bz oz hpz|refine A0O (d:=39) ?_ hm (hp:=hpz)|refine D8 ?_|refine D6 ?_|refine J8 ?_|refine G6 ?_|refine E5 ?_|refine A7 ?_|refine E8 ?_|refine A8 ?_|refine F6 ?_|refine G7 ?_|(refine C9 (ht:=fun _=>?_) (hf:=fun _=>?_)<;>try first|contradiction|omega))
  refine U3 (fun x:DgX=> [(1,nt i),(2,ptr b2),(5,.slice x.sa ((pre++td.take x.q).map (A6k it.at_)).length x.sp),(34,.slice ta 4 4),(35,nt 4),(36,nt q),(40,.slice tda td.length tdc),(41,nt td.length),(42,nt x.q)])
   (fun x w'=>Mem E I6 [.row (.slice x.sa ((pre++td.take x.q).map (A6k it.at_)).length x.sp) 85 4 ((pre++td.take x.q).map (A6k it.at_)).length (((pre++td.take x.q).map (A6k it.at_)).flatMap B1u)] w'/\x.q<=td.length) (fun x=>td.length-x.q) ⟨0,oa,op⟩
   (by exact⟨rfl,rfl,by rw[Z9,J4];rfl,rfl,rfl,rfl,rfl,rfl,rfl,trivial⟩) ⟨by dsimp only;rw[Z9,J4];exact hm,H9 _⟩ ?_
  clear hm;rintro⟨j,oa,op⟩ w2 ⟨hm,hj⟩;dsimp only at hm hj |-;by_cases hlj:j<td.length
  ·have hgj:td[j]?=some td[j]:=F9 hlj
   generalize td[j]=dg at hgj;have htj:(pre++td.take (j+1)).map (A6k it.at_)=(pre++td.take j).map (A6k it.at_)++ [A6k it.at_ dg]:=by
    rw[U2 hgj, <-J5,V5];rfl
   have hlt:((pre++td.take j).map (A6k it.at_)).length<=2000000000:=by
    rw[P7,D9,P9];omega
   generalize (pre++td.take j).map (A6k it.at_)=oj at hm htj hlt;repeat' (first|refine Q4 (d:=44) (enc:=A5F) (z:=dg) ?_ (hr:=htr) (he:=fun _=>rfl) (hz:=by exact hgj);intro bz2 oz2 hpz2|refine A0U 10 ?_|refine Y2 (d:=9) ?_ hm;clear hm;intro b9 _ hm|refine U0 ?_ hm|refine J8 ?_|refine E5 ?_|refine A7 ?_|refine E8 ?_|refine A8 ?_|refine F6 ?_|refine G7 ?_|(refine C9 (ht:=fun _=>?_) (hf:=fun _=>?_)<;>try first|contradiction|omega))
   refine⟨?_⟩
   refine C1z 10 (fun _:DgX=> [(1,nt i),(2,ptr b2),(5,.slice oa oj.length op),(9,ptr b9),(34,.slice ta 4 4),(35,nt 4),(36,nt q),(40,.slice tda td.length tdc),(41,nt td.length),(42,nt j)]) (fun _ w'=>Mem E I6 [.cell b9 (B1u (A6k it.at_ dg)) 85,.row (.slice oa oj.length op) 85 4 oj.length (oj.flatMap B1u)] w') ?_ ?_
   ·skip
    repeat' (first|refine A2y (id:=10) (hm.perm pm1_0) [0,2,3,4,5,6,7,9,11,12,13,14,15,16] 20 (h:=?_);clear hm;intro wd hR hm|refine A04 (d:=51) ?_ (hr:=hri6);intro bt1 ot1 hpt1;rw[show ((i:Int).toNat *10)=i *10 from rfl,hci]at hpt1|refine A04 (d:=60) ?_ (hr:=hri6);intro bt2 ot2 hpt2;rw[show ((i:Int).toNat *10)=i *10 from rfl,hci]at hpt2|refine B23 (D8o (listed':= #[true,false,true,true,true,true,true,true,false,true,false,true,true,true,true,true,true,false,false,false,false,false]) (by decide+kernel) ?_)|refine D1x hm (by rfl) (by rfl) (by rfl) gt0 (by rfl) ?_|refine D5x hm.kept (by rfl) (by rfl) (by rfl) (by rfl) ?_|refine B4R hm.kept (by rfl) (by rfl) (by rfl) ?_|refine B5l hm (by rfl) (by rfl) (by rfl) (by rfl) gt0 (by rfl) (by rfl) (by rfl) ?_;clear hm;intro _ hm;try simp only[G5]at hm|refine B1o (i:=1) (j:=10) ?_ (by decide+kernel) (h:=?_)|refine B1o (i:=8) (j:=10) ?_ (by decide+kernel) (h:=?_)|refine B1o (i:=1) (j:=17) ?_ (by decide+kernel) (h:=?_)|refine B1o (i:=8) (j:=17) ?_ (by decide+kernel) (h:=?_)|refine B1o (i:=17) (j:=18) ?_ (by decide+kernel) (h:=?_)|refine B1o (i:=17) (j:=19) ?_ (by decide+kernel) (h:=?_)|refine A1I (i:=1) ?_ (by decide+kernel)|refine A1I (i:=8) ?_ (by decide+kernel)|refine A1I (i:=10) ?_ (by decide+kernel)|refine A1I (i:=17) ?_ (by decide+kernel)|refine A1I (i:=18) ?_ (by decide+kernel)|refine A1I (i:=19) ?_ (by decide+kernel)|refine A6S (by decide+kernel) ?_;replace hm:=hR.back hm;clear hR;try simp only[G5]at hm|refine A0G ?_ hR|refine P5 hm (k:=?_);clear hm;intro _ hm;try simp only[G5]at hm|refine D5 ?_|refine E5 ?_|refine A0x ?_|refine N8 ?_)
    all_goals exact A0V (⟨0,none,0⟩:DgX) (by exact⟨rfl,rfl,rfl,rfl,rfl,rfl,rfl,rfl,rfl,rfl,trivial⟩) hm
   clear hm;intro _ w3 hm;repeat' (first|refine A2P (d:=69) ?_ hm;clear hm;intro a69 cp69 _ _ hm;try simp only[G5]at hm|refine Q7 ?_ hm|refine D8 ?_|refine D6 ?_|refine O9 ?_|refine E5 ?_|refine A7 ?_|refine D7 ?_|refine A8 ?_)
   refine L6 (⟨j+1,a69,cp69⟩:DgX) (by exact⟨rfl,rfl,by rw[htj,D9];rfl,rfl,rfl,rfl,rfl,rfl,rfl,trivial⟩) ⟨?_,by dsimp only;omega⟩ (by dsimp only;omega)
   dsimp only
   rw[htj,X0,D9];exact hm.tl
  ·obtain rfl:j=td.length:=by omega
   rw[V7]at hm |-;repeat' (first|refine D8 ?_|refine J8 ?_|refine O9 ?_|refine E5 ?_|refine A7 ?_|refine H6 ?_|refine D7 ?_|refine G9 ?_|refine E8 ?_|refine A8 ?_|refine O8 ?_|(refine C9 (ht:=fun _=>?_) (hf:=fun _=>?_)<;>try first|contradiction|omega))
   exact L6 (⟨q+1,oa,op⟩:DgX) (by exact⟨rfl,rfl,by rw[htk];rfl,rfl,rfl,rfl,trivial⟩) ⟨by dsimp only;rw[htk];exact hm,by dsimp only;omega⟩ (by dsimp only;omega)
 ·obtain rfl:q=4:=by omega
  rw[A0W (by omega), <-hTf]at hm |-;repeat' (first|refine D8 ?_|refine D6 ?_|refine J8 ?_|refine E5 ?_|refine A7 ?_|refine H6 ?_|refine G9 ?_|refine E8 ?_|refine A8 ?_|refine O8 ?_|refine J3 ?_|refine J7 ?_|refine F7 ?_)
  obtain⟨I7,hle7,hm7,hrow⟩:=hm.freeze;exact⟨I7,[],⟨rfl,_,_,rfl,hrow⟩,hm7⟩
end
structure RaX where
 k:Nat
 I:P8
 sa:Option Addr
 sp:Nat
section
variable {src:List UInt8}{its:List Sp.Itm}{a:Option Addr}{cp:Nat}{xs:List Value}
theorem B5Z (I:P8) (h:FE I its a cp xs) (hA:Sp.AllOk src its):
  CalM prog 16 #[.agg [.slice a its.length cp].toArray] I [] (fun v I' H'=>H'= []/\∃da dp,v=.slice da (A3H its).length dp/\RowI I' 85 4 (.slice da (A3H its).length dp) (A3H its).length ((A3H its).flatMap B1u)):=by
 refine CalM.of fun w E hm=>enter (N:=18) func16 rfl [(0,.agg [.slice a its.length cp].toArray)] A0Z rfl ?_
 have hfew:=hA.few;have hfew2:=B4W hA;rw[A3H];repeat' (first|refine A0U 2 ?_|refine A0T (d:=1) ?_ hm;clear hm;intro b1 _ hm|refine D6 ?_|refine E5 ?_|refine A7 ?_|refine E8 ?_|refine A8 ?_)
 obtain⟨I2,hle2,hm2,hpf⟩:=hm.freezeO;clear hm;have hm:=hm2.nil 85 4;clear hm2;refine⟨?_⟩
 repeat' (first|refine J9 ?_ hm|refine D8 ?_|refine G6 ?_|refine D5 ?_|refine E5 ?_|refine A7 ?_|refine A8 ?_|refine F6 ?_)
 refine U3 (fun x:RaX=> [(1,ptr b1),(3,.slice x.sa (A7s its x.k).length x.sp),(7,nt its.length),(8,nt x.k)])
  (fun x w'=>Mem E x.I [.row (.slice x.sa (A7s its x.k).length x.sp) 85 4 (A7s its x.k).length ((A7s its x.k).flatMap B1u)] w'/\Le I2 x.I/\x.k<=its.length) (fun x=>its.length-x.k) ⟨0,I2,none,0⟩
  (by exact⟨rfl,rfl,rfl,rfl,trivial⟩) ⟨hm,Le.refl _,H9 _⟩ ?_
 clear hm;rintro⟨k,I3,oa,op⟩ w3 ⟨hm,hle3,hk⟩;dsimp only at hm hle3 hk |-;have hpf3:=hpf.le hle3;by_cases hlt:k<its.length
 ·have hD:=D4G k hlt I3 ((h.le hle2).le hle3) hA
  have hs:=B0v its k;have h1:=hfew2 (k+1) hlt;rw[hs,D9]at h1;generalize A7s its k=pre at hm hs h1;generalize B38 its k=dd at hD hs h1;repeat' (first|refine U0 (d:=12) ?_ hm (hp:=hpf3)|refine F8 (d:=14) ?_ hm (hp:=pm0) (hc:=hD);clear hm;rintro _ I4 _ _ ⟨rfl,da,dp,rfl,hrow⟩ hleI4 hm;try simp only[G5]at hm|refine B9C (d:=15) ?_ hm (hr:=hrow) (h1:=C8n);clear hm;intro a15 cp15 _ hm;try simp only[G5]at hm|refine D8 ?_|refine D6 ?_|refine J8 ?_|refine O9 ?_|refine E5 ?_|refine A7 ?_|refine D7 ?_|refine E8 ?_|refine A8 ?_|refine F6 ?_|refine G7 ?_|(refine C9 (ht:=fun _=>?_) (hf:=fun _=>?_)<;>try first|contradiction|omega))
  refine L6 (⟨k+1,I4,a15,cp15⟩:RaX) (by exact⟨rfl,by rw[hs,D9];rfl,rfl,rfl,trivial⟩) ⟨?_,hle3.trans hleI4,by dsimp only;omega⟩ (by dsimp only;omega)
  dsimp only
  rw[hs,X0,D9];exact hm
 ·obtain rfl:k=its.length:=by omega
  repeat' (first|refine D8 ?_|refine D6 ?_|refine J8 ?_|refine E5 ?_|refine A7 ?_|refine H6 ?_|refine G9 ?_|refine E8 ?_|refine A8 ?_|refine O8 ?_|refine J3 ?_|refine J7 ?_|(refine C9 (ht:=fun _=>?_) (hf:=fun _=>?_)<;>try first|contradiction|omega))
  obtain⟨I4,hle4,hm4,hrow⟩:=hm.freeze;exact⟨I4,[],⟨rfl,_,_,rfl,hrow⟩,hm4⟩
end
structure Had (I:P8) (s:List UInt8) (k:Nat) (es:A8H):Prop where
 nodup:(es.map (·.1)).Nodup
 mem:∀p∈es,∃j cs,j<(A0l s).length/\p.1=A1v s (A0l s) j/\p.2=.agg cs.toArray/\A67 I (A1d s (A0l s) j) cs
 all:∀j,j<k->A1v s (A0l s) j∈es.map (·.1)
theorem Had.nil (I:P8) (s:List UInt8):Had I s 0 []:=⟨A76,by simp,by omega⟩
theorem Had.put {I:P8}{s:List UInt8}{k:Nat}{es:A8H} (h:Had I s k es) (hk:k<(A0l s).length) {cs:List Value} (hc:A67 I (A1d s (A0l s) k) cs):
  Had I s (k+1) (B6i es (A1v s (A0l s) k) (.agg cs.toArray)):=by
 refine⟨C5v h.nodup,fun p hp=>?_,fun j hj=>(C8U _).2 ?_⟩
 ·rcases D1v hp with hp|rfl
  ·exact h.mem p hp
  ·exact⟨k,cs,hk,rfl,rfl,hc⟩
 ·rcases U9 j k with h1|h1
  ·exact .inl (h.all j h1)
  ·obtain rfl:j=k:=by omega
   exact .inr rfl
abbrev rpV (r:Sp.Rpl) (da:Option Addr) (dp:Nat) (ea:Option Addr) (ep:Nat):List Value:= [.int .i64 r.id,nt r.err,.slice da r.dgs.length dp,nt r.label,.int .i64 r.fr,str r.text,.slice ea r.ran.ev.length ep,.int .i64 r.ran.n,nt r.ran.err,nt r.ran.steps,nt r.fresh]
def B3o (I:P8) (r:Sp.Rpl) (c:List Value):Prop:= ∃da dp ea ep,c=rpV r da dp ea ep/\RowI I 85 4 (.slice da r.dgs.length dp) r.dgs.length (r.dgs.flatMap B1u)/\RowI I 186 2 (.slice ea r.ran.ev.length ep) r.ran.ev.length (r.ran.ev.flatMap B1v)
theorem B3o.plain (I:P8) {r:Sp.Rpl} (h1:r.dgs= []) (h2:r.ran.ev= []):B3o I r (rpV r none 0 none 0):=by
 refine⟨none,0,none,0,rfl,?_,?_⟩
 ·rw[h1];exact A1L _ _ _ _ _
 ·rw[h2];exact A1L _ _ _ _ _
section
variable {src:List UInt8}{its:List Sp.Itm}{a:Option Addr}{cp:Nat}{xs:List Value}
end
section
variable {s1 s2:List UInt8}{i1 i2:List Sp.Itm}{a1 a2:Option Addr}{p1 p2:Nat}{x1 x2:List Value}
end
def A7W (I:P8):List Sp.Rpl->List Value->Prop
 | [],xs=>xs= []
 |r::rs,xs=> ∃c t,xs=c++t/\B3o I r c/\A7W I rs t
theorem B3o.le {I I':P8}{r:Sp.Rpl}{c:List Value} (h:B3o I r c) (m:Le I I'):B3o I' r c:=by
 obtain⟨da,dp,ea,ep,h1,h2,h3⟩:=h;exact⟨da,dp,ea,ep,h1,h2.le m,h3.le m⟩
theorem B3o.len {I:P8}{r:Sp.Rpl}{c:List Value} (h:B3o I r c):c.length=11:=by
 obtain⟨da,dp,ea,ep,rfl,_⟩:=h;rfl
theorem A7W.le {I I':P8} (m:Le I I'):∀ {rs:List Sp.Rpl}{xs:List Value},A7W I rs xs->A7W I' rs xs
 | [],_,h=>h
 |_::_,_,⟨c,r,e,h1,h2⟩=>⟨c,r,e,h1.le m,A7W.le m h2⟩
theorem A7W.snoc {I:P8}{q:Sp.Rpl}{c:List Value} (hq:B3o I q c):∀ {rs:List Sp.Rpl}{xs:List Value},A7W I rs xs->A7W I (rs++ [q]) (xs++c)
 | [],xs,h=>by
  obtain rfl:xs= []:=h;exact⟨c,[],by simp,hq,rfl⟩
 |_::_,_,⟨c',r,e,h1,h2⟩=>⟨c',r++c,by rw[e,J5],h1,A7W.snoc hq h2⟩
theorem A7W.get {I:P8}:∀ {rs:List Sp.Rpl}{xs:List Value}{i:Nat}{q:Sp.Rpl},A7W I rs xs->rs[i]?=some q->B3o I q ((xs.drop (i *11)).take 11)
 | [],_,_,_,_,h=>by simp at h
 |q::qs,_,0,q',⟨c,r,e,h1,h2⟩,h=>by
  simp only[A08,X4]at h;subst h;rw[e,A14,A2t,A26 (by rw[h1.len];omega),A0W (by rw[h1.len];omega)];exact h1
 |q::qs,_,i+1,q',⟨c,r,e,h1,h2⟩,h=>by
  rw[A02]at h;have:=A7W.get h2 h;rw[e,A6L,List.drop_eq_nil_of_le (by rw[h1.len];omega),L9,h1.len,show (i+1) *11-11=i *11 by omega];exact this
end Go.Proofs
