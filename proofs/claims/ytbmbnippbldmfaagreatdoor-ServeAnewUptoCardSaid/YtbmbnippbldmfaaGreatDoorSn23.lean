/- Own work. -/
import Derived.Test.YtbmbnippbldmfaaGreatDoorSn22
import Derived.Sort.OwnSortedInts
import Derived.Lib.SlicesCompact
set_option maxHeartbeats 64000000
namespace Go.Sp
theorem C3f (src:List UInt8) (at_:Int) (h:src.length<=1048576):ItF (item src at_)/\(item src at_).label<256/\∀p∈(item src at_).params,p.label<256:=by
 have hA:=B3f (src:=src) (p:=B0w) (q:=B0P) (r:=fun p=>p.label<256) (t:=fun _=>True) at_ ⟨trivial,fun _=>trivial,fun _ _ _ _=>trivial,fun _ _=>trivial,fun _ _ _ _ _ _=>trivial,fun _ _ _ _ _ _ _ _ _ _ _ _ _ _ _ _=>trivial⟩
  ⟨by show 0<256;omega,fun _ _ lb _ _ h=>A5u h,fun _ _ _=>(by show 0<256;omega),fun _ _ _ _=>(by show 0<256;omega),fun _ _ _=>(by show 0<256;omega)⟩ (fun _ lb h=>A5u h) (fun _=>trivial)
 have hc:=B0L src at_;exact⟨⟨A4z src at_ h,hA.body,by omega⟩,A5u hA.label,hA.params⟩
theorem C2V (s:List UInt8):(∀x∈J7 s,ItF x)/\A26 (J7 s):=by
 have key:∀x∈J7 s,ItF x/\x.label<256/\∀p∈x.params,p.label<256:=by
  intro x hx;by_cases h0:Z5 s=0
  ·have hl:s.length<=4000:=by
    rw[Z5]at h0;split at h0
    ·cases h0
    ·omega
   rw[J7,if_pos h0,A3I]at hx;obtain⟨j,_,rfl⟩:=A0x.1 hx;exact C3f _ _ (by rw[A1b,Q4,A0r];omega)
  ·rw[J7,if_neg h0]at hx
   simp at hx
 exact⟨fun x hx=>(key x hx).1,fun x hx=>(key x hx).2⟩
end Go.Sp
namespace Go.Fw
open Go.Sp
open Go
section
variable {P:Program}{N:Nat}{ds:List Deferred}{Q:Exit->Act->World->Prop}{K:Act->Prop}{l:Log}{w w0:World}{ops:Array Oper}{os os' tail:List Oper}{X:List Nat}
variable {d:Nat}{ty:TypeId}{pos:String}{af:Array Edge}{g:Option (Nat×Bool)}{t t':TypeId}{x y:Operand}{I I0:P6}{H:List HItem}
theorem C6g {m' f:Nat}{listed:Array Bool}{a b:Int} (hC:Kept X w0 w) (hw:U4 ops l ⟨some d,.binOp .add t x y t',ty,pos,af,g⟩=some true) (hN:Nat.blt d N=true)
  (hx:ev l x=some (.int .i64 a)) (hy:ev l y=some (.int .i64 b))
  (k:WA P N ds ops Q X w0 m' f listed tail ((d,.int .i64 (Sp.w64 (a+b)))::l) w):WU P N ds ops Q X w0 m' f listed tail ⟨some d,.binOp .add t x y t',ty,pos,af,g⟩ l w:=
 A3q rfl hw hN (fun c hc=>by simp[execOp,hc.ev hx,hc.ev hy,eqGuard,binOp,Op.intArith,B07]) hC k
theorem C8G {m' f:Nat}{listed listed':Array Bool} (he:listed=listed') (h:WA P N ds ops Q X w0 m' f listed' tail l w):WA P N ds ops Q X w0 m' f listed tail l w:=he ▸ h
theorem C1p {e:TypeId}{sz by_ n:Nat} [TySlice P t e] [Elem P e sz by_] {ps:List (Nat×Operand)}{vs:List (Nat×Value)}{xs:List Value} (hm:Mem ⟨w0,X,I0⟩ I H w)
  (hw:U4 ops l ⟨some d,.buildSlice t n ps.toArray,ty,pos,af,g⟩=some true) (hN:Nat.blt d N=true) (hx:evp l ps=some vs)
  (hi:vs.map (·.1)=List.range' 0 n) (hs:vs.all (fun p=>Nat.beq p.2.cells.toList.length sz)=true) (hn:Nat.ble (n *sz) 16777216=true) (hxs:vs.flatMap (·.2.cells.toList)=xs)
  (k:∀I' a w',Le I I'->Mem ⟨w0,X,I0⟩ I' H w'->RowI I' e sz (.slice a n n) n xs->WS P N ds ops Q X w0 os' tail ((d,.slice a n n)::l) w'):
  WS P N ds ops Q X w0 (⟨some d,.buildSlice t n ps.toArray,ty,pos,af,g⟩::os') tail l w:=by
 subst hxs;have hk:=Kept.alloc w (.cells (vs.flatMap (·.2.cells.toList)).toArray e (0,0));obtain⟨h1,h2⟩:=hm.fresh hk (G9 _) (heap_alloc_new w _);refine A3Z rfl hw hN (fun a ha=>B1H ha hx hi hs (A13 hn)) h2.kept (k _ _ _ h1 h2 ⟨?_,_,_,rfl,G9 _,fun _=>⟨w.heap.size,0,_,(_,_),rfl,P6.add_self _ _ _,fun j u hj=>by rw[V6];simpa using hj⟩⟩)
 have hlen:vs.length=n:=by have:=congrArg List.length hi;simpa using this
 rw[B2m vs hs,hlen]
end
end Go.Fw
namespace Go.Sp
structure AllOk (src:List UInt8) (its:List Itm):Prop where
 len:src.length<=4000
 few:its.length<=30
 nm:∀x∈its,ItN src x
 fl:∀x∈its,ItF x
 lab:A26 its
 ef:∀x∈its,x.fit/\P8 x.body<=400000000
 nms:(A3y its).length<=960000
theorem B2s {s:List UInt8} (h:Z5 s=0):AllOk s (J7 s):=by
 obtain⟨g1,few⟩:=C2T s;obtain⟨k1,k2⟩:=C2V s;have hl:s.length<=4000:=by
  rw[Z5]at h;split at h
  ·cases h
  ·omega
 exact⟨hl,few,C2W s,k1,k2,fun x hx=>⟨(g1 x hx).1.fit,by have:=(g1 x hx).2;omega⟩,C1t g1 few⟩
theorem B7M {src:List UInt8}{its:List Itm} (h:AllOk src its) {i:Nat} (hi:i<its.length):(C1O its i).length<=2000000000:=by
 have h1:=(h.nm _ (A83 hi)).small.diags;have h2:=B3R h.nm (i:=i) hi;have h3:(A3a its i).ds.length<=(A3a its i).n:=by rw[NW.n];omega
 have h4:(B0D its i).length<=(A93 its i).length:=by rw[B0D,A0g];exact A3P _ _
 have h5:=B6r (its:=its) i;have h6:=h.nms;have h7:(A3c its i (-1)).ds.length<=800000000:=by
  have hc:=(h.fl _ (A83 hi)).cnt;rw[A3c];split
  ·have:=(A8i its (A0o its i).label (-1) (A0o its i).body (A6J (A0o its i).params) 0 FW0).2.1
   have e:FW0.ds.length=0:=rfl;omega
  ·exact H7 _
 rw[C1O,E9,E9,E9];omega
def plS (m:Nat):PS:=fun k _ a _ _ _ _=>k=1->a<=m
mutual
theorem C1Y (b:Int):∀(x:Stm),(B16 b x).length<=x.cnt
 | .mk k nm a lb o e thn els f t=>by
  have h1:=A8l b thn;have h2:=A8l b els;rw[B16,Stm.cnt,E9,E9];split
  ·simp only[F8,List.length_nil];omega
  ·simp only[List.length_nil];omega
theorem A8l (b:Int):∀(l:List Stm),(A01 b l).length<=P8 l
 | []=>by rw[A01];exact H7 _
 |x::l=>by
  have h1:=C1Y b x;have h2:=A8l b l;rw[A01,P8,E9];omega
 end
structure ItPl (it:Itm):Prop where
 small:it.small
 cnt:P8 it.body<=400000000
 at_:0<=it.at_/\it.at_<=1000000
 mark:it.mark<=1000000
 params:∀p∈it.params,p.at_<=1000000
 body:X7 C8a (plS 1000000) it.body
theorem ItN.pl {src:List UInt8}{it:Itm} (hs:src.length<=4000) (h:ItN src it):ItPl it:=by
 obtain⟨h1,h2,p,q,h3⟩:=h;have hm:=(h3.sub _ _ h3.mark).1;refine⟨h1,h2,by rw[h3.at_];omega,by omega,fun x hx=>?_,A47 (fun _ _ _ _ _ _ _=>trivial) (fun k nm a lb o f t hx hk=>?_) _ h3.body⟩
 ·have:=(h3.sub _ _ (h3.params x hx)).1
  omega
 ·have:=(h3.sub _ _ (hx (.inl hk))).1
  omega
theorem A55 (b:Int):∀(l:List Par),(l.flatMap (A52 b)).length<=l.length
 | []=>G9 _
 |p::l=>by
  have h1:=A55 b l;rw[A0a,E9,F8,A52];split
  ·simp only[F8,List.length_nil];omega
  ·simp only[List.length_nil];omega
theorem B69 {it:Itm} (h:ItPl it):(B8T it).length<=400000070:=by
 have h1:=h.cnt;have h2:=h.small.params;have h3:=A8l it.at_ it.body;have h4:=A55 it.at_ it.params;rw[B8T];split
 ·exact H7 _
 ·rw[F8,E9];omega
theorem A9v:∀ {its:List Itm},(∀it∈its,ItPl it)->(A3n its).length<=its.length *400000070
 | [],_=>by simp[A3n]
 |it::its,h=>by
  have h1:=B69 (h it Q7);have h2:=A9v (fun x hx=>h x (A0Q _ hx));rw[A3n,A0a,E9,F8,Nat.succ_mul];rw[A3n]at h2;omega
end Go.Sp
namespace Go.Proofs
open Go.Proofs.Tryz
open Go.Sp
open Go.Fw
section
variable {its:List Sp.Itm}{a:Option Addr}{cp:Nat}{xs:List Value}
theorem B98 (i:Nat) (hi:i<its.length) (at_:Int) (bf:Nat) (I:P6) (hfile:PtrI I bf 0 25 [.slice a its.length cp]) (h:FE I its a cp xs) (hlab:A26 its) (hF:∀x∈its,Sp.ItF x):
  CalM prog 75 #[ptr bf,nt i,.int .i64 at_] I [] (fun v _ H'=> ∃bc pi vf sc sa sp da dp,v=ptr bc/\H'=FSt bc bf pi sc sa sp (A3c its i at_) da dp vf at_):=by
 refine CalM.of fun w E hm=>enter (N:=69) func75 rfl [(0,ptr bf),(1,nt i),(2,.int .i64 at_)] A3C rfl ?_
 have hfew:=h.few;have hg:=A2G hi;obtain⟨ci,hci,hat,hlc⟩:=h.get hg;have hri:=h.row;have hmem:=A83 hi;have hIt:=hF _ hmem;have hlb:=hlab _ hmem;have hck:A3c its i at_=if (A0o its i).kind=2 then (A1C its (A0o its i).label at_ (A0o its i).body (A6J (A0o its i).params) 0 Sp.FW0).2 else Sp.FW0:=rfl
 generalize A3c its i at_=fin at hck |-;have hfl:=fun (J:P6) (m:Le I J)=>C2Q (I:=J) (h.le m) hlab (fun x hx=>(hF x hx).small)
 generalize A0o its i=it at hg hat hmem hIt hlb hck;have hat0:=hat
 obtain⟨pa,pc,sa9,sc9,ba,bc9,da9,dc9,xb,rfl,hpar,hsnd,hrb,hbs,_⟩:=hat
 have hsp:=hIt.small.params;have hsb:=hIt.small.body;by_cases k2:it.kind=2
 case neg=>
  rw[if_neg k2]at hck;subst hck;repeat' (first|refine A0m (id:=1) (hm.perm pm0) [0,1,2,3,4,5,6,7,8,9,11] [10,12,13] 14 (h:=?_);clear hm;intro wd hR hm|refine A05 (d:=16) ?_ (hr:=hri);intro bt ot hpt;rw[show ((i:Int).toNat *10)=i *10 from rfl,hci]at hpt|refine A1W (d:=19) ?_ hR (hp:=hfile)|refine U7 (d:=20) ?_ hm (hc:=hfl I (Le.refl _));clear hm;rintro _ I2 _ _ ⟨rfl,fa,fp,rfl,hflr⟩ hle hm;have hleI2:=hle;try simp only[F9]at hm;have hpt2:=hpt.le hleI2|refine C3y (d:=23) ?_ hm;clear hm;intro bc _ hm|refine A0c ?_ hR|refine A9w ?_ hm|refine A0w ?_;replace hm:=hR.back hm;clear hR;try simp only[F9]at hm|refine J4 ?_ hm|refine J5 ?_ hm|refine D8 ?_|refine D6 ?_|refine N9 ?_|refine E5 ?_|refine C9 ?_|refine D9 ?_|refine A7 ?_|refine E8 ?_|refine A8 ?_|refine G5 ?_|refine H8 ?_|refine J9 ?_|(refine D5 (ht:=fun _=>?_) (hf:=fun _=>?_)<;>try first|contradiction|omega)|refine Z4 ?_|refine O5 ?_|refine J8 ?_|refine A0b ?_)
  exact⟨I2,_,⟨bc,_,_,[],none,0,none,0,rfl,rfl⟩,((hm.nil 85 4).swap.nil 213 2).swap⟩
 rw[if_pos k2]at hck;repeat' (first|refine A0m (id:=1) (hm.perm pm0) [0,1,2,3,4,5,6,7,8,9,11] [10,12,13] 14 (h:=?_);clear hm;intro wd hR hm|refine A05 (d:=16) ?_ (hr:=hri);intro bt ot hpt;rw[show ((i:Int).toNat *10)=i *10 from rfl,hci]at hpt|refine A1W (d:=19) ?_ hR (hp:=hfile)|refine U7 (d:=20) ?_ hm (hc:=hfl I (Le.refl _));clear hm;rintro _ I2 _ _ ⟨rfl,fa,fp,rfl,hflr⟩ hle hm;have hleI2:=hle;try simp only[F9]at hm;have hpt2:=hpt.le hleI2|refine C3y (d:=23) ?_ hm;clear hm;intro bc _ hm|refine A0c ?_ hR|refine A9w ?_ hm|refine A0w ?_;replace hm:=hR.back hm;clear hR;try simp only[F9]at hm|refine J4 ?_ hm|refine J5 ?_ hm|refine D8 ?_|refine D6 ?_|refine N9 ?_|refine G7 ?_|refine E5 ?_|refine C9 ?_|refine D9 ?_|refine A7 ?_|refine E8 ?_|refine A8 ?_|refine F5 ?_|(refine D5 (ht:=fun _=>?_) (hf:=fun _=>?_)<;>try first|contradiction|omega)|refine Z4 ?_|refine O5 ?_|refine J8 ?_|refine A0b ?_)
 have hC2:FC I2 its it bf a cp xs (.pointer (some ⟨bt,ot,none⟩)) (.slice fa its.length fp):=⟨hfile.le hleI2,h.le hleI2,⟨bt,ot,_,_,rfl,hpt2,hat0.le hleI2⟩,⟨fa,fp,rfl,hflr⟩,hlab,hlb.1⟩;have hpar2:=hpar.le hleI2;refine U2 (fun x:FX=> [(0,ptr bf),(1,nt i),(2,.int .i64 at_),(7,ptr bc),(38,.slice pa it.params.length pc),(39,nt it.params.length),(40,nt x.k)])
  (fun x w'=>Mem E I2 (FSt bc bf (.pointer (some ⟨bt,ot,none⟩)) (A6J (it.params.take x.k)) x.sa x.sp Sp.FW0 none 0 (.slice fa its.length fp) at_) w'/\x.k<=it.params.length) (fun x=>it.params.length-x.k) ⟨0,I2,none,0,none,0⟩
  (by exact⟨rfl,rfl,rfl,rfl,rfl,rfl,rfl,trivial⟩) ⟨((hm.nil 85 4).swap.nil 213 2).swap,H7 _⟩ ?_
 clear hm;rintro⟨k,_,sa1,sp1,_,_⟩ w1 ⟨hm,hk⟩;dsimp only at hm hk |-;by_cases hlt:k<it.params.length
 ·have hgp:it.params[k]?=some it.params[k]:=G6 hlt
  generalize it.params[k]=p at hgp;have hst:=B9o hgp;have hpl:(A6J (it.params.take k)).length=k:=by rw[A6J,A0g,Q4];omega
  generalize A6J (it.params.take k)=sc at hm hst hpl;repeat' (first|refine Q9 (d:=42) (enc:=A2N) (z:=p) ?_ (hr:=hpar2) (he:=fun _=>rfl) (hz:=by exact hgp);intro bz oz hpz|refine A0s (id:=6) (hm.perm pm1_2) 10 12 (h:=?_);clear hm;intro wd hR hm|refine Y3 ?_ hR|refine A1U (d:=55) ?_ hm;clear hm;intro a55 cp55 _ _ hm;replace hm:=hR.back hm;clear hR;try simp only[F9]at hm|refine Y5 (d:=9) ?_ hm;clear hm;intro b9 _ hm|refine X3 ?_ hm|refine O6 hm (k:=?_);clear hm;intro _ hm;try simp only[F9]at hm|refine D8 ?_|refine J6 ?_|refine E5 ?_|refine P7 ?_|refine C9 ?_|refine D9 ?_|refine A7 ?_|refine D7 ?_|refine E8 ?_|refine A8 ?_|refine F5 ?_|refine G5 ?_|(refine D5 (ht:=fun _=>?_) (hf:=fun _=>?_)<;>try first|contradiction|omega)|refine Z4 ?_|refine O5 ?_|refine J8 ?_|refine A2M ?_|refine A0b ?_)
  refine L9 (⟨k+1,I2,a55,cp55,none,0⟩:FX) (by exact⟨rfl,rfl,rfl,rfl,rfl,rfl,rfl,trivial⟩) ⟨?_,by dsimp only;omega⟩ (by dsimp only;omega)
  dsimp only
  rw[hst, <-B2G];exact((hm.front 1 rfl).tl).swap
 ·obtain rfl:k=it.params.length:=by omega
  rw[V5]at hm;have hsl:=C1D hlab hmem;have hpl:(A6J it.params).length=it.params.length:=by rw[A6J,A0g]
  have hcn:=hIt.cnt;have hblk:=C8h (its:=its) (it:=it) (bc:=bc) (bf:=bf) (a:=a) (cp:=cp) (xs:=xs) (pi:=.pointer (some ⟨bt,ot,none⟩)) (vf:=.slice fa its.length fp) (at_:=at_) _ it.body (G9 _) (by omega) hIt.small.stms hIt.body I2 ba bc9 xb 0 (A6J it.params) Sp.FW0 sa1 sp1 none 0 (by omega) hsl (by omega) (by simp[Sp.FW0];omega) hC2 (hrb.le hleI2) (X6.le hleI2 _ _ hbs);rw[<-hck]at hblk;generalize A6J it.params=sc at hm hblk;repeat' (first|refine F6 (d:=67) ?_ hm (hc:=hblk);clear hm;rintro _ I3 _ _ ⟨rfl,sa3,sp3,da3,dp3,rfl⟩ hle hm;have hleI3:=hle;try simp only[F9]at hm|refine J4 ?_ hm|refine J5 ?_ hm|refine D8 ?_|refine D6 ?_|refine J6 ?_|refine E5 ?_|refine C9 ?_|refine D9 ?_|refine A7 ?_|refine H9 ?_|refine H5 ?_|refine E8 ?_|refine A8 ?_|refine P9 ?_|refine H8 ?_|refine J9 ?_|(refine D5 (ht:=fun _=>?_) (hf:=fun _=>?_)<;>try first|contradiction|omega))
  exact⟨I3,_,⟨bc,_,_,sc,sa3,sp3,da3,dp3,rfl,rfl⟩,hm⟩
theorem C42 (i:Nat) (hi:i<its.length) (I:P6) (h:FE I its a cp xs) (hlab:A26 its) (hF:∀x∈its,Sp.ItF x):
  CalM prog 47 #[.agg [.slice a its.length cp].toArray,nt i] I [] (fun v I' H'=>H'= []/\∃da dp,v=.slice da (A3c its i (-1)).ds.length dp/\RowI I' 85 4 (.slice da (A3c its i (-1)).ds.length dp) (A3c its i (-1)).ds.length ((A3c its i (-1)).ds.flatMap A5G)):=by
 refine CalM.of fun w E hm=>enter (N:=19) func47 rfl [(0,.agg [.slice a its.length cp].toArray),(1,nt i)] A0T rfl ?_
 have hfew:=h.few;repeat' (first|refine A0K (d:=2) ?_ hm;clear hm;intro b2 _ hm|refine J4 ?_ hm|refine D8 ?_|refine D6 ?_|refine L8 ?_|refine J6 ?_|refine A04 ?_|refine G7 ?_|refine C9 ?_|refine D9 ?_|refine A7 ?_|refine E8 ?_|refine A8 ?_|refine G5 ?_|(refine D5 (ht:=fun _=>?_) (hf:=fun _=>?_)<;>try first|contradiction|omega))
 obtain⟨I2,hle2,hm2,hpf⟩:=hm.freezeO;clear hm;have hm:=hm2;clear hm2;have hck:=B98 i hi (-1) b2 I2 hpf (h.le hle2) hlab hF;generalize A3c its i (-1)=fin at hck |-;repeat' (first|refine F6 (d:=15) ?_ hm (hc:=hck);clear hm;rintro _ I3 _ _ ⟨bc,pi,vf,sc,sa,sp,da,dp,rfl,rfl⟩ hle hm;have hleI3:=hle;try simp only[F9]at hm|refine J4 ?_ hm|refine D6 ?_|refine E5 ?_|refine C9 ?_|refine D9 ?_|refine A7 ?_|refine H8 ?_|refine J9 ?_)
 obtain⟨I4,hle4,hm4,hrow⟩:=(hm.front 2 rfl).freeze;exact⟨I4,[],⟨rfl,da,dp,rfl,hrow⟩,hm4.left (H:= [])⟩
theorem C43 (i:Nat) (hi:i<its.length) (at_:Int) (h0:0<=at_) (I:P6) (h:FE I its a cp xs) (hlab:A26 its) (hF:∀x∈its,Sp.ItF x):
  CalM prog 126 #[.agg [.slice a its.length cp].toArray,nt i,.int .i64 at_] I [] (fun v _ H'=>v=.tuple #[nt ((A3c its i at_).hv.getD 0),.bool (A3c its i at_).hv.isSome]/\H'= []):=by
 refine CalM.of fun w E hm=>enter (N:=33) func126 rfl [(0,.agg [.slice a its.length cp].toArray),(1,nt i),(2,.int .i64 at_)] A3C rfl ?_
 have hfew:=h.few;repeat' (first|refine A0K (d:=3) ?_ hm;clear hm;intro b3 _ hm|refine J4 ?_ hm|refine D8 ?_|refine D6 ?_|refine L8 ?_|refine J6 ?_|refine A04 ?_|refine G7 ?_|refine C9 ?_|(refine N8 (h1:=fun _=>?_) (h0:=fun _=>?_)<;>try first|contradiction|omega)|refine D9 ?_|refine A7 ?_|refine E8 ?_|refine A8 ?_|refine G5 ?_|(refine D5 (ht:=fun _=>?_) (hf:=fun _=>?_)<;>try first|contradiction|omega))
 obtain⟨I2,hle2,hm2,hpf⟩:=hm.freezeO;clear hm;have hm:=hm2;clear hm2;have hck:=B98 i hi at_ b3 I2 hpf (h.le hle2) hlab hF;generalize A3c its i at_=fin at hck |-;repeat' (first|refine F6 (d:=24) ?_ hm (hc:=hck);clear hm;rintro _ I3 _ _ ⟨bc,pi,vf,sc,sa,sp,da,dp,rfl,rfl⟩ hle hm;have hleI3:=hle;try simp only[F9]at hm|refine V3 ?_ hm|refine D6 ?_|refine D9 ?_|refine A7 ?_|refine E8 ?_|refine H8 ?_|refine A1T ?_|refine U5 ?_|refine A0j ?_;intro _ hkq;replace hm:=hm.kept0 hkq;clear hkq|refine X5 ?_|refine A1X ?_|refine O8 ?_|refine L6 ?_)
 exact⟨I3,[],⟨rfl,rfl⟩,hm.left (H:= [])⟩
end
abbrev A6k (d:Sp.DI):List Value:= [.int .i64 d.fr,.int .i64 d.to,nt d.err,str d.name]
theorem C0V {l:List Sp.DI}:∀u∈l.flatMap A6k,u.oneCell'=true:=fun u hu=>by
 obtain⟨d,_,hd⟩:=A6B.1 hu;rcases V8.1 hd with rfl|hd
 ·rfl
 ·rcases V8.1 hd with rfl|hd
  ·rfl
  ·rcases V8.1 hd with rfl|hd
   ·rfl
   ·obtain rfl:=A0v.1 hd;rfl
structure DgX where
 q:Nat
 sa:Option Addr
 sp:Nat
section
variable {src:List UInt8}{its:List Sp.Itm}{a:Option Addr}{cp:Nat}{xs:List Value}
theorem C5J (i:Nat) (hi:i<its.length) (I:P6) (h:FE I its a cp xs) (hA:Sp.AllOk src its):
  CalM prog 45 #[.agg [.slice a its.length cp].toArray,nt i] I [] (fun v I' H'=>H'= []/\∃da dp,v=.slice da (B3Y its i).length dp/\RowI I' 85 4 (.slice da (B3Y its i).length dp) (B3Y its i).length ((B3Y its i).flatMap A6k)):=by
 refine CalM.of fun w E hm=>enter (N:=73) func45 rfl [(0,.agg [.slice a its.length cp].toArray),(1,nt i)] A0T rfl ?_
 have hfew:=h.few;have hnms:=hA.nms;have hN:=fun (J:P6) (m:Le I J)=>C5k i hi J (h.le m) hA.len hA.nm
 have hE:=fun (J:P6) (m:Le I J)=>C4Y i hi J a cp xs (h.le m) hA.ef (by omega)
 have hFl:=fun (J:P6) (m:Le I J)=>C42 i hi J (h.le m) hA.lab hA.fl
 have hraw:=B7M hA hi;have hrw:C1O its i=(A0o its i).diags++((A3a its i).ds++(B0D its i++(A3c its i (-1)).ds)):=rfl;rw[B3Y];generalize C1O its i=raw at hraw hrw |-;obtain⟨ci,hci,hat,_⟩:=h.get (A2G hi);have hri:=h.row;generalize (A3a its i).ds=wl at hN hrw;generalize B0D its i=ed at hE hrw;generalize (A3c its i (-1)).ds=fd at hFl hrw;generalize A0o its i=it at hat hrw |-;obtain⟨pa,pc,sa9,sc9,ba,bc9,da9,dc9,xb,rfl,_,_,_,_,hrd⟩:=hat
 repeat' (first|refine A0H 4 ?_|refine A0K (d:=2) ?_ hm;clear hm;intro b2 _ hm|refine J4 ?_ hm|refine D8 ?_|refine D6 ?_|refine L8 ?_|refine J6 ?_|refine A04 ?_|refine G7 ?_|refine C9 ?_|refine D9 ?_|refine A7 ?_|refine E8 ?_|refine A8 ?_|refine G5 ?_|(refine D5 (ht:=fun _=>?_) (hf:=fun _=>?_)<;>try first|contradiction|omega))
 obtain⟨I2,hle2,hm2,hpf⟩:=hm.freezeO;clear hm;have hm:=hm2;clear hm2;have hri2:=hri.le hle2;refine⟨?_⟩
 repeat' (first|refine Z8 (id:=4) (hm.perm pm0) [0,1,2,3,4,5,6,7,9,10,12,13,17] [8,11,14,15,16] 18 (by kernel_rfl) ?_;clear hm;intro wd hR hm|refine A05 (d:=22) ?_ (hr:=hri2);intro bt ot hpt;rw[show ((i:Int).toNat *10)=i *10 from rfl,hci]at hpt|refine A1W (d:=25) ?_ hR (hp:=hpf)|refine A1W (d:=28) ?_ hR (hp:=hpf)|refine A1W (d:=31) ?_ hR (hp:=hpf)|refine U7 (d:=27) ?_ hm (hp:=pm0) (hc:=hN I2 hle2);clear hm;rintro _ I3 _ _ ⟨rfl,wa,wp,rfl,hrwd⟩ hleI3 hm;try simp only[F9]at hm|refine U7 (d:=30) ?_ hm (hp:=pm0) (hc:=hE I3 (hle2.trans hleI3));clear hm;rintro _ I4 _ _ ⟨rfl,ea,ep,rfl,hred⟩ hleI4 hm;try simp only[F9]at hm|refine U7 (d:=33) ?_ hm (hp:=pm0) (hc:=hFl I4 ((hle2.trans hleI3).trans hleI4));clear hm;rintro _ I5 _ _ ⟨rfl,fa,fp,rfl,hrfd⟩ hleI5 hm;try simp only[F9]at hm|refine C1p (d:=34) hm (by rfl) (by rfl) (by rfl) (by rfl) (by rfl) (by rfl) (by rfl) ?_;clear hm;intro I6 ta _ hle56 hm hrt|refine A0c ?_ hR|refine A0w ?_;replace hm:=hR.back hm;clear hR;try simp only[F9]at hm|refine B7P hm.kept (by rfl) (by rfl) (by rfl) ?_|refine D9 ?_|refine A7 ?_|refine F5 ?_|refine Z4 ?_|refine J8 ?_|refine A0b ?_)
 have hle36:Le I3 I6:=(hleI4.trans hleI5).trans hle56;have hle26:Le I2 I6:=hleI3.trans hle36;have hle16:Le I I6:=hle2.trans hle26;obtain⟨T,hT⟩:∃T:List (Tri Sp.Dg),T= [(it.diags,da9,dc9),(wl,wa,wp),(ed,ea,ep),(fd,fa,fp)]:=⟨_,rfl⟩;have hTl:T.length=4:=by rw[hT];rfl
 have hTf:raw=T.flatMap (·.1):=by rw[hrw,hT];simp
 have hrt2:RowI I6 36 1 (.slice ta 4 4) 4 (T.flatMap (fun t=> [A2w t])):=by rw[hT];exact hrt
 have hTr:∀t∈T,RowI I6 85 4 (A2w t) t.1.length (t.1.flatMap A5G):=fun t ht=>by
  rw[hT]at ht;rcases V8.1 ht with rfl|ht
  ·exact hrd.le hle16
  ·rcases V8.1 ht with rfl|ht
   ·exact hrwd.le hle36
   ·rcases V8.1 ht with rfl|ht
    ·exact hred.le (hleI5.trans hle56)
    ·obtain rfl:=A0v.1 ht
     exact hrfd.le hle56
 have hpf6:=hpf.le hle26;have hri6:=hri2.le hle26;have hpt6:=hci;clear hT hrd hrwd hred hrfd hrt hN hE hFl;have hm:=hm.nil 85 4;have hsub:∀q,(((T.take q).flatMap (·.1)).map (A4i it.at_)).length<=2000000000:=fun q=>by
  rw[A0g];have:((T.take q).flatMap (·.1)).length<=(T.flatMap (·.1)).length:=by
   conv=>rhs;rw[<-A3e q T]
   rw[X9,E9];omega
  rw[<-hTf]at this;omega
 refine U2 (fun x:DgX=> [(1,nt i),(2,ptr b2),(5,.slice x.sa (((T.take x.q).flatMap (·.1)).map (A4i it.at_)).length x.sp),(34,.slice ta 4 4),(35,nt 4),(36,nt x.q)])
  (fun x w'=>Mem E I6 [.row (.slice x.sa (((T.take x.q).flatMap (·.1)).map (A4i it.at_)).length x.sp) 85 4 (((T.take x.q).flatMap (·.1)).map (A4i it.at_)).length ((((T.take x.q).flatMap (·.1)).map (A4i it.at_)).flatMap A6k)] w'/\x.q<=4) (fun x=>4-x.q) ⟨0,none,0⟩
  (by exact⟨rfl,rfl,rfl,rfl,rfl,rfl,trivial⟩) ⟨hm,H7 _⟩ ?_
 clear hm;rintro⟨q,oa,op⟩ w1 ⟨hm,hq⟩;dsimp only at hm hq |-;by_cases hlq:q<4
 ·have hg:T[q]?=some T[q]:=G6 (by omega)
  have htr:=hTr _ (A0B hg);have htk:(T.take (q+1)).flatMap (·.1)=(T.take q).flatMap (·.1)++T[q].1:=by
   rw[A3f,hg,X9];simp
  have hsb:=hsub (q+1);rw[htk]at hsb;generalize T[q]=t at hg htr htk hsb;obtain⟨td,tda,tdc⟩:=t;dsimp only at htr htk hsb;generalize (T.take q).flatMap (·.1)=pre at hm htk hsb;rw[Y8,E9,A0g,A0g]at hsb;repeat' (first|refine Q9 (d:=38) (enc:=fun t=> [A2w t]) (z:=(td,tda,tdc)) ?_ (hr:=hrt2) (he:=fun _=>rfl) (hz:=by exact hg);intro bz oz hpz|refine A1w (d:=39) ?_ hm (hp:=hpz)|refine D8 ?_|refine D6 ?_|refine J6 ?_|refine G7 ?_|refine D9 ?_|refine A7 ?_|refine E8 ?_|refine A8 ?_|refine F5 ?_|refine G5 ?_|(refine D5 (ht:=fun _=>?_) (hf:=fun _=>?_)<;>try first|contradiction|omega))
  refine U2 (fun x:DgX=> [(1,nt i),(2,ptr b2),(5,.slice x.sa ((pre++td.take x.q).map (A4i it.at_)).length x.sp),(34,.slice ta 4 4),(35,nt 4),(36,nt q),(40,.slice tda td.length tdc),(41,nt td.length),(42,nt x.q)])
   (fun x w'=>Mem E I6 [.row (.slice x.sa ((pre++td.take x.q).map (A4i it.at_)).length x.sp) 85 4 ((pre++td.take x.q).map (A4i it.at_)).length (((pre++td.take x.q).map (A4i it.at_)).flatMap A6k)] w'/\x.q<=td.length) (fun x=>td.length-x.q) ⟨0,oa,op⟩
   (by exact⟨rfl,rfl,by rw[Z9,J3];rfl,rfl,rfl,rfl,rfl,rfl,rfl,trivial⟩) ⟨by dsimp only;rw[Z9,J3];exact hm,H7 _⟩ ?_
  clear hm;rintro⟨j,oa,op⟩ w2 ⟨hm,hj⟩;dsimp only at hm hj |-;by_cases hlj:j<td.length
  ·have hgj:td[j]?=some td[j]:=G6 hlj
   generalize td[j]=dg at hgj;have htj:(pre++td.take (j+1)).map (A4i it.at_)=(pre++td.take j).map (A4i it.at_)++ [A4i it.at_ dg]:=by
    rw[Q8 hgj, <-O3,Y8];rfl
   have hlt:((pre++td.take j).map (A4i it.at_)).length<=2000000000:=by
    rw[A0g,E9,Q4];omega
   generalize (pre++td.take j).map (A4i it.at_)=oj at hm htj hlt;repeat' (first|refine Q9 (d:=44) (enc:=A5G) (z:=dg) ?_ (hr:=htr) (he:=fun _=>rfl) (hz:=by exact hgj);intro bz2 oz2 hpz2|refine A0H 10 ?_|refine Y5 (d:=9) ?_ hm;clear hm;intro b9 _ hm|refine X3 ?_ hm|refine J6 ?_|refine D9 ?_|refine A7 ?_|refine E8 ?_|refine A8 ?_|refine F5 ?_|refine G5 ?_|(refine D5 (ht:=fun _=>?_) (hf:=fun _=>?_)<;>try first|contradiction|omega))
   refine⟨?_⟩
   refine C0L 10 (fun _:DgX=> [(1,nt i),(2,ptr b2),(5,.slice oa oj.length op),(9,ptr b9),(34,.slice ta 4 4),(35,nt 4),(36,nt q),(40,.slice tda td.length tdc),(41,nt td.length),(42,nt j)]) (fun _ w'=>Mem E I6 [.cell b9 (A6k (A4i it.at_ dg)) 85,.row (.slice oa oj.length op) 85 4 oj.length (oj.flatMap A6k)] w') ?_ ?_
   ·skip
    repeat' (first|refine A1k (id:=10) (hm.perm pm1_0) [0,2,3,4,5,6,7,9,11,12,13,14,15,16] 20 (h:=?_);clear hm;intro wd hR hm|refine A05 (d:=51) ?_ (hr:=hri6);intro bt1 ot1 hpt1;rw[show ((i:Int).toNat *10)=i *10 from rfl,hci]at hpt1|refine A05 (d:=60) ?_ (hr:=hri6);intro bt2 ot2 hpt2;rw[show ((i:Int).toNat *10)=i *10 from rfl,hci]at hpt2|refine B09 (C8G (listed':= #[true,false,true,true,true,true,true,true,false,true,false,true,true,true,true,true,true,false,false,false,false,false]) (by decide+kernel) ?_)|refine C3z hm (by rfl) (by rfl) (by rfl) gt0 (by rfl) ?_|refine C6g hm.kept (by rfl) (by rfl) (by rfl) (by rfl) ?_|refine B08 hm.kept (by rfl) (by rfl) (by rfl) ?_|refine B1B hm (by rfl) (by rfl) (by rfl) (by rfl) gt0 (by rfl) (by rfl) (by rfl) ?_;clear hm;intro _ hm;try simp only[F9]at hm|refine A6R (i:=1) (j:=10) ?_ (by decide+kernel) (h:=?_)|refine A6R (i:=8) (j:=10) ?_ (by decide+kernel) (h:=?_)|refine A6R (i:=1) (j:=17) ?_ (by decide+kernel) (h:=?_)|refine A6R (i:=8) (j:=17) ?_ (by decide+kernel) (h:=?_)|refine A6R (i:=17) (j:=18) ?_ (by decide+kernel) (h:=?_)|refine A6R (i:=17) (j:=19) ?_ (by decide+kernel) (h:=?_)|refine A1j (i:=1) ?_ (by decide+kernel)|refine A1j (i:=8) ?_ (by decide+kernel)|refine A1j (i:=10) ?_ (by decide+kernel)|refine A1j (i:=17) ?_ (by decide+kernel)|refine A1j (i:=18) ?_ (by decide+kernel)|refine A1j (i:=19) ?_ (by decide+kernel)|refine A5a (by decide+kernel) ?_;replace hm:=hR.back hm;clear hR;try simp only[F9]at hm|refine A0c ?_ hR|refine O6 hm (k:=?_);clear hm;intro _ hm;try simp only[F9]at hm|refine C9 ?_|refine D9 ?_|refine Z4 ?_|refine J8 ?_)
    all_goals exact A02 (⟨0,none,0⟩:DgX) (by exact⟨rfl,rfl,rfl,rfl,rfl,rfl,rfl,rfl,rfl,rfl,trivial⟩) hm
   clear hm;intro _ w3 hm;repeat' (first|refine A2l (d:=69) ?_ hm;clear hm;intro a69 cp69 _ _ hm;try simp only[F9]at hm|refine Y1 ?_ hm|refine D8 ?_|refine D6 ?_|refine P7 ?_|refine D9 ?_|refine A7 ?_|refine D7 ?_|refine A8 ?_)
   refine L9 (⟨j+1,a69,cp69⟩:DgX) (by exact⟨rfl,rfl,by rw[htj,E9];rfl,rfl,rfl,rfl,rfl,rfl,rfl,trivial⟩) ⟨?_,by dsimp only;omega⟩ (by dsimp only;omega)
   dsimp only
   rw[htj,X9,E9];exact hm.tl
  ·obtain rfl:j=td.length:=by omega
   rw[V5]at hm |-;repeat' (first|refine D8 ?_|refine J6 ?_|refine P7 ?_|refine D9 ?_|refine A7 ?_|refine H9 ?_|refine D7 ?_|refine H5 ?_|refine E8 ?_|refine A8 ?_|refine P9 ?_|(refine D5 (ht:=fun _=>?_) (hf:=fun _=>?_)<;>try first|contradiction|omega))
   exact L9 (⟨q+1,oa,op⟩:DgX) (by exact⟨rfl,rfl,by rw[htk];rfl,rfl,rfl,rfl,trivial⟩) ⟨by dsimp only;rw[htk];exact hm,by dsimp only;omega⟩ (by dsimp only;omega)
 ·obtain rfl:q=4:=by omega
  rw[A0u (by omega), <-hTf]at hm |-;repeat' (first|refine D8 ?_|refine D6 ?_|refine J6 ?_|refine D9 ?_|refine A7 ?_|refine H9 ?_|refine H5 ?_|refine E8 ?_|refine A8 ?_|refine P9 ?_|refine H8 ?_|refine J9 ?_|refine F7 ?_)
  obtain⟨I7,hle7,hm7,hrow⟩:=hm.freeze;exact⟨I7,[],⟨rfl,_,_,rfl,hrow⟩,hm7⟩
end
abbrev rpV (r:Sp.Rpl) (da:Option Addr) (dp:Nat) (ea:Option Addr) (ep:Nat):List Value:= [.int .i64 r.id,nt r.err,.slice da r.dgs.length dp,nt r.label,.int .i64 r.fr,str r.text,.slice ea r.ran.ev.length ep,.int .i64 r.ran.n,nt r.ran.err,nt r.ran.steps,nt r.fresh]
def A4u (I:P6) (r:Sp.Rpl) (c:List Value):Prop:= ∃da dp ea ep,c=rpV r da dp ea ep/\RowI I 85 4 (.slice da r.dgs.length dp) r.dgs.length (r.dgs.flatMap A6k)/\RowI I 186 2 (.slice ea r.ran.ev.length ep) r.ran.ev.length (r.ran.ev.flatMap A8t)
theorem A4u.plain (I:P6) {r:Sp.Rpl} (h1:r.dgs= []) (h2:r.ran.ev= []):A4u I r (rpV r none 0 none 0):=by
 refine⟨none,0,none,0,rfl,?_,?_⟩
 ·rw[h1];exact A0W _ _ _ _ _
 ·rw[h2];exact A0W _ _ _ _ _
abbrev B3H (bs:Nat) (s:Sp.Srv) (a:Option Addr) (c:Nat):HItem:=.cell bs [str s.text,.slice a (J7 s.text).length c,.bool s.op] 147
def C6j (bs:Nat) (r:Sp.Srv×Sp.Rpl):Value->P6->List HItem->Prop:=fun v I' H'=> ∃c a' c' xs',v=.agg c.toArray/\A4u I' r.2 c/\H'= [B3H bs r.1 a' c']/\FE I' (J7 r.1.text) a' c' xs'
structure SvX where
 I:P6
 a:Option Addr
 c:Nat
 xs:List Value
 b:Nat
theorem C38 {s:Sp.Srv} (h:Sp.OkQ s) (t:List UInt8) (ht:t.length<=9223372036854775807) (I:P6) (hC:Conv I) {a:Option Addr}{c:Nat}{xs:List Value} (hfe:FE I (J7 s.text) a c xs) (bs:Nat):
  CalM prog 93 #[ptr bs,str t] I [B3H bs s a c] (C6j bs (B32 s t)):=by
 refine CalM.of fun w E hm=>enter (N:=39) func93 rfl [(0,ptr bs),(1,str t)] A0T rfl ?_
 have hA:=C5w s.text t h.err I hC ht a c xs hfe.row hfe.ats;have hfew:=B6Z t;rw[B32];repeat' (first|refine A0H 1 ?_|refine U1 (d:=4) ?_ hm;clear hm;intro b4 _ hm|refine D9 ?_|refine A7 ?_|refine E8 ?_|refine A8 ?_)
 refine⟨C0L 1 (fun x:SvX=> [(0,ptr bs),(1,str t),(4,ptr b4),(5,ptr x.b),(6,nt (A4l s.text t)),(7,nt (Z5 t))])
  (fun x w'=>Mem E x.I [.cell x.b [.slice x.a (J7 t).length x.c] 25,.cell b4 (rpV A9d none 0 none 0) 80,B3H bs s a c] w'/\Le I x.I/\FE x.I (J7 t) x.a x.c x.xs) ?_ ?_⟩
 ·skip
  repeat' (first|refine A1k (id:=1) (hm.perm pm0) [0,1,2,3,4,5,6,7,8] 17 (h:=?_);clear hm;intro wd hR hm|refine A4o (d:=12) ?_ hR|refine A3Y [10,11,12,13] (by decide+kernel) hm.kept ?_|refine A3Y [16] (by decide+kernel) hm.kept ?_|refine A42 (d:=18) hm (by rfl) (by rfl) (by rfl) pm0 hA ?_;clear hm;rintro _ I2 _ _ ⟨a2,c2,xs2,rfl,hrow,hits,rfl⟩ hleI2 hm;try simp only[F9]at hm|refine A6R (i:=9) (j:=14) ?_ (by decide+kernel) (h:=?_)|refine A1j (i:=9) ?_ (by decide+kernel)|refine A1j (i:=14) ?_ (by decide+kernel)|refine A1j (i:=15) ?_ (by decide+kernel)|refine A6b ?_|refine A5a (by decide+kernel) ?_;replace hm:=hR.back hm;clear hR;try simp only[F9]at hm|refine Y3 ?_ hR|refine B1A (d:=5) ?_ hm;clear hm;intro b5 _ hm|refine B7t ?_ hm;clear hm;intro _ hm;try simp only[F9]at hm|refine D6 ?_|refine D9 ?_|refine Z4 ?_|refine A5V ?_|refine A4Q ?_|refine O5 ?_|refine J8 ?_)
  all_goals exact A02 (⟨I2,a2,c2,xs2,b5⟩:SvX) (by exact⟨rfl,rfl,rfl,rfl,rfl,rfl,trivial⟩) ⟨hm,hleI2,B99 hrow hits hfew⟩
 clear hm;rintro⟨I2,a2,c2,xs2,b5⟩ w2 ⟨hm,hle2,hfe2⟩;dsimp only at hm hle2 hfe2 |-;by_cases h0:Z5 t≠0
 ·rw[if_pos h0]
  repeat' (first|refine N7 ?_ hm;clear hm;intro _ hm;try simp only[F9]at hm|refine Y4 ?_ hm|refine D8 ?_|refine A0y ?_|refine Q3 ?_|refine D9 ?_|refine A7 ?_|refine G8 ?_|refine E8 ?_|refine A8 ?_|refine H8 ?_|(refine D5 (ht:=fun _=>?_) (hf:=fun _=>?_)<;>try first|contradiction|omega))
  exact⟨I2,_,⟨_,a,c,xs,rfl,A4u.plain I2 rfl rfl,rfl,hfe.le hle2⟩,hm.tl.tl⟩
 ·rw[if_neg h0]
  have h00:Z5 t=0:=by omega
  rw[h00];repeat' (first|refine A1k (id:=4) (hm.perm pm1_2) [0,1,2,3,4,5,6] 11 (h:=?_);clear hm;intro wd hR hm|refine A3Y [8,9] (by decide+kernel) hm.kept ?_|refine B1B hm (by rfl) (by rfl) (by rfl) (by rfl) gt0 (by rfl) (by rfl) (by rfl) ?_;clear hm;intro _ hm;try simp only[F9]at hm|refine C1s hm (by rfl) (by rfl) (by rfl) (by rfl) gt0 (by rfl) (by rfl) (by rfl) ?_;clear hm;intro _ hm;try simp only[F9]at hm|refine A1j (i:=7) ?_ (by decide+kernel)|refine A1j (i:=10) ?_ (by decide+kernel)|refine A6b ?_|refine A5a (by decide+kernel) ?_;replace hm:=hR.back hm;clear hR;try simp only[F9]at hm|refine A3g ?_ hR|refine N7 ?_ hm;clear hm;intro _ hm;try simp only[F9]at hm|refine O6 hm (k:=?_);clear hm;intro _ hm;try simp only[F9]at hm|refine Y4 ?_ hm|refine D8 ?_|refine A0y ?_|refine E5 ?_|refine C9 ?_|refine Q3 ?_|refine D9 ?_|refine A7 ?_|refine E8 ?_|refine A8 ?_|refine G5 ?_|refine H8 ?_|refine F7 ?_|refine Z4 ?_|refine O5 ?_|refine J8 ?_)
  exact⟨I2,_,⟨_,a2,c2,xs2,rfl,A4u.plain I2 rfl rfl,rfl,hfe2⟩,hm.left (H:= [_])⟩
abbrev B93 (f u:Int) (x:List UInt8):List Value:= [.int .i64 f,.int .i64 u,str x]
theorem C3P (s:List UInt8) (f u:Int) (x:List UInt8) (hs:s.length<=1099511627776) (hx:x.length<=1099511627776) (I:P6):
  CalM prog 125 #[str s,.agg (B93 f u x).toArray] I [] (fun v _ H'=>v=.tuple #[str (B2V s f u x),nt (A6W s f u x)]/\H'= []):=by
 refine CalM.of fun w E hm=>enter (N:=54) func125 rfl [(0,str s),(1,.agg (B93 f u x).toArray)] A0T rfl ?_
 by_cases h3:f<0\/u<f\/u>s.length
 ·have he:A6W s f u x=3:=by rw[A6W,if_pos h3]
  have ht:B2V s f u x= []:=by rw[B2V,he];rfl
  rw[he,ht];repeat' (first|refine A0K (d:=3) ?_ hm;clear hm;intro b3 _ hm|refine J4 ?_ hm|refine D8 ?_|refine D6 ?_|refine O9 ?_|refine L8 ?_|refine J6 ?_|refine A0F ?_|refine A0G ?_|refine C9 ?_|refine A0N ?_|(refine N8 (h1:=fun _=>?_) (h0:=fun _=>?_)<;>try first|contradiction|omega)|refine D9 ?_|refine A7 ?_|refine G8 ?_|refine E8 ?_|refine A8 ?_|refine H8 ?_|refine A1T ?_|refine H6 ?_|(refine D5 (ht:=fun _=>?_) (hf:=fun _=>?_)<;>try first|contradiction|omega))
  all_goals exact⟨I,[],⟨rfl,rfl⟩,hm.left (H:= [])⟩
 ·by_cases h4:x.length>4000\/(s.length:Int)-(u-f)+x.length>4000
  ·have he:A6W s f u x=4:=by rw[A6W,if_neg h3,if_pos h4]
   have ht:B2V s f u x= []:=by rw[B2V,he];rfl
   rw[he,ht];repeat' (first|refine A0K (d:=3) ?_ hm;clear hm;intro b3 _ hm|refine J4 ?_ hm|refine D8 ?_|refine D6 ?_|refine O9 ?_|refine L8 ?_|refine J6 ?_|refine A0F ?_|refine A0G ?_|refine P7 ?_|refine A3i ?_|refine C9 ?_|refine A0N ?_|(refine N8 (h1:=fun _=>?_) (h0:=fun _=>?_)<;>try first|contradiction|omega)|refine D9 ?_|refine A7 ?_|refine G8 ?_|refine E8 ?_|refine A8 ?_|refine G5 ?_|refine H8 ?_|refine A1T ?_|refine H6 ?_|(refine D5 (ht:=fun _=>?_) (hf:=fun _=>?_)<;>try first|contradiction|omega))
   all_goals exact⟨I,[],⟨rfl,rfl⟩,hm.left (H:= [])⟩
  ·have he:A6W s f u x=0:=by rw[A6W,if_neg h3,if_neg h4]
   have ht:B2V s f u x=s.take f.toNat++x++s.drop u.toNat:=by rw[B2V,he];rfl
   rw[he,ht];repeat' (first|refine B4P (d:=48) ?_ (h:=by simp only[Q4];omega)|refine B4P (d:=53) ?_ (h:=by simp only[E9,Q4,A0r];omega)|refine A0K (d:=3) ?_ hm;clear hm;intro b3 _ hm|refine J4 ?_ hm|refine V3 ?_ hm|refine D8 ?_|refine D6 ?_|refine L8 ?_|refine J6 ?_|refine A0F ?_|refine A0G ?_|refine P7 ?_|refine A3i ?_|refine C9 ?_|(refine N8 (h1:=fun _=>?_) (h0:=fun _=>?_)<;>try first|contradiction|omega)|refine D9 ?_|refine A7 ?_|refine E8 ?_|refine A8 ?_|refine G5 ?_|refine H8 ?_|refine A1T ?_|refine U5 ?_|refine A0j ?_;intro _ hkq;replace hm:=hm.kept0 hkq;clear hkq|(refine D5 (ht:=fun _=>?_) (hf:=fun _=>?_)<;>try first|contradiction|omega)|refine X5 ?_|refine A1X ?_|refine B5P ?_|refine B9u ?_|refine L6 ?_)
   all_goals exact⟨I,[],⟨rfl,rfl⟩,hm.left (H:= [])⟩
abbrev A5H (d:Sp.Pl):List Value:= [str d.name,.int .i64 d.at_]
abbrev B3y (l:List Sp.Pl) (a:Option Addr) (cp:Nat):HItem:=.row (.slice a l.length cp) 128 2 l.length (l.flatMap A5H)
abbrev C8K (l:List Sp.Pl):Value->P6->List HItem->Prop:=fun v _ H'=> ∃a cp,v=.slice a l.length cp/\H'= [B3y l a cp]
structure RrX where
 k:Nat
 I:P6
 a:Option Addr
 cp:Nat
theorem C5N (b:Int) (hb0: -1000000<=b) (hb1:b<=1000000):∀(n:Nat) (l:List Sp.Stm),SizeOf.sizeOf l<=n->l.length<=64->A0i l->X7 C8a (Sp.plS 1000000) l->
  ∀(I:P6) (la:Option Addr) (lc:Nat) (ys:List Value) (out:List Sp.Pl) (oa:Option Addr) (oc:Nat),out.length+(A01 b l).length<=1000000000000->RowI I 111 15 (.slice la l.length lc) l.length ys->X6 I l ys->
  CalM prog 84 #[.slice oa out.length oc,.int .i64 b,.slice la l.length lc] I [B3y out oa oc] (C8K (out++A01 b l)):=by
 intro n;induction n with
 |zero=>intro l h;cases l<;>simp at h
 |succ n ih=>
 intro l hsz hll hsm hal I la lc ys out oa oc hol hr hx;refine CalM.of fun w E hm=>enter (N:=60) func84 rfl [(0,.slice oa out.length oc),(1,.int .i64 b),(2,.slice la l.length lc)] A3C rfl ?_
 repeat' (first|refine D8 ?_|refine D6 ?_|refine G7 ?_|refine D9 ?_|refine A7 ?_|refine E8 ?_|refine A8 ?_|refine F5 ?_)
 refine U2 (fun x:RrX=> [(0,.slice x.a (out++A01 b (l.take x.k)).length x.cp),(1,.int .i64 b),(2,.slice la l.length lc),(9,nt l.length),(10,nt x.k)])
  (fun x w'=>Mem E x.I [B3y (out++A01 b (l.take x.k)) x.a x.cp] w'/\Le I x.I/\x.k<=l.length) (fun x=>l.length-x.k) ⟨0,I,oa,oc⟩
  (by exact⟨by rw[Z9,A01,J3];rfl,rfl,rfl,rfl,rfl,trivial⟩) ⟨by rw[Z9,A01,J3];exact hm,Le.refl _,H7 _⟩ ?_
 clear hm;rintro⟨k,I1,a1,cp1⟩ w1 ⟨hm,hle1,hk⟩;dsimp only at hm hle1 hk |-;by_cases hlt:k<l.length
 ·have hg:l[k]?=some l[k]:=G6 hlt
  have hst:=B74 b hg;have hcut:(A01 b l).length=(A01 b (l.take (k+1))).length+(A01 b (l.drop (k+1))).length:=by
   rw[<-E9, <-B0n,A3e]
  have h1:=A1D hsm hg;have h2:=Sp.Stm.all_node (A4N hal hg);have h3:=A3w (O7 hlt);obtain⟨ea,ec,ex,a1',c1,xs1,a2',c2,xs2,hc,q2,q3,q4,q5,q6,q7⟩:=(hx.get hg).out;generalize l[k]=x at hg hst h1 h2 h3 hc q2 q3 q4 q5 q6 q7;rw[C4k]at hst;have hz:SizeOf.sizeOf x.thn<SizeOf.sizeOf x/\SizeOf.sizeOf x.els<SizeOf.sizeOf x:=by
   cases x
   simp only[Sp.Stm.thn,Sp.Stm.els,Sp.Stm.mk.sizeOf_spec];omega
  have hsx:x.thn.length<=64/\A0i x.thn/\x.els.length<=64/\A0i x.els:=by
   cases x
   rw[Sp.Stm.small]at h1;exact h1.2
  rw[hst,E9,E9,E9]at hcut;have hr1:=hr.le hle1;have hT1:=fun (J:P6) (m:Le I1 J) (o2:List Sp.Pl) (a cp) (ho:o2.length+(A01 b x.thn).length<=1000000000000)=>ih x.thn (by omega) hsx.1 hsx.2.1 h2.2.2.1 J a1' c1 xs1 o2 a cp ho ((q4.le hle1).le m) (X6.le m _ _ (X6.le hle1 _ _ q5))
  have hT2:=fun (J:P6) (m:Le I1 J) (o2:List Sp.Pl) (a cp) (ho:o2.length+(A01 b x.els).length<=1000000000000)=>ih x.els (by omega) hsx.2.2.1 hsx.2.2.2 h2.2.2.2 J a2' c2 xs2 o2 a cp ho ((q6.le hle1).le m) (X6.le m _ _ (X6.le hle1 _ _ q7))
  generalize A01 b x.thn=t1 at hst hcut hT1;generalize A01 b x.els=t2 at hst hcut hT2;have hpl:=h2.1;obtain⟨pre,hpre⟩:∃pre,pre=out++A01 b (l.take k):=⟨_,rfl⟩;have hpn:pre.length=out.length+(A01 b (l.take k)).length:=by rw[hpre,E9]
  rw[<-hpre]at hm |-;by_cases hkn:x.kind=1/\x.name≠ []
  ·rw[if_pos hkn]at hst hcut
   obtain⟨hk1,hnn⟩:=hkn;have ha:=hpl hk1;simp only[F8,List.length_nil]at hcut;have hfin:out++A01 b (l.take (k+1))=pre++ [⟨x.name,b+x.at_⟩]++t1++t2:=by rw[hst,hpre];simp only[O3]
   have hfl:pre.flatMap A5H++ [str x.name,.int .i64 (b+x.at_)]=(pre++ [Sp.Pl.mk x.name (b+x.at_)]).flatMap A5H:=by rw[X9];rfl
   have hp1l:(pre++ [Sp.Pl.mk x.name (b+x.at_)]).length=pre.length+1:=by rw[E9];rfl
   have hC1:=fun (a:Option Addr) (cp:Nat)=>hT1 I1 (Le.refl _) (pre++ [Sp.Pl.mk x.name (b+x.at_)]) a cp (by rw[hp1l];omega)
   simp only[B3y,hp1l]at hC1;repeat' (first|refine O0 (d:=15) ?_ (hr:=hr1);intro b0 o0 hp0;rw[show ((k:Int).toNat *15)=k *15 from rfl,hc]at hp0|refine O0 (d:=22) ?_ (hr:=hr1);intro b3 o3 hp3;rw[show ((k:Int).toNat *15)=k *15 from rfl,hc]at hp3|refine A0s (id:=5) (hm.perm pm1_0) 14 16 (h:=?_);clear hm;intro wd hR hm|refine A05 (d:=30) ?_ (hr:=hr1);intro b4 o4 hp4;rw[show ((k:Int).toNat *15)=k *15 from rfl,hc]at hp4|refine A05 (d:=36) ?_ (hr:=hr1);intro b5 o5 hp5;rw[show ((k:Int).toNat *15)=k *15 from rfl,hc]at hp5|refine A0H 6 ?_|refine A0c ?_ hR|refine A1U (d:=42) ?_ hm;clear hm;intro a42 cp42 _ _ hm;replace hm:=hR.back hm;clear hR;try simp only[F9]at hm|refine J5 ?_ hm|refine D8 ?_|refine D6 ?_|refine O9 ?_|refine J6 ?_|refine N9 ?_|refine A08 ?_|refine C9 ?_|(refine N8 (h1:=fun _=>?_) (h0:=fun _=>?_)<;>try first|contradiction|omega)|refine D9 ?_|refine A7 ?_|refine E8 ?_|refine A8 ?_|refine F5 ?_|refine G5 ?_|(refine D5 (ht:=fun _=>?_) (hf:=fun _=>?_)<;>try first|contradiction|omega)|refine Z4 ?_|refine B8c ?_|refine J8 ?_|refine A2M ?_|refine A0b ?_)
   have hm:Mem E I1 [.row (.slice a42 (pre.length+1) cp42) 128 2 (pre.length+1) (pre.flatMap A5H++ [str x.name,.int .i64 (b+x.at_)])] _:=hm;rw[hfl]at hm;refine⟨?_⟩
   repeat' (first|refine A0m (id:=6) (hm.perm pm1_0) [0,1,2,3,4,5,6,8,9,10,11,12,13] [7,14] 15 (h:=?_);clear hm;intro wd hR hm|refine A05 (d:=47) ?_ (hr:=hr1);intro b6 o6 hp6;rw[show ((k:Int).toNat *15)=k *15 from rfl,hc]at hp6|refine A05 (d:=54) ?_ (hr:=hr1);intro b7 o7 hp7;rw[show ((k:Int).toNat *15)=k *15 from rfl,hc]at hp7|refine U7 (d:=50) ?_ hm (hp:=pm1_0) (hc:=hC1 a42 cp42);clear hm;rintro _ I2 _ _ ⟨a50,cp50,rfl,rfl⟩ hleI2 hm;try simp only[F9]at hm|refine U7 (d:=57) ?_ hm (hp:=pm1_0) (hc:=hT2 I2 hleI2 (pre++ [Sp.Pl.mk x.name (b+x.at_)]++t1) a50 cp50 (by rw[E9,hp1l];omega));clear hm;rintro _ I3 _ _ ⟨a57,cp57,rfl,rfl⟩ hleI3 hm;try simp only[F9]at hm|refine A0c ?_ hR|refine A0w ?_;replace hm:=hR.back hm;clear hR;try simp only[F9]at hm|refine D8 ?_|refine D6 ?_|refine P7 ?_|refine D9 ?_|refine A7 ?_|refine D7 ?_|refine A8 ?_|refine Z4 ?_|refine J8 ?_|refine A0b ?_)
   exact L9 (⟨k+1,I3,a57,cp57⟩:RrX) (by exact⟨by rw[hfin];rfl,rfl,rfl,rfl,rfl,trivial⟩) ⟨by dsimp only;rw[hfin];exact hm,(hle1.trans hleI2).trans hleI3,by dsimp only;omega⟩ (by dsimp only;omega)
  ·rw[if_neg hkn,P5]at hst
   rw[if_neg hkn]at hcut;simp only[List.length_nil]at hcut;have hfin:out++A01 b (l.take (k+1))=pre++t1++t2:=by rw[hst,hpre];simp only[O3]
   repeat' (first|refine O0 (d:=15) ?_ (hr:=hr1);intro b0 o0 hp0;rw[show ((k:Int).toNat *15)=k *15 from rfl,hc]at hp0|refine O0 (d:=22) ?_ (hr:=hr1);intro b3 o3 hp3;rw[show ((k:Int).toNat *15)=k *15 from rfl,hc]at hp3|refine A0m (id:=6) (hm.perm pm1_0) [0,1,2,3,4,5,6,8,9,10,11,12,13] [7,14] 15 (h:=?_);clear hm;intro wd hR hm|refine A05 (d:=47) ?_ (hr:=hr1);intro b6 o6 hp6;rw[show ((k:Int).toNat *15)=k *15 from rfl,hc]at hp6|refine A05 (d:=54) ?_ (hr:=hr1);intro b7 o7 hp7;rw[show ((k:Int).toNat *15)=k *15 from rfl,hc]at hp7|refine U7 (d:=50) ?_ hm (hp:=pm1_0) (hc:=hT1 I1 (Le.refl _) pre a1 cp1 (by omega));clear hm;rintro _ I2 _ _ ⟨a50,cp50,rfl,rfl⟩ hleI2 hm;try simp only[F9]at hm|refine U7 (d:=57) ?_ hm (hp:=pm1_0) (hc:=hT2 I2 hleI2 (pre++t1) a50 cp50 (by rw[E9];omega));clear hm;rintro _ I3 _ _ ⟨a57,cp57,rfl,rfl⟩ hleI3 hm;try simp only[F9]at hm|refine A0c ?_ hR|refine A0w ?_;replace hm:=hR.back hm;clear hR;try simp only[F9]at hm|refine J5 ?_ hm|refine D8 ?_|refine D6 ?_|refine O9 ?_|refine L8 ?_|refine J6 ?_|refine N9 ?_|refine A08 ?_|refine P7 ?_|refine C9 ?_|refine A0N ?_|(refine N8 (h1:=fun _=>?_) (h0:=fun _=>?_)<;>try first|contradiction|omega)|refine D9 ?_|refine A7 ?_|refine D7 ?_|refine E8 ?_|refine A8 ?_|refine F5 ?_|refine G5 ?_|refine U5 ?_|refine F7 ?_|(refine D5 (ht:=fun _=>?_) (hf:=fun _=>?_)<;>try first|contradiction|omega)|refine X5 ?_|refine Z4 ?_|refine J8 ?_|refine A0b ?_)
   all_goals try exact absurd ⟨by omega,by assumption⟩ hkn
   all_goals exact L9 (⟨k+1,I3,a57,cp57⟩:RrX) (by exact⟨by rw[hfin];rfl,rfl,rfl,rfl,rfl,trivial⟩) ⟨by dsimp only;rw[hfin];exact hm,(hle1.trans hleI2).trans hleI3,by dsimp only;omega⟩ (by dsimp only;omega)
 ·obtain rfl:k=l.length:=by omega
  rw[V5]at hm |-;repeat' (first|refine D8 ?_|refine D6 ?_|refine J6 ?_|refine D9 ?_|refine A7 ?_|refine H9 ?_|refine H5 ?_|refine E8 ?_|refine A8 ?_|refine P9 ?_|refine H8 ?_|refine J9 ?_|(refine D5 (ht:=fun _=>?_) (hf:=fun _=>?_)<;>try first|contradiction|omega))
  exact⟨I1,_,⟨a1,cp1,rfl,rfl⟩,hm⟩
structure RrY where
 k:Nat
 I:P6
 a:Option Addr
 cp:Nat
structure RrZ where
 k:Nat
 a:Option Addr
 cp:Nat
theorem C8i (l:List Sp.Pl) (d:Sp.Pl):l.flatMap A5H++A5H d=(l++ [d]).flatMap A5H:=by rw[X9];simp
theorem C0u {its:List Sp.Itm}{a:Option Addr}{cp:Nat}{xs:List Value}{bf:Nat} (I:P6) (hpf:PtrI I bf 0 25 [.slice a its.length cp]) (h:FE I its a cp xs) (hP:∀it∈its,Sp.ItPl it):
  CalM prog 52 #[ptr bf] I [] (fun v I' H'=>H'= []/\∃ma mp,v=.slice ma (A3n its).length mp/\RowI I' 128 2 (.slice ma (A3n its).length mp) (A3n its).length ((A3n its).flatMap A5H)):=by
 refine CalM.of fun w E hm=>enter (N:=89) func52 rfl [(0,ptr bf)] A0I rfl ?_
 have hfew:=h.few;have hm:=hm.nil 128 2;repeat' (first|refine J5 ?_ hm|refine D8 ?_|refine D6 ?_|refine G7 ?_|refine E5 ?_|refine C9 ?_|refine D9 ?_|refine A7 ?_|refine E8 ?_|refine A8 ?_|refine F5 ?_)
 refine U2 (fun x:RrY=> [(0,ptr bf),(3,.slice x.a (A3n (its.take x.k)).length x.cp),(12,nt its.length),(13,nt x.k)])
  (fun x w'=>Mem E x.I [B3y (A3n (its.take x.k)) x.a x.cp] w'/\Le I x.I/\x.k<=its.length) (fun x=>its.length-x.k) ⟨0,I,none,0⟩
  (by exact⟨rfl,rfl,rfl,rfl,trivial⟩) ⟨hm,Le.refl _,H7 _⟩ ?_
 clear hm;rintro⟨k,I1,a1,cp1⟩ w1 ⟨hm,hle1,hk⟩;dsimp only at hm hle1 hk |-;have hpf1:=hpf.le hle1;have h1:=h.le hle1;have hri:=h1.row;by_cases hlt:k<its.length
 ·have hg:its[k]?=some its[k]:=G6 hlt
  have hit:=hP _ (O7 hlt);have hst:=B85 hg;have hml:=A9v (its:=its.take k) (fun x hx=>hP x (A7V hx));rw[Q4,A1g hk]at hml;obtain⟨cs,hcs,hat,_⟩:=h1.get hg;generalize its[k]=it at hg hit hst hat
  have hil:=B69 hit;rw[B8T]at hst hil;generalize A3n (its.take k)=pre at hm hst hml |-;obtain⟨hat0,hat1⟩:=hit.at_;have hmk:=hit.mark;obtain⟨pa,pc,sa9,sc9,ba,bc9,da9,dc9,xb,rfl,hpar,_,hrb,hbs,_⟩:=hat
  have hps:=hit.small.params;by_cases hb:it.kind=3\/it.name= []
  ·rw[if_pos hb,J3]at hst
   repeat' (first|refine O0 (d:=21) ?_ (hr:=hri);intro bt ot hpt;rw[show ((k:Int).toNat *10)=k *10 from rfl,hcs]at hpt|refine J5 ?_ hm|refine A0q ?_ hm|refine D8 ?_|refine D6 ?_|refine O9 ?_|refine L8 ?_|refine J6 ?_|refine N9 ?_|refine V9 ?_|refine E5 ?_|refine P7 ?_|refine C9 ?_|refine A0N ?_|(refine N8 (h1:=fun _=>?_) (h0:=fun _=>?_)<;>try first|contradiction|omega)|refine D9 ?_|refine A7 ?_|refine H9 ?_|refine H5 ?_|refine E8 ?_|refine A8 ?_|refine F5 ?_|refine G5 ?_|refine P9 ?_|refine U5 ?_|refine H6 ?_|(refine D5 (ht:=fun _=>?_) (hf:=fun _=>?_)<;>try first|contradiction|omega)|refine X5 ?_|refine O8 ?_|refine A9W ?_|refine L6 ?_|refine B7K ?_)
   all_goals first
    |exact L9 (⟨k+1,I1,a1,cp1⟩:RrY) (by exact⟨rfl,by rw[hst];rfl,rfl,rfl,trivial⟩) ⟨by dsimp only;rw[hst];exact hm,hle1,by dsimp only;omega⟩ (by dsimp only;omega)
    |(exfalso;rcases hb with hb|hb
      ·omega
      ·contradiction)
  rw[if_neg hb]at hst hil;have hk3:it.kind≠3:=fun e=>hb (.inl e)
  have hnn:it.name≠ []:=fun e=>hb (.inr e)
  rw[F8,E9]at hil;have hL:=fun (J:P6) (m:Le I1 J) (o2:List Sp.Pl) (a cp) (ho:o2.length+(A01 it.at_ it.body).length<=1000000000000)=>C5N it.at_ (by omega) (by omega) _ it.body (G9 _) (by have:=hit.small.body;omega) hit.small.stms hit.body J ba bc9 xb o2 a cp ho (hrb.le m) (X6.le m _ _ hbs)
  generalize A01 it.at_ it.body=tl at hst hil hL;repeat' (first|refine O0 (d:=21) ?_ (hr:=hri);intro bt ot hpt;rw[show ((k:Int).toNat *10)=k *10 from rfl,hcs]at hpt|refine A0s (id:=7) (hm.perm pm1_0) 15 17 (h:=?_);clear hm;intro wd hR hm|refine A0c ?_ hR|refine A1U (d:=50) ?_ hm;clear hm;intro a50 cp50 _ _ hm;replace hm:=hR.back hm;clear hR;try simp only[F9]at hm|refine J5 ?_ hm|refine D8 ?_|refine D6 ?_|refine L8 ?_|refine J6 ?_|refine N9 ?_|refine V9 ?_|refine G7 ?_|refine E5 ?_|refine C9 ?_|(refine N8 (h1:=fun _=>?_) (h0:=fun _=>?_)<;>try first|contradiction|omega)|refine D9 ?_|refine A7 ?_|refine E8 ?_|refine A8 ?_|refine F5 ?_|refine G5 ?_|(refine D5 (ht:=fun _=>?_) (hf:=fun _=>?_)<;>try first|contradiction|omega)|refine Z4 ?_|refine O5 ?_|refine B8c ?_|refine J8 ?_|refine A2M ?_|refine A0b ?_)
  have hm:Mem E I1 [.row (.slice a50 (pre.length+1) cp50) 128 2 (pre.length+1) (pre.flatMap A5H++A5H ⟨it.name,it.at_+it.mark⟩)] _:=hm;rw[C8i]at hm;obtain⟨p1,hp1⟩:∃p1,p1=pre++ [Sp.Pl.mk it.name (it.at_+it.mark)]:=⟨_,rfl⟩;have hp1l:p1.length=pre.length+1:=by rw[hp1,E9];rfl
  rw[<-hp1, <-hp1l]at hm;have hst1:A3n (its.take (k+1))=p1++it.params.flatMap (A52 it.at_)++tl:=by rw[hst,hp1];simp only[O3,Y0,P5]
  have hz0:(p1++(it.params.take 0).flatMap (A52 it.at_)).length=pre.length+1:=by rw[Z9,List.flatMap_nil,J3,hp1l]
  refine U2 (fun x:RrZ=> [(0,ptr bf),(3,.slice x.a (p1++(it.params.take x.k).flatMap (A52 it.at_)).length x.cp),(5,.pointer (some ⟨bt,ot,none⟩)),(12,nt its.length),(13,nt k),(54,.slice pa it.params.length pc),(55,nt it.params.length),(56,nt x.k)])
   (fun x w'=>Mem E I1 [B3y (p1++(it.params.take x.k).flatMap (A52 it.at_)) x.a x.cp] w'/\x.k<=it.params.length) (fun x=>it.params.length-x.k) ⟨0,a50,cp50⟩
   (by exact⟨rfl,by show some (Value.slice a50 (pre.length+1) cp50)=some (Value.slice a50 (p1++(it.params.take 0).flatMap (A52 it.at_)).length cp50);rw[hz0],rfl,rfl,rfl,rfl,rfl,rfl,trivial⟩) ⟨by rw[Z9,List.flatMap_nil,J3];exact hm,H7 _⟩ ?_
  clear hm;rintro⟨q,a2,cp2⟩ w2 ⟨hm,hq⟩;dsimp only at hm hq |-;have hql:=A55 it.at_ (it.params.take q);rw[Q4,A1g hq]at hql;by_cases hlq:q<it.params.length
  ·have hgq:it.params[q]?=some it.params[q]:=G6 hlq
   have hpa:=hit.params _ (O7 hlq);have htk:(it.params.take (q+1)).flatMap (A52 it.at_)=(it.params.take q).flatMap (A52 it.at_)++A52 it.at_ it.params[q]:=by rw[Q8 hgq,X9];simp
   generalize it.params[q]=p at hgq hpa htk;rw[A52]at htk;generalize (it.params.take q).flatMap (A52 it.at_)=pq at hm htk hql |-;have hpl2:(p1++pq).length=p1.length+pq.length:=E9;by_cases hpn:p.name≠ []
   ·rw[if_pos hpn]at htk
    repeat' (first|refine Q9 (d:=58) (enc:=A2N) (z:=p) ?_ (hr:=hpar) (he:=fun _=>rfl) (hz:=by exact hgq);intro bz oz hpz|refine A0s (id:=12) (hm.perm pm1_1) 11 13 (h:=?_);clear hm;intro wd hR hm|refine Y3 ?_ hR|refine A0c ?_ hR|refine A1U (d:=75) ?_ hm;clear hm;intro a75 cp75 _ _ hm;replace hm:=hR.back hm;clear hR;try simp only[F9]at hm|refine Y5 (d:=7) ?_ hm;clear hm;intro b7 _ hm|refine J4 ?_ hm|refine X3 ?_ hm|refine D8 ?_|refine D6 ?_|refine J6 ?_|refine A08 ?_|refine P7 ?_|refine C9 ?_|refine D9 ?_|refine A7 ?_|refine D7 ?_|refine E8 ?_|refine A8 ?_|refine F5 ?_|refine G5 ?_|(refine D5 (ht:=fun _=>?_) (hf:=fun _=>?_)<;>try first|contradiction|omega)|refine Z4 ?_|refine O5 ?_|refine B8c ?_|refine J8 ?_|refine A2M ?_|refine A0b ?_)
    have hm:Mem E I1 [.row (.slice a75 ((p1++pq).length+1) cp75) 128 2 ((p1++pq).length+1) ((p1++pq).flatMap A5H++A5H ⟨p.name,it.at_+p.at_⟩)] _:=hm.hd;rw[C8i]at hm;have e1:(p1++pq++ [Sp.Pl.mk p.name (it.at_+p.at_)]).length=(p1++pq).length+1:=by rw[E9];rfl
    refine L9 (⟨q+1,a75,cp75⟩:RrZ) (by exact⟨rfl,by show some (Value.slice a75 ((p1++pq).length+1) cp75)=some (Value.slice a75 (p1++(it.params.take (q+1)).flatMap (A52 it.at_)).length cp75);rw[htk, <-O3,e1],rfl,rfl,rfl,rfl,rfl,rfl,trivial⟩) ⟨by dsimp only;rw[htk, <-O3];unfold B3y;rw[e1];exact hm,by dsimp only;omega⟩ (by dsimp only;omega)
   ·rw[if_neg hpn,J3]at htk
    repeat' (first|refine Q9 (d:=58) (enc:=A2N) (z:=p) ?_ (hr:=hpar) (he:=fun _=>rfl) (hz:=by exact hgq);intro bz oz hpz|refine Y5 (d:=7) ?_ hm;clear hm;intro b7 _ hm|refine J4 ?_ hm|refine X3 ?_ hm|refine D8 ?_|refine J6 ?_|refine A08 ?_|refine P7 ?_|refine C9 ?_|refine D9 ?_|refine A7 ?_|refine D7 ?_|refine E8 ?_|refine A8 ?_|refine F5 ?_|refine G5 ?_|(refine D5 (ht:=fun _=>?_) (hf:=fun _=>?_)<;>try first|contradiction|omega))
    exact L9 (⟨q+1,a2,cp2⟩:RrZ) (by exact⟨rfl,by rw[htk];rfl,rfl,rfl,rfl,rfl,rfl,rfl,trivial⟩) ⟨by dsimp only;rw[htk];exact hm.tl,by dsimp only;omega⟩ (by dsimp only;omega)
  obtain rfl:q=it.params.length:=by omega
  rw[V5]at hm |-;obtain⟨p2,hp2⟩:∃p2,p2=p1++it.params.flatMap (A52 it.at_):=⟨_,rfl⟩;have hp2l:p2.length<=pre.length+1+it.params.length:=by
   have:=A55 it.at_ it.params;rw[hp2,E9,hp1l];omega
  rw[<-hp2]at hm hst1 |-;repeat' (first|refine A0m (id:=14) (hm.perm pm1_0) [0,1,2,3,4,5,6,7,8] [9] 10 (h:=?_);clear hm;intro wd hR hm|refine U7 (d:=86) ?_ hm (hp:=pm1_0) (hc:=hL I1 (Le.refl _) p2 a2 cp2 (by omega));clear hm;rintro _ I2 _ _ ⟨a86,cp86,rfl,rfl⟩ hleI2 hm;try simp only[F9]at hm|refine A0c ?_ hR|refine A0w ?_;replace hm:=hR.back hm;clear hR;try simp only[F9]at hm|refine D8 ?_|refine D6 ?_|refine J6 ?_|refine P7 ?_|refine D9 ?_|refine A7 ?_|refine H9 ?_|refine D7 ?_|refine H5 ?_|refine E8 ?_|refine A8 ?_|refine P9 ?_|(refine D5 (ht:=fun _=>?_) (hf:=fun _=>?_)<;>try first|contradiction|omega)|refine Z4 ?_|refine O5 ?_|refine J8 ?_|refine A0b ?_)
  exact L9 (⟨k+1,I2,a86,cp86⟩:RrY) (by exact⟨rfl,by rw[hst1];rfl,rfl,rfl,trivial⟩) ⟨by dsimp only;rw[hst1];exact hm,hle1.trans hleI2,by dsimp only;omega⟩ (by dsimp only;omega)
 ·obtain rfl:k=its.length:=by omega
  rw[V5]at hm |-;repeat' (first|refine D8 ?_|refine D6 ?_|refine J6 ?_|refine D9 ?_|refine A7 ?_|refine H9 ?_|refine H5 ?_|refine E8 ?_|refine A8 ?_|refine P9 ?_|refine H8 ?_|refine J9 ?_|(refine D5 (ht:=fun _=>?_) (hf:=fun _=>?_)<;>try first|contradiction|omega))
  obtain⟨I7,hle7,hm7,hrow⟩:=hm.freeze;exact⟨I7,[],⟨rfl,_,_,rfl,hrow⟩,hm7⟩
abbrev B0d (z:Int):List Value:= [.int .i64 z]
theorem B0K (l:List Int):l.flatMap B0d=l.map (Value.int .i64):=A8Z _ _
abbrev B0h (l:List Int) (a:Option Addr) (cp:Nat):HItem:=.row (.slice a l.length cp) 3 1 l.length (l.flatMap B0d)
theorem B2Y (l:List Int):(Lib.compact l).length<=l.length:=by
 have h:∀m,(Lib.compactUpTo l.toArray m).length<=m:=by
  intro m;induction m with
  |zero=>simp[Lib.compactUpTo]
  |succ m ih=>
   rw[Lib.compactUpTo_succ,E9];split
   ·simp only[F8,List.length_nil];omega
   ·simp only[List.length_nil];omega
 have:=h l.length;simpa[Lib.compact] using this
theorem C5g {I:P6}{l:List Int}{a:Option Addr}{cp:Nat} (h0:l≠ []) (hn:l.length<=1000000000000):
  CalM prog 85 #[.slice a l.length cp] I [B0h l a cp] (fun v _ H'=>v=.tuple #[]/\H'= [.row (.slice a l.length cp) 3 1 l.length ((l.mergeSort fun x y=>decide (x<=y)).flatMap B0d)]):=by
 refine CalM.of fun w E hm=>?_
 have ho:w.ownsRow 0 3 1 (.slice a l.length cp) l.length (l.flatMap B0d):=hm.ok _ Q7;rw[B0K]at ho;rcases ho.2 with ⟨hv,hz⟩|⟨g,cap,cur,hv,_,hg,hc,hcm,hsz,ht⟩
 ·exact absurd (A00 hz) h0
 ·injection hv with e1 e2 e3
  subst e1;subst e3;rw[A2J]at ht;have hgl:=(A7p.1 hg).1;refine⟨Calls.mono (Tryz.slices_Sort_int g 0 cp l w (holds_of_blockI hg ht) hgl (by omega)) (fun e w' q=>?_)⟩
  obtain⟨rfl,n,os,rfl⟩:=q;have hl:(l.mergeSort fun x y=>decide (x<=y)).length=l.length:=List.length_mergeSort l;have hr:=ownsRow_sortedI (n:=n) (os:=os) hl (H7 g) hg hc hcm hsz;rw[<-B0K]at hr;exact⟨I,_,⟨rfl,rfl⟩,hm.turn (i:=0) rfl (Kept.of_grown (grownBy_sortedI _)) hr (.inl rfl)⟩
theorem B84 {I:P6}{l:List Int}{a:Option Addr}{cp:Nat} (h0:l≠ []) (hn:l.length<=1000000000000):
  CalM prog 86 #[.slice a l.length cp] I [B0h l a cp] (fun v _ H'=> ∃b,v=.slice b (Lib.compact l).length cp/\H'= [B0h (Lib.compact l) b cp]):=by
 refine CalM.of fun w E hm=>?_
 have ho:w.ownsRow 0 3 1 (.slice a l.length cp) l.length (l.flatMap B0d):=hm.ok _ Q7;rw[B0K]at ho;rcases ho.2 with ⟨hv,hz⟩|⟨g,cap,cur,hv,_,hg,hc,hcm,hsz,ht⟩
 ·exact absurd (A00 hz) h0
 ·injection hv with e1 e2 e3
  subst e1;subst e3;rw[A2J]at ht;have hle:=B2Y l;refine⟨Calls.mono (Tryz.slices_Compact_int g 0 cp l w (holds_of_blockI hg ht) (by omega) hc) (fun e w' q=>?_)⟩
  obtain⟨rfl,n,rfl⟩:=q;obtain⟨ts,hts⟩:∃ts,ts=Lib.compact l++List.replicate (l.length-(Lib.compact l).length) (0:Int):=⟨_,rfl⟩;rw[<-hts];have htl:ts.length=l.length:=by rw[hts,E9,List.length_replicate];omega
  have hh:(Go.Sort.putRow (Value.int .i64) (Sort.ahead w n) g 0 ts.toArray).heap[g]?=some (.cells (Go.Sort.putCells (Value.int .i64) 0 ts.toArray cur) 3 (0,0)):=by
   simp[Go.Sort.putRow,Go.Sort.mapBlock,Sort.ahead,A2P,hg,Go.Sort.onCells]
  have hk:Kept [g] w (Go.Sort.putRow (Value.int .i64) (Sort.ahead w n) g 0 ts.toArray):=⟨rfl,rfl,rfl,by simp[Go.Sort.putRow,Go.Sort.mapBlock,Sort.ahead],fun k _ hk=>by
   have:g≠k:=fun e=>hk (by rw[e];simp)
   simp[Go.Sort.putRow,Go.Sort.mapBlock,Sort.ahead,A2P,this]⟩
  have htk:(Go.Sort.putCells (Value.int .i64) 0 ts.toArray cur).toList.take (Lib.compact l).length=(Lib.compact l).map (Value.int .i64):=by
   have h1:=take_putCellsI cur ts (by omega);have h2:=congrArg (List.take (Lib.compact l).length) h1;rw[A28,A1g (by omega)]at h2;rw[h2,hts,Y8,A11 (by simp),A0u (by simp)]
  have hr:(Go.Sort.putRow (Value.int .i64) (Sort.ahead w n) g 0 ts.toArray).ownsRow 0 3 1 (.slice (some ⟨g,0,none⟩) (Lib.compact l).length cp) (Lib.compact l).length ((Lib.compact l).flatMap B0d):=by
   rw[B0K];exact⟨by simp,.inr ⟨g,cp,_,rfl,H7 _,hh,by omega,hcm,by simp[Go.Sort.putCells,hsz],by rw[A2J];exact htk⟩⟩
  exact⟨I,_,⟨_,rfl,rfl⟩,hm.turn (i:=0) rfl hk hr (.inl rfl)⟩
end Go.Proofs
