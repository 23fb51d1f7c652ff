/- Own work. -/
import Derived.Test.YtfgmppgjopchoaaGreatDoorSw22
import Derived.Sort.OwnSortedInts
import Derived.Lib.SlicesCompact
set_option maxHeartbeats 64000000
namespace Go.Sp
theorem C3U (src:List UInt8) (at_:Int) (h:src.length<=1048576):ItF (item src at_)/\(item src at_).label<256/\∀p∈(item src at_).params,p.label<256:=by
 have hA:=B3B (src:=src) (p:=B0O) (q:=B08) (r:=fun p=>p.label<256) (t:=fun _=>True) at_ ⟨trivial,fun _=>trivial,fun _ _ _ _=>trivial,fun _ _=>trivial,fun _ _ _ _ _ _=>trivial,fun _ _ _ _ _ _ _ _ _ _ _ _ _ _ _ _=>trivial⟩
  ⟨by show 0<256;omega,fun _ _ lb _ _ h=>A5x h,fun _ _ _=>(by show 0<256;omega),fun _ _ _ _=>(by show 0<256;omega),fun _ _ _=>(by show 0<256;omega)⟩ (fun _ lb h=>A5x h) (fun _=>trivial)
 have hc:=B04 src at_;exact⟨⟨A4B src at_ h,hA.body,by omega⟩,A5x hA.label,hA.params⟩
theorem C3A (s:List UInt8):(∀x∈J7 s,ItF x)/\A3b (J7 s):=by
 have key:∀x∈J7 s,ItF x/\x.label<256/\∀p∈x.params,p.label<256:=by
  intro x hx;by_cases h0:Y4 s=0
  ·have hl:s.length<=4000:=by
    rw[Y4]at h0;split at h0
    ·cases h0
    ·omega
   rw[J7,if_pos h0,A3M]at hx;obtain⟨j,_,rfl⟩:=A0x.1 hx;exact C3U _ _ (by rw[A1d,P6,A0r];omega)
  ·rw[J7,if_neg h0]at hx
   simp at hx
 exact⟨fun x hx=>(key x hx).1,fun x hx=>(key x hx).2⟩
end Go.Sp
namespace Go.Fw
open Go.Sp
open Go
section
variable {P:Program}{N:Nat}{ds:List Deferred}{Q:Exit->Act->World->Prop}{K:Act->Prop}{l:Log}{w w0:World}{ops:Array Oper}{os os' tail:List Oper}{X:List Nat}
variable {d:Nat}{ty:TypeId}{pos:String}{af:Array Edge}{g:Option (Nat×Bool)}{t t':TypeId}{x y:Operand}{I I0:P7}{H:List HItem}
theorem C6W {m' f:Nat}{listed:Array Bool}{a b:Int} (hC:Kept X w0 w) (hw:U7 ops l ⟨some d,.binOp .add t x y t',ty,pos,af,g⟩=some true) (hN:Nat.blt d N=true)
  (hx:ev l x=some (.int .i64 a)) (hy:ev l y=some (.int .i64 b))
  (k:WA P N ds ops Q X w0 m' f listed tail ((d,.int .i64 (Sp.w64 (a+b)))::l) w):WU P N ds ops Q X w0 m' f listed tail ⟨some d,.binOp .add t x y t',ty,pos,af,g⟩ l w:=
 A5e rfl hw hN (fun c hc=>by simp[execOp,hc.ev hx,hc.ev hy,eqGuard,binOp,Op.intArith,B1q]) hC k
theorem C9i {m' f:Nat}{listed listed':Array Bool} (he:listed=listed') (h:WA P N ds ops Q X w0 m' f listed' tail l w):WA P N ds ops Q X w0 m' f listed tail l w:=he ▸ h
theorem C11 {e:TypeId}{sz by_ n:Nat} [TySlice P t e] [Elem P e sz by_] {ps:List (Nat×Operand)}{vs:List (Nat×Value)}{xs:List Value} (hm:Mem ⟨w0,X,I0⟩ I H w)
  (hw:U7 ops l ⟨some d,.buildSlice t n ps.toArray,ty,pos,af,g⟩=some true) (hN:Nat.blt d N=true) (hx:evp l ps=some vs)
  (hi:vs.map (·.1)=List.range' 0 n) (hs:vs.all (fun p=>Nat.beq p.2.cells.toList.length sz)=true) (hn:Nat.ble (n *sz) 16777216=true) (hxs:vs.flatMap (·.2.cells.toList)=xs)
  (k:∀I' a w',Le I I'->Mem ⟨w0,X,I0⟩ I' H w'->RowI I' e sz (.slice a n n) n xs->WS P N ds ops Q X w0 os' tail ((d,.slice a n n)::l) w'):
  WS P N ds ops Q X w0 (⟨some d,.buildSlice t n ps.toArray,ty,pos,af,g⟩::os') tail l w:=by
 subst hxs;have hk:=Kept.alloc w (.cells (vs.flatMap (·.2.cells.toList)).toArray e (0,0));obtain⟨h1,h2⟩:=hm.fresh hk (H6 _) (heap_alloc_new w _);refine A32 rfl hw hN (fun a ha=>C2r ha hx hi hs (A2T hn)) h2.kept (k _ _ _ h1 h2 ⟨?_,_,_,rfl,H6 _,fun _=>⟨w.heap.size,0,_,(_,_),rfl,P7.add_self _ _ _,fun j u hj=>by rw[W9];simpa using hj⟩⟩)
 have hlen:vs.length=n:=by have:=congrArg List.length hi;simpa using this
 rw[C0r vs hs,hlen]
end
end Go.Fw
namespace Go.Sp
structure AllOk (src:List UInt8) (its:List Itm):Prop where
 len:src.length<=4000
 few:its.length<=30
 nm:∀x∈its,ItN src x
 fl:∀x∈its,ItF x
 lab:A3b its
 ef:∀x∈its,x.fit/\Q4 x.body<=400000000
 nms:(A3C its).length<=960000
theorem A9B {s:List UInt8} (h:Y4 s=0):AllOk s (J7 s):=by
 obtain⟨g1,few⟩:=C3y s;obtain⟨k1,k2⟩:=C3A s;have hl:s.length<=4000:=by
  rw[Y4]at h;split at h
  ·cases h
  ·omega
 exact⟨hl,few,C3B s,k1,k2,fun x hx=>⟨(g1 x hx).1.fit,by have:=(g1 x hx).2;omega⟩,C15 g1 few⟩
theorem B8d {src:List UInt8}{its:List Itm} (h:AllOk src its) {i:Nat} (hi:i<its.length):(C2p its i).length<=2000000000:=by
 have h1:=(h.nm _ (A9h hi)).small.diags;have h2:=B4f h.nm (i:=i) hi;have h3:(A3e its i).ds.length<=(A3e its i).n:=by rw[NW.n];omega
 have h4:(B0W its i).length<=(B0l its i).length:=by rw[B0W,A0h];exact A3T _ _
 have h5:=B6U (its:=its) i;have h6:=h.nms;have h7:(A3g its i (-1)).ds.length<=800000000:=by
  have hc:=(h.fl _ (A9h hi)).cnt;rw[A3g];split
  ·have:=(A8x its (A0t its i).label (-1) (A0t its i).body (A6U (A0t its i).params) 0 FW0).2.1
   have e:FW0.ds.length=0:=rfl;omega
  ·exact H7 _
 rw[C2p,E9,E9,E9];omega
def plS (m:Nat):PS:=fun k _ a _ _ _ _=>k=1->a<=m
mutual
theorem C2A (b:Int):∀(x:Stm),(B2p b x).length<=x.cnt
 | .mk k nm a lb o e thn els f t=>by
  have h1:=A8A b thn;have h2:=A8A b els;rw[B2p,Stm.cnt,E9,E9];split
  ·simp only[F9,List.length_nil];omega
  ·simp only[List.length_nil];omega
theorem A8A (b:Int):∀(l:List Stm),(A01 b l).length<=Q4 l
 | []=>by rw[A01];exact H7 _
 |x::l=>by
  have h1:=C2A b x;have h2:=A8A b l;rw[A01,Q4,E9];omega
 end
structure ItPl (it:Itm):Prop where
 small:it.small
 cnt:Q4 it.body<=400000000
 at_:0<=it.at_/\it.at_<=1000000
 mark:it.mark<=1000000
 params:∀p∈it.params,p.at_<=1000000
 body:Y0 C8O (plS 1000000) it.body
theorem ItN.pl {src:List UInt8}{it:Itm} (hs:src.length<=4000) (h:ItN src it):ItPl it:=by
 obtain⟨h1,h2,p,q,h3⟩:=h;have hm:=(h3.sub _ _ h3.mark).1;refine⟨h1,h2,by rw[h3.at_];omega,by omega,fun x hx=>?_,A49 (fun _ _ _ _ _ _ _=>trivial) (fun k nm a lb o f t hx hk=>?_) _ h3.body⟩
 ·have:=(h3.sub _ _ (h3.params x hx)).1
  omega
 ·have:=(h3.sub _ _ (hx (.inl hk))).1
  omega
theorem A6h (b:Int):∀(l:List Par),(l.flatMap (A6e b)).length<=l.length
 | []=>H6 _
 |p::l=>by
  have h1:=A6h b l;rw[A0b,E9,F9,A6e];split
  ·simp only[F9,List.length_nil];omega
  ·simp only[List.length_nil];omega
theorem B7F {it:Itm} (h:ItPl it):(B9l it).length<=400000070:=by
 have h1:=h.cnt;have h2:=h.small.params;have h3:=A8A it.at_ it.body;have h4:=A6h it.at_ it.params;rw[B9l];split
 ·exact H7 _
 ·rw[F9,E9];omega
theorem A9L:∀ {its:List Itm},(∀it∈its,ItPl it)->(A3s its).length<=its.length *400000070
 | [],_=>by simp[A3s]
 |it::its,h=>by
  have h1:=B7F (h it Q5);have h2:=A9L (fun x hx=>h x (A0L _ hx));rw[A3s,A0b,E9,F9,Nat.succ_mul];rw[A3s]at h2;omega
end Go.Sp
namespace Go.Proofs
open Go.Proofs.Tryz
open Go.Sp
open Go.Fw
section
variable {its:List Sp.Itm}{a:Option Addr}{cp:Nat}{xs:List Value}
theorem C0F (i:Nat) (hi:i<its.length) (at_:Int) (bf:Nat) (I:P7) (hfile:PtrI I bf 0 25 [.slice a its.length cp]) (h:FE I its a cp xs) (hlab:A3b its) (hF:∀x∈its,Sp.ItF x):
  CalM prog 64 #[ptr bf,nt i,.int .i64 at_] I [] (fun v _ H'=> ∃bc pi vf sc sa sp da dp,v=ptr bc/\H'=FSt bc bf pi sc sa sp (A3g its i at_) da dp vf at_):=by
 refine CalM.of fun w E hm=>enter (N:=69) func64 rfl [(0,ptr bf),(1,nt i),(2,.int .i64 at_)] A3G rfl ?_
 have hfew:=h.few;have hg:=A2I hi;obtain⟨ci,hci,hat,hlc⟩:=h.get hg;have hri:=h.row;have hmem:=A9h hi;have hIt:=hF _ hmem;have hlb:=hlab _ hmem;have hck:A3g its i at_=if (A0t its i).kind=2 then (A1J its (A0t its i).label at_ (A0t its i).body (A6U (A0t its i).params) 0 Sp.FW0).2 else Sp.FW0:=rfl
 generalize A3g its i at_=fin at hck |-;have hfl:=fun (J:P7) (m:Le I J)=>C3v (I:=J) (h.le m) hlab (fun x hx=>(hF x hx).small)
 generalize A0t its i=it at hg hat hmem hIt hlb hck;have hat0:=hat
 obtain⟨pa,pc,sa9,sc9,ba,bc9,da9,dc9,xb,rfl,hpar,hsnd,hrb,hbs,_⟩:=hat
 have hsp:=hIt.small.params;have hsb:=hIt.small.body;by_cases k2:it.kind=2
 case neg=>
  rw[if_neg k2]at hck;subst hck;repeat' (first|refine A0p (id:=1) (hm.perm pm0) [0,1,2,3,4,5,6,7,8,9,11] [10,12,13] 14 (h:=?_);clear hm;intro wd hR hm|refine A05 (d:=16) ?_ (hr:=hri);intro bt ot hpt;rw[show ((i:Int).toNat *10)=i *10 from rfl,hci]at hpt|refine A1Z (d:=19) ?_ hR (hp:=hfile)|refine U9 (d:=20) ?_ hm (hc:=hfl I (Le.refl _));clear hm;rintro _ I2 _ _ ⟨rfl,fa,fp,rfl,hflr⟩ hle hm;have hleI2:=hle;try simp only[F8]at hm;have hpt2:=hpt.le hleI2|refine C4d (d:=23) ?_ hm;clear hm;intro bc _ hm|refine A0d ?_ hR|refine A9M ?_ hm|refine A0A ?_;replace hm:=hR.back hm;clear hR;try simp only[F8]at hm|refine J4 ?_ hm|refine J5 ?_ hm|refine D8 ?_|refine D6 ?_|refine O0 ?_|refine E8 ?_|refine C9 ?_|refine D9 ?_|refine A7 ?_|refine E5 ?_|refine A8 ?_|refine G5 ?_|refine H9 ?_|refine J9 ?_|(refine D5 (ht:=fun _=>?_) (hf:=fun _=>?_)<;>try first|contradiction|omega)|refine Z5 ?_|refine O7 ?_|refine L6 ?_|refine A0c ?_)
  exact⟨I2,_,⟨bc,_,_,[],none,0,none,0,rfl,rfl⟩,((hm.nil 56 4).swap.nil 196 2).swap⟩
 rw[if_pos k2]at hck;repeat' (first|refine A0p (id:=1) (hm.perm pm0) [0,1,2,3,4,5,6,7,8,9,11] [10,12,13] 14 (h:=?_);clear hm;intro wd hR hm|refine A05 (d:=16) ?_ (hr:=hri);intro bt ot hpt;rw[show ((i:Int).toNat *10)=i *10 from rfl,hci]at hpt|refine A1Z (d:=19) ?_ hR (hp:=hfile)|refine U9 (d:=20) ?_ hm (hc:=hfl I (Le.refl _));clear hm;rintro _ I2 _ _ ⟨rfl,fa,fp,rfl,hflr⟩ hle hm;have hleI2:=hle;try simp only[F8]at hm;have hpt2:=hpt.le hleI2|refine C4d (d:=23) ?_ hm;clear hm;intro bc _ hm|refine A0d ?_ hR|refine A9M ?_ hm|refine A0A ?_;replace hm:=hR.back hm;clear hR;try simp only[F8]at hm|refine J4 ?_ hm|refine J5 ?_ hm|refine D8 ?_|refine D6 ?_|refine O0 ?_|refine G7 ?_|refine E8 ?_|refine C9 ?_|refine D9 ?_|refine A7 ?_|refine E5 ?_|refine A8 ?_|refine F5 ?_|(refine D5 (ht:=fun _=>?_) (hf:=fun _=>?_)<;>try first|contradiction|omega)|refine Z5 ?_|refine O7 ?_|refine L6 ?_|refine A0c ?_)
 have hC2:FC I2 its it bf a cp xs (.pointer (some ⟨bt,ot,none⟩)) (.slice fa its.length fp):=⟨hfile.le hleI2,h.le hleI2,⟨bt,ot,_,_,rfl,hpt2,hat0.le hleI2⟩,⟨fa,fp,rfl,hflr⟩,hlab,hlb.1⟩;have hpar2:=hpar.le hleI2;refine U0 (fun x:FX=> [(0,ptr bf),(1,nt i),(2,.int .i64 at_),(7,ptr bc),(38,.slice pa it.params.length pc),(39,nt it.params.length),(40,nt x.k)])
  (fun x w'=>Mem E I2 (FSt bc bf (.pointer (some ⟨bt,ot,none⟩)) (A6U (it.params.take x.k)) x.sa x.sp Sp.FW0 none 0 (.slice fa its.length fp) at_) w'/\x.k<=it.params.length) (fun x=>it.params.length-x.k) ⟨0,I2,none,0,none,0⟩
  (by exact⟨rfl,rfl,rfl,rfl,rfl,rfl,rfl,trivial⟩) ⟨((hm.nil 56 4).swap.nil 196 2).swap,H7 _⟩ ?_
 clear hm;rintro⟨k,_,sa1,sp1,_,_⟩ w1 ⟨hm,hk⟩;dsimp only at hm hk |-;by_cases hlt:k<it.params.length
 ·have hgp:it.params[k]?=some it.params[k]:=G6 hlt
  generalize it.params[k]=p at hgp;have hst:=B9R hgp;have hpl:(A6U (it.params.take k)).length=k:=by rw[A6U,A0h,P6];omega
  generalize A6U (it.params.take k)=sc at hm hst hpl;repeat' (first|refine Q8 (d:=42) (enc:=A2Q) (z:=p) ?_ (hr:=hpar2) (he:=fun _=>rfl) (hz:=by exact hgp);intro bz oz hpz|refine A0v (id:=6) (hm.perm pm1_2) 10 12 (h:=?_);clear hm;intro wd hR hm|refine Y9 ?_ hR|refine A1X (d:=55) ?_ hm;clear hm;intro a55 cp55 _ _ hm;replace hm:=hR.back hm;clear hR;try simp only[F8]at hm|refine Y1 (d:=9) ?_ hm;clear hm;intro b9 _ hm|refine X0 ?_ hm|refine O8 hm (k:=?_);clear hm;intro _ hm;try simp only[F8]at hm|refine D8 ?_|refine J6 ?_|refine E8 ?_|refine P5 ?_|refine C9 ?_|refine D9 ?_|refine A7 ?_|refine D7 ?_|refine E5 ?_|refine A8 ?_|refine F5 ?_|refine G5 ?_|(refine D5 (ht:=fun _=>?_) (hf:=fun _=>?_)<;>try first|contradiction|omega)|refine Z5 ?_|refine O7 ?_|refine L6 ?_|refine A2P ?_|refine A0c ?_)
  refine L8 (⟨k+1,I2,a55,cp55,none,0⟩:FX) (by exact⟨rfl,rfl,rfl,rfl,rfl,rfl,rfl,trivial⟩) ⟨?_,by dsimp only;omega⟩ (by dsimp only;omega)
  dsimp only
  rw[hst, <-B2Z];exact((hm.front 1 rfl).tl).swap
 ·obtain rfl:k=it.params.length:=by omega
  rw[V7]at hm;have hsl:=C2e hlab hmem;have hpl:(A6U it.params).length=it.params.length:=by rw[A6U,A0h]
  have hcn:=hIt.cnt;have hblk:=C8V (its:=its) (it:=it) (bc:=bc) (bf:=bf) (a:=a) (cp:=cp) (xs:=xs) (pi:=.pointer (some ⟨bt,ot,none⟩)) (vf:=.slice fa its.length fp) (at_:=at_) _ it.body (H6 _) (by omega) hIt.small.stms hIt.body I2 ba bc9 xb 0 (A6U it.params) Sp.FW0 sa1 sp1 none 0 (by omega) hsl (by omega) (by simp[Sp.FW0];omega) hC2 (hrb.le hleI2) (X9.le hleI2 _ _ hbs);rw[<-hck]at hblk;generalize A6U it.params=sc at hm hblk;repeat' (first|refine F6 (d:=67) ?_ hm (hc:=hblk);clear hm;rintro _ I3 _ _ ⟨rfl,sa3,sp3,da3,dp3,rfl⟩ hle hm;have hleI3:=hle;try simp only[F8]at hm|refine J4 ?_ hm|refine J5 ?_ hm|refine D8 ?_|refine D6 ?_|refine J6 ?_|refine E8 ?_|refine C9 ?_|refine D9 ?_|refine A7 ?_|refine H8 ?_|refine G9 ?_|refine E5 ?_|refine A8 ?_|refine P8 ?_|refine H9 ?_|refine J9 ?_|(refine D5 (ht:=fun _=>?_) (hf:=fun _=>?_)<;>try first|contradiction|omega))
  exact⟨I3,_,⟨bc,_,_,sc,sa3,sp3,da3,dp3,rfl,rfl⟩,hm⟩
theorem C5M (i:Nat) (hi:i<its.length) (I:P7) (h:FE I its a cp xs) (hlab:A3b its) (hF:∀x∈its,Sp.ItF x):
  CalM prog 39 #[.agg [.slice a its.length cp].toArray,nt i] I [] (fun v I' H'=>H'= []/\∃da dp,v=.slice da (A3g its i (-1)).ds.length dp/\RowI I' 56 4 (.slice da (A3g its i (-1)).ds.length dp) (A3g its i (-1)).ds.length ((A3g its i (-1)).ds.flatMap A5Q)):=by
 refine CalM.of fun w E hm=>enter (N:=19) func39 rfl [(0,.agg [.slice a its.length cp].toArray),(1,nt i)] A0T rfl ?_
 have hfew:=h.few;repeat' (first|refine A0P (d:=2) ?_ hm;clear hm;intro b2 _ hm|refine J4 ?_ hm|refine D8 ?_|refine D6 ?_|refine J8 ?_|refine J6 ?_|refine A04 ?_|refine G7 ?_|refine C9 ?_|refine D9 ?_|refine A7 ?_|refine E5 ?_|refine A8 ?_|refine G5 ?_|(refine D5 (ht:=fun _=>?_) (hf:=fun _=>?_)<;>try first|contradiction|omega))
 obtain⟨I2,hle2,hm2,hpf⟩:=hm.freezeO;clear hm;have hm:=hm2;clear hm2;have hck:=C0F i hi (-1) b2 I2 hpf (h.le hle2) hlab hF;generalize A3g its i (-1)=fin at hck |-;repeat' (first|refine F6 (d:=15) ?_ hm (hc:=hck);clear hm;rintro _ I3 _ _ ⟨bc,pi,vf,sc,sa,sp,da,dp,rfl,rfl⟩ hle hm;have hleI3:=hle;try simp only[F8]at hm|refine J4 ?_ hm|refine D6 ?_|refine E8 ?_|refine C9 ?_|refine D9 ?_|refine A7 ?_|refine H9 ?_|refine J9 ?_)
 obtain⟨I4,hle4,hm4,hrow⟩:=(hm.front 2 rfl).freeze;exact⟨I4,[],⟨rfl,da,dp,rfl,hrow⟩,hm4.left (H:= [])⟩
theorem C5N (i:Nat) (hi:i<its.length) (at_:Int) (h0:0<=at_) (I:P7) (h:FE I its a cp xs) (hlab:A3b its) (hF:∀x∈its,Sp.ItF x):
  CalM prog 55 #[.agg [.slice a its.length cp].toArray,nt i,.int .i64 at_] I [] (fun v _ H'=>v=.tuple #[nt ((A3g its i at_).hv.getD 0),.bool (A3g its i at_).hv.isSome]/\H'= []):=by
 refine CalM.of fun w E hm=>enter (N:=33) func55 rfl [(0,.agg [.slice a its.length cp].toArray),(1,nt i),(2,.int .i64 at_)] A3G rfl ?_
 have hfew:=h.few;repeat' (first|refine A0P (d:=3) ?_ hm;clear hm;intro b3 _ hm|refine J4 ?_ hm|refine D8 ?_|refine D6 ?_|refine J8 ?_|refine J6 ?_|refine A04 ?_|refine G7 ?_|refine C9 ?_|(refine N8 (h1:=fun _=>?_) (h0:=fun _=>?_)<;>try first|contradiction|omega)|refine D9 ?_|refine A7 ?_|refine E5 ?_|refine A8 ?_|refine G5 ?_|(refine D5 (ht:=fun _=>?_) (hf:=fun _=>?_)<;>try first|contradiction|omega))
 obtain⟨I2,hle2,hm2,hpf⟩:=hm.freezeO;clear hm;have hm:=hm2;clear hm2;have hck:=C0F i hi at_ b3 I2 hpf (h.le hle2) hlab hF;generalize A3g its i at_=fin at hck |-;repeat' (first|refine F6 (d:=24) ?_ hm (hc:=hck);clear hm;rintro _ I3 _ _ ⟨bc,pi,vf,sc,sa,sp,da,dp,rfl,rfl⟩ hle hm;have hleI3:=hle;try simp only[F8]at hm|refine V6 ?_ hm|refine D6 ?_|refine D9 ?_|refine A7 ?_|refine E5 ?_|refine H9 ?_|refine A1W ?_|refine U3 ?_|refine A0g ?_;intro _ hkq;replace hm:=hm.kept0 hkq;clear hkq|refine X6 ?_|refine A1Q ?_|refine O9 ?_|refine L9 ?_)
 all_goals try omega
 exact⟨I3,[],⟨rfl,rfl⟩,hm.left (H:= [])⟩
end
abbrev A6c (d:Sp.DI):List Value:= [.int .i64 d.fr,.int .i64 d.to,nt d.err,str d.name]
theorem C1w {l:List Sp.DI}:∀u∈l.flatMap A6c,u.oneCell'=true:=fun u hu=>by
 obtain⟨d,_,hd⟩:=A6N.1 hu;rcases U8.1 hd with rfl|hd
 ·rfl
 ·rcases U8.1 hd with rfl|hd
  ·rfl
  ·rcases U8.1 hd with rfl|hd
   ·rfl
   ·obtain rfl:=A0B.1 hd;rfl
structure DgX where
 q:Nat
 sa:Option Addr
 sp:Nat
section
variable {src:List UInt8}{its:List Sp.Itm}{a:Option Addr}{cp:Nat}{xs:List Value}
theorem C6s (i:Nat) (hi:i<its.length) (I:P7) (h:FE I its a cp xs) (hA:Sp.AllOk src its):
  CalM prog 24 #[.agg [.slice a its.length cp].toArray,nt i] I [] (fun v I' H'=>H'= []/\∃da dp,v=.slice da (B4m its i).length dp/\RowI I' 56 4 (.slice da (B4m its i).length dp) (B4m its i).length ((B4m its i).flatMap A6c)):=by
 refine CalM.of fun w E hm=>enter (N:=73) func24 rfl [(0,.agg [.slice a its.length cp].toArray),(1,nt i)] A0T rfl ?_
 have hfew:=h.few;have hnms:=hA.nms;have hN:=fun (J:P7) (m:Le I J)=>C54 i hi J (h.le m) hA.len hA.nm
 have hE:=fun (J:P7) (m:Le I J)=>C5H i hi J a cp xs (h.le m) hA.ef (by omega)
 have hFl:=fun (J:P7) (m:Le I J)=>C5M i hi J (h.le m) hA.lab hA.fl
 have hraw:=B8d hA hi;have hrw:C2p its i=(A0t its i).diags++((A3e its i).ds++(B0W its i++(A3g its i (-1)).ds)):=rfl;rw[B4m];generalize C2p its i=raw at hraw hrw |-;obtain⟨ci,hci,hat,_⟩:=h.get (A2I hi);have hri:=h.row;generalize (A3e its i).ds=wl at hN hrw;generalize B0W its i=ed at hE hrw;generalize (A3g its i (-1)).ds=fd at hFl hrw;generalize A0t its i=it at hat hrw |-;obtain⟨pa,pc,sa9,sc9,ba,bc9,da9,dc9,xb,rfl,_,_,_,_,hrd⟩:=hat
 repeat' (first|refine A0K 4 ?_|refine A0P (d:=2) ?_ hm;clear hm;intro b2 _ hm|refine J4 ?_ hm|refine D8 ?_|refine D6 ?_|refine J8 ?_|refine J6 ?_|refine A04 ?_|refine G7 ?_|refine C9 ?_|refine D9 ?_|refine A7 ?_|refine E5 ?_|refine A8 ?_|refine G5 ?_|(refine D5 (ht:=fun _=>?_) (hf:=fun _=>?_)<;>try first|contradiction|omega))
 obtain⟨I2,hle2,hm2,hpf⟩:=hm.freezeO;clear hm;have hm:=hm2;clear hm2;have hri2:=hri.le hle2;refine⟨?_⟩
 repeat' (first|refine Z8 (id:=4) (hm.perm pm0) [0,1,2,3,4,5,6,7,9,10,12,13,17] [8,11,14,15,16] 18 (by kernel_rfl) ?_;clear hm;intro wd hR hm|refine A05 (d:=22) ?_ (hr:=hri2);intro bt ot hpt;rw[show ((i:Int).toNat *10)=i *10 from rfl,hci]at hpt|refine A1Z (d:=25) ?_ hR (hp:=hpf)|refine A1Z (d:=28) ?_ hR (hp:=hpf)|refine A1Z (d:=31) ?_ hR (hp:=hpf)|refine U9 (d:=27) ?_ hm (hp:=pm0) (hc:=hN I2 hle2);clear hm;rintro _ I3 _ _ ⟨rfl,wa,wp,rfl,hrwd⟩ hleI3 hm;try simp only[F8]at hm|refine U9 (d:=30) ?_ hm (hp:=pm0) (hc:=hE I3 (hle2.trans hleI3));clear hm;rintro _ I4 _ _ ⟨rfl,ea,ep,rfl,hred⟩ hleI4 hm;try simp only[F8]at hm|refine U9 (d:=33) ?_ hm (hp:=pm0) (hc:=hFl I4 ((hle2.trans hleI3).trans hleI4));clear hm;rintro _ I5 _ _ ⟨rfl,fa,fp,rfl,hrfd⟩ hleI5 hm;try simp only[F8]at hm|refine C11 (d:=34) hm (by rfl) (by rfl) (by rfl) (by rfl) (by rfl) (by rfl) (by rfl) ?_;clear hm;intro I6 ta _ hle56 hm hrt|refine A0d ?_ hR|refine A0A ?_;replace hm:=hR.back hm;clear hR;try simp only[F8]at hm|refine B8g hm.kept (by rfl) (by rfl) (by rfl) ?_|refine D9 ?_|refine A7 ?_|refine F5 ?_|refine Z5 ?_|refine L6 ?_|refine A0c ?_)
 have hle36:Le I3 I6:=(hleI4.trans hleI5).trans hle56;have hle26:Le I2 I6:=hleI3.trans hle36;have hle16:Le I I6:=hle2.trans hle26;obtain⟨T,hT⟩:∃T:List (Tri Sp.Dg),T= [(it.diags,da9,dc9),(wl,wa,wp),(ed,ea,ep),(fd,fa,fp)]:=⟨_,rfl⟩;have hTl:T.length=4:=by rw[hT];rfl
 have hTf:raw=T.flatMap (·.1):=by rw[hrw,hT];simp
 have hrt2:RowI I6 44 1 (.slice ta 4 4) 4 (T.flatMap (fun t=> [A2x t])):=by rw[hT];exact hrt
 have hTr:∀t∈T,RowI I6 56 4 (A2x t) t.1.length (t.1.flatMap A5Q):=fun t ht=>by
  rw[hT]at ht;rcases U8.1 ht with rfl|ht
  ·exact hrd.le hle16
  ·rcases U8.1 ht with rfl|ht
   ·exact hrwd.le hle36
   ·rcases U8.1 ht with rfl|ht
    ·exact hred.le (hleI5.trans hle56)
    ·obtain rfl:=A0B.1 ht
     exact hrfd.le hle56
 have hpf6:=hpf.le hle26;have hri6:=hri2.le hle26;have hpt6:=hci;clear hT hrd hrwd hred hrfd hrt hN hE hFl;have hm:=hm.nil 56 4;have hsub:∀q,(((T.take q).flatMap (·.1)).map (A4l it.at_)).length<=2000000000:=fun q=>by
  rw[A0h];have:((T.take q).flatMap (·.1)).length<=(T.flatMap (·.1)).length:=by
   conv=>rhs;rw[<-A2t q T]
   rw[Y3,E9];omega
  rw[<-hTf]at this;omega
 refine U0 (fun x:DgX=> [(1,nt i),(2,ptr b2),(5,.slice x.sa (((T.take x.q).flatMap (·.1)).map (A4l it.at_)).length x.sp),(34,.slice ta 4 4),(35,nt 4),(36,nt x.q)])
  (fun x w'=>Mem E I6 [.row (.slice x.sa (((T.take x.q).flatMap (·.1)).map (A4l it.at_)).length x.sp) 56 4 (((T.take x.q).flatMap (·.1)).map (A4l it.at_)).length ((((T.take x.q).flatMap (·.1)).map (A4l it.at_)).flatMap A6c)] w'/\x.q<=4) (fun x=>4-x.q) ⟨0,none,0⟩
  (by exact⟨rfl,rfl,rfl,rfl,rfl,rfl,trivial⟩) ⟨hm,H7 _⟩ ?_
 clear hm;rintro⟨q,oa,op⟩ w1 ⟨hm,hq⟩;dsimp only at hm hq |-;by_cases hlq:q<4
 ·have hg:T[q]?=some T[q]:=G6 (by omega)
  have htr:=hTr _ (A0J hg);have htk:(T.take (q+1)).flatMap (·.1)=(T.take q).flatMap (·.1)++T[q].1:=by
   rw[A3i,hg,Y3];simp
  have hsb:=hsub (q+1);rw[htk]at hsb;generalize T[q]=t at hg htr htk hsb;obtain⟨td,tda,tdc⟩:=t;dsimp only at htr htk hsb;generalize (T.take q).flatMap (·.1)=pre at hm htk hsb;rw[Y8,E9,A0h,A0h]at hsb;repeat' (first|refine Q8 (d:=38) (enc:=fun t=> [A2x t]) (z:=(td,tda,tdc)) ?_ (hr:=hrt2) (he:=fun _=>rfl) (hz:=by exact hg);intro bz oz hpz|refine A1B (d:=39) ?_ hm (hp:=hpz)|refine D8 ?_|refine D6 ?_|refine J6 ?_|refine G7 ?_|refine D9 ?_|refine A7 ?_|refine E5 ?_|refine A8 ?_|refine F5 ?_|refine G5 ?_|(refine D5 (ht:=fun _=>?_) (hf:=fun _=>?_)<;>try first|contradiction|omega))
  refine U0 (fun x:DgX=> [(1,nt i),(2,ptr b2),(5,.slice x.sa ((pre++td.take x.q).map (A4l it.at_)).length x.sp),(34,.slice ta 4 4),(35,nt 4),(36,nt q),(40,.slice tda td.length tdc),(41,nt td.length),(42,nt x.q)])
   (fun x w'=>Mem E I6 [.row (.slice x.sa ((pre++td.take x.q).map (A4l it.at_)).length x.sp) 56 4 ((pre++td.take x.q).map (A4l it.at_)).length (((pre++td.take x.q).map (A4l it.at_)).flatMap A6c)] w'/\x.q<=td.length) (fun x=>td.length-x.q) ⟨0,oa,op⟩
   (by exact⟨rfl,rfl,by rw[A0a,J3];rfl,rfl,rfl,rfl,rfl,rfl,rfl,trivial⟩) ⟨by dsimp only;rw[A0a,J3];exact hm,H7 _⟩ ?_
  clear hm;rintro⟨j,oa,op⟩ w2 ⟨hm,hj⟩;dsimp only at hm hj |-;by_cases hlj:j<td.length
  ·have hgj:td[j]?=some td[j]:=G6 hlj
   generalize td[j]=dg at hgj;have htj:(pre++td.take (j+1)).map (A4l it.at_)=(pre++td.take j).map (A4l it.at_)++ [A4l it.at_ dg]:=by
    rw[Q9 hgj, <-O4,Y8];rfl
   have hlt:((pre++td.take j).map (A4l it.at_)).length<=2000000000:=by
    rw[A0h,E9,P6];omega
   generalize (pre++td.take j).map (A4l it.at_)=oj at hm htj hlt;repeat' (first|refine Q8 (d:=44) (enc:=A5Q) (z:=dg) ?_ (hr:=htr) (he:=fun _=>rfl) (hz:=by exact hgj);intro bz2 oz2 hpz2|refine A0K 10 ?_|refine Y1 (d:=9) ?_ hm;clear hm;intro b9 _ hm|refine X0 ?_ hm|refine J6 ?_|refine D9 ?_|refine A7 ?_|refine E5 ?_|refine A8 ?_|refine F5 ?_|refine G5 ?_|(refine D5 (ht:=fun _=>?_) (hf:=fun _=>?_)<;>try first|contradiction|omega))
   refine⟨?_⟩
   refine C1n 10 (fun _:DgX=> [(1,nt i),(2,ptr b2),(5,.slice oa oj.length op),(9,ptr b9),(34,.slice ta 4 4),(35,nt 4),(36,nt q),(40,.slice tda td.length tdc),(41,nt td.length),(42,nt j)]) (fun _ w'=>Mem E I6 [.cell b9 (A6c (A4l it.at_ dg)) 56,.row (.slice oa oj.length op) 56 4 oj.length (oj.flatMap A6c)] w') ?_ ?_
   ·skip
    repeat' (first|refine A1q (id:=10) (hm.perm pm1_0) [0,2,3,4,5,6,7,9,11,12,13,14,15,16] 20 (h:=?_);clear hm;intro wd hR hm|refine A05 (d:=51) ?_ (hr:=hri6);intro bt1 ot1 hpt1;rw[show ((i:Int).toNat *10)=i *10 from rfl,hci]at hpt1|refine A05 (d:=60) ?_ (hr:=hri6);intro bt2 ot2 hpt2;rw[show ((i:Int).toNat *10)=i *10 from rfl,hci]at hpt2|refine A9W (C9i (listed':= #[true,false,true,true,true,true,true,true,false,true,false,true,true,true,true,true,true,false,false,false,false,false]) (by decide+kernel) ?_)|refine C4e hm (by rfl) (by rfl) (by rfl) gt0 (by rfl) ?_|refine C6W hm.kept (by rfl) (by rfl) (by rfl) (by rfl) ?_|refine B1r hm.kept (by rfl) (by rfl) (by rfl) ?_|refine B1V hm (by rfl) (by rfl) (by rfl) (by rfl) gt0 (by rfl) (by rfl) (by rfl) ?_;clear hm;intro _ hm;try simp only[F8]at hm|refine A8G (i:=1) (j:=10) ?_ (by decide+kernel) (h:=?_)|refine A8G (i:=8) (j:=10) ?_ (by decide+kernel) (h:=?_)|refine A8G (i:=1) (j:=17) ?_ (by decide+kernel) (h:=?_)|refine A8G (i:=8) (j:=17) ?_ (by decide+kernel) (h:=?_)|refine A8G (i:=17) (j:=18) ?_ (by decide+kernel) (h:=?_)|refine A8G (i:=17) (j:=19) ?_ (by decide+kernel) (h:=?_)|refine A1H (i:=1) ?_ (by decide+kernel)|refine A1H (i:=8) ?_ (by decide+kernel)|refine A1H (i:=10) ?_ (by decide+kernel)|refine A1H (i:=17) ?_ (by decide+kernel)|refine A1H (i:=18) ?_ (by decide+kernel)|refine A1H (i:=19) ?_ (by decide+kernel)|refine A5c (by decide+kernel) ?_;replace hm:=hR.back hm;clear hR;try simp only[F8]at hm|refine A0d ?_ hR|refine O8 hm (k:=?_);clear hm;intro _ hm;try simp only[F8]at hm|refine C9 ?_|refine D9 ?_|refine Z5 ?_|refine L6 ?_)
    all_goals exact A02 (⟨0,none,0⟩:DgX) (by exact⟨rfl,rfl,rfl,rfl,rfl,rfl,rfl,rfl,rfl,rfl,trivial⟩) hm
   clear hm;intro _ w3 hm;repeat' (first|refine A2b (d:=69) ?_ hm;clear hm;intro a69 cp69 _ _ hm;try simp only[F8]at hm|refine X5 ?_ hm|refine D8 ?_|refine D6 ?_|refine P5 ?_|refine D9 ?_|refine A7 ?_|refine D7 ?_|refine A8 ?_)
   refine L8 (⟨j+1,a69,cp69⟩:DgX) (by exact⟨rfl,rfl,by rw[htj,E9];rfl,rfl,rfl,rfl,rfl,rfl,rfl,trivial⟩) ⟨?_,by dsimp only;omega⟩ (by dsimp only;omega)
   dsimp only
   rw[htj,Y3,E9];exact hm.tl
  ·obtain rfl:j=td.length:=by omega
   rw[V7]at hm |-;repeat' (first|refine D8 ?_|refine J6 ?_|refine P5 ?_|refine D9 ?_|refine A7 ?_|refine H8 ?_|refine D7 ?_|refine G9 ?_|refine E5 ?_|refine A8 ?_|refine P8 ?_|(refine D5 (ht:=fun _=>?_) (hf:=fun _=>?_)<;>try first|contradiction|omega))
   exact L8 (⟨q+1,oa,op⟩:DgX) (by exact⟨rfl,rfl,by rw[htk];rfl,rfl,rfl,rfl,trivial⟩) ⟨by dsimp only;rw[htk];exact hm,by dsimp only;omega⟩ (by dsimp only;omega)
 ·obtain rfl:q=4:=by omega
  rw[A0q (by omega), <-hTf]at hm |-;repeat' (first|refine D8 ?_|refine D6 ?_|refine J6 ?_|refine D9 ?_|refine A7 ?_|refine H8 ?_|refine G9 ?_|refine E5 ?_|refine A8 ?_|refine P8 ?_|refine H9 ?_|refine J9 ?_|refine F7 ?_)
  obtain⟨I7,hle7,hm7,hrow⟩:=hm.freeze;exact⟨I7,[],⟨rfl,_,_,rfl,hrow⟩,hm7⟩
end
abbrev rpV (r:Sp.Rpl) (da:Option Addr) (dp:Nat) (ea:Option Addr) (ep:Nat):List Value:= [.int .i64 r.id,nt r.err,.slice da r.dgs.length dp,nt r.label,.int .i64 r.fr,str r.text,.slice ea r.ran.ev.length ep,.int .i64 r.ran.n,nt r.ran.err,nt r.ran.steps,nt r.fresh]
def A4w (I:P7) (r:Sp.Rpl) (c:List Value):Prop:= ∃da dp ea ep,c=rpV r da dp ea ep/\RowI I 56 4 (.slice da r.dgs.length dp) r.dgs.length (r.dgs.flatMap A6c)/\RowI I 35 2 (.slice ea r.ran.ev.length ep) r.ran.ev.length (r.ran.ev.flatMap A7v)
theorem A4w.plain (I:P7) {r:Sp.Rpl} (h1:r.dgs= []) (h2:r.ran.ev= []):A4w I r (rpV r none 0 none 0):=by
 refine⟨none,0,none,0,rfl,?_,?_⟩
 ·rw[h1];exact A0Y _ _ _ _ _
 ·rw[h2];exact A0Y _ _ _ _ _
abbrev B33 (bs:Nat) (s:Sp.Srv) (a:Option Addr) (c:Nat):HItem:=.cell bs [str s.text,.slice a (J7 s.text).length c,.bool s.op] 72
def C6Z (bs:Nat) (r:Sp.Srv×Sp.Rpl):Value->P7->List HItem->Prop:=fun v I' H'=> ∃c a' c' xs',v=.agg c.toArray/\A4w I' r.2 c/\H'= [B33 bs r.1 a' c']/\FE I' (J7 r.1.text) a' c' xs'
structure SvX where
 I:P7
 a:Option Addr
 c:Nat
 xs:List Value
 b:Nat
theorem C4M {s:Sp.Srv} (h:Sp.OkQ s) (t:List UInt8) (ht:t.length<=9223372036854775807) (I:P7) (hC:Conv I) {a:Option Addr}{c:Nat}{xs:List Value} (hfe:FE I (J7 s.text) a c xs) (bs:Nat):
  CalM prog 31 #[ptr bs,str t] I [B33 bs s a c] (C6Z bs (A8S s t)):=by
 refine CalM.of fun w E hm=>enter (N:=39) func31 rfl [(0,ptr bs),(1,str t)] A0T rfl ?_
 have hA:=C6f s.text t h.err I hC ht a c xs hfe.row hfe.ats;have hfew:=B7v t;rw[A8S];repeat' (first|refine A0K 1 ?_|refine S9 (d:=4) ?_ hm;clear hm;intro b4 _ hm|refine D9 ?_|refine A7 ?_|refine E5 ?_|refine A8 ?_)
 refine⟨C1n 1 (fun x:SvX=> [(0,ptr bs),(1,str t),(4,ptr b4),(5,ptr x.b),(6,nt (A3p s.text t)),(7,nt (Y4 t))])
  (fun x w'=>Mem E x.I [.cell x.b [.slice x.a (J7 t).length x.c] 25,.cell b4 (rpV A65 none 0 none 0) 46,B33 bs s a c] w'/\Le I x.I/\FE x.I (J7 t) x.a x.c x.xs) ?_ ?_⟩
 ·skip
  repeat' (first|refine A1q (id:=1) (hm.perm pm0) [0,1,2,3,4,5,6,7,8] 17 (h:=?_);clear hm;intro wd hR hm|refine A44 (d:=12) ?_ hR|refine A5d [10,11,12,13] (by decide+kernel) hm.kept ?_|refine A5d [16] (by decide+kernel) hm.kept ?_|refine A5J (d:=18) hm (by rfl) (by rfl) (by rfl) pm0 hA ?_;clear hm;rintro _ I2 _ _ ⟨a2,c2,xs2,rfl,hrow,hits,rfl⟩ hleI2 hm;try simp only[F8]at hm|refine A8G (i:=9) (j:=14) ?_ (by decide+kernel) (h:=?_)|refine A1H (i:=9) ?_ (by decide+kernel)|refine A1H (i:=14) ?_ (by decide+kernel)|refine A1H (i:=15) ?_ (by decide+kernel)|refine A7g ?_|refine A5c (by decide+kernel) ?_;replace hm:=hR.back hm;clear hR;try simp only[F8]at hm|refine Y9 ?_ hR|refine B1U (d:=5) ?_ hm;clear hm;intro b5 _ hm|refine B7V ?_ hm;clear hm;intro _ hm;try simp only[F8]at hm|refine D6 ?_|refine D9 ?_|refine Z5 ?_|refine A63 ?_|refine A5G ?_|refine O7 ?_|refine L6 ?_)
  all_goals exact A02 (⟨I2,a2,c2,xs2,b5⟩:SvX) (by exact⟨rfl,rfl,rfl,rfl,rfl,rfl,trivial⟩) ⟨hm,hleI2,B3n hrow hits hfew⟩
 clear hm;rintro⟨I2,a2,c2,xs2,b5⟩ w2 ⟨hm,hle2,hfe2⟩;dsimp only at hm hle2 hfe2 |-;by_cases h0:Y4 t≠0
 ·rw[if_pos h0]
  repeat' (first|refine N9 ?_ hm;clear hm;intro _ hm;try simp only[F8]at hm|refine Y6 ?_ hm|refine D8 ?_|refine A0n ?_|refine Q3 ?_|refine D9 ?_|refine A7 ?_|refine G8 ?_|refine E5 ?_|refine A8 ?_|refine H9 ?_|(refine D5 (ht:=fun _=>?_) (hf:=fun _=>?_)<;>try first|contradiction|omega))
  exact⟨I2,_,⟨_,a,c,xs,rfl,A4w.plain I2 rfl rfl,rfl,hfe.le hle2⟩,hm.tl.tl⟩
 ·rw[if_neg h0]
  have h00:Y4 t=0:=by omega
  rw[h00];repeat' (first|refine A1q (id:=4) (hm.perm pm1_2) [0,1,2,3,4,5,6] 11 (h:=?_);clear hm;intro wd hR hm|refine A5d [8,9] (by decide+kernel) hm.kept ?_|refine B1V hm (by rfl) (by rfl) (by rfl) (by rfl) gt0 (by rfl) (by rfl) (by rfl) ?_;clear hm;intro _ hm;try simp only[F8]at hm|refine C14 hm (by rfl) (by rfl) (by rfl) (by rfl) gt0 (by rfl) (by rfl) (by rfl) ?_;clear hm;intro _ hm;try simp only[F8]at hm|refine A1H (i:=7) ?_ (by decide+kernel)|refine A1H (i:=10) ?_ (by decide+kernel)|refine A7g ?_|refine A5c (by decide+kernel) ?_;replace hm:=hR.back hm;clear hR;try simp only[F8]at hm|refine A3j ?_ hR|refine N9 ?_ hm;clear hm;intro _ hm;try simp only[F8]at hm|refine O8 hm (k:=?_);clear hm;intro _ hm;try simp only[F8]at hm|refine Y6 ?_ hm|refine D8 ?_|refine A0n ?_|refine E8 ?_|refine C9 ?_|refine Q3 ?_|refine D9 ?_|refine A7 ?_|refine E5 ?_|refine A8 ?_|refine G5 ?_|refine H9 ?_|refine F7 ?_|refine Z5 ?_|refine O7 ?_|refine L6 ?_)
  exact⟨I2,_,⟨_,a2,c2,xs2,rfl,A4w.plain I2 rfl rfl,rfl,hfe2⟩,hm.left (H:= [_])⟩
abbrev C0A (f u:Int) (x:List UInt8):List Value:= [.int .i64 f,.int .i64 u,str x]
theorem C4t (s:List UInt8) (f u:Int) (x:List UInt8) (hs:s.length<=1099511627776) (hx:x.length<=1099511627776) (I:P7):
  CalM prog 53 #[str s,.agg (C0A f u x).toArray] I [] (fun v _ H'=>v=.tuple #[str (B1C s f u x),nt (A5P s f u x)]/\H'= []):=by
 refine CalM.of fun w E hm=>enter (N:=54) func53 rfl [(0,str s),(1,.agg (C0A f u x).toArray)] A0T rfl ?_
 by_cases h3:f<0\/u<f\/u>s.length
 ·have he:A5P s f u x=3:=by rw[A5P,if_pos h3]
  have ht:B1C s f u x= []:=by rw[B1C,he];rfl
  rw[he,ht];repeat' (first|refine A0P (d:=3) ?_ hm;clear hm;intro b3 _ hm|refine J4 ?_ hm|refine D8 ?_|refine D6 ?_|refine O1 ?_|refine J8 ?_|refine J6 ?_|refine A0u ?_|refine A0C ?_|refine C9 ?_|refine A0E ?_|(refine N8 (h1:=fun _=>?_) (h0:=fun _=>?_)<;>try first|contradiction|omega)|refine D9 ?_|refine A7 ?_|refine G8 ?_|refine E5 ?_|refine A8 ?_|refine H9 ?_|refine A1W ?_|refine H5 ?_|(refine D5 (ht:=fun _=>?_) (hf:=fun _=>?_)<;>try first|contradiction|omega))
  all_goals exact⟨I,[],⟨rfl,rfl⟩,hm.left (H:= [])⟩
 ·by_cases h4:x.length>4000\/(s.length:Int)-(u-f)+x.length>4000
  ·have he:A5P s f u x=4:=by rw[A5P,if_neg h3,if_pos h4]
   have ht:B1C s f u x= []:=by rw[B1C,he];rfl
   rw[he,ht];repeat' (first|refine A0P (d:=3) ?_ hm;clear hm;intro b3 _ hm|refine J4 ?_ hm|refine D8 ?_|refine D6 ?_|refine O1 ?_|refine J8 ?_|refine J6 ?_|refine A0u ?_|refine A0C ?_|refine P5 ?_|refine A3l ?_|refine C9 ?_|refine A0E ?_|(refine N8 (h1:=fun _=>?_) (h0:=fun _=>?_)<;>try first|contradiction|omega)|refine D9 ?_|refine A7 ?_|refine G8 ?_|refine E5 ?_|refine A8 ?_|refine G5 ?_|refine H9 ?_|refine A1W ?_|refine H5 ?_|(refine D5 (ht:=fun _=>?_) (hf:=fun _=>?_)<;>try first|contradiction|omega))
   all_goals exact⟨I,[],⟨rfl,rfl⟩,hm.left (H:= [])⟩
  ·have he:A5P s f u x=0:=by rw[A5P,if_neg h3,if_neg h4]
   have ht:B1C s f u x=s.take f.toNat++x++s.drop u.toNat:=by rw[B1C,he];rfl
   rw[he,ht];repeat' (first|refine B5i (d:=48) ?_ (h:=by simp only[P6];omega)|refine B5i (d:=53) ?_ (h:=by simp only[E9,P6,A0r];omega)|refine A0P (d:=3) ?_ hm;clear hm;intro b3 _ hm|refine J4 ?_ hm|refine V6 ?_ hm|refine D8 ?_|refine D6 ?_|refine J8 ?_|refine J6 ?_|refine A0u ?_|refine A0C ?_|refine P5 ?_|refine A3l ?_|refine C9 ?_|(refine N8 (h1:=fun _=>?_) (h0:=fun _=>?_)<;>try first|contradiction|omega)|refine D9 ?_|refine A7 ?_|refine E5 ?_|refine A8 ?_|refine G5 ?_|refine H9 ?_|refine A1W ?_|refine U3 ?_|refine A0g ?_;intro _ hkq;replace hm:=hm.kept0 hkq;clear hkq|(refine D5 (ht:=fun _=>?_) (hf:=fun _=>?_)<;>try first|contradiction|omega)|refine X6 ?_|refine A1Q ?_|refine B6i ?_|refine B9W ?_|refine L9 ?_)
   all_goals exact⟨I,[],⟨rfl,rfl⟩,hm.left (H:= [])⟩
abbrev A5R (d:Sp.Pl):List Value:= [str d.name,.int .i64 d.at_]
abbrev B3T (l:List Sp.Pl) (a:Option Addr) (cp:Nat):HItem:=.row (.slice a l.length cp) 141 2 l.length (l.flatMap A5R)
abbrev C9m (l:List Sp.Pl):Value->P7->List HItem->Prop:=fun v _ H'=> ∃a cp,v=.slice a l.length cp/\H'= [B3T l a cp]
structure RrX where
 k:Nat
 I:P7
 a:Option Addr
 cp:Nat
theorem C6v (b:Int) (hb0: -1000000<=b) (hb1:b<=1000000):∀(n:Nat) (l:List Sp.Stm),SizeOf.sizeOf l<=n->l.length<=64->A0j l->Y0 C8O (Sp.plS 1000000) l->
  ∀(I:P7) (la:Option Addr) (lc:Nat) (ys:List Value) (out:List Sp.Pl) (oa:Option Addr) (oc:Nat),out.length+(A01 b l).length<=1000000000000->RowI I 127 15 (.slice la l.length lc) l.length ys->X9 I l ys->
  CalM prog 77 #[.slice oa out.length oc,.int .i64 b,.slice la l.length lc] I [B3T out oa oc] (C9m (out++A01 b l)):=by
 intro n;induction n with
 |zero=>intro l h;cases l<;>simp at h
 |succ n ih=>
 intro l hsz hll hsm hal I la lc ys out oa oc hol hr hx;refine CalM.of fun w E hm=>enter (N:=60) func77 rfl [(0,.slice oa out.length oc),(1,.int .i64 b),(2,.slice la l.length lc)] A3G rfl ?_
 repeat' (first|refine D8 ?_|refine D6 ?_|refine G7 ?_|refine D9 ?_|refine A7 ?_|refine E5 ?_|refine A8 ?_|refine F5 ?_)
 refine U0 (fun x:RrX=> [(0,.slice x.a (out++A01 b (l.take x.k)).length x.cp),(1,.int .i64 b),(2,.slice la l.length lc),(9,nt l.length),(10,nt x.k)])
  (fun x w'=>Mem E x.I [B3T (out++A01 b (l.take x.k)) x.a x.cp] w'/\Le I x.I/\x.k<=l.length) (fun x=>l.length-x.k) ⟨0,I,oa,oc⟩
  (by exact⟨by rw[A0a,A01,J3];rfl,rfl,rfl,rfl,rfl,trivial⟩) ⟨by rw[A0a,A01,J3];exact hm,Le.refl _,H7 _⟩ ?_
 clear hm;rintro⟨k,I1,a1,cp1⟩ w1 ⟨hm,hle1,hk⟩;dsimp only at hm hle1 hk |-;by_cases hlt:k<l.length
 ·have hg:l[k]?=some l[k]:=G6 hlt
  have hst:=B8v b hg;have hcut:(A01 b l).length=(A01 b (l.take (k+1))).length+(A01 b (l.drop (k+1))).length:=by
   rw[<-E9, <-B0E,A2t]
  have h1:=A1K hsm hg;have h2:=Sp.Stm.all_node (A4P hal hg);have h3:=A3A (O6 hlt);obtain⟨ea,ec,ex,a1',c1,xs1,a2',c2,xs2,hc,q2,q3,q4,q5,q6,q7⟩:=(hx.get hg).out;generalize l[k]=x at hg hst h1 h2 h3 hc q2 q3 q4 q5 q6 q7;rw[C4Y]at hst;have hz:SizeOf.sizeOf x.thn<SizeOf.sizeOf x/\SizeOf.sizeOf x.els<SizeOf.sizeOf x:=by
   cases x
   simp only[Sp.Stm.thn,Sp.Stm.els,Sp.Stm.mk.sizeOf_spec];omega
  have hsx:x.thn.length<=64/\A0j x.thn/\x.els.length<=64/\A0j x.els:=by
   cases x
   rw[Sp.Stm.small]at h1;exact h1.2
  rw[hst,E9,E9,E9]at hcut;have hr1:=hr.le hle1;have hT1:=fun (J:P7) (m:Le I1 J) (o2:List Sp.Pl) (a cp) (ho:o2.length+(A01 b x.thn).length<=1000000000000)=>ih x.thn (by omega) hsx.1 hsx.2.1 h2.2.2.1 J a1' c1 xs1 o2 a cp ho ((q4.le hle1).le m) (X9.le m _ _ (X9.le hle1 _ _ q5))
  have hT2:=fun (J:P7) (m:Le I1 J) (o2:List Sp.Pl) (a cp) (ho:o2.length+(A01 b x.els).length<=1000000000000)=>ih x.els (by omega) hsx.2.2.1 hsx.2.2.2 h2.2.2.2 J a2' c2 xs2 o2 a cp ho ((q6.le hle1).le m) (X9.le m _ _ (X9.le hle1 _ _ q7))
  generalize A01 b x.thn=t1 at hst hcut hT1;generalize A01 b x.els=t2 at hst hcut hT2;have hpl:=h2.1;obtain⟨pre,hpre⟩:∃pre,pre=out++A01 b (l.take k):=⟨_,rfl⟩;have hpn:pre.length=out.length+(A01 b (l.take k)).length:=by rw[hpre,E9]
  rw[<-hpre]at hm |-;by_cases hkn:x.kind=1/\x.name≠ []
  ·rw[if_pos hkn]at hst hcut
   obtain⟨hk1,hnn⟩:=hkn;have ha:=hpl hk1;simp only[F9,List.length_nil]at hcut;have hfin:out++A01 b (l.take (k+1))=pre++ [⟨x.name,b+x.at_⟩]++t1++t2:=by rw[hst,hpre];simp only[O4]
   have hfl:pre.flatMap A5R++ [str x.name,.int .i64 (b+x.at_)]=(pre++ [Sp.Pl.mk x.name (b+x.at_)]).flatMap A5R:=by rw[Y3];rfl
   have hp1l:(pre++ [Sp.Pl.mk x.name (b+x.at_)]).length=pre.length+1:=by rw[E9];rfl
   have hC1:=fun (a:Option Addr) (cp:Nat)=>hT1 I1 (Le.refl _) (pre++ [Sp.Pl.mk x.name (b+x.at_)]) a cp (by rw[hp1l];omega)
   simp only[B3T,hp1l]at hC1;repeat' (first|refine N7 (d:=15) ?_ (hr:=hr1);intro b0 o0 hp0;rw[show ((k:Int).toNat *15)=k *15 from rfl,hc]at hp0|refine N7 (d:=22) ?_ (hr:=hr1);intro b3 o3 hp3;rw[show ((k:Int).toNat *15)=k *15 from rfl,hc]at hp3|refine A0v (id:=5) (hm.perm pm1_0) 14 16 (h:=?_);clear hm;intro wd hR hm|refine A05 (d:=30) ?_ (hr:=hr1);intro b4 o4 hp4;rw[show ((k:Int).toNat *15)=k *15 from rfl,hc]at hp4|refine A05 (d:=36) ?_ (hr:=hr1);intro b5 o5 hp5;rw[show ((k:Int).toNat *15)=k *15 from rfl,hc]at hp5|refine A0K 6 ?_|refine A0d ?_ hR|refine A1X (d:=42) ?_ hm;clear hm;intro a42 cp42 _ _ hm;replace hm:=hR.back hm;clear hR;try simp only[F8]at hm|refine J5 ?_ hm|refine D8 ?_|refine D6 ?_|refine O1 ?_|refine J6 ?_|refine O0 ?_|refine A09 ?_|refine C9 ?_|(refine N8 (h1:=fun _=>?_) (h0:=fun _=>?_)<;>try first|contradiction|omega)|refine D9 ?_|refine A7 ?_|refine E5 ?_|refine A8 ?_|refine F5 ?_|refine G5 ?_|(refine D5 (ht:=fun _=>?_) (hf:=fun _=>?_)<;>try first|contradiction|omega)|refine Z5 ?_|refine B8E ?_|refine L6 ?_|refine A2P ?_|refine A0c ?_)
   have hm:Mem E I1 [.row (.slice a42 (pre.length+1) cp42) 141 2 (pre.length+1) (pre.flatMap A5R++ [str x.name,.int .i64 (b+x.at_)])] _:=hm;rw[hfl]at hm;refine⟨?_⟩
   repeat' (first|refine A0p (id:=6) (hm.perm pm1_0) [0,1,2,3,4,5,6,8,9,10,11,12,13] [7,14] 15 (h:=?_);clear hm;intro wd hR hm|refine A05 (d:=47) ?_ (hr:=hr1);intro b6 o6 hp6;rw[show ((k:Int).toNat *15)=k *15 from rfl,hc]at hp6|refine A05 (d:=54) ?_ (hr:=hr1);intro b7 o7 hp7;rw[show ((k:Int).toNat *15)=k *15 from rfl,hc]at hp7|refine U9 (d:=50) ?_ hm (hp:=pm1_0) (hc:=hC1 a42 cp42);clear hm;rintro _ I2 _ _ ⟨a50,cp50,rfl,rfl⟩ hleI2 hm;try simp only[F8]at hm|refine U9 (d:=57) ?_ hm (hp:=pm1_0) (hc:=hT2 I2 hleI2 (pre++ [Sp.Pl.mk x.name (b+x.at_)]++t1) a50 cp50 (by rw[E9,hp1l];omega));clear hm;rintro _ I3 _ _ ⟨a57,cp57,rfl,rfl⟩ hleI3 hm;try simp only[F8]at hm|refine A0d ?_ hR|refine A0A ?_;replace hm:=hR.back hm;clear hR;try simp only[F8]at hm|refine D8 ?_|refine D6 ?_|refine P5 ?_|refine D9 ?_|refine A7 ?_|refine D7 ?_|refine A8 ?_|refine Z5 ?_|refine L6 ?_|refine A0c ?_)
   exact L8 (⟨k+1,I3,a57,cp57⟩:RrX) (by exact⟨by rw[hfin];rfl,rfl,rfl,rfl,rfl,trivial⟩) ⟨by dsimp only;rw[hfin];exact hm,(hle1.trans hleI2).trans hleI3,by dsimp only;omega⟩ (by dsimp only;omega)
  ·rw[if_neg hkn,P9]at hst
   rw[if_neg hkn]at hcut;simp only[List.length_nil]at hcut;have hfin:out++A01 b (l.take (k+1))=pre++t1++t2:=by rw[hst,hpre];simp only[O4]
   repeat' (first|refine N7 (d:=15) ?_ (hr:=hr1);intro b0 o0 hp0;rw[show ((k:Int).toNat *15)=k *15 from rfl,hc]at hp0|refine N7 (d:=22) ?_ (hr:=hr1);intro b3 o3 hp3;rw[show ((k:Int).toNat *15)=k *15 from rfl,hc]at hp3|refine A0p (id:=6) (hm.perm pm1_0) [0,1,2,3,4,5,6,8,9,10,11,12,13] [7,14] 15 (h:=?_);clear hm;intro wd hR hm|refine A05 (d:=47) ?_ (hr:=hr1);intro b6 o6 hp6;rw[show ((k:Int).toNat *15)=k *15 from rfl,hc]at hp6|refine A05 (d:=54) ?_ (hr:=hr1);intro b7 o7 hp7;rw[show ((k:Int).toNat *15)=k *15 from rfl,hc]at hp7|refine U9 (d:=50) ?_ hm (hp:=pm1_0) (hc:=hT1 I1 (Le.refl _) pre a1 cp1 (by omega));clear hm;rintro _ I2 _ _ ⟨a50,cp50,rfl,rfl⟩ hleI2 hm;try simp only[F8]at hm|refine U9 (d:=57) ?_ hm (hp:=pm1_0) (hc:=hT2 I2 hleI2 (pre++t1) a50 cp50 (by rw[E9];omega));clear hm;rintro _ I3 _ _ ⟨a57,cp57,rfl,rfl⟩ hleI3 hm;try simp only[F8]at hm|refine A0d ?_ hR|refine A0A ?_;replace hm:=hR.back hm;clear hR;try simp only[F8]at hm|refine J5 ?_ hm|refine D8 ?_|refine D6 ?_|refine O1 ?_|refine J8 ?_|refine J6 ?_|refine O0 ?_|refine A09 ?_|refine P5 ?_|refine C9 ?_|refine A0E ?_|(refine N8 (h1:=fun _=>?_) (h0:=fun _=>?_)<;>try first|contradiction|omega)|refine D9 ?_|refine A7 ?_|refine D7 ?_|refine E5 ?_|refine A8 ?_|refine F5 ?_|refine G5 ?_|refine U3 ?_|refine F7 ?_|(refine D5 (ht:=fun _=>?_) (hf:=fun _=>?_)<;>try first|contradiction|omega)|refine X6 ?_|refine Z5 ?_|refine L6 ?_|refine A0c ?_)
   all_goals try exact absurd ⟨by omega,by assumption⟩ hkn
   all_goals exact L8 (⟨k+1,I3,a57,cp57⟩:RrX) (by exact⟨by rw[hfin];rfl,rfl,rfl,rfl,rfl,trivial⟩) ⟨by dsimp only;rw[hfin];exact hm,(hle1.trans hleI2).trans hleI3,by dsimp only;omega⟩ (by dsimp only;omega)
 ·obtain rfl:k=l.length:=by omega
  rw[V7]at hm |-;repeat' (first|refine D8 ?_|refine D6 ?_|refine J6 ?_|refine D9 ?_|refine A7 ?_|refine H8 ?_|refine G9 ?_|refine E5 ?_|refine A8 ?_|refine P8 ?_|refine H9 ?_|refine J9 ?_|(refine D5 (ht:=fun _=>?_) (hf:=fun _=>?_)<;>try first|contradiction|omega))
  exact⟨I1,_,⟨a1,cp1,rfl,rfl⟩,hm⟩
structure RrY where
 k:Nat
 I:P7
 a:Option Addr
 cp:Nat
structure RrZ where
 k:Nat
 a:Option Addr
 cp:Nat
theorem C8W (l:List Sp.Pl) (d:Sp.Pl):l.flatMap A5R++A5R d=(l++ [d]).flatMap A5R:=by rw[Y3];simp
theorem C04 {its:List Sp.Itm}{a:Option Addr}{cp:Nat}{xs:List Value}{bf:Nat} (I:P7) (hpf:PtrI I bf 0 25 [.slice a its.length cp]) (h:FE I its a cp xs) (hP:∀it∈its,Sp.ItPl it):
  CalM prog 57 #[ptr bf] I [] (fun v I' H'=>H'= []/\∃ma mp,v=.slice ma (A3s its).length mp/\RowI I' 141 2 (.slice ma (A3s its).length mp) (A3s its).length ((A3s its).flatMap A5R)):=by
 refine CalM.of fun w E hm=>enter (N:=89) func57 rfl [(0,ptr bf)] A0G rfl ?_
 have hfew:=h.few;have hm:=hm.nil 141 2;repeat' (first|refine J5 ?_ hm|refine D8 ?_|refine D6 ?_|refine G7 ?_|refine E8 ?_|refine C9 ?_|refine D9 ?_|refine A7 ?_|refine E5 ?_|refine A8 ?_|refine F5 ?_)
 refine U0 (fun x:RrY=> [(0,ptr bf),(3,.slice x.a (A3s (its.take x.k)).length x.cp),(12,nt its.length),(13,nt x.k)])
  (fun x w'=>Mem E x.I [B3T (A3s (its.take x.k)) x.a x.cp] w'/\Le I x.I/\x.k<=its.length) (fun x=>its.length-x.k) ⟨0,I,none,0⟩
  (by exact⟨rfl,rfl,rfl,rfl,trivial⟩) ⟨hm,Le.refl _,H7 _⟩ ?_
 clear hm;rintro⟨k,I1,a1,cp1⟩ w1 ⟨hm,hle1,hk⟩;dsimp only at hm hle1 hk |-;have hpf1:=hpf.le hle1;have h1:=h.le hle1;have hri:=h1.row;by_cases hlt:k<its.length
 ·have hg:its[k]?=some its[k]:=G6 hlt
  have hit:=hP _ (O6 hlt);have hst:=B9x hg;have hml:=A9L (its:=its.take k) (fun x hx=>hP x (A6G hx));rw[P6,A1h hk]at hml;obtain⟨cs,hcs,hat,_⟩:=h1.get hg;generalize its[k]=it at hg hit hst hat
  have hil:=B7F hit;rw[B9l]at hst hil;generalize A3s (its.take k)=pre at hm hst hml |-;obtain⟨hat0,hat1⟩:=hit.at_;have hmk:=hit.mark;obtain⟨pa,pc,sa9,sc9,ba,bc9,da9,dc9,xb,rfl,hpar,_,hrb,hbs,_⟩:=hat
  have hps:=hit.small.params;by_cases hb:it.kind=3\/it.name= []
  ·rw[if_pos hb,J3]at hst
   repeat' (first|refine N7 (d:=21) ?_ (hr:=hri);intro bt ot hpt;rw[show ((k:Int).toNat *10)=k *10 from rfl,hcs]at hpt|refine J5 ?_ hm|refine A0m ?_ hm|refine D8 ?_|refine D6 ?_|refine O1 ?_|refine J8 ?_|refine J6 ?_|refine O0 ?_|refine V8 ?_|refine E8 ?_|refine P5 ?_|refine C9 ?_|refine A0E ?_|(refine N8 (h1:=fun _=>?_) (h0:=fun _=>?_)<;>try first|contradiction|omega)|refine D9 ?_|refine A7 ?_|refine H8 ?_|refine G9 ?_|refine E5 ?_|refine A8 ?_|refine F5 ?_|refine G5 ?_|refine P8 ?_|refine U3 ?_|refine H5 ?_|(refine D5 (ht:=fun _=>?_) (hf:=fun _=>?_)<;>try first|contradiction|omega)|refine X6 ?_|refine O9 ?_|refine A9o ?_|refine L9 ?_|refine B8b ?_)
   all_goals first
    |exact L8 (⟨k+1,I1,a1,cp1⟩:RrY) (by exact⟨rfl,by rw[hst];rfl,rfl,rfl,trivial⟩) ⟨by dsimp only;rw[hst];exact hm,hle1,by dsimp only;omega⟩ (by dsimp only;omega)
    |(exfalso;rcases hb with hb|hb
      ·omega
      ·contradiction)
  rw[if_neg hb]at hst hil;have hk3:it.kind≠3:=fun e=>hb (.inl e)
  have hnn:it.name≠ []:=fun e=>hb (.inr e)
  rw[F9,E9]at hil;have hL:=fun (J:P7) (m:Le I1 J) (o2:List Sp.Pl) (a cp) (ho:o2.length+(A01 it.at_ it.body).length<=1000000000000)=>C6v it.at_ (by omega) (by omega) _ it.body (H6 _) (by have:=hit.small.body;omega) hit.small.stms hit.body J ba bc9 xb o2 a cp ho (hrb.le m) (X9.le m _ _ hbs)
  generalize A01 it.at_ it.body=tl at hst hil hL;repeat' (first|refine N7 (d:=21) ?_ (hr:=hri);intro bt ot hpt;rw[show ((k:Int).toNat *10)=k *10 from rfl,hcs]at hpt|refine A0v (id:=7) (hm.perm pm1_0) 15 17 (h:=?_);clear hm;intro wd hR hm|refine A0d ?_ hR|refine A1X (d:=50) ?_ hm;clear hm;intro a50 cp50 _ _ hm;replace hm:=hR.back hm;clear hR;try simp only[F8]at hm|refine J5 ?_ hm|refine D8 ?_|refine D6 ?_|refine J8 ?_|refine J6 ?_|refine O0 ?_|refine V8 ?_|refine G7 ?_|refine E8 ?_|refine C9 ?_|(refine N8 (h1:=fun _=>?_) (h0:=fun _=>?_)<;>try first|contradiction|omega)|refine D9 ?_|refine A7 ?_|refine E5 ?_|refine A8 ?_|refine F5 ?_|refine G5 ?_|(refine D5 (ht:=fun _=>?_) (hf:=fun _=>?_)<;>try first|contradiction|omega)|refine Z5 ?_|refine O7 ?_|refine B8E ?_|refine L6 ?_|refine A2P ?_|refine A0c ?_)
  have hm:Mem E I1 [.row (.slice a50 (pre.length+1) cp50) 141 2 (pre.length+1) (pre.flatMap A5R++A5R ⟨it.name,it.at_+it.mark⟩)] _:=hm;rw[C8W]at hm;obtain⟨p1,hp1⟩:∃p1,p1=pre++ [Sp.Pl.mk it.name (it.at_+it.mark)]:=⟨_,rfl⟩;have hp1l:p1.length=pre.length+1:=by rw[hp1,E9];rfl
  rw[<-hp1, <-hp1l]at hm;have hst1:A3s (its.take (k+1))=p1++it.params.flatMap (A6e it.at_)++tl:=by rw[hst,hp1];simp only[O4,X3,P9]
  have hz0:(p1++(it.params.take 0).flatMap (A6e it.at_)).length=pre.length+1:=by rw[A0a,List.flatMap_nil,J3,hp1l]
  refine U0 (fun x:RrZ=> [(0,ptr bf),(3,.slice x.a (p1++(it.params.take x.k).flatMap (A6e it.at_)).length x.cp),(5,.pointer (some ⟨bt,ot,none⟩)),(12,nt its.length),(13,nt k),(54,.slice pa it.params.length pc),(55,nt it.params.length),(56,nt x.k)])
   (fun x w'=>Mem E I1 [B3T (p1++(it.params.take x.k).flatMap (A6e it.at_)) x.a x.cp] w'/\x.k<=it.params.length) (fun x=>it.params.length-x.k) ⟨0,a50,cp50⟩
   (by exact⟨rfl,by show some (Value.slice a50 (pre.length+1) cp50)=some (Value.slice a50 (p1++(it.params.take 0).flatMap (A6e it.at_)).length cp50);rw[hz0],rfl,rfl,rfl,rfl,rfl,rfl,trivial⟩) ⟨by rw[A0a,List.flatMap_nil,J3];exact hm,H7 _⟩ ?_
  clear hm;rintro⟨q,a2,cp2⟩ w2 ⟨hm,hq⟩;dsimp only at hm hq |-;have hql:=A6h it.at_ (it.params.take q);rw[P6,A1h hq]at hql;by_cases hlq:q<it.params.length
  ·have hgq:it.params[q]?=some it.params[q]:=G6 hlq
   have hpa:=hit.params _ (O6 hlq);have htk:(it.params.take (q+1)).flatMap (A6e it.at_)=(it.params.take q).flatMap (A6e it.at_)++A6e it.at_ it.params[q]:=by rw[Q9 hgq,Y3];simp
   generalize it.params[q]=p at hgq hpa htk;rw[A6e]at htk;generalize (it.params.take q).flatMap (A6e it.at_)=pq at hm htk hql |-;have hpl2:(p1++pq).length=p1.length+pq.length:=E9;by_cases hpn:p.name≠ []
   ·rw[if_pos hpn]at htk
    repeat' (first|refine Q8 (d:=58) (enc:=A2Q) (z:=p) ?_ (hr:=hpar) (he:=fun _=>rfl) (hz:=by exact hgq);intro bz oz hpz|refine A0v (id:=12) (hm.perm pm1_1) 11 13 (h:=?_);clear hm;intro wd hR hm|refine Y9 ?_ hR|refine A0d ?_ hR|refine A1X (d:=75) ?_ hm;clear hm;intro a75 cp75 _ _ hm;replace hm:=hR.back hm;clear hR;try simp only[F8]at hm|refine Y1 (d:=7) ?_ hm;clear hm;intro b7 _ hm|refine J4 ?_ hm|refine X0 ?_ hm|refine D8 ?_|refine D6 ?_|refine J6 ?_|refine A09 ?_|refine P5 ?_|refine C9 ?_|refine D9 ?_|refine A7 ?_|refine D7 ?_|refine E5 ?_|refine A8 ?_|refine F5 ?_|refine G5 ?_|(refine D5 (ht:=fun _=>?_) (hf:=fun _=>?_)<;>try first|contradiction|omega)|refine Z5 ?_|refine O7 ?_|refine B8E ?_|refine L6 ?_|refine A2P ?_|refine A0c ?_)
    have hm:Mem E I1 [.row (.slice a75 ((p1++pq).length+1) cp75) 141 2 ((p1++pq).length+1) ((p1++pq).flatMap A5R++A5R ⟨p.name,it.at_+p.at_⟩)] _:=hm.hd;rw[C8W]at hm;have e1:(p1++pq++ [Sp.Pl.mk p.name (it.at_+p.at_)]).length=(p1++pq).length+1:=by rw[E9];rfl
    refine L8 (⟨q+1,a75,cp75⟩:RrZ) (by exact⟨rfl,by show some (Value.slice a75 ((p1++pq).length+1) cp75)=some (Value.slice a75 (p1++(it.params.take (q+1)).flatMap (A6e it.at_)).length cp75);rw[htk, <-O4,e1],rfl,rfl,rfl,rfl,rfl,rfl,trivial⟩) ⟨by dsimp only;rw[htk, <-O4];unfold B3T;rw[e1];exact hm,by dsimp only;omega⟩ (by dsimp only;omega)
   ·rw[if_neg hpn,J3]at htk
    repeat' (first|refine Q8 (d:=58) (enc:=A2Q) (z:=p) ?_ (hr:=hpar) (he:=fun _=>rfl) (hz:=by exact hgq);intro bz oz hpz|refine Y1 (d:=7) ?_ hm;clear hm;intro b7 _ hm|refine J4 ?_ hm|refine X0 ?_ hm|refine D8 ?_|refine J6 ?_|refine A09 ?_|refine P5 ?_|refine C9 ?_|refine D9 ?_|refine A7 ?_|refine D7 ?_|refine E5 ?_|refine A8 ?_|refine F5 ?_|refine G5 ?_|(refine D5 (ht:=fun _=>?_) (hf:=fun _=>?_)<;>try first|contradiction|omega))
    exact L8 (⟨q+1,a2,cp2⟩:RrZ) (by exact⟨rfl,by rw[htk];rfl,rfl,rfl,rfl,rfl,rfl,rfl,trivial⟩) ⟨by dsimp only;rw[htk];exact hm.tl,by dsimp only;omega⟩ (by dsimp only;omega)
  obtain rfl:q=it.params.length:=by omega
  rw[V7]at hm |-;obtain⟨p2,hp2⟩:∃p2,p2=p1++it.params.flatMap (A6e it.at_):=⟨_,rfl⟩;have hp2l:p2.length<=pre.length+1+it.params.length:=by
   have:=A6h it.at_ it.params;rw[hp2,E9,hp1l];omega
  rw[<-hp2]at hm hst1 |-;repeat' (first|refine A0p (id:=14) (hm.perm pm1_0) [0,1,2,3,4,5,6,7,8] [9] 10 (h:=?_);clear hm;intro wd hR hm|refine U9 (d:=86) ?_ hm (hp:=pm1_0) (hc:=hL I1 (Le.refl _) p2 a2 cp2 (by omega));clear hm;rintro _ I2 _ _ ⟨a86,cp86,rfl,rfl⟩ hleI2 hm;try simp only[F8]at hm|refine A0d ?_ hR|refine A0A ?_;replace hm:=hR.back hm;clear hR;try simp only[F8]at hm|refine D8 ?_|refine D6 ?_|refine J6 ?_|refine P5 ?_|refine D9 ?_|refine A7 ?_|refine H8 ?_|refine D7 ?_|refine G9 ?_|refine E5 ?_|refine A8 ?_|refine P8 ?_|(refine D5 (ht:=fun _=>?_) (hf:=fun _=>?_)<;>try first|contradiction|omega)|refine Z5 ?_|refine O7 ?_|refine L6 ?_|refine A0c ?_)
  exact L8 (⟨k+1,I2,a86,cp86⟩:RrY) (by exact⟨rfl,by rw[hst1];rfl,rfl,rfl,trivial⟩) ⟨by dsimp only;rw[hst1];exact hm,hle1.trans hleI2,by dsimp only;omega⟩ (by dsimp only;omega)
 ·obtain rfl:k=its.length:=by omega
  rw[V7]at hm |-;repeat' (first|refine D8 ?_|refine D6 ?_|refine J6 ?_|refine D9 ?_|refine A7 ?_|refine H8 ?_|refine G9 ?_|refine E5 ?_|refine A8 ?_|refine P8 ?_|refine H9 ?_|refine J9 ?_|(refine D5 (ht:=fun _=>?_) (hf:=fun _=>?_)<;>try first|contradiction|omega))
  obtain⟨I7,hle7,hm7,hrow⟩:=hm.freeze;exact⟨I7,[],⟨rfl,_,_,rfl,hrow⟩,hm7⟩
abbrev B0v (z:Int):List Value:= [.int .i64 z]
theorem B03 (l:List Int):l.flatMap B0v=l.map (Value.int .i64):=A9d _ _
abbrev B0z (l:List Int) (a:Option Addr) (cp:Nat):HItem:=.row (.slice a l.length cp) 3 1 l.length (l.flatMap B0v)
theorem B3h (l:List Int):(Lib.compact l).length<=l.length:=by
 have h:∀m,(Lib.compactUpTo l.toArray m).length<=m:=by
  intro m;induction m with
  |zero=>simp[Lib.compactUpTo]
  |succ m ih=>
   rw[Lib.compactUpTo_succ,E9];split
   ·simp only[F9,List.length_nil];omega
   ·simp only[List.length_nil];omega
 have:=h l.length;simpa[Lib.compact] using this
theorem C50 {I:P7}{l:List Int}{a:Option Addr}{cp:Nat} (h0:l≠ []) (hn:l.length<=1000000000000):
  CalM prog 101 #[.slice a l.length cp] I [B0z l a cp] (fun v _ H'=>v=.tuple #[]/\H'= [.row (.slice a l.length cp) 3 1 l.length ((l.mergeSort fun x y=>decide (x<=y)).flatMap B0v)]):=by
 refine CalM.of fun w E hm=>?_
 have ho:w.ownsRow 0 3 1 (.slice a l.length cp) l.length (l.flatMap B0v):=hm.ok _ Q5;rw[B03]at ho;rcases ho.2 with ⟨hv,hz⟩|⟨g,cap,cur,hv,_,hg,hc,hcm,hsz,ht⟩
 ·exact absurd (A07 hz) h0
 ·injection hv with e1 e2 e3
  subst e1;subst e3;rw[A2M]at ht;have hgl:=(A7C.1 hg).1;refine⟨Calls.mono (Tryz.slices_Sort_int g 0 cp l w (holds_of_blockI hg ht) hgl (by omega)) (fun e w' q=>?_)⟩
  obtain⟨rfl,n,os,rfl⟩:=q;have hl:(l.mergeSort fun x y=>decide (x<=y)).length=l.length:=List.length_mergeSort l;have hr:=ownsRow_sortedI (n:=n) (os:=os) hl (H7 g) hg hc hcm hsz;rw[<-B03]at hr;exact⟨I,_,⟨rfl,rfl⟩,hm.turn (i:=0) rfl (Kept.of_grown (grownBy_sortedI _)) hr (.inl rfl)⟩
theorem B9w {I:P7}{l:List Int}{a:Option Addr}{cp:Nat} (h0:l≠ []) (hn:l.length<=1000000000000):
  CalM prog 102 #[.slice a l.length cp] I [B0z l a cp] (fun v _ H'=> ∃b,v=.slice b (Lib.compact l).length cp/\H'= [B0z (Lib.compact l) b cp]):=by
 refine CalM.of fun w E hm=>?_
 have ho:w.ownsRow 0 3 1 (.slice a l.length cp) l.length (l.flatMap B0v):=hm.ok _ Q5;rw[B03]at ho;rcases ho.2 with ⟨hv,hz⟩|⟨g,cap,cur,hv,_,hg,hc,hcm,hsz,ht⟩
 ·exact absurd (A07 hz) h0
 ·injection hv with e1 e2 e3
  subst e1;subst e3;rw[A2M]at ht;have hle:=B3h l;refine⟨Calls.mono (Tryz.slices_Compact_int g 0 cp l w (holds_of_blockI hg ht) (by omega) hc) (fun e w' q=>?_)⟩
  obtain⟨rfl,n,rfl⟩:=q;obtain⟨ts,hts⟩:∃ts,ts=Lib.compact l++List.replicate (l.length-(Lib.compact l).length) (0:Int):=⟨_,rfl⟩;rw[<-hts];have htl:ts.length=l.length:=by rw[hts,E9,List.length_replicate];omega
  have hh:(Go.Sort.putRow (Value.int .i64) (Sort.ahead w n) g 0 ts.toArray).heap[g]?=some (.cells (Go.Sort.putCells (Value.int .i64) 0 ts.toArray cur) 3 (0,0)):=by
   simp[Go.Sort.putRow,Go.Sort.mapBlock,Sort.ahead,A2S,hg,Go.Sort.onCells]
  have hk:Kept [g] w (Go.Sort.putRow (Value.int .i64) (Sort.ahead w n) g 0 ts.toArray):=⟨rfl,rfl,rfl,by simp[Go.Sort.putRow,Go.Sort.mapBlock,Sort.ahead],fun k _ hk=>by
   have:g≠k:=fun e=>hk (by rw[e];simp)
   simp[Go.Sort.putRow,Go.Sort.mapBlock,Sort.ahead,A2S,this]⟩
  have htk:(Go.Sort.putCells (Value.int .i64) 0 ts.toArray cur).toList.take (Lib.compact l).length=(Lib.compact l).map (Value.int .i64):=by
   have h1:=take_putCellsI cur ts (by omega);have h2:=congrArg (List.take (Lib.compact l).length) h1;rw[A3c,A1h (by omega)]at h2;rw[h2,hts,Y8,A14 (by simp),A0q (by simp)]
  have hr:(Go.Sort.putRow (Value.int .i64) (Sort.ahead w n) g 0 ts.toArray).ownsRow 0 3 1 (.slice (some ⟨g,0,none⟩) (Lib.compact l).length cp) (Lib.compact l).length ((Lib.compact l).flatMap B0v):=by
   rw[B03];exact⟨by simp,.inr ⟨g,cp,_,rfl,H7 _,hh,by omega,hcm,by simp[Go.Sort.putCells,hsz],by rw[A2M];exact htk⟩⟩
  exact⟨I,_,⟨_,rfl,rfl⟩,hm.turn (i:=0) rfl hk hr (.inl rfl)⟩
end Go.Proofs
