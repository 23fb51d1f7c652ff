/- Own work. -/
import Derived.Test.YtbmbnippbldmfaaGreatDoorRa21
set_option maxHeartbeats 64000000
namespace Go.Sp
def B5K (its:List Itm) (at_:Int) (sc:List Lc) (un:Nat) (e:Ex) (s:FW):Nat×FW:=
 if e.kind=2 then (A65 sc e.name,s) else if e.kind=3 then A3J its at_ sc un e.args 0 s else
 if e.kind=4 then (A21 its e.name,A3c its un e.name e.fr e.to (A2Z its at_ sc un e.name e.args 0 s)) else (0,s)
theorem C4M (its:List Itm) (at_:Int) (sc:List Lc) (un:Nat) (e:Ex) (s:FW):exF its at_ sc un e s=((B5K its at_ sc un e s).1,(B5K its at_ sc un e s).2.hit at_ e.fr e.to ((B5K its at_ sc un e s).1|||un)):=by
 cases e with
 |mk k nm n args f t=>
 rw[exF,B5K];show _=_
 by_cases k2:k=2
 ·simp[k2,Ex.kind,Ex.name,Ex.fr,Ex.to]
 ·by_cases k3:k=3
  ·simp[k3,Ex.kind,Ex.args,Ex.fr,Ex.to]
  ·by_cases k4:k=4
   ·simp[k4,Ex.kind,Ex.name,Ex.args,Ex.fr,Ex.to]
   ·simp[k2,k3,k4,Ex.kind,Ex.fr,Ex.to]
theorem D0k (its:List Itm) (at_:Int) (sc:List Lc) (un:Nat) (e:Ex) (s:FW):s.ds.length<=(B5K its at_ sc un e s).2.ds.length/\(B5K its at_ sc un e s).2.ds.length+1<=s.ds.length+2 *e.cnt:=by
 have:=B9e its at_ sc un e s;rw[C4M]at this;dsimp only at this;rw[A6g]at this;exact this
theorem D3V {s:FW}{at_:Int}{f t n:Nat} (h0:s.hv=none) (h1:(f:Int)<=at_) (h2:at_<t):s.hit at_ f t n=⟨s.ds,some n⟩:=by rw[FW.hit,if_pos ⟨h0,h1,h2⟩]
theorem D00 {s:FW}{at_:Int}{f t n m:Nat} (h0:s.hv=some m):s.hit at_ f t n=s:=by rw[FW.hit,if_neg (by rw[h0];simp)]
theorem D3U {s:FW}{at_:Int}{f t n:Nat} (h1:¬((f:Int)<=at_/\at_<t)):s.hit at_ f t n=s:=by rw[FW.hit,if_neg (fun h=>h1 h.2)]
end Go.Sp
namespace Go.Fw
open Go.Sp
theorem C6l {R:List HItem}{a b c:HItem}:∀h∈ [a,b,c],h∈a::b::c::R:=by simp
end Go.Fw
namespace Go.Sp
def C0s (its:List Itm) (own:Nat) (at_:Int) (x:Stm) (sc:List Lc) (a:Nat) (s:FW):List Lc×FW:=
 if x.kind=1 then (sc++ [⟨x.name,if x.opn=true then a else x.label⟩],s.ask a (if x.opn=true then a else x.label) x.fr x.to x.name) else
 if x.kind=2 then (sc,s.ask a (A65 sc x.name) x.fr x.to x.name) else
 if x.kind=5 then (sc,A8I its a x.name x.fr x.to s) else
 if x.kind=6 then (sc,s.ask a own x.fr x.to x.name) else
 if x.kind=3\/x.kind=4 then (sc,(A1C its own at_ x.els sc a (A1C its own at_ x.thn sc a s).2).2) else (sc,s)
theorem D41 (its:List Itm) (own:Nat) (at_:Int) (x:Stm) (sc:List Lc) (un:Nat) (s:FW):
  A6l its own at_ x sc un s=C0s its own at_ x sc ((exF its at_ sc (unF its sc x.kind un x.e) x.e s).1|||unF its sc x.kind un x.e) (exF its at_ sc (unF its sc x.kind un x.e) x.e s).2:=by
 cases x;rw[A6l,C0s];rfl
theorem B93 {its:List Itm} (h:A3Y its) (own:Nat) (at_:Int):∀(l:List Stm) {sc:List Lc},A6Y sc->∀ {un:Nat},un<256->A0e B1L B24 l->∀(s:FW),A6Y (A1C its own at_ l sc un s).1
 | [],sc,hs,un,hu,_,s=>by rw[A1C];exact hs
 |x::l,sc,hs,un,hu,hx,s=>by
  rw[A0e]at hx;rw[A1C];exact B93 h own at_ l (D2z h own at_ x hs hu (Stm.all_node hx.1).1 s) hu hx.2 _
theorem C2I {its:List Itm}{k:Nat}{it:Itm} (h:its[k]?=some it):(A7b its).take (k+1)=(A7b its).take k++ [A43 its it.sends]:=
 U2 (by rw[A7b,Y6,h];rfl)
theorem C8T {its:List Itm}{l:List Rf}{j:Nat}{x:Rf} (h:l[j]?=some x):A43 its (l.take (j+1))=A7d its (A43 its (l.take j)) x:=by
 rw[U2 h,A43,A5c];rfl
theorem C5R {l:List Par}{k:Nat}{p:Par} (h:l[k]?=some p):A44 (l.take (k+1))=A44 (l.take k)++ [⟨p.name,p.label⟩]:=by
 rw[U2 h,A44,V5];rfl
structure ItF (it:Itm):Prop where
 small:it.small
 body:A0e B1L B24 it.body
 cnt:U1 it.body<=400000000
end Go.Sp
namespace Go.Fw
open Go.Sp
open Go
theorem D1w {P:Program}{N:Nat}{ds:List Deferred}{Q:Exit->Act->World->Prop}{l:Log}{w w0:World}{ops:Array Oper}{os' tail:List Oper}{d:Nat}{ty:TypeId}{pos:String}{af:Array Edge}{g:Option (Nat×Bool)}{t:TypeId}{x:Operand}
  {X:List Nat}{I0 I:P8}{H:List HItem}{v:Value}{vs:List Value} (k:∀b w',Mem ⟨w0,X,I0⟩ I (.obj b (.cells vs.toArray t (0,0))::H) w'->WS P N ds ops Q X w0 os' tail ((d,.pointer (some ⟨b,0,none⟩))::l) w') (hm:Mem ⟨w0,X,I0⟩ I H w) (hw:X9 ops l ⟨some d,.box t x,ty,pos,af,g⟩=some true:=by rfl) (hN:Nat.blt d N=true:=by rfl) (hx:ev l x=some v:=by rfl) (hv:v.cells=vs.toArray:=by rfl)
   :
  WS P N ds ops Q X w0 (⟨some d,.box t x,ty,pos,af,g⟩::os') tail l w:=by
 have hk:=Kept.alloc w (.cells v.cells t (0,0));have hm':=hm.add (x:=.obj w.heap.size (.cells vs.toArray t (0,0))) hk (by rw[<-hv];exact heap_alloc_new w _) (fun b hb=>by simp only[HItem.blk,X4]at hb;omega);refine A5W (w':=w.alloc (.cells v.cells t (0,0))) (v:=.pointer (some ⟨w.heap.size,0,none⟩)) rfl hw hN (fun a ha=>?_) hm'.kept (k _ _ hm')
 simp[execOp,Instr.box,newVar,newRow,newObj,ha.ev hx];rfl
end Go.Fw
namespace Go.Proofs
open Go.Proofs.Tryz
open Go.Sp
open Go.Fw
structure FX where
 k:Nat
 I:P8
 sa:Option Addr
 sp:Nat
 da:Option Addr
 dp:Nat
def C9Q (its:List Sp.Itm) (it:Sp.Itm) (bc bf:Nat) (a:Option Addr) (cp:Nat) (xs:List Value) (pi vf:Value) (sc:List Sp.Lc) (at_:Int) (un:Nat) (e:Sp.Ex):Prop:=
 ∀(I:P8) (b o tc:Nat) (ea:Option Addr) (ec:Nat) (ys:List Value) (s:Sp.FW) (sa:Option Addr) (sp:Nat) (da:Option Addr) (dp:Nat),s.ds.length+2 *e.cnt<=1000000000->FC I its it bf a cp xs pi vf->
  PtrI I b o tc (A0E e ea ec)->RowI I 109 6 (.slice ea e.args.length ec) e.args.length ys->Z7 I e.args ys->
  CalM prog 177 #[ptr bc,.pointer (some ⟨b,o,none⟩),nt un] I (FSt bc bf pi sc sa sp s da dp vf at_) (ToF bc bf pi vf at_ sc (Sp.exF its at_ sc un e s).2 (nt (Sp.exF its at_ sc un e s).1))
section
variable {its:List Sp.Itm}{it:Sp.Itm}{bc bf:Nat}{a:Option Addr}{cp:Nat}{xs:List Value}{pi vf:Value}{sc:List Sp.Lc}{at_:Int}{un:Nat}
theorem D6n (hun:un<256) (_hsc:sc.length<=1099511627776) (hsl:A6Y sc) (e:Sp.Ex) (hsm:e.small) (hE:∀y,y∈e.args->C9Q its it bc bf a cp xs pi vf sc at_ un y)
  (I:P8) (b o tc:Nat) (ea:Option Addr) (ec:Nat) (ys:List Value) (s:Sp.FW) (sa:Option Addr) (sp:Nat) (da:Option Addr) (dp:Nat) (hn:s.ds.length+2 *e.cnt<=1000000000) (hC:FC I its it bf a cp xs pi vf)
  (hp:PtrI I b o tc (A0E e ea ec)) (hr:RowI I 109 6 (.slice ea e.args.length ec) e.args.length ys) (hx:Z7 I e.args ys):
  CalM prog 198 #[ptr bc,.pointer (some ⟨b,o,none⟩),nt un] I (FSt bc bf pi sc sa sp s da dp vf at_)
   (ToF bc bf pi vf at_ sc (A3c its un e.name e.fr e.to (A2Z its at_ sc un e.name e.args 0 s)) (nt (A21 its e.name))):=by
 obtain⟨hal,hasm⟩:=A4u hsm;have hcnt:=Sp.Ex.cnt_eq e;refine CalM.of fun w E hm=>enter (N:=149) func198 rfl [(0,ptr bc),(1,.pointer (some ⟨b,o,none⟩)),(2,nt un)] A4x rfl ?_
 obtain⟨fa,fp,rfl,hfl⟩:=hC.floors;have hCf:=hC.file;have hri:=hC.fe.row;have hfew:=hC.fe.few;have hfind:=(A9N 2 e.name its I a cp xs hC.fe).read;obtain⟨fv,hfv⟩:∃fv,fv=A6d its 2 e.name:=⟨_,rfl⟩;rw[<-hfv]at hfind;repeat' (first|refine A0P (d:=20) ?_ hm (hc:=hfind)|refine J9 ?_ hm|refine V3 ?_ hm|refine A0f ?_ hm|refine A10 ?_ hm|refine D8 ?_|refine D6 ?_|refine G6 ?_|refine F5 ?_|refine D5 ?_|refine E5 ?_|refine A7 ?_|refine E8 ?_|refine A8 ?_|refine F6 ?_|refine U6 ?_|refine A0s ?_;intro _ hkq;replace hm:=hm.kept0 hkq;clear hkq|refine Y4 ?_|refine A1a ?_|refine Q9 ?_|refine L8 ?_)
 refine U3 (fun x:FX=> [(0,ptr bc),(1,.pointer (some ⟨b,o,none⟩)),(2,nt un),(7,.int .i64 fv),(25,nt e.args.length),(26,nt x.k)])
  (fun x w'=>Mem E x.I (FSt bc bf pi sc x.sa x.sp (A2Z its at_ sc un e.name (e.args.take x.k) 0 s) x.da x.dp (.slice fa its.length fp) at_) w'/\Le I x.I/\x.k<=e.args.length) (fun x=>e.args.length-x.k) ⟨0,I,sa,sp,da,dp⟩
  (by exact⟨rfl,rfl,rfl,rfl,rfl,rfl,trivial⟩) ⟨by dsimp only;rw[Z9,A2Z];exact hm,Le.refl _,H9 _⟩ ?_
 clear hm;rintro⟨k,I1,sa1,sp1,da1,dp1⟩ w1 ⟨hm,hle1,hk⟩;dsimp only at hm hle1 hk |-;have hC1:=hC.le hle1;have hCf1:=hC1.file;have hri1:=hC1.fe.row;have hp1:=hp.le hle1;by_cases hlt:k<e.args.length
 ·have hg:e.args[k]?=some e.args[k]:=F9 hlt
  have hmem:=O1 hlt;obtain⟨ea2,ec2,ys2,hc2,hr2,hx2⟩:=(hx.get hg).out;have hEk:=hE _ hmem;generalize e.args[k]=y at hg hmem hc2 hr2 hx2 hEk;have hst:=C4u its at_ sc un e.name hg s;have hcy:=A8O hg;have hnn:=B6p its at_ sc un e.name (e.args.take k) 0 s;generalize A2Z its at_ sc un e.name (e.args.take k) 0 s=s1 at hm hst hnn;have hcl:=fun (J:P8) (m:Le I J) (h1:FC J its it bf a cp xs pi (.slice fa its.length fp)) b o tc (hpt:PtrI J b o tc (A0E y ea2 ec2))=>hEk J b o tc ea2 ec2 ys2 s1 sa1 sp1 da1 dp1 (by omega) h1 hpt (hr2.le m) (Z7.le m _ _ hx2)
  have hl1:=B43 hC.lab at_ hsl un y s1;have hnx:=B9e its at_ sc un y s1;generalize Sp.exF its at_ sc un y s1=r at hcl hst hl1 hnx;have hrow:=hr.le hle1;have hl2:=B3h hl1 hun;rw[A6f]at hst;cases hf:A0M its 2 e.name with
  |none=>
   rw[hf]at hst;rw[A8R hf]at hfv;subst hfv;repeat' (first|refine O7 (d:=35) ?_ (hr:=hrow);intro bt ot hpt;rw[show ((k:Int).toNat *6)=k *6 from rfl,hc2]at hpt|refine F8 (d:=37) ?_ hm (hc:=hcl I1 hle1 hC1 _ _ _ hpt);clear hm;rintro _ I2 _ _ ⟨rfl,sa2,sp2,da2,dp2,rfl⟩ hle hm;have hleI2:=hle;try simp only[G5]at hm;have hCf2:=hCf1.le hleI2;have hp2:=hp1.le hleI2|refine A0r (d:=39) (hc:=by exact A9I _ _ hl1 hun _) (k:=?_);rintro _ _ ⟨rfl,rfl⟩|refine J9 ?_ hm|refine D8 ?_|refine D6 ?_|refine N7 ?_|refine J8 ?_|refine A11 ?_|refine F5 ?_|refine O9 ?_|refine D5 ?_|refine A0z ?_|refine E5 ?_|refine A7 ?_|refine D7 ?_|refine E8 ?_|refine A8 ?_|refine F6 ?_|refine G7 ?_|refine F7 ?_|(refine C9 (ht:=fun _=>?_) (hf:=fun _=>?_)<;>try first|contradiction|omega))
   exact L6 (⟨k+1,I2,sa2,sp2,da2,dp2⟩:FX) (by exact⟨rfl,rfl,rfl,rfl,rfl,rfl,trivial⟩) ⟨by dsimp only;rw[hst];exact hm,hle1.trans hleI2,by dsimp only;omega⟩ (by dsimp only;omega)
  |some j=>
   rw[hf]at hst;rw[A8S hf]at hfv;subst hfv;obtain⟨hj,_,_,_,hmemj⟩:=A3O hf;obtain⟨ci,hci,hat,hlc⟩:=hC1.fe.get (A5j hj);obtain⟨pa,pc,sa9,sc9,ba,bc9,da9,dc9,xb,rfl,hpars,_⟩:=hat
   have hplab:=(hC.lab _ hmemj).2;dsimp only at hst;generalize X7 its j=itj at hci hpars hplab hst;by_cases hkp:k<itj.params.length
   ·have hgp:itj.params[k]?=some itj.params[k]:=F9 hkp
    have hpl:=hplab _ (O1 hkp);generalize itj.params[k]=q at hgp hpl;rw[hgp]at hst;dsimp only at hst;rw[Sp.FW.ask]at hst;have hF:=fun w=>B34 (r.1|||un) q.label hl2 hpl w
    cases hfl2:A1i (r.1|||un) q.label with
    |true=>
     rw[hfl2]at hF hst;repeat' (first|refine O7 (d:=35) ?_ (hr:=hrow);intro bt ot hpt;rw[show ((k:Int).toNat *6)=k *6 from rfl,hc2]at hpt|refine F8 (d:=37) ?_ hm (hc:=hcl I1 hle1 hC1 _ _ _ hpt);clear hm;rintro _ I2 _ _ ⟨rfl,sa2,sp2,da2,dp2,rfl⟩ hle hm;have hleI2:=hle;try simp only[G5]at hm;have hCf2:=hCf1.le hleI2;have hp2:=hp1.le hleI2|refine A0r (d:=39) (hc:=by exact A9I _ _ hl1 hun _) (k:=?_);rintro _ _ ⟨rfl,rfl⟩|refine O7 (d:=52) ?_ (hr:=hri1.le hleI2);intro bu ou hpu;rw[show ((j:Int).toNat *10)=j *10 from rfl,hci]at hpu|refine O7 (d:=68) ?_ (hr:=hri1.le hleI2);intro bv ov hpv;rw[show ((j:Int).toNat *10)=j *10 from rfl,hci]at hpv|refine Q4 (d:=72) (enc:=A2L) (z:=q) ?_ (hr:=hpars.le hleI2) (he:=fun _=>rfl) (hz:=by exact hgp);intro bz oz hpz|refine A0r (d:=75) (hc:=by exact hF _) (k:=?_);rintro _ _ ⟨rfl,rfl⟩|refine J6 ?_ hm|refine J9 ?_ hm|refine D8 ?_|refine D6 ?_|refine O0 ?_|refine J8 ?_|refine A11 ?_|refine G6 ?_|refine A0h ?_|refine F5 ?_|refine O9 ?_|refine D5 ?_|(refine O3 (h1:=fun _=>?_) (h0:=fun _=>?_)<;>try first|contradiction|omega)|refine E5 ?_|refine A7 ?_|refine D7 ?_|refine E8 ?_|refine A8 ?_|refine F6 ?_|refine G7 ?_|refine F7 ?_|(refine C9 (ht:=fun _=>?_) (hf:=fun _=>?_)<;>try first|contradiction|omega))
     rw[if_pos rfl]at hst;exact L6 (⟨k+1,I2,sa2,sp2,da2,dp2⟩:FX) (by exact⟨rfl,rfl,rfl,rfl,rfl,rfl,trivial⟩) ⟨by dsimp only;rw[hst];exact hm,hle1.trans hleI2,by dsimp only;omega⟩ (by dsimp only;omega)
    |false=>
     rw[hfl2]at hF hst;rw[if_neg Bool.false_ne_true]at hst;have hT:=fun (J:P8) (sa:Option Addr) (sp:Nat) (da:Option Addr) (dp:Nat)=>C4T (I:=J) (bc:=bc) (bf:=bf) (pi:=pi) (sc:=sc) (sa:=sa) (sp:=sp) (s:=r.2) (da:=da) (dp:=dp) (vf:=.slice fa its.length fp) (at_:=at_) q.name y.fr y.to (by omega)
     repeat' (first|refine O7 (d:=35) ?_ (hr:=hrow);intro bt ot hpt;rw[show ((k:Int).toNat *6)=k *6 from rfl,hc2]at hpt|refine F8 (d:=37) ?_ hm (hc:=hcl I1 hle1 hC1 _ _ _ hpt);clear hm;rintro _ I2 _ _ ⟨rfl,sa2,sp2,da2,dp2,rfl⟩ hle hm;have hleI2:=hle;try simp only[G5]at hm;have hCf2:=hCf1.le hleI2;have hp2:=hp1.le hleI2|refine A0r (d:=39) (hc:=by exact A9I _ _ hl1 hun _) (k:=?_);rintro _ _ ⟨rfl,rfl⟩|refine O7 (d:=52) ?_ (hr:=hri1.le hleI2);intro bu ou hpu;rw[show ((j:Int).toNat *10)=j *10 from rfl,hci]at hpu|refine O7 (d:=68) ?_ (hr:=hri1.le hleI2);intro bv ov hpv;rw[show ((j:Int).toNat *10)=j *10 from rfl,hci]at hpv|refine Q4 (d:=72) (enc:=A2L) (z:=q) ?_ (hr:=hpars.le hleI2) (he:=fun _=>rfl) (hz:=by exact hgp);intro bz oz hpz|refine A0r (d:=75) (hc:=by exact hF _) (k:=?_);rintro _ _ ⟨rfl,rfl⟩|refine A0b (id:=7) 32 (h:=?_)|refine B0F (d:=84) ?_ (hr:=hrow.le hleI2);intro bt3 ot3 hpt3;rw[show ((k:Int).toNat *6)=k *6 from rfl,hc2]at hpt3|refine B0F (d:=92) ?_ (hr:=hrow.le hleI2);intro bt4 ot4 hpt4;rw[show ((k:Int).toNat *6)=k *6 from rfl,hc2]at hpt4|refine B0F (d:=103) ?_ (hr:=hri1.le hleI2);intro bv3 ov3 hpv3;rw[show ((j:Int).toNat *10)=j *10 from rfl,hci]at hpv3|refine A0i (d:=107) (enc:=A2L) (z:=q) ?_ (hr:=hpars.le hleI2) (he:=fun _=>rfl) (hz:=by exact hgp);intro bz3 oz3 hpz3|refine F8 (d:=110) ?_ hm (hc:=hT I2 sa2 sp2 da2 dp2);clear hm;rintro _ I3 _ _ ⟨rfl,sa3,sp3,da3,dp3,rfl⟩ hle hm;have hleI3:=hle;try simp only[G5]at hm|refine J6 ?_ hm|refine J9 ?_ hm|refine V3 ?_ hm|refine A0f ?_ hm|refine D8 ?_|refine D6 ?_|refine O0 ?_|refine J8 ?_|refine A11 ?_|refine G6 ?_|refine A0h ?_|refine F5 ?_|refine O9 ?_|refine D5 ?_|(refine O3 (h1:=fun _=>?_) (h0:=fun _=>?_)<;>try first|contradiction|omega)|refine E5 ?_|refine A7 ?_|refine D7 ?_|refine E8 ?_|refine A8 ?_|refine F6 ?_|refine G7 ?_|refine V6 ?_;intro _ hkq;replace hm:=hm.kept0 hkq;clear hkq|refine H5 ?_|(refine C9 (ht:=fun _=>?_) (hf:=fun _=>?_)<;>try first|contradiction|omega)|refine Y4 ?_|refine Q9 ?_|refine L8 ?_)
     exact L6 (⟨k+1,I3,sa3,sp3,da3,dp3⟩:FX) (by exact⟨rfl,rfl,rfl,rfl,rfl,rfl,trivial⟩) ⟨by dsimp only;rw[hst];exact hm,(hle1.trans hleI2).trans hleI3,by dsimp only;omega⟩ (by dsimp only;omega)
   ·rw[A1n (by omega)]at hst
    dsimp only at hst;repeat' (first|refine O7 (d:=35) ?_ (hr:=hrow);intro bt ot hpt;rw[show ((k:Int).toNat *6)=k *6 from rfl,hc2]at hpt|refine F8 (d:=37) ?_ hm (hc:=hcl I1 hle1 hC1 _ _ _ hpt);clear hm;rintro _ I2 _ _ ⟨rfl,sa2,sp2,da2,dp2,rfl⟩ hle hm;have hleI2:=hle;try simp only[G5]at hm;have hCf2:=hCf1.le hleI2;have hp2:=hp1.le hleI2|refine A0r (d:=39) (hc:=by exact A9I _ _ hl1 hun _) (k:=?_);rintro _ _ ⟨rfl,rfl⟩|refine O7 (d:=52) ?_ (hr:=hri1.le hleI2);intro bu ou hpu;rw[show ((j:Int).toNat *10)=j *10 from rfl,hci]at hpu|refine J6 ?_ hm|refine J9 ?_ hm|refine D8 ?_|refine D6 ?_|refine O0 ?_|refine N7 ?_|refine J8 ?_|refine A11 ?_|refine G6 ?_|refine F5 ?_|refine O9 ?_|refine D5 ?_|refine A0z ?_|(refine O3 (h1:=fun _=>?_) (h0:=fun _=>?_)<;>try first|contradiction|omega)|refine E5 ?_|refine A7 ?_|refine D7 ?_|refine E8 ?_|refine A8 ?_|refine F6 ?_|refine G7 ?_|refine F7 ?_|(refine C9 (ht:=fun _=>?_) (hf:=fun _=>?_)<;>try first|contradiction|omega))
    exact L6 (⟨k+1,I2,sa2,sp2,da2,dp2⟩:FX) (by exact⟨rfl,rfl,rfl,rfl,rfl,rfl,trivial⟩) ⟨by dsimp only;rw[hst];exact hm,hle1.trans hleI2,by dsimp only;omega⟩ (by dsimp only;omega)
 ·obtain rfl:k=e.args.length:=by omega
  have hnn:=B6p its at_ sc un e.name e.args 0 s;rw[V7]at hm;generalize A2Z its at_ sc un e.name e.args 0 s=s1 at hm hnn |-;cases hf:A0M its 2 e.name with
  |none=>
   rw[A8R hf]at hfv;subst hfv;rw[A3c,A21,hf];repeat' (first|refine D8 ?_|refine D6 ?_|refine J8 ?_|refine E5 ?_|refine A7 ?_|refine H8 ?_|refine H6 ?_|refine G9 ?_|refine E8 ?_|refine A8 ?_|refine O8 ?_|refine J3 ?_|refine J7 ?_|refine H5 ?_|(refine C9 (ht:=fun _=>?_) (hf:=fun _=>?_)<;>try first|contradiction|omega))
   exact⟨I1,_,⟨rfl,_,_,_,_,rfl⟩,hm⟩
  |some j=>
   rw[A8S hf]at hfv;subst hfv;rw[A3c,A21,hf];dsimp only
   obtain⟨hj,_,_,_,hmemj⟩:=A3O hf;obtain⟨ci,hci,hat,hlc⟩:=hC1.fe.get (A5j hj);obtain⟨pa,pc,sa9,sc9,ba,bc9,da9,dc9,xb,rfl,_⟩:=hat
   have hfg:(A7b its)[j]?=some (A43 its (X7 its j).sends):=by rw[A7b,Y6,A5j hj];rfl
   have hml:=C3e its (X7 its j).sends;have hfl1:=hfl.le hle1;have hF:=fun w=>B34 un (A43 its (X7 its j).sends) hun hml w
   rw[Sp.FW.ask];cases hb:A1i un (A43 its (X7 its j).sends) with
   |true=>
    rw[hb]at hF;rw[if_pos rfl];repeat' (first|refine Q4 (d:=120) (enc:=A2K) (z:=A43 its (X7 its j).sends) ?_ (hr:=hfl1) (he:=fun _=>rfl) (hz:=by exact hfg);intro bz oz hpz|refine A0r (d:=122) (hc:=by exact hF _) (k:=?_);rintro _ _ ⟨rfl,rfl⟩|refine O7 (d:=146) ?_ (hr:=hri1);intro bu ou hpu;rw[show ((j:Int).toNat *10)=j *10 from rfl,hci]at hpu|refine J6 ?_ hm|refine J9 ?_ hm|refine A0O ?_ hm|refine D8 ?_|refine D6 ?_|refine J8 ?_|refine A0h ?_|refine F5 ?_|refine D5 ?_|refine E5 ?_|refine A7 ?_|refine H6 ?_|refine G9 ?_|refine E8 ?_|refine A8 ?_|refine G7 ?_|refine O8 ?_|refine J3 ?_|refine J7 ?_|refine F7 ?_|(refine C9 (ht:=fun _=>?_) (hf:=fun _=>?_)<;>try first|contradiction|omega))
    exact⟨I1,_,⟨rfl,_,_,_,_,rfl⟩,hm⟩
   |false=>
    rw[hb]at hF;rw[if_neg Bool.false_ne_true];have hT:=fun (J:P8)=>C4T (I:=J) (bc:=bc) (bf:=bf) (pi:=pi) (sc:=sc) (sa:=sa1) (sp:=sp1) (s:=s1) (da:=da1) (dp:=dp1) (vf:=.slice fa its.length fp) (at_:=at_) e.name e.fr e.to (by omega)
    repeat' (first|refine Q4 (d:=120) (enc:=A2K) (z:=A43 its (X7 its j).sends) ?_ (hr:=hfl1) (he:=fun _=>rfl) (hz:=by exact hfg);intro bz oz hpz|refine A0r (d:=122) (hc:=by exact hF _) (k:=?_);rintro _ _ ⟨rfl,rfl⟩|refine A0b (id:=12) 13 (h:=?_)|refine F8 (d:=137) ?_ hm (hc:=hT I1);clear hm;rintro _ I3 _ _ ⟨rfl,sa3,sp3,da3,dp3,rfl⟩ hle hm;have hleI3:=hle;try simp only[G5]at hm;have hCf3:=hCf1.le hleI3|refine O7 (d:=146) ?_ (hr:=hri1.le hleI3);intro bu ou hpu;rw[show ((j:Int).toNat *10)=j *10 from rfl,hci]at hpu|refine J6 ?_ hm|refine J9 ?_ hm|refine A0O ?_ hm|refine A0f ?_ hm|refine D8 ?_|refine D6 ?_|refine J8 ?_|refine A0h ?_|refine F5 ?_|refine D5 ?_|refine E5 ?_|refine A7 ?_|refine H6 ?_|refine G9 ?_|refine E8 ?_|refine A8 ?_|refine G7 ?_|refine O8 ?_|refine J3 ?_|refine J7 ?_|refine V6 ?_;intro _ hkq;replace hm:=hm.kept0 hkq;clear hkq|refine H5 ?_|refine F7 ?_|(refine C9 (ht:=fun _=>?_) (hf:=fun _=>?_)<;>try first|contradiction|omega)|refine Y4 ?_|refine Q9 ?_|refine L8 ?_)
    exact⟨I3,_,⟨rfl,_,_,_,_,rfl⟩,hm⟩
end
section
variable {its:List Sp.Itm}{it:Sp.Itm}{bc bf:Nat}{a:Option Addr}{cp:Nat}{xs:List Value}{pi vf:Value}{sc:List Sp.Lc}{at_:Int}{un:Nat}
theorem D6o (hun:un<256) (hsc:sc.length<=1099511627776) (hsl:A6Y sc):∀(n:Nat) (e:Sp.Ex),SizeOf.sizeOf e<=n->e.small->C9Q its it bc bf a cp xs pi vf sc at_ un e:=by
 intro n;induction n with
 |zero=>intro e h;cases e;simp at h
 |succ n ih=>
 intro e hsz hsm I b o tc ea ec ys s sa sp da dp hn hC hp hr hx;obtain⟨hal,hasm⟩:=A4u hsm;have hcnt:=Sp.Ex.cnt_eq e;refine CalM.of fun w E hm=>enter (N:=86) func177 rfl [(0,ptr bc),(1,.pointer (some ⟨b,o,none⟩)),(2,nt un)] A4x rfl ?_
 have hcore:=D0k its at_ sc un e s;rw[C4M];have hlt:=B43 hC.lab at_ hsl un e s;rw[C4M]at hlt;dsimp only at hlt |-;have hcr:B5K its at_ sc un e s=if e.kind=2 then (A65 sc e.name,s) else if e.kind=3 then A3J its at_ sc un e.args 0 s else
  if e.kind=4 then (A21 its e.name,A3c its un e.name e.fr e.to (A2Z its at_ sc un e.name e.args 0 s)) else (0,s):=rfl
 generalize B5K its at_ sc un e s=r at hcr hcore hlt |-;repeat' (first|refine B6b 2 (fun _:FX=> [(0,ptr bc),(1,.pointer (some ⟨b,o,none⟩)),(2,nt un),(7,nt r.1)]) (fun x w'=>Mem E x.I (FSt bc bf pi sc x.sa x.sp r.2 x.da x.dp vf at_) w'/\Le I x.I) ?_ ?_|refine D6 ?_|refine E5 ?_|refine A7 ?_|refine E8 ?_|refine A8 ?_)
 ·refine⟨?_⟩
  by_cases k2:e.kind=2
  ·rw[if_pos k2]at hcr
   subst hcr;have hg:=CalR.flow (I:=I) (bc:=bc) (bf:=bf) (pi:=pi) (sc:=sc) (sa:=sa) (sp:=sp) (s:=s) (da:=da) (dp:=dp) (vf:=vf) (at_:=at_) (fun J m h=>C4S e.name hsc h);repeat' (first|refine U8 (d:=20) ?_ hm (hs:=C6l) (hc:=by exact hg);clear hm;intro _ hm|refine J9 ?_ hm|refine D8 ?_|refine D6 ?_|refine O6 ?_|refine F5 ?_|refine D5 ?_|refine E5 ?_|refine A7 ?_|refine D7 ?_|refine E8 ?_|refine A8 ?_|refine F6 ?_|(refine C9 (ht:=fun _=>?_) (hf:=fun _=>?_)<;>try first|contradiction|omega))
   exact A0V (⟨0,I,sa,sp,da,dp⟩:FX) (by exact⟨rfl,rfl,rfl,rfl,trivial⟩) ⟨hm,Le.refl _⟩
  rw[if_neg k2]at hcr;by_cases k3:e.kind=3
  ·rw[if_pos k3]at hcr
   repeat' (first|refine J9 ?_ hm|refine D8 ?_|refine D6 ?_|refine O6 ?_|refine G6 ?_|refine F5 ?_|refine D5 ?_|refine E5 ?_|refine A7 ?_|refine E8 ?_|refine A8 ?_|refine F6 ?_|(refine C9 (ht:=fun _=>?_) (hf:=fun _=>?_)<;>try first|contradiction|omega))
   refine U3 (fun x:FX=> [(0,ptr bc),(1,.pointer (some ⟨b,o,none⟩)),(2,nt un),(7,nt (A3J its at_ sc un (e.args.take x.k) 0 s).1),(27,nt e.args.length),(28,nt x.k)])
    (fun x w'=>Mem E x.I (FSt bc bf pi sc x.sa x.sp (A3J its at_ sc un (e.args.take x.k) 0 s).2 x.da x.dp vf at_) w'/\Le I x.I/\x.k<=e.args.length) (fun x=>e.args.length-x.k) ⟨0,I,sa,sp,da,dp⟩
    (by exact⟨rfl,rfl,rfl,by rw[Z9,A3J];rfl,rfl,rfl,trivial⟩) ⟨by dsimp only;rw[Z9,A3J];exact hm,Le.refl _,H9 _⟩ ?_
   clear hm;rintro⟨k,I1,sa1,sp1,da1,dp1⟩ w1 ⟨hm,hle1,hk⟩;dsimp only at hm hle1 hk |-;have hC1:=hC.le hle1;have hp1:=hp.le hle1;have hrow:=hr.le hle1;by_cases hlt:k<e.args.length
   ·have hg:e.args[k]?=some e.args[k]:=F9 hlt
    have hsz2:=A3o (O1 hlt);have hsm2:=A2m hasm hg;obtain⟨ea2,ec2,ys2,hc2,hr2,hx2⟩:=(hx.get hg).out;generalize e.args[k]=y at hg hsz2 hsm2 hc2 hr2 hx2;have hst:=C9c its at_ sc un hg 0 s;have hcy:=A8O hg;have hnn:=C5K its at_ sc un (e.args.take k) 0 s;have hl1:=C03 hC.lab at_ hsl un (e.args.take k) 0 s (by omega);generalize A3J its at_ sc un (e.args.take k) 0 s=q at hm hst hnn hl1 |-;have hcl:=ih y (by omega) hsm2;have hl2:=B43 hC.lab at_ hsl un y q.2;have hcl2:=fun b o tc (hpt:PtrI I1 b o tc (A0E y ea2 ec2))=>hcl I1 b o tc ea2 ec2 ys2 q.2 sa1 sp1 da1 dp1 (by omega) hC1 hpt (hr2.le hle1) (Z7.le hle1 _ _ hx2)
    generalize Sp.exF its at_ sc un y q.2=p at hcl2 hst hl2;repeat' (first|refine O7 (d:=38) ?_ (hr:=hrow);intro bt ot hpt;rw[show ((k:Int).toNat *6)=k *6 from rfl,hc2]at hpt|refine F8 (d:=40) ?_ hm (hc:=hcl2 _ _ _ hpt);clear hm;rintro _ I2 _ _ ⟨rfl,sa2,sp2,da2,dp2,rfl⟩ hle hm;have hleI2:=hle;try simp only[G5]at hm|refine A0r (d:=41) (hc:=by exact A9I _ _ hl1 hl2 _) (k:=?_);rintro _ _ ⟨rfl,rfl⟩|refine J9 ?_ hm|refine D8 ?_|refine D6 ?_|refine J8 ?_|refine F5 ?_|refine O9 ?_|refine D5 ?_|refine E5 ?_|refine A7 ?_|refine D7 ?_|refine E8 ?_|refine A8 ?_|refine F6 ?_|refine G7 ?_|(refine C9 (ht:=fun _=>?_) (hf:=fun _=>?_)<;>try first|contradiction|omega))
    exact L6 (⟨k+1,I2,sa2,sp2,da2,dp2⟩:FX) (by exact⟨rfl,rfl,rfl,by rw[hst];rfl,rfl,rfl,trivial⟩) ⟨by dsimp only;rw[hst];exact hm,hle1.trans hleI2,by dsimp only;omega⟩ (by dsimp only;omega)
   ·obtain rfl:k=e.args.length:=by omega
    rw[V7, <-hcr]at hm;rw[V7, <-hcr];repeat' (first|refine J8 ?_|refine E5 ?_|refine A7 ?_|refine H6 ?_|refine D7 ?_|refine G9 ?_|refine E8 ?_|refine A8 ?_|refine O8 ?_|(refine C9 (ht:=fun _=>?_) (hf:=fun _=>?_)<;>try first|contradiction|omega))
    exact A0V (⟨0,I1,sa1,sp1,da1,dp1⟩:FX) (by exact⟨rfl,rfl,rfl,rfl,trivial⟩) ⟨hm,hle1⟩
  rw[if_neg k3]at hcr;by_cases k4:e.kind=4
  ·rw[if_pos k4]at hcr
   subst hcr;have hc:=D6n (at_:=at_) hun hsc hsl e hsm (fun y hy=>ih y (by have:=A3o hy;omega) (by obtain⟨j,hj,rfl⟩:=A2r hy;exact A2m hasm (F9 hj))) I b o tc ea ec ys s sa sp da dp hn hC hp hr hx;repeat' (first|refine F8 (d:=48) ?_ hm (hc:=hc);clear hm;rintro _ I2 _ _ ⟨rfl,sa2,sp2,da2,dp2,rfl⟩ hle hm;have hleI2:=hle;try simp only[G5]at hm|refine J9 ?_ hm|refine D8 ?_|refine D6 ?_|refine O6 ?_|refine F5 ?_|refine D5 ?_|refine E5 ?_|refine A7 ?_|refine D7 ?_|refine E8 ?_|refine A8 ?_|refine F6 ?_|(refine C9 (ht:=fun _=>?_) (hf:=fun _=>?_)<;>try first|contradiction|omega))
   exact A0V (⟨0,I2,sa2,sp2,da2,dp2⟩:FX) (by exact⟨rfl,rfl,rfl,rfl,trivial⟩) ⟨hm,hleI2⟩
  ·rw[if_neg k4]at hcr
   subst hcr;repeat' (first|refine J9 ?_ hm|refine D8 ?_|refine D6 ?_|refine O6 ?_|refine F5 ?_|refine D5 ?_|refine E5 ?_|refine A7 ?_|refine D7 ?_|refine E8 ?_|refine A8 ?_|refine F6 ?_|refine G7 ?_|(refine C9 (ht:=fun _=>?_) (hf:=fun _=>?_)<;>try first|contradiction|omega))
   exact A0V (⟨0,I,sa,sp,da,dp⟩:FX) (by exact⟨rfl,rfl,rfl,rfl,trivial⟩) ⟨hm,Le.refl _⟩
 ·clear hm
  rintro⟨_,I1,sa1,sp1,da1,dp1⟩ w1 ⟨hm,hle1⟩;dsimp only at hm hle1 |-;have hp1:=hp.le hle1;clear hcr hp hr hx;cases hv:r.2.hv with
  |some m=>
   rw[D00 hv];have e1:r.2=⟨r.2.ds,some m⟩:=by rw[<-hv]
   rw[e1]at hm |-;repeat' (first|refine V3 ?_ hm|refine D8 ?_|refine D6 ?_|refine E5 ?_|refine A7 ?_|refine E8 ?_|refine A8 ?_|refine G7 ?_|refine J3 ?_|refine J7 ?_|refine U6 ?_|refine A0s ?_;intro _ hkq;replace hm:=hm.kept0 hkq;clear hkq|refine F7 ?_|refine Y4 ?_|refine A0A ?_|refine A83 ?_|refine Q9 ?_|refine L8 ?_|refine A2z ?_)
   exact⟨I1,_,⟨rfl,_,_,_,_,rfl⟩,hm⟩
  |none=>
   have e1:r.2=⟨r.2.ds,none⟩:=by rw[<-hv]
   by_cases hh:(e.fr:Int)<=at_/\at_<e.to
   ·rw[D3V hv hh.1 hh.2]
    rw[e1]at hm;repeat' (first|refine A0r (d:=80) (hc:=by exact A9I _ _ hlt hun _) (k:=?_);rintro _ _ ⟨rfl,rfl⟩|refine V3 ?_ hm|refine A0f ?_ hm|refine P5 hm (k:=?_);clear hm;intro _ hm;try simp only[G5]at hm|refine D8 ?_|refine D6 ?_|refine F5 ?_|refine D5 ?_|refine E5 ?_|refine A7 ?_|refine E8 ?_|refine A8 ?_|refine J3 ?_|refine J7 ?_|refine U6 ?_|refine A0s ?_;intro _ hkq;replace hm:=hm.kept0 hkq;clear hkq|(refine C9 (ht:=fun _=>?_) (hf:=fun _=>?_)<;>try first|contradiction|omega)|refine Y4 ?_|refine A0d ?_|refine A18 ?_|refine D5P ?_|refine A83 ?_|refine Q9 ?_|refine L8 ?_|(refine X3 (fun _=>?_) (h1:=fun _=>?_)<;>try first|contradiction|omega))
    exact⟨I1,_,⟨rfl,_,_,_,_,rfl⟩,hm⟩
   ·rw[D3U hh]
    rw[e1]at hm |-;repeat' (first|refine V3 ?_ hm|refine A0f ?_ hm|refine D8 ?_|refine D6 ?_|refine E5 ?_|refine A7 ?_|refine E8 ?_|refine A8 ?_|refine G7 ?_|refine J3 ?_|refine J7 ?_|refine U6 ?_|refine A0s ?_;intro _ hkq;replace hm:=hm.kept0 hkq;clear hkq|refine F7 ?_|(refine C9 (ht:=fun _=>?_) (hf:=fun _=>?_)<;>try first|contradiction|omega)|refine Y4 ?_|refine A0d ?_|refine A0A ?_|refine A18 ?_|refine D5P ?_|refine A83 ?_|refine Q9 ?_|refine L8 ?_|refine A2z ?_|(refine X3 (fun _=>?_) (h1:=fun _=>?_)<;>try first|contradiction|omega))
    all_goals exact⟨I1,_,⟨rfl,_,_,_,_,rfl⟩,hm⟩
end
section
variable (its:List Sp.Itm) (it:Sp.Itm) (bc bf:Nat) (a:Option Addr) (cp:Nat) (xs:List Value) (pi vf:Value) (at_:Int)
def D5B (x:Sp.Stm):Prop:=
 ∀(I:P8) (b o tc:Nat) (cs:List Value) (un:Nat) (sc:List Sp.Lc) (s:Sp.FW) (sa:Option Addr) (sp:Nat) (da:Option Addr) (dp:Nat),un<256->A6Y sc->sc.length+x.cnt<=1000000000->s.ds.length+2 *x.cnt<=1000000000->FC I its it bf a cp xs pi vf->
  PtrI I b o tc cs->A6n I x cs->
  CalM prog 141 #[ptr bc,.pointer (some ⟨b,o,none⟩),nt un] I (FSt bc bf pi sc sa sp s da dp vf at_) (ToF bc bf pi vf at_ (A6l its it.label at_ x sc un s).1 (A6l its it.label at_ x sc un s).2 (.tuple #[]))
def C6C (l:List Sp.Stm):Prop:=
 ∀(I:P8) (ab:Option Addr) (cb:Nat) (xb:List Value) (un:Nat) (sc:List Sp.Lc) (s:Sp.FW) (sa:Option Addr) (sp:Nat) (da:Option Addr) (dp:Nat),un<256->A6Y sc->sc.length+U1 l<=1000000000->s.ds.length+2 *U1 l<=1000000000->FC I its it bf a cp xs pi vf->
  RowI I 111 15 (.slice ab l.length cb) l.length xb->V4 I l xb->
  CalM prog 114 #[ptr bc,.slice ab l.length cb,nt un] I (FSt bc bf pi sc sa sp s da dp vf at_) (ToF bc bf pi vf at_ sc (A1C its it.label at_ l sc un s).2 (.tuple #[]))
end
section
variable {its:List Sp.Itm}{it:Sp.Itm}{bc bf:Nat}{a:Option Addr}{cp:Nat}{xs:List Value}{pi vf:Value}{at_:Int}
theorem D3N (l:List Sp.Stm) (hl:l.length<=64) (hlab:A0e B1L B24 l) (hS:∀y∈l,D5B its it bc bf a cp xs pi vf at_ y):C6C its it bc bf a cp xs pi vf at_ l:=by
 intro I ab cb xb un sc s sa sp da dp hun hsl hn1 hn2 hC hr hx;refine CalM.of fun w E hm=>enter (N:=34) func114 rfl [(0,ptr bc),(1,.slice ab l.length cb),(2,nt un)] A4x rfl ?_
 repeat' (first|refine J6 ?_ hm|refine D8 ?_|refine D6 ?_|refine G6 ?_|refine F5 ?_|refine D5 ?_|refine E5 ?_|refine A7 ?_|refine E8 ?_|refine A8 ?_|refine F6 ?_)
 refine U3 (fun x:FX=> [(0,ptr bc),(1,.slice ab l.length cb),(2,nt un),(6,nt sc.length),(14,nt l.length),(15,nt x.k)])
  (fun x w'=>Mem E x.I (FSt bc bf pi (A1C its it.label at_ (l.take x.k) sc un s).1 x.sa x.sp (A1C its it.label at_ (l.take x.k) sc un s).2 x.da x.dp vf at_) w'/\Le I x.I/\x.k<=l.length) (fun x=>l.length-x.k) ⟨0,I,sa,sp,da,dp⟩
  (by exact⟨rfl,rfl,rfl,rfl,rfl,rfl,trivial⟩) ⟨by dsimp only;rw[Z9,A1C];exact hm,Le.refl _,H9 _⟩ ?_
 clear hm;rintro⟨k,I1,sa1,sp1,da1,dp1⟩ w1 ⟨hm,hle1,hk⟩;dsimp only at hm hle1 hk |-;have hC1:=hC.le hle1;have hrow:=hr.le hle1;by_cases hlt:k<l.length
 ·have hg:l[k]?=some l[k]:=F9 hlt
  have hmem:=O1 hlt;obtain⟨cs,hcs⟩:∃cs,cs=(xb.drop (k *15)).take 15:=⟨_,rfl⟩;have hat:=hx.get hg;rw[<-hcs]at hat
  have hSk:=hS _ hmem;generalize l[k]=y at hg hmem hat hSk;have hst:=C6c its it.label at_ hg sc un s;have hcy:=A6z hg;have hnn:=B1e its it.label at_ (l.take k) sc un s;have hsl1:=B93 hC.lab it.label at_ (l.take k) hsl hun (B1d k hlab) s;have htl:(l.take k).length=k:=by rw[P9];omega
  generalize A1C its it.label at_ (l.take k) sc un s=q at hm hst hnn hsl1;have hkc:k<=U1 (l.take k):=by
   have key:∀(l:List Sp.Stm),l.length<=U1 l:=by
    intro l;induction l with
    |nil=>simp
    |cons x l ih=>rw[U1,E9];have:=Sp.Stm.cnt_eq x;omega
   have:=key (l.take k);omega
  have hcl:=fun b o (hpt:PtrI I1 b o 111 cs)=>hSk I1 b o 111 cs un q.1 q.2 sa1 sp1 da1 dp1 hun hsl1 (by omega) (by omega) hC1 hpt (A6n.le hle1 _ _ hat)
  generalize A6l its it.label at_ y q.1 un q.2=p at hcl hst;repeat' (first|refine O7 (d:=21) ?_ (hr:=hrow);intro bt ot hpt;rw[show ((k:Int).toNat *15)=k *15 from rfl, <-hcs]at hpt|refine F8 (d:=23) ?_ hm (hc:=hcl _ _ hpt);clear hm;rintro _ I2 _ _ ⟨rfl,sa2,sp2,da2,dp2,rfl⟩ hle hm;have hleI2:=hle;try simp only[G5]at hm|refine D8 ?_|refine D6 ?_|refine J8 ?_|refine O9 ?_|refine E5 ?_|refine A7 ?_|refine D7 ?_|refine E8 ?_|refine A8 ?_|refine F6 ?_|refine G7 ?_|(refine C9 (ht:=fun _=>?_) (hf:=fun _=>?_)<;>try first|contradiction|omega))
  exact L6 (⟨k+1,I2,sa2,sp2,da2,dp2⟩:FX) (by exact⟨rfl,rfl,rfl,rfl,rfl,rfl,trivial⟩) ⟨by dsimp only;rw[hst];exact hm,hle1.trans hleI2,by dsimp only;omega⟩ (by dsimp only;omega)
 ·obtain rfl:k=l.length:=by omega
  have hback:=C6b its it.label at_ l sc un s;have hpl:=(B1e its it.label at_ l sc un s).2.2.1;rw[V7]at hm;generalize A1C its it.label at_ l sc un s=q at hm hback hpl |-;repeat' (first|refine B2E (d:=31) ?_ hm (hmn:=hpl);clear hm;intro hm;try simp only[G5]at hm|refine J6 ?_ hm|refine P5 hm (k:=?_);clear hm;intro _ hm;try simp only[G5]at hm|refine D8 ?_|refine J8 ?_|refine F5 ?_|refine D5 ?_|refine E5 ?_|refine A7 ?_|refine H6 ?_|refine G9 ?_|refine E8 ?_|refine A8 ?_|refine O8 ?_|refine A0p ?_|(refine C9 (ht:=fun _=>?_) (hf:=fun _=>?_)<;>try first|contradiction|omega))
  refine⟨I1,_,⟨rfl,sa1,sp1,da1,dp1,?_⟩,hm⟩
  have e:(q.1.flatMap B1w).take (sc.length *2)=sc.flatMap B1w:=by
   have key:∀(l:List Sp.Lc) (n:Nat),(l.flatMap B1w).take (n *2)=(l.take n).flatMap B1w:=by
    intro l;induction l with
    |nil=>intro n;simp
    |cons x l ih=>
     intro n;cases n with
     |zero=>simp
     |succ n=>
      rw[A0c,A09,A0c,show (n+1) *2=2+n *2 by omega,A8X,A0W (by show 2<=2+n *2;omega),show 2+n *2-(B1w x).length=n *2 by (show 2+n *2-2=n *2;omega),ih]
   rw[key,hback]
  rw[e]
end
theorem B6L (bc bf:Nat) (pi:Value) (sc:List Sp.Lc) (sa:Option Addr) (sp:Nat) (s:Sp.FW) (n:List UInt8) (x:Nat) (da:Option Addr) (dp:Nat) (vf:Value) (at_:Int):
  [.obj bc (.cells [ptr bf,pi,.slice sa (sc.length+1) sp,.slice da s.ds.length dp,vf,.int .i64 at_,.bool s.hv.isSome,nt (s.hv.getD 0)].toArray 168 (0,0)),.row (.slice sa (sc.length+1) sp) 213 2 (sc.length+1) (sc.flatMap B1w++B1w ⟨n,x⟩),A6b s.ds da dp]=FSt bc bf pi (sc++ [⟨n,x⟩]) sa sp s da dp vf at_:=by
 simp
section
variable {its:List Sp.Itm}{it:Sp.Itm}{bc bf:Nat}{a:Option Addr}{cp:Nat}{xs:List Value}{pi vf:Value}{at_:Int}
theorem D6p (x:Sp.Stm) (hsm:x.small) (hlb:x.label<256) (hT:C6C its it bc bf a cp xs pi vf at_ x.thn) (hL:C6C its it bc bf a cp xs pi vf at_ x.els):D5B its it bc bf a cp xs pi vf at_ x:=by
 intro I b o tc cs un sc s sa sp da dp hun hsl hn1 hn2 hC hp hx;obtain⟨s1,s2,s3,s4,s5⟩:=A15 hsm;have hcnt:=Sp.Stm.cnt_eq x;refine CalM.of fun w E hm=>enter (N:=136) func141 rfl [(0,ptr bc),(1,.pointer (some ⟨b,o,none⟩)),(2,nt un)] A4x rfl ?_
 obtain⟨ea,ec,ex,a1,c1,xs1,a2,c2,xs2,rfl,hr3,hx3,hr4,hx4,hr5,hx5⟩:=hx.out;have hpe:=hp.sub (cs':=A0E x.e ea ec) 5 (fun j u hj=>by
  match j,hj with
  |0,hj=>exact hj
  |1,hj=>exact hj
  |2,hj=>exact hj
  |3,hj=>exact hj
  |4,hj=>exact hj
  |5,hj=>exact hj
  |j+6,hj=>cases hj)
 rw[D41];have hu1:=D26 hC.lab hsl x.kind hun x.e;have hur:Sp.unF its sc x.kind un x.e=if x.kind=4 then A1e its sc x.e|||un else un:=rfl
 generalize Sp.unF its sc x.kind un x.e=un1 at hu1 hur |-;repeat' (first|refine B6b 0 (fun _:FX=> [(0,ptr bc),(1,.pointer (some ⟨b,o,none⟩)),(2,nt un1)]) (fun x w'=>Mem E I (FSt bc bf pi sc sa sp s da dp vf at_) w') ?_ ?_)
 ·refine⟨?_⟩
  by_cases k4:x.kind=4
  ·rw[if_pos k4]at hur
   subst hur;have hpl:=A6X hC.lab hsl x.e;have hg:=CalR.flow (I:=I) (bc:=bc) (bf:=bf) (pi:=pi) (sc:=sc) (sa:=sa) (sp:=sp) (s:=s) (da:=da) (dp:=dp) (vf:=vf) (at_:=at_) (fun J m h=>D0F (by omega) hsl _ x.e (H7 _) s1 J b (o+5) tc ea ec ex h (hC.le m) (hpe.le m) (hr3.le m) (Z7.le m _ _ hx3));repeat' (first|refine U8 (d:=18) ?_ hm (hs:=C6l) (hc:=by exact hg);clear hm;intro _ hm|refine A0r (d:=20) (hc:=by exact A9I _ _ hpl hun _) (k:=?_);rintro _ _ ⟨rfl,rfl⟩|refine J9 ?_ hm|refine D8 ?_|refine D6 ?_|refine O6 ?_|refine F5 ?_|refine D5 ?_|refine E5 ?_|refine A7 ?_|refine E8 ?_|refine A8 ?_|(refine C9 (ht:=fun _=>?_) (hf:=fun _=>?_)<;>try first|contradiction|omega))
   exact A0V (⟨0,I,sa,sp,da,dp⟩:FX) (by exact⟨rfl,rfl,rfl,trivial⟩) hm
  ·rw[if_neg k4]at hur
   subst hur;repeat' (first|refine J9 ?_ hm|refine D8 ?_|refine O6 ?_|refine F5 ?_|refine D5 ?_|refine E5 ?_|refine A7 ?_|refine E8 ?_|refine A8 ?_|refine G7 ?_|(refine C9 (ht:=fun _=>?_) (hf:=fun _=>?_)<;>try first|contradiction|omega))
   exact A0V (⟨0,I,sa,sp,da,dp⟩:FX) (by exact⟨rfl,rfl,rfl,trivial⟩) hm
 clear hm hur;rintro⟨_,_,_,_,_,_⟩ w1 hm;try dsimp only at hm |-
 have hE:=D6o (its:=its) (it:=it) (bc:=bc) (bf:=bf) (a:=a) (cp:=cp) (xs:=xs) (pi:=pi) (vf:=vf) (at_:=at_) hu1 (by omega) hsl _ x.e (H7 _) s1 I b (o+5) tc ea ec ex s sa sp da dp (by omega) hC hpe hr3 hx3;have hl1:=B43 hC.lab at_ hsl un1 x.e s;have hnx:=B9e its at_ sc un1 x.e s;generalize Sp.exF its at_ sc un1 x.e s=r at hE hl1 hnx |-;have hl2:=B3h hl1 hu1;obtain⟨av,hav⟩:∃av,av=r.1|||un1:=⟨_,rfl⟩
 rw[<-hav]at hl2 |-;have hJ:=A9I r.1 un1 hl1 hu1;rw[<-hav]at hJ;have hto:=fun (J:P8) (m:Le I J) (c:Nat) (hc:c<256) (sa:Option Addr) (sp:Nat) (da:Option Addr) (dp:Nat)=>D8B (I:=J) (bc:=bc) (bf:=bf) (pi:=pi) (sc:=sc) (sa:=sa) (sp:=sp) (s:=r.2) (da:=da) (dp:=dp) (vf:=vf) (at_:=at_) x b o tc _ (hp.le m) (A6n.le m _ _ hx) av c hl2 hc (by omega)
 rw[C0s];by_cases k1:x.kind=1
 ·rw[if_pos k1]
  cases ho:x.opn with
  |true=>
   rw[ho]at hp;simp only[if_true];have hto1:=fun (J:P8) (m:Le I J) (sa:Option Addr) (sp:Nat) (da:Option Addr) (dp:Nat)=>hto J m av hl2 sa sp da dp
   generalize hs6:Sp.FW.ask r.2 av av x.fr x.to x.name=s6 at hto1 |-;repeat' (first|refine F8 (d:=26) ?_ hm (hc:=hE);clear hm;rintro _ I2 _ _ ⟨rfl,sa2,sp2,da2,dp2,rfl⟩ hle hm;have hleI2:=hle;try simp only[G5]at hm;have hp2:=hp.le hleI2|refine A0r (d:=28) (hc:=by exact hJ _) (k:=?_);rintro _ _ ⟨rfl,rfl⟩|refine F8 (d:=48) ?_ hm (hc:=hto1 I2 hleI2 sa2 sp2 da2 dp2);clear hm;rintro _ I3 _ _ ⟨rfl,sa3,sp3,da3,dp3,rfl⟩ hle hm;have hleI3:=hle;try simp only[G5]at hm;have hp3:=hp2.le hleI3|refine A0R (id:=9) (hm.perm pm1_1) 11 13 (h:=?_);clear hm;intro wd hR hm|refine A0k ?_ hR|refine A0G ?_ hR|refine A3b (d:=61) ?_ hm;clear hm;intro a61 cp61 _ _ hm;replace hm:=hR.back hm;clear hR;try simp only[G5]at hm|refine J9 ?_ hm|refine P5 hm (k:=?_);clear hm;intro _ hm;try simp only[G5]at hm|refine D8 ?_|refine D6 ?_|refine O6 ?_|refine F5 ?_|refine D5 ?_|refine E5 ?_|refine A7 ?_|refine D7 ?_|refine E8 ?_|refine A8 ?_|refine F6 ?_|refine A0p ?_|refine H5 ?_|(refine C9 (ht:=fun _=>?_) (hf:=fun _=>?_)<;>try first|contradiction|omega)|refine A0x ?_|refine U5 ?_|refine N8 ?_|refine A4U ?_|refine A0y ?_)
   exact⟨I3,_,⟨rfl,_,_,_,_,B6L _ _ _ _ _ _ _ _ _ _ _ _ _⟩,hm.swap⟩
  |false=>
   rw[ho]at hp;simp only[A3A,if_false];have hto1:=fun (J:P8) (m:Le I J) (sa:Option Addr) (sp:Nat) (da:Option Addr) (dp:Nat)=>hto J m x.label hlb sa sp da dp
   generalize hs6:Sp.FW.ask r.2 av x.label x.fr x.to x.name=s6 at hto1 |-;repeat' (first|refine F8 (d:=26) ?_ hm (hc:=hE);clear hm;rintro _ I2 _ _ ⟨rfl,sa2,sp2,da2,dp2,rfl⟩ hle hm;have hleI2:=hle;try simp only[G5]at hm;have hp2:=hp.le hleI2|refine A0r (d:=28) (hc:=by exact hJ _) (k:=?_);rintro _ _ ⟨rfl,rfl⟩|refine F8 (d:=48) ?_ hm (hc:=hto1 I2 hleI2 sa2 sp2 da2 dp2);clear hm;rintro _ I3 _ _ ⟨rfl,sa3,sp3,da3,dp3,rfl⟩ hle hm;have hleI3:=hle;try simp only[G5]at hm;have hp3:=hp2.le hleI3|refine A0R (id:=9) (hm.perm pm1_1) 11 13 (h:=?_);clear hm;intro wd hR hm|refine A0k ?_ hR|refine A0G ?_ hR|refine A3b (d:=61) ?_ hm;clear hm;intro a61 cp61 _ _ hm;replace hm:=hR.back hm;clear hR;try simp only[G5]at hm|refine J9 ?_ hm|refine P5 hm (k:=?_);clear hm;intro _ hm;try simp only[G5]at hm|refine D8 ?_|refine D6 ?_|refine O6 ?_|refine F5 ?_|refine D5 ?_|refine E5 ?_|refine A7 ?_|refine D7 ?_|refine E8 ?_|refine A8 ?_|refine F6 ?_|refine G7 ?_|refine A0p ?_|refine F7 ?_|(refine C9 (ht:=fun _=>?_) (hf:=fun _=>?_)<;>try first|contradiction|omega)|refine A0x ?_|refine U5 ?_|refine N8 ?_|refine A4U ?_|refine A0y ?_)
   exact⟨I3,_,⟨rfl,_,_,_,_,B6L _ _ _ _ _ _ _ _ _ _ _ _ _⟩,hm.swap⟩
 rw[if_neg k1];by_cases k2:x.kind=2
 ·rw[if_pos k2]
  have hg:=fun (J:P8) (sa:Option Addr) (sp:Nat) (da:Option Addr) (dp:Nat)=>CalR.flow (I:=J) (bc:=bc) (bf:=bf) (pi:=pi) (sc:=sc) (sa:=sa) (sp:=sp) (s:=r.2) (da:=da) (dp:=dp) (vf:=vf) (at_:=at_) (fun J m h=>C4S x.name (by omega) h)
  have hgl:=C0C hsl x.name;repeat' (first|refine F8 (d:=26) ?_ hm (hc:=hE);clear hm;rintro _ I2 _ _ ⟨rfl,sa2,sp2,da2,dp2,rfl⟩ hle hm;have hleI2:=hle;try simp only[G5]at hm;have hp2:=hp.le hleI2;have hCf2:=hC.file.le hleI2|refine A0r (d:=28) (hc:=by exact hJ _) (k:=?_);rintro _ _ ⟨rfl,rfl⟩|refine U8 (d:=74) ?_ hm (hs:=C6l) (hc:=by exact hg I2 sa2 sp2 da2 dp2);clear hm;intro _ hm|refine F8 (d:=75) ?_ hm (hc:=hto I2 hleI2 _ hgl sa2 sp2 da2 dp2);clear hm;rintro _ I3 _ _ ⟨rfl,sa3,sp3,da3,dp3,rfl⟩ hle hm;have hleI3:=hle;try simp only[G5]at hm|refine J9 ?_ hm|refine D8 ?_|refine D6 ?_|refine O6 ?_|refine F5 ?_|refine D5 ?_|refine E5 ?_|refine A7 ?_|refine D7 ?_|refine E8 ?_|refine A8 ?_|refine F6 ?_|refine A0p ?_|(refine C9 (ht:=fun _=>?_) (hf:=fun _=>?_)<;>try first|contradiction|omega))
  exact⟨I3,_,⟨rfl,_,_,_,_,rfl⟩,hm⟩
 rw[if_neg k2];by_cases k5:x.kind=5
 ·rw[if_pos k5]
  have hfind:=fun (J:P8) (m:Le I J)=>(A9N 1 x.name its J a cp xs (hC.fe.le m)).read
  rw[A8I];cases hf:A0M its 1 x.name with
  |none=>
   rw[A8R hf]at hfind;repeat' (first|refine F8 (d:=26) ?_ hm (hc:=hE);clear hm;rintro _ I2 _ _ ⟨rfl,sa2,sp2,da2,dp2,rfl⟩ hle hm;have hleI2:=hle;try simp only[G5]at hm;have hp2:=hp.le hleI2;have hCf2:=hC.file.le hleI2|refine A0r (d:=28) (hc:=by exact hJ _) (k:=?_);rintro _ _ ⟨rfl,rfl⟩|refine A0P (d:=88) ?_ hm (hc:=hfind I2 hleI2)|refine J9 ?_ hm|refine V3 ?_ hm|refine A0f ?_ hm|refine A10 ?_ hm|refine D8 ?_|refine D6 ?_|refine A11 ?_|refine O6 ?_|refine F5 ?_|refine D5 ?_|refine E5 ?_|refine A7 ?_|refine D7 ?_|refine E8 ?_|refine A8 ?_|refine F6 ?_|refine G7 ?_|refine A0p ?_|refine U6 ?_|refine A0s ?_;intro _ hkq;replace hm:=hm.kept0 hkq;clear hkq|refine F7 ?_|(refine C9 (ht:=fun _=>?_) (hf:=fun _=>?_)<;>try first|contradiction|omega)|refine Y4 ?_|refine A1a ?_|refine Q9 ?_|refine L8 ?_)
   exact⟨I2,_,⟨rfl,_,_,_,_,rfl⟩,hm⟩
  |some j=>
   rw[A8S hf]at hfind;obtain⟨hj,_,_,_,hmemj⟩:=A3O hf;obtain⟨ci,hci,hat,hlc⟩:=hC.fe.get (A5j hj);obtain⟨pa,pc,sa9,sc9,ba,bc9,da9,dc9,xb,rfl,_⟩:=hat
   have hjl:=(hC.lab _ hmemj).1;have hri:=hC.fe.row;have hfew:=hC.fe.few;repeat' (first|refine F8 (d:=26) ?_ hm (hc:=hE);clear hm;rintro _ I2 _ _ ⟨rfl,sa2,sp2,da2,dp2,rfl⟩ hle hm;have hleI2:=hle;try simp only[G5]at hm;have hp2:=hp.le hleI2;have hCf2:=hC.file.le hleI2|refine A0r (d:=28) (hc:=by exact hJ _) (k:=?_);rintro _ _ ⟨rfl,rfl⟩|refine A0P (d:=88) ?_ hm (hc:=hfind I2 hleI2)|refine O7 (d:=102) ?_ (hr:=hri.le hleI2);intro bu ou hpu;rw[show ((j:Int).toNat *10)=j *10 from rfl,hci]at hpu|refine F8 (d:=105) ?_ hm (hc:=hto I2 hleI2 _ hjl sa2 sp2 da2 dp2);clear hm;rintro _ I3 _ _ ⟨rfl,sa3,sp3,da3,dp3,rfl⟩ hle hm;have hleI3:=hle;try simp only[G5]at hm|refine J6 ?_ hm|refine J9 ?_ hm|refine V3 ?_ hm|refine A0f ?_ hm|refine A10 ?_ hm|refine D8 ?_|refine D6 ?_|refine A11 ?_|refine O6 ?_|refine F5 ?_|refine D5 ?_|refine E5 ?_|refine A7 ?_|refine D7 ?_|refine E8 ?_|refine A8 ?_|refine F6 ?_|refine A0p ?_|refine U6 ?_|refine A0s ?_;intro _ hkq;replace hm:=hm.kept0 hkq;clear hkq|refine H5 ?_|(refine C9 (ht:=fun _=>?_) (hf:=fun _=>?_)<;>try first|contradiction|omega)|refine Y4 ?_|refine A1a ?_|refine Q9 ?_|refine L8 ?_)
   exact⟨I3,_,⟨rfl,_,_,_,_,rfl⟩,hm⟩
 rw[if_neg k5];by_cases k6:x.kind=6
 ·rw[if_pos k6]
  obtain⟨bi,oi,tci,ci,rfl,hpi,hati⟩:=hC.item;obtain⟨pa,pc,sa9,sc9,ba,bc9,da9,dc9,xb,rfl,_⟩:=hati;repeat' (first|refine F8 (d:=26) ?_ hm (hc:=hE);clear hm;rintro _ I2 _ _ ⟨rfl,sa2,sp2,da2,dp2,rfl⟩ hle hm;have hleI2:=hle;try simp only[G5]at hm;have hp2:=hp.le hleI2;have hpi2:=hpi.le hleI2;have hCf2:=hC.file.le hleI2|refine A0r (d:=28) (hc:=by exact hJ _) (k:=?_);rintro _ _ ⟨rfl,rfl⟩|refine F8 (d:=118) ?_ hm (hc:=hto I2 hleI2 _ hC.own sa2 sp2 da2 dp2);clear hm;rintro _ I3 _ _ ⟨rfl,sa3,sp3,da3,dp3,rfl⟩ hle hm;have hleI3:=hle;try simp only[G5]at hm|refine J6 ?_ hm|refine J9 ?_ hm|refine D8 ?_|refine D6 ?_|refine O6 ?_|refine F5 ?_|refine D5 ?_|refine E5 ?_|refine A7 ?_|refine D7 ?_|refine E8 ?_|refine A8 ?_|refine F6 ?_|refine A0p ?_|(refine C9 (ht:=fun _=>?_) (hf:=fun _=>?_)<;>try first|contradiction|omega))
  exact⟨I3,_,⟨rfl,_,_,_,_,rfl⟩,hm⟩
 rw[if_neg k6];by_cases k34:x.kind=3\/x.kind=4
 ·rw[if_pos k34]
  have hb1:=fun (J:P8) (m:Le I J) (sa:Option Addr) (sp:Nat) (da:Option Addr) (dp:Nat)=>hT J a1 c1 xs1 av sc r.2 sa sp da dp hl2 hsl (by omega) (by omega) (hC.le m) (hr4.le m) (V4.le m _ _ hx4)
  have hnn:=B1e its it.label at_ x.thn sc av r.2;generalize A1C its it.label at_ x.thn sc av r.2=r7 at hb1 hnn |-;have hb2:=fun (J:P8) (m:Le I J) (sa:Option Addr) (sp:Nat) (da:Option Addr) (dp:Nat)=>hL J a2 c2 xs2 av sc r7.2 sa sp da dp hl2 hsl (by omega) (by omega) (hC.le m) (hr5.le m) (V4.le m _ _ hx5)
  repeat' (first|refine F8 (d:=26) ?_ hm (hc:=hE);clear hm;rintro _ I2 _ _ ⟨rfl,sa2,sp2,da2,dp2,rfl⟩ hle hm;have hleI2:=hle;try simp only[G5]at hm;have hp2:=hp.le hleI2;have hCf2:=hC.file.le hleI2|refine A0r (d:=28) (hc:=by exact hJ _) (k:=?_);rintro _ _ ⟨rfl,rfl⟩|refine F8 (d:=128) ?_ hm (hc:=hb1 I2 hleI2 sa2 sp2 da2 dp2);clear hm;rintro _ I3 _ _ ⟨rfl,sa3,sp3,da3,dp3,rfl⟩ hle hm;have hleI3:=hle;try simp only[G5]at hm;have hp3:=hp2.le hleI3|refine F8 (d:=135) ?_ hm (hc:=hb2 I3 (hleI2.trans hleI3) sa3 sp3 da3 dp3);clear hm;rintro _ I4 _ _ ⟨rfl,sa4,sp4,da4,dp4,rfl⟩ hle hm;have hleI4:=hle;try simp only[G5]at hm|refine J9 ?_ hm|refine D8 ?_|refine D6 ?_|refine O6 ?_|refine F5 ?_|refine D5 ?_|refine E5 ?_|refine A7 ?_|refine D7 ?_|refine E8 ?_|refine A8 ?_|refine F6 ?_|refine G7 ?_|refine A0p ?_|(refine C9 (ht:=fun _=>?_) (hf:=fun _=>?_)<;>try first|contradiction|omega))
  all_goals exact⟨I4,_,⟨rfl,_,_,_,_,rfl⟩,hm⟩
 ·rw[if_neg k34]
  repeat' (first|refine F8 (d:=26) ?_ hm (hc:=hE);clear hm;rintro _ I2 _ _ ⟨rfl,sa2,sp2,da2,dp2,rfl⟩ hle hm;have hleI2:=hle;try simp only[G5]at hm;have hp2:=hp.le hleI2;have hCf2:=hC.file.le hleI2|refine A0r (d:=28) (hc:=by exact hJ _) (k:=?_);rintro _ _ ⟨rfl,rfl⟩|refine J9 ?_ hm|refine D8 ?_|refine D6 ?_|refine O6 ?_|refine F5 ?_|refine D5 ?_|refine E5 ?_|refine A7 ?_|refine D7 ?_|refine E8 ?_|refine A8 ?_|refine F6 ?_|refine G7 ?_|refine A0p ?_|(refine C9 (ht:=fun _=>?_) (hf:=fun _=>?_)<;>try first|contradiction|omega))
  exact⟨I2,_,⟨rfl,_,_,_,_,rfl⟩,hm⟩
end
section
variable {its:List Sp.Itm}{it:Sp.Itm}{bc bf:Nat}{a:Option Addr}{cp:Nat}{xs:List Value}{pi vf:Value}{at_:Int}
theorem D7Y:∀(n:Nat) (l:List Sp.Stm),SizeOf.sizeOf l<=n->l.length<=64->A0j l->A0e B1L B24 l->C6C its it bc bf a cp xs pi vf at_ l:=by
 intro n;induction n with
 |zero=>intro l h;cases l<;>simp at h
 |succ n ih=>
 intro l hsz hll hsm hal;refine D3N l hll hal (fun y hy=>?_)
 obtain⟨j,hj,rfl⟩:=A2r hy;have hg:=F9 hj;have h1:=A1W hsm hg;have h2:=Sp.Stm.all_node (A60 hal hg);have h3:=A3v (O1 hj);generalize l[j]=y at h1 h2 h3;obtain⟨s1,s2,s3,s4,s5⟩:=A15 h1;obtain⟨z1,z2⟩:=A5n (s:=y);exact D6p y h1 h2.1 (ih y.thn (by omega) s2 s3 h2.2.2.1) (ih y.els (by omega) s4 s5 h2.2.2.2)
theorem D0E (I:P8) (h:FE I its a cp xs) (hlab:A3Y its) (hsm:∀x∈its,x.small):
  CalM prog 113 #[.agg [.slice a its.length cp].toArray] I [] (fun v I' H'=>H'= []/\∃fa fp,v=.slice fa its.length fp/\RowI I' 3 1 (.slice fa its.length fp) its.length ((A7b its).flatMap A2K)):=by
 refine CalM.of fun w E hm=>enter (N:=45) func113 rfl [(0,.agg [.slice a its.length cp].toArray)] A0Z rfl ?_
 have hfew:=h.few;have hfl:(A7b its).length=its.length:=by simp[A7b]
 repeat' (first|refine A0T (d:=1) ?_ hm;clear hm;intro b1 _ hm|refine J6 ?_ hm|refine D8 ?_|refine D6 ?_|refine G6 ?_|refine D5 ?_|refine E5 ?_|refine A7 ?_|refine E8 ?_|refine A8 ?_|refine F6 ?_)
 refine U3 (fun x:FX=> [(1,ptr b1),(3,.slice x.sa x.k x.sp),(11,.slice a its.length cp),(12,nt its.length),(13,nt x.k)])
  (fun x w'=>Mem E x.I [.row (.slice x.sa x.k x.sp) 3 1 x.k (((A7b its).take x.k).flatMap A2K),.cell b1 [.slice a its.length cp] 25] w'/\Le I x.I/\x.k<=its.length) (fun x=>its.length-x.k) ⟨0,I,none,0,none,0⟩
  (by exact⟨rfl,rfl,rfl,rfl,rfl,trivial⟩) ⟨hm.nil 3 1,Le.refl _,H9 _⟩ ?_
 clear hm;rintro⟨k,I1,sa1,sp1,da1,dp1⟩ w1 ⟨hm,hle1,hk⟩;dsimp only at hm hle1 hk |-;by_cases hlt:k<its.length
 ·have hg:its[k]?=some its[k]:=F9 hlt
  obtain⟨ci,hci,hat,hlc⟩:=(h.le hle1).get hg;have hri:=(h.le hle1).row;have hsk:=(hsm _ (O1 hlt)).sends;have hft:=C2I hg;generalize its[k]=it at hg hat hsk hft;obtain⟨pa,pc,sa9,sc9,ba,bc9,da9,dc9,xb,rfl,_,hsnd,_⟩:=hat
  repeat' (first|refine O7 (d:=15) ?_ (hr:=hri);intro bt ot hpt;rw[show ((k:Int).toNat *10)=k *10 from rfl,hci]at hpt|refine Y2 (d:=5) ?_ hm;clear hm;intro b5 _ hm|refine J6 ?_ hm|refine U0 ?_ hm|refine D8 ?_|refine D6 ?_|refine J8 ?_|refine G6 ?_|refine D5 ?_|refine E5 ?_|refine A7 ?_|refine E8 ?_|refine A8 ?_|refine F6 ?_|refine G7 ?_|(refine C9 (ht:=fun _=>?_) (hf:=fun _=>?_)<;>try first|contradiction|omega))
  refine U3 (fun y:NI=> [(1,ptr b1),(3,.slice sa1 k sp1),(6,nt (A43 its (it.sends.take y.k))),(11,.slice a its.length cp),(12,nt its.length),(13,nt k),(18,.slice sa9 it.sends.length sc9),(19,nt it.sends.length),(20,nt y.k)])
   (fun y w'=>Mem E y.I [.cell b5 (A1J it.kind it.name it.label (.slice pa it.params.length pc) (.slice sa9 it.sends.length sc9) (.slice ba it.body.length bc9) it.at_ it.size it.mark (.slice da9 it.diags.length dc9)) 43,.row (.slice sa1 k sp1) 3 1 k (((A7b its).take k).flatMap A2K),.cell b1 [.slice a its.length cp] 25] w'/\Le I1 y.I/\y.k<=it.sends.length)
   (fun y=>it.sends.length-y.k) ⟨0,I1⟩ (by exact⟨rfl,rfl,rfl,rfl,rfl,rfl,rfl,rfl,rfl,trivial⟩) ⟨hm,Le.refl _,H9 _⟩ ?_
  clear hm;rintro⟨j,I2⟩ w2 ⟨hm,hle2,hj⟩;dsimp only at hm hle2 hj |-;by_cases hjl:j<it.sends.length
  ·have hgs:it.sends[j]?=some it.sends[j]:=F9 hjl
   generalize it.sends[j]=q at hgs;have hst:=C8T (its:=its) hgs;have hml:=C3e its (it.sends.take j);rw[A7d]at hst;generalize A43 its (it.sends.take j)=m at hst hml |-;have hfind:=(A9N 1 q.name its I2 a cp xs ((h.le hle1).le hle2)).read;cases hf:A0M its 1 q.name with
   |none=>
    rw[hf]at hst;rw[A8R hf]at hfind;repeat' (first|refine Q4 (d:=22) (enc:=A27) (z:=q) ?_ (hr:=hsnd.le hle2) (he:=fun _=>rfl) (hz:=by exact hgs);intro bz oz hpz|refine U8 (d:=27) ?_ hm (hc:=hfind);clear hm;intro _ hm|refine Y2 (d:=8) ?_ hm;clear hm;intro b8 _ hm|refine J6 ?_ hm|refine Q7 ?_ hm|refine U0 ?_ hm|refine D8 ?_|refine D6 ?_|refine J8 ?_|refine A11 ?_|refine O9 ?_|refine D5 ?_|refine E5 ?_|refine A7 ?_|refine D7 ?_|refine E8 ?_|refine A8 ?_|refine F6 ?_|refine G7 ?_|refine F7 ?_|(refine C9 (ht:=fun _=>?_) (hf:=fun _=>?_)<;>try first|contradiction|omega))
    exact L6 (⟨j+1,I2⟩:NI) (by exact⟨rfl,rfl,by rw[hst];rfl,rfl,rfl,rfl,rfl,rfl,rfl,trivial⟩) ⟨hm.tl,hle2,by dsimp only;omega⟩ (by dsimp only;omega)
   |some z=>
    rw[hf]at hst;dsimp only at hst;rw[A8S hf]at hfind;obtain⟨hz,_,_,_,hmemz⟩:=A3O hf;obtain⟨cz,hcz,hatz,_⟩:=(h.le hle1).get (A5j hz);obtain⟨pa3,pc3,sa3,sc3,ba3,bc3,da3,dc3,xb3,rfl,_⟩:=hatz;have hzl:=(hlab _ hmemz).1;have hri2:=hri.le hle2;repeat' (first|refine Q4 (d:=22) (enc:=A27) (z:=q) ?_ (hr:=hsnd.le hle2) (he:=fun _=>rfl) (hz:=by exact hgs);intro bz oz hpz|refine U8 (d:=27) ?_ hm (hc:=hfind);clear hm;intro _ hm|refine O7 (d:=34) ?_ (hr:=hri2);intro bu ou hpu;rw[show ((z:Int).toNat *10)=z *10 from rfl,hcz]at hpu|refine A0r (d:=37) (hc:=by exact D6b _ _ hml hzl _) (k:=?_);rintro _ _ ⟨rfl,rfl⟩|refine Y2 (d:=8) ?_ hm;clear hm;intro b8 _ hm|refine J6 ?_ hm|refine J9 ?_ hm|refine Q7 ?_ hm|refine U0 ?_ hm|refine D8 ?_|refine D6 ?_|refine J8 ?_|refine A11 ?_|refine O9 ?_|refine D5 ?_|refine E5 ?_|refine A7 ?_|refine D7 ?_|refine E8 ?_|refine A8 ?_|refine F6 ?_|refine G7 ?_|refine H5 ?_|(refine C9 (ht:=fun _=>?_) (hf:=fun _=>?_)<;>try first|contradiction|omega))
    exact L6 (⟨j+1,I2⟩:NI) (by exact⟨rfl,rfl,by rw[hst];rfl,rfl,rfl,rfl,rfl,rfl,rfl,trivial⟩) ⟨hm.tl,hle2,by dsimp only;omega⟩ (by dsimp only;omega)
  ·obtain rfl:j=it.sends.length:=by omega
   rw[V7];repeat' (first|refine A2P (d:=42) ?_ hm;clear hm;intro a42 cp42 _ _ hm;try simp only[G5]at hm|refine D8 ?_|refine D6 ?_|refine J8 ?_|refine O9 ?_|refine E5 ?_|refine A7 ?_|refine H6 ?_|refine D7 ?_|refine G9 ?_|refine E8 ?_|refine A8 ?_|refine O8 ?_|(refine C9 (ht:=fun _=>?_) (hf:=fun _=>?_)<;>try first|contradiction|omega))
   refine L6 (⟨k+1,I2,_,_,none,0⟩:FX) (by exact⟨rfl,rfl,rfl,rfl,rfl,trivial⟩) ⟨?_,hle1.trans hle2,by dsimp only;omega⟩ (by dsimp only;omega)
   dsimp only
   rw[hft,X0];exact hm.tl
 ·obtain rfl:k=its.length:=by omega
  rw[A0W (by omega)]at hm;repeat' (first|refine D8 ?_|refine D6 ?_|refine J8 ?_|refine E5 ?_|refine A7 ?_|refine H6 ?_|refine G9 ?_|refine E8 ?_|refine A8 ?_|refine O8 ?_|refine J3 ?_|refine J7 ?_|(refine C9 (ht:=fun _=>?_) (hf:=fun _=>?_)<;>try first|contradiction|omega))
  obtain⟨I3,hle3,hm3,hrow⟩:=hm.freeze;exact⟨I3,[],⟨rfl,_,_,rfl,hrow⟩,hm3.left (H:= [])⟩
end
end Go.Proofs
