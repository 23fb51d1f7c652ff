/- Own work. -/
import Derived.Test.YtbmbnippbldmfaaGreatDoorSn21
set_option maxHeartbeats 64000000
namespace Go.Sp
theorem C1J (its:List Itm) (sc:List Lc) (e:Ex):A2C its sc e=if e.kind=2 then A80 sc e.name else if e.kind=3 then A1V its sc e.args 0 else if e.kind=4 then A3b its e.name else 0:=by
 cases e;rw[A2C];rfl
theorem A6r {its:List Itm}{k:Int}{n:List UInt8}{j:Nat} (h:A0Z its k n=some j):A4c its k n=j:=by rw[A4c,h]
theorem A6q {its:List Itm}{k:Int}{n:List UInt8} (h:A0Z its k n=none):A4c its k n= -1:=by rw[A4c,h]
def B1R (its:List Itm) (at_:Int) (sc:List Lc) (un:Nat) (e:Ex) (s:FW):Nat×FW:=
 if e.kind=2 then (A80 sc e.name,s) else if e.kind=3 then A4C its at_ sc un e.args 0 s else
 if e.kind=4 then (A3b its e.name,A4T its un e.name e.fr e.to (A3k its at_ sc un e.name e.args 0 s)) else (0,s)
theorem B8D (its:List Itm) (at_:Int) (sc:List Lc) (un:Nat) (e:Ex) (s:FW):exF its at_ sc un e s=((B1R its at_ sc un e s).1,(B1R its at_ sc un e s).2.hit at_ e.fr e.to ((B1R its at_ sc un e s).1|||un)):=by
 cases e with
 |mk k nm n args f t=>
 rw[exF,B1R];show _=_
 by_cases k2:k=2
 ·simp[k2,Ex.kind,Ex.name,Ex.fr,Ex.to]
 ·by_cases k3:k=3
  ·simp[k3,Ex.kind,Ex.args,Ex.fr,Ex.to]
  ·by_cases k4:k=4
   ·simp[k4,Ex.kind,Ex.name,Ex.args,Ex.fr,Ex.to]
   ·simp[k2,k3,k4,Ex.kind,Ex.fr,Ex.to]
theorem C2B (its:List Itm) (at_:Int) (sc:List Lc) (un:Nat) (e:Ex) (s:FW):s.ds.length<=(B1R its at_ sc un e s).2.ds.length/\(B1R its at_ sc un e s).2.ds.length+1<=s.ds.length+2 *e.cnt:=by
 have:=B4l its at_ sc un e s;rw[B8D]at this;dsimp only at this;rw[B3b]at this;exact this
theorem C47 {s:FW}{at_:Int}{f t n:Nat} (h0:s.hv=none) (h1:(f:Int)<=at_) (h2:at_<t):s.hit at_ f t n=⟨s.ds,some n⟩:=by rw[FW.hit,if_pos ⟨h0,h1,h2⟩]
theorem C27 {s:FW}{at_:Int}{f t n m:Nat} (h0:s.hv=some m):s.hit at_ f t n=s:=by rw[FW.hit,if_neg (by rw[h0];simp)]
theorem C46 {s:FW}{at_:Int}{f t n:Nat} (h1:¬((f:Int)<=at_/\at_<t)):s.hit at_ f t n=s:=by rw[FW.hit,if_neg (fun h=>h1 h.2)]
end Go.Sp
namespace Go.Fw
open Go.Sp
theorem B9L {R:List HItem}{a b c:HItem}:∀h∈ [a,b,c],h∈a::b::c::R:=by simp
end Go.Fw
namespace Go.Sp
def B5e (its:List Itm) (own:Nat) (at_:Int) (x:Stm) (sc:List Lc) (a:Nat) (s:FW):List Lc×FW:=
 if x.kind=1 then (sc++ [⟨x.name,if x.opn=true then a else x.label⟩],s.ask a (if x.opn=true then a else x.label) x.fr x.to x.name) else
 if x.kind=2 then (sc,s.ask a (A80 sc x.name) x.fr x.to x.name) else
 if x.kind=5 then (sc,B4b its a x.name x.fr x.to s) else
 if x.kind=6 then (sc,s.ask a own x.fr x.to x.name) else
 if x.kind=3\/x.kind=4 then (sc,(A1C its own at_ x.els sc a (A1C its own at_ x.thn sc a s).2).2) else (sc,s)
theorem C5X (its:List Itm) (own:Nat) (at_:Int) (x:Stm) (sc:List Lc) (un:Nat) (s:FW):
  A8g its own at_ x sc un s=B5e its own at_ x sc ((exF its at_ sc (unF its sc x.kind un x.e) x.e s).1|||unF its sc x.kind un x.e) (exF its at_ sc (unF its sc x.kind un x.e) x.e s).2:=by
 cases x;rw[A8g,B5e];rfl
theorem B4Y {its:List Itm} (h:A26 its) (own:Nat) (at_:Int):∀(l:List Stm) {sc:List Lc},A4M sc->∀ {un:Nat},un<256->X7 B0w B0P l->∀(s:FW),A4M (A1C its own at_ l sc un s).1
 | [],sc,hs,un,hu,_,s=>by rw[A1C];exact hs
 |x::l,sc,hs,un,hu,hx,s=>by
  rw[X7]at hx;rw[A1C];exact B4Y h own at_ l (C4h h own at_ x hs hu (Stm.all_node hx.1).1 s) hu hx.2 _
theorem B66 {its:List Itm}{k:Nat}{it:Itm} (h:its[k]?=some it):(A4W its).take (k+1)=(A4W its).take k++ [A6Z its it.sends]:=
 Q8 (by rw[A4W,A0f,h];rfl)
theorem C1n {its:List Itm}{l:List Rf}{j:Nat}{x:Rf} (h:l[j]?=some x):A6Z its (l.take (j+1))=A85 its (A6Z its (l.take j)) x:=by
 rw[Q8 h,A6Z,A5t];rfl
theorem B9o {l:List Par}{k:Nat}{p:Par} (h:l[k]?=some p):A6J (l.take (k+1))=A6J (l.take k)++ [⟨p.name,p.label⟩]:=by
 rw[Q8 h,A6J,Y8];rfl
structure ItF (it:Itm):Prop where
 small:it.small
 body:X7 B0w B0P it.body
 cnt:P8 it.body<=400000000
end Go.Sp
namespace Go.Fw
open Go.Sp
open Go
theorem C3y {P:Program}{N:Nat}{ds:List Deferred}{Q:Exit->Act->World->Prop}{l:Log}{w w0:World}{ops:Array Oper}{os' tail:List Oper}{d:Nat}{ty:TypeId}{pos:String}{af:Array Edge}{g:Option (Nat×Bool)}{t:TypeId}{x:Operand}
  {X:List Nat}{I0 I:P6}{H:List HItem}{v:Value}{vs:List Value} (k:∀b w',Mem ⟨w0,X,I0⟩ I (.obj b (.cells vs.toArray t (0,0))::H) w'->WS P N ds ops Q X w0 os' tail ((d,.pointer (some ⟨b,0,none⟩))::l) w') (hm:Mem ⟨w0,X,I0⟩ I H w) (hw:U4 ops l ⟨some d,.box t x,ty,pos,af,g⟩=some true:=by rfl) (hN:Nat.blt d N=true:=by rfl) (hx:ev l x=some v:=by rfl) (hv:v.cells=vs.toArray:=by rfl)
   :
  WS P N ds ops Q X w0 (⟨some d,.box t x,ty,pos,af,g⟩::os') tail l w:=by
 have hk:=Kept.alloc w (.cells v.cells t (0,0));have hm':=hm.add (x:=.obj w.heap.size (.cells vs.toArray t (0,0))) hk (by rw[<-hv];exact heap_alloc_new w _) (fun b hb=>by simp only[HItem.blk,U3]at hb;omega);refine A3Z (w':=w.alloc (.cells v.cells t (0,0))) (v:=.pointer (some ⟨w.heap.size,0,none⟩)) rfl hw hN (fun a ha=>?_) hm'.kept (k _ _ hm')
 simp[execOp,Instr.box,newVar,newRow,newObj,ha.ev hx];rfl
end Go.Fw
namespace Go.Proofs
open Go.Proofs.Tryz
open Go.Sp
open Go.Fw
theorem C2R {its:List Sp.Itm}{it:Sp.Itm}{bc bf sp:Nat}{a:Option Addr}{cp:Nat}{xs:List Value}{pi vf v3 v5 v6 v7:Value}{sc:List Sp.Lc}{sa:Option Addr} (hs:sc.length<=1099511627776) (hsl:A4M sc):
  ∀(n:Nat) (e:Sp.Ex),SizeOf.sizeOf e<=n->e.small->∀(J:P6) (b o tc:Nat) (ea:Option Addr) (ec:Nat) (ys:List Value),FRd J bc bf pi sc sa sp v3 vf v5 v6 v7->FC J its it bf a cp xs pi vf->
   PtrI J b o tc (A0z e ea ec)->RowI J 109 6 (.slice ea e.args.length ec) e.args.length ys->Y7 J e.args ys->
   CalR prog 176 #[ptr bc,.pointer (some ⟨b,o,none⟩)] J [] (nt (A2C its sc e)):=by
 intro n;induction n with
 |zero=>intro e h;cases e;simp at h
 |succ n ih=>
 intro e hsz hsm J b o tc ea ec ys hR0 hC0 hp0 hr0 hx0;obtain⟨hal,hasm⟩:=A3X hsm;refine CalR.of fun w K hm hl _ _=>enter (N:=68) func176 rfl [(0,ptr bc),(1,.pointer (some ⟨b,o,none⟩))] A0T rfl ?_
 have hR:=hR0.le hl;have hC:=hC0.le hl;have hp:=hp0.le hl;have hr:=hr0.le hl;have hx:=Y7.le hl _ _ hx0;clear hR0 hC0 hp0 hr0 hx0;obtain⟨hRp,hRr⟩:=hR;have hCf:=hC.file;rw[C1J];by_cases k2:e.kind=2
 ·rw[if_pos k2]
  repeat' (first|refine S9 (d:=19) ?_ hm (hc:=B8G e.name hs ⟨hRp,hRr⟩);clear hm;intro _ hm|refine J5 ?_ hm|refine D8 ?_|refine D6 ?_|refine N9 ?_|refine E5 ?_|refine C9 ?_|refine D9 ?_|refine A7 ?_|refine D7 ?_|refine E8 ?_|refine A8 ?_|refine F5 ?_|refine H8 ?_|refine J9 ?_|(refine D5 (ht:=fun _=>?_) (hf:=fun _=>?_)<;>try first|contradiction|omega))
  exact⟨rfl,hm.kept⟩
 rw[if_neg k2];by_cases k3:e.kind=3
 ·rw[if_pos k3]
  repeat' (first|refine J5 ?_ hm|refine D8 ?_|refine D6 ?_|refine N9 ?_|refine G7 ?_|refine E5 ?_|refine C9 ?_|refine D9 ?_|refine A7 ?_|refine E8 ?_|refine A8 ?_|refine F5 ?_|(refine D5 (ht:=fun _=>?_) (hf:=fun _=>?_)<;>try first|contradiction|omega))
  refine U2 (fun k:Nat=> [(0,ptr bc),(1,.pointer (some ⟨b,o,none⟩)),(5,nt (A1V its sc (e.args.take k) 0)),(26,nt e.args.length),(27,nt k)]) (fun k w'=>Mem ⟨w,[],K⟩ K [] w'/\k<=e.args.length) (fun k=>e.args.length-k) 0
   (by exact⟨rfl,rfl,by rw[Z9,A1V];rfl,rfl,rfl,trivial⟩) ⟨hm,H7 _⟩ ?_
  clear hm;rintro k w1 ⟨hm,hk⟩;try dsimp only at hm hk |-
  by_cases hlt:k<e.args.length
  ·have hg:e.args[k]?=some e.args[k]:=G6 hlt
   have hsz2:=A2r (O7 hlt);have hsm2:=A1G hasm hg;obtain⟨ea2,ec2,ys2,hc2,hr2,hx2⟩:=(hx.get hg).out;generalize e.args[k]=y at hg hsz2 hsm2 hc2 hr2 hx2;have hst:=B0U its sc hg 0;have hl1:=A77 hC.lab hsl (e.args.take k) 0 (by omega);have hl2:=A4L hC.lab hsl y;repeat' (first|refine O0 (d:=37) ?_ (hr:=hr);intro bt ot hpt;rw[show ((k:Int).toNat *6)=k *6 from rfl,hc2]at hpt|refine S9 (d:=38) ?_ hm (hc:=ih y (by omega) hsm2 K _ _ _ ea2 ec2 ys2 ⟨hRp,hRr⟩ hC hpt hr2 hx2);clear hm;intro _ hm|refine A0k (d:=39) (hc:=by exact A69 _ _ hl1 hl2 _) (k:=?_);rintro _ _ ⟨rfl,rfl⟩|refine J5 ?_ hm|refine D8 ?_|refine D6 ?_|refine J6 ?_|refine E5 ?_|refine P7 ?_|refine C9 ?_|refine D9 ?_|refine A7 ?_|refine D7 ?_|refine E8 ?_|refine A8 ?_|refine F5 ?_|refine G5 ?_|(refine D5 (ht:=fun _=>?_) (hf:=fun _=>?_)<;>try first|contradiction|omega))
   refine L9 (k+1:Nat) (by exact⟨rfl,rfl,by rw[hst];rfl,rfl,rfl,trivial⟩) ⟨hm,by omega⟩ (by omega)
  ·obtain rfl:k=e.args.length:=by omega
   repeat' (first|refine D8 ?_|refine D6 ?_|refine J6 ?_|refine D9 ?_|refine A7 ?_|refine H9 ?_|refine D7 ?_|refine H5 ?_|refine E8 ?_|refine A8 ?_|refine P9 ?_|refine H8 ?_|refine J9 ?_|(refine D5 (ht:=fun _=>?_) (hf:=fun _=>?_)<;>try first|contradiction|omega))
   exact⟨by rw[V5],hm.kept⟩
 rw[if_neg k3];by_cases k4:e.kind=4
 ·rw[if_pos k4]
  have hfind:=(A7b 2 e.name its K a cp xs hC.fe).read;cases hf:A0Z its 2 e.name with
  |some j=>
   obtain⟨hj,_,_,_,_⟩:=A2D hf;obtain⟨ci,hci,hat,hlc⟩:=hC.fe.get (A2G hj);obtain⟨pa,pc,sa1,sc1,ba,bc1,da,dc,xb,rfl,_⟩:=hat
   have hri:=hC.fe.row;rw[A3b,hf];rw[A6r hf]at hfind;repeat' (first|refine A0n (d:=53) ?_ hm (hc:=hfind)|refine O0 (d:=64) ?_ (hr:=hri);intro bt ot hpt;rw[show ((j:Int).toNat *10)=j *10 from rfl,hci]at hpt|refine J5 ?_ hm|refine A0q ?_ hm|refine A6s ?_ hm|refine D8 ?_|refine D6 ?_|refine A04 ?_|refine N9 ?_|refine E5 ?_|refine C9 ?_|refine D9 ?_|refine A7 ?_|refine D7 ?_|refine E8 ?_|refine A8 ?_|refine F5 ?_|refine H8 ?_|refine J9 ?_|refine U5 ?_|refine A0j ?_;intro _ hkq;replace hm:=hm.kept0 hkq;clear hkq|refine H6 ?_|(refine D5 (ht:=fun _=>?_) (hf:=fun _=>?_)<;>try first|contradiction|omega)|refine X5 ?_|refine A1X ?_|refine O8 ?_|refine L6 ?_)
   exact⟨rfl,hm.kept⟩
  |none=>
   rw[A3b,hf];rw[A6q hf]at hfind;repeat' (first|refine A0n (d:=53) ?_ hm (hc:=hfind)|refine J5 ?_ hm|refine A0q ?_ hm|refine A6s ?_ hm|refine D8 ?_|refine D6 ?_|refine A04 ?_|refine N9 ?_|refine E5 ?_|refine C9 ?_|refine D9 ?_|refine A7 ?_|refine D7 ?_|refine E8 ?_|refine A8 ?_|refine F5 ?_|refine G5 ?_|refine H8 ?_|refine J9 ?_|refine U5 ?_|refine A0j ?_;intro _ hkq;replace hm:=hm.kept0 hkq;clear hkq|refine F7 ?_|(refine D5 (ht:=fun _=>?_) (hf:=fun _=>?_)<;>try first|contradiction|omega)|refine X5 ?_|refine A1X ?_|refine O8 ?_|refine L6 ?_)
   exact⟨rfl,hm.kept⟩
 ·rw[if_neg k4]
  repeat' (first|refine J5 ?_ hm|refine D8 ?_|refine D6 ?_|refine N9 ?_|refine E5 ?_|refine C9 ?_|refine D9 ?_|refine A7 ?_|refine D7 ?_|refine E8 ?_|refine A8 ?_|refine F5 ?_|refine G5 ?_|refine H8 ?_|refine J9 ?_|(refine D5 (ht:=fun _=>?_) (hf:=fun _=>?_)<;>try first|contradiction|omega))
  exact⟨rfl,hm.kept⟩
structure FX where
 k:Nat
 I:P6
 sa:Option Addr
 sp:Nat
 da:Option Addr
 dp:Nat
def C16 (its:List Sp.Itm) (it:Sp.Itm) (bc bf:Nat) (a:Option Addr) (cp:Nat) (xs:List Value) (pi vf:Value) (sc:List Sp.Lc) (at_:Int) (un:Nat) (e:Sp.Ex):Prop:=
 ∀(I:P6) (b o tc:Nat) (ea:Option Addr) (ec:Nat) (ys:List Value) (s:Sp.FW) (sa:Option Addr) (sp:Nat) (da:Option Addr) (dp:Nat),s.ds.length+2 *e.cnt<=1000000000->FC I its it bf a cp xs pi vf->
  PtrI I b o tc (A0z e ea ec)->RowI I 109 6 (.slice ea e.args.length ec) e.args.length ys->Y7 I e.args ys->
  CalM prog 177 #[ptr bc,.pointer (some ⟨b,o,none⟩),nt un] I (FSt bc bf pi sc sa sp s da dp vf at_) (ToF bc bf pi vf at_ sc (Sp.exF its at_ sc un e s).2 (nt (Sp.exF its at_ sc un e s).1))
section
variable {its:List Sp.Itm}{it:Sp.Itm}{bc bf:Nat}{a:Option Addr}{cp:Nat}{xs:List Value}{pi vf:Value}{sc:List Sp.Lc}{at_:Int}{un:Nat}
theorem C6Q (hun:un<256) (_hsc:sc.length<=1099511627776) (hsl:A4M sc) (e:Sp.Ex) (hsm:e.small) (hE:∀y,y∈e.args->C16 its it bc bf a cp xs pi vf sc at_ un y)
  (I:P6) (b o tc:Nat) (ea:Option Addr) (ec:Nat) (ys:List Value) (s:Sp.FW) (sa:Option Addr) (sp:Nat) (da:Option Addr) (dp:Nat) (hn:s.ds.length+2 *e.cnt<=1000000000) (hC:FC I its it bf a cp xs pi vf)
  (hp:PtrI I b o tc (A0z e ea ec)) (hr:RowI I 109 6 (.slice ea e.args.length ec) e.args.length ys) (hx:Y7 I e.args ys):
  CalM prog 198 #[ptr bc,.pointer (some ⟨b,o,none⟩),nt un] I (FSt bc bf pi sc sa sp s da dp vf at_)
   (ToF bc bf pi vf at_ sc (A4T its un e.name e.fr e.to (A3k its at_ sc un e.name e.args 0 s)) (nt (A3b its e.name))):=by
 obtain⟨hal,hasm⟩:=A3X hsm;have hcnt:=Sp.Ex.cnt_eq e;refine CalM.of fun w E hm=>enter (N:=149) func198 rfl [(0,ptr bc),(1,.pointer (some ⟨b,o,none⟩)),(2,nt un)] A3C rfl ?_
 obtain⟨fa,fp,rfl,hfl⟩:=hC.floors;have hCf:=hC.file;have hri:=hC.fe.row;have hfew:=hC.fe.few;have hfind:=(A7b 2 e.name its I a cp xs hC.fe).read;obtain⟨fv,hfv⟩:∃fv,fv=A4c its 2 e.name:=⟨_,rfl⟩;rw[<-hfv]at hfind;repeat' (first|refine A0n (d:=20) ?_ hm (hc:=hfind)|refine J5 ?_ hm|refine V3 ?_ hm|refine A0q ?_ hm|refine A6s ?_ hm|refine D8 ?_|refine D6 ?_|refine G7 ?_|refine E5 ?_|refine C9 ?_|refine D9 ?_|refine A7 ?_|refine E8 ?_|refine A8 ?_|refine F5 ?_|refine U5 ?_|refine A0j ?_;intro _ hkq;replace hm:=hm.kept0 hkq;clear hkq|refine X5 ?_|refine A1X ?_|refine O8 ?_|refine L6 ?_)
 refine U2 (fun x:FX=> [(0,ptr bc),(1,.pointer (some ⟨b,o,none⟩)),(2,nt un),(7,.int .i64 fv),(25,nt e.args.length),(26,nt x.k)])
  (fun x w'=>Mem E x.I (FSt bc bf pi sc x.sa x.sp (A3k its at_ sc un e.name (e.args.take x.k) 0 s) x.da x.dp (.slice fa its.length fp) at_) w'/\Le I x.I/\x.k<=e.args.length) (fun x=>e.args.length-x.k) ⟨0,I,sa,sp,da,dp⟩
  (by exact⟨rfl,rfl,rfl,rfl,rfl,rfl,trivial⟩) ⟨by dsimp only;rw[Z9,A3k];exact hm,Le.refl _,H7 _⟩ ?_
 clear hm;rintro⟨k,I1,sa1,sp1,da1,dp1⟩ w1 ⟨hm,hle1,hk⟩;dsimp only at hm hle1 hk |-;have hC1:=hC.le hle1;have hCf1:=hC1.file;have hri1:=hC1.fe.row;have hp1:=hp.le hle1;by_cases hlt:k<e.args.length
 ·have hg:e.args[k]?=some e.args[k]:=G6 hlt
  have hmem:=O7 hlt;obtain⟨ea2,ec2,ys2,hc2,hr2,hx2⟩:=(hx.get hg).out;have hEk:=hE _ hmem;generalize e.args[k]=y at hg hmem hc2 hr2 hx2 hEk;have hst:=B8s its at_ sc un e.name hg s;have hcy:=A6p hg;have hnn:=B2n its at_ sc un e.name (e.args.take k) 0 s;generalize A3k its at_ sc un e.name (e.args.take k) 0 s=s1 at hm hst hnn;have hcl:=fun (J:P6) (m:Le I J) (h1:FC J its it bf a cp xs pi (.slice fa its.length fp)) b o tc (hpt:PtrI J b o tc (A0z y ea2 ec2))=>hEk J b o tc ea2 ec2 ys2 s1 sa1 sp1 da1 dp1 (by omega) h1 hpt (hr2.le m) (Y7.le m _ _ hx2)
  have hl1:=B1k hC.lab at_ hsl un y s1;have hnx:=B4l its at_ sc un y s1;generalize Sp.exF its at_ sc un y s1=r at hcl hst hl1 hnx;have hrow:=hr.le hle1;have hl2:=A9U hl1 hun;rw[A96]at hst;cases hf:A0Z its 2 e.name with
  |none=>
   rw[hf]at hst;rw[A6q hf]at hfv;subst hfv;repeat' (first|refine O0 (d:=35) ?_ (hr:=hrow);intro bt ot hpt;rw[show ((k:Int).toNat *6)=k *6 from rfl,hc2]at hpt|refine F6 (d:=37) ?_ hm (hc:=hcl I1 hle1 hC1 _ _ _ hpt);clear hm;rintro _ I2 _ _ ⟨rfl,sa2,sp2,da2,dp2,rfl⟩ hle hm;have hleI2:=hle;try simp only[F9]at hm;have hCf2:=hCf1.le hleI2;have hp2:=hp1.le hleI2|refine A0k (d:=39) (hc:=by exact A69 _ _ hl1 hun _) (k:=?_);rintro _ _ ⟨rfl,rfl⟩|refine J5 ?_ hm|refine D8 ?_|refine D6 ?_|refine L8 ?_|refine J6 ?_|refine A04 ?_|refine E5 ?_|refine P7 ?_|refine C9 ?_|refine A0N ?_|refine D9 ?_|refine A7 ?_|refine D7 ?_|refine E8 ?_|refine A8 ?_|refine F5 ?_|refine G5 ?_|refine F7 ?_|(refine D5 (ht:=fun _=>?_) (hf:=fun _=>?_)<;>try first|contradiction|omega))
   exact L9 (⟨k+1,I2,sa2,sp2,da2,dp2⟩:FX) (by exact⟨rfl,rfl,rfl,rfl,rfl,rfl,trivial⟩) ⟨by dsimp only;rw[hst];exact hm,hle1.trans hleI2,by dsimp only;omega⟩ (by dsimp only;omega)
  |some j=>
   rw[hf]at hst;rw[A6r hf]at hfv;subst hfv;obtain⟨hj,_,_,_,hmemj⟩:=A2D hf;obtain⟨ci,hci,hat,hlc⟩:=hC1.fe.get (A2G hj);obtain⟨pa,pc,sa9,sc9,ba,bc9,da9,dc9,xb,rfl,hpars,_⟩:=hat
   have hplab:=(hC.lab _ hmemj).2;dsimp only at hst;generalize A0o its j=itj at hci hpars hplab hst;by_cases hkp:k<itj.params.length
   ·have hgp:itj.params[k]?=some itj.params[k]:=G6 hkp
    have hpl:=hplab _ (O7 hkp);generalize itj.params[k]=q at hgp hpl;rw[hgp]at hst;dsimp only at hst;rw[Sp.FW.ask]at hst;have hF:=fun w=>B5b (r.1|||un) q.label hl2 hpl w
    cases hfl2:B1V (r.1|||un) q.label with
    |true=>
     rw[hfl2]at hF hst;repeat' (first|refine O0 (d:=35) ?_ (hr:=hrow);intro bt ot hpt;rw[show ((k:Int).toNat *6)=k *6 from rfl,hc2]at hpt|refine F6 (d:=37) ?_ hm (hc:=hcl I1 hle1 hC1 _ _ _ hpt);clear hm;rintro _ I2 _ _ ⟨rfl,sa2,sp2,da2,dp2,rfl⟩ hle hm;have hleI2:=hle;try simp only[F9]at hm;have hCf2:=hCf1.le hleI2;have hp2:=hp1.le hleI2|refine A0k (d:=39) (hc:=by exact A69 _ _ hl1 hun _) (k:=?_);rintro _ _ ⟨rfl,rfl⟩|refine O0 (d:=52) ?_ (hr:=hri1.le hleI2);intro bu ou hpu;rw[show ((j:Int).toNat *10)=j *10 from rfl,hci]at hpu|refine O0 (d:=68) ?_ (hr:=hri1.le hleI2);intro bv ov hpv;rw[show ((j:Int).toNat *10)=j *10 from rfl,hci]at hpv|refine Q9 (d:=72) (enc:=A2N) (z:=q) ?_ (hr:=hpars.le hleI2) (he:=fun _=>rfl) (hz:=by exact hgp);intro bz oz hpz|refine A0k (d:=75) (hc:=by exact hF _) (k:=?_);rintro _ _ ⟨rfl,rfl⟩|refine J4 ?_ hm|refine J5 ?_ hm|refine D8 ?_|refine D6 ?_|refine O9 ?_|refine J6 ?_|refine A04 ?_|refine G7 ?_|refine Y9 ?_|refine E5 ?_|refine P7 ?_|refine C9 ?_|(refine N8 (h1:=fun _=>?_) (h0:=fun _=>?_)<;>try first|contradiction|omega)|refine D9 ?_|refine A7 ?_|refine D7 ?_|refine E8 ?_|refine A8 ?_|refine F5 ?_|refine G5 ?_|refine F7 ?_|(refine D5 (ht:=fun _=>?_) (hf:=fun _=>?_)<;>try first|contradiction|omega))
     rw[if_pos rfl]at hst;exact L9 (⟨k+1,I2,sa2,sp2,da2,dp2⟩:FX) (by exact⟨rfl,rfl,rfl,rfl,rfl,rfl,trivial⟩) ⟨by dsimp only;rw[hst];exact hm,hle1.trans hleI2,by dsimp only;omega⟩ (by dsimp only;omega)
    |false=>
     rw[hfl2]at hF hst;rw[if_neg Bool.false_ne_true]at hst;have hT:=fun (J:P6) (sa:Option Addr) (sp:Nat) (da:Option Addr) (dp:Nat)=>B8H (I:=J) (bc:=bc) (bf:=bf) (pi:=pi) (sc:=sc) (sa:=sa) (sp:=sp) (s:=r.2) (da:=da) (dp:=dp) (vf:=.slice fa its.length fp) (at_:=at_) q.name y.fr y.to (by omega)
     repeat' (first|refine O0 (d:=35) ?_ (hr:=hrow);intro bt ot hpt;rw[show ((k:Int).toNat *6)=k *6 from rfl,hc2]at hpt|refine F6 (d:=37) ?_ hm (hc:=hcl I1 hle1 hC1 _ _ _ hpt);clear hm;rintro _ I2 _ _ ⟨rfl,sa2,sp2,da2,dp2,rfl⟩ hle hm;have hleI2:=hle;try simp only[F9]at hm;have hCf2:=hCf1.le hleI2;have hp2:=hp1.le hleI2|refine A0k (d:=39) (hc:=by exact A69 _ _ hl1 hun _) (k:=?_);rintro _ _ ⟨rfl,rfl⟩|refine O0 (d:=52) ?_ (hr:=hri1.le hleI2);intro bu ou hpu;rw[show ((j:Int).toNat *10)=j *10 from rfl,hci]at hpu|refine O0 (d:=68) ?_ (hr:=hri1.le hleI2);intro bv ov hpv;rw[show ((j:Int).toNat *10)=j *10 from rfl,hci]at hpv|refine Q9 (d:=72) (enc:=A2N) (z:=q) ?_ (hr:=hpars.le hleI2) (he:=fun _=>rfl) (hz:=by exact hgp);intro bz oz hpz|refine A0k (d:=75) (hc:=by exact hF _) (k:=?_);rintro _ _ ⟨rfl,rfl⟩|refine V7 (id:=7) 32 (h:=?_)|refine A7K (d:=84) ?_ (hr:=hrow.le hleI2);intro bt3 ot3 hpt3;rw[show ((k:Int).toNat *6)=k *6 from rfl,hc2]at hpt3|refine A7K (d:=92) ?_ (hr:=hrow.le hleI2);intro bt4 ot4 hpt4;rw[show ((k:Int).toNat *6)=k *6 from rfl,hc2]at hpt4|refine A7K (d:=103) ?_ (hr:=hri1.le hleI2);intro bv3 ov3 hpv3;rw[show ((j:Int).toNat *10)=j *10 from rfl,hci]at hpv3|refine Z7 (d:=107) (enc:=A2N) (z:=q) ?_ (hr:=hpars.le hleI2) (he:=fun _=>rfl) (hz:=by exact hgp);intro bz3 oz3 hpz3|refine F6 (d:=110) ?_ hm (hc:=hT I2 sa2 sp2 da2 dp2);clear hm;rintro _ I3 _ _ ⟨rfl,sa3,sp3,da3,dp3,rfl⟩ hle hm;have hleI3:=hle;try simp only[F9]at hm|refine J4 ?_ hm|refine J5 ?_ hm|refine V3 ?_ hm|refine A0q ?_ hm|refine D8 ?_|refine D6 ?_|refine O9 ?_|refine J6 ?_|refine A04 ?_|refine G7 ?_|refine Y9 ?_|refine E5 ?_|refine P7 ?_|refine C9 ?_|(refine N8 (h1:=fun _=>?_) (h0:=fun _=>?_)<;>try first|contradiction|omega)|refine D9 ?_|refine A7 ?_|refine D7 ?_|refine E8 ?_|refine A8 ?_|refine F5 ?_|refine G5 ?_|refine A0e ?_;intro _ hkq;replace hm:=hm.kept0 hkq;clear hkq|refine H6 ?_|(refine D5 (ht:=fun _=>?_) (hf:=fun _=>?_)<;>try first|contradiction|omega)|refine X5 ?_|refine O8 ?_|refine L6 ?_)
     exact L9 (⟨k+1,I3,sa3,sp3,da3,dp3⟩:FX) (by exact⟨rfl,rfl,rfl,rfl,rfl,rfl,trivial⟩) ⟨by dsimp only;rw[hst];exact hm,(hle1.trans hleI2).trans hleI3,by dsimp only;omega⟩ (by dsimp only;omega)
   ·rw[A07 (by omega)]at hst
    dsimp only at hst;repeat' (first|refine O0 (d:=35) ?_ (hr:=hrow);intro bt ot hpt;rw[show ((k:Int).toNat *6)=k *6 from rfl,hc2]at hpt|refine F6 (d:=37) ?_ hm (hc:=hcl I1 hle1 hC1 _ _ _ hpt);clear hm;rintro _ I2 _ _ ⟨rfl,sa2,sp2,da2,dp2,rfl⟩ hle hm;have hleI2:=hle;try simp only[F9]at hm;have hCf2:=hCf1.le hleI2;have hp2:=hp1.le hleI2|refine A0k (d:=39) (hc:=by exact A69 _ _ hl1 hun _) (k:=?_);rintro _ _ ⟨rfl,rfl⟩|refine O0 (d:=52) ?_ (hr:=hri1.le hleI2);intro bu ou hpu;rw[show ((j:Int).toNat *10)=j *10 from rfl,hci]at hpu|refine J4 ?_ hm|refine J5 ?_ hm|refine D8 ?_|refine D6 ?_|refine O9 ?_|refine L8 ?_|refine J6 ?_|refine A04 ?_|refine G7 ?_|refine E5 ?_|refine P7 ?_|refine C9 ?_|refine A0N ?_|(refine N8 (h1:=fun _=>?_) (h0:=fun _=>?_)<;>try first|contradiction|omega)|refine D9 ?_|refine A7 ?_|refine D7 ?_|refine E8 ?_|refine A8 ?_|refine F5 ?_|refine G5 ?_|refine F7 ?_|(refine D5 (ht:=fun _=>?_) (hf:=fun _=>?_)<;>try first|contradiction|omega))
    exact L9 (⟨k+1,I2,sa2,sp2,da2,dp2⟩:FX) (by exact⟨rfl,rfl,rfl,rfl,rfl,rfl,trivial⟩) ⟨by dsimp only;rw[hst];exact hm,hle1.trans hleI2,by dsimp only;omega⟩ (by dsimp only;omega)
 ·obtain rfl:k=e.args.length:=by omega
  have hnn:=B2n its at_ sc un e.name e.args 0 s;rw[V5]at hm;generalize A3k its at_ sc un e.name e.args 0 s=s1 at hm hnn |-;cases hf:A0Z its 2 e.name with
  |none=>
   rw[A6q hf]at hfv;subst hfv;rw[A4T,A3b,hf];repeat' (first|refine D8 ?_|refine D6 ?_|refine J6 ?_|refine D9 ?_|refine A7 ?_|refine G8 ?_|refine H9 ?_|refine H5 ?_|refine E8 ?_|refine A8 ?_|refine P9 ?_|refine H8 ?_|refine J9 ?_|refine H6 ?_|(refine D5 (ht:=fun _=>?_) (hf:=fun _=>?_)<;>try first|contradiction|omega))
   exact⟨I1,_,⟨rfl,_,_,_,_,rfl⟩,hm⟩
  |some j=>
   rw[A6r hf]at hfv;subst hfv;rw[A4T,A3b,hf];dsimp only
   obtain⟨hj,_,_,_,hmemj⟩:=A2D hf;obtain⟨ci,hci,hat,hlc⟩:=hC1.fe.get (A2G hj);obtain⟨pa,pc,sa9,sc9,ba,bc9,da9,dc9,xb,rfl,_⟩:=hat
   have hfg:(A4W its)[j]?=some (A6Z its (A0o its j).sends):=by rw[A4W,A0f,A2G hj];rfl
   have hml:=B7n its (A0o its j).sends;have hfl1:=hfl.le hle1;have hF:=fun w=>B5b un (A6Z its (A0o its j).sends) hun hml w
   rw[Sp.FW.ask];cases hb:B1V un (A6Z its (A0o its j).sends) with
   |true=>
    rw[hb]at hF;rw[if_pos rfl];repeat' (first|refine Q9 (d:=120) (enc:=A1t) (z:=A6Z its (A0o its j).sends) ?_ (hr:=hfl1) (he:=fun _=>rfl) (hz:=by exact hfg);intro bz oz hpz|refine A0k (d:=122) (hc:=by exact hF _) (k:=?_);rintro _ _ ⟨rfl,rfl⟩|refine O0 (d:=146) ?_ (hr:=hri1);intro bu ou hpu;rw[show ((j:Int).toNat *10)=j *10 from rfl,hci]at hpu|refine J4 ?_ hm|refine J5 ?_ hm|refine A1w ?_ hm|refine D8 ?_|refine D6 ?_|refine J6 ?_|refine Y9 ?_|refine E5 ?_|refine C9 ?_|refine D9 ?_|refine A7 ?_|refine H9 ?_|refine H5 ?_|refine E8 ?_|refine A8 ?_|refine G5 ?_|refine P9 ?_|refine H8 ?_|refine J9 ?_|refine F7 ?_|(refine D5 (ht:=fun _=>?_) (hf:=fun _=>?_)<;>try first|contradiction|omega))
    exact⟨I1,_,⟨rfl,_,_,_,_,rfl⟩,hm⟩
   |false=>
    rw[hb]at hF;rw[if_neg Bool.false_ne_true];have hT:=fun (J:P6)=>B8H (I:=J) (bc:=bc) (bf:=bf) (pi:=pi) (sc:=sc) (sa:=sa1) (sp:=sp1) (s:=s1) (da:=da1) (dp:=dp1) (vf:=.slice fa its.length fp) (at_:=at_) e.name e.fr e.to (by omega)
    repeat' (first|refine Q9 (d:=120) (enc:=A1t) (z:=A6Z its (A0o its j).sends) ?_ (hr:=hfl1) (he:=fun _=>rfl) (hz:=by exact hfg);intro bz oz hpz|refine A0k (d:=122) (hc:=by exact hF _) (k:=?_);rintro _ _ ⟨rfl,rfl⟩|refine V7 (id:=12) 13 (h:=?_)|refine F6 (d:=137) ?_ hm (hc:=hT I1);clear hm;rintro _ I3 _ _ ⟨rfl,sa3,sp3,da3,dp3,rfl⟩ hle hm;have hleI3:=hle;try simp only[F9]at hm;have hCf3:=hCf1.le hleI3|refine O0 (d:=146) ?_ (hr:=hri1.le hleI3);intro bu ou hpu;rw[show ((j:Int).toNat *10)=j *10 from rfl,hci]at hpu|refine J4 ?_ hm|refine J5 ?_ hm|refine A1w ?_ hm|refine A0q ?_ hm|refine D8 ?_|refine D6 ?_|refine J6 ?_|refine Y9 ?_|refine E5 ?_|refine C9 ?_|refine D9 ?_|refine A7 ?_|refine H9 ?_|refine H5 ?_|refine E8 ?_|refine A8 ?_|refine G5 ?_|refine P9 ?_|refine H8 ?_|refine J9 ?_|refine A0e ?_;intro _ hkq;replace hm:=hm.kept0 hkq;clear hkq|refine H6 ?_|refine F7 ?_|(refine D5 (ht:=fun _=>?_) (hf:=fun _=>?_)<;>try first|contradiction|omega)|refine X5 ?_|refine O8 ?_|refine L6 ?_)
    exact⟨I3,_,⟨rfl,_,_,_,_,rfl⟩,hm⟩
end
section
variable {its:List Sp.Itm}{it:Sp.Itm}{bc bf:Nat}{a:Option Addr}{cp:Nat}{xs:List Value}{pi vf:Value}{sc:List Sp.Lc}{at_:Int}{un:Nat}
theorem C6R (hun:un<256) (hsc:sc.length<=1099511627776) (hsl:A4M sc):∀(n:Nat) (e:Sp.Ex),SizeOf.sizeOf e<=n->e.small->C16 its it bc bf a cp xs pi vf sc at_ un e:=by
 intro n;induction n with
 |zero=>intro e h;cases e;simp at h
 |succ n ih=>
 intro e hsz hsm I b o tc ea ec ys s sa sp da dp hn hC hp hr hx;obtain⟨hal,hasm⟩:=A3X hsm;have hcnt:=Sp.Ex.cnt_eq e;refine CalM.of fun w E hm=>enter (N:=86) func177 rfl [(0,ptr bc),(1,.pointer (some ⟨b,o,none⟩)),(2,nt un)] A3C rfl ?_
 have hcore:=C2B its at_ sc un e s;rw[B8D];have hlt:=B1k hC.lab at_ hsl un e s;rw[B8D]at hlt;dsimp only at hlt |-;have hcr:B1R its at_ sc un e s=if e.kind=2 then (A80 sc e.name,s) else if e.kind=3 then A4C its at_ sc un e.args 0 s else
  if e.kind=4 then (A3b its e.name,A4T its un e.name e.fr e.to (A3k its at_ sc un e.name e.args 0 s)) else (0,s):=rfl
 generalize B1R its at_ sc un e s=r at hcr hcore hlt |-;repeat' (first|refine B2e 2 (fun _:FX=> [(0,ptr bc),(1,.pointer (some ⟨b,o,none⟩)),(2,nt un),(7,nt r.1)]) (fun x w'=>Mem E x.I (FSt bc bf pi sc x.sa x.sp r.2 x.da x.dp vf at_) w'/\Le I x.I) ?_ ?_|refine D6 ?_|refine D9 ?_|refine A7 ?_|refine E8 ?_|refine A8 ?_)
 ·refine⟨?_⟩
  by_cases k2:e.kind=2
  ·rw[if_pos k2]at hcr
   subst hcr;have hg:=CalR.flow (I:=I) (bc:=bc) (bf:=bf) (pi:=pi) (sc:=sc) (sa:=sa) (sp:=sp) (s:=s) (da:=da) (dp:=dp) (vf:=vf) (at_:=at_) (fun J m h=>B8G e.name hsc h);repeat' (first|refine S9 (d:=20) ?_ hm (hs:=B9L) (hc:=by exact hg);clear hm;intro _ hm|refine J5 ?_ hm|refine D8 ?_|refine D6 ?_|refine N9 ?_|refine E5 ?_|refine C9 ?_|refine D9 ?_|refine A7 ?_|refine D7 ?_|refine E8 ?_|refine A8 ?_|refine F5 ?_|(refine D5 (ht:=fun _=>?_) (hf:=fun _=>?_)<;>try first|contradiction|omega))
   exact A02 (⟨0,I,sa,sp,da,dp⟩:FX) (by exact⟨rfl,rfl,rfl,rfl,trivial⟩) ⟨hm,Le.refl _⟩
  rw[if_neg k2]at hcr;by_cases k3:e.kind=3
  ·rw[if_pos k3]at hcr
   repeat' (first|refine J5 ?_ hm|refine D8 ?_|refine D6 ?_|refine N9 ?_|refine G7 ?_|refine E5 ?_|refine C9 ?_|refine D9 ?_|refine A7 ?_|refine E8 ?_|refine A8 ?_|refine F5 ?_|(refine D5 (ht:=fun _=>?_) (hf:=fun _=>?_)<;>try first|contradiction|omega))
   refine U2 (fun x:FX=> [(0,ptr bc),(1,.pointer (some ⟨b,o,none⟩)),(2,nt un),(7,nt (A4C its at_ sc un (e.args.take x.k) 0 s).1),(27,nt e.args.length),(28,nt x.k)])
    (fun x w'=>Mem E x.I (FSt bc bf pi sc x.sa x.sp (A4C its at_ sc un (e.args.take x.k) 0 s).2 x.da x.dp vf at_) w'/\Le I x.I/\x.k<=e.args.length) (fun x=>e.args.length-x.k) ⟨0,I,sa,sp,da,dp⟩
    (by exact⟨rfl,rfl,rfl,by rw[Z9,A4C];rfl,rfl,rfl,trivial⟩) ⟨by dsimp only;rw[Z9,A4C];exact hm,Le.refl _,H7 _⟩ ?_
   clear hm;rintro⟨k,I1,sa1,sp1,da1,dp1⟩ w1 ⟨hm,hle1,hk⟩;dsimp only at hm hle1 hk |-;have hC1:=hC.le hle1;have hp1:=hp.le hle1;have hrow:=hr.le hle1;by_cases hlt:k<e.args.length
   ·have hg:e.args[k]?=some e.args[k]:=G6 hlt
    have hsz2:=A2r (O7 hlt);have hsm2:=A1G hasm hg;obtain⟨ea2,ec2,ys2,hc2,hr2,hx2⟩:=(hx.get hg).out;generalize e.args[k]=y at hg hsz2 hsm2 hc2 hr2 hx2;have hst:=C1B its at_ sc un hg 0 s;have hcy:=A6p hg;have hnn:=B9k its at_ sc un (e.args.take k) 0 s;have hl1:=B5G hC.lab at_ hsl un (e.args.take k) 0 s (by omega);generalize A4C its at_ sc un (e.args.take k) 0 s=q at hm hst hnn hl1 |-;have hcl:=ih y (by omega) hsm2;have hl2:=B1k hC.lab at_ hsl un y q.2;have hcl2:=fun b o tc (hpt:PtrI I1 b o tc (A0z y ea2 ec2))=>hcl I1 b o tc ea2 ec2 ys2 q.2 sa1 sp1 da1 dp1 (by omega) hC1 hpt (hr2.le hle1) (Y7.le hle1 _ _ hx2)
    generalize Sp.exF its at_ sc un y q.2=p at hcl2 hst hl2;repeat' (first|refine O0 (d:=38) ?_ (hr:=hrow);intro bt ot hpt;rw[show ((k:Int).toNat *6)=k *6 from rfl,hc2]at hpt|refine F6 (d:=40) ?_ hm (hc:=hcl2 _ _ _ hpt);clear hm;rintro _ I2 _ _ ⟨rfl,sa2,sp2,da2,dp2,rfl⟩ hle hm;have hleI2:=hle;try simp only[F9]at hm|refine A0k (d:=41) (hc:=by exact A69 _ _ hl1 hl2 _) (k:=?_);rintro _ _ ⟨rfl,rfl⟩|refine J5 ?_ hm|refine D8 ?_|refine D6 ?_|refine J6 ?_|refine E5 ?_|refine P7 ?_|refine C9 ?_|refine D9 ?_|refine A7 ?_|refine D7 ?_|refine E8 ?_|refine A8 ?_|refine F5 ?_|refine G5 ?_|(refine D5 (ht:=fun _=>?_) (hf:=fun _=>?_)<;>try first|contradiction|omega))
    exact L9 (⟨k+1,I2,sa2,sp2,da2,dp2⟩:FX) (by exact⟨rfl,rfl,rfl,by rw[hst];rfl,rfl,rfl,trivial⟩) ⟨by dsimp only;rw[hst];exact hm,hle1.trans hleI2,by dsimp only;omega⟩ (by dsimp only;omega)
   ·obtain rfl:k=e.args.length:=by omega
    rw[V5, <-hcr]at hm;rw[V5, <-hcr];repeat' (first|refine J6 ?_|refine D9 ?_|refine A7 ?_|refine H9 ?_|refine D7 ?_|refine H5 ?_|refine E8 ?_|refine A8 ?_|refine P9 ?_|(refine D5 (ht:=fun _=>?_) (hf:=fun _=>?_)<;>try first|contradiction|omega))
    exact A02 (⟨0,I1,sa1,sp1,da1,dp1⟩:FX) (by exact⟨rfl,rfl,rfl,rfl,trivial⟩) ⟨hm,hle1⟩
  rw[if_neg k3]at hcr;by_cases k4:e.kind=4
  ·rw[if_pos k4]at hcr
   subst hcr;have hc:=C6Q (at_:=at_) hun hsc hsl e hsm (fun y hy=>ih y (by have:=A2r hy;omega) (by obtain⟨j,hj,rfl⟩:=A1K hy;exact A1G hasm (G6 hj))) I b o tc ea ec ys s sa sp da dp hn hC hp hr hx;repeat' (first|refine F6 (d:=48) ?_ hm (hc:=hc);clear hm;rintro _ I2 _ _ ⟨rfl,sa2,sp2,da2,dp2,rfl⟩ hle hm;have hleI2:=hle;try simp only[F9]at hm|refine J5 ?_ hm|refine D8 ?_|refine D6 ?_|refine N9 ?_|refine E5 ?_|refine C9 ?_|refine D9 ?_|refine A7 ?_|refine D7 ?_|refine E8 ?_|refine A8 ?_|refine F5 ?_|(refine D5 (ht:=fun _=>?_) (hf:=fun _=>?_)<;>try first|contradiction|omega))
   exact A02 (⟨0,I2,sa2,sp2,da2,dp2⟩:FX) (by exact⟨rfl,rfl,rfl,rfl,trivial⟩) ⟨hm,hleI2⟩
  ·rw[if_neg k4]at hcr
   subst hcr;repeat' (first|refine J5 ?_ hm|refine D8 ?_|refine D6 ?_|refine N9 ?_|refine E5 ?_|refine C9 ?_|refine D9 ?_|refine A7 ?_|refine D7 ?_|refine E8 ?_|refine A8 ?_|refine F5 ?_|refine G5 ?_|(refine D5 (ht:=fun _=>?_) (hf:=fun _=>?_)<;>try first|contradiction|omega))
   exact A02 (⟨0,I,sa,sp,da,dp⟩:FX) (by exact⟨rfl,rfl,rfl,rfl,trivial⟩) ⟨hm,Le.refl _⟩
 ·clear hm
  rintro⟨_,I1,sa1,sp1,da1,dp1⟩ w1 ⟨hm,hle1⟩;dsimp only at hm hle1 |-;have hp1:=hp.le hle1;clear hcr hp hr hx;cases hv:r.2.hv with
  |some m=>
   rw[C27 hv];have e1:r.2=⟨r.2.ds,some m⟩:=by rw[<-hv]
   rw[e1]at hm |-;repeat' (first|refine V3 ?_ hm|refine D8 ?_|refine D6 ?_|refine D9 ?_|refine A7 ?_|refine E8 ?_|refine A8 ?_|refine G5 ?_|refine H8 ?_|refine J9 ?_|refine U5 ?_|refine A0j ?_;intro _ hkq;replace hm:=hm.kept0 hkq;clear hkq|refine F7 ?_|refine X5 ?_|refine A09 ?_|refine C3X ?_|refine O8 ?_|refine L6 ?_|refine A38 ?_)
   exact⟨I1,_,⟨rfl,_,_,_,_,rfl⟩,hm⟩
  |none=>
   have e1:r.2=⟨r.2.ds,none⟩:=by rw[<-hv]
   by_cases hh:(e.fr:Int)<=at_/\at_<e.to
   ·rw[C47 hv hh.1 hh.2]
    rw[e1]at hm;repeat' (first|refine A0k (d:=80) (hc:=by exact A69 _ _ hlt hun _) (k:=?_);rintro _ _ ⟨rfl,rfl⟩|refine V3 ?_ hm|refine A0q ?_ hm|refine O6 hm (k:=?_);clear hm;intro _ hm;try simp only[F9]at hm|refine D8 ?_|refine D6 ?_|refine E5 ?_|refine C9 ?_|refine D9 ?_|refine A7 ?_|refine E8 ?_|refine A8 ?_|refine H8 ?_|refine J9 ?_|refine U5 ?_|refine A0j ?_;intro _ hkq;replace hm:=hm.kept0 hkq;clear hkq|(refine D5 (ht:=fun _=>?_) (hf:=fun _=>?_)<;>try first|contradiction|omega)|refine X5 ?_|refine A0p ?_|refine A2y ?_|refine C6t ?_|refine C3X ?_|refine O8 ?_|refine L6 ?_|(refine Y6 (fun _=>?_) (h1:=fun _=>?_)<;>try first|contradiction|omega))
    exact⟨I1,_,⟨rfl,_,_,_,_,rfl⟩,hm⟩
   ·rw[C46 hh]
    rw[e1]at hm |-;repeat' (first|refine V3 ?_ hm|refine A0q ?_ hm|refine D8 ?_|refine D6 ?_|refine D9 ?_|refine A7 ?_|refine E8 ?_|refine A8 ?_|refine G5 ?_|refine H8 ?_|refine J9 ?_|refine U5 ?_|refine A0j ?_;intro _ hkq;replace hm:=hm.kept0 hkq;clear hkq|refine F7 ?_|(refine D5 (ht:=fun _=>?_) (hf:=fun _=>?_)<;>try first|contradiction|omega)|refine X5 ?_|refine A0p ?_|refine A09 ?_|refine A2y ?_|refine C6t ?_|refine C3X ?_|refine O8 ?_|refine L6 ?_|refine A38 ?_|(refine Y6 (fun _=>?_) (h1:=fun _=>?_)<;>try first|contradiction|omega))
    all_goals exact⟨I1,_,⟨rfl,_,_,_,_,rfl⟩,hm⟩
end
section
variable (its:List Sp.Itm) (it:Sp.Itm) (bc bf:Nat) (a:Option Addr) (cp:Nat) (xs:List Value) (pi vf:Value) (at_:Int)
def C6i (x:Sp.Stm):Prop:=
 ∀(I:P6) (b o tc:Nat) (cs:List Value) (un:Nat) (sc:List Sp.Lc) (s:Sp.FW) (sa:Option Addr) (sp:Nat) (da:Option Addr) (dp:Nat),un<256->A4M sc->sc.length+x.cnt<=1000000000->s.ds.length+2 *x.cnt<=1000000000->FC I its it bf a cp xs pi vf->
  PtrI I b o tc cs->A5j I x cs->
  CalM prog 141 #[ptr bc,.pointer (some ⟨b,o,none⟩),nt un] I (FSt bc bf pi sc sa sp s da dp vf at_) (ToF bc bf pi vf at_ (A8g its it.label at_ x sc un s).1 (A8g its it.label at_ x sc un s).2 (.tuple #[]))
def B9S (l:List Sp.Stm):Prop:=
 ∀(I:P6) (ab:Option Addr) (cb:Nat) (xb:List Value) (un:Nat) (sc:List Sp.Lc) (s:Sp.FW) (sa:Option Addr) (sp:Nat) (da:Option Addr) (dp:Nat),un<256->A4M sc->sc.length+P8 l<=1000000000->s.ds.length+2 *P8 l<=1000000000->FC I its it bf a cp xs pi vf->
  RowI I 111 15 (.slice ab l.length cb) l.length xb->X6 I l xb->
  CalM prog 114 #[ptr bc,.slice ab l.length cb,nt un] I (FSt bc bf pi sc sa sp s da dp vf at_) (ToF bc bf pi vf at_ sc (A1C its it.label at_ l sc un s).2 (.tuple #[]))
end
section
variable {its:List Sp.Itm}{it:Sp.Itm}{bc bf:Nat}{a:Option Addr}{cp:Nat}{xs:List Value}{pi vf:Value}{at_:Int}
theorem C41 (l:List Sp.Stm) (hl:l.length<=64) (hlab:X7 B0w B0P l) (hS:∀y∈l,C6i its it bc bf a cp xs pi vf at_ y):B9S its it bc bf a cp xs pi vf at_ l:=by
 intro I ab cb xb un sc s sa sp da dp hun hsl hn1 hn2 hC hr hx;refine CalM.of fun w E hm=>enter (N:=34) func114 rfl [(0,ptr bc),(1,.slice ab l.length cb),(2,nt un)] A3C rfl ?_
 repeat' (first|refine J4 ?_ hm|refine D8 ?_|refine D6 ?_|refine G7 ?_|refine E5 ?_|refine C9 ?_|refine D9 ?_|refine A7 ?_|refine E8 ?_|refine A8 ?_|refine F5 ?_)
 refine U2 (fun x:FX=> [(0,ptr bc),(1,.slice ab l.length cb),(2,nt un),(6,nt sc.length),(14,nt l.length),(15,nt x.k)])
  (fun x w'=>Mem E x.I (FSt bc bf pi (A1C its it.label at_ (l.take x.k) sc un s).1 x.sa x.sp (A1C its it.label at_ (l.take x.k) sc un s).2 x.da x.dp vf at_) w'/\Le I x.I/\x.k<=l.length) (fun x=>l.length-x.k) ⟨0,I,sa,sp,da,dp⟩
  (by exact⟨rfl,rfl,rfl,rfl,rfl,rfl,trivial⟩) ⟨by dsimp only;rw[Z9,A1C];exact hm,Le.refl _,H7 _⟩ ?_
 clear hm;rintro⟨k,I1,sa1,sp1,da1,dp1⟩ w1 ⟨hm,hle1,hk⟩;dsimp only at hm hle1 hk |-;have hC1:=hC.le hle1;have hrow:=hr.le hle1;by_cases hlt:k<l.length
 ·have hg:l[k]?=some l[k]:=G6 hlt
  have hmem:=O7 hlt;obtain⟨cs,hcs⟩:∃cs,cs=(xb.drop (k *15)).take 15:=⟨_,rfl⟩;have hat:=hx.get hg;rw[<-hcs]at hat
  have hSk:=hS _ hmem;generalize l[k]=y at hg hmem hat hSk;have hst:=B9C its it.label at_ hg sc un s;have hcy:=A4t hg;have hnn:=A8i its it.label at_ (l.take k) sc un s;have hsl1:=B4Y hC.lab it.label at_ (l.take k) hsl hun (A8h k hlab) s;have htl:(l.take k).length=k:=by rw[Q4];omega
  generalize A1C its it.label at_ (l.take k) sc un s=q at hm hst hnn hsl1;have hkc:k<=P8 (l.take k):=by
   have key:∀(l:List Sp.Stm),l.length<=P8 l:=by
    intro l;induction l with
    |nil=>simp
    |cons x l ih=>rw[P8,F8];have:=Sp.Stm.cnt_eq x;omega
   have:=key (l.take k);omega
  have hcl:=fun b o (hpt:PtrI I1 b o 111 cs)=>hSk I1 b o 111 cs un q.1 q.2 sa1 sp1 da1 dp1 hun hsl1 (by omega) (by omega) hC1 hpt (A5j.le hle1 _ _ hat)
  generalize A8g its it.label at_ y q.1 un q.2=p at hcl hst;repeat' (first|refine O0 (d:=21) ?_ (hr:=hrow);intro bt ot hpt;rw[show ((k:Int).toNat *15)=k *15 from rfl, <-hcs]at hpt|refine F6 (d:=23) ?_ hm (hc:=hcl _ _ hpt);clear hm;rintro _ I2 _ _ ⟨rfl,sa2,sp2,da2,dp2,rfl⟩ hle hm;have hleI2:=hle;try simp only[F9]at hm|refine D8 ?_|refine D6 ?_|refine J6 ?_|refine P7 ?_|refine D9 ?_|refine A7 ?_|refine D7 ?_|refine E8 ?_|refine A8 ?_|refine F5 ?_|refine G5 ?_|(refine D5 (ht:=fun _=>?_) (hf:=fun _=>?_)<;>try first|contradiction|omega))
  exact L9 (⟨k+1,I2,sa2,sp2,da2,dp2⟩:FX) (by exact⟨rfl,rfl,rfl,rfl,rfl,rfl,trivial⟩) ⟨by dsimp only;rw[hst];exact hm,hle1.trans hleI2,by dsimp only;omega⟩ (by dsimp only;omega)
 ·obtain rfl:k=l.length:=by omega
  have hback:=B9B its it.label at_ l sc un s;have hpl:=(A8i its it.label at_ l sc un s).2.2.1;rw[V5]at hm;generalize A1C its it.label at_ l sc un s=q at hm hback hpl |-;repeat' (first|refine A9u (d:=31) ?_ hm (hmn:=hpl);clear hm;intro hm;try simp only[F9]at hm|refine J4 ?_ hm|refine O6 hm (k:=?_);clear hm;intro _ hm;try simp only[F9]at hm|refine D8 ?_|refine J6 ?_|refine E5 ?_|refine C9 ?_|refine D9 ?_|refine A7 ?_|refine H9 ?_|refine H5 ?_|refine E8 ?_|refine A8 ?_|refine P9 ?_|refine X0 ?_|(refine D5 (ht:=fun _=>?_) (hf:=fun _=>?_)<;>try first|contradiction|omega))
  refine⟨I1,_,⟨rfl,sa1,sp1,da1,dp1,?_⟩,hm⟩
  have e:(q.1.flatMap A8u).take (sc.length *2)=sc.flatMap A8u:=by
   have key:∀(l:List Sp.Lc) (n:Nat),(l.flatMap A8u).take (n *2)=(l.take n).flatMap A8u:=by
    intro l;induction l with
    |nil=>intro n;simp
    |cons x l ih=>
     intro n;cases n with
     |zero=>simp
     |succ n=>
      rw[A0a,A1l,A0a,show (n+1) *2=2+n *2 by omega,A6C,A0u (by show 2<=2+n *2;omega),show 2+n *2-(A8u x).length=n *2 by (show 2+n *2-2=n *2;omega),ih]
   rw[key,hback]
  rw[e]
end
theorem B2G (bc bf:Nat) (pi:Value) (sc:List Sp.Lc) (sa:Option Addr) (sp:Nat) (s:Sp.FW) (n:List UInt8) (x:Nat) (da:Option Addr) (dp:Nat) (vf:Value) (at_:Int):
  [.obj bc (.cells [ptr bf,pi,.slice sa (sc.length+1) sp,.slice da s.ds.length dp,vf,.int .i64 at_,.bool s.hv.isSome,nt (s.hv.getD 0)].toArray 168 (0,0)),.row (.slice sa (sc.length+1) sp) 213 2 (sc.length+1) (sc.flatMap A8u++A8u ⟨n,x⟩),A39 s.ds da dp]=FSt bc bf pi (sc++ [⟨n,x⟩]) sa sp s da dp vf at_:=by
 simp
section
variable {its:List Sp.Itm}{it:Sp.Itm}{bc bf:Nat}{a:Option Addr}{cp:Nat}{xs:List Value}{pi vf:Value}{at_:Int}
theorem C6S (x:Sp.Stm) (hsm:x.small) (hlb:x.label<256) (hT:B9S its it bc bf a cp xs pi vf at_ x.thn) (hL:B9S its it bc bf a cp xs pi vf at_ x.els):C6i its it bc bf a cp xs pi vf at_ x:=by
 intro I b o tc cs un sc s sa sp da dp hun hsl hn1 hn2 hC hp hx;obtain⟨s1,s2,s3,s4,s5⟩:=A1S hsm;have hcnt:=Sp.Stm.cnt_eq x;refine CalM.of fun w E hm=>enter (N:=136) func141 rfl [(0,ptr bc),(1,.pointer (some ⟨b,o,none⟩)),(2,nt un)] A3C rfl ?_
 obtain⟨ea,ec,ex,a1,c1,xs1,a2,c2,xs2,rfl,hr3,hx3,hr4,hx4,hr5,hx5⟩:=hx.out;have hpe:=hp.sub (cs':=A0z x.e ea ec) 5 (fun j u hj=>by
  match j,hj with
  |0,hj=>exact hj
  |1,hj=>exact hj
  |2,hj=>exact hj
  |3,hj=>exact hj
  |4,hj=>exact hj
  |5,hj=>exact hj
  |j+6,hj=>cases hj)
 rw[C5X];have hu1:=C4q hC.lab hsl x.kind hun x.e;have hur:Sp.unF its sc x.kind un x.e=if x.kind=4 then A2C its sc x.e|||un else un:=rfl
 generalize Sp.unF its sc x.kind un x.e=un1 at hu1 hur |-;repeat' (first|refine B2e 0 (fun _:FX=> [(0,ptr bc),(1,.pointer (some ⟨b,o,none⟩)),(2,nt un1)]) (fun x w'=>Mem E I (FSt bc bf pi sc sa sp s da dp vf at_) w') ?_ ?_)
 ·refine⟨?_⟩
  by_cases k4:x.kind=4
  ·rw[if_pos k4]at hur
   subst hur;have hpl:=A4L hC.lab hsl x.e;have hg:=CalR.flow (I:=I) (bc:=bc) (bf:=bf) (pi:=pi) (sc:=sc) (sa:=sa) (sp:=sp) (s:=s) (da:=da) (dp:=dp) (vf:=vf) (at_:=at_) (fun J m h=>C2R (by omega) hsl _ x.e (G9 _) s1 J b (o+5) tc ea ec ex h (hC.le m) (hpe.le m) (hr3.le m) (Y7.le m _ _ hx3));repeat' (first|refine S9 (d:=18) ?_ hm (hs:=B9L) (hc:=by exact hg);clear hm;intro _ hm|refine A0k (d:=20) (hc:=by exact A69 _ _ hpl hun _) (k:=?_);rintro _ _ ⟨rfl,rfl⟩|refine J5 ?_ hm|refine D8 ?_|refine D6 ?_|refine N9 ?_|refine E5 ?_|refine C9 ?_|refine D9 ?_|refine A7 ?_|refine E8 ?_|refine A8 ?_|(refine D5 (ht:=fun _=>?_) (hf:=fun _=>?_)<;>try first|contradiction|omega))
   exact A02 (⟨0,I,sa,sp,da,dp⟩:FX) (by exact⟨rfl,rfl,rfl,trivial⟩) hm
  ·rw[if_neg k4]at hur
   subst hur;repeat' (first|refine J5 ?_ hm|refine D8 ?_|refine N9 ?_|refine E5 ?_|refine C9 ?_|refine D9 ?_|refine A7 ?_|refine E8 ?_|refine A8 ?_|refine G5 ?_|(refine D5 (ht:=fun _=>?_) (hf:=fun _=>?_)<;>try first|contradiction|omega))
   exact A02 (⟨0,I,sa,sp,da,dp⟩:FX) (by exact⟨rfl,rfl,rfl,trivial⟩) hm
 clear hm hur;rintro⟨_,_,_,_,_,_⟩ w1 hm;try dsimp only at hm |-
 have hE:=C6R (its:=its) (it:=it) (bc:=bc) (bf:=bf) (a:=a) (cp:=cp) (xs:=xs) (pi:=pi) (vf:=vf) (at_:=at_) hu1 (by omega) hsl _ x.e (G9 _) s1 I b (o+5) tc ea ec ex s sa sp da dp (by omega) hC hpe hr3 hx3;have hl1:=B1k hC.lab at_ hsl un1 x.e s;have hnx:=B4l its at_ sc un1 x.e s;generalize Sp.exF its at_ sc un1 x.e s=r at hE hl1 hnx |-;have hl2:=A9U hl1 hu1;obtain⟨av,hav⟩:∃av,av=r.1|||un1:=⟨_,rfl⟩
 rw[<-hav]at hl2 |-;have hJ:=A69 r.1 un1 hl1 hu1;rw[<-hav]at hJ;have hto:=fun (J:P6) (m:Le I J) (c:Nat) (hc:c<256) (sa:Option Addr) (sp:Nat) (da:Option Addr) (dp:Nat)=>C8O (I:=J) (bc:=bc) (bf:=bf) (pi:=pi) (sc:=sc) (sa:=sa) (sp:=sp) (s:=r.2) (da:=da) (dp:=dp) (vf:=vf) (at_:=at_) x b o tc _ (hp.le m) (A5j.le m _ _ hx) av c hl2 hc (by omega)
 rw[B5e];by_cases k1:x.kind=1
 ·rw[if_pos k1]
  cases ho:x.opn with
  |true=>
   rw[ho]at hp;simp only[if_true];have hto1:=fun (J:P6) (m:Le I J) (sa:Option Addr) (sp:Nat) (da:Option Addr) (dp:Nat)=>hto J m av hl2 sa sp da dp
   generalize hs6:Sp.FW.ask r.2 av av x.fr x.to x.name=s6 at hto1 |-;repeat' (first|refine F6 (d:=26) ?_ hm (hc:=hE);clear hm;rintro _ I2 _ _ ⟨rfl,sa2,sp2,da2,dp2,rfl⟩ hle hm;have hleI2:=hle;try simp only[F9]at hm;have hp2:=hp.le hleI2|refine A0k (d:=28) (hc:=by exact hJ _) (k:=?_);rintro _ _ ⟨rfl,rfl⟩|refine F6 (d:=48) ?_ hm (hc:=hto1 I2 hleI2 sa2 sp2 da2 dp2);clear hm;rintro _ I3 _ _ ⟨rfl,sa3,sp3,da3,dp3,rfl⟩ hle hm;have hleI3:=hle;try simp only[F9]at hm;have hp3:=hp2.le hleI3|refine A0s (id:=9) (hm.perm pm1_1) 11 13 (h:=?_);clear hm;intro wd hR hm|refine Y3 ?_ hR|refine A0c ?_ hR|refine A1U (d:=61) ?_ hm;clear hm;intro a61 cp61 _ _ hm;replace hm:=hR.back hm;clear hR;try simp only[F9]at hm|refine J5 ?_ hm|refine O6 hm (k:=?_);clear hm;intro _ hm;try simp only[F9]at hm|refine D8 ?_|refine D6 ?_|refine N9 ?_|refine E5 ?_|refine C9 ?_|refine D9 ?_|refine A7 ?_|refine D7 ?_|refine E8 ?_|refine A8 ?_|refine F5 ?_|refine X0 ?_|refine H6 ?_|(refine D5 (ht:=fun _=>?_) (hf:=fun _=>?_)<;>try first|contradiction|omega)|refine Z4 ?_|refine O5 ?_|refine J8 ?_|refine A2M ?_|refine A0b ?_)
   exact⟨I3,_,⟨rfl,_,_,_,_,B2G _ _ _ _ _ _ _ _ _ _ _ _ _⟩,hm.swap⟩
  |false=>
   rw[ho]at hp;simp only[A6y,if_false];have hto1:=fun (J:P6) (m:Le I J) (sa:Option Addr) (sp:Nat) (da:Option Addr) (dp:Nat)=>hto J m x.label hlb sa sp da dp
   generalize hs6:Sp.FW.ask r.2 av x.label x.fr x.to x.name=s6 at hto1 |-;repeat' (first|refine F6 (d:=26) ?_ hm (hc:=hE);clear hm;rintro _ I2 _ _ ⟨rfl,sa2,sp2,da2,dp2,rfl⟩ hle hm;have hleI2:=hle;try simp only[F9]at hm;have hp2:=hp.le hleI2|refine A0k (d:=28) (hc:=by exact hJ _) (k:=?_);rintro _ _ ⟨rfl,rfl⟩|refine F6 (d:=48) ?_ hm (hc:=hto1 I2 hleI2 sa2 sp2 da2 dp2);clear hm;rintro _ I3 _ _ ⟨rfl,sa3,sp3,da3,dp3,rfl⟩ hle hm;have hleI3:=hle;try simp only[F9]at hm;have hp3:=hp2.le hleI3|refine A0s (id:=9) (hm.perm pm1_1) 11 13 (h:=?_);clear hm;intro wd hR hm|refine Y3 ?_ hR|refine A0c ?_ hR|refine A1U (d:=61) ?_ hm;clear hm;intro a61 cp61 _ _ hm;replace hm:=hR.back hm;clear hR;try simp only[F9]at hm|refine J5 ?_ hm|refine O6 hm (k:=?_);clear hm;intro _ hm;try simp only[F9]at hm|refine D8 ?_|refine D6 ?_|refine N9 ?_|refine E5 ?_|refine C9 ?_|refine D9 ?_|refine A7 ?_|refine D7 ?_|refine E8 ?_|refine A8 ?_|refine F5 ?_|refine G5 ?_|refine X0 ?_|refine F7 ?_|(refine D5 (ht:=fun _=>?_) (hf:=fun _=>?_)<;>try first|contradiction|omega)|refine Z4 ?_|refine O5 ?_|refine J8 ?_|refine A2M ?_|refine A0b ?_)
   exact⟨I3,_,⟨rfl,_,_,_,_,B2G _ _ _ _ _ _ _ _ _ _ _ _ _⟩,hm.swap⟩
 rw[if_neg k1];by_cases k2:x.kind=2
 ·rw[if_pos k2]
  have hg:=fun (J:P6) (sa:Option Addr) (sp:Nat) (da:Option Addr) (dp:Nat)=>CalR.flow (I:=J) (bc:=bc) (bf:=bf) (pi:=pi) (sc:=sc) (sa:=sa) (sp:=sp) (s:=r.2) (da:=da) (dp:=dp) (vf:=vf) (at_:=at_) (fun J m h=>B8G x.name (by omega) h)
  have hgl:=B5j hsl x.name;repeat' (first|refine F6 (d:=26) ?_ hm (hc:=hE);clear hm;rintro _ I2 _ _ ⟨rfl,sa2,sp2,da2,dp2,rfl⟩ hle hm;have hleI2:=hle;try simp only[F9]at hm;have hp2:=hp.le hleI2;have hCf2:=hC.file.le hleI2|refine A0k (d:=28) (hc:=by exact hJ _) (k:=?_);rintro _ _ ⟨rfl,rfl⟩|refine S9 (d:=74) ?_ hm (hs:=B9L) (hc:=by exact hg I2 sa2 sp2 da2 dp2);clear hm;intro _ hm|refine F6 (d:=75) ?_ hm (hc:=hto I2 hleI2 _ hgl sa2 sp2 da2 dp2);clear hm;rintro _ I3 _ _ ⟨rfl,sa3,sp3,da3,dp3,rfl⟩ hle hm;have hleI3:=hle;try simp only[F9]at hm|refine J5 ?_ hm|refine D8 ?_|refine D6 ?_|refine N9 ?_|refine E5 ?_|refine C9 ?_|refine D9 ?_|refine A7 ?_|refine D7 ?_|refine E8 ?_|refine A8 ?_|refine F5 ?_|refine X0 ?_|(refine D5 (ht:=fun _=>?_) (hf:=fun _=>?_)<;>try first|contradiction|omega))
  exact⟨I3,_,⟨rfl,_,_,_,_,rfl⟩,hm⟩
 rw[if_neg k2];by_cases k5:x.kind=5
 ·rw[if_pos k5]
  have hfind:=fun (J:P6) (m:Le I J)=>(A7b 1 x.name its J a cp xs (hC.fe.le m)).read
  rw[B4b];cases hf:A0Z its 1 x.name with
  |none=>
   rw[A6q hf]at hfind;repeat' (first|refine F6 (d:=26) ?_ hm (hc:=hE);clear hm;rintro _ I2 _ _ ⟨rfl,sa2,sp2,da2,dp2,rfl⟩ hle hm;have hleI2:=hle;try simp only[F9]at hm;have hp2:=hp.le hleI2;have hCf2:=hC.file.le hleI2|refine A0k (d:=28) (hc:=by exact hJ _) (k:=?_);rintro _ _ ⟨rfl,rfl⟩|refine A0n (d:=88) ?_ hm (hc:=hfind I2 hleI2)|refine J5 ?_ hm|refine V3 ?_ hm|refine A0q ?_ hm|refine A6s ?_ hm|refine D8 ?_|refine D6 ?_|refine A04 ?_|refine N9 ?_|refine E5 ?_|refine C9 ?_|refine D9 ?_|refine A7 ?_|refine D7 ?_|refine E8 ?_|refine A8 ?_|refine F5 ?_|refine G5 ?_|refine X0 ?_|refine U5 ?_|refine A0j ?_;intro _ hkq;replace hm:=hm.kept0 hkq;clear hkq|refine F7 ?_|(refine D5 (ht:=fun _=>?_) (hf:=fun _=>?_)<;>try first|contradiction|omega)|refine X5 ?_|refine A1X ?_|refine O8 ?_|refine L6 ?_)
   exact⟨I2,_,⟨rfl,_,_,_,_,rfl⟩,hm⟩
  |some j=>
   rw[A6r hf]at hfind;obtain⟨hj,_,_,_,hmemj⟩:=A2D hf;obtain⟨ci,hci,hat,hlc⟩:=hC.fe.get (A2G hj);obtain⟨pa,pc,sa9,sc9,ba,bc9,da9,dc9,xb,rfl,_⟩:=hat
   have hjl:=(hC.lab _ hmemj).1;have hri:=hC.fe.row;have hfew:=hC.fe.few;repeat' (first|refine F6 (d:=26) ?_ hm (hc:=hE);clear hm;rintro _ I2 _ _ ⟨rfl,sa2,sp2,da2,dp2,rfl⟩ hle hm;have hleI2:=hle;try simp only[F9]at hm;have hp2:=hp.le hleI2;have hCf2:=hC.file.le hleI2|refine A0k (d:=28) (hc:=by exact hJ _) (k:=?_);rintro _ _ ⟨rfl,rfl⟩|refine A0n (d:=88) ?_ hm (hc:=hfind I2 hleI2)|refine O0 (d:=102) ?_ (hr:=hri.le hleI2);intro bu ou hpu;rw[show ((j:Int).toNat *10)=j *10 from rfl,hci]at hpu|refine F6 (d:=105) ?_ hm (hc:=hto I2 hleI2 _ hjl sa2 sp2 da2 dp2);clear hm;rintro _ I3 _ _ ⟨rfl,sa3,sp3,da3,dp3,rfl⟩ hle hm;have hleI3:=hle;try simp only[F9]at hm|refine J4 ?_ hm|refine J5 ?_ hm|refine V3 ?_ hm|refine A0q ?_ hm|refine A6s ?_ hm|refine D8 ?_|refine D6 ?_|refine A04 ?_|refine N9 ?_|refine E5 ?_|refine C9 ?_|refine D9 ?_|refine A7 ?_|refine D7 ?_|refine E8 ?_|refine A8 ?_|refine F5 ?_|refine X0 ?_|refine U5 ?_|refine A0j ?_;intro _ hkq;replace hm:=hm.kept0 hkq;clear hkq|refine H6 ?_|(refine D5 (ht:=fun _=>?_) (hf:=fun _=>?_)<;>try first|contradiction|omega)|refine X5 ?_|refine A1X ?_|refine O8 ?_|refine L6 ?_)
   exact⟨I3,_,⟨rfl,_,_,_,_,rfl⟩,hm⟩
 rw[if_neg k5];by_cases k6:x.kind=6
 ·rw[if_pos k6]
  obtain⟨bi,oi,tci,ci,rfl,hpi,hati⟩:=hC.item;obtain⟨pa,pc,sa9,sc9,ba,bc9,da9,dc9,xb,rfl,_⟩:=hati;repeat' (first|refine F6 (d:=26) ?_ hm (hc:=hE);clear hm;rintro _ I2 _ _ ⟨rfl,sa2,sp2,da2,dp2,rfl⟩ hle hm;have hleI2:=hle;try simp only[F9]at hm;have hp2:=hp.le hleI2;have hpi2:=hpi.le hleI2;have hCf2:=hC.file.le hleI2|refine A0k (d:=28) (hc:=by exact hJ _) (k:=?_);rintro _ _ ⟨rfl,rfl⟩|refine F6 (d:=118) ?_ hm (hc:=hto I2 hleI2 _ hC.own sa2 sp2 da2 dp2);clear hm;rintro _ I3 _ _ ⟨rfl,sa3,sp3,da3,dp3,rfl⟩ hle hm;have hleI3:=hle;try simp only[F9]at hm|refine J4 ?_ hm|refine J5 ?_ hm|refine D8 ?_|refine D6 ?_|refine N9 ?_|refine E5 ?_|refine C9 ?_|refine D9 ?_|refine A7 ?_|refine D7 ?_|refine E8 ?_|refine A8 ?_|refine F5 ?_|refine X0 ?_|(refine D5 (ht:=fun _=>?_) (hf:=fun _=>?_)<;>try first|contradiction|omega))
  exact⟨I3,_,⟨rfl,_,_,_,_,rfl⟩,hm⟩
 rw[if_neg k6];by_cases k34:x.kind=3\/x.kind=4
 ·rw[if_pos k34]
  have hb1:=fun (J:P6) (m:Le I J) (sa:Option Addr) (sp:Nat) (da:Option Addr) (dp:Nat)=>hT J a1 c1 xs1 av sc r.2 sa sp da dp hl2 hsl (by omega) (by omega) (hC.le m) (hr4.le m) (X6.le m _ _ hx4)
  have hnn:=A8i its it.label at_ x.thn sc av r.2;generalize A1C its it.label at_ x.thn sc av r.2=r7 at hb1 hnn |-;have hb2:=fun (J:P6) (m:Le I J) (sa:Option Addr) (sp:Nat) (da:Option Addr) (dp:Nat)=>hL J a2 c2 xs2 av sc r7.2 sa sp da dp hl2 hsl (by omega) (by omega) (hC.le m) (hr5.le m) (X6.le m _ _ hx5)
  repeat' (first|refine F6 (d:=26) ?_ hm (hc:=hE);clear hm;rintro _ I2 _ _ ⟨rfl,sa2,sp2,da2,dp2,rfl⟩ hle hm;have hleI2:=hle;try simp only[F9]at hm;have hp2:=hp.le hleI2;have hCf2:=hC.file.le hleI2|refine A0k (d:=28) (hc:=by exact hJ _) (k:=?_);rintro _ _ ⟨rfl,rfl⟩|refine F6 (d:=128) ?_ hm (hc:=hb1 I2 hleI2 sa2 sp2 da2 dp2);clear hm;rintro _ I3 _ _ ⟨rfl,sa3,sp3,da3,dp3,rfl⟩ hle hm;have hleI3:=hle;try simp only[F9]at hm;have hp3:=hp2.le hleI3|refine F6 (d:=135) ?_ hm (hc:=hb2 I3 (hleI2.trans hleI3) sa3 sp3 da3 dp3);clear hm;rintro _ I4 _ _ ⟨rfl,sa4,sp4,da4,dp4,rfl⟩ hle hm;have hleI4:=hle;try simp only[F9]at hm|refine J5 ?_ hm|refine D8 ?_|refine D6 ?_|refine N9 ?_|refine E5 ?_|refine C9 ?_|refine D9 ?_|refine A7 ?_|refine D7 ?_|refine E8 ?_|refine A8 ?_|refine F5 ?_|refine G5 ?_|refine X0 ?_|(refine D5 (ht:=fun _=>?_) (hf:=fun _=>?_)<;>try first|contradiction|omega))
  all_goals exact⟨I4,_,⟨rfl,_,_,_,_,rfl⟩,hm⟩
 ·rw[if_neg k34]
  repeat' (first|refine F6 (d:=26) ?_ hm (hc:=hE);clear hm;rintro _ I2 _ _ ⟨rfl,sa2,sp2,da2,dp2,rfl⟩ hle hm;have hleI2:=hle;try simp only[F9]at hm;have hp2:=hp.le hleI2;have hCf2:=hC.file.le hleI2|refine A0k (d:=28) (hc:=by exact hJ _) (k:=?_);rintro _ _ ⟨rfl,rfl⟩|refine J5 ?_ hm|refine D8 ?_|refine D6 ?_|refine N9 ?_|refine E5 ?_|refine C9 ?_|refine D9 ?_|refine A7 ?_|refine D7 ?_|refine E8 ?_|refine A8 ?_|refine F5 ?_|refine G5 ?_|refine X0 ?_|(refine D5 (ht:=fun _=>?_) (hf:=fun _=>?_)<;>try first|contradiction|omega))
  exact⟨I2,_,⟨rfl,_,_,_,_,rfl⟩,hm⟩
end
section
variable {its:List Sp.Itm}{it:Sp.Itm}{bc bf:Nat}{a:Option Addr}{cp:Nat}{xs:List Value}{pi vf:Value}{at_:Int}
theorem C8h:∀(n:Nat) (l:List Sp.Stm),SizeOf.sizeOf l<=n->l.length<=64->A0i l->X7 B0w B0P l->B9S its it bc bf a cp xs pi vf at_ l:=by
 intro n;induction n with
 |zero=>intro l h;cases l<;>simp at h
 |succ n ih=>
 intro l hsz hll hsm hal;refine C41 l hll hal (fun y hy=>?_)
 obtain⟨j,hj,rfl⟩:=A1K hy;have hg:=G6 hj;have h1:=A1D hsm hg;have h2:=Sp.Stm.all_node (A4N hal hg);have h3:=A3w (O7 hj);generalize l[j]=y at h1 h2 h3;obtain⟨s1,s2,s3,s4,s5⟩:=A1S h1;obtain⟨z1,z2⟩:=A5T (s:=y);exact C6S y h1 h2.1 (ih y.thn (by omega) s2 s3 h2.2.2.1) (ih y.els (by omega) s4 s5 h2.2.2.2)
theorem C2Q (I:P6) (h:FE I its a cp xs) (hlab:A26 its) (hsm:∀x∈its,x.small):
  CalM prog 113 #[.agg [.slice a its.length cp].toArray] I [] (fun v I' H'=>H'= []/\∃fa fp,v=.slice fa its.length fp/\RowI I' 3 1 (.slice fa its.length fp) its.length ((A4W its).flatMap A1t)):=by
 refine CalM.of fun w E hm=>enter (N:=45) func113 rfl [(0,.agg [.slice a its.length cp].toArray)] A0I rfl ?_
 have hfew:=h.few;have hfl:(A4W its).length=its.length:=by simp[A4W]
 repeat' (first|refine A0K (d:=1) ?_ hm;clear hm;intro b1 _ hm|refine J4 ?_ hm|refine D8 ?_|refine D6 ?_|refine G7 ?_|refine C9 ?_|refine D9 ?_|refine A7 ?_|refine E8 ?_|refine A8 ?_|refine F5 ?_)
 refine U2 (fun x:FX=> [(1,ptr b1),(3,.slice x.sa x.k x.sp),(11,.slice a its.length cp),(12,nt its.length),(13,nt x.k)])
  (fun x w'=>Mem E x.I [.row (.slice x.sa x.k x.sp) 3 1 x.k (((A4W its).take x.k).flatMap A1t),.cell b1 [.slice a its.length cp] 25] w'/\Le I x.I/\x.k<=its.length) (fun x=>its.length-x.k) ⟨0,I,none,0,none,0⟩
  (by exact⟨rfl,rfl,rfl,rfl,rfl,trivial⟩) ⟨hm.nil 3 1,Le.refl _,H7 _⟩ ?_
 clear hm;rintro⟨k,I1,sa1,sp1,da1,dp1⟩ w1 ⟨hm,hle1,hk⟩;dsimp only at hm hle1 hk |-;by_cases hlt:k<its.length
 ·have hg:its[k]?=some its[k]:=G6 hlt
  obtain⟨ci,hci,hat,hlc⟩:=(h.le hle1).get hg;have hri:=(h.le hle1).row;have hsk:=(hsm _ (O7 hlt)).sends;have hft:=B66 hg;generalize its[k]=it at hg hat hsk hft;obtain⟨pa,pc,sa9,sc9,ba,bc9,da9,dc9,xb,rfl,_,hsnd,_⟩:=hat
  repeat' (first|refine O0 (d:=15) ?_ (hr:=hri);intro bt ot hpt;rw[show ((k:Int).toNat *10)=k *10 from rfl,hci]at hpt|refine Y5 (d:=5) ?_ hm;clear hm;intro b5 _ hm|refine J4 ?_ hm|refine X3 ?_ hm|refine D8 ?_|refine D6 ?_|refine J6 ?_|refine G7 ?_|refine C9 ?_|refine D9 ?_|refine A7 ?_|refine E8 ?_|refine A8 ?_|refine F5 ?_|refine G5 ?_|(refine D5 (ht:=fun _=>?_) (hf:=fun _=>?_)<;>try first|contradiction|omega))
  refine U2 (fun y:NI=> [(1,ptr b1),(3,.slice sa1 k sp1),(6,nt (A6Z its (it.sends.take y.k))),(11,.slice a its.length cp),(12,nt its.length),(13,nt k),(18,.slice sa9 it.sends.length sc9),(19,nt it.sends.length),(20,nt y.k)])
   (fun y w'=>Mem E y.I [.cell b5 (A1z it.kind it.name it.label (.slice pa it.params.length pc) (.slice sa9 it.sends.length sc9) (.slice ba it.body.length bc9) it.at_ it.size it.mark (.slice da9 it.diags.length dc9)) 43,.row (.slice sa1 k sp1) 3 1 k (((A4W its).take k).flatMap A1t),.cell b1 [.slice a its.length cp] 25] w'/\Le I1 y.I/\y.k<=it.sends.length)
   (fun y=>it.sends.length-y.k) ⟨0,I1⟩ (by exact⟨rfl,rfl,rfl,rfl,rfl,rfl,rfl,rfl,rfl,trivial⟩) ⟨hm,Le.refl _,H7 _⟩ ?_
  clear hm;rintro⟨j,I2⟩ w2 ⟨hm,hle2,hj⟩;dsimp only at hm hle2 hj |-;by_cases hjl:j<it.sends.length
  ·have hgs:it.sends[j]?=some it.sends[j]:=G6 hjl
   generalize it.sends[j]=q at hgs;have hst:=C1n (its:=its) hgs;have hml:=B7n its (it.sends.take j);rw[A85]at hst;generalize A6Z its (it.sends.take j)=m at hst hml |-;have hfind:=(A7b 1 q.name its I2 a cp xs ((h.le hle1).le hle2)).read;cases hf:A0Z its 1 q.name with
   |none=>
    rw[hf]at hst;rw[A6q hf]at hfind;repeat' (first|refine Q9 (d:=22) (enc:=A2V) (z:=q) ?_ (hr:=hsnd.le hle2) (he:=fun _=>rfl) (hz:=by exact hgs);intro bz oz hpz|refine S9 (d:=27) ?_ hm (hc:=hfind);clear hm;intro _ hm|refine Y5 (d:=8) ?_ hm;clear hm;intro b8 _ hm|refine J4 ?_ hm|refine Y1 ?_ hm|refine X3 ?_ hm|refine D8 ?_|refine D6 ?_|refine J6 ?_|refine A04 ?_|refine P7 ?_|refine C9 ?_|refine D9 ?_|refine A7 ?_|refine D7 ?_|refine E8 ?_|refine A8 ?_|refine F5 ?_|refine G5 ?_|refine F7 ?_|(refine D5 (ht:=fun _=>?_) (hf:=fun _=>?_)<;>try first|contradiction|omega))
    exact L9 (⟨j+1,I2⟩:NI) (by exact⟨rfl,rfl,by rw[hst];rfl,rfl,rfl,rfl,rfl,rfl,rfl,trivial⟩) ⟨hm.tl,hle2,by dsimp only;omega⟩ (by dsimp only;omega)
   |some z=>
    rw[hf]at hst;dsimp only at hst;rw[A6r hf]at hfind;obtain⟨hz,_,_,_,hmemz⟩:=A2D hf;obtain⟨cz,hcz,hatz,_⟩:=(h.le hle1).get (A2G hz);obtain⟨pa3,pc3,sa3,sc3,ba3,bc3,da3,dc3,xb3,rfl,_⟩:=hatz;have hzl:=(hlab _ hmemz).1;have hri2:=hri.le hle2;repeat' (first|refine Q9 (d:=22) (enc:=A2V) (z:=q) ?_ (hr:=hsnd.le hle2) (he:=fun _=>rfl) (hz:=by exact hgs);intro bz oz hpz|refine S9 (d:=27) ?_ hm (hc:=hfind);clear hm;intro _ hm|refine O0 (d:=34) ?_ (hr:=hri2);intro bu ou hpu;rw[show ((z:Int).toNat *10)=z *10 from rfl,hcz]at hpu|refine A0k (d:=37) (hc:=by exact C6F _ _ hml hzl _) (k:=?_);rintro _ _ ⟨rfl,rfl⟩|refine Y5 (d:=8) ?_ hm;clear hm;intro b8 _ hm|refine J4 ?_ hm|refine J5 ?_ hm|refine Y1 ?_ hm|refine X3 ?_ hm|refine D8 ?_|refine D6 ?_|refine J6 ?_|refine A04 ?_|refine P7 ?_|refine C9 ?_|refine D9 ?_|refine A7 ?_|refine D7 ?_|refine E8 ?_|refine A8 ?_|refine F5 ?_|refine G5 ?_|refine H6 ?_|(refine D5 (ht:=fun _=>?_) (hf:=fun _=>?_)<;>try first|contradiction|omega))
    exact L9 (⟨j+1,I2⟩:NI) (by exact⟨rfl,rfl,by rw[hst];rfl,rfl,rfl,rfl,rfl,rfl,rfl,trivial⟩) ⟨hm.tl,hle2,by dsimp only;omega⟩ (by dsimp only;omega)
  ·obtain rfl:j=it.sends.length:=by omega
   rw[V5];repeat' (first|refine A2l (d:=42) ?_ hm;clear hm;intro a42 cp42 _ _ hm;try simp only[F9]at hm|refine D8 ?_|refine D6 ?_|refine J6 ?_|refine P7 ?_|refine D9 ?_|refine A7 ?_|refine H9 ?_|refine D7 ?_|refine H5 ?_|refine E8 ?_|refine A8 ?_|refine P9 ?_|(refine D5 (ht:=fun _=>?_) (hf:=fun _=>?_)<;>try first|contradiction|omega))
   refine L9 (⟨k+1,I2,_,_,none,0⟩:FX) (by exact⟨rfl,rfl,rfl,rfl,rfl,trivial⟩) ⟨?_,hle1.trans hle2,by dsimp only;omega⟩ (by dsimp only;omega)
   dsimp only
   rw[hft,X9];exact hm.tl
 ·obtain rfl:k=its.length:=by omega
  rw[A0u (by omega)]at hm;repeat' (first|refine D8 ?_|refine D6 ?_|refine J6 ?_|refine D9 ?_|refine A7 ?_|refine H9 ?_|refine H5 ?_|refine E8 ?_|refine A8 ?_|refine P9 ?_|refine H8 ?_|refine J9 ?_|(refine D5 (ht:=fun _=>?_) (hf:=fun _=>?_)<;>try first|contradiction|omega))
  obtain⟨I3,hle3,hm3,hrow⟩:=hm.freeze;exact⟨I3,[],⟨rfl,_,_,rfl,hrow⟩,hm3.left (H:= [])⟩
end
end Go.Proofs
