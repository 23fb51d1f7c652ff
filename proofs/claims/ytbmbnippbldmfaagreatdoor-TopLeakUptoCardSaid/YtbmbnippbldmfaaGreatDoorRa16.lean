/- Own work. -/
import Derived.Test.YtbmbnippbldmfaaGreatDoorRa15
import Derived.WideLaws
import Derived.Lib.MinMax
set_option maxHeartbeats 64000000
namespace Go.Sp
theorem D49 (x:Stm) (d:Nat):B3Q x d=pad d++(
  if x.kind=1 then [108,101,116,32]++x.name++(if x.opn=true then [] else [58,32]++A2X x.label)++ [32,61,32]++exW x.e++ [59,10] else
  if x.kind=2 then x.name++ [32,61,32]++exW x.e++ [59,10] else
  if x.kind=5 then [115,101,110,100,32]++x.name++ [32]++exW x.e++ [59,10] else
  if x.kind=6 then [114,101,116,117,114,110,32]++exW x.e++ [59,10] else
  if x.kind=7 then exW x.e++ [59,10] else
  if x.kind=3\/x.kind=4 then (if x.kind=4 then [119,104,105,108,101,32] else [105,102,32])++exW x.e++ [32]++B1C x.thn d++
   (if 0<x.els.length then [32,101,108,115,101,32]++B1C x.els d else [])++ [10] else [59,10]):=by
 cases x;rw[B3Q];rfl
theorem B9m {x:Stm}{d:Nat} (h:x.fitS d):x.e.fitE d 1/\((x.kind=1/\x.label<256)\/x.kind=2\/x.kind=5\/x.kind=6\/x.kind=7\/
  ((x.kind=3\/x.kind=4)/\x.thn.length<=40/\x.els.length<=40/\A0J x.thn (d+1)/\A0J x.els (d+1))):=by
 cases x
 rw[Stm.fitS]at h;refine⟨h.1,?_⟩
 rcases h.2 with h|h|h|h|h|h
 ·exact .inl ⟨h.1,h.2.2.1⟩
 ·exact .inr (.inl h.1)
 ·exact .inr (.inr (.inl h.1))
 ·exact .inr (.inr (.inr (.inl h.1)))
 ·exact .inr (.inr (.inr (.inr (.inl h.1))))
 ·exact .inr (.inr (.inr (.inr (.inr ⟨by rcases h.1 with h1|h1;exact .inl h1;exact .inr h1.1,h.2.2.2.2.2.1,h.2.2.2.2.2.2.1,h.2.2.2.2.2.2.2.1,h.2.2.2.2.2.2.2.2⟩))))
theorem B54:∀ {l:List Stm}{d i:Nat}{x:Stm},A0J l d->l[i]?=some x->x.fitS d
 | [],_,_,_,_,h=>by simp at h
 |a::l,d,0,e,h,he=>by
  rw[A0J]at h;simp only[A08,X4]at he;exact he ▸ h.1
 |a::l,d,i+1,e,h,he=>by
  rw[A0J]at h;exact B54 h.2 (by simpa using he)
theorem D2H:∀(l:List Stm) (d:Nat) (j:Nat),(A3t (l.take j) d).length<=(A3t l d).length:=fun l d j=>by
 have:=B1i (l.take j) (l.drop j) d;rw[A23]at this;rw[this,D9];omega
end Go.Sp
namespace Go.Fw
open Go.Sp
open Go
section
variable {P:Program}{N:Nat}{ds:List Deferred}{Q:Exit->Act->World->Prop}{l:Log}{w:World}{ops:Array Oper}{os:List Oper}
variable {d:Nat}{ty:TypeId}{pos:String}{af:Array Edge}{g:Option (Nat×Bool)}{t t':TypeId}{x y:Operand}
theorem C3o {te:TypeId}{pe:Value}{c:Value} (hw:X9 ops l ⟨some d,.binOp .neq t x (.const c) t',ty,pos,af,g⟩=some true) (hN:Nat.blt d N=true)
  (hx:ev l x=some (.iface te pe)) (hc:c=.nilIface) (ht:P.underlying t=some (.interface (P.methodsAt t))) (k:WL P N ds ops Q os ((d,.bool true)::l) w):
  WL P N ds ops Q (⟨some d,.binOp .neq t x (.const c) t',ty,pos,af,g⟩::os) l w:=
 X6 rfl hw hN (fun a ha=>by
  subst hc;have h:=run_neq_held_nil (P:=P) w t te pe ht;have e2:a.eval (.const .nilIface)=.nilIface:=rfl;simp[execOp,ha.ev hx,e2,eqGuard,h]) k
theorem B5W {c:Value} (hw:X9 ops l ⟨some d,.binOp .neq t x (.const c) t',ty,pos,af,g⟩=some true) (hN:Nat.blt d N=true)
  (hx:ev l x=some .nilIface) (hc:c=.nilIface) (ht:P.underlying t=some (.interface (P.methodsAt t))) (k:WL P N ds ops Q os ((d,.bool false)::l) w):
  WL P N ds ops Q (⟨some d,.binOp .neq t x (.const c) t',ty,pos,af,g⟩::os) l w:=
 X6 rfl hw hN (fun a ha=>by
  subst hc;have h:=run_equal_nil_nil (P:=P) w t ht;have e2:a.eval (.const .nilIface)=.nilIface:=rfl;simp[execOp,ha.ev hx,e2,eqGuard,binOp,h]) k
end
section
variable {P:Program}{N:Nat}{ds:List Deferred}{Q:Exit->Act->World->Prop}{K:Act->World->Prop}{l:Log}{w:World}{ops:Array Oper}{os:List Oper}
variable {d:Nat}{ty:TypeId}{pos:String}{af:Array Edge}{g:Option (Nat×Bool)}{t t':TypeId}{x y:Operand}
theorem D6B {ts:Array TypeId}{a b:Nat} (hw:X9 ops l ⟨some d,.call ⟨.builtin .max, #[x,y],ts⟩,ty,pos,af,g⟩=some true) (hN:Nat.blt d N=true)
  (hx:ev l x=some (.int .i64 (a:Int))) (hy:ev l y=some (.int .i64 (b:Int))) (k:WL P N ds ops Q os ((d,.int .i64 ((max a b:Nat):Int))::l) w):
  WL P N ds ops Q (⟨some d,.call ⟨.builtin .max, #[x,y],ts⟩,ty,pos,af,g⟩::os) l w:=
 X6 rfl hw hN (fun c hc=>by
  have h:=Lib.run_max_ints (P:=P) w ts ty .i64 .i64 (a:Int) (b:Int);simp[execOp,resolve,invoke,builtin,hc.ev hx,hc.ev hy,h]
  omega) k
theorem B2e {ts:Array TypeId}{a b:Nat} (hw:X9 ops l ⟨some d,.call ⟨.builtin .max, #[x,y],ts⟩,ty,pos,af,g⟩=some true) (hN:Nat.blt d N=true)
  (hx:ev l x=some (.int .i64 (a:Int))) (hy:ev l y=some (.int .i64 (b:Int))) (k:WQ P N ds ops w K os ((d,.int .i64 ((max a b:Nat):Int))::l)):
  WQ P N ds ops w K (⟨some d,.call ⟨.builtin .max, #[x,y],ts⟩,ty,pos,af,g⟩::os) l:=
 A1T rfl hw hN (fun w' hkq c hc=>by
  have h:=Lib.run_max_ints (P:=P) w' ts ty .i64 .i64 (a:Int) (b:Int);simp[execOp,resolve,invoke,builtin,hc.ev hx,hc.ev hy,h]
  omega) k
end
end Go.Fw
namespace Go.Proofs
open Go.Proofs.Tryz
open Go.Sp
open Go.Fw
theorem B4M {J:P8} (n:Nat) (hn:n<256):CalR prog 66 #[nt n] J [] (str (A2X n)):=⟨fun w _ _=>D3C n hn w⟩
theorem D2u {I:P8}{x:Sp.Stm}{b o tc ec:Nat}{ea:Option Addr}{v1 v2:Value} (hp:PtrI I b o tc (A2H x.kind x.name x.at_ x.label x.opn x.e ea ec v1 v2 x.fr x.to)):PtrI I b (o+5) tc (A0E x.e ea ec):=
 hp.sub (cs':=A0E x.e ea ec) 5 (fun j u hj=>by
  have hlt:=(A0D.1 hj).1
  match j,hj with
  |0,hj=>exact hj
  |1,hj=>exact hj
  |2,hj=>exact hj
  |3,hj=>exact hj
  |4,hj=>exact hj
  |5,hj=>exact hj
  |j+6,hj=>simp at hj)
def SW (I0:P8) (bw d:Nat) (x:Sp.Stm):Prop:= ∀(J:P8) (b o tc k:Nat) (ea:Option Addr) (ec:Nat) (ex:List Value) (a1:Option Addr) (c1:Nat) (xs1:List Value) (a2:Option Addr) (c2:Nat) (xs2:List Value) (out:List UInt8) (u:Bool) (a:Option Addr) (cp:Nat),
 Le I0 J->k<=d->out.length+(B3Q x k).length<=100000000000000->PtrI J b o tc (A2H x.kind x.name x.at_ x.label x.opn x.e ea ec (.slice a1 x.thn.length c1) (.slice a2 x.els.length c2) x.fr x.to)->
 RowI J 109 6 (.slice ea x.e.args.length ec) x.e.args.length ex->Z7 J x.e.args ex->RowI J 111 15 (.slice a1 x.thn.length c1) x.thn.length xs1->V4 J x.thn xs1->RowI J 111 15 (.slice a2 x.els.length c2) x.els.length xs2->V4 J x.els xs2->
 CalM prog 99 #[ptr bw,.pointer (some ⟨b,o,none⟩),nt k] J (WSt bw out u a cp) (ToW bw (out++B3Q x k))
def BW (I0:P8) (bw d:Nat) (l:List Sp.Stm):Prop:= ∀(J:P8) (k:Nat) (ba:Option Addr) (bc:Nat) (xb:List Value) (out:List UInt8) (u:Bool) (a:Option Addr) (cp:Nat),
 Le I0 J->k+1<=d->out.length+(B1C l k).length<=100000000000000->RowI J 111 15 (.slice ba l.length bc) l.length xb->V4 J l xb->
 CalM prog 69 #[ptr bw,.slice ba l.length bc,nt k] J (WSt bw out u a cp) (ToW bw (out++B1C l k))
theorem D5q {I0:P8}{bw d:Nat} (hd:d<=1000) {l:List Sp.Stm} (hl:l.length<=1000) (hS:∀x∈l,SW I0 bw d x):BW I0 bw d l:=by
 intro I k ba bc xb out u a cp hle0 hk hlen hr hx;refine CalM.of fun w E hm=>enter (N:=31) func69 rfl [(0,ptr bw),(1,.slice ba l.length bc),(2,nt k)] A4x rfl ?_
 rw[B1C]at hlen |-;simp only[D9,E9,List.length_nil]at hlen;repeat' (first|refine F8 (d:=10) ?_ hm (hp:=pm2_0) (hc:=A0L bw out [123,10] u a cp (by simp only[E9,List.length_nil];omega));clear hm;rintro _ I2 _ _ ⟨a2,cp2,rfl⟩ hleI2 hm;rw[J4]at hm|refine D8 ?_|refine G6 ?_|refine F5 ?_|refine D5 ?_|refine E5 ?_|refine A7 ?_|refine E8 ?_|refine A8 ?_|refine F6 ?_)
 refine U3 (fun x:WrX=> [(0,ptr bw),(1,.slice ba l.length bc),(2,nt k),(12,nt l.length),(13,nt x.k)])
  (fun x w'=>Mem E x.I (WSt bw (out++ [123,10]++A3t (l.take x.k) (k+1)) true x.a x.cp) w'/\Le I x.I/\x.k<=l.length) (fun x=>l.length-x.k) ⟨0,I2,a2,cp2⟩
  (by exact⟨rfl,rfl,rfl,rfl,rfl,trivial⟩) ⟨by rw[Z9,A3t,J4];exact hm,hleI2,H9 _⟩ ?_
 clear hm;rintro⟨j,I5,a5,cp5⟩ w5 ⟨hm,hle5,hj⟩;dsimp only at hm hle5 hj |-;have hr5:=hr.le hle5;by_cases hlt:j<l.length
 ·have hg:l[j]?=some l[j]:=F9 hlt
  have hSj:=hS _ (O1 hlt);have hst:=C6g hg (k+1);have hle:=D2H l (k+1) (j+1);obtain⟨ea,ec,ex,a1,c1,xs1,a2',c2,xs2,hc,h2,h3,h4,h5,h6,h7⟩:=(hx.get hg).out;generalize l[j]=x at hg hSj hst hc h2 h3 h4 h5 h6 h7;rw[hst,D9]at hle;have hadd:((k:Nat):Int)+1=((k+1:Nat):Int):=rfl;have hE:=fun (b o tc:Nat) (hp:PtrI I5 b o tc (A2H x.kind x.name x.at_ x.label x.opn x.e ea ec (.slice a1 x.thn.length c1) (.slice a2' x.els.length c2) x.fr x.to))=>hSj I5 b o tc (k+1) ea ec ex a1 c1 xs1 a2' c2 xs2 (out++ [123,10]++A3t (l.take j) (k+1)) true a5 cp5 (hle0.trans hle5) hk (by simp only[D9,E9,List.length_nil];omega) hp (h2.le hle5) (Z7.le hle5 _ _ h3) (h4.le hle5) (V4.le hle5 _ _ h5) (h6.le hle5) (V4.le hle5 _ _ h7)
  repeat' (first|refine O7 (d:=19) ?_ (hr:=hr5);intro b0 o0 hp0;rw[show ((j:Int).toNat *15)=j *15 from rfl,hc]at hp0|refine O9 (d:=21) ?_;rw[hadd]|refine F8 (d:=22) ?_ hm (hp:=pm2_0) (hc:=hE _ _ _ hp0);clear hm;rintro _ I6 _ _ ⟨a6,cp6,rfl⟩ hleI6 hm;rw[J4]at hm|refine D8 ?_|refine D6 ?_|refine J8 ?_|refine O9 ?_|refine E5 ?_|refine A7 ?_|refine D7 ?_|refine E8 ?_|refine A8 ?_|refine F6 ?_|refine G7 ?_|(refine C9 (ht:=fun _=>?_) (hf:=fun _=>?_)<;>try first|contradiction|omega))
  exact L6 (⟨j+1,I6,a6,cp6⟩:WrX) (by exact⟨rfl,rfl,rfl,rfl,rfl,trivial⟩) ⟨by dsimp only;rw[hst, <-J5];exact hm,hle5.trans hleI6,by dsimp only;omega⟩ (by dsimp only;omega)
 ·obtain rfl:j=l.length:=by omega
  rw[V7]at hm;have hpl:=B6C k;repeat' (first|refine A0B (id:=6) (hm.perm pm2_0) [0,1,2,3] [4,5,6] 7 (by kernel_rfl) ?_;clear hm;intro wd hR hm|refine V8 (d:=28) ?_ hm (hp:=pm0) (hc:=C4g k (by omega));clear hm;rintro _ I6 _ _ ⟨rfl,rfl,rfl⟩ hleI6 hm;rw[L9]at hm|refine A7J (d:=29) (s:=Sp.pad k) (u:= [125]) hm.kept (by rfl) (by rfl) (by rfl) (by rfl) (by show _+1<=_;omega) ?_|refine V8 (d:=30) ?_ hm (hp:=pm2_0) (hc:=A0L bw (out++ [123,10]++A3t l (k+1)) (Sp.pad k++ [125]) true a5 cp5 (by simp only[D9,E9,List.length_nil];omega));clear hm;rintro _ I7 _ _ ⟨a7,cp7,rfl⟩ hleI7 hm;rw[J4]at hm|refine A0K ?_;replace hm:=hR.back hm;clear hR;try simp only[G5]at hm|refine J8 ?_|refine E5 ?_|refine A7 ?_|refine H6 ?_|refine G9 ?_|refine E8 ?_|refine A8 ?_|refine O8 ?_|refine A0p ?_|(refine C9 (ht:=fun _=>?_) (hf:=fun _=>?_)<;>try first|contradiction|omega)|refine A0x ?_|refine U5 ?_|refine N8 ?_|refine A0y ?_)
  refine⟨I7,_,⟨a7,cp7,?_⟩,hm⟩
  simp only[J5]
theorem D5X {I0:P8} (hT:B1I I0) {bw:Nat}{x:Sp.Stm}{d:Nat} (hfit:x.fitS d) (hB1:BW I0 bw (d+1) x.thn) (hB2:BW I0 bw (d+1) x.els):SW I0 bw d x:=by
 intro I b o tc k ea ec ex a1 c1 xs1 a2 c2 xs2 out u a cp hle0 hk hlen hp h2 h3 h4 h5 h6 h7;obtain⟨hfe,hnode⟩:=B9m hfit;have hE:=D7l hT bw _ x.e (H7 _) _ _ hfe;have heq:=D49 x k;obtain⟨fin,hfin⟩:∃fin,fin=B3Q x k:=⟨_,rfl⟩;rw[<-hfin]at heq hlen |-;have hd12:d<12:=by
  have:=hfe;cases he:x.e
  rw[he,Sp.Ex.fitE]at this;exact this.1
 have hpl:=B6C k;have hRp:=fun (J:P8)=>C4g (I:=J) k (by omega)
 have hEx:=fun (J:P8) (m:Le I J) (o2:List UInt8) (u a cp) (ho:o2.length+(Sp.exW x.e).length<=100000000000000)=>hE J b (o+5) tc ea ec ex o2 u a cp (hle0.trans m) ho (D2u (hp.le m)) (h2.le m) (Z7.le m _ _ h3)
 generalize Sp.pad k=pd at heq hRp hpl;have hW0:=A0L bw out pd u a cp (I:=I) (by rw[heq,D9]at hlen;omega);refine CalM.of fun w E hm=>enter (N:=155) func99 rfl [(0,ptr bw),(1,.pointer (some ⟨b,o,none⟩)),(2,nt k)] A4x rfl ?_
 by_cases k1:x.kind=1
 ·rw[if_pos k1]at heq
  have hlb:x.label<256:=by
   rcases hnode with h|h|h|h|h|h
   ·exact h.2
   all_goals omega
  have hPr:=fun (J:P8)=>B4M (J:=J) x.label hlb
  cases ho:x.opn with
  |true=>
   rw[ho,if_pos rfl,J4]at heq;subst heq;simp only[D9,E9,List.length_nil]at hlen;rw[ho]at hp;repeat' (first|refine A0B (id:=0) (hm.perm pm2_0) [0,1,2,3] [4,5] 6 (by kernel_rfl) ?_;clear hm;intro wd hR hm|refine V8 (d:=12) ?_ hm (hp:=pm0) (hc:=hRp I);clear hm;rintro _ I1 _ _ ⟨rfl,rfl,rfl⟩ hleI1 hm;rw[L9]at hm|refine V8 (d:=13) ?_ hm (hp:=pm2_0) (hc:=hW0);clear hm;rintro _ I2 _ _ ⟨b2,cq2,rfl⟩ hleI2 hm;rw[J4]at hm;have hp2:=hp.le hleI2|refine A0B (id:=4) (hm.perm pm2_0) [0,1,2,3,4,5,6,7] [8] 9 (by kernel_rfl) ?_;clear hm;intro wd hR hm|refine A3P (d:=27) (s:= [108,101,116,32]) (u:=x.name) (by rfl) (by rfl) (by rfl) (by rfl) (by simp only[E9,List.length_nil];omega) ?_|refine V8 (d:=28) ?_ hm (hp:=pm2_0) (hc:=A0L bw (out++pd) ([108,101,116,32]++x.name) true b2 cq2 (by simp only[D9,E9,List.length_nil];omega));clear hm;rintro _ I3 _ _ ⟨b3,cq3,rfl⟩ hleI3 hm;rw[J4]at hm;have hp3:=hp2.le hleI3|refine F8 (d:=47) ?_ hm (hp:=pm2_0) (hc:=A0L bw (out++pd++([108,101,116,32]++x.name)) [32,61,32] true b3 cq3 (by simp only[D9,E9,List.length_nil];omega));clear hm;rintro _ I4 _ _ ⟨b4,cq4,rfl⟩ hleI4 hm;rw[J4]at hm;have hp4:=hp3.le hleI4|refine F8 (d:=52) ?_ hm (hp:=pm2_0) (hc:=hEx I4 (((hleI2).trans hleI3).trans hleI4) (out++pd++([108,101,116,32]++x.name)++ [32,61,32]) true b4 cq4 (by simp only[D9,E9,List.length_nil];omega));clear hm;rintro _ I5 _ _ ⟨b5,cq5,rfl⟩ hleI5 hm;rw[J4]at hm;have hp5:=hp4.le hleI5|refine F8 (d:=154) ?_ hm (hp:=pm2_0) (hc:=A0L bw (out++pd++([108,101,116,32]++x.name)++ [32,61,32]++Sp.exW x.e) [59,10] true b5 cq5 (by simp only[D9,E9,List.length_nil];omega));clear hm;rintro _ I6 _ _ ⟨b6,cq6,rfl⟩ hleI6 hm;rw[J4]at hm;have hp6:=hp5.le hleI6|refine A0G ?_ hR|refine A0K ?_;replace hm:=hR.back hm;clear hR;try simp only[G5]at hm|refine J9 ?_ hm|refine D8 ?_|refine D6 ?_|refine O6 ?_|refine A0h ?_|refine F5 ?_|refine D5 ?_|refine E5 ?_|refine A7 ?_|refine D7 ?_|refine E8 ?_|refine A8 ?_|refine F6 ?_|refine G7 ?_|refine A0p ?_|refine F7 ?_|(refine C9 (ht:=fun _=>?_) (hf:=fun _=>?_)<;>try first|contradiction|omega)|refine A0x ?_|refine U5 ?_|refine N8 ?_|refine A0y ?_)
   refine⟨I6,_,⟨b6,cq6,?_⟩,hm⟩
   simp only[J5]
  |false=>
   rw[ho,if_neg (by simp)]at heq;have hpn:=A5S x.label;generalize A2X x.label=pr at heq hPr hpn;subst heq;simp only[D9,E9,List.length_nil]at hlen;rw[ho]at hp;repeat' (first|refine A0B (id:=0) (hm.perm pm2_0) [0,1,2,3] [4,5] 6 (by kernel_rfl) ?_;clear hm;intro wd hR hm|refine V8 (d:=12) ?_ hm (hp:=pm0) (hc:=hRp I);clear hm;rintro _ I1 _ _ ⟨rfl,rfl,rfl⟩ hleI1 hm;rw[L9]at hm|refine V8 (d:=13) ?_ hm (hp:=pm2_0) (hc:=hW0);clear hm;rintro _ I2 _ _ ⟨b2,cq2,rfl⟩ hleI2 hm;rw[J4]at hm;have hp2:=hp.le hleI2|refine A0B (id:=4) (hm.perm pm2_0) [0,1,2,3,4,5,6,7] [8] 9 (by kernel_rfl) ?_;clear hm;intro wd hR hm|refine A3P (d:=27) (s:= [108,101,116,32]) (u:=x.name) (by rfl) (by rfl) (by rfl) (by rfl) (by simp only[E9,List.length_nil];omega) ?_|refine V8 (d:=28) ?_ hm (hp:=pm2_0) (hc:=A0L bw (out++pd) ([108,101,116,32]++x.name) true b2 cq2 (by simp only[D9,E9,List.length_nil];omega));clear hm;rintro _ I3 _ _ ⟨b3,cq3,rfl⟩ hleI3 hm;rw[J4]at hm;have hp3:=hp2.le hleI3|refine A0B (id:=6) (hm.perm pm2_0) [0,1,2,3,4,5,6] [7,8,9] 10 (by kernel_rfl) ?_;clear hm;intro wd hR hm|refine A5m (d:=41) ?_ hR hm (hc:=hPr _);clear hm;intro _ hm|refine A7J (d:=42) (s:= [58,32]) (u:=pr) hm.kept (by rfl) (by rfl) (by rfl) (by rfl) (by simp only[E9,List.length_nil];omega) ?_|refine V8 (d:=43) ?_ hm (hp:=pm2_0) (hc:=A0L bw (out++pd++([108,101,116,32]++x.name)) ([58,32]++pr) true b3 cq3 (by simp only[D9,E9,List.length_nil];omega));clear hm;rintro _ I4 _ _ ⟨b4,cq4,rfl⟩ hleI4 hm;rw[J4]at hm;have hp4:=hp3.le hleI4|refine F8 (d:=47) ?_ hm (hp:=pm2_0) (hc:=A0L bw (out++pd++([108,101,116,32]++x.name)++([58,32]++pr)) [32,61,32] true b4 cq4 (by simp only[D9,E9,List.length_nil];omega));clear hm;rintro _ I5 _ _ ⟨b5,cq5,rfl⟩ hleI5 hm;rw[J4]at hm;have hp5:=hp4.le hleI5|refine F8 (d:=52) ?_ hm (hp:=pm2_0) (hc:=hEx I5 ((((hleI2).trans hleI3).trans hleI4).trans hleI5) (out++pd++([108,101,116,32]++x.name)++([58,32]++pr)++ [32,61,32]) true b5 cq5 (by simp only[D9,E9,List.length_nil];omega));clear hm;rintro _ I6 _ _ ⟨b6,cq6,rfl⟩ hleI6 hm;rw[J4]at hm;have hp6:=hp5.le hleI6|refine F8 (d:=154) ?_ hm (hp:=pm2_0) (hc:=A0L bw (out++pd++([108,101,116,32]++x.name)++([58,32]++pr)++ [32,61,32]++Sp.exW x.e) [59,10] true b6 cq6 (by simp only[D9,E9,List.length_nil];omega));clear hm;rintro _ I7 _ _ ⟨b7,cq7,rfl⟩ hleI7 hm;rw[J4]at hm;have hp7:=hp6.le hleI7|refine A0G ?_ hR|refine A0K ?_;replace hm:=hR.back hm;clear hR;try simp only[G5]at hm|refine J9 ?_ hm|refine D8 ?_|refine D6 ?_|refine O6 ?_|refine A0h ?_|refine F5 ?_|refine D5 ?_|refine E5 ?_|refine A7 ?_|refine D7 ?_|refine E8 ?_|refine A8 ?_|refine F6 ?_|refine A0p ?_|refine H5 ?_|(refine C9 (ht:=fun _=>?_) (hf:=fun _=>?_)<;>try first|contradiction|omega)|refine A0x ?_|refine U5 ?_|refine N8 ?_|refine A0y ?_)
   refine⟨I7,_,⟨b7,cq7,?_⟩,hm⟩
   simp only[J5]
 rw[if_neg k1]at heq;by_cases k2:x.kind=2
 ·rw[if_pos k2]at heq
  subst heq;simp only[D9,E9,List.length_nil]at hlen;repeat' (first|refine A0B (id:=0) (hm.perm pm2_0) [0,1,2,3] [4,5] 6 (by kernel_rfl) ?_;clear hm;intro wd hR hm|refine V8 (d:=12) ?_ hm (hp:=pm0) (hc:=hRp I);clear hm;rintro _ I1 _ _ ⟨rfl,rfl,rfl⟩ hleI1 hm;rw[L9]at hm|refine V8 (d:=13) ?_ hm (hp:=pm2_0) (hc:=hW0);clear hm;rintro _ I2 _ _ ⟨b2,cq2,rfl⟩ hleI2 hm;rw[J4]at hm;have hp2:=hp.le hleI2|refine A0B (id:=10) (hm.perm pm2_0) [0,1,2,3,4,5,6,7] [8] 9 (by kernel_rfl) ?_;clear hm;intro wd hR hm|refine A3P (d:=62) (s:=x.name) (u:= [32,61,32]) (by rfl) (by rfl) (by rfl) (by rfl) (by simp only[E9,List.length_nil];omega) ?_|refine V8 (d:=63) ?_ hm (hp:=pm2_0) (hc:=A0L bw (out++pd) (x.name++ [32,61,32]) true b2 cq2 (by simp only[D9,E9,List.length_nil];omega));clear hm;rintro _ I3 _ _ ⟨b3,cq3,rfl⟩ hleI3 hm;rw[J4]at hm;have hp3:=hp2.le hleI3|refine F8 (d:=68) ?_ hm (hp:=pm2_0) (hc:=hEx I3 ((hleI2).trans hleI3) (out++pd++(x.name++ [32,61,32])) true b3 cq3 (by simp only[D9,E9,List.length_nil];omega));clear hm;rintro _ I4 _ _ ⟨b4,cq4,rfl⟩ hleI4 hm;rw[J4]at hm;have hp4:=hp3.le hleI4|refine F8 (d:=154) ?_ hm (hp:=pm2_0) (hc:=A0L bw (out++pd++(x.name++ [32,61,32])++Sp.exW x.e) [59,10] true b4 cq4 (by simp only[D9,E9,List.length_nil];omega));clear hm;rintro _ I5 _ _ ⟨b5,cq5,rfl⟩ hleI5 hm;rw[J4]at hm;have hp5:=hp4.le hleI5|refine A0G ?_ hR|refine A0K ?_;replace hm:=hR.back hm;clear hR;try simp only[G5]at hm|refine J9 ?_ hm|refine D8 ?_|refine D6 ?_|refine O6 ?_|refine F5 ?_|refine D5 ?_|refine E5 ?_|refine A7 ?_|refine D7 ?_|refine E8 ?_|refine A8 ?_|refine F6 ?_|refine A0p ?_|(refine C9 (ht:=fun _=>?_) (hf:=fun _=>?_)<;>try first|contradiction|omega)|refine A0x ?_|refine U5 ?_|refine N8 ?_|refine A0y ?_)
  refine⟨I5,_,⟨b5,cq5,?_⟩,hm⟩
  simp only[J5]
 rw[if_neg k2]at heq;by_cases k5:x.kind=5
 ·rw[if_pos k5]at heq
  subst heq;simp only[D9,E9,List.length_nil]at hlen;repeat' (first|refine A0B (id:=0) (hm.perm pm2_0) [0,1,2,3] [4,5] 6 (by kernel_rfl) ?_;clear hm;intro wd hR hm|refine V8 (d:=12) ?_ hm (hp:=pm0) (hc:=hRp I);clear hm;rintro _ I1 _ _ ⟨rfl,rfl,rfl⟩ hleI1 hm;rw[L9]at hm|refine V8 (d:=13) ?_ hm (hp:=pm2_0) (hc:=hW0);clear hm;rintro _ I2 _ _ ⟨b2,cq2,rfl⟩ hleI2 hm;rw[J4]at hm;have hp2:=hp.le hleI2|refine A0B (id:=13) (hm.perm pm2_0) [0,1,2,3,4,5,6,7,8] [9] 10 (by kernel_rfl) ?_;clear hm;intro wd hR hm|refine A3P (d:=78) (s:= [115,101,110,100,32]) (u:=x.name) (by rfl) (by rfl) (by rfl) (by rfl) (by simp only[E9,List.length_nil];omega) ?_|refine A3P (d:=79) (s:= [115,101,110,100,32]++x.name) (u:= [32]) (by rfl) (by rfl) (by rfl) (by rfl) (by simp only[D9,E9,List.length_nil];omega) ?_|refine V8 (d:=80) ?_ hm (hp:=pm2_0) (hc:=A0L bw (out++pd) ([115,101,110,100,32]++x.name++ [32]) true b2 cq2 (by simp only[D9,E9,List.length_nil];omega));clear hm;rintro _ I3 _ _ ⟨b3,cq3,rfl⟩ hleI3 hm;rw[J4]at hm;have hp3:=hp2.le hleI3|refine F8 (d:=85) ?_ hm (hp:=pm2_0) (hc:=hEx I3 ((hleI2).trans hleI3) (out++pd++([115,101,110,100,32]++x.name++ [32])) true b3 cq3 (by simp only[D9,E9,List.length_nil];omega));clear hm;rintro _ I4 _ _ ⟨b4,cq4,rfl⟩ hleI4 hm;rw[J4]at hm;have hp4:=hp3.le hleI4|refine F8 (d:=154) ?_ hm (hp:=pm2_0) (hc:=A0L bw (out++pd++([115,101,110,100,32]++x.name++ [32])++Sp.exW x.e) [59,10] true b4 cq4 (by simp only[D9,E9,List.length_nil];omega));clear hm;rintro _ I5 _ _ ⟨b5,cq5,rfl⟩ hleI5 hm;rw[J4]at hm;have hp5:=hp4.le hleI5|refine A0G ?_ hR|refine A0K ?_;replace hm:=hR.back hm;clear hR;try simp only[G5]at hm|refine J9 ?_ hm|refine D8 ?_|refine D6 ?_|refine O6 ?_|refine F5 ?_|refine D5 ?_|refine E5 ?_|refine A7 ?_|refine D7 ?_|refine E8 ?_|refine A8 ?_|refine F6 ?_|refine A0p ?_|(refine C9 (ht:=fun _=>?_) (hf:=fun _=>?_)<;>try first|contradiction|omega)|refine A0x ?_|refine U5 ?_|refine N8 ?_|refine A0y ?_)
  refine⟨I5,_,⟨b5,cq5,?_⟩,hm⟩
  simp only[J5]
 rw[if_neg k5]at heq;by_cases k6:x.kind=6
 ·rw[if_pos k6]at heq
  subst heq;simp only[D9,E9,List.length_nil]at hlen;repeat' (first|refine A0B (id:=0) (hm.perm pm2_0) [0,1,2,3] [4,5] 6 (by kernel_rfl) ?_;clear hm;intro wd hR hm|refine V8 (d:=12) ?_ hm (hp:=pm0) (hc:=hRp I);clear hm;rintro _ I1 _ _ ⟨rfl,rfl,rfl⟩ hleI1 hm;rw[L9]at hm|refine V8 (d:=13) ?_ hm (hp:=pm2_0) (hc:=hW0);clear hm;rintro _ I2 _ _ ⟨b2,cq2,rfl⟩ hleI2 hm;rw[J4]at hm;have hp2:=hp.le hleI2|refine F8 (d:=91) ?_ hm (hp:=pm2_0) (hc:=A0L bw (out++pd) [114,101,116,117,114,110,32] true b2 cq2 (by simp only[D9,E9,List.length_nil];omega));clear hm;rintro _ I3 _ _ ⟨b3,cq3,rfl⟩ hleI3 hm;rw[J4]at hm;have hp3:=hp2.le hleI3|refine F8 (d:=96) ?_ hm (hp:=pm2_0) (hc:=hEx I3 ((hleI2).trans hleI3) (out++pd++ [114,101,116,117,114,110,32]) true b3 cq3 (by simp only[D9,E9,List.length_nil];omega));clear hm;rintro _ I4 _ _ ⟨b4,cq4,rfl⟩ hleI4 hm;rw[J4]at hm;have hp4:=hp3.le hleI4|refine F8 (d:=154) ?_ hm (hp:=pm2_0) (hc:=A0L bw (out++pd++ [114,101,116,117,114,110,32]++Sp.exW x.e) [59,10] true b4 cq4 (by simp only[D9,E9,List.length_nil];omega));clear hm;rintro _ I5 _ _ ⟨b5,cq5,rfl⟩ hleI5 hm;rw[J4]at hm;have hp5:=hp4.le hleI5|refine A0K ?_;replace hm:=hR.back hm;clear hR;try simp only[G5]at hm|refine J9 ?_ hm|refine D8 ?_|refine D6 ?_|refine O6 ?_|refine F5 ?_|refine D5 ?_|refine E5 ?_|refine A7 ?_|refine D7 ?_|refine E8 ?_|refine A8 ?_|refine F6 ?_|refine A0p ?_|(refine C9 (ht:=fun _=>?_) (hf:=fun _=>?_)<;>try first|contradiction|omega)|refine A0x ?_|refine U5 ?_|refine N8 ?_|refine A0y ?_)
  refine⟨I5,_,⟨b5,cq5,?_⟩,hm⟩
  simp only[J5]
 rw[if_neg k6]at heq;by_cases k7:x.kind=7
 ·rw[if_pos k7]at heq
  subst heq;simp only[D9,E9,List.length_nil]at hlen;repeat' (first|refine A0B (id:=0) (hm.perm pm2_0) [0,1,2,3] [4,5] 6 (by kernel_rfl) ?_;clear hm;intro wd hR hm|refine V8 (d:=12) ?_ hm (hp:=pm0) (hc:=hRp I);clear hm;rintro _ I1 _ _ ⟨rfl,rfl,rfl⟩ hleI1 hm;rw[L9]at hm|refine V8 (d:=13) ?_ hm (hp:=pm2_0) (hc:=hW0);clear hm;rintro _ I2 _ _ ⟨b2,cq2,rfl⟩ hleI2 hm;rw[J4]at hm;have hp2:=hp.le hleI2|refine F8 (d:=103) ?_ hm (hp:=pm2_0) (hc:=hEx I2 (hleI2) (out++pd) true b2 cq2 (by simp only[D9];omega));clear hm;rintro _ I3 _ _ ⟨b3,cq3,rfl⟩ hleI3 hm;rw[J4]at hm;have hp3:=hp2.le hleI3|refine F8 (d:=154) ?_ hm (hp:=pm2_0) (hc:=A0L bw (out++pd++Sp.exW x.e) [59,10] true b3 cq3 (by simp only[D9,E9,List.length_nil];omega));clear hm;rintro _ I4 _ _ ⟨b4,cq4,rfl⟩ hleI4 hm;rw[J4]at hm;have hp4:=hp3.le hleI4|refine A0K ?_;replace hm:=hR.back hm;clear hR;try simp only[G5]at hm|refine J9 ?_ hm|refine D8 ?_|refine D6 ?_|refine O6 ?_|refine F5 ?_|refine D5 ?_|refine E5 ?_|refine A7 ?_|refine D7 ?_|refine E8 ?_|refine A8 ?_|refine F6 ?_|refine A0p ?_|(refine C9 (ht:=fun _=>?_) (hf:=fun _=>?_)<;>try first|contradiction|omega)|refine A0x ?_|refine U5 ?_|refine N8 ?_|refine A0y ?_)
  refine⟨I4,_,⟨b4,cq4,?_⟩,hm⟩
  simp only[J5]
 rw[if_neg k7]at heq;have k34:x.kind=3\/x.kind=4:=by
  rcases hnode with h|h|h|h|h|h
  ·omega
  ·omega
  ·omega
  ·omega
  ·omega
  ·exact h.1
 rw[if_pos k34]at heq;have hb1:=fun (J:P8) (m:Le I J) (o2:List UInt8) (a cp) (ho:o2.length+(B1C x.thn k).length<=100000000000000)=>hB1 J k a1 c1 xs1 o2 true a cp (hle0.trans m) (by omega) ho (h4.le m) (V4.le m _ _ h5)
 have hb2:=fun (J:P8) (m:Le I J) (o2:List UInt8) (a cp) (ho:o2.length+(B1C x.els k).length<=100000000000000)=>hB2 J k a2 c2 xs2 o2 true a cp (hle0.trans m) (by omega) ho (h6.le m) (V4.le m _ _ h7)
 generalize B1C x.thn k=t1 at heq hb1;generalize B1C x.els k=t2 at heq hb2;by_cases k3:x.kind=3
 ·rw[if_neg (by omega)]at heq
  by_cases he:0<x.els.length
  ·rw[if_pos he]at heq
   subst heq;simp only[D9,E9,List.length_nil]at hlen;repeat' (first|refine A0B (id:=0) (hm.perm pm2_0) [0,1,2,3] [4,5] 6 (by kernel_rfl) ?_;clear hm;intro wd hR hm|refine V8 (d:=12) ?_ hm (hp:=pm0) (hc:=hRp I);clear hm;rintro _ I1 _ _ ⟨rfl,rfl,rfl⟩ hleI1 hm;rw[L9]at hm|refine V8 (d:=13) ?_ hm (hp:=pm2_0) (hc:=hW0);clear hm;rintro _ I2 _ _ ⟨b2,cq2,rfl⟩ hleI2 hm;rw[J4]at hm;have hp2:=hp.le hleI2|refine F8 (d:=116) ?_ hm (hp:=pm2_0) (hc:=A0L bw (out++pd) [105,102,32] true b2 cq2 (by simp only[D9,E9,List.length_nil];omega));clear hm;rintro _ I3 _ _ ⟨b3,cq3,rfl⟩ hleI3 hm;rw[J4]at hm;have hp3:=hp2.le hleI3|refine F8 (d:=121) ?_ hm (hp:=pm2_0) (hc:=hEx I3 ((hleI2).trans hleI3) (out++pd++ [105,102,32]) true b3 cq3 (by simp only[D9,E9,List.length_nil];omega));clear hm;rintro _ I4 _ _ ⟨b4,cq4,rfl⟩ hleI4 hm;rw[J4]at hm;have hp4:=hp3.le hleI4|refine F8 (d:=125) ?_ hm (hp:=pm2_0) (hc:=A6p bw (out++pd++ [105,102,32]++Sp.exW x.e) 32 true b4 cq4 (by simp only[D9,E9,List.length_nil];omega));clear hm;rintro _ I5 _ _ ⟨b5,cq5,rfl⟩ hleI5 hm;rw[J4]at hm;have hp5:=hp4.le hleI5|refine F8 (d:=132) ?_ hm (hp:=pm2_0) (hc:=hb1 I5 ((((hleI2).trans hleI3).trans hleI4).trans hleI5) (out++pd++ [105,102,32]++Sp.exW x.e++ [32]) b5 cq5 (by simp only[D9,E9,List.length_nil];omega));clear hm;rintro _ I6 _ _ ⟨b6,cq6,rfl⟩ hleI6 hm;rw[J4]at hm;have hp6:=hp5.le hleI6|refine F8 (d:=142) ?_ hm (hp:=pm2_0) (hc:=A0L bw (out++pd++ [105,102,32]++Sp.exW x.e++ [32]++t1) [32,101,108,115,101,32] true b6 cq6 (by simp only[D9,E9,List.length_nil];omega));clear hm;rintro _ I7 _ _ ⟨b7,cq7,rfl⟩ hleI7 hm;rw[J4]at hm;have hp7:=hp6.le hleI7|refine F8 (d:=149) ?_ hm (hp:=pm2_0) (hc:=hb2 I7 ((((((hleI2).trans hleI3).trans hleI4).trans hleI5).trans hleI6).trans hleI7) (out++pd++ [105,102,32]++Sp.exW x.e++ [32]++t1++ [32,101,108,115,101,32]) b7 cq7 (by simp only[D9,E9,List.length_nil];omega));clear hm;rintro _ I8 _ _ ⟨b8,cq8,rfl⟩ hleI8 hm;rw[J4]at hm;have hp8:=hp7.le hleI8|refine F8 (d:=154) ?_ hm (hp:=pm2_0) (hc:=A0L bw (out++pd++ [105,102,32]++Sp.exW x.e++ [32]++t1++ [32,101,108,115,101,32]++t2) [10] true b8 cq8 (by simp only[D9,E9,List.length_nil];omega));clear hm;rintro _ I9 _ _ ⟨b9,cq9,rfl⟩ hleI9 hm;rw[J4]at hm;have hp9:=hp8.le hleI9|refine A0K ?_;replace hm:=hR.back hm;clear hR;try simp only[G5]at hm|refine J9 ?_ hm|refine D8 ?_|refine D6 ?_|refine A1H ?_|refine O6 ?_|refine G6 ?_|refine F5 ?_|refine D5 ?_|refine E5 ?_|refine A7 ?_|refine D7 ?_|refine E8 ?_|refine A8 ?_|refine F6 ?_|refine G7 ?_|refine A0p ?_|(refine C9 (ht:=fun _=>?_) (hf:=fun _=>?_)<;>try first|contradiction|omega)|refine A0x ?_|refine U5 ?_|refine N8 ?_|refine A0y ?_)
   refine⟨I9,_,⟨b9,cq9,?_⟩,hm⟩
   simp only[J5]
  ·rw[if_neg he,J4]at heq
   subst heq;simp only[D9,E9,List.length_nil]at hlen;repeat' (first|refine A0B (id:=0) (hm.perm pm2_0) [0,1,2,3] [4,5] 6 (by kernel_rfl) ?_;clear hm;intro wd hR hm|refine V8 (d:=12) ?_ hm (hp:=pm0) (hc:=hRp I);clear hm;rintro _ I1 _ _ ⟨rfl,rfl,rfl⟩ hleI1 hm;rw[L9]at hm|refine V8 (d:=13) ?_ hm (hp:=pm2_0) (hc:=hW0);clear hm;rintro _ I2 _ _ ⟨b2,cq2,rfl⟩ hleI2 hm;rw[J4]at hm;have hp2:=hp.le hleI2|refine F8 (d:=116) ?_ hm (hp:=pm2_0) (hc:=A0L bw (out++pd) [105,102,32] true b2 cq2 (by simp only[D9,E9,List.length_nil];omega));clear hm;rintro _ I3 _ _ ⟨b3,cq3,rfl⟩ hleI3 hm;rw[J4]at hm;have hp3:=hp2.le hleI3|refine F8 (d:=121) ?_ hm (hp:=pm2_0) (hc:=hEx I3 ((hleI2).trans hleI3) (out++pd++ [105,102,32]) true b3 cq3 (by simp only[D9,E9,List.length_nil];omega));clear hm;rintro _ I4 _ _ ⟨b4,cq4,rfl⟩ hleI4 hm;rw[J4]at hm;have hp4:=hp3.le hleI4|refine F8 (d:=125) ?_ hm (hp:=pm2_0) (hc:=A6p bw (out++pd++ [105,102,32]++Sp.exW x.e) 32 true b4 cq4 (by simp only[D9,E9,List.length_nil];omega));clear hm;rintro _ I5 _ _ ⟨b5,cq5,rfl⟩ hleI5 hm;rw[J4]at hm;have hp5:=hp4.le hleI5|refine F8 (d:=132) ?_ hm (hp:=pm2_0) (hc:=hb1 I5 ((((hleI2).trans hleI3).trans hleI4).trans hleI5) (out++pd++ [105,102,32]++Sp.exW x.e++ [32]) b5 cq5 (by simp only[D9,E9,List.length_nil];omega));clear hm;rintro _ I6 _ _ ⟨b6,cq6,rfl⟩ hleI6 hm;rw[J4]at hm;have hp6:=hp5.le hleI6|refine F8 (d:=154) ?_ hm (hp:=pm2_0) (hc:=A0L bw (out++pd++ [105,102,32]++Sp.exW x.e++ [32]++t1) [10] true b6 cq6 (by simp only[D9,E9,List.length_nil];omega));clear hm;rintro _ I7 _ _ ⟨b7,cq7,rfl⟩ hleI7 hm;rw[J4]at hm;have hp7:=hp6.le hleI7|refine A0K ?_;replace hm:=hR.back hm;clear hR;try simp only[G5]at hm|refine J9 ?_ hm|refine D8 ?_|refine D6 ?_|refine A1H ?_|refine O6 ?_|refine G6 ?_|refine F5 ?_|refine D5 ?_|refine E5 ?_|refine A7 ?_|refine D7 ?_|refine E8 ?_|refine A8 ?_|refine F6 ?_|refine G7 ?_|refine A0p ?_|(refine C9 (ht:=fun _=>?_) (hf:=fun _=>?_)<;>try first|contradiction|omega)|refine A0x ?_|refine U5 ?_|refine N8 ?_|refine A0y ?_)
   refine⟨I7,_,⟨b7,cq7,?_⟩,hm⟩
   simp only[J5]
 by_cases k4:x.kind=4
 ·rw[if_pos k4]at heq
  by_cases he:0<x.els.length
  ·rw[if_pos he]at heq
   subst heq;simp only[D9,E9,List.length_nil]at hlen;repeat' (first|refine A0B (id:=0) (hm.perm pm2_0) [0,1,2,3] [4,5] 6 (by kernel_rfl) ?_;clear hm;intro wd hR hm|refine V8 (d:=12) ?_ hm (hp:=pm0) (hc:=hRp I);clear hm;rintro _ I1 _ _ ⟨rfl,rfl,rfl⟩ hleI1 hm;rw[L9]at hm|refine V8 (d:=13) ?_ hm (hp:=pm2_0) (hc:=hW0);clear hm;rintro _ I2 _ _ ⟨b2,cq2,rfl⟩ hleI2 hm;rw[J4]at hm;have hp2:=hp.le hleI2|refine F8 (d:=116) ?_ hm (hp:=pm2_0) (hc:=A0L bw (out++pd) [119,104,105,108,101,32] true b2 cq2 (by simp only[D9,E9,List.length_nil];omega));clear hm;rintro _ I3 _ _ ⟨b3,cq3,rfl⟩ hleI3 hm;rw[J4]at hm;have hp3:=hp2.le hleI3|refine F8 (d:=121) ?_ hm (hp:=pm2_0) (hc:=hEx I3 ((hleI2).trans hleI3) (out++pd++ [119,104,105,108,101,32]) true b3 cq3 (by simp only[D9,E9,List.length_nil];omega));clear hm;rintro _ I4 _ _ ⟨b4,cq4,rfl⟩ hleI4 hm;rw[J4]at hm;have hp4:=hp3.le hleI4|refine F8 (d:=125) ?_ hm (hp:=pm2_0) (hc:=A6p bw (out++pd++ [119,104,105,108,101,32]++Sp.exW x.e) 32 true b4 cq4 (by simp only[D9,E9,List.length_nil];omega));clear hm;rintro _ I5 _ _ ⟨b5,cq5,rfl⟩ hleI5 hm;rw[J4]at hm;have hp5:=hp4.le hleI5|refine F8 (d:=132) ?_ hm (hp:=pm2_0) (hc:=hb1 I5 ((((hleI2).trans hleI3).trans hleI4).trans hleI5) (out++pd++ [119,104,105,108,101,32]++Sp.exW x.e++ [32]) b5 cq5 (by simp only[D9,E9,List.length_nil];omega));clear hm;rintro _ I6 _ _ ⟨b6,cq6,rfl⟩ hleI6 hm;rw[J4]at hm;have hp6:=hp5.le hleI6|refine F8 (d:=142) ?_ hm (hp:=pm2_0) (hc:=A0L bw (out++pd++ [119,104,105,108,101,32]++Sp.exW x.e++ [32]++t1) [32,101,108,115,101,32] true b6 cq6 (by simp only[D9,E9,List.length_nil];omega));clear hm;rintro _ I7 _ _ ⟨b7,cq7,rfl⟩ hleI7 hm;rw[J4]at hm;have hp7:=hp6.le hleI7|refine F8 (d:=149) ?_ hm (hp:=pm2_0) (hc:=hb2 I7 ((((((hleI2).trans hleI3).trans hleI4).trans hleI5).trans hleI6).trans hleI7) (out++pd++ [119,104,105,108,101,32]++Sp.exW x.e++ [32]++t1++ [32,101,108,115,101,32]) b7 cq7 (by simp only[D9,E9,List.length_nil];omega));clear hm;rintro _ I8 _ _ ⟨b8,cq8,rfl⟩ hleI8 hm;rw[J4]at hm;have hp8:=hp7.le hleI8|refine F8 (d:=154) ?_ hm (hp:=pm2_0) (hc:=A0L bw (out++pd++ [119,104,105,108,101,32]++Sp.exW x.e++ [32]++t1++ [32,101,108,115,101,32]++t2) [10] true b8 cq8 (by simp only[D9,E9,List.length_nil];omega));clear hm;rintro _ I9 _ _ ⟨b9,cq9,rfl⟩ hleI9 hm;rw[J4]at hm;have hp9:=hp8.le hleI9|refine A0K ?_;replace hm:=hR.back hm;clear hR;try simp only[G5]at hm|refine J9 ?_ hm|refine D8 ?_|refine D6 ?_|refine A1H ?_|refine O6 ?_|refine G6 ?_|refine F5 ?_|refine D5 ?_|refine E5 ?_|refine A7 ?_|refine D7 ?_|refine E8 ?_|refine A8 ?_|refine F6 ?_|refine A0p ?_|(refine C9 (ht:=fun _=>?_) (hf:=fun _=>?_)<;>try first|contradiction|omega)|refine A0x ?_|refine U5 ?_|refine N8 ?_|refine A0y ?_)
   refine⟨I9,_,⟨b9,cq9,?_⟩,hm⟩
   simp only[J5]
  ·rw[if_neg he,J4]at heq
   subst heq;simp only[D9,E9,List.length_nil]at hlen;repeat' (first|refine A0B (id:=0) (hm.perm pm2_0) [0,1,2,3] [4,5] 6 (by kernel_rfl) ?_;clear hm;intro wd hR hm|refine V8 (d:=12) ?_ hm (hp:=pm0) (hc:=hRp I);clear hm;rintro _ I1 _ _ ⟨rfl,rfl,rfl⟩ hleI1 hm;rw[L9]at hm|refine V8 (d:=13) ?_ hm (hp:=pm2_0) (hc:=hW0);clear hm;rintro _ I2 _ _ ⟨b2,cq2,rfl⟩ hleI2 hm;rw[J4]at hm;have hp2:=hp.le hleI2|refine F8 (d:=116) ?_ hm (hp:=pm2_0) (hc:=A0L bw (out++pd) [119,104,105,108,101,32] true b2 cq2 (by simp only[D9,E9,List.length_nil];omega));clear hm;rintro _ I3 _ _ ⟨b3,cq3,rfl⟩ hleI3 hm;rw[J4]at hm;have hp3:=hp2.le hleI3|refine F8 (d:=121) ?_ hm (hp:=pm2_0) (hc:=hEx I3 ((hleI2).trans hleI3) (out++pd++ [119,104,105,108,101,32]) true b3 cq3 (by simp only[D9,E9,List.length_nil];omega));clear hm;rintro _ I4 _ _ ⟨b4,cq4,rfl⟩ hleI4 hm;rw[J4]at hm;have hp4:=hp3.le hleI4|refine F8 (d:=125) ?_ hm (hp:=pm2_0) (hc:=A6p bw (out++pd++ [119,104,105,108,101,32]++Sp.exW x.e) 32 true b4 cq4 (by simp only[D9,E9,List.length_nil];omega));clear hm;rintro _ I5 _ _ ⟨b5,cq5,rfl⟩ hleI5 hm;rw[J4]at hm;have hp5:=hp4.le hleI5|refine F8 (d:=132) ?_ hm (hp:=pm2_0) (hc:=hb1 I5 ((((hleI2).trans hleI3).trans hleI4).trans hleI5) (out++pd++ [119,104,105,108,101,32]++Sp.exW x.e++ [32]) b5 cq5 (by simp only[D9,E9,List.length_nil];omega));clear hm;rintro _ I6 _ _ ⟨b6,cq6,rfl⟩ hleI6 hm;rw[J4]at hm;have hp6:=hp5.le hleI6|refine F8 (d:=154) ?_ hm (hp:=pm2_0) (hc:=A0L bw (out++pd++ [119,104,105,108,101,32]++Sp.exW x.e++ [32]++t1) [10] true b6 cq6 (by simp only[D9,E9,List.length_nil];omega));clear hm;rintro _ I7 _ _ ⟨b7,cq7,rfl⟩ hleI7 hm;rw[J4]at hm;have hp7:=hp6.le hleI7|refine A0K ?_;replace hm:=hR.back hm;clear hR;try simp only[G5]at hm|refine J9 ?_ hm|refine D8 ?_|refine D6 ?_|refine A1H ?_|refine O6 ?_|refine G6 ?_|refine F5 ?_|refine D5 ?_|refine E5 ?_|refine A7 ?_|refine D7 ?_|refine E8 ?_|refine A8 ?_|refine F6 ?_|refine G7 ?_|refine A0p ?_|(refine C9 (ht:=fun _=>?_) (hf:=fun _=>?_)<;>try first|contradiction|omega)|refine A0x ?_|refine U5 ?_|refine N8 ?_|refine A0y ?_)
   refine⟨I7,_,⟨b7,cq7,?_⟩,hm⟩
   simp only[J5]
 omega
def Conv (I:P8):Prop:= ∃te pe c ty fr,I 5=some (.cells c ty fr)/\c[0]?=some (.iface te pe)
theorem Conv.le {I I':P8} (h:Conv I) (m:Le I I'):Conv I':=by
 obtain⟨te,pe,c,ty,fr,h1,h2⟩:=h;exact⟨te,pe,c,ty,fr,m _ _ h1,h2⟩
abbrev D7B (t:List UInt8) (I:P8):Value->P8->List HItem->Prop:=fun v I' H'=>I=I'/\H'= []/\
 ((A4M t<=1000000000/\v=.tuple #[nt (A4M t),.nilIface])\/(1000000000<A4M t/\∃(n:Int) (e:Value),v=.tuple #[.int .i64 n,e]/\((e=.nilIface/\1000000000<n)\/∃te pe,e=.iface te pe)))
theorem D6C {I:P8} (t:List UInt8) (hn:1<=t.length) (hl:t.length<=1048576) (hd:∀c∈t,48<=c.toNat/\c.toNat<=57) (hI:Conv I):
  CalM prog 212 #[str t] I [] (D7B t I):=by
 refine⟨fun w hm=>⟨?_⟩⟩
 have hsz:(⟨t.toArray⟩:ByteArray).size=t.length:=A4h t;obtain⟨h1,h2⟩:=C12 t hn hd;have okc:∀v:Int,Lib.atoiAll t=.ok v->Calls prog 212 #[str t] w (Ret (fun u w'=>u=.tuple #[.int .i64 v,.nilIface]/\Kept [] w w')):=fun v hv=>
  Calls.mono (Tryz.strconv_Atoi_ok ⟨t.toArray⟩ (by rw[hsz];omega) v (by simpa using hv) w) (fun e w' ⟨he,hw⟩=>by
   subst he;refine⟨rfl,?_⟩
   rcases hw with rfl|⟨b,rfl⟩
   ·exact Kept.refl _ _
   ·exact C4B _ _ _)
 rcases U9 1000000000 (A4M t) with hb|hb
 ·rcases h2 hb with h3|⟨v,hv,h3⟩
  ·obtain⟨te,pe,c,ty,fr,e1,e2⟩:=hI
   have hc:w.cell? ⟨5,0,none⟩=some (.iface te pe):=A3I (hm.inv _ _ e1) e2;exact Calls.mono (Tryz.strconv_Atoi_range ⟨t.toArray⟩ (by rw[hsz];omega) (by simpa using h3) _ w hc (.inr ⟨te,pe,rfl⟩)) (fun e w' ⟨n,he,_,_,hw⟩=>by
    subst he;exact⟨I,[],⟨rfl,rfl,.inr ⟨hb,_,_,rfl,.inr ⟨_,_,rfl⟩⟩⟩,hm.kept0 (Kept.of_below hw)⟩)
  ·exact Calls.mono (okc v h3) (fun e w' q=>by
    cases e with
    |returned u=>exact⟨I,[],⟨rfl,rfl,.inr ⟨hb,v,.nilIface,q.1,.inl ⟨rfl,hv⟩⟩⟩,hm.kept0 q.2⟩
    |panicked c=>exact q.elim
    |outgrown=>exact q.elim)
 ·exact Calls.mono (okc _ (h1 hb)) (fun e w' q=>by
   cases e with
   |returned u=>exact⟨I,[],⟨rfl,rfl,.inl ⟨hb,q.1⟩⟩,hm.kept0 q.2⟩
   |panicked c=>exact q.elim
   |outgrown=>exact q.elim)
section
variable {I:P8}{pb deep lc dc b1:Nat}{la da:Option Addr}{T:Sp.Src}{E:Ent}{R:List HItem}{w:World}{s:Sp.St}
theorem D6D (hdp:deep<=12) (hm:Mem E I (.cell b1 [ptr pb] 201::A8j pb la lc T s (deep+1) da dc::R) w):
  CalD prog 211 #[ptr b1] w (fun w'=>Mem E I (.cell b1 [ptr pb] 201::A8j pb la lc T s deep da dc::R) w'):=by
 refine D0r (N:=8) func211 rfl [(0,ptr b1)] A0Z rfl ?_
 have hsub:(((deep+1:Nat):Int))-1=(deep:Int):=by omega
 repeat' (first|refine A5e ?_;rw[hsub]|refine J6 ?_ hm|refine P5 hm (k:=?_);clear hm;intro _ hm;try simp only[G5]at hm|refine F5 ?_|refine D5 ?_|refine E5 ?_|refine A8 ?_|refine A0p ?_)
 exact hm
theorem D6E (hdp:deep<=12) (hm:Mem E I (.cell b1 [ptr pb] 201::A8j pb la lc T s (deep+1) da dc::R) w):
  CalD prog 171 #[ptr b1] w (fun w'=>Mem E I (.cell b1 [ptr pb] 201::A8j pb la lc T s deep da dc::R) w'):=by
 refine D0r (N:=8) func171 rfl [(0,ptr b1)] A0Z rfl ?_
 have hsub:(((deep+1:Nat):Int))-1=(deep:Int):=by omega
 repeat' (first|refine A5e ?_;rw[hsub]|refine J6 ?_ hm|refine P5 hm (k:=?_);clear hm;intro _ hm;try simp only[G5]at hm|refine F5 ?_|refine D5 ?_|refine E5 ?_|refine A8 ?_|refine A0p ?_)
 exact hm
end
def C6B (T:Sp.Src) (pb f:Nat):Prop:= ∀(I:P8) (la:Option Addr) (lc deep:Nat) (da:Option Addr) (dc:Nat) (s:Sp.St),Conv I->A4H I T la lc->s.i<=T.l.length->3 *(T.l.length-s.i)+2<=f->
 s.ds.length+2 *(T.l.length-s.i)+4<=1099511627776->deep<=12->CalM prog 202 #[ptr pb] I (QSt pb la lc T s deep da dc) (B6P pb la lc T deep (A3W T f deep s))
def B8S (T:Sp.Src) (pb f:Nat):Prop:= ∀(I:P8) (la:Option Addr) (lc deep:Nat) (da:Option Addr) (dc:Nat) (s:Sp.St) (m:Nat),Conv I->A4H I T la lc->s.i<=T.l.length->3 *(T.l.length-s.i)+3<=f->
 s.ds.length+2 *(T.l.length-s.i)+4<=1099511627776->deep<=12->CalM prog 191 #[ptr pb,nt m] I (QSt pb la lc T s deep da dc) (B6P pb la lc T deep (A1b T f deep m s))
structure QExp where
 f:Nat
 e:Sp.Ex
 s:Sp.St
 I:P8
 ea:Option Addr
 ec:Nat
 xs:List Value
 da:Option Addr
 dc:Nat
theorem C3x (T:Sp.Src) (pb:Nat) (hT:Ok T) (n:Nat) (ih:∀g,g<n->C6B T pb g/\B8S T pb g):B8S T pb n:=by
 intro I la lc deep da dc s m hC hr hi hf hd hdp;obtain⟨f,rfl⟩:∃f,n=f+1:=⟨n-1,by omega⟩;have h2:=hT.size;have h3:=hT.len;have hat:=(ih f (by omega)).1 I la lc deep da dc s hC hr hi (by omega) hd hdp;have hg:=(A13 T f).1 deep s;rw[A1b];generalize A3W T f deep s=r0 at hat hg |-;have hg1:=hg.le;have hg2:=hg.top hi;have hg3:=hg.ds;refine CalM.of fun w E hm=>enter (N:=47) func191 rfl [(0,ptr pb),(1,nt m)] A1x rfl ?_
 repeat' (first|refine F8 ?_ hm (hc:=hat);clear hm;rintro _ I1 _ _ ⟨⟨ea,ec,xs,rfl,hrow,hexs⟩,da1,dc1,rfl⟩ hle hm;have hleI1:=hle;try simp only[G5]at hm|refine X8 (d:=4) ?_ hm;clear hm;intro b4 _ hm|refine Y2 (d:=5) ?_ hm;clear hm;intro b5 _ hm|refine D8 ?_|refine E5 ?_|refine A7 ?_|refine E8 ?_|refine A8 ?_|refine F6 ?_)
 refine U3 (fun x:QExp=> [(0,ptr pb),(1,nt m),(4,ptr b4),(5,ptr b5)])
  (fun x w'=>Mem E x.I [A8j pb la lc T x.s deep x.da x.dc,A6b x.s.ds x.da x.dc,.cell b5 (A0E x.e x.ea x.ec) 109,.cell b4 ex0 109] w'/\Le I x.I/\RowI x.I 109 6 (.slice x.ea x.e.args.length x.ec) x.e.args.length x.xs/\Z7 x.I x.e.args x.xs/\
   Sp.opL T x.f deep m x.e x.s=Sp.opL T f deep m r0.1 r0.2/\3 *(T.l.length-x.s.i)+1<=x.f/\x.f<=f/\x.s.i<=T.l.length/\x.s.ds.length+2 *(T.l.length-x.s.i)<=s.ds.length+2 *(T.l.length-s.i)+1)
  (fun x=>T.l.length-x.s.i) ⟨f,r0.1,r0.2,I1,ea,ec,xs,da1,dc1⟩ (by exact⟨rfl,rfl,rfl,rfl,trivial⟩) ⟨hm.perm pm2_1,hleI1,hrow,hexs,rfl,by dsimp only;omega,H7 _,hg2,by dsimp only;omega⟩ ?_
 clear hm hrow hexs hleI1;rintro⟨f1,e1,s1,I2,ea1,ec1,xs1,da2,dc2⟩ w2 ⟨hm,hle0,hrow,hexs,hO,hf1,hff,hi1,hd1⟩;dsimp only at hm hle0 hrow hexs hO hf1 hff hi1 hd1 |-;obtain⟨f1,rfl⟩:∃f',f1=f'+1:=⟨f1-1,by omega⟩;rw[Sp.opL]at hO;dsimp only at hO;replace hr:=hr.le hle0;replace hC:=hC.le hle0;have h1:=hT.at_ s1.i;have ht:=D4t (T.tok s1.i).text;by_cases hc:A0u (T.tok s1.i).text<m\/A0u (T.tok s1.i).text=0
 ·rw[if_pos hc]at hO
  rw[<-hO];repeat' (first|refine U8 ?_ hm (hc:=A33 s1 hr);clear hm;intro _ hm|refine A0r (hc:=by exact ht _) (k:=?_);rintro _ _ ⟨rfl,rfl⟩|refine Q7 ?_ hm|refine P6 ?_ hm;clear hm;intro _ hm;try simp only[G5]at hm|refine A0a ?_ hm|refine D8 ?_|refine D6 ?_|refine O0 ?_|refine N7 ?_|refine J8 ?_|refine O6 ?_|refine A0z ?_|(refine O3 (h1:=fun _=>?_) (h0:=fun _=>?_)<;>try first|contradiction|omega)|refine E5 ?_|refine A7 ?_|refine H8 ?_|refine O5 ?_|refine E8 ?_|refine A8 ?_|refine F6 ?_|refine J3 ?_|refine H5 ?_|(refine C9 (ht:=fun _=>?_) (hf:=fun _=>?_)<;>try first|contradiction|omega))
  all_goals first
   |exact⟨I2,_,⟨⟨ea1,ec1,xs1,rfl,hrow,hexs⟩,da2,dc2,rfl⟩,hm.left (H:= [_,_])⟩
   |(exfalso;omega)
 ·rw[if_neg hc]at hO
  have htl:=D2O (T.tok s1.i).text;have hlt:s1.i<T.l.length:=A3E (B4G (by omega));have hex:=fun da dc=>(ih f1 (by omega)).2 I2 la lc deep da dc s1.next (A0u (T.tok s1.i).text+1) hC hr (by rw[U7];omega) (by rw[U7];omega) (by rw[U7,A1t];omega) hdp
  have hg:=(A13 T f1).2.2.1 deep (A0u (T.tok s1.i).text+1) s1.next;generalize A1b T f1 deep (A0u (T.tok s1.i).text+1) s1.next=r at hO hex hg;have hg1:=hg.le;have hg2:=hg.top (by rw[U7];omega);have hg3:=hg.ds;rw[U7]at hg1 hg3;rw[A1t]at hg3;repeat' (first|refine U8 ?_ hm (hc:=A33 s1 hr);clear hm;intro _ hm|refine A0r (hc:=by exact ht _) (k:=?_);rintro _ _ ⟨rfl,rfl⟩|refine F8 ?_ hm (hc:=hex _ _);clear hm;rintro _ I3 _ _ ⟨⟨ea2,ec2,xs2,rfl,hrow2,hexs2⟩,da3,dc3,rfl⟩ hle hm;have hleI3:=hle;try simp only[G5]at hm|refine C0D ?_ hm;clear hm;intro I4 a4 _ hle4 hm hrow4|refine D6B (by rfl) (by rfl) (by rfl) (by rfl) ?_|refine Y2 (d:=8) ?_ hm;clear hm;intro b8 _ hm|refine J6 ?_ hm|refine Q7 ?_ hm|refine P6 ?_ hm;clear hm;intro _ hm;try simp only[G5]at hm|refine P5 hm (k:=?_);clear hm;intro _ hm;try simp only[G5]at hm|refine D8 ?_|refine D6 ?_|refine N7 ?_|refine J8 ?_|refine O6 ?_|refine F5 ?_|refine O9 ?_|refine D5 ?_|refine Y0 ?_|(refine O3 (h1:=fun _=>?_) (h0:=fun _=>?_)<;>try first|contradiction|omega)|refine E5 ?_|refine A7 ?_|refine D7 ?_|refine E8 ?_|refine A8 ?_|refine F6 ?_|refine G7 ?_|(refine C9 (ht:=fun _=>?_) (hf:=fun _=>?_)<;>try first|contradiction|omega))
  exact L6 (⟨f1,.mk 3 (T.tok s1.i).text 0 [e1,r.1] e1.fr (max r.1.to e1.to),r.2,I4,a4,2,_,da3,dc3⟩:QExp) (by exact⟨rfl,rfl,rfl,rfl,trivial⟩)
   ⟨hm.tl,(hle0.trans hleI3).trans hle4,hrow4,D8A (A9g.le (hleI3.trans hle4) _ _ (A8J hrow hexs)) (A9g.le hle4 _ _ (A8J hrow2 hexs2)),hO,by dsimp only;omega,by dsimp only;omega,hg2,by dsimp only;omega⟩ (by dsimp only;omega)
section
variable {T:Sp.Src}{pb f:Nat}{I:P8}{la:Option Addr}{lc deep:Nat}{da:Option Addr}{dc:Nat}{s:Sp.St}
theorem B5p {E:Ent}{N i b1 b2 ec:Nat}{ea:Option Addr}{xs:List Value}{R:List HItem}{l:Log}{w:World}{e:Sp.Ex}{s':Sp.St} (hdp:deep<=12) (hx:lk l 2=some (ptr b2))
  (hm:Mem E I (.cell b1 [ptr pb] 201::A8j pb la lc T s' (deep+1) da dc::A6b s'.ds da dc::R) w) (hb:R[i]?=some (.cell b2 (A0E e ea ec) 109))
  (hrow:RowI I 109 6 (.slice ea e.args.length ec) e.args.length xs) (hexs:Z7 I e.args xs):
  At N [⟨.fn (.func 211) #[ptr b1], #[]⟩] (bodyPostD prog Tryz.f202 (Ret (fun v w'=> ∃I' H',B6P pb la lc T deep (e,s') v I' H'/\Mem E I' H' w'))) .ret l w:=
 C3c (i:=i+3) (H':=.cell b1 [ptr pb] 201::A8j pb la lc T s' deep da dc::A6b s'.ds da dc::R) rfl hx (D6D hdp hm) hb rfl
  (fun _w' hm'=>⟨I,_,⟨⟨ea,ec,xs,rfl,hrow,hexs⟩,da,dc,rfl⟩,hm'.tl.left (H:= [_,_])⟩)
theorem C0v (I:P8):RowI I 109 6 (.slice none ([]:List Sp.Ex).length 0) ([]:List Sp.Ex).length []:=A1L _ _ _ _ _
theorem D6G (hT:Ok T) (hr:A4H I T la lc) (hi:s.i<=T.l.length) (hd:s.ds.length+4<=1099511627776) (hend:T.l.length<=s.i):
  CalM prog 202 #[ptr pb] I (QSt pb la lc T s deep da dc) (B6P pb la lc T deep (B3g T s 2)):=by
 refine CalM.of fun w E hm=>A36 (N:=153) func202 rfl [(0,ptr pb)] A0Z rfl ?_
 repeat' (first|refine U8 ?_ hm (hc:=A2E s hr);clear hm;intro _ hm|refine F8 ?_ hm (hc:=C5L s 2 hr hT hi (by omega));clear hm;rintro _ _ _ _ ⟨⟨ea,ec,xs,rfl,hrow,hexs⟩,da',dc',rfl⟩ hle hm;try simp only[G5]at hm|refine B28 ?_ hm|refine A0T (d:=1) ?_ hm;clear hm;intro b1 _ hm|refine X8 (d:=2) ?_ hm;clear hm;intro b2 _ hm|refine J6 ?_ hm|refine V3 ?_ hm|refine P6 ?_ hm;clear hm;intro _ hm;try simp only[G5]at hm|refine D6 ?_|refine E5 ?_|refine A7 ?_|refine H8 ?_|refine E8 ?_|refine A8 ?_|refine J3 ?_|refine U6 ?_|refine A0s ?_;intro _ hkq;replace hm:=hm.kept0 hkq;clear hkq|(refine C9 (ht:=fun _=>?_) (hf:=fun _=>?_)<;>try first|contradiction|omega)|refine A9x ?_|refine S9 ?_|refine Q9 ?_|refine L8 ?_)
 exact⟨_,_,⟨⟨ea,ec,xs,rfl,hrow,hexs⟩,da',dc',rfl⟩,hm.left (H:= [_,_])⟩
theorem D4v (hT:Ok T) (hr:A4H I T la lc) (hi:s.i<=T.l.length) (hd:s.ds.length+4<=1099511627776) (hend:s.i<T.l.length) (hdp:deep=12):
  CalM prog 202 #[ptr pb] I (QSt pb la lc T s deep da dc) (B6P pb la lc T deep (B3g T s 12)):=by
 refine CalM.of fun w E hm=>A36 (N:=153) func202 rfl [(0,ptr pb)] A0Z rfl ?_
 repeat' (first|refine U8 ?_ hm (hc:=A2E s hr);clear hm;intro _ hm|refine F8 ?_ hm (hc:=C5L s 12 hr hT hi (by omega));clear hm;rintro _ _ _ _ ⟨⟨ea,ec,xs,rfl,hrow,hexs⟩,da',dc',rfl⟩ hle hm;try simp only[G5]at hm|refine B28 ?_ hm|refine A0T (d:=1) ?_ hm;clear hm;intro b1 _ hm|refine X8 (d:=2) ?_ hm;clear hm;intro b2 _ hm|refine J6 ?_ hm|refine V3 ?_ hm|refine P6 ?_ hm;clear hm;intro _ hm;try simp only[G5]at hm|refine D6 ?_|refine O6 ?_|refine F5 ?_|refine D5 ?_|refine E5 ?_|refine A7 ?_|refine H8 ?_|refine E8 ?_|refine A8 ?_|refine G7 ?_|refine J3 ?_|refine U6 ?_|refine A0s ?_;intro _ hkq;replace hm:=hm.kept0 hkq;clear hkq|(refine C9 (ht:=fun _=>?_) (hf:=fun _=>?_)<;>try first|contradiction|omega)|refine A9x ?_|refine S9 ?_|refine Q9 ?_|refine L8 ?_)
 exact⟨_,_,⟨⟨ea,ec,xs,rfl,hrow,hexs⟩,da',dc',rfl⟩,hm.left (H:= [_,_])⟩
theorem D4w (hT:Ok T) (hr:A4H I T la lc) (hi:s.i<=T.l.length) (hd:s.ds.length+4<=1099511627776) (hend:s.i<T.l.length) (hdp:deep<12) (hk:(T.tok s.i).kind≠2) (hp:(T.tok s.i).text≠ [40]) (hname:Sp.name (T.tok s.i).text=false):
  CalM prog 202 #[ptr pb] I (QSt pb la lc T s deep da dc) (B6P pb la lc T deep (B3g T s 2)):=by
 have h1:=hT.at_ s.i;have h2:=hT.size;have htk:=A59 hend;have hn:=B1O (T.tok s.i).text (by omega);rw[hname]at hn;refine CalM.of fun w E hm=>A36 (N:=153) func202 rfl [(0,ptr pb)] A0Z rfl ?_
 repeat' (first|refine U8 ?_ hm (hc:=A2E s hr);clear hm;intro _ hm|refine A0R (id:=8) (hm.perm pm0) 10 11 (h:=?_);clear hm;intro wd hR hm|refine A39 ?_ (hr:=by exact hr) (he:=by intro _;rfl) (hz:=by exact htk);intro b1' o1 hp1|refine A0r (hc:=by exact hn _) (k:=?_);rintro _ _ ⟨rfl,hk⟩;replace hm:=hm.kept0 hk|refine F8 ?_ hm (hc:=C5L s 2 hr hT hi (by omega));clear hm;rintro _ _ _ _ ⟨⟨ea,ec,xs,rfl,hrow,hexs⟩,da',dc',rfl⟩ hle hm;try simp only[G5]at hm|refine A0k ?_ hR|refine A1y ?_ hR|refine A4R (d:=4) ?_ hm;clear hm;intro b4 _ hm|refine A0K ?_;replace hm:=hR.back hm;clear hR;try simp only[G5]at hm|refine A0T (d:=1) ?_ hm;clear hm;intro b1 _ hm|refine X8 (d:=2) ?_ hm;clear hm;intro b2 _ hm|refine J6 ?_ hm|refine V3 ?_ hm|refine P6 ?_ hm;clear hm;intro _ hm;try simp only[G5]at hm|refine P5 hm (k:=?_);clear hm;intro _ hm;try simp only[G5]at hm|refine D6 ?_|refine O6 ?_|refine A0g ?_|refine A0h ?_|refine F5 ?_|refine A2v ?_|refine O9 ?_|refine D5 ?_|refine E5 ?_|refine A7 ?_|refine H8 ?_|refine O5 ?_|refine E8 ?_|refine A8 ?_|refine F6 ?_|refine G7 ?_|refine J3 ?_|refine A81 ?_|refine U6 ?_|refine A0s ?_;intro _ hkq;replace hm:=hm.kept0 hkq;clear hkq|refine H5 ?_|(refine C9 (ht:=fun _=>?_) (hf:=fun _=>?_)<;>try first|contradiction|omega)|refine A9x ?_|refine S9 ?_|refine Q9 ?_|refine L8 ?_|refine U5 ?_|refine N8 ?_|refine A0y ?_)
 exact B5p (i:=1) (by omega) rfl (hm.front 4 rfl) rfl hrow hexs
theorem D6H (hT:Ok T) (hC:Conv I) (hr:A4H I T la lc) (hi:s.i<=T.l.length) (hd:s.ds.length+4<=1099511627776) (hend:s.i<T.l.length) (hdp:deep<12) (hk:(T.tok s.i).kind=2):
  CalM prog 202 #[ptr pb] I (QSt pb la lc T s deep da dc) (B6P pb la lc T deep
   (if 1000000000<A4M (T.tok s.i).text then (.mk 1 [] 0 [] (T.tok s.i).pos ((T.tok s.i).pos+(T.tok s.i).text.length),(s.bad T 3).next) else (.mk 1 [] (A4M (T.tok s.i).text) [] (T.tok s.i).pos ((T.tok s.i).pos+(T.tok s.i).text.length),s.next))):=by
 have h1:=hT.at_ s.i;have h2:=hT.size;have h3:=hT.len;have htk:=A59 hend;have hl1:1<=(T.tok s.i).text.length:=by
  rw[Sp.Src.tok,N9,F9 hend];exact hT.len1 _ (O1 hend)
 have hat:=D6C (I:=I) (T.tok s.i).text hl1 (by omega) (hT.digs hk) hC;have hbi:(s.bad T 3).i=s.i:=rfl;have hen:T.endOf (s.i+1)=(T.tok s.i).pos+(T.tok s.i).text.length:=rfl;have hls:=A6O (pb:=pb) (deep:=deep+1) (da:=da) (dc:=dc) s.next hr hT (by rw[U7];omega);have hlb:=fun da dc=>A6O (pb:=pb) (deep:=deep+1) (da:=da) (dc:=dc) (s.bad T 3).next hr hT (by rw[U7];omega)
 rw[show T.endOf s.next.i=(T.tok s.i).pos+(T.tok s.i).text.length from hen]at hls;rw[show T.endOf (s.bad T 3).next.i=(T.tok s.i).pos+(T.tok s.i).text.length from hen]at hlb;refine CalM.of fun w E hm=>A36 (N:=153) func202 rfl [(0,ptr pb)] A0Z rfl ?_
 by_cases hbig:1000000000<A4M (T.tok s.i).text
 ·rw[if_pos hbig]
  repeat' (first|refine U8 ?_ hm (hc:=A2E s hr);clear hm;intro _ hm|refine A0R (id:=8) (hm.perm pm0) 10 11 (h:=?_);clear hm;intro wd hR hm|refine A39 ?_ (hr:=by exact hr) (he:=by intro _;rfl) (hz:=by exact htk);intro b1' o1 hp1|refine F8 ?_ hm (hc:=hat);clear hm;rintro _ _ _ _ ⟨rfl,rfl,(⟨hsm,rfl⟩|⟨_,nv,ev,rfl,(⟨rfl,hnv⟩|⟨te,pe,rfl⟩)⟩)⟩ hle hm;try simp only[G5]at hm|refine C3o (by rfl) (by rfl) (by rfl) (by rfl) (by kernel_rfl) ?_|refine B5W (by rfl) (by rfl) (by rfl) (by rfl) (by kernel_rfl) ?_|refine F8 ?_ hm (hc:=A6i s 3 hr hT hi (by omega));clear hm;rintro _ _ _ _ ⟨rfl,rfl,da',dc',rfl⟩ hle hm;try simp only[G5]at hm|refine U8 ?_ hm (hc:=hlb _ _);clear hm;intro _ hm|refine A0k ?_ hR|refine A1y ?_ hR|refine A4R (d:=4) ?_ hm;clear hm;intro b4 _ hm|refine A0K ?_;replace hm:=hR.back hm;clear hR;try simp only[G5]at hm|refine A0T (d:=1) ?_ hm;clear hm;intro b1 _ hm|refine X8 (d:=2) ?_ hm;clear hm;intro b2 _ hm|refine J6 ?_ hm|refine V3 ?_ hm|refine P6 ?_ hm;clear hm;intro _ hm;try simp only[G5]at hm|refine P5 hm (k:=?_);clear hm;intro _ hm;try simp only[G5]at hm|refine D8 ?_|refine D6 ?_|refine O0 ?_|refine N7 ?_|refine A1H ?_|refine O6 ?_|refine Y8 ?_|refine F5 ?_|refine A2v ?_|refine O9 ?_|refine D5 ?_|refine Y0 ?_|refine A0z ?_|refine E5 ?_|refine A7 ?_|refine H8 ?_|refine O5 ?_|refine E8 ?_|refine A8 ?_|refine F6 ?_|refine G7 ?_|refine J3 ?_|refine A81 ?_|refine U6 ?_|refine A0s ?_;intro _ hkq;replace hm:=hm.kept0 hkq;clear hkq|refine H5 ?_|(refine C9 (ht:=fun _=>?_) (hf:=fun _=>?_)<;>try first|contradiction|omega)|refine A9x ?_|refine S9 ?_|refine Q9 ?_|refine L8 ?_|refine U5 ?_|refine N8 ?_|refine A0y ?_)
  all_goals exact B5p (i:=1) (e:=.mk 1 [] 0 [] (T.tok s.i).pos ((T.tok s.i).pos+(T.tok s.i).text.length)) (s':=(s.bad T 3).next) (by omega) rfl (hm.front 4 rfl) rfl (C0v _) .nil
 ·rw[if_neg hbig]
  repeat' (first|refine U8 ?_ hm (hc:=A2E s hr);clear hm;intro _ hm|refine A0R (id:=8) (hm.perm pm0) 10 11 (h:=?_);clear hm;intro wd hR hm|refine A39 ?_ (hr:=by exact hr) (he:=by intro _;rfl) (hz:=by exact htk);intro b1' o1 hp1|refine F8 ?_ hm (hc:=hat);clear hm;rintro _ _ _ _ ⟨rfl,rfl,(⟨hsm,rfl⟩|⟨hbg,nv,ev,rfl,_⟩)⟩ hle hm;try simp only[G5]at hm|refine B5W (by rfl) (by rfl) (by rfl) (by rfl) (by kernel_rfl) ?_|refine U8 ?_ hm (hc:=hls);clear hm;intro _ hm|refine A0k ?_ hR|refine A1y ?_ hR|refine A4R (d:=4) ?_ hm;clear hm;intro b4 _ hm|refine A0K ?_;replace hm:=hR.back hm;clear hR;try simp only[G5]at hm|refine A0T (d:=1) ?_ hm;clear hm;intro b1 _ hm|refine X8 (d:=2) ?_ hm;clear hm;intro b2 _ hm|refine J6 ?_ hm|refine V3 ?_ hm|refine P6 ?_ hm;clear hm;intro _ hm;try simp only[G5]at hm|refine P5 hm (k:=?_);clear hm;intro _ hm;try simp only[G5]at hm|refine D8 ?_|refine D6 ?_|refine N7 ?_|refine A1H ?_|refine O6 ?_|refine Y8 ?_|refine F5 ?_|refine A2v ?_|refine O9 ?_|refine D5 ?_|refine Y0 ?_|refine E5 ?_|refine A7 ?_|refine H8 ?_|refine O5 ?_|refine E8 ?_|refine A8 ?_|refine F6 ?_|refine G7 ?_|refine J3 ?_|refine A81 ?_|refine U6 ?_|refine A0s ?_;intro _ hkq;replace hm:=hm.kept0 hkq;clear hkq|(refine C9 (ht:=fun _=>?_) (hf:=fun _=>?_)<;>try first|contradiction|omega)|refine A9x ?_|refine S9 ?_|refine Q9 ?_|refine L8 ?_|refine U5 ?_|refine N8 ?_|refine A0y ?_)
  all_goals try first|omega|contradiction
  exact B5p (i:=1) (e:=.mk 1 [] (A4M (T.tok s.i).text) [] (T.tok s.i).pos ((T.tok s.i).pos+(T.tok s.i).text.length)) (s':=s.next) (by omega) rfl (((hm.front 4 rfl).front 4 rfl).front 4 rfl) rfl (C0v _) .nil
end
section
variable {T:Sp.Src}{pb f:Nat}{I:P8}{la:Option Addr}{lc deep:Nat}{da:Option Addr}{dc:Nat}{s:Sp.St}
theorem D6I (hT:Ok T) (hC:Conv I) (hr:A4H I T la lc) (hf:3 *(T.l.length-s.i)+2<=f+1) (ih:B8S T pb f)
  (hd:s.ds.length+2 *(T.l.length-s.i)+4<=1099511627776) (hend:s.i<T.l.length) (hdp:deep<12) (hk:(T.tok s.i).kind≠2) (hpar:(T.tok s.i).text= [40]):
  CalM prog 202 #[ptr pb] I (QSt pb la lc T s deep da dc) (B6P pb la lc T deep ((A1b T f (deep+1) 1 s.next).1,((A1b T f (deep+1) 1 s.next).2.need T [41]).2)):=by
 have h1:=hT.at_ s.i;have h2:=hT.size;have h3:=hT.len;have htk:=A59 hend;have hex:=fun da dc=>ih I la lc (deep+1) da dc s.next 1 hC hr (by rw[U7];omega) (by rw[U7];omega) (by rw[U7,A1t];omega) (by omega)
 have hg:=(A13 T f).2.2.1 (deep+1) 1 s.next;generalize A1b T f (deep+1) 1 s.next=r at hex hg |-;have hg1:=hg.le;have hg2:=hg.top (by rw[U7];omega);have hg3:=hg.ds;rw[U7]at hg1 hg3;rw[A1t]at hg3;refine CalM.of fun w E hm=>A36 (N:=153) func202 rfl [(0,ptr pb)] A0Z rfl ?_
 repeat' (first|refine U8 ?_ hm (hc:=A2E s hr);clear hm;intro _ hm|refine A0R (id:=8) (hm.perm pm0) 10 11 (h:=?_);clear hm;intro wd hR hm|refine A39 ?_ (hr:=by exact hr) (he:=by intro _;rfl) (hz:=by exact htk);intro b1' o1 hp1|refine F8 ?_ hm (hc:=hex _ _);clear hm;rintro _ I2 _ _ ⟨⟨ea,ec,xs,rfl,hrow,hexs⟩,da',dc',rfl⟩ hle hm;have hleI2:=hle;try simp only[G5]at hm|refine F8 ?_ hm (hc:=A4s r.2 [41] (by simp) (hr.le hleI2) hT (by omega) hg2);clear hm;rintro _ _ _ _ ⟨rfl,rfl,da2,dc2,rfl⟩ hle hm;try simp only[G5]at hm|refine A0k ?_ hR|refine A1y ?_ hR|refine A4R (d:=4) ?_ hm;clear hm;intro b4 _ hm|refine A0K ?_;replace hm:=hR.back hm;clear hR;try simp only[G5]at hm|refine A0T (d:=1) ?_ hm;clear hm;intro b1 _ hm|refine X8 (d:=2) ?_ hm;clear hm;intro b2 _ hm|refine Y2 (d:=7) ?_ hm;clear hm;intro b7 _ hm|refine J6 ?_ hm|refine Q7 ?_ hm|refine V3 ?_ hm|refine P6 ?_ hm;clear hm;intro _ hm;try simp only[G5]at hm|refine P5 hm (k:=?_);clear hm;intro _ hm;try simp only[G5]at hm|refine D6 ?_|refine O6 ?_|refine A0g ?_|refine F5 ?_|refine A2v ?_|refine O9 ?_|refine D5 ?_|refine E5 ?_|refine A7 ?_|refine H8 ?_|refine O5 ?_|refine E8 ?_|refine A8 ?_|refine F6 ?_|refine G7 ?_|refine J3 ?_|refine A81 ?_|refine U6 ?_|refine A0s ?_;intro _ hkq;replace hm:=hm.kept0 hkq;clear hkq|(refine C9 (ht:=fun _=>?_) (hf:=fun _=>?_)<;>try first|contradiction|omega)|refine A9x ?_|refine S9 ?_|refine Q9 ?_|refine L8 ?_|refine U5 ?_|refine N8 ?_|refine A0y ?_)
 exact B5p (i:=2) (e:=r.1) (s':=(r.2.need T [41]).2) (by omega) rfl (hm.front 5 rfl) rfl hrow hexs
theorem D6J (hT:Ok T) (hr:A4H I T la lc) (_hi:s.i<=T.l.length) (_hd:s.ds.length+4<=1099511627776) (hend:s.i<T.l.length) (hdp:deep<12) (hk:(T.tok s.i).kind≠2) (hp:(T.tok s.i).text≠ [40]) (hname:Sp.name (T.tok s.i).text=true) (hopen:T.is (s.i+1) [40]=false):
  CalM prog 202 #[ptr pb] I (QSt pb la lc T s deep da dc) (B6P pb la lc T deep (.mk 2 (T.tok s.i).text 0 [] (T.tok s.i).pos ((T.tok s.i).pos+(T.tok s.i).text.length),s.next)):=by
 have h1:=hT.at_ s.i;have h2:=hT.size;have h3:=hT.len;have htk:=A59 hend;have hn:=B1O (T.tok s.i).text (by omega);rw[hname]at hn;have he:=fun da dc=>A2j (pb:=pb) (deep:=deep+1) (da:=da) (dc:=dc) s.next [40] (by simp) hr hT (by rw[U7];omega)
 rw[show T.is s.next.i [40]=false from hopen,if_neg (by simp)]at he;have hen:T.endOf (s.i+1)=(T.tok s.i).pos+(T.tok s.i).text.length:=rfl;have hls:=fun da dc=>A6O (pb:=pb) (deep:=deep+1) (da:=da) (dc:=dc) s.next hr hT (by rw[U7];omega)
 rw[show T.endOf s.next.i=(T.tok s.i).pos+(T.tok s.i).text.length from hen]at hls;refine CalM.of fun w E hm=>A36 (N:=153) func202 rfl [(0,ptr pb)] A0Z rfl ?_
 repeat' (first|refine U8 ?_ hm (hc:=A2E s hr);clear hm;intro _ hm|refine A0R (id:=8) (hm.perm pm0) 10 11 (h:=?_);clear hm;intro wd hR hm|refine A39 ?_ (hr:=by exact hr) (he:=by intro _;rfl) (hz:=by exact htk);intro b1' o1 hp1|refine A0r (hc:=by exact hn _) (k:=?_);rintro _ _ ⟨rfl,hk⟩;replace hm:=hm.kept0 hk|refine F8 ?_ hm (hc:=he _ _);clear hm;rintro _ _ _ _ ⟨rfl,rfl,da',dc',rfl⟩ hle hm;try simp only[G5]at hm|refine U8 ?_ hm (hc:=hls _ _);clear hm;intro _ hm|refine A0k ?_ hR|refine A1y ?_ hR|refine A4R (d:=4) ?_ hm;clear hm;intro b4 _ hm|refine A0K ?_;replace hm:=hR.back hm;clear hR;try simp only[G5]at hm|refine A0T (d:=1) ?_ hm;clear hm;intro b1 _ hm|refine X8 (d:=2) ?_ hm;clear hm;intro b2 _ hm|refine Y2 (d:=8) ?_ hm;clear hm;intro b8 _ hm|refine J6 ?_ hm|refine Q7 ?_ hm|refine V3 ?_ hm|refine P6 ?_ hm;clear hm;intro _ hm;try simp only[G5]at hm|refine P5 hm (k:=?_);clear hm;intro _ hm;try simp only[G5]at hm|refine D8 ?_|refine D6 ?_|refine O6 ?_|refine A0g ?_|refine A0h ?_|refine F5 ?_|refine A2v ?_|refine O9 ?_|refine D5 ?_|refine Y0 ?_|refine E5 ?_|refine A7 ?_|refine D7 ?_|refine E8 ?_|refine A8 ?_|refine F6 ?_|refine G7 ?_|refine J3 ?_|refine A81 ?_|refine U6 ?_|refine A0s ?_;intro _ hkq;replace hm:=hm.kept0 hkq;clear hkq|refine F7 ?_|(refine C9 (ht:=fun _=>?_) (hf:=fun _=>?_)<;>try first|contradiction|omega)|refine A9x ?_|refine S9 ?_|refine Q9 ?_|refine L8 ?_|refine U5 ?_|refine N8 ?_|refine A0y ?_)
 exact B5p (i:=2) (e:=.mk 2 (T.tok s.i).text 0 [] (T.tok s.i).pos ((T.tok s.i).pos+(T.tok s.i).text.length)) (s':=s.next) (by omega) rfl (hm.front 5 rfl) rfl (C0v _) .nil
end
end Go.Proofs
