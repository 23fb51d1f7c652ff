/- Own work. -/
import Derived.Test.YtbmbnippbldmfaaGreatDoorSn24
import Derived.Lib.AppendIntMem
set_option maxHeartbeats 64000000
namespace Go.Sp
theorem C6O (e:Ex):exW e=if e.kind=1 then Lib.itoa e.n else if e.kind=3 then
   B0T (decide (A3B (e.args.getD 0 default)<A22 e.name)) ((A4S e.args).getD 0 [])++ [32]++e.name++ [32]++B0T (decide (A3B (e.args.getD 1 default)<A22 e.name+1)) ((A4S e.args).getD 1 []) else
  if e.kind=2 then e.name else if e.kind=4 then e.name++ [40]++A3F (A4S e.args) e.args.length++ [41] else []:=by
 cases e;rw[exW];rfl
theorem C20 {e:Ex}{d l:Nat} (h:e.fitE d l):(e.kind=1/\e.n<=1000000000)\/e.kind=2\/(e.kind=4/\e.args.length<=5/\A2k e.args (d+1))\/
  (e.kind=3/\e.args.length=2/\∃d2,A3z e.args d2 (A1i e.name)):=by
 cases e
 rw[Ex.fitE]at h;rcases h.2 with h|h|h|h
 ·exact .inl ⟨h.1,h.2.2.1⟩
 ·exact .inr (.inl h.1)
 ·exact .inr (.inr (.inl ⟨h.1,h.2.2.2.1,h.2.2.2.2⟩))
 ·exact .inr (.inr (.inr ⟨h.1,h.2.2.2.1,_,h.2.2.2.2⟩))
theorem B22:∀ {l:List Ex}{d i:Nat}{e:Ex},A2k l d->l[i]?=some e->e.fitE d 1
 | [],_,_,_,_,h=>by simp at h
 |a::l,d,0,e,h,he=>by
  rw[A2k]at h;simp only[A0A,U3]at he;exact he ▸ h.1
 |a::l,d,i+1,e,h,he=>by
  rw[A2k]at h;exact B22 h.2 (by simpa using he)
theorem B0i:∀ {l:List Ex}{d n i:Nat}{e:Ex},A3z l d n->l[i]?=some e->e.fitE d (n+i)
 | [],_,_,_,_,_,h=>by simp at h
 |a::l,d,n,0,e,h,he=>by
  rw[A3z]at h;simp only[A0A,U3]at he;exact he ▸ h.1
 |a::l,d,n,i+1,e,h,he=>by
  rw[A3z]at h;have:=B0i h.2 (by simpa using he:l[i]?=some e)
  rwa [Nat.add_right_comm,A3K]at this
theorem C0q (b:Bool) (t:List UInt8):t.length<=(B0T b t).length:=by
 rw[B0T];split
 ·simp;omega
 ·exact G9 _
theorem B2W (ws:List (List UInt8)):∀ {j k:Nat},j<=k->(A3F ws j).length<=(A3F ws k).length
 |j,0,h=>by
  obtain rfl:j=0:=by omega
  exact G9 _
 |j,k+1,h=>by
  by_cases e:j=k+1
  ·subst e;exact G9 _
  ·have:=B2W ws (j:=j) (k:=k) (by omega)
   rw[A6j,E9];omega
def A7f (n k:Nat):List Nat:=(List.range k).filter (bit n)
theorem B75 (n k:Nat):A7f n (k+1)=if bit n k then A7f n k++ [k] else A7f n k:=by
 rw[A7f,A1O,A7W];cases h:bit n k<;>simp[h,A7f]
theorem B3K (n k:Nat):(A7f n k).length<=k:=by
 have:=A3P (bit n) (List.range k);simpa[A7f] using this
theorem B2X:∀(l:List UInt8),(A4V l).length<=2 *l.length
 | []=>by simp[A4V]
 | [c]=>by simp[A4V]
 |c::d::l=>by have:=B2X (d::l);simp only[A4V,F8]at this |-;omega
theorem A8P:∀(l:List UInt8),Lib.join (l.map (fun c=> [c])) [44]=A4V l
 | []=>rfl
 | [c]=>Lib.join_one _ _
 |c::d::l=>by
  have:=A8P (d::l);rw[X8,Lib.join_cons]at this;rw[X8,X8,Lib.join_cons,A4V, <-this];simp[Lib.joinTail]
theorem B81 (k:Nat) (h:k<8):(A5m k).toNat=97+k:=by
 revert h;revert k;decide
theorem C52 (x:Stm) (d:Nat):B55 x d=pad d++(
  if x.kind=1 then [108,101,116,32]++x.name++(if x.opn=true then [] else [58,32]++A4F x.label)++ [32,61,32]++exW x.e++ [59,10] else
  if x.kind=2 then x.name++ [32,61,32]++exW x.e++ [59,10] else
  if x.kind=5 then [115,101,110,100,32]++x.name++ [32]++exW x.e++ [59,10] else
  if x.kind=6 then [114,101,116,117,114,110,32]++exW x.e++ [59,10] else
  if x.kind=7 then exW x.e++ [59,10] else
  if x.kind=3\/x.kind=4 then (if x.kind=4 then [119,104,105,108,101,32] else [105,102,32])++exW x.e++ [32]++B1j x.thn d++
   (if 0<x.els.length then [32,101,108,115,101,32]++B1j x.els d else [])++ [10] else [59,10]):=by
 cases x;rw[B55];rfl
theorem B4t {x:Stm}{d:Nat} (h:x.fitS d):x.e.fitE d 1/\((x.kind=1/\x.label<256)\/x.kind=2\/x.kind=5\/x.kind=6\/x.kind=7\/
  ((x.kind=3\/x.kind=4)/\x.thn.length<=40/\x.els.length<=40/\A0M x.thn (d+1)/\A0M x.els (d+1))):=by
 cases x
 rw[Stm.fitS]at h;refine⟨h.1,?_⟩
 rcases h.2 with h|h|h|h|h|h
 ·exact .inl ⟨h.1,h.2.2.1⟩
 ·exact .inr (.inl h.1)
 ·exact .inr (.inr (.inl h.1))
 ·exact .inr (.inr (.inr (.inl h.1)))
 ·exact .inr (.inr (.inr (.inr (.inl h.1))))
 ·exact .inr (.inr (.inr (.inr (.inr ⟨by rcases h.1 with h1|h1;exact .inl h1;exact .inr h1.1,h.2.2.2.2.2.1,h.2.2.2.2.2.2.1,h.2.2.2.2.2.2.2.1,h.2.2.2.2.2.2.2.2⟩))))
theorem B19:∀ {l:List Stm}{d i:Nat}{x:Stm},A0M l d->l[i]?=some x->x.fitS d
 | [],_,_,_,_,h=>by simp at h
 |a::l,d,0,e,h,he=>by
  rw[A0M]at h;simp only[A0A,U3]at he;exact he ▸ h.1
 |a::l,d,i+1,e,h,he=>by
  rw[A0M]at h;exact B19 h.2 (by simpa using he)
theorem C4n:∀(l:List Stm) (d:Nat) (j:Nat),(A29 (l.take j) d).length<=(A29 l d).length:=fun l d j=>by
 have:=A8m (l.take j) (l.drop j) d;rw[A3e]at this;rw[this,E9];omega
end Go.Sp
namespace Go.Proofs
open Go.Proofs.Tryz
open Go.Sp
open Go.Fw
abbrev C2l (I:P6) (ba off:Nat) (q:Sp.Qn) (aa:Option Addr) (ac:Nat):Prop:=PtrI I ba off 72 (B6B q.id q.kind q.fr q.to q.text aa q.args.length ac)
def C2c (bs:Nat) (r:Sp.Srv×Sp.Rpl):Value->P6->List HItem->Prop:=fun v I' H'=> ∃c a' c' xs',v=.tuple #[.agg c.toArray,.bool true]/\A4u I' r.2 c/\H'= [B3H bs r.1 a' c']/\FE I' (J7 r.1.text) a' c' xs'
theorem C7s {s:Sp.Srv} (h:Sp.OkQ s) (q:Sp.Qn) (hk:q.kind=2) (hql:q.text.length<=1099511627776) (I:P6) (hC:Conv I) {a:Option Addr}{c:Nat}{xs:List Value} (hfe:FE I (J7 s.text) a c xs) (bs:Nat) {ba off:Nat}{aa:Option Addr}{ac:Nat} (hp:C2l I ba off q aa ac):
  CalM prog 94 #[ptr bs,.pointer (some ⟨ba,off,none⟩)] I [B3H bs s a c] (C2c bs (B5d s q)):=by
 refine CalM.of fun w E hm=>enter (N:=70) func94 rfl [(0,ptr bs),(1,.pointer (some ⟨ba,off,none⟩))] A0T rfl ?_
 have hA:=C3P s.text q.fr q.to q.text (by have:=B5A h;omega) hql I;have hl:=C2y s.text q.fr q.to q.text;rw[B5d,if_pos hk];obtain⟨qid,qk,qf,qt,qx,qa⟩:=q;dsimp only at hk hp hA hl |-;subst hk;repeat' (first|refine A1k (id:=3) (hm.perm pm0) [0,1,2,3,4,5,6,7,8,9,10,11,12,13,14,15,16] 22 (h:=?_);clear hm;intro wd hR hm|refine A3Y [18,19,20,21] (by decide+kernel) hm.kept ?_|refine A42 (d:=34) hm (by rfl) (by rfl) (by rfl) pm0 hA ?_;clear hm;rintro _ I2 _ _ ⟨rfl,rfl⟩ hleI2 hm;try simp only[F9]at hm|refine A1j (i:=17) ?_ (by decide+kernel)|refine A6b ?_|refine A5a (by decide+kernel) ?_;replace hm:=hR.back hm;clear hR;try simp only[F9]at hm|refine A0H 4 ?_|refine Y3 ?_ hR|refine A0c ?_ hR|refine U1 (d:=4) ?_ hm;clear hm;intro b4 _ hm|refine J5 ?_ hm|refine D8 ?_|refine D6 ?_|refine N9 ?_|refine E5 ?_|refine C9 ?_|refine D9 ?_|refine A7 ?_|refine E8 ?_|refine A8 ?_|refine F5 ?_|refine H6 ?_|refine Z4 ?_|refine A5V ?_|refine A4Q ?_|refine O5 ?_|refine J8 ?_|refine A2M ?_)
 have hfe2:=hfe.le hleI2;by_cases h0:A6W s.text qf qt qx≠0
 ·rw[if_pos h0]
  refine⟨?_⟩
  repeat' (first|refine N7 ?_ hm;clear hm;intro _ hm;try simp only[F9]at hm|refine A2S ?_ hm|refine D8 ?_|refine D6 ?_|refine A0y ?_|refine Q3 ?_|refine D9 ?_|refine A7 ?_|refine G8 ?_|refine O1 ?_|refine E8 ?_|refine A8 ?_|refine H8 ?_|(refine D5 (ht:=fun _=>?_) (hf:=fun _=>?_)<;>try first|contradiction|omega))
  exact⟨I2,_,⟨_,a,c,xs,rfl,A4u.plain I2 rfl rfl,rfl,hfe2⟩,hm.tl⟩
 ·rw[if_neg h0]
  have h00:A6W s.text qf qt qx=0:=by omega
  rw[h00];have hS:=C38 h (B2V s.text qf qt qx) (by omega) I2 (hC.le hleI2) hfe2 bs;refine⟨?_⟩
  repeat' (first|refine F6 (d:=43) ?_ hm (hp:=pm1_1) (hc:=hS);clear hm;rintro _ I3 _ _ ⟨_,a3,c3,xs3,rfl,⟨da,dp,ea,ep,rfl,hd3,he3⟩,rfl,hfe3⟩ hleI3 hm;try simp only[F9]at hm|refine N7 ?_ hm;clear hm;intro _ hm;try simp only[F9]at hm|refine A2S ?_ hm|refine D8 ?_|refine D6 ?_|refine A0y ?_|refine D9 ?_|refine A7 ?_|refine G8 ?_|refine O1 ?_|refine E8 ?_|refine A8 ?_|refine G5 ?_|refine H8 ?_|refine F7 ?_)
  exact⟨I3,_,⟨_,a3,c3,xs3,rfl,⟨da,dp,ea,ep,rfl,hd3,he3⟩,rfl,hfe3⟩,hm.left (H:= [_])⟩
theorem C7t {s:Sp.Srv} (h:Sp.OkQ s) (q:Sp.Qn) (hk:q.kind=6) (hql:q.text.length<=1099511627776) (I:P6) (hC:Conv I) {a:Option Addr}{c:Nat}{xs:List Value} (hfe:FE I (J7 s.text) a c xs) (bs:Nat) {ba off:Nat}{aa:Option Addr}{ac:Nat} (hp:C2l I ba off q aa ac):
  CalM prog 94 #[ptr bs,.pointer (some ⟨ba,off,none⟩)] I [B3H bs s a c] (C2c bs (B5d s q)):=by
 refine CalM.of fun w E hm=>enter (N:=70) func94 rfl [(0,ptr bs),(1,.pointer (some ⟨ba,off,none⟩))] A0T rfl ?_
 have hA:=C8y s.text q.text q.fr I hC (by have:=B5A h;omega) (by omega);have hl:=C56 s.text q.fr q.text;rw[B5d,if_neg (by omega)];obtain⟨qid,qk,qf,qt,qx,qa⟩:=q;dsimp only at hk hp hA hl |-;subst hk;generalize Sp.toR s.text qf qx=r at hA hl |-;repeat' (first|refine A1k (id:=8) (hm.perm pm0) [0,1,2,3,4,5,6,7,8,9,10,11] 17 (h:=?_);clear hm;intro wd hR hm|refine A3Y [13,14,15,16] (by decide+kernel) hm.kept ?_|refine A42 (d:=59) hm (by rfl) (by rfl) (by rfl) pm0 hA ?_;clear hm;rintro _ I2 _ _ ⟨rfl,rfl⟩ hleI2 hm;try simp only[F9]at hm|refine A1j (i:=12) ?_ (by decide+kernel)|refine A6b ?_|refine A5a (by decide+kernel) ?_;replace hm:=hR.back hm;clear hR;try simp only[F9]at hm|refine A0H 9 ?_|refine Y3 ?_ hR|refine A0c ?_ hR|refine U1 (d:=4) ?_ hm;clear hm;intro b4 _ hm|refine J5 ?_ hm|refine D8 ?_|refine D6 ?_|refine N9 ?_|refine E5 ?_|refine C9 ?_|refine D9 ?_|refine A7 ?_|refine E8 ?_|refine A8 ?_|refine F5 ?_|refine H6 ?_|refine F7 ?_|refine Z4 ?_|refine A5V ?_|refine A4Q ?_|refine O5 ?_|refine J8 ?_)
 have hfe2:=hfe.le hleI2;by_cases h0:r.2≠0
 ·rw[if_pos h0]
  refine⟨?_⟩
  repeat' (first|refine N7 ?_ hm;clear hm;intro _ hm;try simp only[F9]at hm|refine A2S ?_ hm|refine D8 ?_|refine D6 ?_|refine A0y ?_|refine Q3 ?_|refine D9 ?_|refine A7 ?_|refine G8 ?_|refine O1 ?_|refine E8 ?_|refine A8 ?_|refine H8 ?_|(refine D5 (ht:=fun _=>?_) (hf:=fun _=>?_)<;>try first|contradiction|omega))
  exact⟨I2,_,⟨_,a,c,xs,rfl,A4u.plain I2 rfl rfl,rfl,hfe2⟩,hm.tl⟩
 ·rw[if_neg h0]
  have h00:r.2=0:=by omega
  have hrl:=B95 (hl h00);rw[h00];have hS:=C38 h r.1 (by omega) I2 (hC.le hleI2) hfe2 bs;refine⟨?_⟩
  repeat' (first|refine F6 (d:=68) ?_ hm (hp:=pm1_1) (hc:=hS);clear hm;rintro _ I3 _ _ ⟨_,a3,c3,xs3,rfl,⟨da,dp,ea,ep,rfl,hd3,he3⟩,rfl,hfe3⟩ hleI3 hm;try simp only[F9]at hm|refine N7 ?_ hm;clear hm;intro _ hm;try simp only[F9]at hm|refine A2S ?_ hm|refine D8 ?_|refine D6 ?_|refine A0y ?_|refine D9 ?_|refine A7 ?_|refine G8 ?_|refine O1 ?_|refine E8 ?_|refine A8 ?_|refine G5 ?_|refine H8 ?_|refine F7 ?_)
  exact⟨I3,_,⟨_,a3,c3,xs3,rfl,⟨da,dp,ea,ep,rfl,hd3,he3⟩,rfl,hfe3⟩,hm.left (H:= [_])⟩
theorem C7r {s:Sp.Srv} (q:Sp.Qn) (hk2:q.kind≠2) (hk6:q.kind≠6) (I:P6) {a:Option Addr}{c:Nat} (bs:Nat) {ba off:Nat}{aa:Option Addr}{ac:Nat} (hp:C2l I ba off q aa ac):
  CalM prog 94 #[ptr bs,.pointer (some ⟨ba,off,none⟩)] I [B3H bs s a c] (fun v _ H'=>v=.tuple #[.agg (rpV A9d none 0 none 0).toArray,.bool false]/\H'= [B3H bs s a c]):=by
 refine CalM.of fun w E hm=>enter (N:=70) func94 rfl [(0,ptr bs),(1,.pointer (some ⟨ba,off,none⟩))] A0T rfl ?_
 repeat' (first|refine U1 (d:=4) ?_ hm;clear hm;intro b4 _ hm|refine J5 ?_ hm|refine N7 ?_ hm;clear hm;intro _ hm;try simp only[F9]at hm|refine A2S ?_ hm|refine D8 ?_|refine D6 ?_|refine N9 ?_|refine E5 ?_|refine C9 ?_|refine Q3 ?_|refine D9 ?_|refine A7 ?_|refine D7 ?_|refine E8 ?_|refine A8 ?_|refine F5 ?_|refine G5 ?_|refine H8 ?_|(refine D5 (ht:=fun _=>?_) (hf:=fun _=>?_)<;>try first|contradiction|omega))
 all_goals try (exfalso;rename_i hx;have:=of_decide_eq_true hx;omega)
 exact⟨I,_,⟨rfl,rfl⟩,hm.tl⟩
abbrev C1T (bs:Nat) (tx:List UInt8) (n:Nat) (op:Bool) (a:Option Addr) (c:Nat):HItem:=.cell bs [str tx,.slice a n c,.bool op] 147
theorem C8C {src:List UInt8}{its:List Sp.Itm} (hA:Sp.AllOk src its) (hin:∀k it,its[k]?=some it->Sp.ItIn src k it) (at_:Int) (I:P6) {a:Option Addr}{c:Nat}{xs:List Value} (hfe:FE I its a c xs) (bs:Nat) (op:Bool):
  CalM prog 95 #[ptr bs,.int .i64 at_] I [C1T bs src its.length op a c] (fun v I' H'=> ∃x,v=.agg x.toArray/\A4u I' (C28 its at_) x/\H'= [C1T bs src its.length op a c]):=by
 refine CalM.of fun w E hm=>enter (N:=51) func95 rfl [(0,ptr bs),(1,.int .i64 at_)] A0T rfl ?_
 have hfew:=hfe.few;have hlab:=fun (k:Nat) (hk:k<its.length) (z:Int) (hz:0<=z) (J:P6) (m:Le I J)=>C43 k hk z hz J (hfe.le m) hA.lab hA.fl
 have hri:=hfe.row;repeat' (first|refine U1 (d:=4) ?_ hm;clear hm;intro b4 _ hm|refine J4 ?_ hm|refine D8 ?_|refine G7 ?_|refine E5 ?_|refine C9 ?_|refine D9 ?_|refine A7 ?_|refine E8 ?_|refine A8 ?_|refine F5 ?_)
 refine U2 (fun k:Nat=> [(0,ptr bs),(1,.int .i64 at_),(4,ptr b4),(13,.slice a its.length c),(14,nt its.length),(15,nt k)])
  (fun k w'=>(∃J,Le I J/\Mem E J [.cell b4 (rpV A9d none 0 none 0) 80,C1T bs src its.length op a c] w')/\k<=its.length/\A81 its at_ k=none) (fun k=>its.length-k) 0
  (by exact⟨rfl,rfl,rfl,rfl,rfl,rfl,trivial⟩) ⟨⟨I,Le.refl _,hm⟩,H7 _,rfl⟩ ?_
 clear hm;rintro k w1 ⟨⟨J,hle,hm⟩,hk,hnone⟩;try dsimp only at hm hk hnone |-
 by_cases hlt:k<its.length
 ·have hg:its[k]?=some (A0o its k):=A2G hlt
  have hn:=hin k _ hg;have h0:=hn.at0;have htop:=hn.top;have hlen:=hn.len;obtain⟨ci,hci,hat,_⟩:=(hfe.le hle).get hg;have hri2:=hri.le hle;have hstep:=B8P hnone;have hmore:=fun n (e:A81 its at_ (k+1)=some n)=>B8Q (m:=its.length) (by omega) e
  have hL:=hlab k hlt;rw[C6V]at hstep;generalize hit:A0o its k=it at hg hat hstep h0 htop;obtain⟨pa,pc,sa9,sc9,ba9,bc9,da9,dc9,xb,rfl,_⟩:=hat
  by_cases hin2:it.at_<=at_/\at_<it.at_+it.size
  ·rw[if_pos hin2]at hstep
   have hL2:=hL (at_-it.at_) (by omega) J hle;generalize (A3c its k (at_-it.at_)).hv=hv at hL2 hstep;cases hv with
   |none=>
    repeat' (first|refine O0 (d:=18) ?_ (hr:=hri2);intro bt ot hpt;rw[show ((k:Int).toNat *10)=k *10 from rfl,hci]at hpt|refine X3 (d:=19) ?_ hm (hp:=hpt)|refine A1k (id:=5) (hm.perm pm0) [0,1,2,3,4,5,6,7,8] 14 (h:=?_);clear hm;intro wd hR hm|refine A4o (d:=37) ?_ hR|refine A3Y [10,11,12,13] (by decide+kernel) hm.kept ?_|refine A42 (d:=43) hm (by rfl) (by rfl) (by rfl) pm0 hL2 ?_;clear hm;rintro _ J2 _ _ ⟨rfl,rfl⟩ hleJ2 hm;try simp only[F9]at hm|refine A1j (i:=9) ?_ (by decide+kernel)|refine A6b ?_|refine A5a (by decide+kernel) ?_;replace hm:=hR.back hm;clear hR;try simp only[F9]at hm|refine Y3 ?_ hR|refine U1 (d:=6) ?_ hm;clear hm;intro b6 _ hm|refine J4 ?_ hm|refine N7 ?_ hm;clear hm;intro _ hm;try simp only[F9]at hm|refine D8 ?_|refine D6 ?_|refine O9 ?_|refine J6 ?_|refine A6I ?_|refine P7 ?_|refine C9 ?_|(refine N8 (h1:=fun _=>?_) (h0:=fun _=>?_)<;>try first|contradiction|omega)|refine D9 ?_|refine A7 ?_|refine D7 ?_|refine E8 ?_|refine A8 ?_|refine F5 ?_|refine G5 ?_|refine F7 ?_|(refine D5 (ht:=fun _=>?_) (hf:=fun _=>?_)<;>try first|contradiction|omega)|refine Z4 ?_|refine A5V ?_|refine A4Q ?_|refine O5 ?_|refine C4v ?_|refine J8 ?_)
    all_goals exact L9 (k+1:Nat) (by exact⟨rfl,rfl,rfl,rfl,rfl,rfl,trivial⟩) ⟨⟨J2,hle.trans hleJ2,hm.tl⟩,by omega,hstep⟩ (by omega)
   |some n=>
    have hfin:=hmore n hstep;repeat' (first|refine O0 (d:=18) ?_ (hr:=hri2);intro bt ot hpt;rw[show ((k:Int).toNat *10)=k *10 from rfl,hci]at hpt|refine X3 (d:=19) ?_ hm (hp:=hpt)|refine A1k (id:=5) (hm.perm pm0) [0,1,2,3,4,5,6,7,8] 14 (h:=?_);clear hm;intro wd hR hm|refine A4o (d:=37) ?_ hR|refine A3Y [10,11,12,13] (by decide+kernel) hm.kept ?_|refine A42 (d:=43) hm (by rfl) (by rfl) (by rfl) pm0 hL2 ?_;clear hm;rintro _ J2 _ _ ⟨rfl,rfl⟩ hleJ2 hm;try simp only[F9]at hm|refine A1j (i:=9) ?_ (by decide+kernel)|refine A6b ?_|refine A5a (by decide+kernel) ?_;replace hm:=hR.back hm;clear hR;try simp only[F9]at hm|refine Y3 ?_ hR|refine U1 (d:=6) ?_ hm;clear hm;intro b6 _ hm|refine J4 ?_ hm|refine N7 ?_ hm;clear hm;intro _ hm;try simp only[F9]at hm|refine Y4 ?_ hm|refine D8 ?_|refine D6 ?_|refine O9 ?_|refine J6 ?_|refine A6I ?_|refine P7 ?_|refine C9 ?_|refine Q3 ?_|(refine N8 (h1:=fun _=>?_) (h0:=fun _=>?_)<;>try first|contradiction|omega)|refine D9 ?_|refine A7 ?_|refine G8 ?_|refine O1 ?_|refine E8 ?_|refine A8 ?_|refine F5 ?_|refine G5 ?_|refine H8 ?_|refine H6 ?_|(refine D5 (ht:=fun _=>?_) (hf:=fun _=>?_)<;>try first|contradiction|omega)|refine Z4 ?_|refine A5V ?_|refine A4Q ?_|refine O5 ?_|refine C4v ?_|refine J8 ?_)
    all_goals exact⟨J2,_,⟨_,rfl,by rw[C28,hfin];exact A4u.plain J2 rfl rfl,rfl⟩,hm.tl.tl⟩
  ·rw[if_neg hin2]at hstep
   repeat' (first|refine O0 (d:=18) ?_ (hr:=hri2);intro bt ot hpt;rw[show ((k:Int).toNat *10)=k *10 from rfl,hci]at hpt|refine X3 (d:=19) ?_ hm (hp:=hpt)|refine U1 (d:=6) ?_ hm;clear hm;intro b6 _ hm|refine J4 ?_ hm|refine N7 ?_ hm;clear hm;intro _ hm;try simp only[F9]at hm|refine D8 ?_|refine D6 ?_|refine O9 ?_|refine L8 ?_|refine J6 ?_|refine A6I ?_|refine P7 ?_|refine C9 ?_|refine A0N ?_|(refine N8 (h1:=fun _=>?_) (h0:=fun _=>?_)<;>try first|contradiction|omega)|refine D9 ?_|refine A7 ?_|refine D7 ?_|refine E8 ?_|refine A8 ?_|refine F5 ?_|refine G5 ?_|refine F7 ?_|(refine D5 (ht:=fun _=>?_) (hf:=fun _=>?_)<;>try first|contradiction|omega))
   all_goals first
    |exact L9 (k+1:Nat) (by exact⟨rfl,rfl,rfl,rfl,rfl,rfl,trivial⟩) ⟨⟨J,hle,hm.tl⟩,by omega,hstep⟩ (by omega)
    |skip
 ·obtain rfl:k=its.length:=by omega
  repeat' (first|refine N7 ?_ hm;clear hm;intro _ hm;try simp only[F9]at hm|refine Y4 ?_ hm|refine J6 ?_|refine Q3 ?_|refine D9 ?_|refine A7 ?_|refine H9 ?_|refine H5 ?_|refine E8 ?_|refine A8 ?_|refine P9 ?_|refine H8 ?_|(refine D5 (ht:=fun _=>?_) (hf:=fun _=>?_)<;>try first|contradiction|omega))
  exact⟨J,_,⟨_,rfl,by rw[C28,hnone];exact A4u.plain J rfl rfl,rfl⟩,hm.tl⟩
abbrev C0Q (l:List UInt8):List Value:=l.map (fun c=>Value.int .u8 c.toNat)
def adV:Bool->Nat->Value
 |true,b=>ptr b
 |false,_=> .pointer none
abbrev B3Q (bw:Nat) (u:Bool) (n:Nat) (a:Option Addr) (cp:Nat):HItem:=.cell bw [adV u bw,.slice a n cp] 93
abbrev C7M (o:List UInt8) (a:Option Addr) (cp:Nat):HItem:=.row (.slice a o.length cp) 5 1 o.length (C0Q o)
abbrev WSt (bw:Nat) (o:List UInt8) (u:Bool) (a:Option Addr) (cp:Nat):List HItem:= [B3Q bw u o.length a cp,C7M o a cp]
abbrev ToW (bw:Nat) (o:List UInt8):Value->P6->List HItem->Prop:=fun _ _ H'=> ∃a cp,H'=WSt bw o true a cp
theorem B6F (o s:List UInt8):C0Q o++C0Q s=C0Q (o++s):=(Y8 ..).symm
set_option maxRecDepth 100000 in
theorem C59:(prog.info? 5).bind (·.zero)=some (.int .u8 0):=by kernel_rfl
set_option maxRecDepth 100000 in
theorem B9W {I:P6} (bw:Nat) (u:Bool) (n:Nat) (a:Option Addr) (cp:Nat):
  CalM prog 98 #[ptr bw] I [B3Q bw u n a cp] (fun _ _ H'=>H'= [B3Q bw true n a cp]):=by
 refine CalM.of fun w E hm=>enter (N:=20) func98 rfl [(0,ptr bw)] A0I rfl ?_
 have hg:=fun (w:World) (hm:Mem E I [B3Q bw u n a cp] w)=>hm.get (i:=0) (b:=bw) rfl
 cases u with
 |false=>
  repeat' (first|refine A3s (d:=6) underlying88 (by rfl) (by rfl) (by rfl) (by rfl) ?_|refine C3J underlying88 underlying225 (by kernel_rfl) (by rfl) (by rfl) (by rfl) (hg _ hm) (by simp) ?_|refine C3I func128 (by kernel_rfl) (by kernel_rfl) (by kernel_rfl) (by kernel_rfl) (by rfl) (by rfl) (by rfl) ?_|refine B9f underlying225 underlying88 (by kernel_rfl) (by rfl) (by rfl) (by rfl) (hg _ hm) (by kernel_rfl) ?_|refine J4 ?_ hm|refine O6 hm (k:=?_);clear hm;intro _ hm;try simp only[F9]at hm|refine D8 ?_|refine E5 ?_|refine C9 ?_|refine D9 ?_|refine A7 ?_|refine E8 ?_|refine A8 ?_|refine X0 ?_|refine H6 ?_)
  exact⟨I,_,rfl,hm⟩
 |true=>
  repeat' (first|refine A3s (d:=6) underlying88 (by rfl) (by rfl) (by rfl) (by rfl) ?_|refine B3r (d:=19) underlying88 (by kernel_rfl) (by rfl) (by rfl) (by rfl) (by rfl) ?_|refine J4 ?_ hm|refine D8 ?_|refine E5 ?_|refine C9 ?_|refine D9 ?_|refine A7 ?_|refine E8 ?_|refine A8 ?_|refine G5 ?_|refine X0 ?_|refine F7 ?_)
  exact⟨I,_,rfl,hm⟩
theorem A0l {I:P6} (bw:Nat) (o s:List UInt8) (u:Bool) (a:Option Addr) (cp:Nat) (hl:o.length+s.length<=140737488355328):
  CalM prog 67 #[ptr bw,str s] I (WSt bw o u a cp) (ToW bw (o++s)):=by
 refine CalM.of fun w E hm=>enter (N:=19) func67 rfl [(0,ptr bw),(1,str s)] A0T rfl ?_
 repeat' (first|refine F6 (d:=7) ?_ hm (hp:=pm1_0) (hc:=B9W bw u o.length a cp);clear hm;rintro _ I2 _ _ rfl hle hm;try simp only[F9]at hm|refine C6Y (d:=14) (i:=1) C59 hm (by rfl) (by rfl) (by rfl) (by rfl) (by rfl) hl ?_;clear hm;intro a14 cp14 _ hm;try simp only[F9]at hm;rw[B6F]at hm|refine J4 ?_ hm|refine O6 hm (k:=?_);clear hm;intro _ hm;try simp only[F9]at hm|refine D8 ?_|refine D6 ?_|refine A0G ?_|refine E5 ?_|refine C9 ?_|refine D9 ?_|refine A7 ?_|refine E8 ?_|refine A8 ?_|refine H8 ?_|refine A1T ?_)
 exact⟨I2,_,⟨a14,cp14,by unfold WSt B3Q C7M;rw[E9]⟩,hm⟩
theorem A4k {I:P6} (bw:Nat) (o:List UInt8) (c:UInt8) (u:Bool) (a:Option Addr) (cp:Nat) (hl:o.length+1<=140737488355328):
  CalM prog 68 #[ptr bw,.int .u8 c.toNat] I (WSt bw o u a cp) (ToW bw (o++ [c])):=by
 refine CalM.of fun w E hm=>enter (N:=17) func68 rfl [(0,ptr bw),(1,.int .u8 c.toNat)] A0T rfl ?_
 repeat' (first|refine F6 (d:=6) ?_ hm (hp:=pm1_0) (hc:=B9W bw u o.length a cp);clear hm;rintro _ I2 _ _ rfl hle hm;try simp only[F9]at hm|refine A2l (d:=14) ?_ hm;clear hm;intro a14 cp14 _ _ hm;try simp only[F9]at hm|refine J4 ?_ hm|refine O6 hm (k:=?_);clear hm;intro _ hm;try simp only[F9]at hm|refine D8 ?_|refine D6 ?_|refine E5 ?_|refine C9 ?_|refine D9 ?_|refine A7 ?_|refine E8 ?_|refine A8 ?_|refine H8 ?_|refine J9 ?_)
 have he:C0Q o++(Value.int .u8 c.toNat).cells.toList=C0Q (o++ [c]):=B6F o [c];rw[he]at hm;exact⟨I2,_,⟨a14,cp14,by unfold WSt B3Q C7M;rw[E9];rfl⟩,hm⟩
theorem C2n {I:P6} (bw:Nat) (o:List UInt8) (u:Bool) (a:Option Addr) (cp:Nat) (ho:o≠ []\/o= []/\a=none):
  CalM prog 39 #[ptr bw] I (WSt bw o u a cp) (fun v _ H'=>v=str o/\H'= [B3Q bw u o.length a cp]):=by
 refine CalM.of fun w E hm=>enter (N:=14) func39 rfl [(0,ptr bw)] A0I rfl ?_
 rcases ho with ho|⟨rfl,rfl⟩
 ·have h0:0<o.length:=A3S.2 ho
  obtain⟨g,rfl⟩:=hm.swap.rowAddr h0;have hcp:cp≠0:=by
   obtain⟨_,cp2,_,e1,_,e2,_⟩:=hm.swap.openRow h0;injection e1 with _ _ e3
   omega
  repeat' (first|refine A0m (id:=1) (hm.perm pm1_1) [0,1,2,3,4,5,6,7,8,9] [10] 11 (h:=?_);clear hm;intro wd hR hm|refine B8e (d:=7) (by rfl) (by rfl) (by rfl) hcp ?_|refine C1q (d:=13) (s:=o) underlying158 (by kernel_rfl) hm (by rfl) (by rfl) (by rfl) (by rfl) ho rfl ?_;clear hm;intro _ hm|refine Y3 ?_ hR|refine A0w ?_;replace hm:=hR.back hm;clear hR;try simp only[F9]at hm|refine D6 ?_|refine D9 ?_|refine A7 ?_|refine E8 ?_|refine A8 ?_|refine H8 ?_|refine J9 ?_|refine Z4 ?_|refine A9j ?_|refine O5 ?_|refine J8 ?_|refine A0b ?_)
  exact⟨I,_,⟨rfl,rfl⟩,hm⟩
 ·skip
  repeat' (first|refine A0m (id:=1) (hm.perm pm0) [0,1,2,3,4,5,6,7,8,9] [10] 11 (h:=?_);clear hm;intro wd hR hm|refine B6a (d:=7) (by rfl) (by rfl) (by rfl) ?_|refine B9b (d:=13) hm (by rfl) (by rfl) (by rfl) (by rfl) ?_|refine Y3 ?_ hR|refine A0w ?_;replace hm:=hR.back hm;clear hR;try simp only[F9]at hm|refine D6 ?_|refine D9 ?_|refine A7 ?_|refine E8 ?_|refine A8 ?_|refine H8 ?_|refine J9 ?_|refine Z4 ?_|refine A9j ?_|refine O5 ?_|refine J8 ?_|refine A0b ?_)
  exact⟨I,_,⟨rfl,rfl⟩,hm.left (H:= [_])⟩
def A8B (I:P6):Prop:= ∃ty fr,I 1=some (.cells (Lib.pow10Tab.map fun z=>Value.int .u64 z).toArray ty fr)
theorem A8B.le {I I':P6} (h:A8B I) (m:Le I I'):A8B I':=by
 obtain⟨ty,fr,h1⟩:=h;exact⟨ty,fr,m _ _ h1⟩
theorem C54 {I : P6} (h : A8B I) {w : World} (hI : Inv I w) : Lib.TabIs prog w "internal/strconv.uint64pow10" .u64 Lib.pow10Tab := by
 obtain⟨ty,fr,h1⟩:=h;have hg : prog.globalNamed "internal/strconv.uint64pow10" = some 1 := by kernel_rfl
 unfold Lib.TabIs
 simp only[World.var?,hg,A1m,hI _ _ h1]
theorem C7Q {I:P6} (n:Nat) (h:n≤1000000000) (hI:A8B I):CalM prog 160 #[nt n] I [] (fun u I' H'=>I'=I∧H'= []∧u=str (Lib.itoa n)):=by
 refine⟨fun w hm=>⟨?_⟩⟩
 exact Calls.mono (Tryz.strconv_Itoa n (by omega) (by omega) w (C54 hI hm.inv)) (fun e w' ⟨he,k,os,hw⟩=>by
  subst he;subst hw;exact⟨I,[],⟨rfl,rfl,rfl⟩,hm.kept0 (Kept.of_below (Lib.below_grow _ w (G9 _) k os))⟩)
theorem C5L:∀n:Nat,Lib.repeatL (⟨[32,32].toArray⟩:ByteArray).data.toList n=Sp.pad n:=fun n=>by
 show Lib.repeatL [32,32] n=Sp.pad n
 rw[Sp.pad];induction n with
 |zero=>rfl
 |succ n ih=>rw[List.replicate_succ,List.flatten_cons, ←ih];rfl
theorem B8g {I:P6} (n:Nat) (h:n≤1000000):CalM prog 100 #[.string ⟨#[32,32]⟩,nt n] I [] (fun u I' H'=>I'=I∧H'= []∧u=str (Sp.pad n)):=by
 refine⟨fun w hm=>⟨?_⟩⟩
 exact Calls.mono (Tryz.strings_Repeat ⟨#[32,32]⟩ n w (by omega) (by show 2 *n≤_;omega)) (fun e w' ⟨he,hw⟩=>by
  subst he;exact⟨I,[],⟨rfl,rfl,by rw[←C5L]⟩,hm.kept0 (Kept.of_below hw)⟩)
theorem C0J {J:P6}{b o tc:Nat} (e:Sp.Ex) (ea:Option Addr) (ec:Nat) (hp:PtrI J b o tc (A0z e ea ec)):CalR prog 161 #[.pointer (some ⟨b,o,none⟩)] J [] (nt (A3B e)):=by
 refine CalR.of fun w K hm hl _ _=>enter (N:=18) func161 rfl [(0,.pointer (some ⟨b,o,none⟩))] A0I rfl ?_
 have hp:=hp.le hl;rw[A3B,A22];by_cases k3:e.kind=3
 case neg=>
  rw[if_pos k3];repeat' (first|refine J5 ?_ hm|refine D8 ?_|refine D6 ?_|refine A0y ?_|refine E5 ?_|refine C9 ?_|refine D9 ?_|refine A7 ?_|refine G8 ?_|refine E8 ?_|refine A8 ?_|refine H8 ?_|refine J9 ?_|(refine D5 (ht:=fun _=>?_) (hf:=fun _=>?_)<;>try first|contradiction|omega))
  exact⟨rfl,hm.kept⟩
 rw[if_neg (fun h=>h k3)];by_cases c1:e.name= [61]∨e.name= [60]
 ·rw[if_pos c1]
  repeat' (first|refine J5 ?_ hm|refine D8 ?_|refine D6 ?_|refine A0y ?_|refine V9 ?_|refine E5 ?_|refine C9 ?_|refine D9 ?_|refine A7 ?_|refine G8 ?_|refine D7 ?_|refine O1 ?_|refine E8 ?_|refine A8 ?_|refine F5 ?_|refine G5 ?_|refine H8 ?_|refine J9 ?_|(refine D5 (ht:=fun _=>?_) (hf:=fun _=>?_)<;>try first|contradiction|omega))
  all_goals first
   |exact⟨rfl,hm.kept⟩
   |(exfalso;simp_all)
 ·rw[if_neg c1]
  by_cases c2:e.name= [43]∨e.name= [45]
  ·rw[if_pos c2]
   repeat' (first|refine J5 ?_ hm|refine D8 ?_|refine D6 ?_|refine A0y ?_|refine V9 ?_|refine E5 ?_|refine C9 ?_|refine D9 ?_|refine A7 ?_|refine G8 ?_|refine D7 ?_|refine O1 ?_|refine E8 ?_|refine A8 ?_|refine F5 ?_|refine G5 ?_|refine H8 ?_|refine J9 ?_|(refine D5 (ht:=fun _=>?_) (hf:=fun _=>?_)<;>try first|contradiction|omega))
   all_goals first
    |exact⟨rfl,hm.kept⟩
    |(exfalso;simp_all)
  ·rw[if_neg c2]
   repeat' (first|refine J5 ?_ hm|refine D8 ?_|refine D6 ?_|refine A0y ?_|refine V9 ?_|refine E5 ?_|refine C9 ?_|refine D9 ?_|refine A7 ?_|refine G8 ?_|refine D7 ?_|refine O1 ?_|refine E8 ?_|refine A8 ?_|refine F5 ?_|refine G5 ?_|refine H8 ?_|refine J9 ?_|(refine D5 (ht:=fun _=>?_) (hf:=fun _=>?_)<;>try first|contradiction|omega))
   all_goals first
    |exact⟨rfl,hm.kept⟩
    |(exfalso;simp_all)
def EW (I0:P6) (bw:Nat) (e:Sp.Ex):Prop:= ∀(J:P6) (b o tc:Nat) (ea:Option Addr) (ec:Nat) (ys:List Value) (out:List UInt8) (u:Bool) (a:Option Addr) (cp:Nat),Le I0 J→out.length+(Sp.exW e).length≤100000000000000→
 PtrI J b o tc (A0z e ea ec)→RowI J 109 6 (.slice ea e.args.length ec) e.args.length ys→Y7 J e.args ys→
 CalM prog 129 #[ptr bw,.pointer (some ⟨b,o,none⟩)] J (WSt bw out u a cp) (ToW bw (out++Sp.exW e))
theorem C4y {I0:P6}{bw:Nat}{e:Sp.Ex} (hE:EW I0 bw e) {J:P6}{b o tc:Nat}{ea:Option Addr}{ec:Nat}{ys:List Value}{out:List UInt8}{u:Bool}{a:Option Addr}{cp:Nat} (n:Nat) (hle:Le I0 J) (hl:out.length+(B0T (decide (A3B e<n)) (Sp.exW e)).length≤100000000000000)
  (hp:PtrI J b o tc (A0z e ea ec)) (hr:RowI J 109 6 (.slice ea e.args.length ec) e.args.length ys) (hx:Y7 J e.args ys):
  CalM prog 162 #[ptr bw,.pointer (some ⟨b,o,none⟩),nt n] J (WSt bw out u a cp) (ToW bw (out++B0T (decide (A3B e<n)) (Sp.exW e))):=by
 refine CalM.of fun w E hm=>enter (N:=24) func162 rfl [(0,ptr bw),(1,.pointer (some ⟨b,o,none⟩)),(2,nt n)] A3C rfl ?_
 have hT:=C0J e ea ec hp;rw[B0T]at hl ⊢;by_cases hlt:A3B e<n
 ·rw[if_pos (by simpa using hlt)]at hl ⊢
  simp only[E9,F8,List.length_nil]at hl;have hE1:=fun (I:P6) (m:Le J I) (a cp)=>hE I b o tc ea ec ys (out++ [40]) true a cp (hle.trans m) (by rw[E9];show _+1+_≤_;omega) (hp.le m) (hr.le m) (Y7.le m _ _ hx)
  repeat' (first|refine S9 (d:=7) ?_ hm (hc:=hT);clear hm;intro _ hm|refine F6 (d:=13) ?_ hm (hp:=pm2_0) (hc:=A4k bw out 40 u a cp (by omega));clear hm;rintro _ I2 _ _ ⟨a2,cp2,rfl⟩ hleI2 hm;try simp only[F9]at hm|refine F6 (d:=16) ?_ hm (hp:=pm2_0) (hc:=hE1 I2 hleI2 a2 cp2);clear hm;rintro _ I3 _ _ ⟨a3,cp3,rfl⟩ hleI3 hm;try simp only[F9]at hm|refine F6 (d:=20) ?_ hm (hp:=pm2_0) (hc:=A4k bw (out++ [40]++Sp.exW e) 41 true a3 cp3 (by simp only[E9,F8,List.length_nil];omega));clear hm;rintro _ I4 _ _ ⟨a4,cp4,rfl⟩ hleI4 hm;try simp only[F9]at hm|refine D8 ?_|refine J6 ?_|refine E5 ?_|refine C9 ?_|refine D9 ?_|refine A7 ?_|refine G8 ?_|refine E8 ?_|refine A8 ?_|refine H8 ?_|refine A4U ?_|(refine D5 (ht:=fun _=>?_) (hf:=fun _=>?_)<;>try first|contradiction|omega))
  exact⟨I4,_,⟨a4,cp4,by simp only[O3]⟩,hm⟩
 ·rw[if_neg (by simpa using hlt)]at hl ⊢
  have hE1:=fun (I:P6) (m:Le J I)=>hE I b o tc ea ec ys out u a cp (hle.trans m) (by omega) (hp.le m) (hr.le m) (Y7.le m _ _ hx)
  repeat' (first|refine S9 (d:=7) ?_ hm (hc:=hT);clear hm;intro _ hm|refine F6 (d:=23) ?_ hm (hp:=pm2_0) (hc:=hE1 J (Le.refl _));clear hm;rintro _ I3 _ _ ⟨a3,cp3,rfl⟩ hleI3 hm;try simp only[F9]at hm|refine D8 ?_|refine J6 ?_|refine D9 ?_|refine A7 ?_|refine E8 ?_|refine A8 ?_|refine G5 ?_|refine X0 ?_|(refine D5 (ht:=fun _=>?_) (hf:=fun _=>?_)<;>try first|contradiction|omega))
  exact⟨I3,_,⟨a3,cp3,rfl⟩,hm⟩
structure WrX where
 k:Nat
 I:P6
 a:Option Addr
 cp:Nat
theorem C7N {I0:P6} (hT:A8B I0) (bw:Nat):∀(n:Nat) (e:Sp.Ex),SizeOf.sizeOf e<=n->∀d l,e.fitE d l->EW I0 bw e:=by
 intro n;induction n with
 |zero=>intro e h;cases e;simp at h
 |succ n ih=>
 intro e hsz d l hfit I b o tc ea ec ys out u a cp hle0 hlen hp hr hx;have hnode:=C20 hfit;have heq:=C6O e;obtain⟨fin,hfin⟩:∃fin,fin=Sp.exW e:=⟨_,rfl⟩;rw[<-hfin]at heq hlen |-;refine CalM.of fun w E hm=>enter (N:=99) func129 rfl [(0,ptr bw),(1,.pointer (some ⟨b,o,none⟩))] A0T rfl ?_
 by_cases k1:e.kind=1
 ·rw[if_pos k1]at heq
  have hn:e.n<=1000000000:=by
   rcases hnode with h|h|h|h
   ·exact h.2
   all_goals omega
  have hW:=A0l bw out fin u a cp (I:=I) (by omega);have hI:=C7Q (I:=I) e.n hn (hT.le hle0);rw[<-heq]at hI;repeat' (first|refine Z8 (id:=2) (hm.perm pm2_0) [0,1,2,3,4,5,6] [7,8] 9 (by kernel_rfl) ?_;clear hm;intro wd hR hm|refine U7 (d:=19) ?_ hm (hp:=pm0) (hc:=hI);clear hm;rintro _ I2 _ _ ⟨rfl,rfl,rfl⟩ hleI2 hm;try simp only[F9]at hm|refine U7 (d:=20) ?_ hm (hp:=pm2_0) (hc:=hW);clear hm;rintro _ I3 _ _ ⟨a3,cp3,rfl⟩ hleI3 hm;try simp only[F9]at hm|refine A0c ?_ hR|refine A0w ?_;replace hm:=hR.back hm;clear hR;try simp only[F9]at hm|refine J5 ?_ hm|refine D8 ?_|refine D6 ?_|refine N9 ?_|refine E5 ?_|refine C9 ?_|refine D9 ?_|refine A7 ?_|refine D7 ?_|refine E8 ?_|refine A8 ?_|refine F5 ?_|refine X0 ?_|(refine D5 (ht:=fun _=>?_) (hf:=fun _=>?_)<;>try first|contradiction|omega)|refine Z4 ?_|refine O5 ?_|refine J8 ?_|refine A0b ?_)
  exact⟨I3,_,⟨a3,cp3,rfl⟩,hm⟩
 rw[if_neg k1]at heq;by_cases k3:e.kind=3
 ·rw[if_pos k3]at heq
  obtain⟨h2,d2,hops⟩:e.args.length=2/\∃d2,A3z e.args d2 (A1i e.name):=by
   rcases hnode with h|h|h|h
   ·omega
   ·omega
   ·omega
   ·exact h.2
  have g0:e.args[0]?=some e.args[0]:=G6 (by omega);have g1:e.args[1]?=some e.args[1]:=G6 (by omega);have z0:=A2r (O7 (l:=e.args) (n:=0) (by omega));have z1:=A2r (O7 (l:=e.args) (n:=1) (by omega));have f0:=B0i hops g0;have f1:=B0i hops g1;rw[A8U g0,A8U g1,O4,O4,g0,g1]at heq;simp only[Option.getD_some]at heq;obtain⟨ea0,ec0,ys0,hc0,hr0,hx0⟩:=(hx.get g0).out;obtain⟨ea1,ec1,ys1,hc1,hr1,hx1⟩:=(hx.get g1).out;have hTg:=C0J e ea ec hp;have htn:A3B e=A22 e.name:=by rw[A3B,if_neg (fun h=>h k3)]
  rw[htn]at hTg;have hE0:=ih e.args[0] (by omega) _ _ f0;have hE1:=ih e.args[1] (by omega) _ _ f1;generalize e.args[0]=e0 at g0 z0 f0 hc0 hr0 hx0 heq hE0;generalize e.args[1]=e1 at g1 z1 f1 hc1 hr1 hx1 heq hE1;have q0:=C0q (decide (A3B e0<A22 e.name)) (Sp.exW e0);have q1:=C0q (decide (A3B e1<A22 e.name+1)) (Sp.exW e1);have hln:=congrArg List.length heq;simp only[E9,F8,List.length_nil]at hln;have hP0:=fun (J:P6) (m:Le I J) (b o tc:Nat) (hp:PtrI J b o tc (A0z e0 ea0 ec0))=>C4y hE0 (J:=J) (out:=out) (u:=u) (a:=a) (cp:=cp) (A22 e.name) (hle0.trans m) (by omega) hp (hr0.le m) (Y7.le m _ _ hx0)
  have hP1:=fun (J:P6) (m:Le I J) (b o tc:Nat) (out:List UInt8) (a:Option Addr) (cp:Nat) (ho:out.length+(B0T (decide (A3B e1<A22 e.name+1)) (Sp.exW e1)).length<=100000000000000) (hp:PtrI J b o tc (A0z e1 ea1 ec1))=>C4y hE1 (J:=J) (out:=out) (u:=true) (a:=a) (cp:=cp) (A22 e.name+1) (hle0.trans m) ho hp (hr1.le m) (Y7.le m _ _ hx1)
  have hsp:A22 e.name<=3:=by rw[A22];split<;>(try split)<;>omega
  generalize B0T (decide (A3B e0<A22 e.name)) (Sp.exW e0)=p0 at heq hP0 hln q0;generalize B0T (decide (A3B e1<A22 e.name+1)) (Sp.exW e1)=p1 at heq hP1 hln q1;have hrl:∀J,Le I J->RowI J 109 6 (.slice ea e.args.length ec) e.args.length ys:=fun J mm=>hr.le mm
  rw[h2]at hrl;have hp':PtrI I b o tc [nt e.kind,str e.name,nt e.n,.slice ea 2 ec,nt e.fr,nt e.to]:=by rw[<-h2];exact hp
  clear hp;subst heq;have hadd:((A22 e.name:Nat):Int)+1=((A22 e.name+1:Nat):Int):=rfl;repeat' (first|refine S9 (d:=24) ?_ hm (hc:=hTg);clear hm;intro _ hm|refine O0 (d:=30) ?_ (hr:=hrl I (Le.refl _));intro b0 o0 hp0;rw[show ((0:Int).toNat *6)=0 *6 from rfl,hc0]at hp0|refine F6 (d:=32) ?_ hm (hp:=pm2_0) (hc:=hP0 I (Le.refl _) _ _ _ hp0);clear hm;rintro _ I2 _ _ ⟨a2,cp2,rfl⟩ hleI2 hm;try simp only[F9]at hm;have hp2:=hp'.le hleI2|refine Z8 (id:=6) (hm.perm pm2_0) [0,1,2,3,4,5,6,7,8] [9] 10 (by kernel_rfl) ?_;clear hm;intro wd hR hm|refine A2s (d:=40) (s:= [32]) (u:=e.name) (by rfl) (by rfl) (by rfl) (by rfl) (by show 1+_<=_;omega) ?_|refine A2s (d:=41) (s:= [32]++e.name) (u:= [32]) (by rfl) (by rfl) (by rfl) (by rfl) (by simp only[E9,F8,List.length_nil];omega) ?_|refine U7 (d:=42) ?_ hm (hp:=pm2_0) (hc:=A0l bw (out++p0) ([32]++e.name++ [32]) true a2 cp2 (by simp only[E9,F8,List.length_nil];omega));clear hm;rintro _ I3 _ _ ⟨a3,cp3,rfl⟩ hleI3 hm;try simp only[F9]at hm|refine O0 (d:=48) ?_ (hr:=hrl I3 (hleI2.trans hleI3));intro b1 o1 hp1;rw[show ((1:Int).toNat *6)=1 *6 from rfl,hc1]at hp1|refine J5 (d:=47) ?_ hm (hp:=hp2.le hleI3)|refine P7 (d:=50) ?_;rw[hadd]|refine F6 (d:=51) ?_ hm (hp:=pm2_0) (hc:=hP1 I3 (hleI2.trans hleI3) _ _ _ (out++p0++([32]++e.name++ [32])) a3 cp3 (by simp only[E9,F8,List.length_nil];omega) hp1);clear hm;rintro _ I4 _ _ ⟨a4,cp4,rfl⟩ hleI4 hm;try simp only[F9]at hm|refine A0c ?_ hR|refine A0w ?_;replace hm:=hR.back hm;clear hR;try simp only[F9]at hm|refine J5 ?_ hm|refine D8 ?_|refine D6 ?_|refine N9 ?_|refine E5 ?_|refine C9 ?_|refine D9 ?_|refine A7 ?_|refine D7 ?_|refine E8 ?_|refine A8 ?_|refine F5 ?_|refine X0 ?_|(refine D5 (ht:=fun _=>?_) (hf:=fun _=>?_)<;>try first|contradiction|omega)|refine Z4 ?_|refine O5 ?_|refine J8 ?_|refine A0b ?_)
  have hfo:out++p0++32::(e.name++ [32])++p1=out++(p0++ [32]++e.name++ [32]++p1):=by simp
  rw[hfo]at hm;exact⟨I4,_,⟨a4,cp4,rfl⟩,hm⟩
 rw[if_neg k3]at heq;by_cases k2:e.kind=2
 ·rw[if_pos k2]at heq
  subst heq;repeat' (first|refine Z8 (id:=10) (hm.perm pm2_0) [0,1,2,3,4,5,6] [7] 8 (by kernel_rfl) ?_;clear hm;intro wd hR hm|refine U7 (d:=62) ?_ hm (hp:=pm2_0) (hc:=A0l bw out e.name u a cp (by omega));clear hm;rintro _ I3 _ _ ⟨a3,cp3,rfl⟩ hleI3 hm;try simp only[F9]at hm;have hp3:=hp.le hleI3|refine A0c ?_ hR|refine A0w ?_;replace hm:=hR.back hm;clear hR;try simp only[F9]at hm|refine J5 ?_ hm|refine D8 ?_|refine D6 ?_|refine N9 ?_|refine E5 ?_|refine C9 ?_|refine D9 ?_|refine A7 ?_|refine G8 ?_|refine O1 ?_|refine E8 ?_|refine A8 ?_|refine F5 ?_|refine G5 ?_|refine H8 ?_|refine A4U ?_|(refine D5 (ht:=fun _=>?_) (hf:=fun _=>?_)<;>try first|contradiction|omega)|refine Z4 ?_|refine O5 ?_|refine J8 ?_|refine A0b ?_)
  exact⟨I3,_,⟨a3,cp3,rfl⟩,hm⟩
 rw[if_neg k2]at heq;obtain⟨k4,h5,hxs⟩:e.kind=4/\e.args.length<=5/\A2k e.args (d+1):=by
  rcases hnode with h|h|h|h
  ·omega
  ·omega
  ·exact h
  ·omega
 rw[if_pos k4]at heq;subst heq;have hcl:=fun j=>B2W (A4S e.args) (j:=j) (k:=e.args.length)
 simp only[E9,F8,List.length_nil]at hlen;repeat' (first|refine Z8 (id:=10) (hm.perm pm2_0) [0,1,2,3,4,5,6] [7] 8 (by kernel_rfl) ?_;clear hm;intro wd hR hm|refine U7 (d:=62) ?_ hm (hp:=pm2_0) (hc:=A0l bw out e.name u a cp (by omega));clear hm;rintro _ I3 _ _ ⟨a3,cp3,rfl⟩ hleI3 hm;try simp only[F9]at hm;have hp3:=hp.le hleI3|refine F6 (d:=71) ?_ hm (hp:=pm2_0) (hc:=A4k bw (out++e.name) 40 true a3 cp3 (by rw[E9];omega));clear hm;rintro _ I4 _ _ ⟨a4,cp4,rfl⟩ hleI4 hm;try simp only[F9]at hm;have hp4:=hp3.le hleI4|refine A0c ?_ hR|refine A0w ?_;replace hm:=hR.back hm;clear hR;try simp only[F9]at hm|refine J5 ?_ hm|refine D8 ?_|refine D6 ?_|refine N9 ?_|refine G7 ?_|refine E5 ?_|refine C9 ?_|refine D9 ?_|refine A7 ?_|refine E8 ?_|refine A8 ?_|refine F5 ?_|refine G5 ?_|(refine D5 (ht:=fun _=>?_) (hf:=fun _=>?_)<;>try first|contradiction|omega)|refine Z4 ?_|refine O5 ?_|refine J8 ?_|refine A0b ?_)
 have hle4:Le I I4:=hleI3.trans hleI4;refine U2 (fun x:WrX=> [(0,ptr bw),(1,.pointer (some ⟨b,o,none⟩)),(76,nt e.args.length),(77,nt x.k)])
  (fun x w'=>Mem E x.I (WSt bw (out++e.name++ [40]++A3F (A4S e.args) x.k) true x.a x.cp) w'/\Le I x.I/\x.k<=e.args.length) (fun x=>e.args.length-x.k) ⟨0,I4,a4,cp4⟩
  (by exact⟨rfl,rfl,rfl,rfl,trivial⟩) ⟨by rw[show A3F (A4S e.args) 0= [] from rfl,J3];exact hm,hle4,H7 _⟩ ?_
 clear hm;rintro⟨k,I5,a5,cp5⟩ w5 ⟨hm,hle5,hk⟩;dsimp only at hm hle5 hk |-;have hp5:=hp.le hle5;by_cases hlt:k<e.args.length
 ·have hg:e.args[k]?=some e.args[k]:=G6 hlt
  have hz:=A2r (O7 hlt);have hf:=B22 hxs hg;obtain⟨eak,eck,ysk,hck,hrk,hxk⟩:=(hx.get hg).out;have hst:=A6j (A4S e.args) k;have hc1:=hcl (k+1) hlt;rw[A8U hg]at hst;rw[hst]at hc1;have hEk:=ih e.args[k] (by omega) _ _ hf;generalize e.args[k]=ek at hg hz hf hck hrk hxk hst hEk hc1;simp only[E9]at hc1;have hr5:=hr.le hle5;by_cases h0:k=0
  ·subst h0
   rw[if_neg (by decide),P5]at hst;have hE1:=fun (J:P6) (m:Le I J) (b o tc a cp) (hp:PtrI J b o tc (A0z ek eak eck))=>hEk J b o tc eak eck ysk (out++e.name++ [40]++A3F (A4S e.args) 0) true a cp (hle0.trans m) (by simp only[E9,F8,List.length_nil];omega) hp (hrk.le m) (Y7.le m _ _ hxk)
   repeat' (first|refine O0 (d:=92) ?_ (hr:=hr5);intro b0 o0 hp0;rw[show (((0:Nat):Int).toNat *6)=0 *6 from rfl,hck]at hp0|refine F6 (d:=93) ?_ hm (hp:=pm2_0) (hc:=hE1 I5 hle5 _ _ _ _ _ hp0);clear hm;rintro _ I6 _ _ ⟨a6,cp6,rfl⟩ hleI6 hm;try simp only[F9]at hm|refine J5 ?_ hm|refine D8 ?_|refine D6 ?_|refine J6 ?_|refine A0F ?_|refine E5 ?_|refine P7 ?_|refine C9 ?_|refine D9 ?_|refine A7 ?_|refine D7 ?_|refine E8 ?_|refine A8 ?_|refine F5 ?_|refine G5 ?_|refine F7 ?_|(refine D5 (ht:=fun _=>?_) (hf:=fun _=>?_)<;>try first|contradiction|omega))
   exact L9 (⟨0+1,I6,a6,cp6⟩:WrX) (by exact⟨rfl,rfl,rfl,rfl,trivial⟩) ⟨by dsimp only;rw[hst, <-O3];exact hm,hle5.trans hleI6,by dsimp only;omega⟩ (by dsimp only;omega)
  ·rw[if_pos (by omega)]at hst
   rw[if_pos (by omega)]at hc1;simp only[F8,List.length_nil]at hc1;have hE1:=fun (J:P6) (m:Le I J) (b o tc a cp) (hp:PtrI J b o tc (A0z ek eak eck))=>hEk J b o tc eak eck ysk (out++e.name++ [40]++A3F (A4S e.args) k++ [44,32]) true a cp (hle0.trans m) (by simp only[E9,F8,List.length_nil];omega) hp (hrk.le m) (Y7.le m _ _ hxk)
   repeat' (first|refine F6 (d:=85) ?_ hm (hp:=pm2_0) (hc:=A0l bw (out++e.name++ [40]++A3F (A4S e.args) k) [44,32] true a5 cp5 (by simp only[E9,F8,List.length_nil];omega));clear hm;rintro _ I6 _ _ ⟨a6,cp6,rfl⟩ hleI6 hm;try simp only[F9]at hm;have hp6:=hp5.le hleI6|refine O0 (d:=92) ?_ (hr:=hr5.le hleI6);intro b0 o0 hp0;rw[show ((k:Int).toNat *6)=k *6 from rfl,hck]at hp0|refine F6 (d:=93) ?_ hm (hp:=pm2_0) (hc:=hE1 I6 (hle5.trans hleI6) _ _ _ _ _ hp0);clear hm;rintro _ I7 _ _ ⟨a7,cp7,rfl⟩ hleI7 hm;try simp only[F9]at hm|refine J5 ?_ hm|refine D8 ?_|refine D6 ?_|refine J6 ?_|refine A0F ?_|refine E5 ?_|refine P7 ?_|refine C9 ?_|refine D9 ?_|refine A7 ?_|refine D7 ?_|refine E8 ?_|refine A8 ?_|refine F5 ?_|refine G5 ?_|(refine D5 (ht:=fun _=>?_) (hf:=fun _=>?_)<;>try first|contradiction|omega))
   exact L9 (⟨k+1,I7,a7,cp7⟩:WrX) (by exact⟨rfl,rfl,rfl,rfl,trivial⟩) ⟨by dsimp only;rw[hst, <-O3, <-O3];exact hm,(hle5.trans hleI6).trans hleI7,by dsimp only;omega⟩ (by dsimp only;omega)
 ·obtain rfl:k=e.args.length:=by omega
  repeat' (first|refine F6 (d:=98) ?_ hm (hp:=pm2_0) (hc:=A4k bw (out++e.name++ [40]++A3F (A4S e.args) e.args.length) 41 true a5 cp5 (by simp only[E9,F8,List.length_nil];omega));clear hm;rintro _ I6 _ _ ⟨a6,cp6,rfl⟩ hleI6 hm;try simp only[F9]at hm|refine D8 ?_|refine J6 ?_|refine E5 ?_|refine C9 ?_|refine D9 ?_|refine A7 ?_|refine H9 ?_|refine D7 ?_|refine H5 ?_|refine E8 ?_|refine A8 ?_|refine P9 ?_|refine X0 ?_|(refine D5 (ht:=fun _=>?_) (hf:=fun _=>?_)<;>try first|contradiction|omega))
  exact⟨I6,_,⟨a6,cp6,by simp only[O3]⟩,hm⟩
def C8Z (k:Nat):Value:=str [A5m k]
theorem C4T (n:Nat) (hn:n<256) (w:World):Cal prog 66 #[.int .i64 n] w fun v w'=>v=str (A4F n)/\Kept [] w w':=by
 refine enter (N:=26) func66 rfl [(0,.int .i64 n)] A0I rfl ?_
 repeat' (first|refine D8 ?_|refine D6 ?_|refine D9 ?_|refine A7 ?_|refine E8 ?_|refine A8 ?_|refine F5 ?_)
 refine U2 (fun x:Nat×Value=> [(0,.int .i64 (n:Int)),(3,x.2),(5,.int .i64 ((x.1:Nat):Int))])
  (fun x w'=>x.1<=8/\w'.ownsRow w.heap.size 9 1 x.2 (A7f n x.1).length ((A7f n x.1).map C8Z)/\Kept [] w w') (fun x=>8-x.1) (0,.slice none 0 0)
  ⟨rfl,rfl,rfl,trivial⟩ ⟨by simp,World.ownsRow_nil _ _ _ _,Kept.refl _ _⟩ ?_
 rintro⟨k,v⟩ w1 ⟨hk,hown,hkept⟩;dsimp only at hk hown hkept |-;by_cases hlt:k<8
 ·obtain⟨m,hm⟩:∃m,m=n / 2 ^ k:=⟨_,rfl⟩
  have hbit:Sp.bit n k=decide (((((m:Nat):Int).toNat &&& (1:Int).toNat:Nat):Int)=1):=by
   rw[A1v,show (1:Int).toNat=1 from rfl,Nat.and_one_is_mod,A2I,Sp.bit, <-hm,decide_eq_true_eq,decide_eq_true_eq];omega
  have hq:m<=n:=by rw[hm];exact Nat.div_le_self _ _
  have hs:=B75 n k;have hlen:=B3K n k;repeat' (first|refine B9i (by rfl) (by rfl) (by rfl) (by rfl) (by omega) ?_;rw[<-hm]|refine B5D ?_ (h':=by decide)|refine B9e (k:=?_);rw[IntWalk.u8_in (97+(k:Int)) (by omega)]|refine A75 (hown:=hown2) (hsz:=by decide) (hbase:=by have:=hkept2.size;omega) (k:=?_);intro v3 w3 hown3 hk3 hb3|refine A5E (by rfl) (by rfl) (by rfl) (by rfl) (by rfl) (by decide) ?_;intro b2 w2 hb2 hbb2 hk2;have hown2:=hk2.own hown (by simp);have hkept2:=hkept.trans hk2|refine B5E (s:= [A5m k]) (by rfl) (by rfl) (by rfl) hbb2 (by rfl) (fun j hj=>by (obtain rfl:j=0:=by omega);show some (Value.int .u8 (97+(k:Int)))=some (Value.int .u8 ((A5m k).toNat:Int));rw[B81 k hlt];rfl) ?_|refine D8 ?_|refine D6 ?_|refine J6 ?_|refine N9 ?_|refine P7 ?_|refine D9 ?_|refine A7 ?_|refine D7 ?_|refine E8 ?_|refine A8 ?_|refine F5 ?_|refine G5 ?_|(refine D5 (ht:=fun _=>?_) (hf:=fun _=>?_)<;>try first|contradiction|omega))
  ·skip
   rename_i h1
   have hb:Sp.bit n k=true:=by rw[hbit];exact decide_eq_true h1
   rw[if_pos hb]at hs;refine L9 ((k+1,v3):Nat×Value) (by exact⟨rfl,rfl,rfl,trivial⟩) ?_ (by dsimp only;omega)
   refine⟨by dsimp only;omega,?_,?_⟩
   ·dsimp only
    rw[hs,E9,Y8];exact hown3
   ·refine hkept2.step hk3 (fun x hx=> .inr ?_)
    have hob:=hown2.lt x (by simpa[Option.mem_toList] using hx);exact hob.1
  ·rename_i h1
   have hb:Sp.bit n k=false:=by rw[hbit];exact decide_eq_false h1
   rw[hb,if_neg (by simp)]at hs;refine L9 ((k+1,v):Nat×Value) (by exact⟨rfl,rfl,rfl,trivial⟩) ?_ (by dsimp only;omega)
   refine⟨by dsimp only;omega,?_,hkept⟩
   dsimp only
   rw[hs];exact hown
 ·obtain rfl:k=8:=by omega
  have htags:A7f n 8=A4I n:=rfl;rw[htags]at hown;have hlen:(A4I n).length<=8:=B3K n 8;have hcl:=B2X ((A4I n).map A5m);rw[A0g]at hcl;have hjoin:Cal prog 97 #[v,.string ⟨#[44]⟩] w1 fun u w'=>u=str (A4V ((A4I n).map A5m))/\Kept [] w1 w':=by
   by_cases h0:(A4I n).length=0
   ·obtain⟨a,c,rfl⟩:=A3D hown
    rw[h0];refine(C2v (Tryz.strings_Join_none a c ⟨#[44]⟩ w1)).mono ?_
    rintro u w' ⟨rfl,rfl⟩;rw[A00 h0];exact⟨rfl,Kept.refl _ _⟩
   ·obtain⟨g,cap,cur,rfl,hbg,hg,hcap,hcur,_⟩:=B3u hown (by omega)
    have hx:((A4I n).map (fun k=>(⟨[A5m k].toArray⟩:ByteArray))).map (fun x=>x.data.toList)=((A4I n).map A5m).map (fun c=> [c]):=by simp[Function.comp_def]
    have hj:=Tryz.strings_Join g 0 cap ((A4I n).map (fun k=>(⟨[A5m k].toArray⟩:ByteArray))) ⟨#[44]⟩ w1
     (fun j x hj=>by
      refine A2j hg ?_
      rw[V6];refine hcur j _ ?_
      rw[A0f]at hj |-;cases hjj:(A4I n)[j]? with
      |none=>rw[hjj]at hj;cases hj
      |some q=>rw[hjj]at hj;simp only[A17,U3]at hj |-;subst hj;rfl)
     (A2v hg) (by rw[A0g];omega) (by rw[A0g];exact hcap)
     (by rw[hx];show (Lib.join _ [44]).length<=_;rw[A8P];omega)
    rw[hx,A0g]at hj;have e:Lib.join (((A4I n).map A5m).map (fun c=> [c])) (⟨#[44]⟩:ByteArray).data.toList=A4V ((A4I n).map A5m):=A8P _;rw[e]at hj;refine(C2v hj).mono ?_
    rintro u w' ⟨rfl,hb⟩;exact⟨rfl,Kept.of_below hb⟩
  repeat' (first|refine A0k (hc:=by exact hjoin) (k:=?_);rintro _ w2 ⟨rfl,hk2⟩|refine A6G ?_ (h:=by simp only[E9,F8,List.length_nil];omega)|refine D8 ?_|refine D6 ?_|refine J6 ?_|refine D9 ?_|refine A7 ?_|refine H9 ?_|refine H5 ?_|refine E8 ?_|refine A8 ?_|refine P9 ?_|refine H8 ?_|refine J9 ?_|refine F7 ?_)
  exact⟨rfl,hkept.trans hk2⟩
theorem B6b {J:P6} (n:Nat) (hn:n<256):CalR prog 66 #[nt n] J [] (str (A4F n)):=⟨fun w _ _=>C4T n hn w⟩
theorem C4d {I:P6}{x:Sp.Stm}{b o tc ec:Nat}{ea:Option Addr}{v1 v2:Value} (hp:PtrI I b o tc (A2K x.kind x.name x.at_ x.label x.opn x.e ea ec v1 v2 x.fr x.to)):PtrI I b (o+5) tc (A0z x.e ea ec):=
 hp.sub (cs':=A0z x.e ea ec) 5 (fun j u hj=>by
  have hlt:=(A0t.1 hj).1
  match j,hj with
  |0,hj=>exact hj
  |1,hj=>exact hj
  |2,hj=>exact hj
  |3,hj=>exact hj
  |4,hj=>exact hj
  |5,hj=>exact hj
  |j+6,hj=>simp at hj)
def SW (I0:P6) (bw d:Nat) (x:Sp.Stm):Prop:= ∀(J:P6) (b o tc k:Nat) (ea:Option Addr) (ec:Nat) (ex:List Value) (a1:Option Addr) (c1:Nat) (xs1:List Value) (a2:Option Addr) (c2:Nat) (xs2:List Value) (out:List UInt8) (u:Bool) (a:Option Addr) (cp:Nat),
 Le I0 J->k<=d->out.length+(B55 x k).length<=100000000000000->PtrI J b o tc (A2K x.kind x.name x.at_ x.label x.opn x.e ea ec (.slice a1 x.thn.length c1) (.slice a2 x.els.length c2) x.fr x.to)->
 RowI J 109 6 (.slice ea x.e.args.length ec) x.e.args.length ex->Y7 J x.e.args ex->RowI J 111 15 (.slice a1 x.thn.length c1) x.thn.length xs1->X6 J x.thn xs1->RowI J 111 15 (.slice a2 x.els.length c2) x.els.length xs2->X6 J x.els xs2->
 CalM prog 99 #[ptr bw,.pointer (some ⟨b,o,none⟩),nt k] J (WSt bw out u a cp) (ToW bw (out++B55 x k))
def BW (I0:P6) (bw d:Nat) (l:List Sp.Stm):Prop:= ∀(J:P6) (k:Nat) (ba:Option Addr) (bc:Nat) (xb:List Value) (out:List UInt8) (u:Bool) (a:Option Addr) (cp:Nat),
 Le I0 J->k+1<=d->out.length+(B1j l k).length<=100000000000000->RowI J 111 15 (.slice ba l.length bc) l.length xb->X6 J l xb->
 CalM prog 69 #[ptr bw,.slice ba l.length bc,nt k] J (WSt bw out u a cp) (ToW bw (out++B1j l k))
theorem C6d {I0:P6}{bw d:Nat} (hd:d<=1000) {l:List Sp.Stm} (hl:l.length<=1000) (hS:∀x∈l,SW I0 bw d x):BW I0 bw d l:=by
 intro I k ba bc xb out u a cp hle0 hk hlen hr hx;refine CalM.of fun w E hm=>enter (N:=31) func69 rfl [(0,ptr bw),(1,.slice ba l.length bc),(2,nt k)] A3C rfl ?_
 rw[B1j]at hlen |-;simp only[E9,F8,List.length_nil]at hlen;repeat' (first|refine F6 (d:=10) ?_ hm (hp:=pm2_0) (hc:=A0l bw out [123,10] u a cp (by simp only[F8,List.length_nil];omega));clear hm;rintro _ I2 _ _ ⟨a2,cp2,rfl⟩ hleI2 hm;rw[J3]at hm|refine D8 ?_|refine G7 ?_|refine E5 ?_|refine C9 ?_|refine D9 ?_|refine A7 ?_|refine E8 ?_|refine A8 ?_|refine F5 ?_)
 refine U2 (fun x:WrX=> [(0,ptr bw),(1,.slice ba l.length bc),(2,nt k),(12,nt l.length),(13,nt x.k)])
  (fun x w'=>Mem E x.I (WSt bw (out++ [123,10]++A29 (l.take x.k) (k+1)) true x.a x.cp) w'/\Le I x.I/\x.k<=l.length) (fun x=>l.length-x.k) ⟨0,I2,a2,cp2⟩
  (by exact⟨rfl,rfl,rfl,rfl,rfl,trivial⟩) ⟨by rw[Z9,A29,J3];exact hm,hleI2,H7 _⟩ ?_
 clear hm;rintro⟨j,I5,a5,cp5⟩ w5 ⟨hm,hle5,hj⟩;dsimp only at hm hle5 hj |-;have hr5:=hr.le hle5;by_cases hlt:j<l.length
 ·have hg:l[j]?=some l[j]:=G6 hlt
  have hSj:=hS _ (O7 hlt);have hst:=B9G hg (k+1);have hle:=C4n l (k+1) (j+1);obtain⟨ea,ec,ex,a1,c1,xs1,a2',c2,xs2,hc,h2,h3,h4,h5,h6,h7⟩:=(hx.get hg).out;generalize l[j]=x at hg hSj hst hc h2 h3 h4 h5 h6 h7;rw[hst,E9]at hle;have hadd:((k:Nat):Int)+1=((k+1:Nat):Int):=rfl;have hE:=fun (b o tc:Nat) (hp:PtrI I5 b o tc (A2K x.kind x.name x.at_ x.label x.opn x.e ea ec (.slice a1 x.thn.length c1) (.slice a2' x.els.length c2) x.fr x.to))=>hSj I5 b o tc (k+1) ea ec ex a1 c1 xs1 a2' c2 xs2 (out++ [123,10]++A29 (l.take j) (k+1)) true a5 cp5 (hle0.trans hle5) hk (by simp only[E9,F8,List.length_nil];omega) hp (h2.le hle5) (Y7.le hle5 _ _ h3) (h4.le hle5) (X6.le hle5 _ _ h5) (h6.le hle5) (X6.le hle5 _ _ h7)
  repeat' (first|refine O0 (d:=19) ?_ (hr:=hr5);intro b0 o0 hp0;rw[show ((j:Int).toNat *15)=j *15 from rfl,hc]at hp0|refine P7 (d:=21) ?_;rw[hadd]|refine F6 (d:=22) ?_ hm (hp:=pm2_0) (hc:=hE _ _ _ hp0);clear hm;rintro _ I6 _ _ ⟨a6,cp6,rfl⟩ hleI6 hm;rw[J3]at hm|refine D8 ?_|refine D6 ?_|refine J6 ?_|refine P7 ?_|refine D9 ?_|refine A7 ?_|refine D7 ?_|refine E8 ?_|refine A8 ?_|refine F5 ?_|refine G5 ?_|(refine D5 (ht:=fun _=>?_) (hf:=fun _=>?_)<;>try first|contradiction|omega))
  exact L9 (⟨j+1,I6,a6,cp6⟩:WrX) (by exact⟨rfl,rfl,rfl,rfl,rfl,trivial⟩) ⟨by dsimp only;rw[hst, <-O3];exact hm,hle5.trans hleI6,by dsimp only;omega⟩ (by dsimp only;omega)
 ·obtain rfl:j=l.length:=by omega
  rw[V5]at hm;have hpl:=B2x k;repeat' (first|refine Z8 (id:=6) (hm.perm pm2_0) [0,1,2,3] [4,5,6] 7 (by kernel_rfl) ?_;clear hm;intro wd hR hm|refine U7 (d:=28) ?_ hm (hp:=pm0) (hc:=B8g k (by omega));clear hm;rintro _ I6 _ _ ⟨rfl,rfl,rfl⟩ hleI6 hm;rw[P5]at hm|refine A5A (d:=29) (s:=Sp.pad k) (u:= [125]) hm.kept (by rfl) (by rfl) (by rfl) (by rfl) (by show _+1<=_;omega) ?_|refine U7 (d:=30) ?_ hm (hp:=pm2_0) (hc:=A0l bw (out++ [123,10]++A29 l (k+1)) (Sp.pad k++ [125]) true a5 cp5 (by simp only[E9,F8,List.length_nil];omega));clear hm;rintro _ I7 _ _ ⟨a7,cp7,rfl⟩ hleI7 hm;rw[J3]at hm|refine A0w ?_;replace hm:=hR.back hm;clear hR;try simp only[F9]at hm|refine J6 ?_|refine D9 ?_|refine A7 ?_|refine H9 ?_|refine H5 ?_|refine E8 ?_|refine A8 ?_|refine P9 ?_|refine X0 ?_|(refine D5 (ht:=fun _=>?_) (hf:=fun _=>?_)<;>try first|contradiction|omega)|refine Z4 ?_|refine O5 ?_|refine J8 ?_|refine A0b ?_)
  refine⟨I7,_,⟨a7,cp7,?_⟩,hm⟩
  simp only[O3]
end Go.Proofs
