/- Own work: the law ServeRefused. -/
import Derived.Test.YtfgmppgjopchoaaGreatDoorSw27
set_option maxHeartbeats 64000000
namespace Go.Fw
open Go.Sp
open Go
section
variable {P:Program}{N:Nat}{ds:List Deferred}{Q:Exit->Act->World->Prop}{l l':Log}{w w':World}{ops:Array Oper}{os:List Oper}{o:Oper}
variable {d:Nat}{ty:TypeId}{pos:String}{af:Array Edge}{g:Option (Nat×Bool)}{t t':TypeId}{x y:Operand}
theorem B7X [TyBool P t] {a b:Bool} (k:WL P N ds ops Q os ((d,.bool (decide (a=b)))::l) w) (hw:U7 ops l ⟨some d,.binOp .eql t x y t',ty,pos,af,g⟩=some true:=by rfl) (hN:Nat.blt d N=true:=by rfl)
  (hx:ev l x=some (.bool a):=by rfl) (hy:ev l y=some (.bool b):=by rfl)  :
  WL P N ds ops Q (⟨some d,.binOp .eql t x y t',ty,pos,af,g⟩::os) l w:=
 U6 rfl hw hN (fun c hc=>by
  have h1:=run_equalIn_bool' (P:=P) w 9999 t a b (TyBool.out (P:=P) (t:=t));simp only[execOp,hc.ev hx,hc.ev hy,eqGuard,binOp,Op.equal,Op.maxDepth];simp[h1,A4t]) k
end
end Go.Fw
namespace Go.Sp
theorem B3Z {s:Srv}{t:List UInt8} (h:(A8S s t).2.err≠0):(A8S s t).1=s:=by
 rw[A8S]at h |-;split
 ·rfl
 ·rename_i h1;rw[if_neg h1]at h;exact absurd rfl h
theorem C3d {s:Srv}{q:Qn} (h:(B1D s q).2.err≠0):(B1D s q).1=s:=by
 rw[B1D]at h |-;split
 ·rename_i h1
  rw[if_pos h1]at h;split
  ·rfl
  ·rename_i h2;rw[if_neg h2]at h;exact B3Z h
 ·rename_i h1
  rw[if_neg h1]at h;split
  ·rfl
  ·rename_i h2;rw[if_neg h2]at h;exact B3Z h
theorem C5y {s:Srv}{q:Qn} (h:(A3n s q).2.err≠0):(A3n s q).1=s:=by
 rw[A3n]at h |-;split
 ·rfl
 ·rename_i h1
  rw[if_neg h1]at h;split
  ·rename_i h2;rw[if_pos h2]at h;exact B3Z h
  ·rename_i h2
   rw[if_neg h2]at h;split
   ·rfl
   ·rename_i h3
    rw[if_neg h3]at h;split
    ·rename_i h4;rw[if_pos h4]at h;exact C3d h
    ·rfl
noncomputable def A3K:Srv->List Qn->List Qn
 |_,[]=> []
 |s,q::l=>(if (A3n s q).2.err=0/\chg q=true then [q] else [])++A3K (A3n s q).1 l
theorem B4W:∀(s:Srv) (l r:List Qn),A3K s (l++r)=A3K s l++A3K (stQ s l) r
 |_,[],_=>rfl
 |s,q::l,r=>by rw[X3,A3K,A3K,B4W,O4];rfl
theorem B9f (s:Srv) {l:List Qn}{k:Nat}{q:Qn} (h:l[k]?=some q):A3K s (l.take (k+1))=A3K s (l.take k)++(if (A9X (stQ s (l.take k)) q).err=0/\chg q=true then [q] else []):=by
 rw[Q9 h,B4W,A3K,A3K,J3];rfl
theorem B1L:∀(s:Srv) (l:List Qn),(A3K s l).length<=l.length
 |_,[]=>H6 _
 |s,q::l=>by
  rw[A3K,E9,F9];have:=B1L (A3n s q).1 l;split
  ·rw[A1w];omega
  ·rw[List.length_nil];omega
theorem B4X:∀(s:Srv) (l:List Qn),∀q∈A3K s l,q∈l
 |_,[],q,h=>by cases h
 |s,x::l,q,h=>by
  rw[A3K]at h;rcases Z9.1 h with h|h
  ·split at h
   ·rw[A0B.1 h];exact Q5
   ·cases h
  ·exact A0L _ (B4X _ l q h)
theorem B3u:∀(s:Srv) (l:List Qn),stQ s (A3K s l)=stQ s l
 |_,[]=>rfl
 |s,q::l=>by
  rw[A3K];by_cases h:(A3n s q).2.err=0/\chg q=true
  ·rw[if_pos h,B6s]
   exact B3u (A3n s q).1 l
  ·have hs:(A3n s q).1=s:=by
    by_cases h1:(A3n s q).2.err=0
    ·exact B4x (by simpa using fun h2=>h ⟨h1,h2⟩)
    ·exact C5y h1
   rw[if_neg h,P9,hs];have:=B3u s l;rw[this];show stQ s l=stQ (A3n s q).1 l
   rw[hs]
def A8P:Qn:=⟨0,9,0,0,[],[]⟩
end Go.Sp
namespace Go.Proofs
open Go.Proofs.Tryz
open Go.Sp
open Go.Fw
theorem C5e {I:P7}{qs:List Sp.Qn}{la:Option Addr}{lc:Nat}{ys:List Value} (hr:RowI I 38 6 (.slice la qs.length lc) qs.length ys) (hat:A0F I qs ys) (hq:∀q∈qs,q.text.length<=1099511627776) (hC:Conv I) (hT:A5O I) (hlen:qs.length<=39):
  CalM prog 16 #[.slice la qs.length lc] I [] (fun v _ H'=>v=.tuple #[str (Sp.stQ A1b qs).text,.bool (Sp.stQ A1b qs).op]/\H'= []):=by
 refine CalM.of fun w E hm=>enter (N:=33) func16 rfl [(0,.slice la qs.length lc)] A0G rfl ?_
 have hone:=hat.one;have hP:=fun (J:P7) (m:Le I J) (a:Option Addr) (cp:Nat) (xs:List Value) (h:RowI J 38 6 (.slice a (qs.length+1) cp) (qs.length+1) xs) (h2:A0F J (qs++ [A8P]) xs)=>A9v (qs:=qs++ [A8P]) (la:=a) (lc:=cp) (by rw[E9];exact h) h2 (fun q hq'=>by
  rcases Z9.1 hq' with h|h
  ·exact hq q h
  ·rw[A0B.1 h];decide) (hC.le m) (hT.le m) (by rw[E9];show qs.length+1<=_;omega)
 rw[E9,if_neg (by show ¬40<qs.length+1;omega),A9O]at hP;have hrl:=A5N A1b qs;have hsh:=(B6t qs C0S).shut;have htx:=C03 (Sp.stQ A1b qs) A8P rfl;have hlast:Sp.rpQ (Sp.stQ A1b qs) [A8P]= [A9X (Sp.stQ A1b qs) A8P]:=rfl;rw[hlast]at hP;have hget:(Sp.rpQ A1b qs++ [A9X (Sp.stQ A1b qs) A8P])[qs.length]?=some (A9X (Sp.stQ A1b qs) A8P):=by
  rw[A16 (by omega),hrl,A3R];rfl
 have hlen2:(Sp.rpQ A1b qs++ [A9X (Sp.stQ A1b qs) A8P]).length=qs.length+1:=by rw[E9,hrl];rfl
 generalize A9X (Sp.stQ A1b qs) A8P=rp at hP htx hget hlen2;generalize Sp.stQ A1b qs=st at hsh htx |-;generalize Sp.rpQ A1b qs++ [rp]=rs at hP hget hlen2;have hP2:∀(J:P7) (m:Le I J) (n:Nat) (hn:n=qs.length+1) (a:Option Addr) (cp:Nat) (xs:List Value) (h:RowI J 38 6 (.slice a n cp) n xs) (h2:A0F J (qs++ [A8P]) xs),CalM prog 13 #[.slice a n cp] J [] (fun v I' H'=>H'= []/\∃pa pc ps,v=Value.tuple #[.slice pa (qs.length+1) pc,nt 0]/\RowI I' 46 11 (.slice pa (qs.length+1) pc) (qs.length+1) ps/\∃da dp ea ep,(ps.drop (qs.length *11)).take 11=rpV rp da dp ea ep):=fun J m n hn a cp xs h h2=>by
  subst hn;exact(hP J m a cp xs h h2).mono (fun v I' H' _ ⟨e1,pa,pc,ps,e2,e3,e4⟩=>by
   rw[hlen2]at e2 e3;obtain⟨da,dp,ea,ep,hc,_,_⟩:=e4.get hget;exact⟨e1,pa,pc,ps,e2,e3,da,dp,ea,ep,hc⟩)
 clear hP;obtain⟨tx,op⟩:=st;cases op with
 |true=>
  rw[if_pos rfl]at htx;subst htx;repeat' (first|refine A1n (d:=7) ?_ hm;clear hm;intro b7 _ hm|refine A7D (d:=9) ?_ hm (hr:=hr) (h1:=hone);clear hm;intro a9 cp9 _ hm;try simp only[F8]at hm|refine A2b (d:=12) ?_ hm;clear hm;intro a12 cp12 _ _ hm;try simp only[F8]at hm;obtain⟨I3,hle3,hm3,hr7⟩:=hm.freeze;clear hm;have hm:=hm3;clear hm3;have ha7:=A0F.snoc (B1A I3 A8P rfl) (hat.le hle3)|refine F6 (d:=13) ?_ hm (hp:=pm0) (hc:=hP2 I3 hle3 _ (by omega) _ _ _ hr7 ha7);clear hm;rintro _ I4 _ _ ⟨rfl,pa,pc,ps,rfl,hpr,da,dp,ea,ep,hc⟩ hleI4 hm;try simp only[F8]at hm|refine N7 (d:=22) ?_ (hr:=hpr);intro bt ot hpt;rw[show (((qs.length:Nat):Int).toNat *11)=qs.length *11 from rfl,hc]at hpt|refine N7 (d:=30) ?_ (hr:=hpr);intro bu ou hpu;rw[show (((qs.length:Nat):Int).toNat *11)=qs.length *11 from rfl,hc]at hpu|refine J5 ?_ hm|refine D8 ?_|refine D6 ?_|refine J8 ?_|refine A0n ?_|refine G7 ?_|refine U5 ?_|refine C9 ?_|refine Q3 ?_|refine D9 ?_|refine A7 ?_|refine E5 ?_|refine A8 ?_|refine G5 ?_|refine H9 ?_|refine A1W ?_|refine F7 ?_)
  all_goals exact⟨I4,[],⟨rfl,rfl⟩,hm.left (H:= [])⟩
 |false=>
  rw[if_neg (fun e=>by cases e)]at htx;have h0:tx= []:=hsh rfl;subst h0;subst htx;repeat' (first|refine A1n (d:=7) ?_ hm;clear hm;intro b7 _ hm|refine A7D (d:=9) ?_ hm (hr:=hr) (h1:=hone);clear hm;intro a9 cp9 _ hm;try simp only[F8]at hm|refine A2b (d:=12) ?_ hm;clear hm;intro a12 cp12 _ _ hm;try simp only[F8]at hm;obtain⟨I3,hle3,hm3,hr7⟩:=hm.freeze;clear hm;have hm:=hm3;clear hm3;have ha7:=A0F.snoc (B1A I3 A8P rfl) (hat.le hle3)|refine F6 (d:=13) ?_ hm (hp:=pm0) (hc:=hP2 I3 hle3 _ (by omega) _ _ _ hr7 ha7);clear hm;rintro _ I4 _ _ ⟨rfl,pa,pc,ps,rfl,hpr,da,dp,ea,ep,hc⟩ hleI4 hm;try simp only[F8]at hm|refine N7 (d:=22) ?_ (hr:=hpr);intro bt ot hpt;rw[show (((qs.length:Nat):Int).toNat *11)=qs.length *11 from rfl,hc]at hpt|refine J5 ?_ hm|refine D8 ?_|refine D6 ?_|refine J8 ?_|refine A0n ?_|refine G7 ?_|refine U5 ?_|refine C9 ?_|refine Q3 ?_|refine D9 ?_|refine A7 ?_|refine G8 ?_|refine E5 ?_|refine A8 ?_|refine H9 ?_|refine A1W ?_|refine H5 ?_)
  all_goals exact⟨I4,[],⟨rfl,rfl⟩,hm.left (H:= [])⟩
structure GdX where
 k:Nat
 a:Option Addr
 cp:Nat
 xs:List Value
theorem sp_sref (qs:List Sp.Qn) {la:Option Addr}{lc:Nat}{ys:List Value} (I:P7) (hr:RowI I 38 6 (.slice la qs.length lc) qs.length ys) (hat:A0F I qs ys) (hq:∀q∈qs,q.text.length<=1099511627776) (hlen:qs.length<=1099511627776) (hC:Conv I) (hT:A5O I):
  CalM prog 6 #[.slice la qs.length lc] I [] (fun v _ H'=>v=.bool true/\H'= []):=by
 refine CalM.of fun w E hm=>enter (N:=79) func6 rfl [(0,.slice la qs.length lc)] A0G rfl ?_
 have hAl:=C1j I hC hT;have hP:=fun (J:P7) (m:Le I J)=>A9v (hr.le m) (hat.le m) hq (hC.le m) (hT.le m) hlen
 by_cases h40:40<=qs.length
 ·have hP2:∀(J:P7),Le I J->CalM prog 13 #[.slice la qs.length lc] J [] (fun v _ H'=>H'= []/\∃pa pn pc e,v=.tuple #[.slice pa pn pc,nt e]):=fun J m=>by
   have h:=hP J m;split at h
   ·exact h.mono (fun v I' H' _ ⟨e1,pa,pc,ps,e2,_⟩=>⟨e1,pa,_,pc,_,e2⟩)
   ·exact h.mono (fun v I' H' _ ⟨e1,pa,pc,ps,e2,_⟩=>⟨e1,pa,_,pc,_,e2⟩)
  repeat' (first|refine F6 (d:=13) ?_ hm (hp:=pm0) (hc:=hAl);clear hm;rintro _ I1 _ _ ⟨rfl,rfl⟩ hleI1 hm;try simp only[F8]at hm|refine F6 (d:=17) ?_ hm (hp:=pm0) (hc:=hP2 I1 hleI1);clear hm;rintro _ I2 _ _ ⟨rfl,pa,pn,pc,e,rfl⟩ hleI2 hm;try simp only[F8]at hm|refine D8 ?_|refine D6 ?_|refine O1 ?_|refine J8 ?_|refine A04 ?_|refine A0n ?_|refine G7 ?_|refine Y2 ?_|refine U5 ?_|refine A0E ?_|(refine N8 (h1:=fun _=>?_) (h0:=fun _=>?_)<;>try first|contradiction|omega)|refine D9 ?_|refine A7 ?_|refine G8 ?_|refine E5 ?_|refine A8 ?_|refine G5 ?_|refine H9 ?_|refine J9 ?_|refine H5 ?_|refine F7 ?_|(refine D5 (ht:=fun _=>?_) (hf:=fun _=>?_)<;>try first|contradiction|omega))
  all_goals exact⟨I2,[],⟨rfl,rfl⟩,hm.left (H:= [])⟩
 rw[if_neg (by omega)]at hP;have hrl:=A5N A1b qs;have hgt:=fun (k:Nat) (q:Sp.Qn) (h1:qs[k]?=some q)=>B6j A1b h1
 have htx:=fun (J:P7) (m:Le I J)=>C5e (hr.le m) (hat.le m) hq (hC.le m) (hT.le m) (by omega)
 generalize hrs:Sp.rpQ A1b qs=rs at hP hrl hgt;repeat' (first|refine F6 (d:=13) ?_ hm (hp:=pm0) (hc:=hAl);clear hm;rintro _ I1 _ _ ⟨rfl,rfl⟩ hleI1 hm;try simp only[F8]at hm|refine F6 (d:=17) ?_ hm (hp:=pm0) (hc:=hP I1 hleI1);clear hm;rintro _ I2 _ _ ⟨rfl,pa,pc,ps,rfl,hpr,hps⟩ hleI2 hm;try simp only[F8]at hm|refine D8 ?_|refine D6 ?_|refine J8 ?_|refine A04 ?_|refine A0n ?_|refine G7 ?_|refine Y2 ?_|refine U5 ?_|refine D9 ?_|refine A7 ?_|refine E5 ?_|refine A8 ?_|refine F5 ?_|refine G5 ?_|refine F7 ?_|(refine D5 (ht:=fun _=>?_) (hf:=fun _=>?_)<;>try first|contradiction|omega))
 have hle2:=hleI1.trans hleI2;have hr2:=hr.le hle2;have ha2:=hat.le hle2;have hm:=hm.nil 38 6;refine U0 (fun x:GdX=> [(0,.slice la qs.length lc),(3,.slice pa rs.length pc),(5,.slice x.a (A3K A1b (qs.take x.k)).length x.cp),(27,.slice la qs.length lc),(28,nt qs.length),(29,nt x.k)])
  (fun x w'=>Mem E I2 [.row (.slice x.a (A3K A1b (qs.take x.k)).length x.cp) 38 6 (A3K A1b (qs.take x.k)).length x.xs] w'/\x.k<=qs.length/\A0F I2 (A3K A1b (qs.take x.k)) x.xs) (fun x=>qs.length-x.k) ⟨0,none,0,[]⟩
  (by exact⟨rfl,rfl,rfl,rfl,rfl,rfl,trivial⟩) ⟨hm,H7 _,rfl⟩ ?_
 clear hm;rintro⟨k,oa,op,xs⟩ w1 ⟨hm,hk,hgs⟩;dsimp only at hm hk hgs |-;by_cases hlt:k<qs.length
 ·have hg:qs[k]?=some qs[k]:=G6 hlt
  have hst:=B9f A1b hg;have hrk:=hgt k _ hg;have hgl:(A3K A1b (qs.take k)).length<=40:=by
   have:=B1L A1b (qs.take k);rw[P6]at this;omega
  obtain⟨da,dp,ea,ep,hc1,_,_⟩:=hps.get hrk;have haq:=ha2.get hg;generalize qs[k]=q at hg hst hrk hc1 haq;generalize A9X (Sp.stQ A1b (qs.take k)) q=rp at hst hrk hc1;generalize A3K A1b (qs.take k)=gs at hm hgs hst hgl;have haq2:=haq;obtain⟨aa,ac,hc2,hrg⟩:=haq;by_cases hc:rp.err=0/\Sp.chg q=true
  ·rw[if_pos hc]at hst
   have he0:=hc.1;have hkk:q.kind=1\/q.kind=2\/q.kind=6:=by
    have:=hc.2;simp only[Sp.chg,Bool.or_eq_true,decide_eq_true_eq]at this;omega
   rw[hc2]at haq2;have hgs2:=A0F.snoc haq2 hgs;repeat' (first|refine N7 (d:=32) ?_ (hr:=hr2);intro bt ot hpt;rw[show ((k:Int).toNat *6)=k *6 from rfl,hc2]at hpt|refine X0 (d:=33) ?_ hm (hp:=hpt)|refine N7 (d:=49) ?_ (hr:=hpr);intro bu ou hpu;rw[show ((k:Int).toNat *11)=k *11 from rfl,hc1]at hpu|refine S9 (d:=7) ?_ hm;clear hm;intro b7 _ hm|refine A2b (d:=59) ?_ hm;clear hm;intro a59 cp59 _ _ hm;try simp only[F8]at hm|refine J4 ?_ hm|refine J5 ?_ hm|refine X5 ?_ hm|refine N9 ?_ hm;clear hm;intro _ hm;try simp only[F8]at hm|refine D8 ?_|refine D6 ?_|refine O1 ?_|refine J8 ?_|refine J6 ?_|refine O0 ?_|refine P5 ?_|refine C9 ?_|refine A0E ?_|(refine N8 (h1:=fun _=>?_) (h0:=fun _=>?_)<;>try first|contradiction|omega)|refine D9 ?_|refine A7 ?_|refine D7 ?_|refine E5 ?_|refine A8 ?_|refine F5 ?_|refine G5 ?_|refine H5 ?_|(refine D5 (ht:=fun _=>?_) (hf:=fun _=>?_)<;>try first|contradiction|omega))
   all_goals refine L8 (⟨k+1,a59,cp59,xs++B2z q.id q.kind q.fr q.to q.text aa q.args.length ac⟩:GdX) (by exact⟨rfl,rfl,by rw[hst,E9];rfl,rfl,rfl,rfl,trivial⟩) ⟨?_,by dsimp only;omega,by dsimp only;rw[hst];exact hgs2⟩ (by dsimp only;omega)
   all_goals dsimp only
   all_goals rw[hst,E9]
   all_goals exact hm.tl
  ·rw[if_neg hc,J3]at hst
   by_cases he0:rp.err=0
   ·have hkk:q.kind≠1/\q.kind≠2/\q.kind≠6:=by
     have:Sp.chg q=false:=by
      cases hcc:Sp.chg q with
      |false=>rfl
      |true=>exact absurd ⟨he0,hcc⟩ hc
     simp only[Sp.chg,Bool.or_eq_false_iff,decide_eq_false_iff_not]at this;exact⟨this.1.1,this.1.2,this.2⟩
    repeat' (first|refine N7 (d:=32) ?_ (hr:=hr2);intro bt ot hpt;rw[show ((k:Int).toNat *6)=k *6 from rfl,hc2]at hpt|refine X0 (d:=33) ?_ hm (hp:=hpt)|refine N7 (d:=49) ?_ (hr:=hpr);intro bu ou hpu;rw[show ((k:Int).toNat *11)=k *11 from rfl,hc1]at hpu|refine S9 (d:=7) ?_ hm;clear hm;intro b7 _ hm|refine J4 ?_ hm|refine J5 ?_ hm|refine N9 ?_ hm;clear hm;intro _ hm;try simp only[F8]at hm|refine D8 ?_|refine D6 ?_|refine O1 ?_|refine J8 ?_|refine J6 ?_|refine O0 ?_|refine P5 ?_|refine C9 ?_|(refine N8 (h1:=fun _=>?_) (h0:=fun _=>?_)<;>try first|contradiction|omega)|refine D9 ?_|refine A7 ?_|refine D7 ?_|refine E5 ?_|refine A8 ?_|refine F5 ?_|refine G5 ?_|(refine D5 (ht:=fun _=>?_) (hf:=fun _=>?_)<;>try first|contradiction|omega))
    all_goals exact L8 (⟨k+1,oa,op,xs⟩:GdX) (by exact⟨rfl,rfl,by rw[hst];rfl,rfl,rfl,rfl,trivial⟩) ⟨by dsimp only;rw[hst];exact hm.tl,by dsimp only;omega,by dsimp only;rw[hst];exact hgs⟩ (by dsimp only;omega)
   ·skip
    repeat' (first|refine N7 (d:=32) ?_ (hr:=hr2);intro bt ot hpt;rw[show ((k:Int).toNat *6)=k *6 from rfl,hc2]at hpt|refine X0 (d:=33) ?_ hm (hp:=hpt)|refine N7 (d:=49) ?_ (hr:=hpr);intro bu ou hpu;rw[show ((k:Int).toNat *11)=k *11 from rfl,hc1]at hpu|refine S9 (d:=7) ?_ hm;clear hm;intro b7 _ hm|refine J4 ?_ hm|refine J5 ?_ hm|refine N9 ?_ hm;clear hm;intro _ hm;try simp only[F8]at hm|refine D8 ?_|refine D6 ?_|refine O1 ?_|refine J8 ?_|refine J6 ?_|refine O0 ?_|refine P5 ?_|refine C9 ?_|refine A0E ?_|(refine N8 (h1:=fun _=>?_) (h0:=fun _=>?_)<;>try first|contradiction|omega)|refine D9 ?_|refine A7 ?_|refine D7 ?_|refine E5 ?_|refine A8 ?_|refine F5 ?_|refine G5 ?_|refine F7 ?_|(refine D5 (ht:=fun _=>?_) (hf:=fun _=>?_)<;>try first|contradiction|omega))
    all_goals exact L8 (⟨k+1,oa,op,xs⟩:GdX) (by exact⟨rfl,rfl,by rw[hst];rfl,rfl,rfl,rfl,trivial⟩) ⟨by dsimp only;rw[hst];exact hm.tl,by dsimp only;omega,by dsimp only;rw[hst];exact hgs⟩ (by dsimp only;omega)
 obtain rfl:k=qs.length:=by omega
 rw[V7]at hm hgs |-;have hgl:=B1L A1b qs;have hgm:=B4X A1b qs;have hgst:=B3u A1b qs;obtain⟨I3,hle3,hm3,hgr⟩:=hm.freeze;clear hm;have hm:=hm3;clear hm3;have htg:=fun (J:P7) (m:Le I3 J)=>C5e (hgr.le m) ((hgs.le hle3).le m) (fun q h=>hq q (hgm q h)) ((hC.le (hle2.trans hle3)).le m) ((hT.le (hle2.trans hle3)).le m) (by omega)
 rw[hgst]at htg;generalize A3K A1b qs=gs at htg |-;generalize Sp.stQ A1b qs=st at htx htg;repeat' (first|refine F6 (d:=63) ?_ hm (hp:=pm0) (hc:=htx I3 (hle2.trans hle3));clear hm;rintro _ I4 _ _ ⟨rfl,rfl⟩ hleI4 hm;try simp only[F8]at hm|refine F6 (d:=68) ?_ hm (hp:=pm0) (hc:=htg I4 hleI4);clear hm;rintro _ I5 _ _ ⟨rfl,rfl⟩ hleI5 hm;try simp only[F8]at hm|refine D8 ?_|refine D6 ?_|refine O1 ?_|refine J6 ?_|refine V8 ?_|refine B7X ?_|refine U5 ?_|(refine N8 (h1:=fun _=>?_) (h0:=fun _=>?_)<;>try first|contradiction|omega)|refine D9 ?_|refine A7 ?_|refine H8 ?_|refine G9 ?_|refine E5 ?_|refine A8 ?_|refine P8 ?_|refine H9 ?_|refine J9 ?_|(refine D5 (ht:=fun _=>?_) (hf:=fun _=>?_)<;>try first|contradiction|omega))
 all_goals exact⟨I5,[],⟨by simp,rfl⟩,hm⟩
end Go.Proofs
