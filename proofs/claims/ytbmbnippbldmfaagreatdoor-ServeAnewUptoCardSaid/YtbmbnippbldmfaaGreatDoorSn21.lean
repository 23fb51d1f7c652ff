/- Own work. -/
import Derived.Test.YtbmbnippbldmfaaGreatDoorSn20
set_option maxHeartbeats 64000000
namespace Go.Sp
structure Itm.fit (it:Itm):Prop where
 sends:it.sends.length<=1000000000
 body:it.body.length<=40
 stms:A0i it.body
theorem Itm.small.fit {it:Itm} (h:it.small):it.fit:=⟨by have:=h.sends;omega,h.body,h.stms⟩
theorem B63 {its:List Itm}{l:List Nm}{j:Nat}{x:Nm} (h:l[j]?=some x):A8Y its (l.take (j+1))=A8Y its (l.take j)++(A0Z its 2 x).toList:=by
 rw[Q8 h,A8Y,List.filterMap_append,A8Y];cases hf:A0Z its 2 x<;>simp[hf]
theorem B25 (its:List Itm) (l:List Nm):(A8Y its l).length<=l.length:=List.length_filterMap_le _ _
theorem B3t (it:Itm):(A76 it).1.length+(A76 it).2.length<=P8 it.body:=by
 have:=A9D it.body ([],[]);simpa[A76] using this.2
theorem C3v {its:List Itm}{r rows:List (List Nm)}{i:Nat}{b:Bool} (hr:RowsE its r) (hq:RowsE its rows) (hle:LeE r rows) (hi:i<rows.length) (hb:b=true↔rows≠r):
  ((b||decide (((rows.getD i []).length:Int)<((B2i its rows i).length:Int)))=true)↔A21 its rows i≠r:=by
 obtain⟨h1,h2⟩:=hq.step i;have hg:(A21 its rows i).getD i []=B2i its rows i:=A5D hi;by_cases hb1:b=true
 ·have hne:=hb.1 hb1
  simp only[hb1,Bool.true_or,true_iff];intro e;rw[e]at h2;exact hne (B7f hr hq hle h2).symm
 ·have he:rows=r:=Classical.byContradiction fun h=>hb1 (hb.2 h)
  have hb0:b=false:=by simpa using hb1
  simp only[hb0,Bool.false_or,decide_eq_true_eq];constructor
  ·intro h e
   rw[e, <-he]at hg;rw[hg]at h;exact Int.lt_irrefl _ h
  ·intro h
   have hs:∀x∈rows.getD i [],x∈B2i its rows i:=fun x hx=>(A7v hq i x).2 (.inl hx)
   have hss:Srt (B2i its rows i):=by rw[<-hg];exact(h1.getD i).1
   have hl:=A8e (hq.getD i).1 hs;rcases U0 (rows.getD i []).length (B2i its rows i).length with h3|h3
   ·exact Int.ofNat_lt.2 h3
   ·refine absurd ?_ h
    have e2:=B7X (hq.getD i).1 hss hs h3;rw[A21, <-e2, <-he];exact A3T fun j=>by
     by_cases hij:i=j
     ·subst hij;rw[A5p hi,O4,G6 hi];rfl
     ·rw[A3R hij]
theorem A79 {α:Type} (f:Nat->α) (k:Nat):(List.range (k+1)).map f=(List.range k).map f++ [f k]:=by rw[A1O,Y8];rfl
theorem C04 {l:List Nm}{k:Nat}{c:Nm}{p:Nm->Bool} (h:l[k]?=some c):((l.take (k+1)).filter p).map B0C=((l.take k).filter p).map B0C++(if p c then [B0C c] else []):=by
 rw[Q8 h,A7W,Y8];cases hp:p c<;>simp[hp]
theorem B6r {its:List Itm} (i:Nat):(A93 its i).length<=(A3y its).length:=A8e (B6s its i) (((A7h its).2.1.getD i).2.1)
theorem B65 {α:Type}{c:Nat}:∀(L:List (List α)),(∀a∈L,a.length<=c)->L.flatten.length<=L.length *c
 | [],_=>by simp
 |a::L,h=>by
  have h1:=h a Q7;have h2:=B65 L (fun b hb=>h b (A0Q _ hb));rw[List.flatten_cons,E9,F8,A1Q];omega
theorem C2T (s:List UInt8):(∀x∈J7 s,x.small/\P8 x.body<=32000)/\(J7 s).length<=30:=by
 by_cases h0:Z5 s=0
 ·have hl:s.length<=4000/\(Y2 s).length<=30:=by
   rw[Z5]at h0;split at h0
   ·cases h0
   ·split at h0
    ·cases h0
    ·omega
  rw[J7,if_pos h0];refine⟨fun x hx=>?_,by simp[A3I,hl.2]⟩
  obtain⟨j,_,rfl⟩:=A0x.1 hx;have hp:(A1b s (Y2 s) j).length<=4000:=by rw[A1b,Q4,A0r];omega
  have hc:=B0L (A1b s (Y2 s) j) ((Y2 s).getD j 0);exact⟨A4z _ _ (by omega),by rw[A0S];omega⟩
 ·rw[J7,if_neg h0]
  exact⟨fun x hx=>(by cases hx),H7 _⟩
theorem C1t {its:List Itm} (h:∀x∈its,x.small/\P8 x.body<=32000) (h2:its.length<=30):(A3y its).length<=960000:=by
 have h3:=B65 (c:=32000) (A4Y its) (fun a ha=>by
  obtain⟨j,hj,rfl⟩:=A0x.1 ha;rw[A7n];split
  ·have h4:=B3t (A0o its j)
   have h5:=(h (A0o its j) (by rw[A0o,O4,G6 (A18.1 hj)];exact O7 (A18.1 hj))).2;omega
  ·exact H7 _)
 rw[B0c]at h3;have:its.length *32000<=30 *32000:=A3Q _ h2;exact A0J h3 (by omega)
theorem B8J (n:List UInt8) {l:List Lc}{k:Nat}{x:Lc} (h:l[k]?=some x):A1A (l.take (k+1)) n=if x.name=n then some x else A1A (l.take k) n:=by
 rw[Q8 h,A8X]
end Go.Sp
namespace Go.Proofs
open Go.Proofs.Tryz
open Go.Sp
open Go.Fw
theorem C5T {I:P6}{x:Sp.Stm}{b o tc ec:Nat}{ea:Option Addr}{v1 v2:Value} (hp:PtrI I b o tc (A2K x.kind x.name x.at_ x.label x.opn x.e ea ec v1 v2 x.fr x.to)):PtrI I b (o+5) tc (A0z x.e ea ec):=
 hp.sub (cs':=A0z x.e ea ec) 5 (fun j u hj=>by
  match j,hj with
  |0,hj=>exact hj
  |1,hj=>exact hj
  |2,hj=>exact hj
  |3,hj=>exact hj
  |4,hj=>exact hj
  |5,hj=>exact hj
  |j+6,hj=>cases hj)
theorem C40 {bd:Nat}:∀(n:Nat) (l:List Sp.Stm),SizeOf.sizeOf l<=n->l.length<=64->A0i l->∀(I:P6) (ab:Option Addr) (cb:Nat) (xb:List Value) (q:List (List UInt8)×List (List UInt8)) (sa:Option Addr) (sp:Nat) (ca:Option Addr) (cp:Nat),
  Sp.Srt q.1/\Sp.Srt q.2->q.1.length+q.2.length+P8 l<=1000000000->RowI I 111 15 (.slice ab l.length cb) l.length xb->X6 I l xb->
  CalM prog 173 #[ptr bd,.slice ab l.length cb] I (B8p bd q sa sp ca cp) (C70 bd (A1B l q)):=by
 intro n;induction n with
 |zero=>intro l h;cases l<;>simp at h
 |succ n ih=>
 intro l hsz hll hsm I ab cb xb q sa sp ca cp hq hn hr hx;refine CalM.of fun w E hm=>enter (N:=49) func173 rfl [(0,ptr bd),(1,.slice ab l.length cb)] A0T rfl ?_
 repeat' (first|refine D8 ?_|refine G7 ?_|refine D9 ?_|refine A7 ?_|refine E8 ?_|refine A8 ?_|refine F5 ?_)
 refine U2 (fun x:EfX=> [(0,ptr bd),(1,.slice ab l.length cb),(7,nt l.length),(8,nt x.k)])
  (fun x w'=>Mem E x.I (B8p bd (A1B (l.take x.k) q) x.sa x.sp x.ca x.cp) w'/\Le I x.I/\x.k<=l.length) (fun x=>l.length-x.k) ⟨0,I,sa,sp,ca,cp⟩
  (by exact⟨rfl,rfl,rfl,rfl,trivial⟩) ⟨by dsimp only;rw[Z9,A1B];exact hm,Le.refl _,H7 _⟩ ?_
 clear hm;rintro⟨k,I1,sa1,sp1,ca1,cp1⟩ w1 ⟨hm,hle1,hk⟩;dsimp only at hm hle1 hk |-;have hrow:=hr.le hle1;by_cases hlt:k<l.length
 ·have hg:l[k]?=some l[k]:=G6 hlt
  have hme:=A3w (O7 hlt);obtain⟨cs,hcs⟩:∃cs,(xb.drop (k *15)).take 15=cs:=⟨_,rfl⟩;have hat:=hx.get hg;rw[hcs]at hat
  have hsm2:=A1D hsm hg;generalize l[k]=y at hg hme hat hsm2;have hst:=B9A hg q;have hcy:=A4t hg;have hnn:=A9D (l.take k) q;have hss:=A6f (l.take k) hq;generalize A1B (l.take k) q=r at hm hst hnn hss;obtain⟨s1,s2,s3,s4,s5⟩:=A1S hsm2;obtain⟨z1,z2⟩:=A5T (s:=y);have hcnt:=Sp.Stm.cnt_eq y;obtain⟨ea,ec,ex,a1',c1,xs1,a2',c2,xs2,rfl,hr3,hx3,hr4,hx4,hr5,hx5⟩:=hat.out;rw[C5V]at hst;obtain⟨r1,hr1⟩:∃r1,r1=if y.kind=5 then A4R r.1 y.name else r.1:=⟨_,rfl⟩
  rw[<-hr1]at hst;have hr1n:r.1.length<=r1.length/\r1.length<=r.1.length+1:=by
   have:=B0t r.1 y.name;rw[hr1];split<;>omega
  have hr1s:Sp.Srt r1:=by
   rw[hr1];split
   ·exact A8I hss.1 _
   ·exact hss.1
  repeat' (first|refine O0 (d:=13) ?_ (hr:=hrow);intro bt ot hpt;rw[show ((k:Int).toNat *15)=k *15 from rfl,hcs]at hpt|refine A65 4 (fun _:EfX=> [(0,ptr bd),(1,.slice ab l.length cb),(5,.pointer (some ⟨bt,ot,none⟩)),(7,nt l.length),(8,nt k)]) (fun x w'=>Mem E x.I (B8p bd (r1,r.2) x.sa x.sp x.ca x.cp) w'/\Le I1 x.I) ?_ ?_|refine D8 ?_|refine D6 ?_|refine J6 ?_|refine D9 ?_|refine A7 ?_|refine E8 ?_|refine A8 ?_|refine F5 ?_|refine G5 ?_|(refine D5 (ht:=fun _=>?_) (hf:=fun _=>?_)<;>try first|contradiction|omega))
  ·refine⟨?_⟩
   by_cases k5:y.kind=5
   ·rw[if_pos k5]at hr1
    have hA:=C2E I1 r.1 sa1 sp1 y.name hss.1 (by omega);rw[<-hr1]at hA;repeat' (first|refine A0m (id:=5) (hm.perm pm1_1) [0,1,2,3,4,5,6,7,8] [9] 10 (h:=?_);clear hm;intro wd hR hm|refine U7 (d:=28) ?_ hm (hc:=hA);clear hm;rintro _ I2 _ _ ⟨a2,cp2,rfl,rfl⟩ hle hm;have hleI2:=hle;try simp only[F9]at hm|refine Y3 ?_ hR|refine A0c ?_ hR|refine A0w ?_;replace hm:=hR.back hm;clear hR;try simp only[F9]at hm|refine J5 ?_ hm|refine O6 hm (k:=?_);clear hm;intro _ hm;try simp only[F9]at hm|refine D8 ?_|refine N9 ?_|refine E5 ?_|refine C9 ?_|refine D9 ?_|refine A7 ?_|refine E8 ?_|refine A8 ?_|(refine D5 (ht:=fun _=>?_) (hf:=fun _=>?_)<;>try first|contradiction|omega)|refine Z4 ?_|refine O5 ?_|refine J8 ?_|refine A0b ?_)
    exact A02 (⟨0,I2,a2,cp2,ca1,cp1⟩:EfX) (by exact⟨rfl,rfl,rfl,rfl,rfl,trivial⟩) ⟨hm.swap,hleI2⟩
   ·rw[if_neg k5]at hr1
    subst hr1;repeat' (first|refine J5 ?_ hm|refine D8 ?_|refine N9 ?_|refine E5 ?_|refine C9 ?_|refine D9 ?_|refine A7 ?_|refine E8 ?_|refine A8 ?_|refine G5 ?_|(refine D5 (ht:=fun _=>?_) (hf:=fun _=>?_)<;>try first|contradiction|omega))
    exact A02 (⟨0,I1,sa1,sp1,ca1,cp1⟩:EfX) (by exact⟨rfl,rfl,rfl,rfl,rfl,trivial⟩) ⟨hm,Le.refl _⟩
  ·clear hm hr1
   rintro⟨_,I2,sa2,sp2,ca2,cp2⟩ w2 ⟨hm,hle2⟩;dsimp only at hm hle2 |-;have hpt2:=hpt.le hle2;have hpe:=C5T hpt2;have hE:=C6K (bd:=bd) _ y.e (G9 _) s1 I2 bt (ot+5) 111 ea ec ex (r1,r.2) sa2 sp2 ca2 cp2 hss.2 (by dsimp only;omega) hpe ((hr3.le hle1).le hle2) (Y7.le hle2 _ _ (Y7.le hle1 _ _ hx3));have hnE:=C2K y.e r.2;have hsE:=B5h y.e hss.2;dsimp only at hE;generalize Sp.exE y.e r.2=r2 at hE hnE hsE hst;have hT:=fun (J:P6) (m:Le I2 J) (sa:Option Addr) (sp:Nat) (ca:Option Addr) (cp:Nat)=>ih y.thn (by omega) s2 s3 J a1' c1 xs1 (r1,r2) sa sp ca cp ⟨hr1s,hsE⟩ (by dsimp only;omega) (((hr4.le hle1).le hle2).le m) (X6.le m _ _ (X6.le hle2 _ _ (X6.le hle1 _ _ hx4)))
   have hnT:=A9D y.thn (r1,r2);have hsT:=A6f y.thn (q:=(r1,r2)) ⟨hr1s,hsE⟩;dsimp only at hnT;generalize A1B y.thn (r1,r2)=r3 at hT hnT hsT hst;have hL:=fun (J:P6) (m:Le I2 J) (sa:Option Addr) (sp:Nat) (ca:Option Addr) (cp:Nat)=>ih y.els (by omega) s4 s5 J a2' c2 xs2 r3 sa sp ca cp hsT (by omega) (((hr5.le hle1).le hle2).le m) (X6.le m _ _ (X6.le hle2 _ _ (X6.le hle1 _ _ hx5)))
   rw[<-hst]at hL;repeat' (first|refine F6 (d:=35) ?_ hm (hc:=hE);clear hm;rintro _ I3 _ _ ⟨rfl,sa3,sp3,ca3,cp3,rfl⟩ hle hm;have hleI3:=hle;try simp only[F9]at hm;replace hpt2:=hpt2.le hleI3|refine F6 (d:=41) ?_ hm (hc:=hT I3 hleI3 _ _ _ _);clear hm;rintro _ I4 _ _ ⟨rfl,sa4,sp4,ca4,cp4,rfl⟩ hle hm;have hleI4:=hle;try simp only[F9]at hm;replace hpt2:=hpt2.le hleI4|refine F6 (d:=47) ?_ hm (hc:=hL I4 (hleI3.trans hleI4) _ _ _ _);clear hm;rintro _ I5 _ _ ⟨rfl,sa5,sp5,ca5,cp5,rfl⟩ hle hm;have hleI5:=hle;try simp only[F9]at hm|refine J5 ?_ hm|refine D8 ?_|refine E5 ?_|refine P7 ?_|refine C9 ?_|refine D9 ?_|refine A7 ?_|refine D7 ?_|refine E8 ?_|refine A8 ?_)
   exact L9 (⟨k+1,I5,sa5,sp5,ca5,cp5⟩:EfX) (by exact⟨rfl,rfl,rfl,rfl,trivial⟩) ⟨hm,(((hle1.trans hle2).trans hleI3).trans hleI4).trans hleI5,by dsimp only;omega⟩ (by dsimp only;omega)
 ·obtain rfl:k=l.length:=by omega
  rw[V5]at hm;repeat' (first|refine J6 ?_|refine D9 ?_|refine A7 ?_|refine H9 ?_|refine H5 ?_|refine E8 ?_|refine A8 ?_|refine P9 ?_|refine X0 ?_|(refine D5 (ht:=fun _=>?_) (hf:=fun _=>?_)<;>try first|contradiction|omega))
  exact⟨I1,_,⟨rfl,sa1,sp1,ca1,cp1,rfl⟩,hm⟩
theorem _root_.Go.Fw.pmEg {x y z:HItem}{r:List HItem}:(x::y::z::r).Perm (z::x::y::r):=(A0P (l₁:= [x,y]) (l₂:= [z])).append_right r
abbrev C75 (it:Sp.Itm):Value->P6->List HItem->Prop:=fun v _ H'=> ∃sa sp ca cp,v=.tuple #[.slice sa (A76 it).1.length sp,.slice ca (A76 it).2.length cp]/\H'= [A6P (A76 it).1 sa sp,A6P (A76 it).2 ca cp]
theorem C8f (it:Sp.Itm) (hs:it.fit) (hcn:P8 it.body<=400000000) (I:P6) (cs:List Value) (hi:A5W I it cs):CalM prog 137 #[.agg cs.toArray] I [] (C75 it):=by
 obtain⟨ap,cp,as_,cs',ab,cb,ad,cd,xb,rfl,r1,r2,r3,r4,r5⟩:=hi;have hsb:=hs.body;have hS:=fun (J:P6) (m:Le I J) (bd:Nat)=>C40 (bd:=bd) _ it.body (G9 _) (by omega) hs.stms J ab cb xb ([],[]) none 0 none 0 ⟨Sp.Srt.nil,Sp.Srt.nil⟩ (by simp;omega) (r3.le m) (X6.le m _ _ r4)
 rw[show A1B it.body ([],[])=A76 it from rfl]at hS;refine CalM.of fun w E hm=>enter (N:=19) func137 rfl [(0,.agg (A1z it.kind it.name it.label (.slice ap it.params.length cp) (.slice as_ it.sends.length cs') (.slice ab it.body.length cb) it.at_ it.size it.mark (.slice ad it.diags.length cd)).toArray)] A0I rfl ?_
 obtain⟨r,hr⟩:∃r,r=A76 it:=⟨_,rfl⟩;rw[<-hr]at hS;repeat' (first|refine A0H 2 ?_|refine A0K (d:=1) ?_ hm;clear hm;intro b1 _ hm|refine A0K (d:=6) ?_ hm;clear hm;intro b6 _ hm|refine D6 ?_|refine Q3 ?_|refine D9 ?_|refine A7 ?_|refine E8 ?_|refine A8 ?_)
 have hm:=((hm.nil 9 1).nil 9 1).perm pmEg;refine⟨?_⟩
 repeat' (first|refine F6 (d:=10) ?_ hm (hp:=pm3_0) (hc:=hS I (Le.refl _) b6);clear hm;rintro _ I2 _ _ ⟨rfl,sa2,sp2,ca2,cp2,rfl⟩ hleI2 hm;try simp only[F9]at hm|refine J4 ?_ hm|refine V3 ?_ hm|refine D8 ?_|refine C9 ?_|refine D9 ?_|refine A7 ?_|refine E8 ?_|refine A8 ?_|refine H8 ?_|refine A1T ?_|refine U5 ?_|refine A0j ?_;intro _ hkq;replace hm:=hm.kept0 hkq;clear hkq|refine X5 ?_|refine A1X ?_|refine O8 ?_|refine L6 ?_)
 subst hr;exact⟨I2,_,⟨sa2,sp2,ca2,cp2,rfl,rfl⟩,hm.tl.left (H:= [_,_])⟩
theorem C7T:Zero1 prog 178 sl0:=⟨by kernel_rfl,rfl⟩
theorem C7S:Zero1 prog 35 sl0:=⟨by kernel_rfl,rfl⟩
abbrev B0s (ob n:Nat) (cs:List Value):HItem:=.row (.slice (some ⟨ob,0,none⟩) n n) 178 1 n cs
abbrev C15 (cb n:Nat) (cs:List Value):HItem:=.row (.slice (some ⟨cb,0,none⟩) n n) 35 1 n cs
abbrev B8R (l:List Nat) (a:Option Addr) (cp:Nat):HItem:=.row (.slice a l.length cp) 3 1 l.length (l.flatMap A1t)
abbrev A7D (t:Tri (List UInt8)):HItem:=A6P t.1 t.2.1 t.2.2
abbrev B3N (t:Tri Nat):HItem:=B8R t.1 t.2.1 t.2.2
theorem C6I (I:P6) (l:List (List UInt8)) (a:Option Addr) (cp:Nat) (s:List UInt8) (hs:Sp.Srt l) (hn:l.length<=1000000000) (h0:s= []\/s∈l):
  CalM prog 138 #[.slice a l.length cp,str s] I [A6P l a cp] (fun v _ H'=>v=.slice a l.length cp/\H'= [A6P l a cp]):=by
 refine CalM.of fun w E hm=>enter (N:=24) func138 rfl [(0,.slice a l.length cp),(1,str s)] A0T rfl ?_
 have hS:=B6S I l a cp s hs hn;by_cases hm1:s∈l
 ·rw[decide_eq_true hm1]at hS
  repeat' (first|refine S9 (d:=10) ?_ hm (hc:=hS);clear hm;intro _ hm|refine D8 ?_|refine D6 ?_|refine O9 ?_|refine W9 ?_|refine A0N ?_|refine D9 ?_|refine A7 ?_|refine G8 ?_|refine E8 ?_|refine A8 ?_|refine H8 ?_|refine J9 ?_|refine H6 ?_)
  exact⟨I,_,⟨rfl,rfl⟩,hm⟩
 ·rw[decide_eq_false hm1]at hS
  have hs0:s= []:=h0.resolve_right hm1;subst hs0;repeat' (first|refine S9 (d:=10) ?_ hm (hc:=hS);clear hm;intro _ hm|refine D8 ?_|refine D6 ?_|refine L8 ?_|refine V9 ?_|refine W9 ?_|refine D9 ?_|refine A7 ?_|refine G8 ?_|refine E8 ?_|refine A8 ?_|refine H8 ?_|refine J9 ?_|refine H6 ?_)
  exact⟨I,_,⟨rfl,rfl⟩,hm⟩
structure EaX where
 k:Nat
 I:P6
 T:List (Tri (List UInt8))
 U:List (Tri Nat)
theorem _root_.Go.Fw.mid1_get {L:List Value}{k:Nat}{v:Value}{r:List Value} (h:L.length=k):(L++(v::r))[k]?=some v:=by
 subst h;rw[A19 (G9 _),A3N];rfl
theorem _root_.Go.Fw.mid1_set {L:List Value}{k:Nat}{v u:Value}{r:List Value} (h:L.length=k):(L++(v::r)).set k u=L++(u::r):=by
 subst h;rw[A5L,if_neg (Nat.lt_irrefl _),A3N];rfl
structure EcX where
 k:Nat
 I:P6
 c:Tri Nat
theorem _root_.Go.Fw.flat_tri {α:Type}:∀(U:List (Tri α)),U.flatMap (fun t=> [A2w t])=U.map A2w
 | []=>rfl
 |t::U=>by rw[A0a,flat_tri U];rfl
theorem _root_.Go.Fw.flatS_get {l:List (List UInt8)}{j:Nat}{s:List UInt8} (h:l[j]?=some s):(l.flatMap A6X)[j]?=some (str s):=by
 rw[A8Z,A0f,h];rfl
theorem _root_.Go.Fw.pmEa {x y o c:HItem}{A B:List HItem}:(x::y::o::c::(A++B)).Perm (o::c::((A++ [x])++(B++ [y]))):=by
 have h1:(x::y::o::c::(A++B)).Perm ([o,c]++([x,y]++(A++B))):=(A0P (l₁:= [x,y]) (l₂:= [o,c])).append_right (A++B);have h2:([x,y]++(A++B)).Perm ((A++ [x])++(B++ [y])):=by
  rw[show [x,y]++(A++B)= [x]++([y]++(A++B)) from rfl];have a1:([y]++(A++B)).Perm (A++(B++ [y])):=by
   rw[<-O3 A B [y]];exact A0P
  have a2:([x]++(A++(B++ [y]))).Perm (A++([x]++(B++ [y]))):=A6e _ _ _;rw[O3 A [x]];exact(a1.append_left [x]).trans a2
 exact h1.trans (h2.append_left [o,c])
theorem _root_.Go.Fw.pmEc {c cl o:HItem}{A:List HItem}{B:List HItem}:(c::cl::o::(A++B)).Perm (o::cl::(A++(B++ [c]))):=by
 have h1:(c::cl::o::(A++B)).Perm ([o,cl]++(A++B)++ [c]):=by
  refine(A0P (l₁:= [c]) (l₂:=cl::o::(A++B))).trans ?_
  exact(List.Perm.swap _ _ _).append_right [c]
 rw[O3,O3]at h1;exact h1
theorem _root_.Go.Fw.pmEb {s o cl:HItem}{A:List HItem}{B:List HItem}:(s::o::cl::(A++B)).Perm (cl::o::((A++ [s])++B)):=by
 have h1:(s::o::cl::(A++B)).Perm (cl::o::(s::(A++B))):=by
  refine(A0P (l₁:= [s]) (l₂:=o::cl::(A++B))).trans ?_
  refine(List.Perm.swap _ _ _).trans ?_
  exact((A0P (l₁:=A++B) (l₂:= [s])).cons o).cons cl
 refine h1.trans (((?_:(s::(A++B)).Perm ((A++ [s])++B)).cons o).cons cl)
 rw[O3];exact A6e [s] A B
theorem C6J (I:P6) (u:Tri (List UInt8)) (s:List UInt8) (hs:Sp.Srt u.1) (hn:u.1.length<=1000000000):
  CalM prog 138 #[A2w u,str s] I [A7D u] (fun v _ H'=> ∃u':Tri (List UInt8),u'.1=A4R u.1 s/\(s= []\/s∈u.1->u'=u)/\v=A2w u'/\H'= [A7D u']):=by
 by_cases h0:s= []\/s∈u.1
 ·refine(C6I I u.1 u.2.1 u.2.2 s hs hn h0).mono (fun v J H' _ hp=>?_)
  obtain⟨rfl,rfl⟩:=hp;exact⟨u,(B1f h0).symm,fun _=>rfl,rfl,rfl⟩
 ·refine(C2E I u.1 u.2.1 u.2.2 s hs hn).mono (fun v J H' _ hp=>?_)
  obtain⟨a,cp,rfl,rfl⟩:=hp;exact⟨(A4R u.1 s,a,cp),rfl,fun h=>absurd h h0,rfl,rfl⟩
theorem C8k {E:Ent}{w:World}{R:List HItem}:∀(U:List (Tri Nat)) {I:P6},Mem E I (U.map B3N++R) w->∃J,Le I J/\Mem E J R w/\∀t∈U,RowI J 3 1 (A2w t) t.1.length (t.1.flatMap A1t)
 | [],I,hm=>⟨I,Le.refl _,hm,fun _ h=>by cases h⟩
 |t::U,I,hm=>by
  obtain⟨I1,l1,m1,r1⟩:=Mem.freeze (H:=U.map B3N++R) hm;obtain⟨I2,l2,m2,h2⟩:=C8k U m1;refine⟨I2,l1.trans l2,m2,fun x hx=>?_⟩
  rcases V8.1 hx with rfl|hx
  ·exact r1.le l2
  ·exact h2 x hx
structure ErX where
 I:P6
 T:List (Tri (List UInt8))
 b:Bool
structure EiX where
 k:Nat
 I:P6
 T:List (Tri (List UInt8))
 b:Bool
structure EjX where
 k:Nat
 I:P6
 t:Tri (List UInt8)
theorem C8e {its:List Sp.Itm} (I:P6) (a:Option Addr) (cp:Nat) (xs:List Value) (hfe:FE I its a cp xs) (hsm:∀it∈its,it.fit/\P8 it.body<=400000000) (hN:(A3y its).length<=1000000000):
  CalM prog 110 #[.agg [.slice a its.length cp].toArray] I [] (fun v _ H'=> ∃(ob:Nat) (T:List (Tri (List UInt8))),T.map (·.1)=A8J its/\v=.slice (some ⟨ob,0,none⟩) its.length its.length/\H'=B0s ob its.length (T.map A2w)::T.map A7D):=by
 refine CalM.of fun w E hm=>enter (N:=122) func110 rfl [(0,.agg [.slice a its.length cp].toArray)] A0I rfl ?_
 have hfew:=hfe.few;repeat' (first|refine A0H 1 ?_|refine A0K (d:=1) ?_ hm;clear hm;intro b1 _ hm|refine D6 ?_|refine D9 ?_|refine A7 ?_|refine E8 ?_|refine A8 ?_)
 obtain⟨I1,hle1,hm1,hpf⟩:=hm.freezeO;clear hm;have hm:=hm1;clear hm1;have hpf1:=hpf;refine⟨?_⟩
 repeat' (first|refine B1W (d:=22) sl0 C7T hm (by rfl) (by rfl) (by rfl) (by rfl) (by omega) (by rfl) ?_;clear hm;intro ob _ hm|refine B1W (d:=26) sl0 C7S hm (by rfl) (by rfl) (by rfl) (by rfl) (by omega) (by rfl) ?_;clear hm;intro cb _ hm|refine J5 ?_ hm|refine D8 ?_|refine D6 ?_|refine G7 ?_|refine C9 ?_|refine D9 ?_|refine A7 ?_|refine E8 ?_|refine A8 ?_|refine F5 ?_)
 have hm:=hm.swap;refine U2 (fun x:EaX=> [(1,ptr b1),(3,.slice (some ⟨ob,0,none⟩) its.length its.length),(4,.slice (some ⟨cb,0,none⟩) its.length its.length),(28,.slice a its.length cp),(29,nt its.length),(30,nt x.k)])
  (fun x w'=>Mem E x.I (B0s ob its.length (A8D (x.T.map A2w) (its.length-x.k))::C15 cb its.length (A8D (x.U.map A2w) (its.length-x.k))::(x.T.map A7D++x.U.map B3N)) w'/\Le I1 x.I/\
   x.T.map (·.1)=(List.range x.k).map (A7n its)/\x.U.map (·.1)=(List.range x.k).map (A4f its)/\x.k<=its.length)
  (fun x=>its.length-x.k) ⟨0,I1,[],[]⟩ (by exact⟨rfl,rfl,rfl,rfl,rfl,rfl,trivial⟩) ⟨by simpa[A8D] using hm,Le.refl _,rfl,rfl,H7 _⟩ ?_
 clear hm hpf;rintro⟨k,I2,T,U⟩ w2 ⟨hm,hle2,hT,hU,hk⟩;dsimp only at hm hle2 hT hU hk |-;have hTl:T.length=k:=by have:=congrArg List.length hT;simpa using this
 have hUl:U.length=k:=by have:=congrArg List.length hU;simpa using this
 have hpf2:=hpf1.le hle2;by_cases hlt:k<its.length
 ·obtain⟨m,hmm⟩:∃m,its.length-k=m+1:=⟨its.length-k-1,by omega⟩
  have hmm2:its.length-(k+1)=m:=by omega
  rw[hmm]at hm;have hg:its[k]?=some its[k]:=G6 hlt;have hno:A0o its k=its[k]:=by rw[A0o,O4,hg];rfl
  obtain⟨hs1,hs2⟩:=hsm _ (O7 hlt);obtain⟨cs,hcs,hat,hl10⟩:=((hfe.le hle1).le hle2).get hg;have hri:=((hfe.le hle1).le hle2).row;generalize its[k]=it at hg hno hs1 hs2 hat
  have hiE:A7n its k=if it.kind=2 then (A76 it).1 else []:=by rw[A7n,hno]
  have hcE:A4f its k=if it.kind=2 then A8Y its (A76 it).2 else []:=by rw[A4f,hno]
  have hO:=C8f it hs1 hs2 I2 cs hat
  have hol:=B3t it;obtain⟨ap,cp',as_,cs',ab,cb',ad,cd,xb,rfl,_,_,_,_,_⟩:=hat
  have hfo:(0:Nat)+(k:Int).toNat *1=k:=by rw[A1v];omega
  by_cases k2:it.kind=2
  ·rw[if_pos k2]at hiE hcE
   repeat' (first|refine O0 (d:=33) ?_ (hr:=hri);intro bt ot hpt;rw[show ((k:Int).toNat *10)=k *10 from rfl,hcs]at hpt|refine X3 (d:=34) ?_ hm (hp:=hpt) (hc:=by exact hl10)|refine F6 (d:=40) ?_ hm (hc:=hO);clear hm;rintro _ I3 _ _ ⟨sa,sp,ca,cq,rfl,rfl⟩ hle hm;have hleI3:=hle;try simp only[F9]at hm|refine A5P (i:=3) hm (by rfl) (by rfl) (by rfl) (by rfl) (by rfl) (by rfl) (by rfl) (by simp;omega) ?_;clear hm;intro w3 hm;rw[hfo]at hm;simp only[F9]at hm|refine A0H 9 ?_|refine U1 (d:=6) ?_ hm;clear hm;intro b6 _ hm|refine J4 ?_ hm|refine Y1 ?_ hm|refine N7 ?_ hm;clear hm;intro _ hm;try simp only[F9]at hm|refine D8 ?_|refine D6 ?_|refine J6 ?_|refine A0y ?_|refine W9 ?_|refine C9 ?_|refine A0L (k:=?_)|refine D9 ?_|refine A7 ?_|refine E8 ?_|refine A8 ?_|refine F5 ?_|refine G5 ?_|(refine D5 (ht:=fun _=>?_) (hf:=fun _=>?_)<;>try first|contradiction|omega))
   obtain⟨I4,hle4,hm4,hrc⟩:=hm.swap.freeze;have hm5:=(hm4.swap.tl.perm pmEb).nil 3 1;clear hm hm4;rw[C3U (by rw[A0g,hTl])]at hm5;obtain⟨T',hT'⟩:∃T',T'=T++ [((A76 it).1,sa,sp)]:=⟨_,rfl⟩;have hT2:T'.map (·.1)=(List.range (k+1)).map (A7n its):=by rw[hT',Y8,hT,A79,hiE];rfl
   have hm:Mem E I4 (B3N Tri.nil::C15 cb its.length (U.map A2w++(A2w (α:=Nat) Tri.nil::List.replicate m sl0))::B0s ob its.length (A8D (T'.map A2w) m)::(T'.map A7D++U.map B3N)) w3:=by
    rw[hT',Y8,Y8];exact hm5
   clear hm5 hT';have hpf3:=hpf2.le (hleI3.trans hle4);have hfe3:=((hfe.le hle1).le hle2).le (hleI3.trans hle4);generalize (A76 it).2=called at hrc hcE hol;refine⟨?_⟩
   repeat' (first|refine D8 ?_|refine G7 ?_|refine D9 ?_|refine A7 ?_|refine A8 ?_|refine F5 ?_)
   refine U2 (fun x:EcX=> [(1,ptr b1),(3,.slice (some ⟨ob,0,none⟩) its.length its.length),(4,.slice (some ⟨cb,0,none⟩) its.length its.length),(5,nt k),(28,.slice a its.length cp),(29,nt its.length),(30,nt k),(47,.slice ca called.length cq),(48,nt called.length),(49,nt x.k)])
    (fun x w'=>Mem E x.I (B3N x.c::C15 cb its.length (U.map A2w++(A2w x.c::List.replicate m sl0))::B0s ob its.length (A8D (T'.map A2w) m)::(T'.map A7D++U.map B3N)) w'/\Le I4 x.I/\x.c.1=A8Y its (called.take x.k)/\x.k<=called.length)
    (fun x=>called.length-x.k) ⟨0,I4,Tri.nil⟩ (by exact⟨rfl,rfl,rfl,rfl,rfl,rfl,rfl,rfl,rfl,rfl,trivial⟩) ⟨hm,Le.refl _,by dsimp only;rw[Z9];rfl,H7 _⟩ ?_
   clear hm;rintro⟨j,I5,c,ca5,cq5⟩ w5 ⟨hm,hle5,hc,hj⟩;dsimp only at hm hle5 hc hj |-;have hpf4:=hpf3.le hle5
   change Mem E I5 (B8R c ca5 cq5::C15 cb its.length (U.map A2w++(.slice ca5 c.length cq5::List.replicate m sl0))::B0s ob its.length (A8D (T'.map A2w) m)::(T'.map A7D++U.map B3N)) w5 at hm
   have hget:=fun (v:Value) (r:List Value)=>Go.Fw.mid1_get (v:=v) (r:=r) (show (U.map A2w).length=k by rw[A0g,hUl])
   have hset:=fun (v u:Value) (r:List Value)=>Go.Fw.mid1_set (v:=v) (u:=u) (r:=r) (show (U.map A2w).length=k by rw[A0g,hUl])
   by_cases hjl:j<called.length
   ·have hgj:called[j]?=some called[j]:=G6 hjl
    have hst:=B63 (its:=its) hgj;have hcl:=B25 its (called.take j);rw[<-hc,Q4]at hcl;generalize called[j]=nm at hgj hst;have hF:=(A7b 2 nm its I5 a cp xs (hfe3.le hle5)).read;have hrc5:=hrc.le hle5;cases hf:A0Z its 2 nm with
    |some i=>
     rw[show A4c its 2 nm=(i:Int) by rw[A4c,hf]]at hF;repeat' (first|refine Q9 (d:=51) (enc:=A6X) (z:=nm) ?_ (hr:=hrc5) (he:=fun _=>rfl) (hz:=by exact hgj);intro bz oz hpz|refine S9 (d:=55) ?_ hm (hc:=hF);clear hm;intro _ hm|refine A0U (i:=1) (d:=63) hm (by rfl) (by rfl) (by rfl) (by rfl) (by rw[hfo];exact hget _ _) ?_|refine A5P (i:=1) hm (by rfl) (by rfl) (by rfl) (by rfl) (by rfl) (by rfl) (by rfl) (by simp;omega) ?_;clear hm;intro _ hm;rw[hfo,hset]at hm;simp only[F9]at hm|refine A2l (d:=66) ?_ hm;clear hm;intro a66 cp66 _ _ hm;try simp only[F9]at hm|refine X3 ?_ hm|refine A1w ?_ hm|refine D8 ?_|refine D6 ?_|refine J6 ?_|refine A04 ?_|refine P7 ?_|refine A0L (k:=?_)|refine D9 ?_|refine A7 ?_|refine D7 ?_|refine E8 ?_|refine A8 ?_|refine F5 ?_|refine G5 ?_|refine H6 ?_|(refine D5 (ht:=fun _=>?_) (hf:=fun _=>?_)<;>try first|contradiction|omega))
     refine L9 (⟨j+1,I5,c++ [i],a66,cp66⟩:EcX) (by exact⟨rfl,rfl,rfl,rfl,rfl,rfl,rfl,rfl,rfl,rfl,trivial⟩) ⟨?_,hle5,?_,by dsimp only;omega⟩ (by dsimp only;omega)
     ·dsimp only[B3N,A2w,B8R]
      rw[X9,E9];exact hm
     ·dsimp only;rw[hst,hf, <-hc];rfl
    |none=>
     rw[show A4c its 2 nm= -1 by rw[A4c,hf]]at hF;repeat' (first|refine Q9 (d:=51) (enc:=A6X) (z:=nm) ?_ (hr:=hrc5) (he:=fun _=>rfl) (hz:=by exact hgj);intro bz oz hpz|refine S9 (d:=55) ?_ hm (hc:=hF);clear hm;intro _ hm|refine X3 ?_ hm|refine A1w ?_ hm|refine D8 ?_|refine D6 ?_|refine J6 ?_|refine A04 ?_|refine P7 ?_|refine D9 ?_|refine A7 ?_|refine D7 ?_|refine E8 ?_|refine A8 ?_|refine F5 ?_|refine G5 ?_|refine F7 ?_|(refine D5 (ht:=fun _=>?_) (hf:=fun _=>?_)<;>try first|contradiction|omega))
     refine L9 (⟨j+1,I5,c,ca5,cq5⟩:EcX) (by exact⟨rfl,rfl,rfl,rfl,rfl,rfl,rfl,rfl,rfl,rfl,trivial⟩) ⟨hm,hle5,?_,by dsimp only;omega⟩ (by dsimp only;omega)
     dsimp only;rw[hst,hf, <-hc];simp
   ·obtain rfl:j=called.length:=by omega
    rw[V5, <-hcE]at hc;repeat' (first|refine D8 ?_|refine J6 ?_|refine P7 ?_|refine D9 ?_|refine A7 ?_|refine H9 ?_|refine D7 ?_|refine H5 ?_|refine E8 ?_|refine A8 ?_|refine P9 ?_|(refine D5 (ht:=fun _=>?_) (hf:=fun _=>?_)<;>try first|contradiction|omega))
    refine L9 (⟨k+1,I5,T',U++ [(c,ca5,cq5)]⟩:EaX) (by exact⟨rfl,rfl,rfl,rfl,rfl,rfl,trivial⟩) ⟨?_,(hle2.trans (hleI3.trans hle4)).trans hle5,hT2,?_,by dsimp only;omega⟩ (by dsimp only;omega)
    ·dsimp only
     rw[hmm2];have h:=hm.perm pmEc;simp only[Y8];rw[show List.map (A2w (α:=Nat)) U++(A2w (c,ca5,cq5)::List.replicate m sl0)=A8D (List.map A2w U++ [A2w (c,ca5,cq5)]) m by rw[A8D,O3];rfl]at h;exact h
    ·dsimp only;rw[Y8,hU,A79, <-hc];rfl
  ·rw[if_neg k2]at hiE hcE
   repeat' (first|refine O0 (d:=33) ?_ (hr:=hri);intro bt ot hpt;rw[show ((k:Int).toNat *10)=k *10 from rfl,hcs]at hpt|refine X3 (d:=34) ?_ hm (hp:=hpt) (hc:=by exact hl10)|refine U1 (d:=6) ?_ hm;clear hm;intro b6 _ hm|refine J4 ?_ hm|refine N7 ?_ hm;clear hm;intro _ hm;try simp only[F9]at hm|refine D8 ?_|refine D6 ?_|refine J6 ?_|refine A0y ?_|refine P7 ?_|refine C9 ?_|refine D9 ?_|refine A7 ?_|refine H9 ?_|refine H5 ?_|refine E8 ?_|refine A8 ?_|refine F5 ?_|refine G5 ?_|refine P9 ?_|(refine D5 (ht:=fun _=>?_) (hf:=fun _=>?_)<;>try first|contradiction|omega))
   refine L9 (⟨k+1,I2,T++ [Tri.nil],U++ [Tri.nil]⟩:EaX) (by exact⟨rfl,rfl,rfl,rfl,rfl,rfl,trivial⟩) ⟨?_,hle2,?_,?_,by dsimp only;omega⟩ (by dsimp only;omega)
   ·dsimp only
    rw[hmm2];have h:=((hm.tl.nil 3 1).nil 9 1).perm pmEa;rw[B4J,B4J]at h;simp only[Y8];exact h
   ·dsimp only;rw[Y8,hT,A79,hiE];rfl
   ·dsimp only;rw[Y8,hU,A79,hcE];rfl
 ·obtain rfl:k=its.length:=by omega
  rw[A3N,A8D,A8D,List.replicate_zero,J3,J3]at hm;repeat' (first|refine D6 ?_|refine J6 ?_|refine D9 ?_|refine A7 ?_|refine H9 ?_|refine H5 ?_|refine E8 ?_|refine A8 ?_|refine F5 ?_|refine P9 ?_|(refine D5 (ht:=fun _=>?_) (hf:=fun _=>?_)<;>try first|contradiction|omega))
  have hT0:T.map (·.1)=A4Y its:=by rw[hT,A4Y]
  have hmU:Mem E I2 (C15 cb its.length (U.map A2w)::(U.map B3N++(B0s ob its.length (T.map A2w)::T.map A7D))) w2:=hm.perm (by
   refine(List.Perm.swap _ _ _).trans (List.Perm.cons _ ?_)
   exact(A0P (l₁:=B0s ob its.length (T.map A2w)::T.map A7D) (l₂:=U.map B3N)))
  obtain⟨I3,hle3,hm3,hcls⟩:=hmU.freeze;obtain⟨I4,hle4,hm4,hint⟩:=C8k U hm3;clear hm hmU hm3;replace hcls:=hcls.le hle4;have hmO:=hm4;clear hm4;have hfe4:Le I2 I4:=hle3.trans hle4;refine U2 (fun x:ErX=> [(3,.slice (some ⟨ob,0,none⟩) its.length its.length),(4,.slice (some ⟨cb,0,none⟩) its.length its.length),(12,.bool x.b)])
   (fun x w'=>Mem E x.I (B0s ob its.length (x.T.map A2w)::x.T.map A7D) w'/\Le I4 x.I/\Sp.RowsE its (x.T.map (·.1))/\A4K its (B1L its+1) (x.T.map (·.1))=A8J its/\(x.b=false->A3A its (x.T.map (·.1))=x.T.map (·.1)))
   (fun x=>if x.b then (B1L its-A7A (x.T.map (·.1)))+1 else 0) ⟨I4,T,true⟩ (by exact⟨rfl,rfl,rfl,trivial⟩) ⟨hmO,Le.refl _,by dsimp only;rw[hT0];exact B0j its,by dsimp only;rw[hT0];exact(C2h its).symm,fun h=>by cases h⟩ ?_
  clear hmO hT hT0 hTl T;rintro⟨I5,T,b⟩ w5 ⟨hm,hle5,hR,hit,hfix⟩;dsimp only at hm hle5 hR hit hfix |-;cases b with
  |false=>
   repeat' (first|refine D8 ?_|refine D6 ?_|refine D9 ?_|refine A7 ?_|refine H9 ?_|refine H5 ?_|refine E8 ?_|refine A8 ?_|refine P9 ?_|refine H8 ?_|refine J9 ?_|refine F7 ?_)
   refine⟨I5,_,⟨ob,T,?_,rfl,rfl⟩,hm⟩
   rw[<-hit,A9r (hfix rfl)]
  |true=>
   repeat' (first|refine D8 ?_|refine D6 ?_|refine G7 ?_|refine D9 ?_|refine A7 ?_|refine E8 ?_|refine A8 ?_|refine F5 ?_|refine G5 ?_|refine H6 ?_)
   have hclsT:RowI I4 35 1 (.slice (some ⟨cb,0,none⟩) its.length its.length) its.length (U.flatMap (fun t=> [A2w t])):=by rw[flat_tri];exact hcls
   refine U2 (fun x:EiX=> [(3,.slice (some ⟨ob,0,none⟩) its.length its.length),(4,.slice (some ⟨cb,0,none⟩) its.length its.length),(12,.bool x.b),(72,nt its.length),(73,nt x.k)])
    (fun x w'=>Mem E x.I (B0s ob its.length (x.T.map A2w)::x.T.map A7D) w'/\Le I5 x.I/\x.T.map (·.1)=(List.range x.k).foldl (A21 its) (T.map (·.1))/\(x.b=true↔x.T.map (·.1)≠T.map (·.1))/\x.k<=its.length)
    (fun x=>its.length-x.k) ⟨0,I5,T,false⟩ (by exact⟨rfl,rfl,rfl,rfl,rfl,trivial⟩) ⟨hm,Le.refl _,rfl,by simp,H7 _⟩ ?_
   clear hm;rintro⟨i,I6,S,b⟩ w6 ⟨hm,hle6,hS,hb,hi⟩;dsimp only at hm hle6 hS hb hi |-;obtain⟨hRS,hLS⟩:Sp.RowsE its (S.map (·.1))/\Sp.LeE (T.map (·.1)) (S.map (·.1)):=by rw[hS];exact hR.folds _
   have hSl:S.length=its.length:=by have:=hRS.len;simpa using this
   by_cases hil:i<its.length
   ·have hgS:S[i]?=some S[i]:=G6 (by omega)
    have hset0:S.set i S[i]=S:=List.set_getElem_self _;have hgU:U[i]?=some U[i]:=G6 (by omega);have hUi:U[i].1=A4f its i:=by
     have h:=congrArg (·[i]?) hU;simp only[A0f,hgU,List.getElem?_range hil,A17,U3]at h;exact h
    have hUin:=hint _ (O7 (show i<U.length by omega));have hcb:(A4f its i).length<=400000000:=by
     rw[A4f];split
     ·refine A0J (B25 its _) ?_
      have h1:=B3t (A0o its i);have h2:A0o its i∈its:=B68 hil;have h3:=(hsm _ h2).2;omega
     ·simp
    rw[<-hUi]at hcb;generalize U[i]=q at hcb hgU hUi hUin;generalize S[i]=t0 at hgS hset0;obtain⟨c,ca,cq⟩:=q;dsimp only at hUi hUin hcb;have hrow:(S.map (·.1)).getD i []=t0.1:=by rw[O4,A0f,hgS];rfl
    have hfo:∀k:Nat,(0:Nat)+(k:Int).toNat *1=k:=fun k=>by rw[A1v];omega
    have hcell:(S.map A2w)[i]?=some (A2w t0):=by rw[A0f,hgS];rfl
    have hcls6:=hclsT.le (hle5.trans hle6);have hUin6:=hUin.le (hle5.trans hle6);repeat' (first|refine A0U (i:=0) (d:=79) hm (by rfl) (by rfl) (by rfl) (by rfl) (by rw[hfo];exact hcell) ?_|refine Q9 (d:=83) (enc:=fun t=> [A2w t]) (z:=(c,ca,cq)) ?_ (hr:=hcls6) (he:=fun _=>rfl) (hz:=by exact hgU);intro bz oz hpz|refine A1w ?_ hm|refine D8 ?_|refine D6 ?_|refine J6 ?_|refine G7 ?_|refine A0L (k:=?_)|refine D9 ?_|refine A7 ?_|refine E8 ?_|refine A8 ?_|refine F5 ?_|refine G5 ?_|(refine D5 (ht:=fun _=>?_) (hf:=fun _=>?_)<;>try first|contradiction|omega))
    refine U2 (fun x:EjX=> [(3,.slice (some ⟨ob,0,none⟩) its.length its.length),(4,.slice (some ⟨cb,0,none⟩) its.length its.length),(12,.bool b),(13,nt i),(14,nt t0.1.length),(72,nt its.length),(73,nt i),(84,.slice ca c.length cq),(85,nt c.length),(86,nt x.k)])
     (fun x w'=>Mem E x.I (B0s ob its.length ((S.set i x.t).map A2w)::(S.set i x.t).map A7D) w'/\Le I6 x.I/\x.t.1=(c.take x.k).foldl (fun a k=>A5J a ((S.map (·.1)).getD k [])) t0.1/\x.k<=c.length)
     (fun x=>c.length-x.k) ⟨0,I6,t0⟩ (by exact⟨rfl,rfl,rfl,rfl,rfl,rfl,rfl,rfl,rfl,rfl,trivial⟩) ⟨by dsimp only;rw[hset0];exact hm,Le.refl _,rfl,H7 _⟩ ?_
    clear hm;rintro⟨j,I7,t⟩ w7 ⟨hm,hle7,ht,hj⟩;dsimp only at hm hle7 ht hj |-;have hsr:=hRS.getD i;rw[hrow]at hsr;obtain⟨hmem,hsrt⟩:=A9y (S.map (·.1)) (c.take j) t0.1 hsr.1;rw[<-ht]at hmem hsrt;have hnam:∀x∈t.1,x∈A3y its:=fun x hx=>by
     rcases(hmem x).1 hx with h|⟨k,_,h,_⟩
     ·exact hsr.2.1 x h
     ·exact(hRS.getD k).2.1 x h
    have hgi:(S.set i t)[i]?=some t:=A5p (by omega);by_cases hjl:j<c.length
    ·have hgj:c[j]?=some c[j]:=G6 hjl
     obtain⟨hkl,_⟩:=B4d (i:=i) (k:=c[j]) (by rw[<-hUi];exact O7 hjl);have htk:c.take (j+1)=c.take j++ [c[j]]:=Q8 hgj;generalize c[j]=k at hgj hkl htk;obtain⟨⟨tl,ta,tc⟩,hgk⟩:∃tk,(S.set i t)[k]?=some tk:=⟨_,G6 (by rw[A2n];omega)⟩;have htt:i=k->(tl,ta,tc)=t:=fun e=>by
      subst e;rw[hgi]at hgk;exact(A0Y hgk).symm
     have hjoin:A5J t.1 tl=A5J t.1 ((S.map (·.1)).getD k []):=by
      by_cases e:i=k
      ·have h:=htt e
       subst e;rw[hrow,B0e t0.1 (fun x hx=>(hmem x).2 (.inl hx)), <-h,B0e tl (fun _ h=>h)]
      ·rw[A3R e]at hgk
       rw[O4,A0f,hgk];rfl
     have htlb:tl.length<=1000000000:=by
      refine A0J (show tl.length<=(A3y its).length from A8e ?_ ?_) hN
      ·by_cases e:i=k
       ·have h:=hsrt;rw[<-htt e]at h;exact h
       ·have h:=(hRS.getD k).1
        rw[A3R e]at hgk;rw[O4,A0f,hgk]at h;exact h
      ·by_cases e:i=k
       ·have h:=hnam;rw[<-htt e]at h;exact h
       ·have h:=(hRS.getD k).2.1
        rw[A3R e]at hgk;rw[O4,A0f,hgk]at h;exact h
     have hcell7:((S.set i t).map A2w)[k]?=some (A2w (tl,ta,tc)):=by rw[A0f,hgk];rfl
     have hUin7:=hUin6.le hle7;repeat' (first|refine Q9 (d:=88) (enc:=A1t) (z:=k) ?_ (hr:=hUin7) (he:=fun _=>rfl) (hz:=by exact hgj);intro bz oz hpz|refine A0U (i:=0) (d:=93) hm (by rfl) (by rfl) (by rfl) (by rfl) (by rw[hfo];exact hcell7) ?_|refine A1w ?_ hm|refine D8 ?_|refine D6 ?_|refine J6 ?_|refine G7 ?_|refine A0L (k:=?_)|refine D9 ?_|refine A7 ?_|refine E8 ?_|refine A8 ?_|refine F5 ?_|refine G5 ?_|(refine D5 (ht:=fun _=>?_) (hf:=fun _=>?_)<;>try first|contradiction|omega))
     refine U2 (fun x:EjX=> [(3,.slice (some ⟨ob,0,none⟩) its.length its.length),(4,.slice (some ⟨cb,0,none⟩) its.length its.length),(12,.bool b),(13,nt i),(14,nt t0.1.length),(72,nt its.length),(73,nt i),(84,.slice ca c.length cq),(85,nt c.length),(86,nt j),(93,.slice ta tl.length tc),(94,nt tl.length),(95,nt x.k)])
      (fun x w'=>Mem E x.I (B0s ob its.length ((S.set i x.t).map A2w)::(S.set i x.t).map A7D) w'/\Le I7 x.I/\x.t.1=A5J t.1 (tl.take x.k)/\(i=k->x.t=t)/\x.k<=tl.length)
      (fun x=>tl.length-x.k) ⟨0,I7,t⟩ (by exact⟨rfl,rfl,rfl,rfl,rfl,rfl,rfl,rfl,rfl,rfl,rfl,rfl,rfl,trivial⟩) ⟨hm,Le.refl _,by dsimp only;rw[Z9];rfl,fun _=>rfl,H7 _⟩ ?_
     clear hm;rintro⟨l,I8,u⟩ w8 ⟨hm,hle8,hu,hut,hl⟩;dsimp only at hm hle8 hu hut hl |-;by_cases hll:l<tl.length
     ·have hgl:tl[l]?=some tl[l]:=G6 hll
      have hst:=B8Y (a:=t.1) hgl;generalize tl[l]=s at hgl hst;have hgu:(S.set i u)[i]?=some u:=A5p (by omega);have hgk8:(S.set i u)[k]?=some (tl,ta,tc):=by
       by_cases e:i=k
       ·rw[hut e];exact hgk
       ·rw[A3R e];rw[A3R e]at hgk;exact hgk
      have hidx:(B0s ob its.length ((S.set i u).map A2w)::(S.set i u).map A7D)[k+1]?=some (A7D (tl,ta,tc)):=by
       rw[A0E,A0f,hgk8];rfl
      obtain⟨g,rfl⟩:=(hm.front (k+1) hidx).rowAddr (by dsimp only;omega);have hsu:Sp.Srt u.1:=by rw[hu];exact B1v _ hsrt
      have hnu:∀x∈u.1,x∈A3y its:=fun x hx=>by
       rw[hu,B1u]at hx;rcases hx with h|⟨h,h2⟩
       ·exact hnam x h
       ·by_cases e:i=k
        ·exact hnam x (by rw[<-htt e];exact A7V h)
        ·have h3:=(hRS.getD k).2.1 x
         rw[A3R e]at hgk;rw[O4,A0f,hgk]at h3;exact h3 (A7V h)
      have hlu:u.1.length<=1000000000:=A0J (A8e hsu hnu) hN;have hA:=C6J I8 u s hsu hlu;have hpm:(B0s ob its.length ((S.set i u).map A2w)::(S.set i u).map A7D).Perm ([A7D u]++(B0s ob its.length ((S.set i u).map A2w)::((S.set i u).eraseIdx i).map A7D)):=
       ((B78 (g:=A7D) hgu).cons _).trans (.swap _ _ _)
      have hcell8:((S.set i u).map A2w)[i]?=some (A2w u):=by rw[A0f,hgu];rfl
      have hsc:(tl.flatMap A6X)[l]?=some (str s):=flatS_get hgl;repeat' (first|refine A0U (i:=k+1) (d:=98) hm (by rfl) (by rfl) (by rfl) (by exact hidx) (by rw[hfo];exact hsc) ?_|refine A0U (i:=0) (d:=104) hm (by rfl) (by rfl) (by rfl) (by rfl) (by rw[hfo];exact hcell8) ?_|refine F6 (d:=106) ?_ hm (hp:=hpm) (hc:=hA);clear hm;rintro _ I9 _ _ ⟨u2,hu1,hu2,rfl,rfl⟩ hleI9 hm|refine A5P (i:=1) hm (by rfl) (by rfl) (by rfl) (by rfl) (by rfl) (by rfl) (by rfl) (by simp;omega) ?_;clear hm;intro _ hm;rw[hfo,B7m,List.set_set]at hm;simp only[F9]at hm|refine D8 ?_|refine D6 ?_|refine J6 ?_|refine P7 ?_|refine A0L (k:=?_)|refine D9 ?_|refine A7 ?_|refine D7 ?_|refine E8 ?_|refine A8 ?_|refine F5 ?_|refine G5 ?_|(refine D5 (ht:=fun _=>?_) (hf:=fun _=>?_)<;>try first|contradiction|omega))
      refine L9 (⟨l+1,I9,u2⟩:EjX) (by exact⟨rfl,rfl,rfl,rfl,rfl,rfl,rfl,rfl,rfl,rfl,rfl,rfl,rfl,trivial⟩) ⟨?_,hle8.trans hleI9,?_,fun e=>?_,by dsimp only;omega⟩ (by dsimp only;omega)
      ·dsimp only
       have h:=C58 (g:=A7D) (T:=S.set i u) (i:=i) (u:=u2) (by rw[A2n];omega);rw[List.set_set]at h;exact hm.perm ((List.Perm.swap _ _ _).trans (List.Perm.cons _ (h.symm)))
      ·dsimp only;rw[hst,hu1,hu]
      ·dsimp only
       have hx:s∈u.1:=by
        rw[hut e, <-htt e];exact A0B hgl
       rw[hu2 (.inr hx)];exact hut e
     ·obtain rfl:l=tl.length:=by omega
      rw[V5,hjoin]at hu;repeat' (first|refine D8 ?_|refine J6 ?_|refine P7 ?_|refine D9 ?_|refine A7 ?_|refine H9 ?_|refine D7 ?_|refine H5 ?_|refine E8 ?_|refine A8 ?_|refine P9 ?_|(refine D5 (ht:=fun _=>?_) (hf:=fun _=>?_)<;>try first|contradiction|omega))
      refine L9 (⟨j+1,I8,u⟩:EjX) (by exact⟨rfl,rfl,rfl,rfl,rfl,rfl,rfl,rfl,rfl,rfl,trivial⟩) ⟨hm,hle7.trans hle8,?_,by dsimp only;omega⟩ (by dsimp only;omega)
      dsimp only
      rw[htk,A5t, <-ht,hu];rfl
    ·obtain rfl:j=c.length:=by omega
     rw[V5,hUi]at ht;have htr:B2i its (S.map (·.1)) i=t.1:=by rw[B2i,hrow,ht]
     have hcell9:((S.set i t).map A2w)[i]?=some (A2w t):=by rw[A0f,hgi];rfl
     have hbn:=C3v hR hRS hLS (i:=i) (by rw[A0g];omega) hb;have hstp:(S.set i t).map (·.1)=A21 its (S.map (·.1)) i:=by rw[A21,htr,List.map_set]
     rw[hrow,htr, <-hstp]at hbn;have hfold:(S.set i t).map (·.1)=(List.range (i+1)).foldl (A21 its) (T.map (·.1)):=by
      rw[hstp,A1O,A5t, <-hS];rfl
     cases b with
     |true=>
      repeat' (first|refine D8 ?_|refine D6 ?_|refine O9 ?_|refine J6 ?_|refine P7 ?_|refine A0N ?_|refine D9 ?_|refine A7 ?_|refine H9 ?_|refine D7 ?_|refine H5 ?_|refine E8 ?_|refine A8 ?_|refine P9 ?_|(refine D5 (ht:=fun _=>?_) (hf:=fun _=>?_)<;>try first|contradiction|omega))
      exact L9 (⟨i+1,I7,S.set i t,true⟩:EiX) (by exact⟨rfl,rfl,rfl,rfl,rfl,trivial⟩) ⟨hm,hle6.trans hle7,hfold,hbn,by dsimp only;omega⟩ (by dsimp only;omega)
     |false=>
      repeat' (first|refine A0U (i:=0) (d:=115) hm (by rfl) (by rfl) (by rfl) (by rfl) (by rw[hfo];exact hcell9) ?_|refine D8 ?_|refine D6 ?_|refine L8 ?_|refine J6 ?_|refine A0F ?_|refine G7 ?_|refine P7 ?_|refine A0L (k:=?_)|refine D9 ?_|refine A7 ?_|refine H9 ?_|refine D7 ?_|refine H5 ?_|refine E8 ?_|refine A8 ?_|refine P9 ?_|(refine D5 (ht:=fun _=>?_) (hf:=fun _=>?_)<;>try first|contradiction|omega))
      exact L9 (⟨i+1,I7,S.set i t,(false||decide ((t0.1.length:Int)<(t.1.length:Int)))⟩:EiX) (by exact⟨rfl,rfl,rfl,rfl,rfl,trivial⟩) ⟨hm,hle6.trans hle7,hfold,hbn,by dsimp only;omega⟩ (by dsimp only;omega)
   ·obtain rfl:i=its.length:=by omega
    have hS2:S.map (·.1)=A3A its (T.map (·.1)):=hS;rw[hS2]at hb hRS;repeat' (first|refine J6 ?_|refine D9 ?_|refine A7 ?_|refine H9 ?_|refine D7 ?_|refine H5 ?_|refine E8 ?_|refine A8 ?_|refine P9 ?_|(refine D5 (ht:=fun _=>?_) (hf:=fun _=>?_)<;>try first|contradiction|omega))
    refine L9 (⟨I6,S,b⟩:ErX) (by exact⟨rfl,rfl,rfl,trivial⟩) ⟨hm,hle5.trans hle6,by dsimp only;rw[hS2];exact hRS,?_,fun h=>?_⟩ ?_
    ·dsimp only
     rw[hS2, <-hit];by_cases e:A3A its (T.map (·.1))=T.map (·.1)
     ·rw[e]
     ·exact(B8V hR e).symm
    ·dsimp only at h |-
     have e:A3A its (T.map (·.1))=T.map (·.1):=Classical.byContradiction fun e=>by
      rw[hb.2 e]at h;cases h
     rw[hS2,e,e]
    ·dsimp only
     rw[hS2];cases b with
     |false=>simp
     |true=>
      have h1:=A8b hR (hb.1 rfl);have h2:=B03 hRS;simp only[if_true];have e0:B1L its=its.length *(A3y its).length:=rfl;omega
theorem C4Z (I:P6) (b:Nat) (c:List UInt8) (hb:PtrI I b 0 9 [str c]) (x:Sp.Rf):
  CalM prog 112 #[.agg (A2V x).toArray,ptr b] I [] (fun v _ H'=>v=.bool (decide (x.name=c))/\H'= []):=by
 refine CalM.of fun w E hm=>enter (N:=8) func112 rfl [(0,.agg (A2V x).toArray),(1,ptr b)] A0T rfl ?_
 repeat' (first|refine A0K (d:=2) ?_ hm;clear hm;intro b2 _ hm|refine J4 ?_ hm|refine A1w ?_ hm|refine D6 ?_|refine V9 ?_|refine C9 ?_|refine D9 ?_|refine A7 ?_|refine E8 ?_|refine A8 ?_|refine H8 ?_|refine J9 ?_)
 exact⟨I,[],⟨rfl,rfl⟩,hm.left (H:= [])⟩
theorem C7F {its:List Sp.Itm}{i:Nat}{T:List (Tri (List UInt8))} (hT:T.map (·.1)=A8J its) (hi:i<its.length):
  ∃a cp,T[i]?=some (A93 its i,a,cp)/\(T.map A2w)[i]?=some (.slice a (A93 its i).length cp):=by
 have hl:T.length=its.length:=by
  have:=congrArg List.length hT;rw[B38]at this;simpa using this
 have hg:T[i]?=some T[i]:=G6 (by omega);have h1:A93 its i=T[i].1:=by
  rw[A93, <-hT,O4,A0f,hg];rfl
 generalize T[i]=t at hg h1;obtain⟨l,a,cp⟩:=t;dsimp only at h1;subst h1;exact⟨a,cp,hg,by rw[A0f,hg];rfl⟩
structure EdX where
 k:Nat
 I:P6
 a:Option Addr
 cp:Nat
abbrev C8d (l:List Sp.Dg) (a:Option Addr) (cp:Nat):HItem:=.row (.slice a l.length cp) 85 4 l.length (l.flatMap A5G)
theorem C4Y {its:List Sp.Itm} (i:Nat) (hi:i<its.length) (I:P6) (a:Option Addr) (cp:Nat) (xs:List Value) (hfe:FE I its a cp xs) (hsm:∀it∈its,it.fit/\P8 it.body<=400000000) (hN:(A3y its).length<=1000000000):
  CalM prog 74 #[.agg [.slice a its.length cp].toArray,nt i] I [] (fun v I' H'=>H'= []/\∃da dp,v=.slice da (B0D its i).length dp/\RowI I' 85 4 (.slice da (B0D its i).length dp) (B0D its i).length ((B0D its i).flatMap A5G)):=by
 refine CalM.of fun w E hm=>enter (N:=52) func74 rfl [(0,.agg [.slice a its.length cp].toArray),(1,nt i)] A0T rfl ?_
 have hfew:=hfe.few;have hg:its[i]?=some its[i]:=G6 hi;have hno:A0o its i=its[i]:=by rw[A0o,O4,hg];rfl
 have hss:=(hsm _ (O7 hi)).1;repeat' (first|refine A0H 1 ?_|refine A0K (d:=2) ?_ hm;clear hm;intro b2 _ hm|refine D6 ?_|refine D9 ?_|refine A7 ?_|refine E8 ?_|refine A8 ?_)
 obtain⟨I1,hle1,hm1,hpf⟩:=hm.freezeO;clear hm;have hm:=hm1;clear hm1;have hfe1:=hfe.le hle1;obtain⟨cs,hcs,hat,hl10⟩:=hfe1.get hg;have hri:=hfe1.row;have hA:=C8e (its:=its) I1 a cp xs hfe1 hsm hN;rw[<-hno]at hat hss;have hk2:=fun h=>C0O (its:=its) (i:=i) h
 generalize hit:A0o its i=it at hat hss hk2;obtain⟨ap,cp',as_,cs',ab,cb',ad,cd,xb,rfl,_,hsd,_,_,_⟩:=hat
 have hfo:∀k:Nat,(0:Nat)+(k:Int).toNat *1=k:=fun k=>by rw[A1v];omega
 refine⟨?_⟩
 by_cases k2:it.kind=2
 ·skip
  repeat' (first|refine O0 (d:=21) ?_ (hr:=hri);intro bt ot hpt;rw[show ((i:Int).toNat *10)=i *10 from rfl,hcs]at hpt|refine A0H 4 ?_|refine J5 ?_ hm|refine D8 ?_|refine D6 ?_|refine L8 ?_|refine J6 ?_|refine A04 ?_|refine A0y ?_|refine G7 ?_|refine C9 ?_|(refine N8 (h1:=fun _=>?_) (h0:=fun _=>?_)<;>try first|contradiction|omega)|refine D9 ?_|refine A7 ?_|refine E8 ?_|refine A8 ?_|refine G5 ?_|(refine D5 (ht:=fun _=>?_) (hf:=fun _=>?_)<;>try first|contradiction|omega))
  have hal:=A0J (B6r (its:=its) i) hN;refine⟨?_⟩
  repeat' (first|refine F6 (d:=27) ?_ hm (hp:=pm0) (hc:=hA);clear hm;rintro _ I2 _ w2 ⟨ob,T,hT,rfl,rfl⟩ hleI2 hm;rw[J3]at hm;obtain⟨ta,tc,hti,hcell⟩:=C7F hT hi|refine A0U (i:=0) (d:=30) hm (by rfl) (by rfl) (by rfl) (by rfl) (by rw[hfo];exact hcell) ?_|refine X3 ?_ hm|refine D8 ?_|refine G7 ?_|refine A0L (k:=?_)|refine D9 ?_|refine A7 ?_|refine A8 ?_|refine F5 ?_)
  obtain⟨I3,hle3,hm3,hrow⟩:=(hm.front (i+1) (by rw[A0E,A0f,hti];rfl)).freeze;clear hm;have hm:=(hm3.left (H:= [])).nil 85 4;clear hm3;have hle13:Le I1 I3:=hleI2.trans hle3;have heD:B0D its i=((A93 its i).filter (fun c=> !B0Y it c)).map B0C:=by rw[B0D,hit]
  generalize A93 its i=al at *;refine U2 (fun x:EdX=> [(1,nt i),(2,ptr b2),(5,.slice x.a (((al.take x.k).filter (fun c=> !B0Y it c)).map B0C).length x.cp),(30,.slice ta al.length tc),(31,nt al.length),(32,nt x.k)])
   (fun x w'=>Mem E x.I [C8d (((al.take x.k).filter (fun c=> !B0Y it c)).map B0C) x.a x.cp] w'/\Le I3 x.I/\x.k<=al.length)
   (fun x=>al.length-x.k) ⟨0,I3,none,0⟩ (by exact⟨rfl,rfl,rfl,rfl,rfl,rfl,trivial⟩) ⟨hm,Le.refl _,H7 _⟩ ?_
  clear hm;rintro⟨k,I4,da,dp⟩ w4 ⟨hm,hle4,hk⟩;dsimp only at hm hle4 hk |-;by_cases hlt:k<al.length
  ·have hgk:al[k]?=some al[k]:=G6 hlt
   have hst:=C04 (p:=fun c=> !B0Y it c) hgk;have hdl:(((al.take k).filter (fun c=> !B0Y it c)).map B0C).length<=1000000000:=by
    rw[A0g];refine A0J (A3P _ _) ?_
    rw[Q4];omega
   generalize al[k]=c at hgk hst;generalize ((al.take k).filter (fun c=> !B0Y it c)).map B0C=ds at hm hst hdl |-;have hrow4:=hrow.le hle4;have hri4:=(hri.le hle13).le hle4;have hpf4:=(hpf.le hle13).le hle4;repeat' (first|refine Q9 (d:=34) (enc:=A6X) (z:=c) ?_ (hr:=hrow4) (he:=fun _=>rfl) (hz:=by exact hgk);intro bz oz hpz|refine A0H 7 ?_|refine C6Z (d:=7) ?_ hm;clear hm;intro b7 _ hm|refine A1w ?_ hm|refine J6 ?_|refine D9 ?_|refine A7 ?_|refine E8 ?_|refine A8 ?_|refine F5 ?_|refine G5 ?_|(refine D5 (ht:=fun _=>?_) (hf:=fun _=>?_)<;>try first|contradiction|omega))
   obtain⟨I5,hle5,hm5,hpc⟩:=hm.freezeO;clear hm;have hm:=hm5;clear hm5;have hri5:=hri4.le hle5;have hpf5:=hpf4.le hle5;have hsd5:=((hsd.le hle13).le hle4).le hle5;have hE:=B3p 112 [ptr b7] (fun x=>decide (x.name=c)) it.sends (by have:=hss.sends;omega) I5 as_ cs' hsd5 (fun J m x=>C4Z J b7 c (hpc.le m) x);rw[show it.sends.any (fun x=>decide (x.name=c))=B0Y it c from rfl]at hE;refine⟨?_⟩
   cases hc:B0Y it c with
   |true=>
    rw[hc]at hE hst;repeat' (first|refine O0 (d:=39) ?_ (hr:=hri5);intro bt ot hpt;rw[show ((i:Int).toNat *10)=i *10 from rfl,hcs]at hpt|refine F6 (d:=43) ?_ hm (hc:=hE);clear hm;rintro _ I6 _ _ ⟨rfl,rfl⟩ hle hm;have hleI6:=hle;try simp only[F9]at hm|refine J5 ?_ hm|refine D8 ?_|refine Y9 ?_|refine A1o ?_|refine P7 ?_|refine C9 ?_|refine D9 ?_|refine A7 ?_|refine D7 ?_|refine A8 ?_|refine G5 ?_|refine F7 ?_)
    refine L9 (⟨k+1,I6,da,dp⟩:EdX) (by dsimp only;rw[hst,if_neg (by simp),J3];exact⟨rfl,rfl,rfl,rfl,rfl,rfl,trivial⟩) ⟨?_,(hle4.trans hle5).trans hleI6,by dsimp only;omega⟩ (by dsimp only;omega)
    dsimp only;rw[hst,if_neg (by simp),J3];exact hm
   |false=>
    rw[hc]at hE hst;repeat' (first|refine O0 (d:=39) ?_ (hr:=hri5);intro bt ot hpt;rw[show ((i:Int).toNat *10)=i *10 from rfl,hcs]at hpt|refine F6 (d:=43) ?_ hm (hc:=hE);clear hm;rintro _ I6 _ _ ⟨rfl,rfl⟩ hle hm;have hleI6:=hle;try simp only[F9]at hm;replace hpc:=hpc.le hleI6|refine A2l (d:=49) ?_ hm;clear hm;intro a49 cp49 _ _ hm;try simp only[F9]at hm|refine J5 ?_ hm|refine A1w ?_ hm|refine D8 ?_|refine D6 ?_|refine Y9 ?_|refine A1o ?_|refine P7 ?_|refine C9 ?_|refine Q3 ?_|refine D9 ?_|refine A7 ?_|refine D7 ?_|refine A8 ?_|refine H6 ?_)
    rw[if_pos (by simp)]at hst;refine L9 (⟨k+1,I6,a49,cp49⟩:EdX) (by dsimp only;rw[hst,E9];exact⟨rfl,rfl,rfl,rfl,rfl,rfl,trivial⟩) ⟨?_,(hle4.trans hle5).trans hleI6,by dsimp only;omega⟩ (by dsimp only;omega)
    dsimp only[C8d];rw[hst,X9,E9];exact hm
  ·obtain rfl:k=al.length:=by omega
   rw[V5, <-heD]at hm;repeat' (first|refine D8 ?_|refine D6 ?_|refine J6 ?_|refine D9 ?_|refine A7 ?_|refine H9 ?_|refine H5 ?_|refine E8 ?_|refine A8 ?_|refine P9 ?_|refine H8 ?_|refine J9 ?_|(refine D5 (ht:=fun _=>?_) (hf:=fun _=>?_)<;>try first|contradiction|omega))
   rw[V5, <-heD];obtain⟨I5,hle5,hm5,hr5⟩:=hm.freeze;exact⟨I5,[],⟨rfl,da,dp,rfl,hr5⟩,hm5⟩
 ·skip
  repeat' (first|refine O0 (d:=21) ?_ (hr:=hri);intro bt ot hpt;rw[show ((i:Int).toNat *10)=i *10 from rfl,hcs]at hpt|refine J5 ?_ hm|refine D8 ?_|refine D6 ?_|refine L8 ?_|refine J6 ?_|refine A04 ?_|refine A0y ?_|refine G7 ?_|refine C9 ?_|(refine N8 (h1:=fun _=>?_) (h0:=fun _=>?_)<;>try first|contradiction|omega)|refine D9 ?_|refine A7 ?_|refine G8 ?_|refine E8 ?_|refine A8 ?_|refine H8 ?_|refine J9 ?_|(refine D5 (ht:=fun _=>?_) (hf:=fun _=>?_)<;>try first|contradiction|omega))
  have he:B0D its i= []:=by rw[B0D,hk2 k2];rfl
  rw[he];obtain⟨I4,hle4,hm4,hrow⟩:=(hm.nil 85 4).freeze;exact⟨I4,[],⟨rfl,none,0,rfl,hrow⟩,hm4.left (H:= [])⟩
abbrev A8u (l:Sp.Lc):List Value:= [str l.name,nt l.at_]
abbrev C3m (sc:List Sp.Lc) (sa:Option Addr) (sp:Nat):HItem:=.row (.slice sa sc.length sp) 213 2 sc.length (sc.flatMap A8u)
abbrev C6P (bf:Nat) (pi:Value) (sc:List Sp.Lc) (sa:Option Addr) (sp:Nat) (s:Sp.FW) (da:Option Addr) (dp:Nat) (vf:Value) (at_:Int):List Value:=
 [ptr bf,pi,.slice sa sc.length sp,.slice da s.ds.length dp,vf,.int .i64 at_,.bool s.hv.isSome,nt (s.hv.getD 0)]
abbrev C8g (bc bf:Nat) (pi:Value) (sc:List Sp.Lc) (sa:Option Addr) (sp:Nat) (s:Sp.FW) (da:Option Addr) (dp:Nat) (vf:Value) (at_:Int):HItem:=
 .obj bc (.cells (C6P bf pi sc sa sp s da dp vf at_).toArray 168 (0,0))
abbrev FSt (bc bf:Nat) (pi:Value) (sc:List Sp.Lc) (sa:Option Addr) (sp:Nat) (s:Sp.FW) (da:Option Addr) (dp:Nat) (vf:Value) (at_:Int):List HItem:=
 [C8g bc bf pi sc sa sp s da dp vf at_,C3m sc sa sp,A39 s.ds da dp]
abbrev ToF (bc bf:Nat) (pi:Value) (vf:Value) (at_:Int) (sc:List Sp.Lc) (s:Sp.FW) (val:Value):Value->P6->List HItem->Prop:=
 fun v _ H'=>v=val/\∃sa sp da dp,H'=FSt bc bf pi sc sa sp s da dp vf at_
structure FRd (J:P6) (bc bf:Nat) (pi:Value) (sc:List Sp.Lc) (sa:Option Addr) (sp:Nat) (v3 v4 v5 v6 v7:Value):Prop where
 ptr:PtrI J bc 0 168 [ptr bf,pi,.slice sa sc.length sp,v3,v4,v5,v6,v7]
 row:RowI J 213 2 (.slice sa sc.length sp) sc.length (sc.flatMap A8u)
theorem FRd.le {I J:P6} (m:Le I J) {bc bf:Nat}{pi:Value}{sc:List Sp.Lc}{sa:Option Addr}{sp:Nat}{v3 v4 v5 v6 v7:Value} (h:FRd I bc bf pi sc sa sp v3 v4 v5 v6 v7):FRd J bc bf pi sc sa sp v3 v4 v5 v6 v7:=⟨h.ptr.le m,h.row.le m⟩
section
variable {I:P6}{bc bf sp dp:Nat}{pi vf:Value}{sc:List Sp.Lc}{sa da:Option Addr}{s:Sp.FW}{at_:Int}
theorem CalR.flow {f:FuncId}{args:Array Value}{v:Value} (h:∀J,Le I J->FRd J bc bf pi sc sa sp (.slice da s.ds.length dp) vf (.int .i64 at_) (.bool s.hv.isSome) (nt (s.hv.getD 0))->CalR prog f args J [] v):
  CalR prog f args I (FSt bc bf pi sc sa sp s da dp vf at_) v:=
 CalR.of fun w J hm hl hH hJ=>by
  have h1:=A7m (hH (C8g bc bf pi sc sa sp s da dp vf at_) (by simp));have h2:=B4A (hH (C3m sc sa sp) (by simp));rw[<-hJ]at h1 h2;exact(h J hl ⟨h1,h2⟩).run w hm.inv (fun _ h=>by cases h)
theorem B8G {J:P6}{v3 v4 v5 v6 v7:Value} (n:List UInt8) (hs:sc.length<=1099511627776) (h:FRd J bc bf pi sc sa sp v3 v4 v5 v6 v7):CalR prog 179 #[ptr bc,str n] J [] (nt (A80 sc n)):=by
 refine CalR.of fun w K hm hl _ _=>enter (N:=34) func179 rfl [(0,ptr bc),(1,str n)] A0T rfl ?_
 obtain⟨hp,hr⟩:=h.le hl;repeat' (first|refine J5 ?_ hm|refine D8 ?_|refine D6 ?_|refine G7 ?_|refine E5 ?_|refine A3i ?_|refine C9 ?_|refine D9 ?_|refine A7 ?_|refine E8 ?_|refine A8 ?_|refine F5 ?_)
 refine U2 (fun k:Nat=> [(0,ptr bc),(1,str n),(5,.int .i64 ((k:Int)-1))]) (fun k w'=>Mem ⟨w,[],K⟩ K [] w'/\k<=sc.length/\A1A sc n=A1A (sc.take k) n) (fun k=>k) sc.length (by exact⟨rfl,rfl,rfl,trivial⟩) ⟨hm,G9 _,by rw[V5]⟩ ?_
 clear hm;rintro k w1 ⟨hm,hk,hf⟩;try dsimp only at hm hk hf |-
 by_cases h0:0<k
 ·have hg:sc[k-1]?=some sc[k-1]:=G6 (by omega)
  have hcut:=B8J n hg;rw[show k-1+1=k by omega]at hcut;generalize sc[k-1]=x at hg hcut;rw[hcut]at hf;have hi:sc[((k:Int)-1).toNat]?=some x:=by rw[show ((k:Int)-1).toNat=k-1 by omega];exact hg
  by_cases hx:x.name=n
  ·rw[if_pos hx]at hf
   repeat' (first|refine Q9 (d:=21) (enc:=A8u) (z:=x) ?_ (hr:=hr) (he:=fun _=>rfl) (hz:=hi);intro b1 o1 p1|refine Q9 (d:=31) (enc:=A8u) (z:=x) ?_ (hr:=hr) (he:=fun _=>rfl) (hz:=hi);intro b2 o2 p2|refine J5 ?_ hm|refine D8 ?_|refine D6 ?_|refine A04 ?_|refine V9 ?_|refine E5 ?_|refine C9 ?_|refine D9 ?_|refine A7 ?_|refine G8 ?_|refine O1 ?_|refine E8 ?_|refine A8 ?_|refine F5 ?_|refine G5 ?_|refine H8 ?_|refine J9 ?_|(refine D5 (ht:=fun _=>?_) (hf:=fun _=>?_)<;>try first|contradiction|omega))
   exact⟨by rw[A80,hf],hm.kept⟩
  ·rw[if_neg hx]at hf
   repeat' (first|refine Q9 (d:=21) (enc:=A8u) (z:=x) ?_ (hr:=hr) (he:=fun _=>rfl) (hz:=hi);intro b1 o1 p1|refine J5 ?_ hm|refine D8 ?_|refine D6 ?_|refine A04 ?_|refine V9 ?_|refine E5 ?_|refine A3i ?_|refine C9 ?_|refine D9 ?_|refine A7 ?_|refine D7 ?_|refine E8 ?_|refine A8 ?_|refine F5 ?_|refine G5 ?_|(refine D5 (ht:=fun _=>?_) (hf:=fun _=>?_)<;>try first|contradiction|omega))
   refine L9 (k-1:Nat) (by exact⟨rfl,rfl,by rw[show (((k-1:Nat):Int)-1)=(k:Int)-1-1 by omega];rfl,trivial⟩) ⟨hm,by omega,hf⟩ (by omega)
 ·obtain rfl:k=0:=by omega
  repeat' (first|refine D8 ?_|refine D6 ?_|refine A04 ?_|refine D9 ?_|refine A7 ?_|refine H9 ?_|refine H5 ?_|refine E8 ?_|refine A8 ?_|refine P9 ?_|refine H8 ?_|refine J9 ?_|refine F7 ?_)
  exact⟨by rw[A80,hf];rfl,hm.kept⟩
theorem C17 (bc bf:Nat) (pi:Value) (sc:List Sp.Lc) (sa:Option Addr) (sp:Nat) (s:Sp.FW) (f t:Nat) (n:List UInt8) (da:Option Addr) (dp:Nat) (vf:Value) (at_:Int):
  [.obj bc (.cells [ptr bf,pi,.slice sa sc.length sp,.slice da (s.ds.length+1) dp,vf,.int .i64 at_,.bool s.hv.isSome,nt (s.hv.getD 0)].toArray 168 (0,0)),C3m sc sa sp,.row (.slice da (s.ds.length+1) dp) 85 4 (s.ds.length+1) (s.ds.flatMap A5G++A5G ⟨f,t,9,n⟩)]=FSt bc bf pi sc sa sp (s.tell f t n) da dp vf at_:=by
 simp[Sp.FW.tell]
theorem B8H (n:List UInt8) (f t:Nat) (hd:s.ds.length<1099511627776):
  CalM prog 199 #[ptr bc,nt f,nt t,str n] I (FSt bc bf pi sc sa sp s da dp vf at_) (ToF bc bf pi vf at_ sc (s.tell f t n) (.tuple #[])):=by
 refine CalM.of fun w E hm=>enter (N:=21) func199 rfl [(0,ptr bc),(1,nt f),(2,nt t),(3,str n)] B2R rfl ?_
 repeat' (first|refine A2l (d:=18) ?_ hm;clear hm;intro a18 cp18 _ _ hm;try simp only[F9]at hm|refine J4 ?_ hm|refine O6 hm (k:=?_);clear hm;intro _ hm;try simp only[F9]at hm|refine D8 ?_|refine E5 ?_|refine C9 ?_|refine Q3 ?_|refine D9 ?_|refine A8 ?_|refine X0 ?_)
 exact⟨I,_,⟨rfl,_,_,_,_,C17 _ _ _ _ _ _ s f t n _ _ _ _⟩,hm⟩
theorem C8O (x:Sp.Stm) (b o tc:Nat) (cs:List Value) (hp:PtrI I b o tc cs) (hx:A5j I x cs) (a c:Nat) (ha:a<256) (hc:c<256) (hd:s.ds.length<1099511627776):
  CalM prog 178 #[ptr bc,.pointer (some ⟨b,o,none⟩),nt a,nt c] I (FSt bc bf pi sc sa sp s da dp vf at_) (ToF bc bf pi vf at_ sc (s.ask a c x.fr x.to x.name) (.tuple #[])):=by
 refine CalM.of fun w E hm=>enter (N:=26) func178 rfl [(0,ptr bc),(1,.pointer (some ⟨b,o,none⟩)),(2,nt a),(3,nt c)] B2R rfl ?_
 obtain⟨ea,ec,ex,a1,c1,xs1,a2,c2,xs2,rfl,_⟩:=hx.out;have hF:=fun w=>B5b a c ha hc w
 rw[Sp.FW.ask];cases hb:B1V a c with
 |true=>
  rw[hb]at hF;repeat' (first|refine A0k (d:=10) (hc:=by exact hF _) (k:=?_);rintro _ _ ⟨rfl,rfl⟩|refine D8 ?_|refine Y9 ?_|refine D9 ?_|refine A7 ?_|refine E8 ?_|refine A8 ?_|refine G5 ?_|refine X0 ?_|refine F7 ?_)
  exact⟨I,_,⟨rfl,_,_,_,_,rfl⟩,hm⟩
 |false=>
  rw[hb]at hF;have hT:=fun J=>B8H (I:=J) (bc:=bc) (bf:=bf) (pi:=pi) (sc:=sc) (sa:=sa) (sp:=sp) (s:=s) (da:=da) (dp:=dp) (vf:=vf) (at_:=at_) x.name x.fr x.to hd
  repeat' (first|refine A0k (d:=10) (hc:=by exact hF _) (k:=?_);rintro _ _ ⟨rfl,rfl⟩|refine V7 (id:=1) 13 (h:=?_)|refine F6 (d:=25) ?_ hm (hc:=hT _);clear hm;rintro _ I2 _ _ ⟨rfl,sa2,sp2,da2,dp2,rfl⟩ hle hm;have hleI2:=hle;try simp only[F9]at hm|refine A0q ?_ hm|refine D8 ?_|refine Y9 ?_|refine D9 ?_|refine A7 ?_|refine E8 ?_|refine A8 ?_|refine X0 ?_|refine A0e ?_;intro _ hkq;replace hm:=hm.kept0 hkq;clear hkq|refine H6 ?_|refine X5 ?_|refine O8 ?_|refine L6 ?_)
  exact⟨I2,_,⟨rfl,_,_,_,_,rfl⟩,hm⟩
end
structure FC (I:P6) (its:List Sp.Itm) (it:Sp.Itm) (bf:Nat) (a:Option Addr) (cp:Nat) (xs:List Value) (pi vf:Value):Prop where
 file:PtrI I bf 0 25 [.slice a its.length cp]
 fe:FE I its a cp xs
 item:∃bi oi tc ci,pi=.pointer (some ⟨bi,oi,none⟩)/\PtrI I bi oi tc ci/\A5W I it ci
 floors:∃fa fp,vf=.slice fa its.length fp/\RowI I 3 1 (.slice fa its.length fp) its.length ((A4W its).flatMap A1t)
 lab:A26 its
 own:it.label<256
theorem FC.le {I J:P6} (m:Le I J) {its:List Sp.Itm}{it:Sp.Itm}{bf:Nat}{a:Option Addr}{cp:Nat}{xs:List Value}{pi vf:Value} (h:FC I its it bf a cp xs pi vf):FC J its it bf a cp xs pi vf:=by
 obtain⟨h1,h2,⟨bi,oi,tc,ci,e,h3,h4⟩,⟨fa,fp,e2,h5⟩,h6,h7⟩:=h;exact⟨h1.le m,h2.le m,⟨bi,oi,tc,ci,e,h3.le m,h4.le m⟩,⟨fa,fp,e2,h5.le m⟩,h6,h7⟩
end Go.Proofs
