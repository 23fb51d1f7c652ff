/- Own work. -/
import Derived.Test.YtfgmppgjopchoaaGreatDoorSw13
set_option maxHeartbeats 64000000
namespace Go.Sp
theorem C5O (o:Lab) (sc:List Li) (n:List UInt8):A9e (A71 o sc) n=(match A3B sc n with|some l=>l.val o|none=>0):=by
 rw[A9e,B4Q];cases A3B sc n<;>rfl
theorem C2l (its:List Itm) (sc:List Lc) (e:Ex):A2E its sc e=if e.kind=2 then A9e sc e.name else if e.kind=3 then A1Y its sc e.args 0 else if e.kind=4 then A3f its e.name else 0:=by
 cases e;rw[A2E];rfl
theorem C5f {o:Lab}{f n:Nat}{l:Li} (h:l.op≠some f):l.val (upL o f n)=l.val o:=by
 rw[Li.val,Li.val];cases hop:l.op with
 |none=>rfl
 |some g=>
  show (if g=f then n else o g)=o g
  rw[if_neg (fun e=>h (by rw[hop,e]))]
theorem B3W (p:LP) (f a:Nat):(A30 p f a).1=upL p.1 f (p.1 f|||a):=by
 rw[A30];split
 ·rename_i h
  funext g
  show p.1 g=if g=f then _ else _
  rw[h];split
  ·rename_i e;rw[e]
  ·rfl
 ·rfl
theorem C5Y (y:Stm):y.lets=(if y.kind=1 then [y.fr] else [])++(A1c y.thn++A1c y.els):=by cases y;rw[Stm.lets];rfl
theorem B1Y (l:Li) (sc:List Li):A6j (l::sc)=l.op.toList++A6j sc:=by
 rw[A6j,List.filterMap_cons];cases l.op<;>rfl
structure Apart (sc:List Li) (y:Stm) (D:List Nat):Prop where
 rest:(A6j sc++D).Nodup
 thn:(A6j sc++A1c y.thn).Nodup
 els:(A6j sc++A1c y.els).Nodup
 out:y.kind=1->y.fr∉A6j sc
 next:y.kind=1->∀n lb,(A6j (sc++ [⟨n,lb,A8h y.opn y.fr⟩])++D).Nodup
theorem Apart.of {sc:List Li}{y:Stm}{D:List Nat} (h:(A6j sc++(y.lets++D)).Nodup):Apart sc y D:=by
 have e:=C5Y y;have sT:(A1c y.thn).Sublist y.lets:=by
  rw[e];exact(A75 _ _).trans (A73 _ _)
 have sE:(A1c y.els).Sublist y.lets:=by
  rw[e];exact(A73 _ _).trans (A73 _ _)
 refine⟨h.sublist ((A5y _).append (A73 _ _)),h.sublist ((A5y _).append (sT.trans (A75 _ _))),
  h.sublist ((A5y _).append (sE.trans (A75 _ _))),fun hk=>?_,fun hk n lb=>?_⟩
 ·intro hf
  rw[e,if_pos hk]at h;exact(A5z.1 h).2.2 _ hf _ (by simp) rfl
 ·rw[B5a]
  refine h.sublist ?_
  rw[O4];refine(A5y _).append (List.Sublist.append ?_ (A5y _))
  rw[e,if_pos hk];refine List.Sublist.trans ?_ (A75 _ _)
  show ((A8h y.opn y.fr).toList).Sublist [y.fr]
  rw[A8h];split
  ·exact A5y _
  ·exact List.nil_sublist _
end Go.Sp
namespace Go.Fw
open Go.Sp
theorem pmO {x y:HItem}{A B C:List HItem}:((B++(A++ []))++(x::y::C)).Perm (x::y::(C++(A++B))):=by
 rw[J3];have h1:((B++A)++(x::y::C)).Perm ((x::y::C)++(B++A)):=A0R;have h2:((x::y::C)++(B++A)).Perm ((x::y::C)++(A++B)):=(A0R (l₁:=B) (l₂:=A)).append_left _;exact h1.trans h2
end Go.Fw
namespace Go.Sp
theorem A7w (o:Lab) (l:List Stm):A2h o l=l.map (A97 o):=by
 induction l with
 |nil=>rw[A2h];rfl
 |cons x l ih=>rw[A2h,ih];rfl
theorem A4L (o:Lab) (l:List Stm):(A2h o l).length=l.length:=by rw[A7w,A0h]
theorem C1C (o:Lab) (l r:List Stm):A2h o (l++r)=A2h o l++A2h o r:=by rw[A7w,A7w,A7w,Y8]
theorem C3j {α:Type}{l:List α}{k:Nat}{x:α} (h:l[k]?=some x):l.drop k=x::l.drop (k+1):=by
 obtain⟨hk,e⟩:=A0y.1 h;rw[<-e];exact A6E hk
def B9s (o:Lab) (y:Stm):Nat:=if y.kind=1/\y.opn=true then o y.fr else y.label
def B9L (y:Stm):Bool:=if y.kind=1 then false else y.opn
theorem C3D (o:Lab) (y:Stm):A97 o y=.mk y.kind y.name y.at_ (B9s o y) (B9L y) y.e (A2h o y.thn) (A2h o y.els) y.fr y.to:=by cases y;rw[A97];rfl
end Go.Sp
namespace Go.Proofs
open Go.Proofs.Tryz
open Go.Sp
open Go.Fw
structure InE where
 k:Nat
 I:P7
section
variable {bd bf sp bo:Nat}{sc:List Loc}{o:Sp.Lab}{more:Bool}{sa:Option Addr}{zs:A1S}{its:List Sp.Itm}{a:Option Addr}{cp:Nat}{xs:List Value}
theorem C7D (hlab:A3b its) (hsl:A4O (A71 o (sc.map (·.1)))) (hl:sc.length<=1000000000):∀(n:Nat) (e:Sp.Ex),SizeOf.sizeOf e<=n->e.small->∀(I:P7) (b off tc:Nat) (ea:Option Addr) (ec:Nat) (ys:List Value),
  FE I its a cp xs->PtrI I bf 0 25 [.slice a its.length cp]->PtrI I b off tc (A0D e ea ec)->RowI I 125 6 (.slice ea e.args.length ec) e.args.length ys->Z4 I e.args ys->
  CalM prog 109 #[ptr bd,.pointer (some ⟨b,off,none⟩)] I (B0k bd bf sc o more sa sp bo zs) (fun v _ H'=>v=nt (A2E its (A71 o (sc.map (·.1))) e)/\H'=B0k bd bf sc o more sa sp bo zs):=by
 intro n;induction n with
 |zero=>intro e h;cases e;simp at h
 |succ n ih=>
 intro e hsz hsm I b off tc ea ec ys hfe hpf hp hr hx;obtain⟨hal,hasm⟩:=A31 hsm;have hfew:=hfe.few;refine CalM.of fun w E hm=>enter (N:=71) func109 rfl [(0,ptr bd),(1,.pointer (some ⟨b,off,none⟩))] A0T rfl ?_
 rw[C2l];by_cases k2:e.kind=2
 ·rw[if_pos k2,C5O]
  have hG:=C64 (bd:=bd) (bf:=bf) (sc:=sc) (o:=o) (more:=more) (sa:=sa) (sp:=sp) (bo:=bo) (zs:=zs) e.name I hl;repeat' (first|refine F6 (d:=19) ?_ hm (hp:=pm3_0) (hc:=hG);clear hm;rintro _ I2 _ w9 (⟨i,p,b2,hgi,hfl,rfl,rfl,rfl⟩|⟨hfl,bl,rfl,rfl⟩) hleI2 hm|refine A0W (i:=1) (d:=22) hm (by rfl) (by rfl) (by rfl) gt1 (by exact(B0X (o:=o) hgi).2.1) ?_|refine J4 ?_ hm|refine J5 ?_ hm|refine D8 ?_|refine D6 ?_|refine O0 ?_|refine E8 ?_|refine C9 ?_|refine D9 ?_|refine A7 ?_|refine D7 ?_|refine E5 ?_|refine A8 ?_|refine F5 ?_|refine H9 ?_|refine J9 ?_|(refine D5 (ht:=fun _=>?_) (hf:=fun _=>?_)<;>try first|contradiction|omega))
  all_goals rw[hfl]
  ·exact⟨I2,_,⟨rfl,rfl⟩,hm⟩
  ·exact⟨I2,_,⟨rfl,rfl⟩,Mem.tl hm⟩
 rw[if_neg k2];by_cases k3:e.kind=3
 ·rw[if_pos k3]
  repeat' (first|refine J5 ?_ hm|refine D8 ?_|refine D6 ?_|refine O0 ?_|refine G7 ?_|refine E8 ?_|refine C9 ?_|refine D9 ?_|refine A7 ?_|refine E5 ?_|refine A8 ?_|refine F5 ?_|(refine D5 (ht:=fun _=>?_) (hf:=fun _=>?_)<;>try first|contradiction|omega))
  refine U0 (fun x:InE=> [(0,ptr bd),(1,.pointer (some ⟨b,off,none⟩)),(5,nt (A1Y its (A71 o (sc.map (·.1))) (e.args.take x.k) 0)),(29,nt e.args.length),(30,nt x.k)])
   (fun x w'=>Mem E x.I (B0k bd bf sc o more sa sp bo zs) w'/\Le I x.I/\x.k<=e.args.length) (fun x=>e.args.length-x.k) ⟨0,I⟩
   (by dsimp only;rw[A0a,A1Y];exact⟨rfl,rfl,rfl,rfl,rfl,trivial⟩) ⟨hm,Le.refl _,H7 _⟩ ?_
  clear hm;rintro⟨k,I2⟩ w2 ⟨hm,hle2,hk⟩;dsimp only at hm hle2 hk |-;have hp2:=hp.le hle2;have hrow:=hr.le hle2;have hlt1:=A8l hlab hsl (e.args.take k) 0 (by omega);by_cases hlt:k<e.args.length
  ·have hg:e.args[k]?=some e.args[k]:=G6 hlt
   have hsz2:=A2r (O6 hlt);have hsm2:=A1N hasm hg;obtain⟨ea2,ec2,ys2,hc2,hr2,hx2⟩:=(hx.get hg).out;have hst:=B1d its (A71 o (sc.map (·.1))) hg 0;generalize e.args[k]=y at hg hsz2 hsm2 hc2 hr2 hx2 hst;have hlt2:=A4N hlab hsl y;have hc:=fun (b3 o3:Nat) (hp3:PtrI I2 b3 o3 125 (A0D y ea2 ec2))=>ih y (by omega) hsm2 I2 b3 o3 125 ea2 ec2 ys2 (hfe.le hle2) (hpf.le hle2) hp3 (hr2.le hle2) (Z4.le hle2 _ _ hx2)
   generalize A2E its (A71 o (sc.map (·.1))) y=ny at hc hst hlt2;generalize A1Y its (A71 o (sc.map (·.1))) (e.args.take k) 0=nk at hst hlt1 |-;have hJ:=fun (J:P7)=>C3W J nk ny hlt1 hlt2
   repeat' (first|refine N7 (d:=40) ?_ (hr:=hrow);intro bt ot hpt;rw[show ((k:Int).toNat *6)=k *6 from rfl,hc2]at hpt|refine F6 (d:=41) ?_ hm (hp:=pm3_0) (hc:=hc bt ot hpt);clear hm;rintro _ I3 _ _ ⟨rfl,rfl⟩ hleI3 hm;try simp only[F8]at hm|refine U1 (d:=42) ?_ hm (hc:=hJ _);clear hm;intro _ hm|refine J5 ?_ hm|refine D8 ?_|refine D6 ?_|refine J6 ?_|refine E8 ?_|refine P5 ?_|refine C9 ?_|refine D9 ?_|refine A7 ?_|refine D7 ?_|refine E5 ?_|refine A8 ?_|refine F5 ?_|refine G5 ?_|(refine D5 (ht:=fun _=>?_) (hf:=fun _=>?_)<;>try first|contradiction|omega))
   rw[<-hst];exact L8 (⟨k+1,I3⟩:InE) (by exact⟨rfl,rfl,rfl,rfl,rfl,trivial⟩) ⟨hm,hle2.trans hleI3,by dsimp only;omega⟩ (by dsimp only;omega)
  ·obtain rfl:k=e.args.length:=by omega
   rw[V7];repeat' (first|refine D8 ?_|refine D6 ?_|refine J6 ?_|refine D9 ?_|refine A7 ?_|refine H8 ?_|refine D7 ?_|refine G9 ?_|refine E5 ?_|refine A8 ?_|refine P8 ?_|refine H9 ?_|refine J9 ?_|(refine D5 (ht:=fun _=>?_) (hf:=fun _=>?_)<;>try first|contradiction|omega))
   exact⟨I2,_,⟨rfl,rfl⟩,hm⟩
 rw[if_neg k3];by_cases k4:e.kind=4
 ·rw[if_pos k4,A3f]
  have hF:=A7n 2 e.name its I a cp xs hfe;have hri:=hfe.row;cases hf:A00 its 2 e.name with
  |some j=>
   rw[show A4f its 2 e.name=(j:Int) by rw[A4f,hf]]at hF;obtain⟨hjl,_⟩:=A2F hf;have hg:its[j]?=some its[j]:=G6 hjl;have hno:A0t its j=its[j]:=by rw[A0t,O5,hg];rfl
   obtain⟨cs,hcs,hat,hl10⟩:=hfe.get hg;dsimp only
   rw[hno];generalize its[j]=it at hg hat
   obtain⟨ap,cp',as_,cs',ab,cb',ad,cd,xb,rfl,_⟩:=hat
   repeat' (first|refine A0p (id:=12) (hm.perm pm0) [0,1,2,3,4,5,6,7,8,9] [10] 11 (h:=?_);clear hm;intro wd hR hm|refine A1Z (d:=51) ?_ hR (hp:=hpf)|refine U9 (d:=56) ?_ hm (hc:=hF);clear hm;rintro _ I2 _ _ ⟨rfl,rfl⟩ hle hm;have hleI2:=hle;try simp only[F8]at hm|refine N7 (d:=67) ?_ (hr:=hri.le hleI2);intro bt ot hpt;rw[show ((j:Int).toNat *10)=j *10 from rfl,hcs]at hpt|refine A1B (d:=65) ?_ hm (hp:=hpf.le hleI2)|refine Y9 ?_ hR|refine A0d ?_ hR|refine A0A ?_;replace hm:=hR.back hm;clear hR;try simp only[F8]at hm|refine J4 ?_ hm|refine J5 ?_ hm|refine D8 ?_|refine D6 ?_|refine A04 ?_|refine O0 ?_|refine E8 ?_|refine C9 ?_|refine D9 ?_|refine A7 ?_|refine D7 ?_|refine E5 ?_|refine A8 ?_|refine F5 ?_|refine H9 ?_|refine J9 ?_|refine H5 ?_|(refine D5 (ht:=fun _=>?_) (hf:=fun _=>?_)<;>try first|contradiction|omega)|refine Z5 ?_|refine O7 ?_|refine L6 ?_|refine A0c ?_)
   exact⟨I2,_,⟨rfl,rfl⟩,hm⟩
  |none=>
   rw[show A4f its 2 e.name= -1 by rw[A4f,hf]]at hF;repeat' (first|refine A0p (id:=12) (hm.perm pm0) [0,1,2,3,4,5,6,7,8,9] [10] 11 (h:=?_);clear hm;intro wd hR hm|refine A1Z (d:=51) ?_ hR (hp:=hpf)|refine U9 (d:=56) ?_ hm (hc:=hF);clear hm;rintro _ I2 _ _ ⟨rfl,rfl⟩ hle hm;have hleI2:=hle;try simp only[F8]at hm|refine Y9 ?_ hR|refine A0d ?_ hR|refine A0A ?_;replace hm:=hR.back hm;clear hR;try simp only[F8]at hm|refine J5 ?_ hm|refine D8 ?_|refine D6 ?_|refine A04 ?_|refine O0 ?_|refine E8 ?_|refine C9 ?_|refine D9 ?_|refine A7 ?_|refine D7 ?_|refine E5 ?_|refine A8 ?_|refine F5 ?_|refine G5 ?_|refine H9 ?_|refine J9 ?_|refine F7 ?_|(refine D5 (ht:=fun _=>?_) (hf:=fun _=>?_)<;>try first|contradiction|omega)|refine Z5 ?_|refine O7 ?_|refine L6 ?_|refine A0c ?_)
   exact⟨I2,_,⟨rfl,rfl⟩,hm⟩
 ·rw[if_neg k4]
  repeat' (first|refine J5 ?_ hm|refine D8 ?_|refine D6 ?_|refine O0 ?_|refine E8 ?_|refine C9 ?_|refine D9 ?_|refine A7 ?_|refine D7 ?_|refine E5 ?_|refine A8 ?_|refine F5 ?_|refine G5 ?_|refine H9 ?_|refine J9 ?_|(refine D5 (ht:=fun _=>?_) (hf:=fun _=>?_)<;>try first|contradiction|omega))
  exact⟨I,_,⟨rfl,rfl⟩,hm⟩
end
theorem B83 {o:Sp.Lab}{f n:Nat}:∀ {sc:List Loc},f∉A6j (sc.map (·.1))->sc.flatMap (A4d (Sp.upL o f n))=sc.flatMap (A4d o)
 | [],_=>rfl
 |p::sc,h=>by
  rw[X7,B1Y]at h;have h1:p.1.op≠some f:=fun e=>h (by rw[e];exact A1x _ Q5)
  rw[A0b,A0b,B83 (fun hf=>h (A1P _ hf))];show [str p.1.name,nt (p.1.val _),p.2]++_=_
  rw[C5f h1]
theorem C1x {p:Sp.LP}{op:Option Nat}{a:Nat}{sc:List Loc} (h:∀f,op=some f->f∉A6j (sc.map (·.1))):sc.flatMap (A4d (A4I p op a).1)=sc.flatMap (A4d p.1):=by
 cases op with
 |none=>rfl
 |some f=>
  show sc.flatMap (A4d (A30 p f a).1)=_
  rw[B3W,B83 (h f rfl)]
theorem C0B {o:Sp.Lab}{f n:Nat}:∀ {sc:List Loc}{i:Nat}{p:Loc},sc[i]?=some p->p.1.op=some f->(A6j (sc.map (·.1))).Nodup->(sc.flatMap (A4d o)).set (i *3+1) (nt n)=sc.flatMap (A4d (Sp.upL o f n))
 | [],i,p,h,_,_=>by simp at h
 |q::sc,0,p,h,hop,hn=>by
  simp only[A0z,U4]at h;subst h;rw[X7,B1Y,hop]at hn;have h1:f∉A6j (sc.map (·.1)):=(List.nodup_cons.1 hn).1;rw[A0b,A0b,B83 h1];have e:q.1.val (Sp.upL o f n)=n:=by
   rw[Sp.Li.val,hop];show (if f=f then n else o f)=n
   rw[if_pos rfl]
  show _= [str q.1.name,nt (q.1.val _),q.2]++_
  rw[e];rfl
 |q::sc,i+1,p,h,hop,hn=>by
  rw[A0w]at h;rw[X7,B1Y]at hn;have hf:f∈A6j (sc.map (·.1)):=B72 (A5u (f:=(·.1)) (A0J h)) hop;have h1:q.1.op≠some f:=fun e=>by
   rw[e]at hn;exact(List.nodup_cons.1 hn).1 hf
  have ih:=C0B (o:=o) (n:=n) h hop (A5z.1 hn).2.1;rw[A0b,A0b, <-ih,show (i+1) *3+1=i *3+1+3 by omega];have e:A4d (Sp.upL o f n) q=A4d o q:=by
   show [str q.1.name,nt (q.1.val _),q.2]=_
   rw[C5f h1]
  rw[e];rfl
theorem B5J (o:Sp.Lab):∀(sc:List Loc),(sc.flatMap (A4d o)).length=sc.length *3
 | []=>rfl
 |p::sc=>by
  have ih:=B5J o sc;rw[A0b,E9,ih];show 3+sc.length *3=(sc.length+1) *3
  omega
theorem C4Q {I:P7}{x:Sp.Stm}{b o tc ec:Nat}{ea:Option Addr}{v1 v2:Value} (hp:PtrI I b o tc (A2N x.kind x.name x.at_ x.label x.opn x.e ea ec v1 v2 x.fr x.to)):PtrI I b (o+5) tc (A0D x.e ea ec):=
 hp.sub (cs':=A0D x.e ea ec) 5 (fun j u hj=>by
  match j,hj with
  |0,hj=>exact hj
  |1,hj=>exact hj
  |2,hj=>exact hj
  |3,hj=>exact hj
  |4,hj=>exact hj
  |5,hj=>exact hj
  |j+6,hj=>cases hj)
theorem _root_.Go.Fw.pmIc {r c f m:HItem}: [r,c,f,m].Perm [c,f,r,m]:=A0R (l₁:= [r]) (l₂:= [c,f])|>.append_right [m]
structure InX where
 k:Nat
 I:P7
 sc:List Loc
 p:Sp.LP
 sa:Option Addr
 sp:Nat
 zs:A1S
section
variable {bd bf bo:Nat}{its:List Sp.Itm}{a:Option Addr}{cp:Nat}{xs:List Value}
theorem C5S (hlab:A3b its):∀(n:Nat) (l:List Sp.Stm),SizeOf.sizeOf l<=n->l.length<=64->A0j l->Y0 B0O B08 l->∀(I:P7) (ab:Option Addr) (cb:Nat) (xb:List Value) (sc:List Loc) (un:Nat) (p:Sp.LP) (sa:Option Addr) (sp:Nat) (zs:A1S),
  un<256->Sp.okL p->B55 (sc.map (·.1))->sc.length+Q4 l<=1000000000->(A6j (sc.map (·.1))++A1c l).Nodup->(∀q∈sc,C1o I q.2 q.1.op)->OpenZ zs p.1->
  FE I its a cp xs->PtrI I bf 0 25 [.slice a its.length cp]->RowI I 127 15 (.slice ab l.length cb) l.length xb->X9 I l xb->
  CalM prog 80 #[ptr bd,.slice ab l.length cb,nt un] I (B0k bd bf sc p.1 p.2 sa sp bo zs) (fun v _ H'=>v=.tuple #[]/\∃sa' sp' zs',OpenZ zs' (A2d its l (sc.map (·.1)) un p).2.1/\
   H'=B0k bd bf sc (A2d its l (sc.map (·.1)) un p).2.1 (A2d its l (sc.map (·.1)) un p).2.2 sa' sp' bo zs'):=by
 intro n;induction n with
 |zero=>intro l h;cases l<;>simp at h
 |succ n ih=>
 intro l hsz hll hsm hall I ab cb xb sc un p sa sp zs hun hok0 hos0 hn hnd0 hat0 hz0 hfe hpf hr hx;refine CalM.of fun w E hm=>enter (N:=147) func80 rfl [(0,ptr bd),(1,.slice ab l.length cb),(2,nt un)] A3G rfl ?_
 repeat' (first|refine J4 ?_ hm|refine D8 ?_|refine D6 ?_|refine G7 ?_|refine E8 ?_|refine C9 ?_|refine D9 ?_|refine A7 ?_|refine E5 ?_|refine A8 ?_|refine F5 ?_)
 refine U0 (fun x:InX=> [(0,ptr bd),(1,.slice ab l.length cb),(2,nt un),(6,nt sc.length),(18,nt l.length),(19,nt x.k)])
  (fun x w'=>Mem E x.I (B0k bd bf x.sc x.p.1 x.p.2 x.sa x.sp bo x.zs) w'/\Le I x.I/\x.k<=l.length/\A2d its (l.take x.k) (sc.map (·.1)) un p=(x.sc.map (·.1),x.p)/\(∃r,x.sc=sc++r)/\x.sc.length<=sc.length+Q4 (l.take x.k)/\
   (A6j (x.sc.map (·.1))++A1c (l.drop x.k)).Nodup/\(∀q∈x.sc,C1o x.I q.2 q.1.op)/\OpenZ x.zs x.p.1) (fun x=>l.length-x.k) ⟨0,I,sc,p,sa,sp,zs⟩
  (by exact⟨rfl,rfl,rfl,rfl,rfl,rfl,trivial⟩) ⟨hm,Le.refl _,H7 _,by dsimp only;rw[A0a,A2d],⟨[],(J3 _).symm⟩,Nat.le_add_right _ _,by dsimp only;rw[A2o];exact hnd0,hat0,hz0⟩ ?_
 clear hm hnd0 hat0 hz0;rintro⟨k,I1,sc1,p1,sa1,sp1,zs1⟩ w1 ⟨hm,hle1,hk,hinv,⟨rr,hrr⟩,hscl,hnd,hats,hz⟩;dsimp only at hm hle1 hk hinv hrr hscl hnd hats hz |-;have hok:=A60 hlab (l.take k) (A8w k hall) hok0 hos0 hun;rw[hinv]at hok;obtain⟨hokp,hoks⟩:=hok;dsimp only at hokp hoks;by_cases hlt:k<l.length
 ·have hg:l[k]?=some l[k]:=G6 hlt
  have hme:=A3A (O6 hlt);obtain⟨cs,hcs⟩:∃cs,(xb.drop (k *15)).take 15=cs:=⟨_,rfl⟩;have hat:=hx.get hg;rw[hcs]at hat
  have hsm2:=A1K hsm hg;have hal2:=A4P hall hg;rw[A6E hlt,A1c]at hnd;generalize l[k]=y at hg hme hat hsm2 hal2 hnd;have hst:=B97 its hg (sc.map (·.1)) un p;have hcy:=A4v hg;rw[hinv,C6F]at hst;dsimp only at hst;have hap:=Sp.Apart.of hnd;obtain⟨s1,s2,s3,s4,s5⟩:=A1V hsm2;obtain⟨n1,n2,n3,n4⟩:=Sp.Stm.all_node hal2;obtain⟨z1,z2⟩:=A54 (s:=y);have hcnt:=Sp.Stm.cnt_eq y;have hcs1:Q4 (l.take (k+1))=Q4 (l.take k)+y.cnt:=by rw[Q9 hg,A2O,A4Q]
  obtain⟨ea,ec,ex,a1',c1,xs1,a2',c2,xs2,rfl,hr3,hx3,hr4,hx4,hr5,hx5⟩:=hat.out;have hrow:=hr.le hle1;have hfe1:=hfe.le hle1;have hpf1:=hpf.le hle1;have hsl:=B3E hokp hoks;have hE:=fun (b3 o3:Nat) (hp3:PtrI I1 b3 o3 127 (A0D y.e ea ec))=>C7D (bd:=bd) (bf:=bf) (sc:=sc1) (o:=p1.1) (more:=p1.2) (sa:=sa1) (sp:=sp1) (bo:=bo) (zs:=zs1) hlab hsl (by omega) _ y.e (H6 _) s1 I1 b3 o3 127 ea ec ex hfe1 hpf1 hp3 (hr3.le hle1) (Z4.le hle1 _ _ hx3)
  have hav0:=A4N hlab hsl y.e;generalize A2E its (A71 p1.1 (sc1.map (·.1))) y.e=a0 at hE hav0 hst;have hJ:=fun (J:P7)=>C3W J a0 un hav0 hun
  have hav:=B0d hav0 hun;generalize a0|||un=av at hJ hav hst
  repeat' (first|refine N7 (d:=24) ?_ (hr:=hrow);intro bt ot hpt;rw[show ((k:Int).toNat *15)=k *15 from rfl,hcs]at hpt|refine F6 (d:=29) ?_ hm (hp:=pm3_0) (hc:=hE bt (ot+5) (C4Q hpt));clear hm;rintro _ I2 _ _ ⟨rfl,rfl⟩ hleI2 hm;try simp only[F8]at hm|refine U1 (d:=31) ?_ hm (hc:=hJ _);clear hm;intro _ hm|refine A0K 6 ?_|refine D8 ?_|refine D6 ?_|refine J6 ?_|refine E8 ?_|refine C9 ?_|refine D9 ?_|refine A7 ?_|refine E5 ?_|refine A8 ?_|refine F5 ?_|refine G5 ?_|(refine D5 (ht:=fun _=>?_) (hf:=fun _=>?_)<;>try first|contradiction|omega))
  have hpt2:=hpt.le hleI2;have hle2:=hle1.trans hleI2;refine⟨?_⟩
  by_cases k1:y.kind=1
  ·rw[if_pos k1]at hst
   have hR:=B5P (bd:=bd) (bf:=bf) (sc:=sc1) (o:=p1.1) (more:=p1.2) (sa:=sa1) (sp:=sp1) (bo:=bo) (zs:=zs1) I2 (.pointer (some ⟨bt,ot,none⟩)) (A8h y.opn y.fr) p1.1 av hav (.inr ⟨bt,ot,_,ec,y,ea,_,_,rfl,hpt2,rfl⟩) hz hokp;rw[show ((p1.1,p1.2):Sp.LP)=p1 from rfl]at hR;have henc:sc1.flatMap (A4d (A4I p1 (A8h y.opn y.fr) av).1)=sc1.flatMap (A4d p1.1):=C1x (fun f hf=>by
    rw[A8h]at hf;split at hf
    ·cases hf;exact hap.out k1
    ·cases hf)
   have hnx:=hap.next k1 y.name y.label;generalize A4I p1 (A8h y.opn y.fr) av=q at hR henc hst;cases ho:y.opn with
   |true=>
    rw[ho]at hst hnx hpt2;repeat' (first|refine F6 (d:=41) ?_ hm (hp:=pm3_0) (hc:=hR);clear hm;rintro _ I3 _ _ ⟨rfl,zs3,hz3,rfl⟩ hleI3 hm;try simp only[F8]at hm;rw[<-henc]at hm;replace hpt2:=hpt2.le hleI3|refine A0p (id:=9) (hm.perm pm0) [0,1,2,3,4,5,6,7,8,9] [10] 11 (h:=?_);clear hm;intro wd hR hm|refine V9 (id:=11) 9 (h:=?_)|refine A8g (d:=64) hm (by rfl) (by rfl) (by rfl) (by rfl) gt3 A7h ?_;rw[hz3.get y.fr]|refine A0p (id:=12) (hm.perm pm1_2) [0,1,2,3,4,5] [6,7] 8 (h:=?_);clear hm;intro wd hR hm|refine A3j ?_ hR|refine Y9 ?_ hR|refine A0d ?_ hR|refine A33 (d:=10) ?_ hm;clear hm;intro b10 _ hm|refine A1X (d:=73) ?_ hm;clear hm;intro a73 cp73 _ _ hm;replace hm:=hR.back hm;clear hR;try simp only[F8]at hm|refine A0A ?_;replace hm:=hR.back hm;clear hR;try simp only[F8]at hm|refine J5 ?_ hm|refine V6 ?_ hm|refine A0m ?_ hm|refine N9 ?_ hm;clear hm;intro _ hm;try simp only[F8]at hm|refine O8 hm (k:=?_);clear hm;intro _ hm;try simp only[F8]at hm|refine D8 ?_|refine D6 ?_|refine O0 ?_|refine E8 ?_|refine P5 ?_|refine C9 ?_|refine D9 ?_|refine A7 ?_|refine D7 ?_|refine E5 ?_|refine A8 ?_|refine F5 ?_|refine A0f ?_;intro _ hkq;replace hm:=hm.kept0 hkq;clear hkq|refine H5 ?_|(refine D5 (ht:=fun _=>?_) (hf:=fun _=>?_)<;>try first|contradiction|omega)|refine X6 ?_|refine O9 ?_|refine L9 ?_|refine Z5 ?_|refine O7 ?_|refine L6 ?_|refine A2P ?_|refine A0c ?_)
    refine L8 (⟨k+1,I3,sc1++ [(⟨y.name,y.label,A8h true y.fr⟩,.pointer (some ⟨bt,ot,none⟩))],q,a73,cp73,zs3⟩:InX) (by exact⟨rfl,rfl,rfl,rfl,rfl,rfl,trivial⟩)
     ⟨?_,hle2.trans hleI3,by dsimp only;omega,by dsimp only;rw[hst,Y8];rfl,⟨rr++ [_],by dsimp only;rw[hrr,O4]⟩,by dsimp only;rw[E9];show _+1<=_;omega,by dsimp only;rw[Y8];exact hnx,fun q' hq'=>?_,hz3⟩ (by dsimp only;omega)
    ·dsimp only[B0k]
     rw[Y3,E9];exact(hm.perm pmIc).tl
    ·rcases Z9.1 hq' with h|h
     ·exact((hats q' h).le hleI2).le hleI3
     ·obtain rfl:=A0B.1 h
      exact .inr ⟨bt,ot,_,ec,y,ea,_,_,rfl,by rw[ho];exact hpt2,by rw[ho]⟩
   |false=>
    rw[ho]at hst hnx hpt2;repeat' (first|refine F6 (d:=41) ?_ hm (hp:=pm3_0) (hc:=hR);clear hm;rintro _ I3 _ _ ⟨rfl,zs3,hz3,rfl⟩ hleI3 hm;try simp only[F8]at hm;rw[<-henc]at hm;replace hpt2:=hpt2.le hleI3|refine A0p (id:=9) (hm.perm pm0) [0,1,2,3,4,5,6,7,8,9] [10] 11 (h:=?_);clear hm;intro wd hR hm|refine A0p (id:=12) (hm.perm pm1_2) [0,1,2,3,4,5] [6,7] 8 (h:=?_);clear hm;intro wd hR hm|refine A3j ?_ hR|refine Y9 ?_ hR|refine A0d ?_ hR|refine A33 (d:=10) ?_ hm;clear hm;intro b10 _ hm|refine A1X (d:=73) ?_ hm;clear hm;intro a73 cp73 _ _ hm;replace hm:=hR.back hm;clear hR;try simp only[F8]at hm|refine A0A ?_;replace hm:=hR.back hm;clear hR;try simp only[F8]at hm|refine J5 ?_ hm|refine N9 ?_ hm;clear hm;intro _ hm;try simp only[F8]at hm|refine O8 hm (k:=?_);clear hm;intro _ hm;try simp only[F8]at hm|refine D8 ?_|refine D6 ?_|refine O0 ?_|refine E8 ?_|refine P5 ?_|refine C9 ?_|refine D9 ?_|refine A7 ?_|refine D7 ?_|refine E5 ?_|refine A8 ?_|refine F5 ?_|refine G5 ?_|refine F7 ?_|(refine D5 (ht:=fun _=>?_) (hf:=fun _=>?_)<;>try first|contradiction|omega)|refine Z5 ?_|refine O7 ?_|refine L6 ?_|refine A2P ?_|refine A0c ?_)
    refine L8 (⟨k+1,I3,sc1++ [(⟨y.name,y.label,A8h false y.fr⟩,.pointer (some ⟨bt,ot,none⟩))],q,a73,cp73,zs3⟩:InX) (by exact⟨rfl,rfl,rfl,rfl,rfl,rfl,trivial⟩)
     ⟨?_,hle2.trans hleI3,by dsimp only;omega,by dsimp only;rw[hst,Y8];rfl,⟨rr++ [_],by dsimp only;rw[hrr,O4]⟩,by dsimp only;rw[E9];show _+1<=_;omega,by dsimp only;rw[Y8];exact hnx,fun q' hq'=>?_,hz3⟩ (by dsimp only;omega)
    ·dsimp only[B0k]
     rw[Y3,E9];exact(hm.perm pmIc).tl
    ·rcases Z9.1 hq' with h|h
     ·exact((hats q' h).le hleI2).le hleI3
     ·obtain rfl:=A0B.1 h
      exact .inr ⟨bt,ot,_,ec,y,ea,_,_,rfl,by rw[ho];exact hpt2,by rw[ho]⟩
  rw[if_neg k1]at hst;by_cases k2:y.kind=2
  ·rw[if_pos k2]at hst
   have hG:=C64 (bd:=bd) (bf:=bf) (sc:=sc1) (o:=p1.1) (more:=p1.2) (sa:=sa1) (sp:=sp1) (bo:=bo) (zs:=zs1) y.name I2 (by omega);repeat' (first|refine F6 (d:=83) ?_ hm (hp:=pm3_0) (hc:=hG);clear hm;rintro _ I3 _ w3 (⟨i,q,b2,hgi,hfl,hsa,rfl,rfl⟩|⟨hfl,bl,rfl,rfl⟩) hleI3 hm|refine A0K 15 ?_|refine J5 ?_ hm|refine D8 ?_|refine D6 ?_|refine O0 ?_|refine E8 ?_|refine C9 ?_|refine D9 ?_|refine A7 ?_|refine E5 ?_|refine A8 ?_|refine F5 ?_|(refine D5 (ht:=fun _=>?_) (hf:=fun _=>?_)<;>try first|contradiction|omega))
   ·subst hsa
    rw[B8j,hfl]at hst;dsimp only at hst;have hqm:=A0J hgi;have hA:=((hats q hqm).le hleI2).le hleI3;obtain⟨q1,q2,q3⟩:=B0X (o:=p1.1) hgi;have hR:=B5P (bd:=bd) (bf:=bf) (sc:=sc1) (o:=p1.1) (more:=p1.2) (sa:=some ⟨b2,0,none⟩) (sp:=sp1) (bo:=bo) (zs:=zs1) I3 q.2 q.1.op p1.1 av hav hA hz hokp;rw[show ((p1.1,p1.2):Sp.LP)=p1 from rfl]at hR;have hatn:=fun (J:P7) (m:Le I3 J) (q':Loc) (h:q'∈sc1)=>(((hats q' h).le hleI2).le hleI3).le m
    rcases hA with ⟨hv,hop⟩|⟨b9,o9,tc9,ec9,y9,ea9,v1,v2,hv,hp9,hop⟩
    ·rw[hop]at hR hst
     rw[show A4I p1 none av=p1 from rfl]at hR hst;rw[hv]at hR q3;refine⟨?_⟩
     repeat' (first|refine A0W (i:=1) (d:=88) hm (by rfl) (by rfl) (by rfl) gt1 (by exact q3) ?_|refine F6 (d:=90) ?_ hm (hp:=pm3_0) (hc:=hR);clear hm;rintro _ I4 _ _ ⟨rfl,zs4,hz4,rfl⟩ hleI4 hm;try simp only[F8]at hm|refine A0W (i:=1) (d:=94) hm (by rfl) (by rfl) (by rfl) gt1 (by exact q3) ?_|refine A5L (e:=127) (by kernel_rfl) (by rfl) (by rfl) (by rfl) (by rfl) ?_|refine D8 ?_|refine J8 ?_|refine E8 ?_|refine P5 ?_|refine C9 ?_|refine A0E ?_|refine D9 ?_|refine A7 ?_|refine D7 ?_|refine E5 ?_|refine A8 ?_|refine G5 ?_|refine F7 ?_)
     exact L8 (⟨k+1,I4,sc1,p1,some ⟨b2,0,none⟩,sp1,zs4⟩:InX) (by exact⟨rfl,rfl,rfl,rfl,rfl,rfl,trivial⟩)
      ⟨hm,(hle2.trans hleI3).trans hleI4,by dsimp only;omega,hst,⟨rr,hrr⟩,by dsimp only;omega,hap.rest,hatn I4 hleI4,hz4⟩ (by dsimp only;omega)
    ·rw[hv]at hR q3
     cases ho9:y9.opn with
     |false=>
      rw[ho9]at hop hp9;rw[hop]at hR hst;rw[show A4I p1 (A8h false y9.fr) av=p1 from rfl]at hR hst;refine⟨?_⟩
      repeat' (first|refine A0W (i:=1) (d:=88) hm (by rfl) (by rfl) (by rfl) gt1 (by exact q3) ?_|refine F6 (d:=90) ?_ hm (hp:=pm3_0) (hc:=hR);clear hm;rintro _ I4 _ _ ⟨rfl,zs4,hz4,rfl⟩ hleI4 hm;try simp only[F8]at hm;replace hp9:=hp9.le hleI4|refine A0W (i:=1) (d:=94) hm (by rfl) (by rfl) (by rfl) gt1 (by exact q3) ?_|refine A0W (i:=1) (d:=100) hm (by rfl) (by rfl) (by rfl) gt1 (by exact q3) ?_|refine A5L (e:=127) (by kernel_rfl) (by rfl) (by rfl) (by rfl) (by rfl) ?_|refine J5 ?_ hm|refine D8 ?_|refine O1 ?_|refine E8 ?_|refine P5 ?_|refine C9 ?_|refine D9 ?_|refine A7 ?_|refine D7 ?_|refine E5 ?_|refine A8 ?_|refine G5 ?_|refine F7 ?_)
      exact L8 (⟨k+1,I4,sc1,p1,some ⟨b2,0,none⟩,sp1,zs4⟩:InX) (by exact⟨rfl,rfl,rfl,rfl,rfl,rfl,trivial⟩)
       ⟨hm,(hle2.trans hleI3).trans hleI4,by dsimp only;omega,hst,⟨rr,hrr⟩,by dsimp only;omega,hap.rest,hatn I4 hleI4,hz4⟩ (by dsimp only;omega)
     |true=>
      rw[ho9]at hop hp9;rw[hop]at hR hst;rw[show A4I p1 (A8h true y9.fr) av=A30 p1 y9.fr av from rfl]at hR hst;have hset:(sc1.flatMap (A4d p1.1)).set (i *3+1) (nt ((A30 p1 y9.fr av).1 y9.fr))=sc1.flatMap (A4d (A30 p1 y9.fr av).1):=by
       rw[B3W];have e:Sp.upL p1.1 y9.fr (p1.1 y9.fr|||av) y9.fr=p1.1 y9.fr|||av:=by
        show (if y9.fr=y9.fr then _ else _)=_
        rw[if_pos rfl]
       rw[e];exact C0B hgi hop (A5z.1 hap.rest).1
      have hil:i *3+1<(sc1.flatMap (A4d p1.1)).length:=by
       rw[B5J];have:=(A0y.1 hgi).1;omega
      generalize A30 p1 y9.fr av=q9 at hR hst hset;refine⟨?_⟩
      repeat' (first|refine A0W (i:=1) (d:=88) hm (by rfl) (by rfl) (by rfl) gt1 (by exact q3) ?_|refine F6 (d:=90) ?_ hm (hp:=pm3_0) (hc:=hR);clear hm;rintro _ I4 _ _ ⟨rfl,zs4,hz4,rfl⟩ hleI4 hm;try simp only[F8]at hm;replace hp9:=hp9.le hleI4|refine A0W (i:=1) (d:=94) hm (by rfl) (by rfl) (by rfl) gt1 (by exact q3) ?_|refine A0W (i:=1) (d:=100) hm (by rfl) (by rfl) (by rfl) gt1 (by exact q3) ?_|refine A5L (e:=127) (by kernel_rfl) (by rfl) (by rfl) (by rfl) (by rfl) ?_|refine V9 (id:=17) 13 (h:=?_)|refine B9C (i:=1) (d:=113) hm (by rfl) (by rfl) (by rfl) gt1 (by exact q3) ?_|refine A8g (d:=117) hm (by rfl) (by rfl) (by rfl) (by rfl) gt2 A7h ?_;rw[hz4.get y9.fr]|refine A5Z (i:=1) hm (by rfl) (by rfl) (by rfl) (by rfl) gt1 (by rfl) (by rfl) hil ?_;clear hm;intro _ hm;try simp only[F8]at hm;rw[hset]at hm|refine J5 ?_ hm|refine V6 ?_ hm|refine A0m ?_ hm|refine D8 ?_|refine O1 ?_|refine E8 ?_|refine P5 ?_|refine C9 ?_|refine D9 ?_|refine A7 ?_|refine D7 ?_|refine E5 ?_|refine A8 ?_|refine A0f ?_;intro _ hkq;replace hm:=hm.kept0 hkq;clear hkq|refine H5 ?_|refine X6 ?_|refine O9 ?_|refine L9 ?_)
      exact L8 (⟨k+1,I4,sc1,q9,some ⟨b2,0,none⟩,sp1,zs4⟩:InX) (by exact⟨rfl,rfl,rfl,rfl,rfl,rfl,trivial⟩)
       ⟨hm,(hle2.trans hleI3).trans hleI4,by dsimp only;omega,hst,⟨rr,hrr⟩,by dsimp only;omega,hap.rest,hatn I4 hleI4,hz4⟩ (by dsimp only;omega)
   ·rw[B8j,hfl]at hst
    dsimp only at hst;have hR:=B5P (bd:=bd) (bf:=bf) (sc:=sc1) (o:=p1.1) (more:=p1.2) (sa:=sa1) (sp:=sp1) (bo:=bo) (zs:=zs1) I3 (.pointer none) none p1.1 av hav (.inl ⟨rfl,rfl⟩) hz hokp;rw[show ((p1.1,p1.2):Sp.LP)=p1 from rfl,show A4I p1 none av=p1 from rfl]at hR;refine⟨?_⟩
    repeat' (first|refine F6 (d:=90) ?_ hm (hp:=pm3_1) (hc:=hR);clear hm;rintro _ I4 _ _ ⟨rfl,zs4,hz4,rfl⟩ hleI4 hm;try simp only[F8]at hm|refine A5L (e:=127) (by kernel_rfl) (by rfl) (by rfl) (by rfl) (by rfl) ?_|refine J4 ?_ hm|refine D8 ?_|refine J8 ?_|refine E8 ?_|refine P5 ?_|refine C9 ?_|refine A0E ?_|refine D9 ?_|refine A7 ?_|refine D7 ?_|refine E5 ?_|refine A8 ?_|refine G5 ?_|refine F7 ?_)
    exact L8 (⟨k+1,I4,sc1,p1,sa1,sp1,zs4⟩:InX) (by exact⟨rfl,rfl,rfl,rfl,rfl,rfl,trivial⟩)
     ⟨hm.left (H:= [_,_,_]),(hle2.trans hleI3).trans hleI4,by dsimp only;omega,hst,⟨rr,hrr⟩,by dsimp only;omega,hap.rest,fun q' h=>(((hats q' h).le hleI2).le hleI3).le hleI4,hz4⟩ (by dsimp only;omega)
  rw[if_neg k2]at hst;by_cases k34:y.kind=3\/y.kind=4
  ·rw[if_pos k34]at hst
   have hT:=ih y.thn (by omega) s2 s3 n3 I2 a1' c1 xs1 sc1 av p1 sa1 sp1 zs1 hav hokp hoks (by omega) hap.thn (fun q' h=>(hats q' h).le hleI2) hz (hfe1.le hleI2) (hpf1.le hleI2) ((hr4.le hle1).le hleI2) (X9.le hleI2 _ _ (X9.le hle1 _ _ hx4));have hokT:=A60 hlab y.thn n3 hokp hoks hav;generalize (A2d its y.thn (sc1.map (·.1)) av p1).2=q3 at hT hokT hst;have hE2:=fun (J:P7) (m:Le I2 J) (sa:Option Addr) (sp:Nat) (zs:A1S) (hzz:OpenZ zs q3.1)=>ih y.els (by omega) s4 s5 n4 J a2' c2 xs2 sc1 av q3 sa sp zs hav hokT.1 hoks (by omega) hap.els (fun q' h=>((hats q' h).le hleI2).le m) hzz ((hfe1.le hleI2).le m) ((hpf1.le hleI2).le m) (((hr5.le hle1).le hleI2).le m) (X9.le m _ _ (X9.le hleI2 _ _ (X9.le hle1 _ _ hx5)))
   generalize (A2d its y.els (sc1.map (·.1)) av q3).2=q4 at hE2 hst;repeat' (first|refine F6 (d:=129) ?_ hm (hp:=pm3_0) (hc:=hT);clear hm;rintro _ I3 _ _ ⟨rfl,sa3,sp3,zs3,hz3,rfl⟩ hleI3 hm;try simp only[F8]at hm;replace hpt2:=hpt2.le hleI3|refine F6 (d:=136) ?_ hm (hp:=pm3_0) (hc:=hE2 I3 hleI3 sa3 sp3 zs3 hz3);clear hm;rintro _ I4 _ _ ⟨rfl,sa4,sp4,zs4,hz4,rfl⟩ hleI4 hm;try simp only[F8]at hm|refine J5 ?_ hm|refine D8 ?_|refine D6 ?_|refine O0 ?_|refine E8 ?_|refine P5 ?_|refine C9 ?_|refine D9 ?_|refine A7 ?_|refine D7 ?_|refine E5 ?_|refine A8 ?_|refine F5 ?_|refine G5 ?_|(refine D5 (ht:=fun _=>?_) (hf:=fun _=>?_)<;>try first|contradiction|omega))
   all_goals exact L8 (⟨k+1,I4,sc1,q4,sa4,sp4,zs4⟩:InX) (by exact⟨rfl,rfl,rfl,rfl,rfl,rfl,trivial⟩) ⟨hm,(hle2.trans hleI3).trans hleI4,by dsimp only;omega,hst,⟨rr,hrr⟩,by dsimp only;omega,hap.rest,fun q' h=>(((hats q' h).le hleI2).le hleI3).le hleI4,hz4⟩ (by dsimp only;omega)
  ·rw[if_neg k34]at hst
   repeat' (first|refine J5 ?_ hm|refine D8 ?_|refine D6 ?_|refine O0 ?_|refine E8 ?_|refine P5 ?_|refine C9 ?_|refine D9 ?_|refine A7 ?_|refine D7 ?_|refine E5 ?_|refine A8 ?_|refine F5 ?_|refine G5 ?_|(refine D5 (ht:=fun _=>?_) (hf:=fun _=>?_)<;>try first|contradiction|omega))
   exact L8 (⟨k+1,I2,sc1,p1,sa1,sp1,zs1⟩:InX) (by exact⟨rfl,rfl,rfl,rfl,rfl,rfl,trivial⟩)
    ⟨hm,hle2,by dsimp only;omega,hst,⟨rr,hrr⟩,by dsimp only;omega,hap.rest,fun q' h=>(hats q' h).le hleI2,hz⟩ (by dsimp only;omega)
 ·obtain rfl:k=l.length:=by omega
  rw[V7]at hinv;rw[hinv];have hpl:sc.length<=sc1.length:=by rw[hrr,E9];omega
  have htk:(sc1.flatMap (A4d p1.1)).take (sc.length *3)=sc.flatMap (A4d p1.1):=by
   rw[hrr,Y3, <-B5J p1.1 sc,List.take_left]
  repeat' (first|refine A9K (d:=144) ?_ hm (hmn:=hpl);clear hm;intro hm;try simp only[F8]at hm|refine J4 ?_ hm|refine O8 hm (k:=?_);clear hm;intro _ hm;try simp only[F8]at hm|refine D8 ?_|refine J6 ?_|refine E8 ?_|refine C9 ?_|refine D9 ?_|refine A7 ?_|refine H8 ?_|refine G9 ?_|refine E5 ?_|refine A8 ?_|refine P8 ?_|refine X4 ?_|(refine D5 (ht:=fun _=>?_) (hf:=fun _=>?_)<;>try first|contradiction|omega))
  rw[htk]at hm;exact⟨I1,_,⟨rfl,sa1,sp1,zs1,hz,rfl⟩,hm⟩
end
mutual
def StO (I:P7):Sp.Stm->List Value->List HItem->Prop
 | .mk k nm a lb o e thn els f t,cs,H=> ∃ea ec ex a1 c1 a2 c2 xs1 xs2 H1 H2,cs=A2N k nm a lb o e ea ec (.slice a1 thn.length c1) (.slice a2 els.length c2) f t/\
  RowI I 125 6 (.slice ea e.args.length ec) e.args.length ex/\Z4 I e.args ex/\
  H=(.row (.slice a1 thn.length c1) 127 15 thn.length xs1::H1)++(.row (.slice a2 els.length c2) 127 15 els.length xs2::H2)/\A1t I thn xs1 H1/\A1t I els xs2 H2
def A1t (I:P7):List Sp.Stm->List Value->List HItem->Prop
 | [],xs,H=>xs= []/\H= []
 |s::l,xs,H=> ∃c r H1 H2,xs=c++r/\H=H1++H2/\StO I s c H1/\A1t I l r H2
 end
def A8V (I:P7) (l:List Sp.Stm) (a:Option Addr) (c:Nat) (H:List HItem):Prop:= ∃xs Hs,H=.row (.slice a l.length c) 127 15 l.length xs::Hs/\A1t I l xs Hs
mutual
theorem StO.le {I J:P7} (m:Le I J):∀(s:Sp.Stm) (cs:List Value) (H:List HItem),StO I s cs H->StO J s cs H
 | .mk k nm a lb o e thn els f t,cs,H,h=>by
  rw[StO]at h |-;obtain⟨ea,ec,ex,a1,c1,a2,c2,xs1,xs2,H1,H2,h1,h2,h3,h4,h5,h6⟩:=h;exact⟨ea,ec,ex,a1,c1,a2,c2,xs1,xs2,H1,H2,h1,h2.le m,Z4.le m _ _ h3,h4,A1t.le m _ _ _ h5,A1t.le m _ _ _ h6⟩
theorem A1t.le {I J:P7} (m:Le I J):∀(l:List Sp.Stm) (xs:List Value) (H:List HItem),A1t I l xs H->A1t J l xs H
 | [],xs,H,h=>by rw[A1t]at h |-;exact h
 |s::l,xs,H,h=>by
  rw[A1t]at h |-;obtain⟨c,r,H1,H2,h1,h2,h3,h4⟩:=h;exact⟨c,r,H1,H2,h1,h2,StO.le m _ _ _ h3,A1t.le m _ _ _ h4⟩
 end
theorem A8V.le {I J:P7} (m:Le I J) {l:List Sp.Stm}{a:Option Addr}{c:Nat}{H:List HItem} (h:A8V I l a c H):A8V J l a c H:=by
 obtain⟨xs,Hs,h1,h2⟩:=h;exact⟨xs,Hs,h1,A1t.le m _ _ _ h2⟩
theorem StO.out {I:P7}{s:Sp.Stm}{cs:List Value}{H:List HItem} (h:StO I s cs H):∃ea ec ex a1 c1 a2 c2 H1 H2,cs=A2N s.kind s.name s.at_ s.label s.opn s.e ea ec (.slice a1 s.thn.length c1) (.slice a2 s.els.length c2) s.fr s.to/\
  RowI I 125 6 (.slice ea s.e.args.length ec) s.e.args.length ex/\Z4 I s.e.args ex/\H=H1++H2/\A8V I s.thn a1 c1 H1/\A8V I s.els a2 c2 H2:=by
 cases s with
 |mk k nm a lb o e thn els f t=>
  rw[StO]at h;obtain⟨ea,ec,ex,a1,c1,a2,c2,xs1,xs2,H1,H2,h1,h2,h3,h4,h5,h6⟩:=h;exact⟨ea,ec,ex,a1,c1,a2,c2,_,_,h1,h2,h3,h4,⟨xs1,H1,rfl,h5⟩,⟨xs2,H2,rfl,h6⟩⟩
theorem StO.of {I:P7}{k a lb f t ec c1 c2:Nat}{nm:List UInt8}{o:Bool}{e:Sp.Ex}{thn els:List Sp.Stm}{ea a1 a2:Option Addr}{ex:List Value}{H1 H2:List HItem}
  (h2:RowI I 125 6 (.slice ea e.args.length ec) e.args.length ex) (h3:Z4 I e.args ex) (h5:A8V I thn a1 c1 H1) (h6:A8V I els a2 c2 H2):
  StO I (.mk k nm a lb o e thn els f t) (A2N k nm a lb o e ea ec (.slice a1 thn.length c1) (.slice a2 els.length c2) f t) (H1++H2):=by
 obtain⟨xs1,G1,e1,g1⟩:=h5;obtain⟨xs2,G2,e2,g2⟩:=h6;rw[StO];exact⟨ea,ec,ex,a1,c1,a2,c2,xs1,xs2,G1,G2,rfl,h2,h3,by rw[e1,e2],g1,g2⟩
theorem C2y {I:P7}{s:Sp.Stm}{ea a1 a2:Option Addr}{ec c1 c2:Nat}{ex:List Value}{H1 H2:List HItem}
  (h2:RowI I 125 6 (.slice ea s.e.args.length ec) s.e.args.length ex) (h3:Z4 I s.e.args ex) (h5:A8V I s.thn a1 c1 H1) (h6:A8V I s.els a2 c2 H2):
  StO I s (A2N s.kind s.name s.at_ s.label s.opn s.e ea ec (.slice a1 s.thn.length c1) (.slice a2 s.els.length c2) s.fr s.to) (H1++H2):=by
 cases s with
 |mk k n a l o e t x f u=>exact .of h2 h3 h5 h6
theorem StO.len {I:P7}{s:Sp.Stm}{cs:List Value}{H:List HItem} (h:StO I s cs H):cs.length=15:=by
 obtain⟨_,_,_,_,_,_,_,_,_,rfl,_⟩:=h.out;rfl
theorem A1t.len {I:P7}:∀ {l:List Sp.Stm}{xs:List Value}{H:List HItem},A1t I l xs H->xs.length=l.length *15
 | [],xs,H,h=>by rw[A1t]at h;simp[h.1]
 |s::l,xs,H,h=>by
  rw[A1t]at h;obtain⟨c,r,H1,H2,rfl,_,h3,h4⟩:=h;rw[E9,h3.len,h4.len,F9,A1D];omega
theorem A1t.nil {I:P7}:A1t I [] [] []:=by rw[A1t];exact⟨rfl,rfl⟩
theorem A1t.app {I:P7}:∀ {l m:List Sp.Stm}{xs ys:List Value}{G H:List HItem},A1t I l xs G->A1t I m ys H->A1t I (l++m) (xs++ys) (G++H)
 | [],m,xs,ys,G,H,h,k=>by
  rw[A1t]at h;obtain⟨rfl,rfl⟩:=h;exact k
 |s::l,m,xs,ys,G,H,h,k=>by
  rw[A1t]at h;obtain⟨c,r,H1,H2,rfl,rfl,h3,h4⟩:=h;rw[X3,A1t];exact⟨c,r++ys,H1,H2++H,by rw[O4],by rw[O4],h3,h4.app k⟩
theorem A1t.one {I:P7}{s:Sp.Stm}{c:List Value}{H:List HItem} (h:StO I s c H):A1t I [s] c H:=by
 rw[A1t];exact⟨c,[],H,[],by simp,by simp,h,.nil⟩
theorem A1t.part {I:P7}:∀ {l m:List Sp.Stm}{xs:List Value}{H:List HItem},A1t I (l++m) xs H->∃x1 x2 H1 H2,xs=x1++x2/\H=H1++H2/\A1t I l x1 H1/\A1t I m x2 H2
 | [],m,xs,H,h=>⟨[],xs,[],H,rfl,rfl,.nil,h⟩
 |s::l,m,xs,H,h=>by
  rw[X3,A1t]at h;obtain⟨c,r,H1,H2,rfl,rfl,h3,h4⟩:=h;obtain⟨x1,x2,G1,G2,rfl,rfl,g3,g4⟩:=h4.part;refine⟨c++x1,x2,H1++G1,G2,by rw[O4],by rw[O4],?_,g4⟩
  rw[A1t];exact⟨c,x1,H1,G1,rfl,rfl,h3,g3⟩
theorem A1t.uncons {I:P7}{s:Sp.Stm}{l:List Sp.Stm}{xs:List Value}{H:List HItem} (h:A1t I (s::l) xs H):∃c r H1 H2,xs=c++r/\H=H1++H2/\StO I s c H1/\A1t I l r H2:=by
 rw[A1t]at h;exact h
mutual
theorem StO.freeze {E:Ent}{w:World}:∀(s:Sp.Stm) {I:P7}{cs:List Value}{H R:List HItem},StO I s cs H->Mem E I (H++R) w->∃J,Le I J/\Mem E J R w/\A5m J s cs
 | .mk k nm a lb o e thn els f t,I,cs,H,R,h,hm=>by
  rw[StO]at h;obtain⟨ea,ec,ex,a1,c1,a2,c2,xs1,xs2,H1,H2,rfl,h2,h3,rfl,h5,h6⟩:=h;rw[O4,X3,X3]at hm;obtain⟨I1,l1,m1,r1⟩:=hm.freeze;obtain⟨I2,l2,m2,r2⟩:=A1t.freeze thn (A1t.le l1 _ _ _ h5) m1;obtain⟨I3,l3,m3,r3⟩:=m2.freeze;obtain⟨I4,l4,m4,r4⟩:=A1t.freeze els (A1t.le ((l1.trans l2).trans l3) _ _ _ h6) m3;have h14:=(l2.trans l3).trans l4;exact⟨I4,l1.trans h14,m4,.of (h2.le (l1.trans h14)) (Z4.le (l1.trans h14) _ _ h3) (r1.le h14) (X9.le (l3.trans l4) _ _ r2) (r3.le l4) r4⟩
theorem A1t.freeze {E:Ent}{w:World}:∀(l:List Sp.Stm) {I:P7}{xs:List Value}{H R:List HItem},A1t I l xs H->Mem E I (H++R) w->∃J,Le I J/\Mem E J R w/\X9 J l xs
 | [],I,xs,H,R,h,hm=>by
  rw[A1t]at h;obtain⟨rfl,rfl⟩:=h;exact⟨I,Le.refl I,hm,.nil⟩
 |s::l,I,xs,H,R,h,hm=>by
  rw[A1t]at h;obtain⟨c,r,H1,H2,rfl,rfl,h3,h4⟩:=h;rw[O4]at hm;obtain⟨I1,l1,m1,r1⟩:=StO.freeze s h3 hm;obtain⟨I2,l2,m2,r2⟩:=A1t.freeze l (A1t.le l1 _ _ _ h4) m1;refine⟨I2,l1.trans l2,m2,?_⟩
  rw[X9];exact⟨c,r,rfl,A5m.le l2 _ _ r1,r2⟩
 end
theorem A8V.freeze {E:Ent}{w:World}{l:List Sp.Stm}{I:P7}{a:Option Addr}{c:Nat}{H R:List HItem} (h:A8V I l a c H) (hm:Mem E I (H++R) w):
  ∃J xs,Le I J/\Mem E J R w/\RowI J 127 15 (.slice a l.length c) l.length xs/\X9 J l xs:=by
 obtain⟨xs,Hs,rfl,hc⟩:=h;obtain⟨I1,l1,m1,r1⟩:=Mem.freeze (H:=Hs++R) hm;obtain⟨I2,l2,m2,r2⟩:=A1t.freeze l (A1t.le l1 _ _ _ hc) m1;exact⟨I2,xs,l1.trans l2,m2,r1.le l2,r2⟩
structure OwX where
 k:Nat
 I:P7
 a:Option Addr
 cp:Nat
 xs:List Value
 Hs:List HItem
abbrev C8J (l:List Sp.Stm):Value->P7->List HItem->Prop:=fun v I' H'=> ∃a c,v=.slice a l.length c/\A8V I' l a c H'
theorem B9F:∀(n:Nat) (l:List Sp.Stm),SizeOf.sizeOf l<=n->l.length<=64->A0j l->∀(I:P7) (a:Option Addr) (c:Nat) (xs:List Value),RowI I 127 15 (.slice a l.length c) l.length xs->X9 I l xs->
  CalM prog 51 #[.slice a l.length c] I [] (C8J l):=by
 intro n;induction n with
 |zero=>intro l h;cases l<;>simp at h
 |succ n ih=>
 intro l hsz hll hsm I a c xs hr hx;refine CalM.of fun w E hm=>enter (N:=30) func51 rfl [(0,.slice a l.length c)] A0G rfl ?_
 repeat' (first|refine D8 ?_|refine D6 ?_|refine G7 ?_|refine D9 ?_|refine A7 ?_|refine E5 ?_|refine A8 ?_|refine F5 ?_)
 have hm:=hm.nil 127 15;refine U0 (fun x:OwX=> [(3,.slice x.a x.k x.cp),(6,.slice a l.length c),(7,nt l.length),(8,nt x.k)])
  (fun x w'=>Mem E x.I (B8r x.k x.a x.cp x.xs::x.Hs) w'/\Le I x.I/\A1t x.I (l.take x.k) x.xs x.Hs/\x.k<=l.length)
  (fun x=>l.length-x.k) ⟨0,I,none,0,[],[]⟩ (by exact⟨rfl,rfl,rfl,rfl,trivial⟩) ⟨hm,Le.refl _,.nil,H7 _⟩ ?_
 clear hm;rintro⟨k,I1,a1,cp1,xs1,Hs1⟩ w2 ⟨hm,hle1,hxs,hk⟩;dsimp only at hm hle1 hxs hk |-;by_cases hlt:k<l.length
 ·have hg:l[k]?=some l[k]:=G6 hlt
  have hme:=A3A (O6 hlt);obtain⟨ea2,ec2,ex2,a2,c2,xs2,a3,c3,xs3,hc2,hr2,hx2,hr3,hx3,hr4,hx4⟩:=(hx.get hg).out;have hsm2:=A1K hsm hg;generalize l[k]=y at hg hc2 hr2 hx2 hr3 hx3 hr4 hx4 hsm2 hme;obtain⟨s1,s2,s3,s4,s5⟩:=A1V hsm2;obtain⟨z1,z2⟩:=A54 (s:=y);have hce:=fun (I':P7) (m:Le I I')=>B5b (SizeOf.sizeOf y.e) y.e (H6 _) s1 I' ea2 ec2 ex2 (hr2.le m) (Z4.le m _ _ hx2)
  have hct:=fun (I':P7) (m:Le I I')=>ih y.thn (by omega) s2 s3 I' a2 c2 xs2 (hr3.le m) (X9.le m _ _ hx3)
  have hcl:=fun (I':P7) (m:Le I I')=>ih y.els (by omega) s4 s5 I' a3 c3 xs3 (hr4.le m) (X9.le m _ _ hx4)
  have htk:l.take (k+1)=l.take k++ [y]:=by rw[A3i,hg];rfl
  have hri:=hr.le hle1;repeat' (first|refine A8I (id:=5) (hm.perm pm0) [([0,1,3,4,6,7],[2]),([9],[5]),([],[8])] 10 (h:=?_);clear hm;intro wd hR hm|refine N7 ?_ (hr:=hri);intro bt ot hpt;rw[show ((k:Int).toNat *15)=k *15 from rfl,hc2]at hpt|refine U9 (d:=14) ?_ hm (hc:=hce _ hle1);clear hm;rintro _ I2 _ _ ⟨rfl,ea3,ec3,ex3,rfl,hr5,hx5⟩ hle hm;have hleI2:=hle;try simp only[F8]at hm|refine U9 (d:=17) ?_ hm (hc:=hct _ (hle1.trans hleI2));clear hm;rintro _ I3 _ _ ⟨a4,c4,rfl,ho4⟩ hle hm;have hleI3:=hle;try simp only[F8]at hm|refine U9 (d:=20) ?_ hm (hc:=hcl _ ((hle1.trans hleI2).trans hleI3));clear hm;rintro _ I4 _ _ ⟨a5,c5,rfl,ho5⟩ hle hm;have hleI4:=hle;try simp only[F8]at hm|refine B6G ?_;replace hm:=(hR.back hm).perm pmO;clear hR|refine Y9 ?_ hR|refine A44 ?_ hR|refine B2Y ?_|refine B2X ?_|refine A0A ?_|refine C5B ?_|refine Y1 (d:=5) ?_ hm;clear hm;intro b5 _ hm|refine A2b (d:=27) ?_ hm;clear hm;intro a27 cp27 _ _ hm;try simp only[F8]at hm|refine X5 ?_ hm|refine X0 ?_ hm|refine O8 hm (k:=?_);clear hm;intro _ hm;try simp only[F8]at hm|refine A3r ?_ hm;clear hm;intro _ hm;try simp only[F8]at hm|refine D8 ?_|refine D6 ?_|refine J6 ?_|refine P5 ?_|refine C9 ?_|refine D9 ?_|refine A7 ?_|refine D7 ?_|refine E5 ?_|refine A8 ?_|refine F5 ?_|refine G5 ?_|(refine D5 (ht:=fun _=>?_) (hf:=fun _=>?_)<;>try first|contradiction|omega)|refine L6 ?_)
  refine L8 (⟨k+1,I4,_,_,_,_⟩:OwX) (by exact⟨rfl,rfl,rfl,rfl,trivial⟩) ⟨hm.tl,((hle1.trans hleI2).trans hleI3).trans hleI4,?_,by dsimp only;omega⟩ (by dsimp only;omega)
  dsimp only
  rw[htk];exact(A1t.le ((hleI2.trans hleI3).trans hleI4) _ _ _ hxs).app (.one (C2y (hr5.le (hleI3.trans hleI4)) (Z4.le (hleI3.trans hleI4) _ _ hx5) (ho4.le hleI4) ho5))
 ·obtain rfl:k=l.length:=by omega
  rw[V7]at hxs;repeat' (first|refine D8 ?_|refine D6 ?_|refine J6 ?_|refine D9 ?_|refine A7 ?_|refine H8 ?_|refine G9 ?_|refine E5 ?_|refine A8 ?_|refine P8 ?_|refine H9 ?_|refine J9 ?_|(refine D5 (ht:=fun _=>?_) (hf:=fun _=>?_)<;>try first|contradiction|omega))
  exact⟨I1,_,⟨a1,cp1,rfl,xs1,Hs1,rfl,hxs⟩,hm⟩
abbrev C7j (ty:TypeId) (sz n:Nat) (us:List Value):Value->P7->List HItem->Prop:=fun v _ H'=> ∃a cp,v=.slice a n cp/\H'= [.row (.slice a n cp) ty sz n us]
theorem C4i (I:P7) (a:Option Addr) (n cp:Nat) (us:List Value) (hr:RowI I 90 3 (.slice a n cp) n us) (h1:us.all (·.oneCell')=true) (hn:n<=1099511627776):
  CalM prog 48 #[.slice a n cp] I [] (C7j 90 3 n us):=by
 refine CalM.of fun w E hm=>enter (N:=8) func48 rfl [(0,.slice a n cp)] A0G rfl ?_
 cases a with
 |none=>
  have h0:n=0:=hr.none;subst h0;have hu:us= []:=A07 (by have:=hr.len;simpa using this);subst hu;repeat' (first|refine A1U ?_|refine D8 ?_|refine D6 ?_|refine D9 ?_|refine A7 ?_|refine G8 ?_|refine E5 ?_|refine A8 ?_|refine H9 ?_|refine J9 ?_|refine H5 ?_)
  exact⟨I,_,⟨none,0,rfl,rfl⟩,hm.nil 90 3⟩
 |some ad=>
  repeat' (first|refine A1U ?_|refine A1n ?_ hm;clear hm;intro bb _ hm|refine A9J ?_ hm (hr:=hr) (h1:=h1);clear hm;intro a2 cp2 _ hm;try simp only[F8]at hm|refine D8 ?_|refine D6 ?_|refine D9 ?_|refine A7 ?_|refine E5 ?_|refine A8 ?_|refine G5 ?_|refine H9 ?_|refine J9 ?_|refine F7 ?_)
  simp only[W9]at hm |-;exact⟨I,_,⟨a2,cp2,rfl,rfl⟩,(hm.front 0 rfl).hd⟩
abbrev C9l (it:Sp.Itm):Value->P7->List HItem->Prop:=fun v J H'=> ∃ap cp as_ cs ab cb ad cd Hb,v=.agg (A1F it.kind it.name it.label (.slice ap it.params.length cp) (.slice as_ it.sends.length cs) (.slice ab it.body.length cb) it.at_ it.size it.mark (.slice ad it.diags.length cd)).toArray/\
 H'=.row (.slice ap it.params.length cp) 90 3 it.params.length (it.params.flatMap A2Q)::Hb/\A8V J it.body ab cb Hb/\
 RowI J 118 2 (.slice as_ it.sends.length cs) it.sends.length (it.sends.flatMap A2Y)/\RowI J 56 4 (.slice ad it.diags.length cd) it.diags.length (it.diags.flatMap A5Q)
theorem C85 (it:Sp.Itm) (hs:it.small) (I:P7) (cs:List Value) (hi:A57 I it cs):CalM prog 27 #[.agg cs.toArray] I [] (C9l it):=by
 obtain⟨ap,cp,as_,cs',ab,cb,ad,cd,xb,rfl,r1,r2,r3,r4,r5⟩:=hi;have k1:=hs.params;have k2:=hs.sends;have k3:=hs.diags;have k4:=hs.body;refine CalM.of fun w E hm=>enter (N:=20) func27 rfl [(0,.agg (A1F it.kind it.name it.label (.slice ap it.params.length cp) (.slice as_ it.sends.length cs') (.slice ab it.body.length cb) it.at_ it.size it.mark (.slice ad it.diags.length cd)).toArray)] A0G rfl ?_
 have c1:=fun (I':P7) (m:Le I I')=>C4i I' ap it.params.length cp _ (r1.le m) (B8a _) (by omega)
 have c2:=fun (I':P7) (m:Le I I')=>B76 I' as_ it.sends.length cs' _ (r2.le m) (C01 _) (by omega)
 have c3:=fun (I':P7) (m:Le I I')=>B75 I' ad it.diags.length cd _ (r5.le m) (C0z _) (by omega)
 have c4:=fun (I':P7) (m:Le I I')=>B9F (SizeOf.sizeOf it.body) it.body (H6 _) (by omega) hs.stms I' ab cb xb (r3.le m) (X9.le m _ _ r4)
 repeat' (first|refine A8I (id:=1) (hm.perm pm0) [([0,1,3,4,6,7],[2]),([9],[5]),([],[8])] 10 (h:=?_);clear hm;intro wd hR hm|refine U9 (d:=5) ?_ hm (hc:=c1 _ (Le.refl _));clear hm;rintro _ I2 _ _ ⟨a1,d1,rfl,rfl⟩ hle hm;have hleI2:=hle;try simp only[F8]at hm|refine U9 (d:=8) ?_ hm (hc:=c2 _ hleI2);clear hm;rintro _ I3 _ _ ⟨rfl,a2,d2,rfl,s2⟩ hle hm;have hleI3:=hle;try simp only[F8]at hm|refine U9 (d:=11) ?_ hm (hc:=c3 _ (hleI2.trans hleI3));clear hm;rintro _ I4 _ _ ⟨rfl,a3,d3,rfl,s3⟩ hle hm;have hleI4:=hle;try simp only[F8]at hm|refine F6 (d:=17) ?_ hm (hp:=pm0) (hc:=c4 _ ((hleI2.trans hleI3).trans hleI4));clear hm;rintro _ I5 Hb _ ⟨a4,d4,rfl,ho4⟩ hleI5 hm;replace hm:=hm.perm A0R;try simp only[F8]at hm|refine Y9 ?_ hR|refine B2Y ?_|refine B2X ?_|refine A0A ?_|refine C5B ?_|refine B6G ?_;replace hm:=hR.back hm;clear hR;try simp only[F8]at hm|refine A0P (d:=1) ?_ hm;clear hm;intro b1 _ hm|refine S9 (d:=2) ?_ hm;clear hm;intro b2 _ hm|refine J4 ?_ hm|refine X5 ?_ hm|refine N9 ?_ hm;clear hm;intro _ hm;try simp only[F8]at hm|refine O8 hm (k:=?_);clear hm;intro _ hm;try simp only[F8]at hm|refine Y6 ?_ hm|refine C9 ?_|refine D9 ?_|refine A7 ?_|refine E5 ?_|refine A8 ?_|refine H9 ?_|refine L6 ?_)
 refine⟨I5,_,⟨a1,d1,a2,d2,a4,d4,a3,d3,Hb,rfl,rfl,ho4,(s2.le hleI4).le hleI5,s3.le hleI5⟩,hm.snd.snd⟩
theorem A3t {x1 c x2:List Value}{n j:Nat} (h1:x1.length=n) (hj:j<c.length):(x1++(c++x2))[n+j]?=c[j]? :=by
 rw[A16 (by omega),show n+j-x1.length=j by omega,A23 hj]
theorem C0O {x1 c x2:List Value}{n j:Nat} (h1:x1.length=n) (hj:j<c.length):n+j<(x1++(c++x2)).length:=by
 rw[E9,E9];omega
theorem B7R {x1 c x2:List Value}{n j:Nat}{v:Value} (h1:x1.length=n) (hj:j<c.length):(x1++(c++x2)).set (n+j) v=x1++(c.set j v++x2):=by
 rw[A5V,if_neg (by omega),show n+j-x1.length=j by omega,A5V,if_pos hj]
structure FlW where
 k:Nat
 I:P7
 xs:List Value
 Hs:List HItem
abbrev C7h (o:Sp.Lab) (l:List Sp.Stm) (a:Option Addr) (c:Nat):Value->P7->List HItem->Prop:=fun v J H'=>v=.tuple #[]/\A8V J (A2h o l) a c H'
theorem _root_.Go.Fw.pmRow {x:HItem}{H:List HItem}:(x::H).Perm ([x]++H):=.refl _
theorem C7E {bd bo:Nat}{zs:A1S}{o:Sp.Lab}{f0 f1 f3:Value} (hz:OpenZ zs o):∀(n:Nat) (l:List Sp.Stm),SizeOf.sizeOf l<=n->l.length<=64->A0j l->∀(I:P7) (a:Option Addr) (c:Nat) (H:List HItem),PtrI I bd 0 184 [f0,f1,.map (some bo),f3]->B4u I bo zs->A8V I l a c H->
  CalM prog 81 #[ptr bd,.slice a l.length c] I H (C7h o l a c):=by
 intro n;induction n with
 |zero=>intro l h;cases l<;>simp at h
 |succ n ih=>
 intro l hsz hll hsm I a c H hpd hmz hO;obtain⟨xs,Hs,rfl,hC⟩:=hO;refine CalM.of fun w E hm=>enter (N:=53) func81 rfl [(0,ptr bd),(1,.slice a l.length c)] A0T rfl ?_
 repeat' (first|refine D8 ?_|refine G7 ?_|refine D9 ?_|refine A7 ?_|refine E5 ?_|refine A8 ?_|refine F5 ?_)
 refine U0 (fun x:FlW=> [(0,ptr bd),(1,.slice a l.length c),(7,nt l.length),(8,nt x.k)])
  (fun x w'=>Mem E x.I (B8r l.length a c x.xs::x.Hs) w'/\Le I x.I/\A1t x.I (A2h o (l.take x.k)++l.drop x.k) x.xs x.Hs/\x.k<=l.length)
  (fun x=>l.length-x.k) ⟨0,I,xs,Hs⟩ (by exact⟨rfl,rfl,rfl,rfl,trivial⟩) ⟨hm,Le.refl _,by dsimp only;rw[A0a,A2h,P9,A2o];exact hC,H7 _⟩ ?_
 clear hm hC;rintro⟨k,I1,xs1,Hs1⟩ w2 ⟨hm,hle1,hC,hk⟩;dsimp only at hm hle1 hC hk |-;have hpd1:=hpd.le hle1;have hmz1:=hmz.le hle1;by_cases hlt:k<l.length
 ·have hg:l[k]?=some l[k]:=G6 hlt
  have hme:=A3A (O6 hlt);have hsm2:=A1K hsm hg;generalize l[k]=y at hg hsm2 hme;rw[C3j hg]at hC;obtain⟨s1,s2,s3,s4,s5⟩:=A1V hsm2;obtain⟨z1,z2⟩:=A54 (s:=y);obtain⟨x1,x2,G1,G2,rfl,rfl,hC1,hC2⟩:=hC.part;obtain⟨cy,x3,G3,G4,rfl,rfl,hY,hC3⟩:=hC2.uncons;have hl1:=hC1.len;rw[A4L,P6,A1h hk]at hl1;obtain⟨ea,ec,ex,a1,c1,a2,c2,H1,H2,rfl,hr,hx,rfl,hO1,hO2⟩:=hY.out;obtain⟨gb,rfl⟩:=hm.rowAddr (by omega);have hct:=fun (J:P7) (m:Le I1 J)=>ih y.thn (by omega) s2 s3 J a1 c1 H1 (hpd1.le m) (hmz1.le m) (hO1.le m)
  have hcl:=fun (J:P7) (m:Le I1 J)=>ih y.els (by omega) s4 s5 J a2 c2 H2 (hpd1.le m) (hmz1.le m) (hO2.le m)
  have hoff:∀j:Nat,0+(k:Int).toNat *15+j=k *15+j:=fun j=>by rw[A1j];omega
  have htk:A2h o (l.take (k+1))=A2h o (l.take k)++ [A97 o y]:=by rw[Q9 hg,C1C,A7w o [y]];rfl
  have hY2:∀(I3:P7) (H1' H2':List HItem),Le I1 I3->A8V I3 (A2h o y.thn) a1 c1 H1'->A8V I3 (A2h o y.els) a2 c2 H2'->
    StO I3 (A97 o y) (A2N y.kind y.name y.at_ (B9s o y) (B9L y) y.e ea ec (.slice a1 y.thn.length c1) (.slice a2 y.els.length c2) y.fr y.to) (H1'++H2'):=fun I3 H1' H2' m o1 o2=>by
   have h:=StO.of (I:=I3) (k:=y.kind) (a:=y.at_) (lb:=B9s o y) (f:=y.fr) (t:=y.to) (nm:=y.name) (o:=B9L y) (e:=y.e) (thn:=A2h o y.thn) (els:=A2h o y.els) (hr.le m) (Z4.le m _ _ hx) o1 o2;rw[A4L,A4L]at h;rw[C3D];exact h
  by_cases hlet:y.kind=1/\y.opn=true
  ·have e1:B9s o y=o y.fr:=by rw[B9s,if_pos hlet]
   have e2:B9L y=false:=by rw[B9L,if_pos hlet.1]
   rw[e1,e2]at hY2;have hlk:=hz.get y.fr;have hk1:=hlet.1;have ho:=hlet.2;rw[ho]at hm;repeat' (first|refine A24 (off:=k *15+0) (d:=17) hm (by rfl) (by rfl) (by rw[<-hoff];rfl) (by rw[A3t hl1 (by simp)];rfl) ?_|refine A24 (off:=k *15+4) (d:=23) hm (by rfl) (by rfl) (by rw[<-hoff];rfl) (by rw[A3t hl1 (by simp)];rfl) ?_|refine A1q (id:=5) (hm.perm pmRow) [0,1,2,3,4,5,6,7,8] 14 (h:=?_);clear hm;intro wd hR hm|refine B9E (i:=0) (off:=k *15+13) (d:=34) hm (by rfl) (by rfl) (by rw[<-hoff];rfl) gt0 (by rw[A3t hl1 (by simp)];rfl) ?_|refine B9p (d:=35) hm hmz1 (by rfl) (by rfl) (by rfl) (by rfl) A7h ?_;rw[hlk]|refine B8N (d:=36) hm.kept (by rfl) (by rfl) (by rfl) ?_|refine B1r (d:=37) hm.kept (by rfl) (by rfl) (by rfl) ?_|refine B7W (off:=k *15+4) hm (by rfl) (by rfl) (by rw[<-hoff];rfl) (by rfl) (by rfl) (by rfl) (C0O hl1 (by simp)) ?_;clear hm;intro _ hm;rw[B7R hl1 (by simp)]at hm;simp only[A8b,A8a]at hm|refine B3I (off:=k *15+3) hm (by rfl) (by rfl) (by rw[<-hoff];rfl) (by rfl) (by rfl) (by rfl) (C0O hl1 (by simp)) ?_;clear hm;intro _ hm;rw[B7R hl1 (by simp)]at hm;simp only[A8b,A8a]at hm|refine A1H (i:=9) ?_ (by decide+kernel)|refine A1H (i:=10) ?_ (by decide+kernel)|refine A1H (i:=11) ?_ (by decide+kernel)|refine A1H (i:=12) ?_ (by decide+kernel)|refine A1H (i:=13) ?_ (by decide+kernel)|refine A5c (by decide+kernel) ?_;replace hm:=(hR.back hm).perm pmRow.symm;clear hR|refine A24 (off:=k *15+11) (d:=44) hm (by rfl) (by rfl) (by rw[<-hoff];rfl) (by rw[A3t hl1 (by simp)];rfl) ?_|refine A24 (off:=k *15+12) (d:=50) hm (by rfl) (by rfl) (by rw[<-hoff];rfl) (by rw[A3t hl1 (by simp)];rfl) ?_|refine F6 (d:=45) ?_ hm (hp:=B4n) (hc:=hct I1 (Le.refl _));clear hm;rintro _ I2 H1' _ ⟨rfl,ho4⟩ hleI2 hm;replace hm:=hm.perm B4n.symm|refine F6 (d:=51) ?_ hm (hp:=B4n.trans C6k) (hc:=hcl I2 hleI2);clear hm;rintro _ I3 H2' _ ⟨rfl,ho5⟩ hleI3 hm;replace hm:=hm.perm C7V|refine A0d ?_ hR|refine A9W ?_|refine D8 ?_|refine D6 ?_|refine O1 ?_|refine J6 ?_|refine O0 ?_|refine E8 ?_|refine P5 ?_|refine C9 ?_|refine A0M (k:=?_)|(refine N8 (h1:=fun _=>?_) (h0:=fun _=>?_)<;>try first|contradiction|omega)|refine D9 ?_|refine A7 ?_|refine D7 ?_|refine E5 ?_|refine A8 ?_|refine F5 ?_|refine G5 ?_|refine H5 ?_|(refine D5 (ht:=fun _=>?_) (hf:=fun _=>?_)<;>try first|contradiction|omega)|refine Z5 ?_|refine O7 ?_|refine L6 ?_)
   refine L8 (⟨k+1,I3,_,_⟩:FlW) (by exact⟨rfl,rfl,rfl,rfl,trivial⟩) ⟨hm,(hle1.trans hleI2).trans hleI3,?_,by dsimp only;omega⟩ (by dsimp only;omega)
   dsimp only
   rw[htk,O4];exact(A1t.le (hleI2.trans hleI3) _ _ _ hC1).app ((A1t.one (hY2 I3 H1' H2' (hleI2.trans hleI3) (ho4.le hleI3) ho5)).app (A1t.le (hleI2.trans hleI3) _ _ _ hC3))
  ·have e1:B9s o y=y.label:=by rw[B9s,if_neg hlet]
   have e2:B9L y=y.opn:=by
    rw[B9L];split
    ·rename_i h1
     cases ho:y.opn with
     |true=>exact absurd ⟨h1,ho⟩ hlet
     |false=>rfl
    ·rfl
   rw[e1,e2]at hY2;by_cases hk1:y.kind=1
   ·have ho:y.opn=false:=by
     cases ho:y.opn with
     |true=>exact absurd ⟨hk1,ho⟩ hlet
     |false=>rfl
    rw[ho]at hm hY2;repeat' (first|refine A24 (off:=k *15+0) (d:=17) hm (by rfl) (by rfl) (by rw[<-hoff];rfl) (by rw[A3t hl1 (by simp)];rfl) ?_|refine A24 (off:=k *15+4) (d:=23) hm (by rfl) (by rfl) (by rw[<-hoff];rfl) (by rw[A3t hl1 (by simp)];rfl) ?_|refine A24 (off:=k *15+11) (d:=44) hm (by rfl) (by rfl) (by rw[<-hoff];rfl) (by rw[A3t hl1 (by simp)];rfl) ?_|refine A24 (off:=k *15+12) (d:=50) hm (by rfl) (by rfl) (by rw[<-hoff];rfl) (by rw[A3t hl1 (by simp)];rfl) ?_|refine F6 (d:=45) ?_ hm (hp:=B4n) (hc:=hct I1 (Le.refl _));clear hm;rintro _ I2 H1' _ ⟨rfl,ho4⟩ hleI2 hm;replace hm:=hm.perm B4n.symm|refine F6 (d:=51) ?_ hm (hp:=B4n.trans C6k) (hc:=hcl I2 hleI2);clear hm;rintro _ I3 H2' _ ⟨rfl,ho5⟩ hleI3 hm;replace hm:=hm.perm C7V|refine D8 ?_|refine D6 ?_|refine O1 ?_|refine J6 ?_|refine O0 ?_|refine E8 ?_|refine P5 ?_|refine C9 ?_|refine A0M (k:=?_)|(refine N8 (h1:=fun _=>?_) (h0:=fun _=>?_)<;>try first|contradiction|omega)|refine D9 ?_|refine A7 ?_|refine D7 ?_|refine E5 ?_|refine A8 ?_|refine F5 ?_|refine G5 ?_|refine F7 ?_|(refine D5 (ht:=fun _=>?_) (hf:=fun _=>?_)<;>try first|contradiction|omega))
    refine L8 (⟨k+1,I3,_,_⟩:FlW) (by exact⟨rfl,rfl,rfl,rfl,trivial⟩) ⟨hm,(hle1.trans hleI2).trans hleI3,?_,by dsimp only;omega⟩ (by dsimp only;omega)
    dsimp only
    rw[htk,O4];exact(A1t.le (hleI2.trans hleI3) _ _ _ hC1).app ((A1t.one (hY2 I3 H1' H2' (hleI2.trans hleI3) (ho4.le hleI3) ho5)).app (A1t.le (hleI2.trans hleI3) _ _ _ hC3))
   ·skip
    repeat' (first|refine A24 (off:=k *15+0) (d:=17) hm (by rfl) (by rfl) (by rw[<-hoff];rfl) (by rw[A3t hl1 (by simp)];rfl) ?_|refine A24 (off:=k *15+11) (d:=44) hm (by rfl) (by rfl) (by rw[<-hoff];rfl) (by rw[A3t hl1 (by simp)];rfl) ?_|refine A24 (off:=k *15+12) (d:=50) hm (by rfl) (by rfl) (by rw[<-hoff];rfl) (by rw[A3t hl1 (by simp)];rfl) ?_|refine F6 (d:=45) ?_ hm (hp:=B4n) (hc:=hct I1 (Le.refl _));clear hm;rintro _ I2 H1' _ ⟨rfl,ho4⟩ hleI2 hm;replace hm:=hm.perm B4n.symm|refine F6 (d:=51) ?_ hm (hp:=B4n.trans C6k) (hc:=hcl I2 hleI2);clear hm;rintro _ I3 H2' _ ⟨rfl,ho5⟩ hleI3 hm;replace hm:=hm.perm C7V|refine D8 ?_|refine D6 ?_|refine J8 ?_|refine J6 ?_|refine O0 ?_|refine E8 ?_|refine P5 ?_|refine C9 ?_|refine A0M (k:=?_)|refine A0E ?_|(refine N8 (h1:=fun _=>?_) (h0:=fun _=>?_)<;>try first|contradiction|omega)|refine D9 ?_|refine A7 ?_|refine D7 ?_|refine E5 ?_|refine A8 ?_|refine F5 ?_|refine G5 ?_|refine F7 ?_|(refine D5 (ht:=fun _=>?_) (hf:=fun _=>?_)<;>try first|contradiction|omega))
    refine L8 (⟨k+1,I3,_,_⟩:FlW) (by exact⟨rfl,rfl,rfl,rfl,trivial⟩) ⟨hm,(hle1.trans hleI2).trans hleI3,?_,by dsimp only;omega⟩ (by dsimp only;omega)
    dsimp only
    rw[htk,O4];exact(A1t.le (hleI2.trans hleI3) _ _ _ hC1).app ((A1t.one (hY2 I3 H1' H2' (hleI2.trans hleI3) (ho4.le hleI3) ho5)).app (A1t.le (hleI2.trans hleI3) _ _ _ hC3))
 ·obtain rfl:k=l.length:=by omega
  rw[V7,A6O,J3]at hC;repeat' (first|refine J6 ?_|refine D9 ?_|refine A7 ?_|refine H8 ?_|refine G9 ?_|refine E5 ?_|refine A8 ?_|refine P8 ?_|refine X4 ?_|(refine D5 (ht:=fun _=>?_) (hf:=fun _=>?_)<;>try first|contradiction|omega))
  exact⟨I1,_,⟨rfl,xs1,Hs1,by rw[A4L],hC⟩,hm⟩
end Go.Proofs
