/- Own work: texts RunG, SpecRunT, LawRn, LawRo, Post, PostVar, PostSl, one behind the other. -/
import Derived.Test.YtfjdfdgpkncpfaaGreatDoorQb22
import Derived.Test.YtfjdfdgpkncpfaaGreatDoorRows
import Derived.WalkKit
import Derived.ProofKit
import Derived.OpenShut
import Derived.ShutString
import Derived.JoinedCond
import Derived.MakeChecks
import Derived.LaidSub
import Derived.Lay
import Derived.Stop.LaidErr
import Derived.Carry
import Derived.Deep.Slices
import Derived.ChangeSlices
set_option maxHeartbeats 64000000
section
namespace Go.Sp
theorem A9L {src:List UInt8}{its:List Itm} (h:AllOk src its):∀k,k≤its.length→(A4k its k).length≤k *2000000000
 |0,_=>by rw[A4k];simp
 |k+1,hk=>by
  rw[A8D,List.length_append,A9D,List.length_map]
  have:=A9L h k (by omega)
  have:=B2z h (i:=k) (by omega)
  omega
end Go.Sp
namespace Go.Proofs.YtfjdfdgpkncpfaaGreatDoor
open Go.Proofs.Tryz
open Go.Fw
structure RaX where
 k:Nat
 I:O5
 sa:Option Addr
 sp:Nat
section
variable {src:List UInt8}{its:List Sp.Itm}{a:Option Addr}{cp:Nat}{xs:List Value}
theorem B9A (I:O5) (h:FE I its a cp xs) (hA:Sp.AllOk src its):
  CalM prog 40 #[.agg [.slice a its.length cp].toArray] I [] (fun v I' H'=>H'= []∧∃da dp,v=.slice da (Sp.A2I its).length dp∧RowI I' 92 4 (.slice da (Sp.A2I its).length dp) (Sp.A2I its).length ((Sp.A2I its).flatMap A7T)):=by
 refine CalM.of fun w E hm=>enter (N:=18) func40 rfl [(0,.agg [.slice a its.length cp].toArray)] Z4 rfl ?_
 have hfew:=hA.few
 have hfew2:=Sp.A9L hA
 rw[Sp.A2I]
 repeat' (first|refine Z5 2 ?_|(refine A0t (d:=1) ?_ hm;clear hm;intro b1 _ hm)|refine D5 ?_|refine D8 ?_|refine A7 ?_|refine E5 ?_|refine A8 ?_)
 all_goals try first|omega|contradiction
 obtain⟨I2,hle2,hm2,hpf⟩:=hm.freezeO
 clear hm
 have hm:=hm2.nil 92 4
 clear hm2
 refine⟨?_⟩
 repeat' (first|refine H9 ?_ hm|refine D7 ?_|refine G7 ?_|refine C9 ?_|refine D8 ?_|refine A7 ?_|refine A8 ?_|refine E9 ?_)
 all_goals try first|omega|contradiction
 refine U4 (fun x:RaX=> [(1,ptr b1),(3,.slice x.sa (Sp.A4k its x.k).length x.sp),(7,nt its.length),(8,nt x.k)])
  (fun x w'=>Mem E x.I [.row (.slice x.sa (Sp.A4k its x.k).length x.sp) 92 4 (Sp.A4k its x.k).length ((Sp.A4k its x.k).flatMap A7T)] w'∧Le I2 x.I∧x.k≤its.length) (fun x=>its.length-x.k) ⟨0,I2,none,0⟩
  (by exact⟨rfl,rfl,rfl,rfl,trivial⟩) ⟨hm,Le.refl _,Nat.zero_le _⟩ ?_
 clear hm
 rintro⟨k,I3,oa,op⟩ w3 ⟨hm,hle3,hk⟩
 dsimp only at hm hle3 hk ⊢
 have hpf3:=hpf.le hle3
 by_cases hlt:k<its.length
 ·have hD:=B8Y k hlt I3 ((h.le hle2).le hle3) hA
  have hs:=Sp.A8D its k
  have h1:=hfew2 (k+1) hlt
  rw[hs,List.length_append] at h1
  generalize Sp.A4k its k=pre at hm hs h1
  generalize Sp.A9D its k=dd at hD hs h1
  repeat' (first|(refine U7 (d:=12) ?_ hm (hp:=hpf3))|(refine F5 (d:=14) ?_ hm (hp:=pm0) (hc:=hD);clear hm;rintro _ I4 _ _ ⟨rfl,da,dp,rfl,hrow⟩ hleI4 hm;try simp only[F7] at hm)|(refine A97 (d:=15) ?_ hm (hr:=hrow) (h1:=B5e);clear hm;intro a15 cp15 _ hm;try simp only[F7] at hm)|refine D7 ?_|refine D5 ?_|refine J5 ?_|refine Q4 ?_|refine D8 ?_|refine A7 ?_|refine D9 ?_|refine E5 ?_|refine A8 ?_|refine E9 ?_|refine F8 ?_|(refine D6 (ht:=fun _=>?_) (hf:=fun _=>?_)<;>(try first|contradiction|(exfalso;omega))))
  all_goals try first|omega|contradiction
  refine J9 (⟨k+1,I4,a15,cp15⟩:RaX) (by exact⟨rfl,by rw[hs,List.length_append];rfl,rfl,rfl,trivial⟩) ⟨?_,hle3.trans hleI4,by dsimp only;omega⟩ (by dsimp only;omega)
  dsimp only
  rw[hs,List.flatMap_append,List.length_append]
  exact hm
 ·obtain rfl:k=its.length:=by omega
  repeat' (first|refine D7 ?_|refine D5 ?_|refine J5 ?_|refine D8 ?_|refine A7 ?_|refine G9 ?_|refine G6 ?_|refine E5 ?_|refine A8 ?_|refine O4 ?_|refine G8 ?_|refine H5 ?_|(refine D6 (ht:=fun _=>?_) (hf:=fun _=>?_)<;>(try first|contradiction|(exfalso;omega))))
  all_goals try first|omega|contradiction
  obtain⟨I4,hle4,hm4,hrow⟩:=hm.freeze
  exact⟨I4,[],⟨rfl,_,_,rfl,hrow⟩,hm4⟩
abbrev B80 (ea:Option Addr) (ep:Nat) (r:Sp.Rn):Value:=.agg [.slice ea r.ev.length ep,.int .i64 r.n,nt r.err,nt r.steps].toArray
abbrev B4f (r:Sp.Rn):Value→O5→List HItem→Prop:=fun v I' H'=>H'= []∧∃ea ep,v=B80 ea ep r∧RowI I' 35 2 (.slice ea r.ev.length ep) r.ev.length (r.ev.flatMap A0Q)
theorem B4Q (nm:List UInt8) (args:List Int) (I:O5) (h:FE I its a cp xs) (hA:Sp.AllOk src its) (hok:Sp.A2I its= []→∀it∈its,it.kind=2→Sp.P6 (Sp.okE its) Sp.B8k it.body) (aa:Option Addr) (ac:Nat)
  (hra:RowI I 3 1 (.slice aa args.length ac) args.length (A6K args)):
  CalM prog 17 #[.agg [.slice a its.length cp].toArray,str nm,.slice aa args.length ac] I [] (B4f (Sp.A0U its nm args)):=by
 refine CalM.of fun w E hm=>enter (N:=61) func17 rfl [(0,.agg [.slice a its.length cp].toArray),(1,str nm),(2,.slice aa args.length ac)] A3h rfl ?_
 have hfew:=hA.few
 obtain⟨fin,hfin⟩:∃fin,fin=Sp.A0U its nm args:=⟨_,rfl⟩
 rw[←hfin]
 rw[Sp.A0U] at hfin
 have hfind:=fun (J:O5) (m:Le I J)=>(A2B 2 nm its J a cp xs (h.le m)).read
 have hAll:=fun (J:O5) (m:Le I J)=>B9A J (h.le m) hA
 have hmore:∀(J:O5),RowI J 35 2 (.slice none 0 0) 0 (([]:List Sp.Ev).flatMap A0Q):=fun J=>A0z _ _ _ _ _
 by_cases hbad:Sp.A2I its≠ []
 ·rw[if_pos hbad] at hfin
  subst hfin
  have hl0:0<(Sp.A2I its).length:=List.length_pos_iff.2 hbad
  generalize Sp.A2I its=all at hAll hl0
  repeat' (first|refine Z5 1 ?_|(refine A0t (d:=3) ?_ hm;clear hm;intro b3 _ hm)|(refine V6 (d:=6) ?_ hm;clear hm;intro b6 _ hm)|refine D8 ?_|refine A7 ?_|refine E5 ?_|refine A8 ?_)
  all_goals try first|omega|contradiction
  obtain⟨I2,hle2,hm2,hpf⟩:=Mem.freezeO hm.swap
  clear hm
  have hm:=hm2
  clear hm2
  refine⟨?_⟩
  repeat' (first|(refine U7 (d:=10) ?_ hm (hp:=hpf))|(refine L9 (d:=12) ?_ hm (hc:=hfind I2 hle2);clear hm;intro _ hm)|(refine U7 (d:=14) ?_ hm (hp:=hpf))|(refine F5 (d:=15) ?_ hm (hp:=pm0) (hc:=hAll I2 hle2);clear hm;rintro _ I3 _ _ ⟨rfl,da,dp,rfl,hrd⟩ hleI3 hm;try simp only[F7] at hm)|(refine N8 ?_ hm;clear hm;intro _ hm;try simp only[F7] at hm)|refine Y9 ?_ hm|refine D7 ?_|refine D5 ?_|refine A2L ?_|refine G7 ?_|refine Q9 ?_|refine D8 ?_|refine A7 ?_|refine G5 ?_|refine O8 ?_|refine E5 ?_|refine A8 ?_|refine E9 ?_|refine G8 ?_|(refine D6 (ht:=fun _=>?_) (hf:=fun _=>?_)<;>(try first|contradiction|(exfalso;omega))))
  all_goals try first|omega|contradiction
  exact⟨I3,[],⟨rfl,none,0,rfl,hmore _⟩,hm.left (H:= [])⟩
 rw[if_neg hbad] at hfin
 have hb0:Sp.A2I its= []:=Classical.not_not.1 hbad
 have hok2:=hok hb0
 rw[hb0] at hAll
 cases hf:Sp.Q8 its 2 nm with
 |none=>
  rw[hf] at hfin
  dsimp only at hfin
  subst hfin
  rw[show Sp.A0Y its 2 nm= -1 by rw[Sp.A0Y,hf]] at hfind
  repeat' (first|refine Z5 1 ?_|(refine A0t (d:=3) ?_ hm;clear hm;intro b3 _ hm)|(refine V6 (d:=6) ?_ hm;clear hm;intro b6 _ hm)|refine D8 ?_|refine A7 ?_|refine E5 ?_|refine A8 ?_)
  all_goals try first|omega|contradiction
  obtain⟨I2,hle2,hm2,hpf⟩:=Mem.freezeO hm.swap
  clear hm
  have hm:=hm2
  clear hm2
  refine⟨?_⟩
  repeat' (first|(refine U7 (d:=10) ?_ hm (hp:=hpf))|(refine L9 (d:=12) ?_ hm (hc:=hfind I2 hle2);clear hm;intro _ hm)|(refine U7 (d:=14) ?_ hm (hp:=hpf))|(refine F5 (d:=15) ?_ hm (hp:=pm0) (hc:=hAll I2 hle2);clear hm;rintro _ I3 _ _ ⟨rfl,da,dp,rfl,hrd⟩ hleI3 hm;try simp only[F7] at hm)|(refine N8 ?_ hm;clear hm;intro _ hm;try simp only[F7] at hm)|refine Y9 ?_ hm|refine D7 ?_|refine D5 ?_|refine J5 ?_|refine A2L ?_|refine G7 ?_|refine Q9 ?_|refine D8 ?_|refine A7 ?_|refine G5 ?_|refine O8 ?_|refine E5 ?_|refine A8 ?_|refine E9 ?_|refine G8 ?_|refine F9 ?_|refine F6 ?_)
  all_goals try first|omega|contradiction
  exact⟨I3,[],⟨rfl,none,0,rfl,hmore _⟩,hm.left (H:= [])⟩
 |some j=>
 rw[hf] at hfin
 dsimp only at hfin
 rw[show Sp.A0Y its 2 nm=(j:Int) by rw[Sp.A0Y,hf]] at hfind
 obtain⟨hjl,hjk,_,_,hmem⟩:=Sp.Y8 hf
 have hri:=h.row
 obtain⟨ci,hci,hat,_⟩:=h.get (Sp.A0K hjl)
 have hsm:=(hA.fl _ hmem).small
 have hcall:=fun (J:O5) (m:Le I J) (bf bm:Nat) (hp:PtrI J bf 0 25 [.slice a its.length cp]) (hpl:args.length=(Sp.N9 its j).params.length)=>
  B8X (bm:=bm) (⟨hp,h.le m,fun it hit=>⟨(hA.fl it hit).small,(hA.fl it hit).cnt,hok2 it hit⟩⟩:RFile J its bf a cp xs) 40 (Nat.le_refl _) J nm args Sp.MR0 none 0 aa ac (Le.refl _) ⟨j,hf,hpl.symm⟩ (hra.le m) (Nat.zero_le _) (Nat.zero_le _)
 have hto:=Sp.A4o its 40 nm args Sp.MR0 (Nat.zero_le _)
 generalize Sp.N9 its j=it at hfin hat hsm hcall
 obtain⟨pa,pc,sa9,sc9,ba,bc9,da9,dc9,xb,rfl,hpar,_,_,_,_⟩:=hat
 by_cases hpl:args.length=it.params.length
 case neg=>
  rw[if_pos hpl] at hfin
  subst hfin
  repeat' (first|refine Z5 1 ?_|(refine A0t (d:=3) ?_ hm;clear hm;intro b3 _ hm)|(refine V6 (d:=6) ?_ hm;clear hm;intro b6 _ hm)|refine D8 ?_|refine A7 ?_|refine E5 ?_|refine A8 ?_)
  all_goals try first|omega|contradiction
  obtain⟨I2,hle2,hm2,hpf⟩:=Mem.freezeO hm.swap
  clear hm
  have hm:=hm2
  clear hm2
  have hri2:=hri.le hle2
  refine⟨?_⟩
  repeat' (first|(refine U7 (d:=10) ?_ hm (hp:=hpf))|(refine L9 (d:=12) ?_ hm (hc:=hfind I2 hle2);clear hm;intro _ hm)|(refine U7 (d:=14) ?_ hm (hp:=hpf))|(refine F5 (d:=15) ?_ hm (hp:=pm0) (hc:=hAll I2 hle2);clear hm;rintro _ I3 _ _ ⟨rfl,da,dp,rfl,hrd⟩ hleI3 hm;try simp only[F7] at hm;have hpf3:=hpf.le hleI3;have hri3:=hri2.le hleI3)|(refine L6 (d:=29) ?_ (hr:=hri3);intro bt ot hpt;rw[show ((j:Int).toNat *10)=j *10 from rfl,hci] at hpt)|refine H9 ?_ hm|(refine N8 ?_ hm;clear hm;intro _ hm;try simp only[F7] at hm)|refine Y9 ?_ hm|refine D7 ?_|refine D5 ?_|refine J5 ?_|refine A2L ?_|refine X9 ?_|refine G7 ?_|refine C9 ?_|refine Q9 ?_|refine D8 ?_|refine A7 ?_|refine G5 ?_|refine O8 ?_|refine E5 ?_|refine A8 ?_|refine E9 ?_|refine G8 ?_|refine F6 ?_|(refine D6 (ht:=fun _=>?_) (hf:=fun _=>?_)<;>(try first|contradiction|(exfalso;omega))))
  all_goals try first|omega|contradiction
  exact⟨I3,[],⟨rfl,none,0,rfl,hmore _⟩,hm.left (H:= [])⟩
 rw[if_neg (fun hh=>hh hpl)] at hfin
 have hcall2:=fun (J:O5) (m:Le I J) (bf bm:Nat) (hp:PtrI J bf 0 25 [.slice a its.length cp])=>hcall J m bf bm hp hpl
 clear hcall
 generalize Sp.A0v its 40 nm args Sp.MR0=r at hfin hcall2 hto
 repeat' (first|refine Z5 1 ?_|(refine A0t (d:=3) ?_ hm;clear hm;intro b3 _ hm)|(refine V6 (d:=6) ?_ hm;clear hm;intro b6 _ hm)|refine D8 ?_|refine A7 ?_|refine E5 ?_|refine A8 ?_)
 all_goals try first|omega|contradiction
 obtain⟨I2,hle2,hm2,hpf⟩:=Mem.freezeO hm.swap
 clear hm
 have hm:=hm2
 clear hm2
 have hri2:=hri.le hle2
 refine⟨?_⟩
 repeat' (first|(refine U7 (d:=10) ?_ hm (hp:=hpf))|(refine L9 (d:=12) ?_ hm (hc:=hfind I2 hle2);clear hm;intro _ hm)|(refine U7 (d:=14) ?_ hm (hp:=hpf))|(refine F5 (d:=15) ?_ hm (hp:=pm0) (hc:=hAll I2 hle2);clear hm;rintro _ I3 _ _ ⟨rfl,da,dp,rfl,hrd⟩ hleI3 hm;try simp only[F7] at hm;have hpf3:=hpf.le hleI3;have hri3:=hri2.le hleI3)|(refine L6 (d:=29) ?_ (hr:=hri3);intro bt ot hpt;rw[show ((j:Int).toNat *10)=j *10 from rfl,hci] at hpt)|refine Z5 9 ?_|(refine A0t (d:=36) ?_ hm;clear hm;intro b36 _ hm)|refine H9 ?_ hm|refine D7 ?_|refine D5 ?_|refine J5 ?_|refine A2L ?_|refine X9 ?_|refine G7 ?_|refine C9 ?_|refine Q9 ?_|refine D8 ?_|refine A7 ?_|refine D9 ?_|refine E5 ?_|refine A8 ?_|refine E9 ?_|refine F8 ?_|refine F6 ?_|(refine D6 (ht:=fun _=>?_) (hf:=fun _=>?_)<;>(try first|contradiction|(exfalso;omega))))
 all_goals try first|omega|contradiction
 have hm:=(hm.nil 35 2).swap
 have hC:=hcall2 I3 (hle2.trans hleI3) b3 b36 hpf3
 refine⟨?_⟩
 by_cases he:r.2.err≠0
 ·rw[if_pos he] at hfin
  subst hfin
  repeat' (first|(refine F5 (d:=40) ?_ hm (hp:=pm2_0) (hc:=hC);clear hm;rintro _ I4 _ _ ⟨rfl,va4,vp4,rfl⟩ hleI4 hm;try simp only[F7] at hm)|refine H6 ?_ hm|(refine N8 ?_ hm;clear hm;intro _ hm;try simp only[F7] at hm)|refine Y9 ?_ hm|refine D7 ?_|refine D5 ?_|refine X9 ?_|refine E8 ?_|refine C9 ?_|refine Q9 ?_|refine D8 ?_|refine A7 ?_|refine G5 ?_|refine E5 ?_|refine A8 ?_|refine G8 ?_|(refine D6 (ht:=fun _=>?_) (hf:=fun _=>?_)<;>(try first|contradiction|(exfalso;omega))))
  all_goals try first|omega|contradiction
  exact⟨I4,[],⟨rfl,none,0,rfl,hmore _⟩,hm.left (H:= [])⟩
 ·rw[if_neg he] at hfin
  have he0:r.2.err=0:=by omega
  subst hfin
  repeat' (first|(refine F5 (d:=40) ?_ hm (hp:=pm2_0) (hc:=hC);clear hm;rintro _ I4 _ _ ⟨rfl,va4,vp4,rfl⟩ hleI4 hm;try simp only[F7] at hm)|(refine Q5 (id:=12) 10 (h:=?_))|refine H6 ?_ hm|refine P8 ?_ hm|(refine N8 ?_ hm;clear hm;intro _ hm;try simp only[F7] at hm)|refine Y9 ?_ hm|refine D7 ?_|refine D5 ?_|refine X9 ?_|refine E8 ?_|refine C9 ?_|refine D8 ?_|refine A7 ?_|refine E5 ?_|refine A8 ?_|refine F8 ?_|refine G8 ?_|(refine V4 ?_;intro _ hkq;replace hm:=hm.kept0 hkq;clear hkq)|(refine D6 (ht:=fun _=>?_) (hf:=fun _=>?_)<;>(try first|contradiction|(exfalso;omega)))|refine U3 ?_|refine J4 ?_|refine H7 ?_|refine B7I ?_)
  all_goals try first|omega|contradiction
  obtain⟨I5,hle5,hm5,hrow⟩:=Mem.freeze (hm.perm (pm1_1.trans (.refl _)))
  exact⟨I5,[],⟨rfl,va4,vp4,rfl,hrow⟩,hm5.left (H:= [])⟩
theorem A7E (l:List Sp.Ev) (n:Nat) (hn:n<256) (I:O5) (h:FE I its a cp xs) (hA:Sp.AllOk src its) (hl:l.length≤1000000000) (la:Option Addr) (lc:Nat)
  (hrl:RowI I 35 2 (.slice la l.length lc) l.length (l.flatMap A0Q)):
  CalM prog 29 #[.agg [.slice a its.length cp].toArray,.slice la l.length lc,nt n] I [] (fun v I' H'=>H'= []∧∃ea ep,v=.slice ea (Sp.U1 its l n).length ep∧RowI I' 35 2 (.slice ea (Sp.U1 its l n).length ep) (Sp.U1 its l n).length ((Sp.U1 its l n).flatMap A0Q)):=by
 refine CalM.of fun w E hm=>enter (N:=40) func29 rfl [(0,.agg [.slice a its.length cp].toArray),(1,.slice la l.length lc),(2,nt n)] A3h rfl ?_
 have hfew:=hA.few
 repeat' (first|refine Z5 2 ?_|(refine A0t (d:=3) ?_ hm;clear hm;intro b3 _ hm)|refine D5 ?_|refine D8 ?_|refine A7 ?_|refine E5 ?_|refine A8 ?_)
 all_goals try first|omega|contradiction
 obtain⟨I2,hle2,hm2,hpf⟩:=hm.freezeO
 clear hm
 have hm:=hm2.nil 35 2
 clear hm2
 have h2:=h.le hle2
 have hrl2:=hrl.le hle2
 have hri:=h2.row
 have hfind:=fun (nm:List UInt8)=>(A2B 1 nm its I2 a cp xs h2).read
 refine⟨?_⟩
 repeat' (first|refine D7 ?_|refine G7 ?_|refine D8 ?_|refine A7 ?_|refine A8 ?_|refine E9 ?_)
 all_goals try first|omega|contradiction
 refine U4 (fun x:DgX=> [(2,nt n),(3,ptr b3),(7,.slice x.sa (Sp.U1 its (l.take x.q) n).length x.sp),(11,.slice la l.length lc),(12,nt l.length),(13,nt x.q)])
  (fun x w'=>Mem E I2 [.row (.slice x.sa (Sp.U1 its (l.take x.q) n).length x.sp) 35 2 (Sp.U1 its (l.take x.q) n).length ((Sp.U1 its (l.take x.q) n).flatMap A0Q)] w'∧x.q≤l.length) (fun x=>l.length-x.q) ⟨0,none,0⟩
  (by exact⟨rfl,rfl,rfl,rfl,rfl,rfl,trivial⟩) ⟨hm,Nat.zero_le _⟩ ?_
 clear hm
 rintro⟨k,oa,op⟩ w3 ⟨hm,hk⟩
 dsimp only at hm hk ⊢
 by_cases hlt:k<l.length
 ·have hg:l[k]?=some l[k]:=List.getElem?_eq_getElem hlt
  generalize l[k]=e at hg
  have hst:Sp.U1 its (l.take (k+1)) n=Sp.U1 its (l.take k) n++(if Sp.A4a its n e=true then [e] else []):=by
   rw[Sp.U1,Sp.P9 hg,List.filter_append,Sp.U1]
   congr 1
   cases hb:Sp.A4a its n e<;>simp[hb]
  have hsl:(Sp.U1 its (l.take k) n).length≤k:=by
   have:=List.length_filter_le (Sp.A4a its n) (l.take k)
   rw[List.length_take] at this
   rw[Sp.U1];omega
  generalize Sp.U1 its (l.take k) n=sk at hm hst hsl
  rw[Sp.A4a] at hst
  have hF:=hfind e.ch
  cases hf:Sp.Q8 its 1 e.ch with
  |none=>
   rw[hf] at hst
   simp only[Bool.false_eq_true,if_false,List.append_nil] at hst
   rw[show Sp.A0Y its 1 e.ch= -1 by rw[Sp.A0Y,hf]] at hF
   repeat' (first|(refine P5 (d:=15) (enc:=A0Q) (z:=e) ?_ (hr:=hrl2) (he:=fun _=>rfl) (hz:=by exact hg);intro bz oz hpz)|(refine U7 (d:=17) ?_ hm (hp:=hpf))|(refine L9 (d:=20) ?_ hm (hc:=hF);clear hm;intro _ hm)|(refine V7 (d:=9) ?_ hm;clear hm;intro b9 _ hm)|refine H6 ?_ hm|refine U7 ?_ hm|refine D7 ?_|refine D5 ?_|refine J3 ?_|refine J5 ?_|refine A0i ?_|refine Q4 ?_|refine C9 ?_|refine Y1 ?_|refine D8 ?_|refine A7 ?_|refine D9 ?_|refine E5 ?_|refine A8 ?_|refine E9 ?_|refine F8 ?_|refine F6 ?_|(refine D6 (ht:=fun _=>?_) (hf:=fun _=>?_)<;>(try first|contradiction|(exfalso;omega))))
   all_goals try first|omega|contradiction
   exact J9 (⟨k+1,oa,op⟩:DgX) (by exact⟨rfl,rfl,by rw[hst];rfl,rfl,rfl,rfl,trivial⟩) ⟨by dsimp only;rw[hst];exact hm.tl,by dsimp only;omega⟩ (by dsimp only;omega)
  |some j=>
   rw[hf] at hst
   dsimp only at hst
   rw[show Sp.A0Y its 1 e.ch=(j:Int) by rw[Sp.A0Y,hf]] at hF
   obtain⟨hjl,_,_,_,hmem⟩:=Sp.Y8 hf
   have hlb:=(hA.lab _ hmem).1
   obtain⟨ci,hci,hat,_⟩:=h2.get (Sp.A0K hjl)
   obtain⟨it,hit⟩:∃it,it=Sp.N9 its j:=⟨_,rfl⟩
   simp only[←hit] at hst hlb hat
   obtain⟨pa,pc,sa9,sc9,ba,bc9,da9,dc9,xb,rfl,_⟩:=hat
   have haz:=Sp.A7N hlb hn
   by_cases hfl:Sp.S9 it.label n=true
   ·have h0:=haz.2 hfl
    rw[if_pos hfl] at hst
    repeat' (first|(refine P5 (d:=15) (enc:=A0Q) (z:=e) ?_ (hr:=hrl2) (he:=fun _=>rfl) (hz:=by exact hg);intro bz oz hpz)|(refine U7 (d:=17) ?_ hm (hp:=hpf))|(refine L9 (d:=20) ?_ hm (hc:=hF);clear hm;intro _ hm)|(refine L6 (d:=27) ?_ (hr:=hri);intro bt ot hpt;rw[show ((j:Int).toNat *10)=j *10 from rfl,hci] at hpt)|(refine A7B (d:=31) ?_;rw[Int.toNat_natCast,Int.toNat_natCast,h0])|(refine V7 (d:=9) ?_ hm;clear hm;intro b9 _ hm)|(refine A2b (d:=37) ?_ hm;clear hm;intro a37 cp37 _ _ hm;try simp only[F7] at hm)|refine H6 ?_ hm|refine H9 ?_ hm|refine U5 ?_ hm|refine U7 ?_ hm|refine D7 ?_|refine D5 ?_|refine J8 ?_|refine J5 ?_|refine A0i ?_|refine L8 ?_|refine Q4 ?_|refine C9 ?_|refine D8 ?_|refine A7 ?_|refine D9 ?_|refine E5 ?_|refine A8 ?_|refine E9 ?_|refine F8 ?_|refine F9 ?_|(refine D6 (ht:=fun _=>?_) (hf:=fun _=>?_)<;>(try first|contradiction|(exfalso;omega))))
    all_goals try first|omega|contradiction
    refine J9 (⟨k+1,a37,cp37⟩:DgX) (by exact⟨rfl,rfl,by rw[hst,List.length_append];rfl,rfl,rfl,rfl,trivial⟩) ⟨?_,by dsimp only;omega⟩ (by dsimp only;omega)
    dsimp only
    rw[hst,List.flatMap_append,List.length_append]
    exact hm.tl
   ·have h0:it.label &&& (2 ^ 64-1-n)≠0:=fun hh=>hfl (haz.1 hh)
    rw[if_neg hfl,List.append_nil] at hst
    clear haz
    obtain⟨z,hz⟩:∃z,z=it.label &&& (2 ^ 64-1-n):=⟨_,rfl⟩
    rw[←hz] at h0
    repeat' (first|(refine P5 (d:=15) (enc:=A0Q) (z:=e) ?_ (hr:=hrl2) (he:=fun _=>rfl) (hz:=by exact hg);intro bz oz hpz)|(refine U7 (d:=17) ?_ hm (hp:=hpf))|(refine L9 (d:=20) ?_ hm (hc:=hF);clear hm;intro _ hm)|(refine L6 (d:=27) ?_ (hr:=hri);intro bt ot hpt;rw[show ((j:Int).toNat *10)=j *10 from rfl,hci] at hpt)|(refine A7B (d:=31) ?_;rw[Int.toNat_natCast,Int.toNat_natCast, ←hz])|(refine V7 (d:=9) ?_ hm;clear hm;intro b9 _ hm)|refine H6 ?_ hm|refine H9 ?_ hm|refine U7 ?_ hm|refine D7 ?_|refine D5 ?_|refine J8 ?_|refine J5 ?_|refine A0i ?_|refine L8 ?_|refine Q4 ?_|refine C9 ?_|refine D8 ?_|refine A7 ?_|refine D9 ?_|refine E5 ?_|refine A8 ?_|refine E9 ?_|refine F8 ?_|(refine D6 (ht:=fun _=>?_) (hf:=fun _=>?_)<;>(try first|contradiction|(exfalso;omega))))
    all_goals try first|omega|contradiction
    exact J9 (⟨k+1,oa,op⟩:DgX) (by exact⟨rfl,rfl,by rw[hst];rfl,rfl,rfl,rfl,trivial⟩) ⟨by dsimp only;rw[hst];exact hm.tl,by dsimp only;omega⟩ (by dsimp only;omega)
 ·obtain rfl:k=l.length:=by omega
  rw[List.take_length] at hm ⊢
  repeat' (first|refine D7 ?_|refine D5 ?_|refine J5 ?_|refine D8 ?_|refine A7 ?_|refine G9 ?_|refine G6 ?_|refine E5 ?_|refine A8 ?_|refine O4 ?_|refine G8 ?_|refine H5 ?_|(refine D6 (ht:=fun _=>?_) (hf:=fun _=>?_)<;>(try first|contradiction|(exfalso;omega))))
  all_goals try first|omega|contradiction
  obtain⟨I4,hle4,hm4,hrow⟩:=hm.freeze
  exact⟨I4,[],⟨rfl,_,_,rfl,hrow⟩,hm4⟩
end
end Go.Proofs.YtfjdfdgpkncpfaaGreatDoor
end
section
namespace Go.Sp
def B2B:List UInt8:= [99,104,97,110,32,99,58,32,123,125,59,10,102,110,32,102,40,120,58,32,123,125,41,58,32,123,125,32,115,101,110,100,115,32,99,32,123,32,108,101,116,32,105,32,61,32,48,59,32,119,104,105,108,101,32,105,32,60,32,120,32,123,32,115,101,110,100,32,99,32,105,32,42,32,105,59,32,105,32,61,32,105,32,43,32,49,59,32,125,32,114,101,116,117,114,110,32,105,59,32,125]
theorem B2D:Y5 B2B=0:=by decide+kernel
theorem B2C:A2I (H8 B2B)= []:=by decide+kernel
theorem B7K:(A0U (H8 B2B) [102] [3]).ev= [⟨[99],0⟩,⟨[99],1⟩,⟨[99],4⟩]∧(A0U (H8 B2B) [102] [3]).n=3∧(A0U (H8 B2B) [102] [3]).err=0:=by decide+kernel
theorem B5T:(U1 (H8 B2B) [⟨[99],0⟩,⟨[99],1⟩,⟨[99],4⟩] 0).length=3:=by decide+kernel
theorem B3k {c a b:Nat} (h:S9 c (a &&& b)=true):S9 c a=true:=by
 rw[A0E] at h ⊢
 intro k hk hc
 have:=h k hk hc
 rw[Nat.testBit_and,Bool.and_eq_true] at this
 exact this.1
theorem B0h (its:List Itm) (l:List Ev) (a b:Nat):U1 its (U1 its l a) (a &&& b)=U1 its l (a &&& b):=by
 rw[U1,U1,U1,List.filter_filter]
 refine List.filter_congr fun e _=>?_
 rw[Bool.eq_iff_iff,Bool.and_eq_true]
 refine⟨fun h=>h.1,fun h=>⟨h,?_⟩⟩
 rw[A4a] at h ⊢
 split at h
 ·exact B3k h
 ·cases h
theorem B7O (its:List Itm) (l:List Ev) (a b:Nat):(U1 its l (a &&& b)).length≤(U1 its l a).length∧(U1 its l a).length≤l.length:=by
 refine⟨?_,List.length_filter_le _ _⟩
 rw[←B0h]
 exact List.length_filter_le _ _
end Go.Sp
end
section
namespace Go.Proofs.YtfjdfdgpkncpfaaGreatDoor
open Go.Proofs.Tryz
open Go.Fw
theorem B1f (I:O5) (hC:A1X I):CalM prog 24 #[] I [] (fun v _ H'=>v=.bool true∧H'= []):=by
 refine CalM.of fun w E hm=>enter (N:=51) func24 rfl [] B9o rfl ?_
 have h1:=fun (J:O5) (m:Le I J)=>B0U Sp.B2B J (hC.le m) (by decide)
 rw[Sp.B2D] at h1
 have hA:=Sp.A8m Sp.B2D
 have hok:=Sp.B3N Sp.B2C
 have hall:=Sp.B2C
 have hran:=Sp.B7K
 have hsn:=Sp.B5T
 generalize Sp.H8 Sp.B2B=its at h1 hA hok hall hran hsn
 have hR:=fun (J:O5) (a cp xs) (h:FE J its a cp xs) (aa:Option Addr) (ac:Nat) (hr:RowI J 3 1 (.slice aa 1 ac) 1 (A6K [3]))=>B4Q [102] [3] J h hA (fun _=>hok) aa ac hr
 have hD:=fun (J:O5) (a cp xs) (h:FE J its a cp xs)=>B9A J h hA
 rw[hall] at hD
 obtain⟨e1,e2,e3⟩:=hran
 unfold B4f B80 at hR
 rw[e1,e2,e3] at hR
 have hS:=fun (J:O5) (a cp xs) (h:FE J its a cp xs) (la:Option Addr) (lc:Nat) (hr:RowI J 35 2 (.slice la 3 lc) 3 (([⟨[99],0⟩,⟨[99],1⟩,⟨[99],4⟩]:List Sp.Ev).flatMap A0Q))=>A7E [⟨[99],0⟩,⟨[99],1⟩,⟨[99],4⟩] 0 (by decide) J h hA (by decide) la lc hr
 rw[hsn] at hS
 repeat' (first|(refine F5 (d:=5) ?_ hm (hp:=pm0) (hc:=h1 I (Le.refl _));clear hm;rintro _ I2 _ _ ⟨a,cp,xs,rfl,hrow,hits,rfl⟩ hleI2 hm;try simp only[F7] at hm)|(refine A2J (d:=9) ?_ hm;clear hm;intro b9 _ hm;obtain⟨I3,hle3,hm3,hr9⟩:=hm.freeze;clear hm;have hm:=hm3;clear hm3;have q3:=(A6F hrow hits hA.few).le hle3)|(refine F5 (d:=10) ?_ hm (hp:=pm0) (hc:=hR I3 _ _ _ q3 _ _ hr9);clear hm;rintro _ I4 _ _ ⟨rfl,ea,ep,rfl,hre⟩ hleI4 hm;try simp only[F7] at hm;have q4:=q3.le hleI4)|refine Z5 3 ?_|(refine V7 (d:=1) ?_ hm;clear hm;intro b1 _ hm)|(refine V7 (d:=3) ?_ hm;clear hm;intro b3 _ hm)|refine U5 ?_ hm|refine D7 ?_|refine D5 ?_|refine V9 ?_|refine D8 ?_|refine A7 ?_|refine E5 ?_|refine A8 ?_)
 all_goals try first|omega|contradiction
 refine⟨?_⟩
 repeat' (first|(refine P5 (d:=32) (enc:=A0Q) (z:=⟨[99],4⟩) ?_ (hr:=hre) (he:=fun _=>rfl) (h1:=by decide) (hz:=by rfl);intro bz oz hpz)|(refine F5 (d:=39) ?_ hm (hp:=pm0) (hc:=hD I4 _ _ _ q4);clear hm;rintro _ I5 _ _ ⟨rfl,da,dp,rfl,hrd⟩ hleI5 hm;try simp only[F7] at hm;have hre5:=hre.le hleI5)|(refine F5 (d:=47) ?_ hm (hp:=pm0) (hc:=hS I5 _ _ _ (q4.le hleI5) _ _ hre5);clear hm;rintro _ I6 _ _ ⟨rfl,fa,fp,rfl,hrf⟩ hleI6 hm;try simp only[F7] at hm)|refine H6 ?_ hm|refine H9 ?_ hm|refine U5 ?_ hm|refine D7 ?_|refine D5 ?_|refine J8 ?_|refine L8 ?_|refine G7 ?_|refine C9 ?_|refine D8 ?_|refine A7 ?_|refine A8 ?_|refine G8 ?_|refine H5 ?_)
 all_goals try first|omega|contradiction
 all_goals exact⟨I6,[],⟨rfl,rfl⟩,hm.left (H:= [])⟩
theorem B8s (d:Sp.Ev):A34 (A0Q d) (A0Q d)=true:=by simp[A34,A6a]
theorem B2S (l:List Sp.Ev) (hl:l.length≤1000000000) (I:O5) (a b:Option Addr) (c d:Nat) (ha:RowI I 35 2 (.slice a l.length c) l.length (l.flatMap A0Q)) (hb:RowI I 35 2 (.slice b l.length d) l.length (l.flatMap A0Q)):
  CalM prog 28 #[.slice a l.length c,.slice b l.length d] I [] (fun v _ H'=>v=.bool true∧H'= []):=by
 refine CalM.of fun w E hm=>enter (N:=26) func28 rfl [(0,.slice a l.length c),(1,.slice b l.length d)] A0B rfl ?_
 repeat' (first|refine D7 ?_|refine D5 ?_|refine X9 ?_|refine G7 ?_|refine D8 ?_|refine A7 ?_|refine E5 ?_|refine A8 ?_|refine E9 ?_|refine F8 ?_|(refine D6 (ht:=fun _=>?_) (hf:=fun _=>?_)<;>(try first|contradiction|(exfalso;omega))))
 all_goals try first|omega|contradiction
 refine U4 (fun x:NI=> [(0,.slice a l.length c),(1,.slice b l.length d),(12,nt l.length),(13,nt x.k)])
  (fun x w'=>Mem E x.I [] w'∧Le I x.I∧x.k≤l.length) (fun x=>l.length-x.k) ⟨0,I⟩ (by exact⟨rfl,rfl,rfl,rfl,trivial⟩) ⟨hm,Le.refl _,Nat.zero_le _⟩ ?_
 clear hm
 rintro⟨k,I1⟩ w1 ⟨hm,hle1,hk⟩
 dsimp only at hm hle1 hk ⊢
 by_cases hlt:k<l.length
 ·have hg:l[k]?=some l[k]:=List.getElem?_eq_getElem hlt
  generalize l[k]=s at hg
  have ha1:=ha.le hle1
  have hb1:=hb.le hle1
  repeat' (first|(refine A0n (d:=18) (enc:=A0Q) (z:=s) ?_ (hr:=ha1) (he:=fun _=>rfl) (hz:=by exact hg);intro b1 o1 p1)|(refine A0n (d:=22) (enc:=A0Q) (z:=s) ?_ (hr:=hb1) (he:=fun _=>rfl) (hz:=by exact hg);intro b2 o2 p2)|refine A4u ?_ hm|refine D7 ?_|refine D5 ?_|refine J5 ?_|refine Q4 ?_|refine D8 ?_|refine A7 ?_|refine G5 ?_|refine D9 ?_|refine O8 ?_|refine E5 ?_|refine A8 ?_|refine E9 ?_|refine F8 ?_|refine G8 ?_|refine H5 ?_|refine O6 ?_|(refine W9 ?_;intro _ hkq;replace hm:=hm.kept0 hkq;clear hkq)|(refine D6 (ht:=fun _=>?_) (hf:=fun _=>?_)<;>(try first|contradiction|(exfalso;omega)))|refine A5a (ht:=fun _=>?_) (hf:=fun _=>?_)|refine U3 ?_|refine B3K ?_)
  all_goals try first|omega|contradiction
  all_goals try (exfalso;rename_i hx;rw[B8s] at hx;exact absurd hx (by decide))
  exact J9 (⟨k+1,I1⟩:NI) (by exact⟨rfl,rfl,rfl,rfl,trivial⟩) ⟨hm,hle1,by dsimp only;omega⟩ (by dsimp only;omega)
 ·obtain rfl:k=l.length:=by omega
  repeat' (first|refine D5 ?_|refine J5 ?_|refine D8 ?_|refine A7 ?_|refine G9 ?_|refine G6 ?_|refine E5 ?_|refine A8 ?_|refine O4 ?_|refine G8 ?_|refine H5 ?_|(refine D6 (ht:=fun _=>?_) (hf:=fun _=>?_)<;>(try first|contradiction|(exfalso;omega))))
  all_goals try first|omega|contradiction
  exact⟨I1,[],⟨rfl,rfl⟩,hm⟩
theorem B7Q (s:List UInt8) (l:List Sp.Ev) (na nb:Int) (la:Option Addr) (lc:Nat) (I:O5) (hs:s.length≤9223372036854775807) (hll:l.length≤1000000000) (hC:A1X I) (hrl:RowI I 35 2 (.slice la l.length lc) l.length (l.flatMap A0Q)):
  CalM prog 8 #[str s,.slice la l.length lc,.int .i64 na,.int .i64 nb] I [] (fun v _ H'=>v=.bool true∧H'= []):=by
 refine CalM.of fun w E hm=>enter (N:=64) func8 rfl [(0,str s),(1,.slice la l.length lc),(2,.int .i64 na),(3,.int .i64 nb)] A8I rfl ?_
 have hAl:=B1f I hC
 have hF:=fun (J:O5) (m:Le I J)=>B0U s J (hC.le m) hs
 by_cases h0:Sp.Y5 s≠0
 ·generalize Sp.Y5 s=er at hF h0
  generalize Sp.H8 s=its at hF
  repeat' (first|(refine F5 (d:=13) ?_ hm (hp:=pm0) (hc:=hAl);clear hm;rintro _ I1 _ _ ⟨rfl,rfl⟩ hleI1 hm;try simp only[F7] at hm)|(refine F5 (d:=17) ?_ hm (hp:=pm0) (hc:=hF I1 hleI1);clear hm;rintro _ I2 _ _ ⟨a,cp,xs,rfl,hrow,hits,rfl⟩ hleI2 hm;try simp only[F7] at hm)|(refine V7 (d:=9) ?_ hm;clear hm;intro b9 _ hm)|refine D7 ?_|refine D5 ?_|refine J8 ?_|refine X9 ?_|refine U9 ?_|refine V9 ?_|refine Y1 ?_|(refine O0 (h1:=fun _=>?_) (h0:=fun _=>?_)<;>(try first|contradiction|(exfalso;omega)))|refine D8 ?_|refine A7 ?_|refine G5 ?_|refine E5 ?_|refine A8 ?_|refine F8 ?_|refine G8 ?_|refine H5 ?_|refine F9 ?_|refine F6 ?_)
  all_goals try first|omega|contradiction
  all_goals exact⟨I2,[],⟨rfl,rfl⟩,hm.left (H:= [])⟩
 have h00:Sp.Y5 s=0:=by omega
 rw[h00] at hF
 have hA:=Sp.A8m h00
 generalize Sp.H8 s=its at hF hA
 by_cases hna:0≤na∧na≤255
 case neg=>
  repeat' (first|(refine F5 (d:=13) ?_ hm (hp:=pm0) (hc:=hAl);clear hm;rintro _ I1 _ _ ⟨rfl,rfl⟩ hleI1 hm;try simp only[F7] at hm)|(refine F5 (d:=17) ?_ hm (hp:=pm0) (hc:=hF I1 hleI1);clear hm;rintro _ I2 _ _ ⟨a,cp,xs,rfl,hrow,hits,rfl⟩ hleI2 hm;try simp only[F7] at hm)|(refine Q7 (d:=24) (hc:=by exact A4L na _) (k:=?_);rintro _ _ ⟨rfl,rfl⟩)|(refine V7 (d:=9) ?_ hm;clear hm;intro b9 _ hm)|refine D7 ?_|refine D5 ?_|refine J8 ?_|refine J3 ?_|refine X9 ?_|refine U9 ?_|refine V9 ?_|refine Y1 ?_|(refine A4H (h1:=fun _=>?_) (h0:=fun _=>?_)<;>(fail_if_success contradiction))|refine D8 ?_|refine A7 ?_|refine G5 ?_|refine E5 ?_|refine A8 ?_|refine F8 ?_|refine G8 ?_|refine H5 ?_|refine F9 ?_|refine F6 ?_)
  all_goals try first|omega|contradiction
  all_goals first
   |exact⟨I2,[],⟨rfl,rfl⟩,hm.left (H:= [])⟩
   |(exfalso;rename_i hx;rw[decide_eq_false hna] at hx;exact absurd hx (by decide))
 by_cases hnb:0≤nb∧nb≤255
 case neg=>
  repeat' (first|(refine F5 (d:=13) ?_ hm (hp:=pm0) (hc:=hAl);clear hm;rintro _ I1 _ _ ⟨rfl,rfl⟩ hleI1 hm;try simp only[F7] at hm)|(refine F5 (d:=17) ?_ hm (hp:=pm0) (hc:=hF I1 hleI1);clear hm;rintro _ I2 _ _ ⟨a,cp,xs,rfl,hrow,hits,rfl⟩ hleI2 hm;try simp only[F7] at hm)|(refine Q7 (d:=24) (hc:=by exact A4L na _) (k:=?_);rintro _ _ ⟨rfl,rfl⟩)|(refine Q7 (d:=29) (hc:=by exact A4L nb _) (k:=?_);rintro _ _ ⟨rfl,rfl⟩)|(refine V7 (d:=9) ?_ hm;clear hm;intro b9 _ hm)|refine B3A ?_ hm|refine D7 ?_|refine D5 ?_|refine J8 ?_|refine J3 ?_|refine X9 ?_|refine U9 ?_|refine V9 ?_|refine Y1 ?_|(refine A4H (h1:=fun _=>?_) (h0:=fun _=>?_)<;>(fail_if_success contradiction))|refine D8 ?_|refine A7 ?_|refine G5 ?_|refine E5 ?_|refine A8 ?_|refine F8 ?_|refine G8 ?_|refine H5 ?_|refine O6 ?_|refine F9 ?_|refine F6 ?_|refine A5a (ht:=fun _=>?_) (hf:=fun _=>?_)|refine U3 ?_)
  all_goals try first|omega|contradiction
  all_goals first
   |exact⟨I2,[],⟨rfl,rfl⟩,hm.left (H:= [])⟩
   |(exfalso;rename_i hx;rw[decide_eq_false hnb] at hx;exact absurd hx (by decide))
 obtain⟨x,rfl⟩:∃x:Nat,na=x:=⟨na.toNat,by omega⟩
 obtain⟨y,rfl⟩:∃y:Nat,nb=y:=⟨nb.toNat,by omega⟩
 have hx:x<256:=by omega
 have hy:y<256:=by omega
 have hrx:=A4L (x:Int)
 rw[decide_eq_true hna] at hrx
 have hry:=A4L (y:Int)
 rw[decide_eq_true hnb] at hry
 have hM:=B6o x y hx hy
 have hz:x &&& y<256:=Nat.lt_of_le_of_lt Nat.and_le_left hx
 have hlaw:=Sp.B0h its l x y
 have hlen:=Sp.B7O its l x y
 have hMJ:∀J:O5,CalR prog 30 #[nt x,nt y] J [] (nt (x &&& y)):=fun J=>⟨fun w _ _=>(hM w).mono (fun v w' ⟨h1,h2⟩=>⟨h1,by rw[h2];exact Kept.refl _ _⟩)⟩
 generalize x &&& y=z at hM hz hlaw hlen hMJ
 repeat' (first|(refine F5 (d:=13) ?_ hm (hp:=pm0) (hc:=hAl);clear hm;rintro _ I1 _ _ ⟨rfl,rfl⟩ hleI1 hm;try simp only[F7] at hm)|(refine F5 (d:=17) ?_ hm (hp:=pm0) (hc:=hF I1 hleI1);clear hm;rintro _ I2 _ _ ⟨a,cp,xs,rfl,hrow,hits,rfl⟩ hleI2 hm;try simp only[F7] at hm)|(refine Q7 (d:=24) (hc:=by exact hrx _) (k:=?_);rintro _ _ ⟨rfl,rfl⟩)|(refine Q7 (d:=29) (hc:=by exact hry _) (k:=?_);rintro _ _ ⟨rfl,rfl⟩)|refine Z5 6 ?_|(refine V7 (d:=9) ?_ hm;clear hm;intro b9 _ hm)|refine D7 ?_|refine D5 ?_|refine J3 ?_|refine X9 ?_|refine U9 ?_|refine V9 ?_|refine D8 ?_|refine A7 ?_|refine E5 ?_|refine A8 ?_|refine F8 ?_|refine F6 ?_)
 all_goals try first|omega|contradiction
 have q1:FE I2 its a cp xs:=A6F hrow hits hA.few
 obtain⟨I3,hle3,hm3,hpf⟩:=hm.freezeO
 clear hm
 have hm:=hm3
 clear hm3
 have q3:=q1.le hle3
 have hrl3:=(hrl.le (hleI1.trans hleI2)).le hle3
 have hS1:=A7E l z hz I3 q3 hA hll la lc hrl3
 have hS2:=fun (J:O5) (m:Le I3 J)=>A7E l x hx J (q3.le m) hA hll la lc (hrl3.le m)
 have hS3:=fun (J:O5) (m:Le I3 J) (ea:Option Addr) (ep:Nat) (h:RowI J 35 2 (.slice ea (Sp.U1 its l x).length ep) (Sp.U1 its l x).length ((Sp.U1 its l x).flatMap A0Q))=>A7E (Sp.U1 its l x) z hz J (q3.le m) hA (by omega) ea ep h
 rw[hlaw] at hS3
 have hEv:=fun (J:O5) (a b:Option Addr) (c d:Nat) (ha:RowI J 35 2 (.slice a (Sp.U1 its l z).length c) (Sp.U1 its l z).length ((Sp.U1 its l z).flatMap A0Q)) (hb:RowI J 35 2 (.slice b (Sp.U1 its l z).length d) (Sp.U1 its l z).length ((Sp.U1 its l z).flatMap A0Q))=>B2S (Sp.U1 its l z) (by omega) J a b c d ha hb
 clear hlaw
 generalize Sp.U1 its l z=lz at hS1 hS3 hEv hlen
 generalize Sp.U1 its l x=lx at hS2 hS3 hlen
 refine⟨?_⟩
 repeat' (first|(refine A0I (id:=6) (hm.perm pm0) [0,1,2,3,6,7,8] [4,5,9] 10 (h:=?_);clear hm;intro wd hR hm)|(refine A3Y (id:=7) (hm.perm pm0) [([0,1,2,3,6],[4,5,7]),([8,9,10,11,12,13,14,15,16,17,18,19,20,21],[])] 22 (h:=?_);clear hm;intro wd hR hm)|(refine A0h (d:=32) ?_ hR (hp:=hpf))|(refine A0h (d:=38) ?_ hR (hp:=hpf))|(refine A0h (d:=42) ?_ hR (hp:=hpf5))|(refine A2A (d:=36) ?_ hR hm (hc:=hMJ _);clear hm;intro _ hm)|(refine A2A (d:=46) ?_ hR hm (hc:=hMJ _);clear hm;intro _ hm)|(refine Z7 (d:=37) ?_ hm (hp:=pm0) (hc:=hS1);clear hm;rintro _ I4 _ _ ⟨rfl,ea,ep,rfl,hr4⟩ hleI4 hm;try simp only[F7] at hm)|(refine Z7 (d:=41) ?_ hm (hp:=pm0) (hc:=hS2 I4 hleI4);clear hm;rintro _ I5 _ _ ⟨rfl,fa,fp,rfl,hr5⟩ hleI5 hm;try simp only[F7] at hm;have hpf5:=(hpf.le hleI4).le hleI5)|(refine Z7 (d:=47) ?_ hm (hp:=pm0) (hc:=hS3 I5 (hleI4.trans hleI5) _ _ hr5);clear hm;rintro _ I6 _ _ ⟨rfl,ga,gp,rfl,hr6⟩ hleI6 hm;try simp only[F7] at hm)|(refine Z7 (d:=49) ?_ hm (hp:=pm0) (hc:=hEv I6 _ _ _ _ hr6 ((hr4.le hleI5).le hleI6));clear hm;rintro _ I7 _ _ ⟨rfl,rfl⟩ hleI7 hm;try simp only[F7] at hm)|refine A69 ?_|refine A68 ?_|refine A1l ?_|refine B6k ?_|(refine A9y ?_;replace hm:=hR.back hm;clear hR;try simp only[F7] at hm)|refine D5 ?_|refine D8 ?_|refine A7 ?_|refine E5 ?_|refine G8 ?_|refine H5 ?_|refine A0P ?_|refine A5G ?_|refine A64 ?_|refine C1h ?_|refine B2U ?_|refine B49 ?_|(refine B8b (fun _=>?_) (h1:=fun _=>?_)<;>(fail_if_success contradiction))|refine A0s ?_)
 all_goals try first|omega|contradiction
 all_goals first
  |exact⟨I7,[],⟨by rw[decide_eq_true (by omega)],rfl⟩,by first|exact hm|exact hR.back hm⟩
  |(exfalso;rename_i hx;have:=of_decide_eq_false hx;omega)
end Go.Proofs.YtfjdfdgpkncpfaaGreatDoor
end
section
namespace Go.Proofs.YtfjdfdgpkncpfaaGreatDoor
open Go.Proofs.Tryz
open Go.ChangeShapes Go.WideShapes Go.ChangeAt Go.RowKit
open Go.Fw (Kept Cal str Ret)
open Go.ChangeMaps (open_string shut_string)
theorem A5y:ownKnob prog.godebug=none:=by kernel_rfl
theorem B65 {W W':World} (h:Kept [] W W') (may:MemPlace→Prop):W.keptBut W' may:=by
 refine⟨h.os,h.output,fun i hi=>?_⟩
 rw[h.blk i hi (by simp)]
 rcases hh:W.heap[i]? with _|o
 ·trivial
 ·cases o
  case cells c t fr=>exact⟨rfl,rfl,rfl,fun _ _=>rfl⟩
  case map es clock=>exact Or.inr ⟨rfl,rfl⟩
  all_goals rfl
theorem B6m {H:Type} (d:DataW H):1≤Rows.uptoBulk d:=by
 cases d with
 |lit l=>cases l<;>simp[Rows.uptoBulk]
 |nil=>simp[Rows.uptoBulk]
 |ptr d=>simp[Rows.uptoBulk]
 |slice elems spare=>simp[Rows.uptoBulk]
 |agg parts=>simp[Rows.uptoBulk]
 |iface t d=>simp[Rows.uptoBulk]
 |map entries=>simp[Rows.uptoBulk]
 |held h=>simp[Rows.uptoBulk]
theorem A4n {H:Type}{d:DataW H}{l:List (DataW H)} (h:d∈l):Rows.uptoBulk d≤Rows.uptoBulkAll l:=by
 induction l with
 |nil=>cases h
 |cons x r ih=>
  simp only[Rows.uptoBulkAll]
  cases List.mem_cons.1 h with
  |inl e=>subst e;omega
  |inr e=>have:=ih e;omega
theorem A5o {H:Type}{l:List (DataW H)} (hk:Rows.uptoSmall H l=true) {s:List UInt8} (h:DataW.lit (.string s)∈l):s.length≤1048576:=by
 have h1:Rows.uptoBulkAll l≤1048576:=by simpa[Rows.uptoSmall] using hk
 have h2:=A4n h
 simp only[Rows.uptoBulk] at h2
 omega
end Go.Proofs.YtfjdfdgpkncpfaaGreatDoor
end
section
namespace Go.Proofs.YtfjdfdgpkncpfaaGreatDoor
open Go.Proofs.Tryz
open Go.Fw
open Go.RowKit
theorem B4V : "*" ++ "errors.errorString" = "*errors.errorString" := by decide
theorem C0j (u : TypeId) (h : prog.typeName? 3 u = some "*errors.errorString") : u = 308 :=
 typeName_ptr_named (nm := "errors.errorString") (by rw [B4V]; kernel_rfl) (by kernel_rfl) (by decide) u (by rw [B4V]; exact h)
theorem B0v {l:List (String×DataW Unit)}{W:World} (h:laidMetH prog l W) (hp:(l.all fun x=>x.2.handleName?.isNone)=true)
  (he : l.filter (fun x => x.1 == "strconv.ErrRange") = [("strconv.ErrRange", Rows.laid_strconv_ErrRange)]) : A1X (A36 W) := by
 rw[MakeChecks.laidMetH_plain _ _ _ hp] at h
 have h1 := h.filter (fun x => x.1 == "strconv.ErrRange")
 rw[he] at h1
 obtain⟨a,s,hv,_⟩:=laid_sentinel (g:=2) h1 (by kernel_rfl) (ti:=245) (by kernel_rfl) underlying245 C0j underlying308 underlying310 rfl rfl underlying9 (by kernel_rfl) (by kernel_rfl)
 have hg : prog.globalNamed "strconv.ErrRange" = some 2 := by kernel_rfl
 simp only[World.var?,hg,Option.bind_some] at hv
 split at hv
 ·rename_i cs ty fr hw
  obtain rfl:=Option.some.inj hv
  exact⟨_,_,_,_,_,hw,rfl⟩
 ·cases hv
theorem A9k {f:FuncId}{args:Array Value}{v:Value}{W:World} (h:CalM prog f args (A36 W) [] (fun u _ H'=>u=v∧H'= [])):Cal prog f args W (fun u W'=>u=v∧Kept [] W W'):=
 (h.run W (Mem.start (A90 W))).mono (fun _ _ ⟨_,_,⟨h1,_⟩,h2⟩=>⟨h1,h2.kept⟩)
end Go.Proofs.YtfjdfdgpkncpfaaGreatDoor
end
section
namespace Go.Proofs.YtfjdfdgpkncpfaaGreatDoor
open Go.Proofs.Tryz
open Go.ChangeShapes Go.WideShapes Go.ChangeAt Go.RowKit
open Go.Fw
theorem A9i {W:World}{ty sz n cap:Nat}{a:Addr}{xs:List Value} (hl:xs.length=n *sz) (hsz:0<sz) (hnc:n≤cap) (hc:∀j v,xs[j]?=some v→W.cell? (a.add j)=some v):RowI (A36 W) ty sz (.slice (some a) n cap) n xs:=by
 refine⟨hl,some a,cap,rfl,hnc,fun hn=>?_⟩
 have h0:0<xs.length:=by rw[hl];exact Nat.mul_pos hn hsz
 have hx:=hc 0 xs[0] (List.getElem?_eq_getElem h0)
 obtain⟨b,off,sp⟩:=a
 have e0:(⟨b,off,sp⟩:Addr).add 0=⟨b,off,sp⟩:=rfl
 rw[e0] at hx
 cases hh:W.heap[b]? with
 |none=>simp[World.cell?,hh] at hx
 |some o=>
  cases o with
  |cells c t fr=>
   cases sp with
   |some s=>simp[World.cell?,hh] at hx
   |none=>
    refine⟨b,off,c,(t,fr),rfl,hh,fun j u hj=>?_⟩
    have h2:=hc j u hj
    rw[Addr.add_lit] at h2
    simpa[World.cell?,hh] using h2
  |_=>simp[World.cell?,hh] at hx
theorem A5n {H:Type}:∀(l:List (DataW H)),l.length≤Rows.uptoBulkAll l
 | []=>by simp
 |d::r=>by
  have h1:=A5n r
  have h2:=B6m d
  simp only[List.length_cons,Rows.uptoBulkAll]
  omega
section
variable {H:Type}{enc:TypeId×Value→H}{W:World}
set_option maxRecDepth 100000 in
theorem A7C {v:Value}{d:DataW H}{p:List MemPlace}{b0:Nat} (hval:Value.okWide prog W .any b0 33 v) (h:DataW.Trod enc prog W 0 (fun _=>true) true 33 v d p):
  ∃(a:Option Addr) (zs:List Int) (cap:Nat),v=.slice a zs.length cap∧RowI (A36 W) 3 1 (.slice a zs.length cap) zs.length (zs.map (fun n=> .int .i64 n))∧zs.length≤Rows.uptoBulk d:=by
 obtain⟨a0,len,cap,rfl⟩:=okWide_slice underlying33 hval
 obtain⟨A4P,hf⟩:=h
 rcases open_ints underlying33 underlying3 (by kernel_rfl) hf with ⟨hcs,hx⟩|⟨a,len',cap',zs,hcs,_,hl,hm,hz,hx,hcell,hwz⟩
 ·simp[Value.cells] at hcs
  obtain⟨rfl,rfl,rfl⟩:=hcs
  exact⟨none,[],0,rfl,A0z _ _ _ _ _,Nat.zero_le _⟩
 ·simp[Value.cells] at hcs
  obtain⟨rfl,rfl,rfl⟩:=hcs
  simp only[if_true] at hz
  have hbl:(zs.take len).length=len:=by rw[List.length_take];omega
  refine⟨some a,zs.take len,cap,by rw[hbl],?_,?_⟩
  ·rw[hbl]
   refine A9i (by rw[List.length_map,List.length_take];omega) (by decide) hl (fun j u hj=>?_)
   rw[List.getElem?_map,List.getElem?_take] at hj
   split at hj
   ·rename_i hjl
    have hjz:j<zs.length:=by omega
    rw[List.getElem?_eq_getElem hjz] at hj
    have h3:=hcell j hjz
    rw[List.getD_eq_getElem?_getD,List.getElem?_eq_getElem hjz] at h3
    rw[h3]
    simpa using hj
   ·cases hj
  ·rw[hbl]
   simp only[Prod.mk.injEq] at hx
   rw[hx.1]
   have h4:=A5n (lits (H:=H) .i64 (zs.take len))
   have h5:(lits (H:=H) .i64 (zs.take len)).length=len:=by rw[lits,List.length_map,List.length_take];omega
   simp only[Rows.uptoBulk]
   omega
theorem two {α:Type}{l:List α} (h:l.length=2):∃a b,l= [a,b]:=by
 match l,h with
 | [a,b],_=>exact⟨a,b,rfl⟩
set_option maxRecDepth 100000 in
theorem B6C {A4P:Nat}{cs:List Value}{x:DataW H×List MemPlace} (h:DataW.trod enc prog W 0 (fun _=>true) true A4P 35 cs=some x) (hl:cs.length=2):∃e:Sp.Ev,cs=A0Q e:=by
 obtain⟨xs,n,_,_,_,hlen,hf⟩:=DataW.trod_struct underlying35 h
 obtain⟨x0,x1,rfl⟩:=two hlen
 obtain⟨c0,c1,rfl⟩:=two hl
 have k3:prog.cellsOf 3=1:=by kernel_rfl
 have k9:prog.cellsOf 9=1:=by kernel_rfl
 have f0:DataW.trod enc prog W 0 (fun _=>true) true n 9 (([c0,c1].drop 0).take (prog.cellsOf 9))=some x0:=hf 0 _ rfl
 have f1:DataW.trod enc prog W 0 (fun _=>true) true n 3 (([c0,c1].drop 1).take (prog.cellsOf 3))=some x1:=hf 1 _ rfl
 rw[k9] at f0
 rw[k3] at f1
 obtain⟨s,e0,_,_⟩:=DataW.trod_string underlying9 f0
 obtain⟨z1,e1,_,_⟩:=DataW.trod_int underlying3 f1
 simp only[List.drop_zero,List.drop_succ_cons,List.take_succ_cons,List.take_zero,List.cons.injEq,and_true] at e0 e1
 subst e0;subst e1
 exact⟨⟨s.data.toList,z1⟩,rfl⟩
theorem A6D {C:Nat→List Value}:∀(n:Nat),(∀i,i<n→∃e:Sp.Ev,C i=A0Q e)→∃l:List Sp.Ev,l.length=n∧(List.range n).flatMap C=l.flatMap A0Q
 |0,_=>⟨[],rfl,rfl⟩
 |n+1,h=>by
  obtain⟨l,h1,h2⟩:=A6D n (fun i hi=>h i (by omega))
  obtain⟨e,g1⟩:=h n (by omega)
  refine⟨l++ [e],by rw[List.length_append,h1];rfl,?_⟩
  rw[List.range_succ,List.flatMap_append,List.flatMap_append,h2,List.flatMap_singleton,List.flatMap_singleton,g1]
theorem B4r (l:List Sp.Ev):(l.flatMap A0Q).length=l.length *2:=by
 induction l with
 |nil=>rfl
 |cons a l ih=>
  rw[List.flatMap_cons,List.length_append,ih,List.length_cons]
  show 2+l.length *2=(l.length+1) *2
  omega
set_option maxRecDepth 100000 in
theorem B2s {v:Value}{d:DataW H}{p:List MemPlace}{b0:Nat} (hval:Value.okWide prog W .any b0 29 v) (h:DataW.Trod enc prog W 0 (fun _=>true) true 29 v d p):
  ∃(a:Option Addr) (l:List Sp.Ev) (cap:Nat),v=.slice a l.length cap∧RowI (A36 W) 35 2 (.slice a l.length cap) l.length (l.flatMap A0Q)∧l.length≤Rows.uptoBulk d:=by
 obtain⟨a0,len,cap,rfl⟩:=okWide_slice underlying29 hval
 obtain⟨A4P,hf⟩:=h
 have k41:prog.cellsOf 35=2:=by kernel_rfl
 rcases Go.Deep.open_slice underlying29 hf with ⟨hcs,hx⟩|⟨a,len',cap',m,n,D,Pl,hcs,_,hl,hm,hmm,hx,hel⟩
 ·simp[Value.cells] at hcs
  obtain⟨rfl,rfl,rfl⟩:=hcs
  exact⟨none,[],0,rfl,A0z _ _ _ _ _,Nat.zero_le _⟩
 ·simp[Value.cells] at hcs
  obtain⟨rfl,rfl,rfl⟩:=hcs
  simp only[if_true] at hmm
  rw[k41] at hel
  have hC:∀i,∃c:List Value,c.length=2∧(i<len→(∀j u,c[j]?=some u→W.cell? ((a.add (i *2)).add j)=some u)∧∃q:Sp.Ev,c=A0Q q):=fun i=>by
   by_cases hi:i<len
   ·obtain⟨cs',g1,g2⟩:=hel i (by omega)
    obtain⟨_,g3,g4⟩:=World.cells?_some g1
    refine⟨cs',g3,fun _=>⟨fun j u hj=>?_,B6C g2 g3⟩⟩
    rw[g4 j (by have:=(List.getElem?_eq_some_iff.1 hj).1;omega)]
    exact hj
   ·exact⟨List.replicate 2 (.bool false),by simp,fun h=>absurd h hi⟩
  have ⟨C,hC⟩:=Classical.axiomOfChoice hC
  obtain⟨l,q1,q2⟩:=A6D (C:=C) len (fun i hi=>((hC i).2 hi).2)
  subst q1
  refine⟨some a,l,cap,rfl,?_,?_⟩
  ·rw[←q2]
   refine A9i (by rw[q2,B4r]) (by decide) hl (fun j u hj=>?_)
   have hjl:=(List.getElem?_eq_some_iff.1 hj).1
   rw[q2,B4r] at hjl
   have hi:j / 2<l.length:=by omega
   have hfl:=A7m C 2 (fun i=>(hC i).1) (List.range l.length) (j / 2) (j / 2) (List.getElem?_range hi)
   have hju:(C (j / 2))[j % 2]?=some u:=by
    rw[←hfl,List.getElem?_take,if_pos (Nat.mod_lt _ (by decide)),List.getElem?_drop,show j / 2 *2+j % 2=j by omega]
    exact hj
   have h7:=((hC (j / 2)).2 hi).1 _ _ hju
   obtain⟨b,off,sp⟩:=a
   have e1:((⟨b,off,sp⟩:Addr).add (j / 2 *2)).add (j % 2)=(⟨b,off,sp⟩:Addr).add j:=by
    unfold Addr.add
    by_cases h1:j / 2 *2=0
    ·rw[if_pos h1,show j % 2=j by omega]
    ·rw[if_neg h1,if_neg (show ¬j=0 by omega)]
     by_cases h2:j % 2=0
     ·rw[if_pos h2,show j / 2 *2=j by omega]
     ·rw[if_neg h2]
      simp only[Addr.mk.injEq,true_and,and_true]
      omega
   rw[←e1];exact h7
  ·simp only[Prod.mk.injEq] at hx
   rw[hx.1]
   have h4:=A5n ((List.range l.length).map D)
   rw[List.length_map,List.length_range] at h4
   simp only[Rows.uptoBulk]
   omega
end
theorem A1E:laidOutB prog=true:=by kernel_rfl
theorem A0O {W W':World} (h:Kept [] W W'):Below W.heap.size W W':=⟨h.os,h.tape,h.output,h.size,fun k hk=>h.blk k hk (by simp)⟩
theorem A6n {H:Type}{enc:TypeId×Value→H}{P:Program}{f:Func}{s:ChangeSpec}{apart fresh handsOn:Bool}{W W':World}{args:Array Value}{v:Value}{ds gs:List (DataW H)}{before pa pv:List MemPlace}
  (hW:DataW.Whole enc P f.params.toList s.vars apart W args.toList ds gs before)
  (hres:∀(b:Nat) (sp:Nat→Bool) (hd:Bool),DataW.TrodAll enc P W' b sp hd f.resultTypes.toList (v.resultList f.resultTypes.size) (s.fn H (ds++gs)).results [])
  (hargs:DataW.TrodAll enc P W' 0 (fun b=>decide (b<W.heap.size)) true f.params.toList args.toList (s.fn H (ds++gs)).args pa)
  (hvars:∀sp:Nat→Bool,(∀p∈before,sp p.block=true)→DataW.TrodVars enc P W' sp s.vars (s.fn H (ds++gs)).vars pv)
  (hk:Kept [] W W'):s.post enc P f apart fresh handsOn false W args v W':=by
 have hold:∀p∈before,(fun b=>decide (b<W.heap.size)) p.block=true:=fun p hp=>by simpa using hW.lt p hp
 exact⟨ds,gs,before,[],pa,pv,hW,hres _ _ _,hargs,hvars _ hold,B65 hk _,fun h=>by cases h⟩
end Go.Proofs.YtfjdfdgpkncpfaaGreatDoor
end
