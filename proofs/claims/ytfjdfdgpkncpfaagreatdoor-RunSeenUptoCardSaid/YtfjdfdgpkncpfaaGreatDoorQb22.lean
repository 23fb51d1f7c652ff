/- Own work: texts FlH, FlI, FlJ, FwCut3, FwApp2, FwAll, RunF, one behind the other. -/
import Derived.Test.YtfjdfdgpkncpfaaGreatDoorQb21
set_option maxHeartbeats 64000000
section
namespace Go.Sp
theorem B1Z {its:List Itm}{k:Nat}{it:Itm} (h:its[k]?=some it):(A2y its).take (k+1)=(A2y its).take k++ [A2z its it.sends]:=
 P9 (by rw[A2y,List.getElem?_map,h];rfl)
theorem B5B {its:List Itm}{l:List Rf}{j:Nat}{x:Rf} (h:l[j]?=some x):A2z its (l.take (j+1))=A1e its (A2z its (l.take j)) x:=by
 rw[P9 h,A2z,List.foldl_append];rfl
theorem B3H {l:List Par}{k:Nat}{p:Par} (h:l[k]?=some p):A2s (l.take (k+1))=A2s (l.take k)++ [⟨p.name,p.label⟩]:=by
 rw[P9 h,A2s,List.map_append];rfl
structure ItF (it:Itm):Prop where
 small:it.small
 body:P6 B6i B66 it.body
 cnt:N7 it.body≤400000000
end Go.Sp
namespace Go.Fw
open Go
theorem B7k {P:Program}{N:Nat}{ds:List Deferred}{Q:Exit→Act→World→Prop}{l:Log}{w w0:World}{ops:Array Oper}{os' tail:List Oper}{d:Nat}{ty:TypeId}{pos:String}{af:Array Edge}{g:Option (Nat×Bool)}{t:TypeId}{x:Operand}
  {X:List Nat}{I0 I:O5}{H:List HItem}{v:Value}{vs:List Value} (k:∀b w',Mem ⟨w0,X,I0⟩ I (.obj b (.cells vs.toArray t (0,0))::H) w'→WS P N ds ops Q X w0 os' tail ((d,.pointer (some ⟨b,0,none⟩))::l) w') (hm:Mem ⟨w0,X,I0⟩ I H w) (hw:P7 ops l ⟨some d,.box t x,ty,pos,af,g⟩=some true:=by rfl) (hN:Nat.blt d N=true:=by rfl) (hx:ev l x=some v:=by rfl) (hv:v.cells=vs.toArray:=by rfl)
   :
  WS P N ds ops Q X w0 (⟨some d,.box t x,ty,pos,af,g⟩::os') tail l w:=by
 have hk:=Kept.alloc w (.cells v.cells t (0,0))
 have hm':=hm.add (x:=.obj w.heap.size (.cells vs.toArray t (0,0))) hk (by rw[←hv];exact heap_alloc_new w _) (fun b hb=>by simp only[HItem.blk,Option.some.injEq] at hb;omega)
 refine A28 (w':=w.alloc (.cells v.cells t (0,0))) (v:=.pointer (some ⟨w.heap.size,0,none⟩)) rfl hw hN (fun a ha=>?_) hm'.kept (k _ _ hm')
 simp[execOp,Instr.box,newVar,newRow,newObj,ha.ev hx];rfl
end Go.Fw
namespace Go.Proofs.YtfjdfdgpkncpfaaGreatDoor
open Go.Proofs.Tryz
open Go.Fw
section
variable {its:List Sp.Itm}{it:Sp.Itm}{bc bf:Nat}{a:Option Addr}{cp:Nat}{xs:List Value}{pi vf:Value}{at_:Int}
theorem C00:∀(n:Nat) (l:List Sp.Stm),SizeOf.sizeOf l≤n→l.length≤64→Sp.X4 l→Sp.P6 Sp.B6i Sp.B66 l→B4c its it bc bf a cp xs pi vf at_ l:=by
 intro n
 induction n with
 |zero=>intro l h;cases l<;>simp at h
 |succ n ih=>
 intro l hsz hll hsm hal
 refine B8t l hll hal (fun y hy=>?_)
 obtain⟨j,hj,rfl⟩:=List.getElem_of_mem hy
 have hg:=List.getElem?_eq_getElem hj
 have h1:=Sp.A1J hsm hg
 have h2:=Sp.Stm.all_node (Sp.A4c hal hg)
 have h3:=Sp.A4B (List.getElem_mem hj)
 generalize l[j]=y at h1 h2 h3
 obtain⟨s1,s2,s3,s4,s5⟩:=Sp.A1h h1
 obtain⟨z1,z2⟩:=Sp.A5C (s:=y)
 exact B9W y h1 h2.1 (ih y.thn (by omega) s2 s3 h2.2.2.1) (ih y.els (by omega) s4 s5 h2.2.2.2)
theorem B6N (I:O5) (h:FE I its a cp xs) (hlab:Sp.A3G its) (hsm:∀x∈its,x.small):
  CalM prog 124 #[.agg [.slice a its.length cp].toArray] I [] (fun v I' H'=>H'= []∧∃fa fp,v=.slice fa its.length fp∧RowI I' 3 1 (.slice fa its.length fp) its.length ((Sp.A2y its).flatMap A1q)):=by
 refine CalM.of fun w E hm=>enter (N:=45) func124 rfl [(0,.agg [.slice a its.length cp].toArray)] Z4 rfl ?_
 have hfew:=h.few
 have hfl:(Sp.A2y its).length=its.length:=by simp[Sp.A2y]
 repeat' (first|(refine A0t (d:=1) ?_ hm;clear hm;intro b1 _ hm)|refine H6 ?_ hm|refine D7 ?_|refine D5 ?_|refine G7 ?_|refine C9 ?_|refine D8 ?_|refine A7 ?_|refine E5 ?_|refine A8 ?_|refine E9 ?_)
 refine U4 (fun x:FX=> [(1,ptr b1),(3,.slice x.sa x.k x.sp),(11,.slice a its.length cp),(12,nt its.length),(13,nt x.k)])
  (fun x w'=>Mem E x.I [.row (.slice x.sa x.k x.sp) 3 1 x.k (((Sp.A2y its).take x.k).flatMap A1q),.cell b1 [.slice a its.length cp] 25] w'∧Le I x.I∧x.k≤its.length) (fun x=>its.length-x.k) ⟨0,I,none,0,none,0⟩
  (by exact⟨rfl,rfl,rfl,rfl,rfl,trivial⟩) ⟨hm.nil 3 1,Le.refl _,Nat.zero_le _⟩ ?_
 clear hm
 rintro⟨k,I1,sa1,sp1,da1,dp1⟩ w1 ⟨hm,hle1,hk⟩
 dsimp only at hm hle1 hk ⊢
 by_cases hlt:k<its.length
 ·have hg:its[k]?=some its[k]:=List.getElem?_eq_getElem hlt
  obtain⟨ci,hci,hat,hlc⟩:=(h.le hle1).get hg
  have hri:=(h.le hle1).row
  have hsk:=(hsm _ (List.getElem_mem hlt)).sends
  have hft:=Sp.B1Z hg
  generalize its[k]=it at hg hat hsk hft
  obtain⟨pa,pc,sa9,sc9,ba,bc9,da9,dc9,xb,rfl,_,hsnd,_⟩:=hat
  repeat' (first|(refine L6 (d:=15) ?_ (hr:=hri);intro bt ot hpt;rw[show ((k:Int).toNat *10)=k *10 from rfl,hci] at hpt)|(refine V7 (d:=5) ?_ hm;clear hm;intro b5 _ hm)|refine H6 ?_ hm|refine U7 ?_ hm|refine D7 ?_|refine D5 ?_|refine J5 ?_|refine G7 ?_|refine C9 ?_|refine D8 ?_|refine A7 ?_|refine E5 ?_|refine A8 ?_|refine E9 ?_|refine F8 ?_|(refine D6 (ht:=fun _=>?_) (hf:=fun _=>?_)<;>(try first|contradiction|(exfalso;omega))))
  all_goals try omega
  refine U4 (fun y:NI=> [(1,ptr b1),(3,.slice sa1 k sp1),(6,nt (Sp.A2z its (it.sends.take y.k))),(11,.slice a its.length cp),(12,nt its.length),(13,nt k),(18,.slice sa9 it.sends.length sc9),(19,nt it.sends.length),(20,nt y.k)])
   (fun y w'=>Mem E y.I [.cell b5 (A1m it.kind it.name it.label (.slice pa it.params.length pc) (.slice sa9 it.sends.length sc9) (.slice ba it.body.length bc9) it.at_ it.size it.mark (.slice da9 it.diags.length dc9)) 60,.row (.slice sa1 k sp1) 3 1 k (((Sp.A2y its).take k).flatMap A1q),.cell b1 [.slice a its.length cp] 25] w'∧Le I1 y.I∧y.k≤it.sends.length)
   (fun y=>it.sends.length-y.k) ⟨0,I1⟩ (by exact⟨rfl,rfl,rfl,rfl,rfl,rfl,rfl,rfl,rfl,trivial⟩) ⟨hm,Le.refl _,Nat.zero_le _⟩ ?_
  clear hm
  rintro⟨j,I2⟩ w2 ⟨hm,hle2,hj⟩
  dsimp only at hm hle2 hj ⊢
  by_cases hjl:j<it.sends.length
  ·have hgs:it.sends[j]?=some it.sends[j]:=List.getElem?_eq_getElem hjl
   generalize it.sends[j]=q at hgs
   have hst:=Sp.B5B (its:=its) hgs
   have hml:=Sp.B2g its (it.sends.take j)
   rw[Sp.A1e] at hst
   generalize Sp.A2z its (it.sends.take j)=m at hst hml ⊢
   have hfind:=(A2B 1 q.name its I2 a cp xs ((h.le hle1).le hle2)).read
   cases hf:Sp.Q8 its 1 q.name with
   |none=>
    rw[hf] at hst
    rw[Sp.A3C hf] at hfind
    repeat' (first|(refine P5 (d:=22) (enc:=A1v) (z:=q) ?_ (hr:=hsnd.le hle2) (he:=fun _=>rfl) (hz:=by exact hgs);intro bz oz hpz)|(refine L9 (d:=27) ?_ hm (hc:=hfind);clear hm;intro _ hm)|(refine V7 (d:=8) ?_ hm;clear hm;intro b8 _ hm)|refine H6 ?_ hm|refine U5 ?_ hm|refine U7 ?_ hm|refine D7 ?_|refine D5 ?_|refine J5 ?_|refine A0i ?_|refine Q4 ?_|refine C9 ?_|refine D8 ?_|refine A7 ?_|refine D9 ?_|refine E5 ?_|refine A8 ?_|refine E9 ?_|refine F8 ?_|refine F6 ?_|(refine D6 (ht:=fun _=>?_) (hf:=fun _=>?_)<;>(try first|contradiction|(exfalso;omega))))
    all_goals try omega
    exact J9 (⟨j+1,I2⟩:NI) (by exact⟨rfl,rfl,by rw[hst];rfl,rfl,rfl,rfl,rfl,rfl,rfl,trivial⟩) ⟨hm.tl,hle2,by dsimp only;omega⟩ (by dsimp only;omega)
   |some z=>
    rw[hf] at hst
    dsimp only at hst
    rw[Sp.A3D hf] at hfind
    obtain⟨hz,_,_,_,hmemz⟩:=Sp.Y8 hf
    obtain⟨cz,hcz,hatz,_⟩:=(h.le hle1).get (Sp.A0K hz)
    obtain⟨pa3,pc3,sa3,sc3,ba3,bc3,da3,dc3,xb3,rfl,_⟩:=hatz
    have hzl:=(hlab _ hmemz).1
    have hri2:=hri.le hle2
    repeat' (first|(refine P5 (d:=22) (enc:=A1v) (z:=q) ?_ (hr:=hsnd.le hle2) (he:=fun _=>rfl) (hz:=by exact hgs);intro bz oz hpz)|(refine L9 (d:=27) ?_ hm (hc:=hfind);clear hm;intro _ hm)|(refine L6 (d:=34) ?_ (hr:=hri2);intro bu ou hpu;rw[show ((z:Int).toNat *10)=z *10 from rfl,hcz] at hpu)|(refine Q7 (d:=37) (hc:=by exact B6o _ _ hml hzl _) (k:=?_);rintro _ _ ⟨rfl,rfl⟩)|(refine V7 (d:=8) ?_ hm;clear hm;intro b8 _ hm)|refine H6 ?_ hm|refine H9 ?_ hm|refine U5 ?_ hm|refine U7 ?_ hm|refine D7 ?_|refine D5 ?_|refine J5 ?_|refine A0i ?_|refine Q4 ?_|refine C9 ?_|refine D8 ?_|refine A7 ?_|refine D9 ?_|refine E5 ?_|refine A8 ?_|refine E9 ?_|refine F8 ?_|refine F9 ?_|(refine D6 (ht:=fun _=>?_) (hf:=fun _=>?_)<;>(try first|contradiction|(exfalso;omega))))
    all_goals try omega
    exact J9 (⟨j+1,I2⟩:NI) (by exact⟨rfl,rfl,by rw[hst];rfl,rfl,rfl,rfl,rfl,rfl,rfl,trivial⟩) ⟨hm.tl,hle2,by dsimp only;omega⟩ (by dsimp only;omega)
  ·obtain rfl:j=it.sends.length:=by omega
   rw[List.take_length]
   repeat' (first|(refine A2b (d:=42) ?_ hm;clear hm;intro a42 cp42 _ _ hm;try simp only[F7] at hm)|refine D7 ?_|refine D5 ?_|refine J5 ?_|refine Q4 ?_|refine D8 ?_|refine A7 ?_|refine G9 ?_|refine D9 ?_|refine G6 ?_|refine E5 ?_|refine A8 ?_|refine O4 ?_|(refine D6 (ht:=fun _=>?_) (hf:=fun _=>?_)<;>(try first|contradiction|(exfalso;omega))))
   all_goals try omega
   refine J9 (⟨k+1,I2,_,_,none,0⟩:FX) (by exact⟨rfl,rfl,rfl,rfl,rfl,trivial⟩) ⟨?_,hle1.trans hle2,by dsimp only;omega⟩ (by dsimp only;omega)
   dsimp only
   rw[hft,List.flatMap_append]
   exact hm.tl
 ·obtain rfl:k=its.length:=by omega
  rw[List.take_of_length_le (by omega)] at hm
  repeat' (first|refine D7 ?_|refine D5 ?_|refine J5 ?_|refine D8 ?_|refine A7 ?_|refine G9 ?_|refine G6 ?_|refine E5 ?_|refine A8 ?_|refine O4 ?_|refine G8 ?_|refine H5 ?_|(refine D6 (ht:=fun _=>?_) (hf:=fun _=>?_)<;>(try first|contradiction|(exfalso;omega))))
  all_goals try omega
  obtain⟨I3,hle3,hm3,hrow⟩:=hm.freeze
  exact⟨I3,[],⟨rfl,_,_,rfl,hrow⟩,hm3.left (H:= [])⟩
end
section
variable {its:List Sp.Itm}{a:Option Addr}{cp:Nat}{xs:List Value}
theorem B8u (i:Nat) (hi:i<its.length) (at_:Int) (bf:Nat) (I:O5) (hfile:PtrI I bf 0 25 [.slice a its.length cp]) (h:FE I its a cp xs) (hlab:Sp.A3G its) (hF:∀x∈its,Sp.ItF x):
  CalM prog 101 #[ptr bf,nt i,.int .i64 at_] I [] (fun v _ H'=> ∃bc pi vf sc sa sp da dp,v=ptr bc∧H'=FSt bc bf pi sc sa sp (Sp.A19 its i at_) da dp vf at_):=by
 refine CalM.of fun w E hm=>enter (N:=69) func101 rfl [(0,ptr bf),(1,nt i),(2,.int .i64 at_)] A3h rfl ?_
 have hfew:=h.few
 have hg:=Sp.A0K hi
 obtain⟨ci,hci,hat,hlc⟩:=h.get hg
 have hri:=h.row
 have hmem:=Sp.A5v hi
 have hIt:=hF _ hmem
 have hlb:=hlab _ hmem
 have hck:Sp.A19 its i at_=if (Sp.N9 its i).kind=2 then (Sp.stmsF its (Sp.N9 its i).label at_ (Sp.N9 its i).body (Sp.A2s (Sp.N9 its i).params) 0 Sp.FW0).2 else Sp.FW0:=rfl
 generalize Sp.A19 its i at_=fin at hck ⊢
 have hfl:=fun (J:O5) (m:Le I J)=>B6N (I:=J) (h.le m) hlab (fun x hx=>(hF x hx).small)
 generalize Sp.N9 its i=it at hg hat hmem hIt hlb hck
 have hat0:=hat
 obtain⟨pa,pc,sa9,sc9,ba,bc9,da9,dc9,xb,rfl,hpar,hsnd,hrb,hbs,_⟩:=hat
 have hsp:=hIt.small.params
 have hsb:=hIt.small.body
 by_cases k2:it.kind=2
 case neg=>
  rw[if_neg k2] at hck
  subst hck
  repeat' (first|(refine A0I (id:=1) (hm.perm pm0) [0,1,2,3,4,5,6,7,8,9,11] [10,12,13] 14 (h:=?_);clear hm;intro wd hR hm)|(refine A0T (d:=16) ?_ (hr:=hri);intro bt ot hpt;rw[show ((i:Int).toNat *10)=i *10 from rfl,hci] at hpt)|(refine A0h (d:=19) ?_ hR (hp:=hfile))|(refine Z7 (d:=20) ?_ hm (hc:=hfl I (Le.refl _));clear hm;rintro _ I2 _ _ ⟨rfl,fa,fp,rfl,hflr⟩ hle hm;have hleI2:=hle;try simp only[F7] at hm;have hpt2:=hpt.le hleI2)|(refine B7k (d:=23) ?_ hm;clear hm;intro bc _ hm)|refine A0C ?_ hR|refine A5O ?_ hm|(refine A1l ?_;replace hm:=hR.back hm;clear hR;try simp only[F7] at hm)|refine H6 ?_ hm|refine H9 ?_ hm|refine D7 ?_|refine D5 ?_|refine L8 ?_|refine E8 ?_|refine C9 ?_|refine D8 ?_|refine A7 ?_|refine E5 ?_|refine A8 ?_|refine F8 ?_|refine G8 ?_|refine H5 ?_|(refine D6 (ht:=fun _=>?_) (hf:=fun _=>?_)<;>(try first|contradiction|(exfalso;omega)))|refine A0P ?_|refine X5 ?_|refine Q3 ?_|refine A0s ?_)
  all_goals try omega
  exact⟨I2,_,⟨bc,_,_,[],none,0,none,0,rfl,rfl⟩,((hm.nil 92 4).swap.nil 219 2).swap⟩
 rw[if_pos k2] at hck
 repeat' (first|(refine A0I (id:=1) (hm.perm pm0) [0,1,2,3,4,5,6,7,8,9,11] [10,12,13] 14 (h:=?_);clear hm;intro wd hR hm)|(refine A0T (d:=16) ?_ (hr:=hri);intro bt ot hpt;rw[show ((i:Int).toNat *10)=i *10 from rfl,hci] at hpt)|(refine A0h (d:=19) ?_ hR (hp:=hfile))|(refine Z7 (d:=20) ?_ hm (hc:=hfl I (Le.refl _));clear hm;rintro _ I2 _ _ ⟨rfl,fa,fp,rfl,hflr⟩ hle hm;have hleI2:=hle;try simp only[F7] at hm;have hpt2:=hpt.le hleI2)|(refine B7k (d:=23) ?_ hm;clear hm;intro bc _ hm)|refine A0C ?_ hR|refine A5O ?_ hm|(refine A1l ?_;replace hm:=hR.back hm;clear hR;try simp only[F7] at hm)|refine H6 ?_ hm|refine H9 ?_ hm|refine D7 ?_|refine D5 ?_|refine L8 ?_|refine G7 ?_|refine E8 ?_|refine C9 ?_|refine D8 ?_|refine A7 ?_|refine E5 ?_|refine A8 ?_|refine E9 ?_|(refine D6 (ht:=fun _=>?_) (hf:=fun _=>?_)<;>(try first|contradiction|(exfalso;omega)))|refine A0P ?_|refine X5 ?_|refine Q3 ?_|refine A0s ?_)
 all_goals try omega
 have hC2:FC I2 its it bf a cp xs (.pointer (some ⟨bt,ot,none⟩)) (.slice fa its.length fp):=⟨hfile.le hleI2,h.le hleI2,⟨bt,ot,_,_,rfl,hpt2,hat0.le hleI2⟩,⟨fa,fp,rfl,hflr⟩,hlab,hlb.1⟩
 have hpar2:=hpar.le hleI2
 refine U4 (fun x:FX=> [(0,ptr bf),(1,nt i),(2,.int .i64 at_),(7,ptr bc),(38,.slice pa it.params.length pc),(39,nt it.params.length),(40,nt x.k)])
  (fun x w'=>Mem E I2 (FSt bc bf (.pointer (some ⟨bt,ot,none⟩)) (Sp.A2s (it.params.take x.k)) x.sa x.sp Sp.FW0 none 0 (.slice fa its.length fp) at_) w'∧x.k≤it.params.length) (fun x=>it.params.length-x.k) ⟨0,I2,none,0,none,0⟩
  (by exact⟨rfl,rfl,rfl,rfl,rfl,rfl,rfl,trivial⟩) ⟨((hm.nil 92 4).swap.nil 219 2).swap,Nat.zero_le _⟩ ?_
 clear hm
 rintro⟨k,_,sa1,sp1,_,_⟩ w1 ⟨hm,hk⟩
 dsimp only at hm hk ⊢
 by_cases hlt:k<it.params.length
 ·have hgp:it.params[k]?=some it.params[k]:=List.getElem?_eq_getElem hlt
  generalize it.params[k]=p at hgp
  have hst:=Sp.B3H hgp
  have hpl:(Sp.A2s (it.params.take k)).length=k:=by rw[Sp.A2s,List.length_map,List.length_take];omega
  generalize Sp.A2s (it.params.take k)=sc at hm hst hpl
  repeat' (first|(refine P5 (d:=42) (enc:=A2a) (z:=p) ?_ (hr:=hpar2) (he:=fun _=>rfl) (hz:=by exact hgp);intro bz oz hpz)|(refine Y0 (id:=6) (hm.perm pm1_2) 10 12 (h:=?_);clear hm;intro wd hR hm)|refine Y7 ?_ hR|(refine A1N (d:=55) ?_ hm;clear hm;intro a55 cp55 _ _ hm;replace hm:=hR.back hm;clear hR;try simp only[F7] at hm)|(refine V7 (d:=9) ?_ hm;clear hm;intro b9 _ hm)|refine U7 ?_ hm|(refine J6 hm (k:=?_);clear hm;intro _ hm;try simp only[F7] at hm)|refine D7 ?_|refine J5 ?_|refine E8 ?_|refine Q4 ?_|refine C9 ?_|refine D8 ?_|refine A7 ?_|refine D9 ?_|refine E5 ?_|refine A8 ?_|refine E9 ?_|refine F8 ?_|(refine D6 (ht:=fun _=>?_) (hf:=fun _=>?_)<;>(try first|contradiction|(exfalso;omega)))|refine A0P ?_|refine X5 ?_|refine Q3 ?_|refine A3V ?_|refine A0s ?_)
  all_goals try omega
  refine J9 (⟨k+1,I2,a55,cp55,none,0⟩:FX) (by exact⟨rfl,rfl,rfl,rfl,rfl,rfl,rfl,trivial⟩) ⟨?_,by dsimp only;omega⟩ (by dsimp only;omega)
  dsimp only
  rw[hst, ←A8x]
  exact((hm.front 1 rfl).tl).swap
 ·obtain rfl:k=it.params.length:=by omega
  rw[List.take_length] at hm
  have hsl:=Sp.B5M hlab hmem
  have hpl:(Sp.A2s it.params).length=it.params.length:=by rw[Sp.A2s,List.length_map]
  have hcn:=hIt.cnt
  have hblk:=C00 (its:=its) (it:=it) (bc:=bc) (bf:=bf) (a:=a) (cp:=cp) (xs:=xs) (pi:=.pointer (some ⟨bt,ot,none⟩)) (vf:=.slice fa its.length fp) (at_:=at_) _ it.body (Nat.le_refl _) (by omega) hIt.small.stms hIt.body I2 ba bc9 xb 0 (Sp.A2s it.params) Sp.FW0 sa1 sp1 none 0 (by omega) hsl (by omega) (by simp[Sp.FW0];omega) hC2 (hrb.le hleI2) (U8.le hleI2 _ _ hbs)
  rw[←hck] at hblk
  generalize Sp.A2s it.params=sc at hm hblk
  repeat' (first|(refine F5 (d:=67) ?_ hm (hc:=hblk);clear hm;rintro _ I3 _ _ ⟨rfl,sa3,sp3,da3,dp3,rfl⟩ hle hm;have hleI3:=hle;try simp only[F7] at hm)|refine H6 ?_ hm|refine H9 ?_ hm|refine D7 ?_|refine D5 ?_|refine J5 ?_|refine E8 ?_|refine C9 ?_|refine D8 ?_|refine A7 ?_|refine G9 ?_|refine G6 ?_|refine E5 ?_|refine A8 ?_|refine O4 ?_|refine G8 ?_|refine H5 ?_|(refine D6 (ht:=fun _=>?_) (hf:=fun _=>?_)<;>(try first|contradiction|(exfalso;omega))))
  all_goals try omega
  exact⟨I3,_,⟨bc,_,_,sc,sa3,sp3,da3,dp3,rfl,rfl⟩,hm⟩
theorem B8v (i:Nat) (hi:i<its.length) (I:O5) (h:FE I its a cp xs) (hlab:Sp.A3G its) (hF:∀x∈its,Sp.ItF x):
  CalM prog 69 #[.agg [.slice a its.length cp].toArray,nt i] I [] (fun v I' H'=>H'= []∧∃da dp,v=.slice da (Sp.A19 its i (-1)).ds.length dp∧RowI I' 92 4 (.slice da (Sp.A19 its i (-1)).ds.length dp) (Sp.A19 its i (-1)).ds.length ((Sp.A19 its i (-1)).ds.flatMap A3w)):=by
 refine CalM.of fun w E hm=>enter (N:=19) func69 rfl [(0,.agg [.slice a its.length cp].toArray),(1,nt i)] A0B rfl ?_
 have hfew:=h.few
 repeat' (first|(refine A0t (d:=2) ?_ hm;clear hm;intro b2 _ hm)|refine H6 ?_ hm|refine D7 ?_|refine D5 ?_|refine J3 ?_|refine J5 ?_|refine A0i ?_|refine G7 ?_|refine C9 ?_|refine D8 ?_|refine A7 ?_|refine E5 ?_|refine A8 ?_|refine F8 ?_|(refine D6 (ht:=fun _=>?_) (hf:=fun _=>?_)<;>(try first|contradiction|(exfalso;omega))))
 all_goals try omega
 obtain⟨I2,hle2,hm2,hpf⟩:=hm.freezeO
 clear hm
 have hm:=hm2
 clear hm2
 have hck:=B8u i hi (-1) b2 I2 hpf (h.le hle2) hlab hF
 generalize Sp.A19 its i (-1)=fin at hck ⊢
 repeat' (first|(refine F5 (d:=15) ?_ hm (hc:=hck);clear hm;rintro _ I3 _ _ ⟨bc,pi,vf,sc,sa,sp,da,dp,rfl,rfl⟩ hle hm;have hleI3:=hle;try simp only[F7] at hm)|refine H6 ?_ hm|refine D5 ?_|refine E8 ?_|refine C9 ?_|refine D8 ?_|refine A7 ?_|refine G8 ?_|refine H5 ?_)
 all_goals try omega
 obtain⟨I4,hle4,hm4,hrow⟩:=(hm.front 2 rfl).freeze
 exact⟨I4,[],⟨rfl,da,dp,rfl,hrow⟩,hm4.left (H:= [])⟩
end
end Go.Proofs.YtfjdfdgpkncpfaaGreatDoor
end
section
namespace Go.Sp
theorem B64 (src:List UInt8) (at_:Int) (h:src.length≤1048576):ItF (item src at_)∧(item src at_).label<256∧∀p∈(item src at_).params,p.label<256:=by
 have hA:=B19 (src:=src) (p:=B6i) (q:=B66) (r:=fun p=>p.label<256) (t:=fun _=>True) at_ ⟨trivial,fun _=>trivial,fun _ _ _ _=>trivial,fun _ _=>trivial,fun _ _ _ _ _ _=>trivial,fun _ _ _ _ _ _ _ _ _ _ _ _ _ _ _ _=>trivial⟩
  ⟨by show 0<256;omega,fun _ _ lb _ _ h=>Nat.lt_succ_of_le h,fun _ _ _=>(by show 0<256;omega),fun _ _ _ _=>(by show 0<256;omega),fun _ _ _=>(by show 0<256;omega)⟩ (fun _ lb h=>Nat.lt_succ_of_le h) (fun _=>trivial)
 have hc:=A84 src at_
 exact⟨⟨A4S src at_ h,hA.body,by omega⟩,Nat.lt_succ_of_le hA.label,hA.params⟩
theorem B6Q (s:List UInt8):(∀x∈H8 s,ItF x)∧A3G (H8 s):=by
 have key:∀x∈H8 s,ItF x∧x.label<256∧∀p∈x.params,p.label<256:=by
  intro x hx
  by_cases h0:Y5 s=0
  ·have hl:s.length≤4000:=by
    rw[Y5] at h0
    split at h0
    ·cases h0
    ·omega
   rw[H8,if_pos h0,A3j] at hx
   obtain⟨j,_,rfl⟩:=List.mem_map.1 hx
   exact B64 _ _ (by rw[A0y,List.length_take,List.length_drop];omega)
  ·rw[H8,if_neg h0] at hx
   simp at hx
 exact⟨fun x hx=>(key x hx).1,fun x hx=>(key x hx).2⟩
end Go.Sp
namespace Go.Proofs.YtfjdfdgpkncpfaaGreatDoor
open Go.Proofs.Tryz
open Go.Fw
end Go.Proofs.YtfjdfdgpkncpfaaGreatDoor
end
section
namespace Go.Fw
open Go
theorem RowI.drop {I:O5}{ty sz n m cp:Nat}{a:Option Addr}{xs:List Value} (h:RowI I ty sz (.slice a n cp) n xs) (hmn:m≤n) {a':Option Addr}{cp':Nat} (hc:n-m≤cp') (ha:m<n→a'=a.map (fun p=>p.add (m *sz))):
  RowI I ty sz (.slice a' (n-m) cp') (n-m) (xs.drop (m *sz)):=by
 obtain⟨h0,a0,cap,h1,h2,h3⟩:=h
 obtain⟨rfl,_,rfl⟩:=Value.slice.inj h1
 have hle:m *sz≤n *sz:=Nat.mul_le_mul_right _ hmn
 refine⟨by rw[List.length_drop,h0,Nat.sub_mul],a',cp',rfl,hc,fun hn=>?_⟩
 obtain⟨b,off,c,fr,rfl,e2,e3⟩:=h3 (by omega)
 refine⟨b,off+m *sz,c,fr,(ha (by omega)).trans (by rw[Option.map_some,Addr.add_lit]),e2,fun j u hj=>?_⟩
 rw[List.getElem?_drop] at hj
 rw[Nat.add_assoc];exact e3 _ _ hj
section
variable {P:Program}{N:Nat}{ds:List Deferred}{Q:Exit→Act→World→Prop}{l:Log}{w:World}{ops:Array Oper}{os:List Oper}
variable {d:Nat}{ty:TypeId}{pos:String}{af:Array Edge}{g:Option (Nat×Bool)}{t:TypeId}{x y:Operand}{E:Ent}{I:O5}{H:List HItem}
end
section
variable {P:Program}{N:Nat}{ds:List Deferred}{Q:Exit→Act→World→Prop}{l:Log}{w w0:World}{ops:Array Oper}{os tail:List Oper}{X:List Nat}
variable {d:Nat}{ty:TypeId}{pos:String}{af:Array Edge}{g:Option (Nat×Bool)}{t:TypeId}{x y:Operand}{E:Ent}{I I0:O5}{H G R:List HItem}{m' f:Nat}{listed:Array Bool}
theorem B5U {e:TypeId}{sz by_ n:Nat} [TySlice P t e] [Elem P e sz by_] {ps:List (Nat×Operand)}{vs:List (Nat×Value)}{a:Act} (ha:Fits N ds l a) (hx:evp l ps=some vs)
  (hi:vs.map (·.1)=List.range' 0 n) (hs:vs.all (fun p=>Nat.beq p.2.cells.toList.length sz)=true) (hn:n *sz≤16777216):
  (execOp a.eval ⟨some d,.buildSlice t n ps.toArray,ty,pos,af,g⟩).run P w=.ok (.value (.slice (some ⟨w.heap.size,0,none⟩) n n)) (w.alloc (.cells (vs.flatMap (·.2.cells.toList)).toArray e (0,0))):=by
 obtain⟨i,z,hi',hz,hs',hby,hzc,hpos⟩:=Elem.out (P:=P) (e:=e)
 have h6:=fun w=>run_underlying (P:=P) (w:=w) (TySlice.out (P:=P) (t:=t))
 have hlen:vs.length=n:=by have:=congrArg List.length hi;simpa using this
 have hf:=A8V sz vs 0 ((List.range (n *sz)).map (fun j=>z.cells[j % z.cells.size]!)) (by rw[hlen];exact hi) (by simp[hlen]) (fun p hp=>by
  have:=List.all_eq_true.1 hs p hp
  exact Nat.eq_of_beq_eq_true this)
 simp only[Nat.zero_mul,List.take_zero,List.nil_append] at hf
 have e1:=ha.evp hx
 have hz0:¬(2 ^ 24<n *sz):=by omega
 have e2:(Array.range (n *sz)).map (fun j=>z.cells[j % z.cells.size]!)=((List.range (n *sz)).map (fun j=>z.cells[j % z.cells.size]!)).toArray:=by
  apply Array.ext';simp
 simp only[execOp,Instr.buildSlice]
 by_cases hz1:n *sz=0
 ·have hn0:n=0:=by
   rcases Nat.mul_eq_zero.1 hz1 with h|h
   ·exact h
   ·omega
  subst hn0
  have:vs= []:=List.eq_nil_of_length_eq_zero hlen
  subst this
  have e4:Array.range 0= #[]:=rfl
  simp[e1,h6,sizeOf,typeInfo,hi',Instr.fill,newRow,newObj,e4]
  rfl
 ·simp[e1,h6,sizeOf,typeInfo,hi',hs',zeroValue,hz,hz0,newRow,newObj,e2,hf]
  rw[if_neg hz1]
  rfl
theorem B4h {sz:Nat}:∀(vs:List (Nat×Value)),vs.all (fun p=>Nat.beq p.2.cells.toList.length sz)=true→(vs.flatMap (·.2.cells.toList)).length=vs.length *sz
 | [],_=>by simp
 |p::vs,h=>by
  rw[List.all_cons,Bool.and_eq_true] at h
  rw[List.flatMap_cons,List.length_append,B4h vs h.2,Nat.eq_of_beq_eq_true h.1,List.length_cons,Nat.add_mul];omega
end
section
variable {P:Program}{ops:Array Oper}{md:Region.Mode}{C:World→Prop}
theorem B72 {n i:Nat}{oi:Oper}{v:Value}{L:Array Bool→Act→World→Prop} (hi:ops[i]?=some oi) (hsel:∀(j:Nat) (o:Oper) cs b,ops[j]?=some o→o.op≠ .select cs b)
  (hn:n=ops.size)
  (hdone:∀listed a w,L listed a w→∀j∈Region.ready md ops listed,n≤j):
  ∀(f:Nat) (listed:Array Bool) (a:Act) (w:World),C w→HeadInv md ops n listed→
   (∀j oj,ops[j]?=some oj→j≠i→listed.getD j true=false→(∀e∈oj.after,Region.binds md e=true→e.on≠i)→oi.apart ops oj=true)→
   i∈Region.ready md ops listed→A0S P ops C oi v a→
   A56 P md ops C n L f (listed.setIfInBounds i true) (a.put oi.dst v) w→A56 P md ops C n L (f+1) listed a w:=by
 intro f
 induction f with
 |zero=>
  intro listed a w hC inv _ hr hy H
  refine⟨fun h=>(by rw[h] at hr;cases hr),fun j hj=>?_⟩
  have hjn:j<n:=by
   obtain⟨_,oj,hoj,_⟩:=mem_ready.1 hj
   rw[hn]
   exact(Array.getElem?_eq_some_iff.1 hoj).1
  refine⟨hjn,?_⟩
  by_cases hji:j=i
  ·subst hji;exact hy.vOp hi hC ⟨hC,H⟩
  ·have:=hdone _ _ _ H j (ready_mono hj hji)
   omega
 |succ f ih=>
  intro listed a w hC inv hfree hr hy H
  have hun:=(mem_ready.1 hr).1
  refine⟨fun h=>(by rw[h] at hr;cases hr),fun j hj=>?_⟩
  have hjn:j<n:=by
   obtain⟨_,oj,hoj,_⟩:=mem_ready.1 hj
   rw[hn]
   exact(Array.getElem?_eq_some_iff.1 hoj).1
  refine⟨hjn,?_⟩
  by_cases hji:j=i
  ·subst hji;exact hy.vOp hi hC ⟨hC,H⟩
  ·have h1:=(H.2 j (ready_mono hj hji)).2
   obtain⟨hjun,oj,hoj,hall⟩:=mem_ready.1 hj
   have hnot:∀e∈oj.after,Region.binds md e=true→e.on≠i:=fun e he hb heq=>by
    have h1:=hall e he hb
    rw[heq,getD_both hun] at h1
    cases h1
   have h2:=B43 hoj (hfree j oj hoj hji hjun hnot) (fun cs b=>hsel i oi cs b hi) (fun cs b=>hsel j oj cs b hoj) hy h1
   have hfree':∀k ok,ops[k]?=some ok→k≠i→(listed.setIfInBounds j true).getD k true=false→
     (∀e∈ok.after,Region.binds md e=true→e.on≠i)→oi.apart ops ok=true:=fun k ok hk hki hun hno=>by
    refine hfree k ok hk hki ?_ hno
    by_cases hjk:j=k
    ·subst hjk;exact hjun
    ·rw[getD_set_ne true hjk] at hun;exact hun
   refine A9v (fun a' w' h3=>⟨h3.2.1,ih (listed.setIfInBounds j true) a' w' h3.2.1 (inv.set hj hjn) hfree' (ready_mono hr (Ne.symm hji)) h3.1 ?_⟩) h2
   rw[Array.setIfInBounds_comm _ _ hji]
   exact h3.2.2
theorem A8G {n g:Nat}{Lq:Act→World→Prop}{js:List Nat}{lt:List Oper} (hsel:Region.noSelect ops=true) (hn:n=ops.size)
  (hlt:js.map (ops[·]?)=lt.map some):
  ∀(ks:List Nat) (l:List Oper) (listed:Array Bool) (a:Act) (w:World),C w→ks.map (ops[·]?)=l.map some→HeadInv md ops n listed→
  A6O md ops g n js ks listed=true→A38 P ops C (fun a'=>A2d P ops C Lq lt a' w) l a→
  A56 P md ops C n (fun listed' a' w'=>Region.seqB md ops g n listed'=true∧Lq a' w') (l.length+lt.length) listed a w
 | [],[],listed,a,w,_,_,_,hB,h=>by
  rw[List.length_nil,Nat.zero_add]
  exact A7e js lt listed a w hlt (by simpa[A6O] using hB) h
 |k::ks,o::l,listed,a,w,hC,hl,inv,hB,h=>by
  simp only[List.map_cons,List.cons.injEq] at hl
  obtain⟨h0,hl'⟩:=hl
  simp only[A6O,Bool.and_eq_true,decide_eq_true_eq] at hB
  obtain⟨⟨⟨hr,hf⟩,hkn⟩,hB'⟩:=hB
  have hr':k∈Region.ready md ops listed:=by simpa using hr
  obtain⟨v,hy,hK⟩:=h
  rw[show (o::l).length+lt.length=(l.length+lt.length)+1 by simp only[List.length_cons];omega]
  exact B72 h0 (Region.noSelect_spec hsel) hn (fun listed' a' w' hL=>seqB_ready hL.1) (l.length+lt.length) listed a w hC inv (Region.free_spec h0 hf) hr' hy
   (A8G hsel hn hlt ks l _ _ w hC hl' (inv.set hr' hkn) hB' hK)
 | [],_::_,_,_,_,_,hl,_,_,_=>by simp at hl
 |_::_,[],_,_,_,_,hl,_,_,_=>by simp at hl
def B03 (ops:Array Oper) (ks js:List Nat) (n:Nat):Bool:=
 Region.noSelect ops && decide (n=ops.size) && A6O .any ops (ops.size-n) n js ks (Array.replicate ops.size false) && decide (ks.length+js.length=n) &&
  ks.all (fun k=>Nat.blt k ops.size) && js.all (fun k=>Nat.blt k ops.size)
theorem A8g {id:Nat}{Q:Exit→Act→World→Prop}{a:Act}{w:World}{l:List Oper} (ks js:List Nat) (n:Nat) (hm:P.follows .mixedOrders=true) (hB:B03 l.toArray ks js n=true)
  (hC:C { w with drawn:=w.drawn+1})
  (h:A38 P l.toArray C (fun a'=>A2d P l.toArray C (fun a' w'=>wpList P l.toArray Q (l.drop n) a' w') (A1y l js) a' { w with drawn:=w.drawn+1}) (A1y l ks) a):(Code.region id l.toArray true).wp P Q a w:=by
 simp only[B03,Bool.and_eq_true,decide_eq_true_eq] at hB
 obtain⟨⟨⟨⟨⟨hsel,hn⟩,hlex⟩,hlen⟩,hks⟩,hjs⟩:=hB
 have hn':n=l.length:=by simpa using hn
 have hdl:(l.drop n).length=l.toArray.size-n:=by simp
 obtain⟨k1,k2⟩:=A2u l ks (by simpa using hks)
 obtain⟨j1,j2⟩:=A2u l js (by simpa using hjs)
 have inv0:HeadInv .any l.toArray n (Array.replicate l.toArray.size false):=
  ⟨by simp,fun j oj _ hl=>(by rw[getD_replicate_false] at hl;cases hl),fun t _ ht=>getD_in (by simpa using ht) (getD_replicate_false _ _)⟩
 have H:=A8G (md:=.any) (g:=l.toArray.size-n) (lt:=A1y l js) hsel hn j1 ks (A1y l ks) _ a _ hC k1 inv0 hlex h
 refine wp_region_any hm ?_
 have:=A5m (Q':=Q) (g:=l.toArray.size-n) (fun listed a' w' hL=>by
  have:=wpAny_of_seq (md:=.any) (Q':=Q) (l.drop n) n listed a' w' (fun j=>by simp[List.getElem?_drop]) (by rw[hdl];exact hL.1) hL.2
  rwa [hdl] at this) _ _ _ _ H
 rw[k2,j2,hlen,show n+(l.toArray.size-n)=l.toArray.size by omega] at this
 exact this
end
section
variable {P:Program}{N:Nat}{ds:List Deferred}{X:List Nat}{Q:Exit→Act→World→Prop}{l:Log}{w:World}{os:List Oper}{E:Ent}{I:O5}{G R:List HItem}
theorem B76 [Mixed P] {id:Nat} (ks js:List Nat) (n:Nat) (X:List Nat) (hB:B03 os.toArray ks js n=true)
  (h:∀wd,Kept [] w wd→WV P N ds os.toArray X wd (fun a'=>A2d P os.toArray (fun w'=>Kept X wd w') (fun a' w'=>wpList P os.toArray Q (os.drop n) a' w') (A1y os js) a' wd) (A1y os ks) l):
  WC P N ds (.region id os.toArray true) Q l w:=
 ⟨fun a ha=>A8g (C:=fun w'=>Kept X { w with drawn:=w.drawn+1} w') ks js n Mixed.out hB (Kept.refl _ _) ((h _ (Kept.drew w)).run a ha)⟩
theorem B1i [Mixed P] {id:Nat} (hm:Mem E I (G++R) w) (ks js:List Nat) (n:Nat) (hB:B03 os.toArray ks js n=true)
  (h:∀wd,Mem E I (G++R) wd→Mem ⟨wd,A1a G,I⟩ I G wd→WV P N ds os.toArray (A1a G) wd (fun a'=>A2d P os.toArray (fun w'=>Kept (A1a G) wd w') (fun a' w'=>wpList P os.toArray Q (os.drop n) a' w') (A1y os js) a' wd) (A1y os ks) l):
  WC P N ds (.region id os.toArray true) Q l w:=
 B76 ks js n (A1a G) hB (fun wd hk=>h wd (hm.kept0 hk) (hm.kept0 hk).sub)
end
section
variable {P:Program}{N:Nat}{ds:List Deferred}{Q:Exit→Act→World→Prop}{K:Act→Prop}{l:Log}{w w0:World}{ops:Array Oper}{os os' tail:List Oper}{X:List Nat}
variable {d:Nat}{ty:TypeId}{pos:String}{af:Array Edge}{g:Option (Nat×Bool)}{t t':TypeId}{x y:Operand}{I I0:O5}{H:List HItem}
theorem B9l {m' f:Nat}{listed:Array Bool}{a b:Int} (hC:Kept X w0 w) (hw:P7 ops l ⟨some d,.binOp .add t x y t',ty,pos,af,g⟩=some true) (hN:Nat.blt d N=true)
  (hx:ev l x=some (.int .i64 a)) (hy:ev l y=some (.int .i64 b))
  (k:WA P N ds ops Q X w0 m' f listed tail ((d,.int .i64 (Sp.w64 (a+b)))::l) w):WU P N ds ops Q X w0 m' f listed tail ⟨some d,.binOp .add t x y t',ty,pos,af,g⟩ l w:=
 A67 rfl hw hN (fun c hc=>by simp[execOp,hc.ev hx,hc.ev hy,eqGuard,binOp,Op.intArith,A66]) hC k
theorem C1j {m' f:Nat}{listed listed':Array Bool} (he:listed=listed') (h:WA P N ds ops Q X w0 m' f listed' tail l w):WA P N ds ops Q X w0 m' f listed tail l w:=he ▸ h
theorem B5E {e:TypeId}{sz by_ n:Nat} [TySlice P t e] [Elem P e sz by_] {ps:List (Nat×Operand)}{vs:List (Nat×Value)}{xs:List Value} (hm:Mem ⟨w0,X,I0⟩ I H w)
  (hw:P7 ops l ⟨some d,.buildSlice t n ps.toArray,ty,pos,af,g⟩=some true) (hN:Nat.blt d N=true) (hx:evp l ps=some vs)
  (hi:vs.map (·.1)=List.range' 0 n) (hs:vs.all (fun p=>Nat.beq p.2.cells.toList.length sz)=true) (hn:Nat.ble (n *sz) 16777216=true) (hxs:vs.flatMap (·.2.cells.toList)=xs)
  (k:∀I' a w',Le I I'→Mem ⟨w0,X,I0⟩ I' H w'→RowI I' e sz (.slice a n n) n xs→WS P N ds ops Q X w0 os' tail ((d,.slice a n n)::l) w'):
  WS P N ds ops Q X w0 (⟨some d,.buildSlice t n ps.toArray,ty,pos,af,g⟩::os') tail l w:=by
 subst hxs
 have hk:=Kept.alloc w (.cells (vs.flatMap (·.2.cells.toList)).toArray e (0,0))
 obtain⟨h1,h2⟩:=hm.fresh hk (Nat.le_refl _) (heap_alloc_new w _)
 refine A28 rfl hw hN (fun a ha=>B5U ha hx hi hs (Nat.le_of_ble_eq_true hn)) h2.kept (k _ _ _ h1 h2 ⟨?_,_,_,rfl,Nat.le_refl _,fun _=>⟨w.heap.size,0,_,(_,_),rfl,O5.add_self _ _ _,fun j u hj=>by rw[Nat.zero_add];simpa using hj⟩⟩)
 have hlen:vs.length=n:=by have:=congrArg List.length hi;simpa using this
 rw[B4h vs hs,hlen]
end
end Go.Fw
namespace Go.Sp
structure AllOk (src:List UInt8) (its:List Itm):Prop where
 len:src.length≤4000
 few:its.length≤30
 nm:∀x∈its,ItN src x
 fl:∀x∈its,ItF x
 lab:A3G its
 ef:∀x∈its,x.fit∧N7 x.body≤400000000
 nms:(A1t its).length≤960000
theorem A8m {s:List UInt8} (h:Y5 s=0):AllOk s (H8 s):=by
 obtain⟨g1,few⟩:=B6P s
 obtain⟨k1,k2⟩:=B6Q s
 have hl:s.length≤4000:=by
  rw[Y5] at h
  split at h
  ·cases h
  ·omega
 exact⟨hl,few,B6R s,k1,k2,fun x hx=>⟨(g1 x hx).1.fit,by have:=(g1 x hx).2;omega⟩,B5G g1 few⟩
theorem B2z {src:List UInt8}{its:List Itm} (h:AllOk src its) {i:Nat} (hi:i<its.length):(B5S its i).length≤2000000000:=by
 have h1:=(h.nm _ (A5v hi)).small.diags
 have h2:=B75 h.nm (i:=i) hi
 have h3:(A27 its i).ds.length≤(A27 its i).n:=by rw[NW.n];omega
 have h4:(A5d its i).length≤(A3k its i).length:=by rw[A5d,List.length_map];exact List.length_filter_le _ _
 have h5:=B1u (its:=its) i
 have h6:=h.nms
 have h7:(A19 its i (-1)).ds.length≤800000000:=by
  have hc:=(h.fl _ (A5v hi)).cnt
  rw[A19]
  split
  ·have:=(A2R its (N9 its i).label (-1) (N9 its i).body (A2s (N9 its i).params) 0 FW0).2.1
   have e:FW0.ds.length=0:=rfl
   omega
  ·exact Nat.zero_le _
 rw[B5S,List.length_append,List.length_append,List.length_append]
 omega
end Go.Sp
namespace Go.Proofs.YtfjdfdgpkncpfaaGreatDoor
open Go.Proofs.Tryz
open Go.Fw
abbrev A7T (d:Sp.DI):List Value:= [.int .i64 d.fr,.int .i64 d.to,nt d.err,str d.name]
theorem B5e {l:List Sp.DI}:∀u∈l.flatMap A7T,u.oneCell'=true:=fun u hu=>by
 obtain⟨d,_,hd⟩:=List.mem_flatMap.1 hu
 rcases List.mem_cons.1 hd with rfl|hd
 ·rfl
 ·rcases List.mem_cons.1 hd with rfl|hd
  ·rfl
  ·rcases List.mem_cons.1 hd with rfl|hd
   ·rfl
   ·obtain rfl:=List.mem_singleton.1 hd;rfl
structure DgX where
 q:Nat
 sa:Option Addr
 sp:Nat
section
variable {src:List UInt8}{its:List Sp.Itm}{a:Option Addr}{cp:Nat}{xs:List Value}
theorem B8Y (i:Nat) (hi:i<its.length) (I:O5) (h:FE I its a cp xs) (hA:Sp.AllOk src its):
  CalM prog 61 #[.agg [.slice a its.length cp].toArray,nt i] I [] (fun v I' H'=>H'= []∧∃da dp,v=.slice da (Sp.A9D its i).length dp∧RowI I' 92 4 (.slice da (Sp.A9D its i).length dp) (Sp.A9D its i).length ((Sp.A9D its i).flatMap A7T)):=by
 refine CalM.of fun w E hm=>enter (N:=73) func61 rfl [(0,.agg [.slice a its.length cp].toArray),(1,nt i)] A0B rfl ?_
 have hfew:=h.few
 have hnms:=hA.nms
 have hN:=fun (J:O5) (m:Le I J)=>B8E i hi J (h.le m) hA.len hA.nm
 have hE:=fun (J:O5) (m:Le I J)=>B8p i hi J a cp xs (h.le m) hA.ef (by omega)
 have hFl:=fun (J:O5) (m:Le I J)=>B8v i hi J (h.le m) hA.lab hA.fl
 have hraw:=Sp.B2z hA hi
 have hrw:Sp.B5S its i=(Sp.N9 its i).diags++((Sp.A27 its i).ds++(Sp.A5d its i++(Sp.A19 its i (-1)).ds)):=rfl
 rw[Sp.A9D]
 generalize Sp.B5S its i=raw at hraw hrw ⊢
 obtain⟨ci,hci,hat,_⟩:=h.get (Sp.A0K hi)
 have hri:=h.row
 generalize (Sp.A27 its i).ds=wl at hN hrw
 generalize Sp.A5d its i=ed at hE hrw
 generalize (Sp.A19 its i (-1)).ds=fd at hFl hrw
 generalize Sp.N9 its i=it at hat hrw ⊢
 obtain⟨pa,pc,sa9,sc9,ba,bc9,da9,dc9,xb,rfl,_,_,_,_,hrd⟩:=hat
 repeat' (first|refine Z5 4 ?_|(refine A0t (d:=2) ?_ hm;clear hm;intro b2 _ hm)|refine H6 ?_ hm|refine D7 ?_|refine D5 ?_|refine J3 ?_|refine J5 ?_|refine A0i ?_|refine G7 ?_|refine C9 ?_|refine D8 ?_|refine A7 ?_|refine E5 ?_|refine A8 ?_|refine F8 ?_|(refine D6 (ht:=fun _=>?_) (hf:=fun _=>?_)<;>(try first|contradiction|(exfalso;omega))))
 all_goals try first|omega|contradiction
 obtain⟨I2,hle2,hm2,hpf⟩:=hm.freezeO
 clear hm
 have hm:=hm2
 clear hm2
 have hri2:=hri.le hle2
 refine⟨?_⟩
 repeat' (first|(refine B1i (id:=4) (hm.perm pm0) [0,1,2,3,4,5,6,7,9,10,12,13,17] [8,11,14,15,16] 18 (by kernel_rfl) ?_;clear hm;intro wd hR hm)|(refine A0T (d:=22) ?_ (hr:=hri2);intro bt ot hpt;rw[show ((i:Int).toNat *10)=i *10 from rfl,hci] at hpt)|(refine A0h (d:=25) ?_ hR (hp:=hpf))|(refine A0h (d:=28) ?_ hR (hp:=hpf))|(refine A0h (d:=31) ?_ hR (hp:=hpf))|(refine Z7 (d:=27) ?_ hm (hp:=pm0) (hc:=hN I2 hle2);clear hm;rintro _ I3 _ _ ⟨rfl,wa,wp,rfl,hrwd⟩ hleI3 hm;try simp only[F7] at hm)|(refine Z7 (d:=30) ?_ hm (hp:=pm0) (hc:=hE I3 (hle2.trans hleI3));clear hm;rintro _ I4 _ _ ⟨rfl,ea,ep,rfl,hred⟩ hleI4 hm;try simp only[F7] at hm)|(refine Z7 (d:=33) ?_ hm (hp:=pm0) (hc:=hFl I4 ((hle2.trans hleI3).trans hleI4));clear hm;rintro _ I5 _ _ ⟨rfl,fa,fp,rfl,hrfd⟩ hleI5 hm;try simp only[F7] at hm)|(refine B5E (d:=34) hm (by rfl) (by rfl) (by rfl) (by rfl) (by rfl) (by rfl) (by rfl) ?_;clear hm;intro I6 ta _ hle56 hm hrt)|refine A0C ?_ hR|(refine A1l ?_;replace hm:=hR.back hm;clear hR;try simp only[F7] at hm)|refine B2G hm.kept (by rfl) (by rfl) (by rfl) ?_|refine D8 ?_|refine A7 ?_|refine E9 ?_|refine A0P ?_|refine Q3 ?_|refine A0s ?_)
 all_goals try first|omega|contradiction
 have hle36:Le I3 I6:=(hleI4.trans hleI5).trans hle56
 have hle26:Le I2 I6:=hleI3.trans hle36
 have hle16:Le I I6:=hle2.trans hle26
 obtain⟨T,hT⟩:∃T:List (Tri Sp.Dg),T= [(it.diags,da9,dc9),(wl,wa,wp),(ed,ea,ep),(fd,fa,fp)]:=⟨_,rfl⟩
 have hTl:T.length=4:=by rw[hT];rfl
 have hTf:raw=T.flatMap (·.1):=by rw[hrw,hT];simp
 have hrt2:RowI I6 44 1 (.slice ta 4 4) 4 (T.flatMap (fun t=> [A01 t])):=by rw[hT];exact hrt
 have hTr:∀t∈T,RowI I6 92 4 (A01 t) t.1.length (t.1.flatMap A3w):=fun t ht=>by
  rw[hT] at ht
  rcases List.mem_cons.1 ht with rfl|ht
  ·exact hrd.le hle16
  ·rcases List.mem_cons.1 ht with rfl|ht
   ·exact hrwd.le hle36
   ·rcases List.mem_cons.1 ht with rfl|ht
    ·exact hred.le (hleI5.trans hle56)
    ·obtain rfl:=List.mem_singleton.1 ht
     exact hrfd.le hle56
 have hpf6:=hpf.le hle26
 have hri6:=hri2.le hle26
 have hpt6:=hci
 clear hT hrd hrwd hred hrfd hrt hN hE hFl
 have hm:=hm.nil 92 4
 have hsub:∀q,(((T.take q).flatMap (·.1)).map (Sp.A2e it.at_)).length≤2000000000:=fun q=>by
  rw[List.length_map]
  have:((T.take q).flatMap (·.1)).length≤(T.flatMap (·.1)).length:=by
   conv=>rhs;rw[←List.take_append_drop q T]
   rw[List.flatMap_append,List.length_append];omega
  rw[←hTf] at this
  omega
 refine U4 (fun x:DgX=> [(1,nt i),(2,ptr b2),(5,.slice x.sa (((T.take x.q).flatMap (·.1)).map (Sp.A2e it.at_)).length x.sp),(34,.slice ta 4 4),(35,nt 4),(36,nt x.q)])
  (fun x w'=>Mem E I6 [.row (.slice x.sa (((T.take x.q).flatMap (·.1)).map (Sp.A2e it.at_)).length x.sp) 92 4 (((T.take x.q).flatMap (·.1)).map (Sp.A2e it.at_)).length ((((T.take x.q).flatMap (·.1)).map (Sp.A2e it.at_)).flatMap A7T)] w'∧x.q≤4) (fun x=>4-x.q) ⟨0,none,0⟩
  (by exact⟨rfl,rfl,rfl,rfl,rfl,rfl,trivial⟩) ⟨hm,Nat.zero_le _⟩ ?_
 clear hm
 rintro⟨q,oa,op⟩ w1 ⟨hm,hq⟩
 dsimp only at hm hq ⊢
 by_cases hlq:q<4
 ·have hg:T[q]?=some T[q]:=List.getElem?_eq_getElem (by omega)
  have htr:=hTr _ (List.mem_of_getElem? hg)
  have htk:(T.take (q+1)).flatMap (·.1)=(T.take q).flatMap (·.1)++T[q].1:=by
   rw[List.take_add_one,hg,List.flatMap_append];simp
  have hsb:=hsub (q+1)
  rw[htk] at hsb
  generalize T[q]=t at hg htr htk hsb
  obtain⟨td,tda,tdc⟩:=t
  dsimp only at htr htk hsb
  generalize (T.take q).flatMap (·.1)=pre at hm htk hsb
  rw[List.map_append,List.length_append,List.length_map,List.length_map] at hsb
  repeat' (first|(refine P5 (d:=38) (enc:=fun t=> [A01 t]) (z:=(td,tda,tdc)) ?_ (hr:=hrt2) (he:=fun _=>rfl) (hz:=by exact hg);intro bz oz hpz)|(refine A1s (d:=39) ?_ hm (hp:=hpz))|refine D7 ?_|refine D5 ?_|refine J5 ?_|refine G7 ?_|refine D8 ?_|refine A7 ?_|refine E5 ?_|refine A8 ?_|refine E9 ?_|refine F8 ?_|(refine D6 (ht:=fun _=>?_) (hf:=fun _=>?_)<;>(try first|contradiction|(exfalso;omega))))
  all_goals try first|omega|contradiction
  refine U4 (fun x:DgX=> [(1,nt i),(2,ptr b2),(5,.slice x.sa ((pre++td.take x.q).map (Sp.A2e it.at_)).length x.sp),(34,.slice ta 4 4),(35,nt 4),(36,nt q),(40,.slice tda td.length tdc),(41,nt td.length),(42,nt x.q)])
   (fun x w'=>Mem E I6 [.row (.slice x.sa ((pre++td.take x.q).map (Sp.A2e it.at_)).length x.sp) 92 4 ((pre++td.take x.q).map (Sp.A2e it.at_)).length (((pre++td.take x.q).map (Sp.A2e it.at_)).flatMap A7T)] w'∧x.q≤td.length) (fun x=>td.length-x.q) ⟨0,oa,op⟩
   (by exact⟨rfl,rfl,by rw[List.take_zero,List.append_nil];rfl,rfl,rfl,rfl,rfl,rfl,rfl,trivial⟩) ⟨by dsimp only;rw[List.take_zero,List.append_nil];exact hm,Nat.zero_le _⟩ ?_
  clear hm
  rintro⟨j,oa,op⟩ w2 ⟨hm,hj⟩
  dsimp only at hm hj ⊢
  by_cases hlj:j<td.length
  ·have hgj:td[j]?=some td[j]:=List.getElem?_eq_getElem hlj
   generalize td[j]=dg at hgj
   have htj:(pre++td.take (j+1)).map (Sp.A2e it.at_)=(pre++td.take j).map (Sp.A2e it.at_)++ [Sp.A2e it.at_ dg]:=by
    rw[Sp.P9 hgj, ←List.append_assoc,List.map_append];rfl
   have hlt:((pre++td.take j).map (Sp.A2e it.at_)).length≤2000000000:=by
    rw[List.length_map,List.length_append,List.length_take];omega
   generalize (pre++td.take j).map (Sp.A2e it.at_)=oj at hm htj hlt
   repeat' (first|(refine P5 (d:=44) (enc:=A3w) (z:=dg) ?_ (hr:=htr) (he:=fun _=>rfl) (hz:=by exact hgj);intro bz2 oz2 hpz2)|refine Z5 10 ?_|(refine V7 (d:=9) ?_ hm;clear hm;intro b9 _ hm)|refine U7 ?_ hm|refine J5 ?_|refine D8 ?_|refine A7 ?_|refine E5 ?_|refine A8 ?_|refine E9 ?_|refine F8 ?_|(refine D6 (ht:=fun _=>?_) (hf:=fun _=>?_)<;>(try first|contradiction|(exfalso;omega))))
   all_goals try first|omega|contradiction
   refine⟨?_⟩
   refine B45 10 (fun _:DgX=> [(1,nt i),(2,ptr b2),(5,.slice oa oj.length op),(9,ptr b9),(34,.slice ta 4 4),(35,nt 4),(36,nt q),(40,.slice tda td.length tdc),(41,nt td.length),(42,nt j)]) (fun _ w'=>Mem E I6 [.cell b9 (A7T (Sp.A2e it.at_ dg)) 92,.row (.slice oa oj.length op) 92 4 oj.length (oj.flatMap A7T)] w') ?_ ?_
   ·skip
    repeat' (first|(refine A8a (id:=10) (hm.perm pm1_0) [0,2,3,4,5,6,7,9,11,12,13,14,15,16] 20 (h:=?_);clear hm;intro wd hR hm)|(refine A0T (d:=51) ?_ (hr:=hri6);intro bt1 ot1 hpt1;rw[show ((i:Int).toNat *10)=i *10 from rfl,hci] at hpt1)|(refine A0T (d:=60) ?_ (hr:=hri6);intro bt2 ot2 hpt2;rw[show ((i:Int).toNat *10)=i *10 from rfl,hci] at hpt2)|(refine B48 (C1j (listed':= #[true,false,true,true,true,true,true,true,false,true,false,true,true,true,true,true,true,false,false,false,false,false]) (by decide+kernel) ?_))|(refine B7l hm (by rfl) (by rfl) (by rfl) gt0 (by rfl) ?_)|(refine B9l hm.kept (by rfl) (by rfl) (by rfl) (by rfl) ?_)|(refine B1j hm.kept (by rfl) (by rfl) (by rfl) ?_)|(refine B5F hm (by rfl) (by rfl) (by rfl) (by rfl) gt0 (by rfl) (by rfl) (by rfl) ?_;clear hm;intro _ hm;try simp only[F7] at hm)|(refine A3X (i:=1) (j:=10) ?_ (by decide+kernel) (h:=?_))|(refine A3X (i:=8) (j:=10) ?_ (by decide+kernel) (h:=?_))|(refine A3X (i:=1) (j:=17) ?_ (by decide+kernel) (h:=?_))|(refine A3X (i:=8) (j:=17) ?_ (by decide+kernel) (h:=?_))|(refine A3X (i:=17) (j:=18) ?_ (by decide+kernel) (h:=?_))|(refine A3X (i:=17) (j:=19) ?_ (by decide+kernel) (h:=?_))|(refine A3W (i:=1) ?_ (by decide+kernel))|(refine A3W (i:=8) ?_ (by decide+kernel))|(refine A3W (i:=10) ?_ (by decide+kernel))|(refine A3W (i:=17) ?_ (by decide+kernel))|(refine A3W (i:=18) ?_ (by decide+kernel))|(refine A3W (i:=19) ?_ (by decide+kernel))|(refine B74 (by decide+kernel) ?_;replace hm:=hR.back hm;clear hR;try simp only[F7] at hm)|refine A0C ?_ hR|(refine J6 hm (k:=?_);clear hm;intro _ hm;try simp only[F7] at hm)|refine C9 ?_|refine D8 ?_|refine A0P ?_|refine Q3 ?_)
    all_goals try first|omega|contradiction
    all_goals exact Y6 (⟨0,none,0⟩:DgX) (by exact⟨rfl,rfl,rfl,rfl,rfl,rfl,rfl,rfl,rfl,rfl,trivial⟩) hm
   clear hm
   intro _ w3 hm
   repeat' (first|(refine A2b (d:=69) ?_ hm;clear hm;intro a69 cp69 _ _ hm;try simp only[F7] at hm)|refine U5 ?_ hm|refine D7 ?_|refine D5 ?_|refine Q4 ?_|refine D8 ?_|refine A7 ?_|refine D9 ?_|refine A8 ?_)
   all_goals try first|omega|contradiction
   refine J9 (⟨j+1,a69,cp69⟩:DgX) (by exact⟨rfl,rfl,by rw[htj,List.length_append];rfl,rfl,rfl,rfl,rfl,rfl,rfl,trivial⟩) ⟨?_,by dsimp only;omega⟩ (by dsimp only;omega)
   dsimp only
   rw[htj,List.flatMap_append,List.length_append]
   exact hm.tl
  ·obtain rfl:j=td.length:=by omega
   rw[List.take_length] at hm ⊢
   repeat' (first|refine D7 ?_|refine J5 ?_|refine Q4 ?_|refine D8 ?_|refine A7 ?_|refine G9 ?_|refine D9 ?_|refine G6 ?_|refine E5 ?_|refine A8 ?_|refine O4 ?_|(refine D6 (ht:=fun _=>?_) (hf:=fun _=>?_)<;>(try first|contradiction|(exfalso;omega))))
   all_goals try first|omega|contradiction
   exact J9 (⟨q+1,oa,op⟩:DgX) (by exact⟨rfl,rfl,by rw[htk];rfl,rfl,rfl,rfl,trivial⟩) ⟨by dsimp only;rw[htk];exact hm,by dsimp only;omega⟩ (by dsimp only;omega)
 ·obtain rfl:q=4:=by omega
  rw[List.take_of_length_le (by omega), ←hTf] at hm ⊢
  repeat' (first|refine D7 ?_|refine D5 ?_|refine J5 ?_|refine D8 ?_|refine A7 ?_|refine G9 ?_|refine G6 ?_|refine E5 ?_|refine A8 ?_|refine O4 ?_|refine G8 ?_|refine H5 ?_|refine F6 ?_)
  all_goals try first|omega|contradiction
  obtain⟨I7,hle7,hm7,hrow⟩:=hm.freeze
  exact⟨I7,[],⟨rfl,_,_,rfl,hrow⟩,hm7⟩
end
end Go.Proofs.YtfjdfdgpkncpfaaGreatDoor
end
