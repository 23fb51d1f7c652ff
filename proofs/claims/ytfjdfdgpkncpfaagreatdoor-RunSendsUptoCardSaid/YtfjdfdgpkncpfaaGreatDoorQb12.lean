/- Own work: texts FwCut, RunC, RunD, RunE, PpA, one behind the other. -/
import Derived.Test.YtfjdfdgpkncpfaaGreatDoorQb11
set_option maxHeartbeats 64000000
section
namespace Go.Fw
open Go
theorem B4L {w:World}{base e sz n m cp:Nat}{a:Option Addr}{xs:List Value} (ho:w.ownsRow base e sz (.slice a n cp) n xs) (hmn:m≤n):
  w.ownsRow base e sz (.slice a m cp) m (xs.take (m *sz))∧n≤cp∧(a=none∨∃g,a=some ⟨g,0,none⟩):=by
 have h0:=ho.1
 have hle:m *sz≤n *sz:=Nat.mul_le_mul_right _ hmn
 have hlen:(xs.take (m *sz)).length=m *sz:=by rw[List.length_take];omega
 rcases ho.2 with ⟨hv,hn⟩|⟨g,cap,cur,hv,hb,hg,hc,hcm,hs,ht⟩
 ·obtain⟨rfl,rfl,rfl⟩:=Value.slice.inj hv
  obtain rfl:m=0:=by omega
  exact⟨⟨hlen,.inl ⟨rfl,rfl⟩⟩,Nat.le_refl _,.inl rfl⟩
 ·obtain⟨rfl,_,rfl⟩:=Value.slice.inj hv
  refine⟨⟨hlen,.inr ⟨g,cp,cur,rfl,hb,hg,by omega,hcm,hs,?_⟩⟩,hc,.inr ⟨g,rfl⟩⟩
  rw[←ht,List.take_take,Nat.min_eq_left hle]
section
variable {P:Program}{N:Nat}{ds:List Deferred}{Q:Exit→Act→World→Prop}{l:Log}{w:World}{ops:Array Oper}{os:List Oper}
variable {d:Nat}{ty:TypeId}{pos:String}{af:Array Edge}{g:Option (Nat×Bool)}{t:TypeId}{x y:Operand}{E:Ent}{I:O5}{H:List HItem}
theorem A7x {e:TypeId}{sz by_:Nat} [TySlice P t e] [Elem P e sz by_] {i n m cp:Nat}{a:Option Addr}{xs:List Value} (k:Mem E I (H.set i (.row (.slice a m cp) e sz m (xs.take (m *sz)))) w→WL P N ds ops Q os ((d,.slice a m cp)::l) w) (hm:Mem E I H w)
  (hw:P7 ops l ⟨some d,.slice t x none (some y) none,ty,pos,af,g⟩=some true:=by rfl) (hN:Nat.blt d N=true:=by rfl)
  (hx:ev l x=some (.slice a n cp):=by rfl) (hy:ev l y=some (.int .i64 (m:Int)):=by rfl) (hi:H[i]?=some (.row (.slice a n cp) e sz n xs):=by first|exact gt0|exact gt1|exact gt2|exact gt3|exact gt4|exact gt5|exact gt6) (hmn:m≤n)
   :
  WL P N ds ops Q (⟨some d,.slice t x none (some y) none,ty,pos,af,g⟩::os) l w:=by
 obtain⟨h1,h2,h3⟩:=B4L (hm.ok _ (List.mem_of_getElem? hi)) hmn
 have hm':=hm.turn (h':=.row (.slice a m cp) e sz m (xs.take (m *sz))) hi (Kept.refl _ w) h1 (.inl (by rcases a with _|a<;>rfl))
 refine O9 (w':=w) (v:=.slice a m cp) rfl hw hN (fun c hc=>?_) (k hm')
 obtain⟨inf,z,hinf,_,hs,_,_,_⟩:=Elem.out (P:=P) (e:=e)
 have h6:=run_underlying (P:=P) (w:=w) (TySlice.out (P:=P) (t:=t))
 have h7:m≤cp:=by omega
 rcases h3 with rfl|⟨g,rfl⟩
 ·simp[execOp,Instr.sliceAt,Instr.slice,Instr.sliceBounds,Instr.sliceBound,hc.ev hx,hc.ev hy,h6,asIntOf,h7,sizeOf,typeInfo,hinf]
 ·simp[execOp,Instr.sliceAt,Instr.slice,Instr.sliceBounds,Instr.sliceBound,hc.ev hx,hc.ev hy,h6,asIntOf,h7,sizeOf,typeInfo,hinf,Addr.add_lit]
end
end Go.Fw
end
section
namespace Go.Sp
theorem B4X (C:A0X) (x:Stm) (s:SR):A3S C x s=if x.kind=4 then A0F (fun sc m=>exR C sc x.e m) (A30 C x.thn) 3001 s else
  if s.m.go=false then { s with m:=s.m.step} else
  if (exR C s.sc x.e s.m.step).2.err≠0 then { s with m:=(exR C s.sc x.e s.m.step).2} else
  if x.kind=1 then { s with sc:=s.sc++ [⟨x.name,(exR C s.sc x.e s.m.step).1⟩],m:=(exR C s.sc x.e s.m.step).2} else
  if x.kind=2 then { s with sc:=A7J s.sc x.name (exR C s.sc x.e s.m.step).1,m:=(exR C s.sc x.e s.m.step).2} else
  if x.kind=5 then { s with m:= { (exR C s.sc x.e s.m.step).2 with ev:=(exR C s.sc x.e s.m.step).2.ev++ [⟨x.name,(exR C s.sc x.e s.m.step).1⟩]}} else
  if x.kind=6 then { s with back:=(exR C s.sc x.e s.m.step).1,m:=(exR C s.sc x.e s.m.step).2} else
  if x.kind=3 then if (exR C s.sc x.e s.m.step).1≠0 then A30 C x.thn { s with m:=(exR C s.sc x.e s.m.step).2} else A30 C x.els { s with m:=(exR C s.sc x.e s.m.step).2}
  else { s with m:=(exR C s.sc x.e s.m.step).2}:=by
 cases x;rw[A3S];rfl
end Go.Sp
namespace Go.Proofs.YtfjdfdgpkncpfaaGreatDoor
open Go.Proofs.Tryz
open Go.Fw
theorem B2L {I:O5}{x:Sp.Stm}{b o tc ec:Nat}{ea:Option Addr}{v1 v2:Value} (hp:PtrI I b o tc (A44 x.kind x.name x.at_ x.label x.opn x.e ea ec v1 v2 x.fr x.to)):PtrI I b (o+5) tc (A0d x.e ea ec):=
 hp.sub (cs':=A0d x.e ea ec) 5 (fun j u hj=>by
  match j,hj with
  |0,hj=>exact hj
  |1,hj=>exact hj
  |2,hj=>exact hj
  |3,hj=>exact hj
  |4,hj=>exact hj
  |5,hj=>exact hj
  |j+6,hj=>cases hj)
structure RsX where
 k:Nat
 I:O5
 s:Sp.SR
 sa:Option Addr
 sp:Nat
 va:Option Addr
 vp:Nat
abbrev ToR (br bm bf:Nat) (s:Sp.SR) (deep:Nat):Value→O5→List HItem→Prop:=fun v _ H'=>v=.tuple #[]∧∃sa sp va vp,H'=RSt br bm bf s.sc s.back s.m sa sp va vp deep
section
variable (I0:O5) (C:Sp.A0X) (br bm bf deep:Nat)
def B21 (x:Sp.Stm):Prop:=
 ∀(I:O5) (b o tc:Nat) (cs:List Value) (s:Sp.SR) (sa:Option Addr) (sp:Nat) (va:Option Addr) (vp:Nat),Le I0 I→s.m.steps≤3000→s.m.ev.length≤s.m.steps→s.sc.length+x.cnt≤1000000000→
  PtrI I b o tc cs→A29 I x cs→
  CalM prog 97 #[ptr br,.pointer (some ⟨b,o,none⟩)] I (RSt br bm bf s.sc s.back s.m sa sp va vp deep) (ToR br bm bf (Sp.A3S C x s) deep)
def A8y (l:List Sp.Stm):Prop:=
 ∀(I:O5) (ab:Option Addr) (cb:Nat) (xb:List Value) (s:Sp.SR) (sa:Option Addr) (sp:Nat) (va:Option Addr) (vp:Nat),Le I0 I→s.m.steps≤3000→s.m.ev.length≤s.m.steps→s.sc.length+Sp.N7 l≤1000000000→
  RowI I 109 15 (.slice ab l.length cb) l.length xb→U8 I l xb→
  CalM prog 64 #[ptr br,.slice ab l.length cb] I (RSt br bm bf s.sc s.back s.m sa sp va vp deep) (ToR br bm bf (Sp.A30 C l s) deep)
end
section
variable {I0:O5}{its:List Sp.Itm}{C:Sp.A0X}{br bm bf deep:Nat}
theorem B8W (hC:Sp.A3u C) (l:List Sp.Stm) (hl:l.length≤64) (hS:∀y∈l,B21 I0 C br bm bf deep y):A8y I0 C br bm bf deep l:=by
 intro I ab cb xb s sa sp va vp hle0 hst hev hsc hr hx
 refine CalM.of fun w E hm=>enter (N:=39) func64 rfl [(0,ptr br),(1,.slice ab l.length cb)] A0B rfl ?_
 repeat' (first|refine H6 ?_ hm|refine D7 ?_|refine D5 ?_|refine G7 ?_|refine E8 ?_|refine C9 ?_|refine D8 ?_|refine A7 ?_|refine E5 ?_|refine A8 ?_|refine E9 ?_)
 all_goals try first|omega|contradiction
 refine U4 (fun x:RsX=> [(0,ptr br),(1,.slice ab l.length cb),(4,nt s.sc.length),(12,nt l.length),(13,nt x.k)])
  (fun x w'=>Mem E x.I (RSt br bm bf x.s.sc x.s.back x.s.m x.sa x.sp x.va x.vp deep) w'∧Le I x.I∧x.k≤l.length∧Sp.goR C l s=Sp.goR C (l.drop x.k) x.s∧Sp.SR.To (Sp.N7 (l.take x.k)) s x.s) (fun x=>l.length-x.k) ⟨0,I,s,sa,sp,va,vp⟩
  (by exact⟨rfl,rfl,rfl,rfl,rfl,trivial⟩) ⟨hm,Le.refl _,Nat.zero_le _,rfl,.refl hst,Nat.le_refl _,Nat.le_add_right _ _⟩ ?_
 clear hm
 rintro⟨k,I1,s1,sa1,sp1,va1,vp1⟩ w1 ⟨hm,hle1,hk,hgo,hto⟩
 dsimp only at hm hle1 hk hgo hto ⊢
 have hrow:=hr.le hle1
 have hm1:=hto.m
 have hev1:s1.m.ev.length≤s1.m.steps:=by have:=hm1.ev;omega
 by_cases hlt:k<l.length
 ·have hg:l[k]?=some l[k]:=List.getElem?_eq_getElem hlt
  rw[List.drop_eq_getElem_cons hlt,Sp.goR] at hgo
  have hmem:=List.getElem_mem hlt
  obtain⟨cs,hcs⟩:∃cs,cs=(xb.drop (k *15)).take 15:=⟨_,rfl⟩
  have hat:=hx.get hg
  rw[←hcs] at hat
  have hSk:=hS _ hmem
  generalize l[k]=y at hg hgo hat hSk
  have hcy:=Sp.A3e hg
  have hhi:=hto.hi
  by_cases he:s1.m.err≠0
  ·rw[if_pos he] at hgo
   have hfin:Sp.A30 C l s=s1:=by rw[Sp.A30,hgo,Sp.A04,if_neg (by simp)]
   rw[hfin]
   repeat' (first|refine H6 ?_ hm|refine D7 ?_|refine D5 ?_|refine J5 ?_|refine X9 ?_|refine E8 ?_|refine C9 ?_|refine D8 ?_|refine A7 ?_|refine G5 ?_|refine O8 ?_|refine E5 ?_|refine A8 ?_|refine E9 ?_|refine F8 ?_|refine G8 ?_|refine A4J ?_|(refine D6 (ht:=fun _=>?_) (hf:=fun _=>?_)<;>(try first|contradiction|(exfalso;omega))))
   all_goals try first|omega|contradiction
   exact⟨I1,_,⟨rfl,sa1,sp1,va1,vp1,rfl⟩,hm⟩
  ·rw[if_neg he] at hgo
   have he0:s1.m.err=0:=by omega
   have hcl:=fun b o (hpt:PtrI I1 b o 109 cs)=>hSk I1 b o 109 cs s1 sa1 sp1 va1 vp1 (hle0.trans hle1) hm1.top hev1 (by omega) hpt (A29.le hle1 _ _ hat)
   have hty:=Sp.B4Y hC y s1 hm1.top
   have hcs1:Sp.N7 (l.take (k+1))=Sp.N7 (l.take k)+y.cnt:=by rw[Sp.P9 hg,Sp.A1z,Sp.A24]
   generalize Sp.A3S C y s1=s2 at hcl hgo hty
   repeat' (first|(refine L6 (d:=27) ?_ (hr:=hrow);intro bt ot hpt;rw[show ((k:Int).toNat *15)=k *15 from rfl, ←hcs] at hpt)|(refine F5 (d:=28) ?_ hm (hp:=pmR4) (hc:=hcl _ _ hpt);clear hm;rintro _ I2 _ _ ⟨rfl,sa2,sp2,va2,vp2,rfl⟩ hleI2 hm;try simp only[F7] at hm)|refine H6 ?_ hm|refine D7 ?_|refine D5 ?_|refine J5 ?_|refine X9 ?_|refine E8 ?_|refine Q4 ?_|refine C9 ?_|refine D8 ?_|refine A7 ?_|refine D9 ?_|refine E5 ?_|refine A8 ?_|refine E9 ?_|refine F8 ?_|(refine D6 (ht:=fun _=>?_) (hf:=fun _=>?_)<;>(try first|contradiction|(exfalso;omega))))
   all_goals try first|omega|contradiction
   exact J9 (⟨k+1,I2,s2,sa2,sp2,va2,vp2⟩:RsX) (by exact⟨rfl,rfl,rfl,rfl,rfl,trivial⟩)
    ⟨hm,hle1.trans hleI2,by dsimp only;omega,hgo,⟨hm1.trans hty.m,by have:=hto.lo;have:=hty.lo;dsimp only;omega,by have:=hty.hi;dsimp only;omega⟩⟩ (by dsimp only;omega)
 ·obtain rfl:k=l.length:=by omega
  rw[List.drop_length,Sp.goR] at hgo
  have hlo:=hto.lo
  have hfin:Sp.A30 C l s= { s1 with sc:=s1.sc.take s.sc.length}:=by rw[Sp.A30,hgo,Sp.A04,if_pos rfl]
  rw[hfin]
  have htl:(s1.sc.take s.sc.length).length=s.sc.length:=by rw[List.length_take];omega
  repeat' (first|(refine A7x (d:=36) ?_ hm (hmn:=hlo);clear hm;intro hm;try simp only[F7] at hm)|refine H6 ?_ hm|(refine J6 hm (k:=?_);clear hm;intro _ hm;try simp only[F7] at hm)|refine D7 ?_|refine J5 ?_|refine E8 ?_|refine C9 ?_|refine D8 ?_|refine A7 ?_|refine G9 ?_|refine G6 ?_|refine E5 ?_|refine A8 ?_|refine O4 ?_|refine X3 ?_|(refine D6 (ht:=fun _=>?_) (hf:=fun _=>?_)<;>(try first|contradiction|(exfalso;omega))))
  all_goals try first|omega|contradiction
  refine⟨I1,_,⟨rfl,sa1,sp1,va1,vp1,?_⟩,hm⟩
  have e:(s1.sc.flatMap A5p).take (s.sc.length *2)=(s1.sc.take s.sc.length).flatMap A5p:=by
   have key:∀(l:List Sp.Cl) (n:Nat),(l.flatMap A5p).take (n *2)=(l.take n).flatMap A5p:=by
    intro l
    induction l with
    |nil=>intro n;simp
    |cons x l ih=>
     intro n
     cases n with
     |zero=>simp
     |succ n=>
      rw[List.flatMap_cons,List.take_succ_cons,List.flatMap_cons,show (n+1) *2=2+n *2 by omega,List.take_append,List.take_of_length_le (by show 2≤2+n *2;omega),show 2+n *2-(A5p x).length=n *2 by (show 2+n *2-2=n *2;omega),ih]
   exact key _ _
  dsimp only[RSt,A5Y,A53]
  rw[e,htl]
theorem B8Z (hW:B1p I0 its C bm bf deep) (hC:Sp.A3u C) (x:Sp.Stm) (hsm:x.small) (hok:x.e.all (Sp.okE its)) (hT:A8y I0 C br bm bf deep x.thn) (k4:x.kind=4):B21 I0 C br bm bf deep x:=by
 intro I b o tc cs s sa sp va vp hle0 hst hev hsc hp hx
 refine CalM.of fun w E hm=>enter (N:=135) func97 rfl [(0,ptr br),(1,.pointer (some ⟨b,o,none⟩))] A0B rfl ?_
 obtain⟨s1,s2,s3,s4,s5⟩:=Sp.A1h hsm
 have hcn:=Sp.Stm.cnt_eq x
 obtain⟨ea,ec,ex,a1',c1,xs1,a2',c2,xs2,rfl,hr3,hx3,hr4,hx4,hr5,hx5⟩:=hx.out
 rw[Sp.B4X,if_pos k4]
 generalize hfin:Sp.A0F (fun sc m=>Sp.exR C sc x.e m) (Sp.A30 C x.thn) 3001 s=fin
 have hbt:Sp.B4d (Sp.N7 x.thn) (Sp.A30 C x.thn):=fun s h=>Sp.B0t hC x.thn s h
 repeat' (first|refine H9 ?_ hm|refine D7 ?_|refine L8 ?_|refine E8 ?_|refine C9 ?_|refine D8 ?_|refine A7 ?_|refine E5 ?_|refine A8 ?_|refine E9 ?_|(refine D6 (ht:=fun _=>?_) (hf:=fun _=>?_)<;>(try first|contradiction|(exfalso;omega))))
 all_goals try first|omega|contradiction
 refine U4 (fun _:RsX=> [(0,ptr br),(1,.pointer (some ⟨b,o,none⟩))])
  (fun y w'=>Mem E y.I (RSt br bm bf y.s.sc y.s.back y.s.m y.sa y.sp y.va y.vp deep) w'∧Le I y.I∧3000<y.k+y.s.m.steps∧fin=Sp.A0F (fun sc m=>Sp.exR C sc x.e m) (Sp.A30 C x.thn) y.k y.s∧
   s.m.To y.s.m∧(y.s.m.err=0→y.s.sc.length=s.sc.length)) (fun y=>3001-y.s.m.steps) ⟨3001,I,s,sa,sp,va,vp⟩
  (by exact⟨rfl,rfl,trivial⟩) ⟨hm,Le.refl _,by dsimp only;omega,hfin.symm,.refl hst,fun _=>rfl⟩ ?_
 clear hm
 rintro⟨j,I1,y,sa1,sp1,va1,vp1⟩ w1 ⟨hm,hle1,hj,hlp,hto,hln⟩
 dsimp only at hm hle1 hj hlp hto hln ⊢
 have hst1:=hto.top
 have hev1:y.m.ev.length≤y.m.steps:=by have:=hto.ev;omega
 obtain⟨j,rfl⟩:∃i,j=i+1:=⟨j-1,by omega⟩
 have hp1:=hp.le hle1
 have hS:=fun (J:O5)=>B3L (bm:=bm) (bf:=bf) (m:=y.m) (ea:=va1) (ep:=vp1) (deep:=deep) hst1 J
 have hstt:=Sp.A5T hst1
 have hse:=Sp.B1b y.m
 have hgg:= @Sp.A8s y.m
 rw[Sp.A0F] at hlp
 obtain⟨sc,back,m⟩:=y
 dsimp only at hm hj hlp hto hln hst1 hev1 hS hstt hse hgg
 generalize hm1:m.step=m1 at hS hstt hse hlp hgg
 have hevr:A35 m1 va1 vp1=A35 m va1 vp1:=by unfold A35;rw[hse]
 have hev2:m1.ev.length≤m1.steps:=by have:=hstt.ev;omega
 cases hgo:m.go with
 |false=>
  rw[hgo,if_pos rfl] at hlp
  rw[hgo] at hS
  rw[hlp]
  repeat' (first|(refine F5 (d:=14) ?_ hm (hp:=pm1_2) (hc:=hS _);clear hm;rintro _ I2 _ _ ⟨rfl,rfl⟩ hleI2 hm;try simp only[F7] at hm;rw[←hevr] at hm)|refine H6 ?_ hm|refine D7 ?_|refine J3 ?_|refine E8 ?_|refine C9 ?_|refine Y1 ?_|refine D8 ?_|refine A7 ?_|refine G5 ?_|refine G9 ?_|refine G6 ?_|refine E5 ?_|refine A8 ?_|refine O4 ?_|refine G8 ?_|refine A4J ?_|refine F6 ?_)
  all_goals try first|omega|contradiction
  exact⟨I2,_,⟨rfl,sa1,sp1,va1,vp1,rfl⟩,hm.perm pm2_1⟩
 |true=>
 rw[hgo,if_neg (by simp)] at hlp
 rw[hgo] at hS
 obtain⟨hg1,hg2,hg3⟩:=hgg hgo
 have hsl:=hln hg2
 have hE:=fun (J:O5) (mm:Le I1 J) (b o tc:Nat) (hpt:PtrI J b o tc (A0d x.e ea ec))=>B7J (br:=br) hW hC _ x.e (Nat.le_refl _) s1 hok J b o tc ea ec ex sc back m1 sa1 sp1 va1 vp1 ((hle0.trans hle1).trans mm) hstt.top hev2 (by omega) hpt ((hr3.le hle1).le mm) (V5.le mm _ _ (V5.le hle1 _ _ hx3))
 have hte:=Sp.A7k hC sc x.e m1 hstt.top
 generalize Sp.exR C sc x.e m1=r at hE hlp hte
 have hev3:r.2.ev.length≤r.2.steps:=by have:=hte.ev;omega
 have hpe:=fun (J:O5) (mm:Le I1 J)=>B2L (hp1.le mm)
 by_cases hn:r.1=0
 ·rw[if_neg (fun h=>h.1 hn)] at hlp
  rw[hlp]
  rw[hn] at hE
  repeat' (first|(refine F5 (d:=14) ?_ hm (hp:=pm1_2) (hc:=hS _);clear hm;rintro _ I2 _ _ ⟨rfl,rfl⟩ hleI2 hm;try simp only[F7] at hm;rw[←hevr] at hm;replace hm:=hm.perm pm2_1;have hp2:=hp1.le hleI2)|(refine F5 (d:=20) ?_ hm (hp:=pmR4) (hc:=hE I2 hleI2 _ _ _ (hpe _ hleI2));clear hm;rintro _ I3 _ _ ⟨rfl,va3,vp3,rfl⟩ hleI3 hm;try simp only[F7] at hm)|refine H6 ?_ hm|refine D7 ?_|refine J8 ?_|refine J3 ?_|refine X9 ?_|refine E8 ?_|refine C9 ?_|refine Y1 ?_|refine D8 ?_|refine A7 ?_|refine G5 ?_|refine G9 ?_|refine G6 ?_|refine E5 ?_|refine A8 ?_|refine O4 ?_|refine G8 ?_|refine A4J ?_|refine F6 ?_)
  all_goals try first|omega|contradiction
  exact⟨I3,_,⟨rfl,sa1,sp1,va3,vp3,rfl⟩,hm⟩
 by_cases he:r.2.err=0
 ·rw[if_pos ⟨hn,he⟩] at hlp
  have hB:=fun (J:O5) (mm:Le I1 J) (va:Option Addr) (vp:Nat)=>hT J a1' c1 xs1 ⟨sc,back,r.2⟩ sa1 sp1 va vp ((hle0.trans hle1).trans mm) hte.top hev3 (by dsimp only;omega) ((hr4.le hle1).le mm) (U8.le mm _ _ (U8.le hle1 _ _ hx4))
  dsimp only at hB
  have htb:=hbt ⟨sc,back,r.2⟩ hte.top
  generalize Sp.A30 C x.thn ⟨sc,back,r.2⟩=s9 at hB hlp htb
  dsimp only at htb
  repeat' (first|(refine F5 (d:=14) ?_ hm (hp:=pm1_2) (hc:=hS _);clear hm;rintro _ I2 _ _ ⟨rfl,rfl⟩ hleI2 hm;try simp only[F7] at hm;rw[←hevr] at hm;replace hm:=hm.perm pm2_1;have hp2:=hp1.le hleI2)|(refine F5 (d:=20) ?_ hm (hp:=pmR4) (hc:=hE I2 hleI2 _ _ _ (hpe _ hleI2));clear hm;rintro _ I3 _ _ ⟨rfl,va3,vp3,rfl⟩ hleI3 hm;try simp only[F7] at hm;have hp3:=hp2.le hleI3)|(refine F5 (d:=38) ?_ hm (hp:=pmR4) (hc:=hB I3 (hleI2.trans hleI3) va3 vp3);clear hm;rintro _ I4 _ _ ⟨rfl,sa4,sp4,va4,vp4,rfl⟩ hleI4 hm;try simp only[F7] at hm)|refine H6 ?_ hm|refine H9 ?_ hm|refine D7 ?_|refine J8 ?_|refine L8 ?_|refine X9 ?_|refine E8 ?_|refine C9 ?_|(refine O0 (h1:=fun _=>?_) (h0:=fun _=>?_)<;>(try first|contradiction|(exfalso;omega)))|refine D8 ?_|refine A7 ?_|refine D9 ?_|refine E5 ?_|refine A8 ?_|refine E9 ?_|refine F8 ?_|(refine D6 (ht:=fun _=>?_) (hf:=fun _=>?_)<;>(try first|contradiction|(exfalso;omega))))
  all_goals try first|omega|contradiction
  have hup:=hte.up
  have hup2:=htb.1.m.up
  have hup3:m1.steps=m.steps+1:=by rw[hg1]
  exact J9 (⟨j,I4,s9,sa4,sp4,va4,vp4⟩:RsX) (by exact⟨rfl,rfl,trivial⟩)
   ⟨hm,((hle1.trans hleI2).trans hleI3).trans hleI4,by dsimp only at hup2 ⊢;omega,hlp,((hto.trans hstt).trans hte).trans htb.1.m,fun h=>by have:=htb.2 h;dsimp only at this ⊢;omega⟩ (by dsimp only at hup2 ⊢;omega)
 ·rw[if_neg (fun h=>he h.2)] at hlp
  rw[hlp]
  repeat' (first|(refine F5 (d:=14) ?_ hm (hp:=pm1_2) (hc:=hS _);clear hm;rintro _ I2 _ _ ⟨rfl,rfl⟩ hleI2 hm;try simp only[F7] at hm;rw[←hevr] at hm;replace hm:=hm.perm pm2_1;have hp2:=hp1.le hleI2)|(refine F5 (d:=20) ?_ hm (hp:=pmR4) (hc:=hE I2 hleI2 _ _ _ (hpe _ hleI2));clear hm;rintro _ I3 _ _ ⟨rfl,va3,vp3,rfl⟩ hleI3 hm;try simp only[F7] at hm)|refine H6 ?_ hm|refine D7 ?_|refine J8 ?_|refine L8 ?_|refine X9 ?_|refine E8 ?_|refine C9 ?_|(refine O0 (h1:=fun _=>?_) (h0:=fun _=>?_)<;>(try first|contradiction|(exfalso;omega)))|refine D8 ?_|refine A7 ?_|refine G5 ?_|refine G9 ?_|refine G6 ?_|refine E5 ?_|refine A8 ?_|refine O4 ?_|refine G8 ?_|refine A4J ?_|(refine D6 (ht:=fun _=>?_) (hf:=fun _=>?_)<;>(try first|contradiction|(exfalso;omega))))
  all_goals try first|omega|contradiction
  exact⟨I3,_,⟨rfl,sa1,sp1,va3,vp3,rfl⟩,hm⟩
end
section
variable {I0:O5}{its:List Sp.Itm}{C:Sp.A0X}{br bm bf deep:Nat}
theorem C0i (hW:B1p I0 its C bm bf deep) (hC:Sp.A3u C) (x:Sp.Stm) (hsm:x.small) (hok:x.e.all (Sp.okE its)) (hT:A8y I0 C br bm bf deep x.thn) (hL:A8y I0 C br bm bf deep x.els):B21 I0 C br bm bf deep x:=by
 by_cases k4:x.kind=4
 ·exact B8Z hW hC x hsm hok hT k4
 intro I b o tc cs s sa sp va vp hle0 hst hev hsc hp hx
 refine CalM.of fun w E hm=>enter (N:=135) func97 rfl [(0,ptr br),(1,.pointer (some ⟨b,o,none⟩))] A0B rfl ?_
 obtain⟨s1,s2,s3,s4,s5⟩:=Sp.A1h hsm
 have hcn:=Sp.Stm.cnt_eq x
 obtain⟨ea,ec,ex,a1',c1,xs1,a2',c2,xs2,rfl,hr3,hx3,hr4,hx4,hr5,hx5⟩:=hx.out
 have hS:=fun (J:O5)=>B3L (bm:=bm) (bf:=bf) (m:=s.m) (ea:=va) (ep:=vp) (deep:=deep) hst J
 have hstt:=Sp.A5T hst
 have hse:=Sp.B1b s.m
 have hgg:= @Sp.A8s s.m
 have heq:=Sp.B4X C x s
 rw[if_neg k4] at heq
 obtain⟨fin,hfin⟩:∃fin,fin=Sp.A3S C x s:=⟨_,rfl⟩
 rw[←hfin] at heq ⊢
 clear hfin
 obtain⟨sc,back,m⟩:=s
 dsimp only at hm hst hev hsc hS hstt hse hgg heq
 generalize hm1:m.step=m1 at hS hstt hse heq hgg
 have hevr:A35 m1 va vp=A35 m va vp:=by unfold A35;rw[hse]
 have hev2:m1.ev.length≤m1.steps:=by have:=hstt.ev;omega
 cases hgo:m.go with
 |false=>
  rw[hgo,if_pos rfl] at heq
  rw[hgo] at hS
  subst heq
  repeat' (first|(refine F5 (d:=43) ?_ hm (hp:=pm1_2) (hc:=hS _);clear hm;rintro _ I2 _ _ ⟨rfl,rfl⟩ hleI2 hm;try simp only[F7] at hm;rw[←hevr] at hm)|refine H6 ?_ hm|refine H9 ?_ hm|refine D7 ?_|refine L8 ?_|refine U9 ?_|refine E8 ?_|refine C9 ?_|refine D8 ?_|refine A7 ?_|refine G5 ?_|refine E5 ?_|refine A8 ?_|refine F8 ?_|refine G8 ?_|refine A4J ?_|refine F9 ?_|(refine D6 (ht:=fun _=>?_) (hf:=fun _=>?_)<;>(try first|contradiction|(exfalso;omega))))
  all_goals try first|omega|contradiction
  exact⟨I2,_,⟨rfl,sa,sp,va,vp,rfl⟩,hm.perm pm2_1⟩
 |true=>
 rw[hgo,if_neg (by simp)] at heq
 rw[hgo] at hS
 obtain⟨hg1,hg2,hg3⟩:=hgg hgo
 have hE:=fun (J:O5) (mm:Le I J) (b o tc:Nat) (hpt:PtrI J b o tc (A0d x.e ea ec))=>B7J (br:=br) hW hC _ x.e (Nat.le_refl _) s1 hok J b o tc ea ec ex sc back m1 sa sp va vp (hle0.trans mm) hstt.top hev2 (by omega) hpt (hr3.le mm) (V5.le mm _ _ hx3)
 have hte:=Sp.A7k hC sc x.e m1 hstt.top
 generalize Sp.exR C sc x.e m1=r at hE heq hte
 have hte2:=hte.ev
 have hst4:=hte.top
 have hst3:m1.steps=m.steps+1:=by rw[hg1]
 have hev3:r.2.ev.length≤r.2.steps:=by omega
 have hpe:=fun (J:O5) (mm:Le I J)=>B2L (hp.le mm)
 by_cases he:r.2.err≠0
 ·rw[if_pos he] at heq
  subst heq
  repeat' (first|(refine F5 (d:=43) ?_ hm (hp:=pm1_2) (hc:=hS _);clear hm;rintro _ I2 _ _ ⟨rfl,rfl⟩ hleI2 hm;try simp only[F7] at hm;rw[←hevr] at hm;replace hm:=hm.perm pm2_1;have hp2:=hp.le hleI2)|(refine F5 (d:=49) ?_ hm (hp:=pmR4) (hc:=hE I2 hleI2 _ _ _ (hpe _ hleI2));clear hm;rintro _ I3 _ _ ⟨rfl,va3,vp3,rfl⟩ hleI3 hm;try simp only[F7] at hm)|refine H6 ?_ hm|refine H9 ?_ hm|refine D7 ?_|refine D5 ?_|refine L8 ?_|refine X9 ?_|refine U9 ?_|refine E8 ?_|refine C9 ?_|refine D8 ?_|refine A7 ?_|refine G5 ?_|refine E5 ?_|refine A8 ?_|refine F8 ?_|refine G8 ?_|refine A4J ?_|refine F6 ?_|(refine D6 (ht:=fun _=>?_) (hf:=fun _=>?_)<;>(try first|contradiction|(exfalso;omega))))
  all_goals try first|omega|contradiction
  exact⟨I3,_,⟨rfl,sa,sp,va3,vp3,rfl⟩,hm⟩
 rw[if_neg he] at heq
 have he0:r.2.err=0:=by omega
 repeat' (first|(refine F5 (d:=43) ?_ hm (hp:=pm1_2) (hc:=hS _);clear hm;rintro _ I2 _ _ ⟨rfl,rfl⟩ hleI2 hm;try simp only[F7] at hm;rw[←hevr] at hm;replace hm:=hm.perm pm2_1;have hp2:=hp.le hleI2)|(refine F5 (d:=49) ?_ hm (hp:=pmR4) (hc:=hE I2 hleI2 _ _ _ (hpe _ hleI2));clear hm;rintro _ I3 _ _ ⟨rfl,va3,vp3,rfl⟩ hleI3 hm;try simp only[F7] at hm;have hp3:=hp2.le hleI3)|refine Z5 6 ?_|refine H6 ?_ hm|refine H9 ?_ hm|refine D7 ?_|refine D5 ?_|refine L8 ?_|refine X9 ?_|refine U9 ?_|refine E8 ?_|refine C9 ?_|refine D8 ?_|refine A7 ?_|refine E5 ?_|refine A8 ?_|refine F8 ?_|refine F6 ?_|(refine D6 (ht:=fun _=>?_) (hf:=fun _=>?_)<;>(try first|contradiction|(exfalso;omega))))
 all_goals try first|omega|contradiction
 refine⟨?_⟩
 have hle3:=hleI2.trans hleI3
 by_cases k1:x.kind=1
 ·rw[if_pos k1] at heq
  subst heq
  repeat' (first|(refine Y0 (id:=8) (hm.perm pm1_1) 11 13 (h:=?_);clear hm;intro wd hR hm)|refine Y7 ?_ hR|refine A0C ?_ hR|(refine A1N (d:=76) ?_ hm;clear hm;intro a76 cp76 _ _ hm;replace hm:=hR.back hm;clear hR;try simp only[F7] at hm)|refine H9 ?_ hm|(refine J6 hm (k:=?_);clear hm;intro _ hm;try simp only[F7] at hm)|refine D7 ?_|refine D5 ?_|refine L8 ?_|refine E8 ?_|refine C9 ?_|refine D8 ?_|refine A7 ?_|refine D9 ?_|refine E5 ?_|refine A8 ?_|refine E9 ?_|refine X3 ?_|(refine D6 (ht:=fun _=>?_) (hf:=fun _=>?_)<;>(try first|contradiction|(exfalso;omega)))|refine A0P ?_|refine X5 ?_|refine Q3 ?_|refine A3V ?_|refine A0s ?_)
  all_goals try first|omega|contradiction
  refine⟨I3,_,⟨rfl,a76,cp76,va3,vp3,?_⟩,hm.swap⟩
  dsimp only[RSt,A5Y,A53]
  rw[List.flatMap_append,List.length_append];rfl
 rw[if_neg k1] at heq
 by_cases k2:x.kind=2
 ·rw[if_pos k2] at heq
  have hG:=fun (J:O5)=>B9B (br:=br) (bm:=bm) (sc:=sc) (sa:=sa) (sp:=sp) (back:=back) x.name J (by omega)
  rw[Sp.A7J] at heq
  repeat' (first|(refine F5 (d:=86) ?_ hm (hp:=pm2_0) (hc:=hG _);clear hm;rintro _ I4 _ _ (⟨i,p,b2,hgi,hfl,rfl,rfl,rfl⟩|⟨hfl,bl,rfl,rfl⟩) hleI4 hm<;>try simp only[F7] at hm)|(refine A20 (i:=1) hm (by rfl) (by rfl) (by rfl) (by rfl) gt1 (by rfl) (by rfl) (by rw[B5d];have:=(List.getElem?_eq_some_iff.1 hgi).1;omega) ?_;clear hm;intro _ hm;try simp only[F7] at hm)|refine H9 ?_ hm|(refine J6 hm (k:=?_);clear hm;intro _ hm;try simp only[F7] at hm)|refine D7 ?_|refine D5 ?_|refine L8 ?_|refine E8 ?_|refine C9 ?_|refine D8 ?_|refine A7 ?_|refine D9 ?_|refine E5 ?_|refine A8 ?_|refine E9 ?_|refine X3 ?_|(refine D6 (ht:=fun _=>?_) (hf:=fun _=>?_)<;>(try first|contradiction|(exfalso;omega))))
  all_goals try first|omega|contradiction
  ·rw[hfl] at heq
   have hd:sc.getD i ⟨[],0⟩=p:=by rw[List.getD_eq_getElem?_getD,hgi];rfl
   dsimp only at heq
   rw[hd] at heq
   subst heq
   refine⟨I4,_,⟨rfl,some ⟨b2,0,none⟩,sp,va3,vp3,?_⟩,hm⟩
   dsimp only[RSt,A5Y,A53]
   rw[←A9S r.1 hgi,List.length_set]
  ·rw[hfl] at heq
   subst heq
   exact⟨I4,_,⟨rfl,sa,sp,va3,vp3,rfl⟩,hm.tl⟩
 rw[if_neg k2] at heq
 by_cases k5:x.kind=5
 ·rw[if_pos k5] at heq
  subst heq
  repeat' (first|(refine Y0 (id:=12) (hm.perm pm1_3) 17 19 (h:=?_);clear hm;intro wd hR hm)|refine Y7 ?_ hR|refine A0C ?_ hR|(refine A1N (d:=110) ?_ hm;clear hm;intro a110 cp110 _ _ hm;replace hm:=hR.back hm;clear hR;try simp only[F7] at hm)|refine H9 ?_ hm|(refine J6 hm (k:=?_);clear hm;intro _ hm;try simp only[F7] at hm)|refine D7 ?_|refine D5 ?_|refine L8 ?_|refine E8 ?_|refine C9 ?_|refine D8 ?_|refine A7 ?_|refine D9 ?_|refine E5 ?_|refine A8 ?_|refine E9 ?_|refine X3 ?_|(refine D6 (ht:=fun _=>?_) (hf:=fun _=>?_)<;>(try first|contradiction|(exfalso;omega)))|refine A0P ?_|refine X5 ?_|refine Q3 ?_|refine A3V ?_|refine A0s ?_)
  all_goals try first|omega|contradiction
  refine⟨I3,_,⟨rfl,sa,sp,a110,cp110,?_⟩,hm.perm pm1_3.symm⟩
  dsimp only[RSt,A87,A35]
  rw[List.flatMap_append,List.length_append];rfl
 rw[if_neg k5] at heq
 by_cases k6:x.kind=6
 ·rw[if_pos k6] at heq
  subst heq
  repeat' (first|refine H9 ?_ hm|(refine J6 hm (k:=?_);clear hm;intro _ hm;try simp only[F7] at hm)|refine D7 ?_|refine D5 ?_|refine L8 ?_|refine E8 ?_|refine C9 ?_|refine D8 ?_|refine A7 ?_|refine D9 ?_|refine E5 ?_|refine A8 ?_|refine E9 ?_|refine X3 ?_|(refine D6 (ht:=fun _=>?_) (hf:=fun _=>?_)<;>(try first|contradiction|(exfalso;omega))))
  all_goals try first|omega|contradiction
  exact⟨I3,_,⟨rfl,sa,sp,va3,vp3,rfl⟩,hm⟩
 rw[if_neg k6] at heq
 by_cases k3:x.kind=3
 ·rw[if_pos k3] at heq
  by_cases hn:r.1≠0
  ·rw[if_pos hn] at heq
   have hB:=hT I3 a1' c1 xs1 ⟨sc,back,r.2⟩ sa sp va3 vp3 (hle0.trans hle3) hte.top hev3 (by dsimp only;omega) (hr4.le hle3) (U8.le hle3 _ _ hx4)
   dsimp only at hB
   rw[←heq] at hB
   repeat' (first|(refine F5 (d:=128) ?_ hm (hp:=pmR4) (hc:=hB);clear hm;rintro _ I4 _ _ ⟨rfl,sa4,sp4,va4,vp4,rfl⟩ hleI4 hm;try simp only[F7] at hm)|refine H9 ?_ hm|refine D7 ?_|refine D5 ?_|refine L8 ?_|refine X9 ?_|refine E8 ?_|refine C9 ?_|refine D8 ?_|refine A7 ?_|refine D9 ?_|refine E5 ?_|refine A8 ?_|refine E9 ?_|refine X3 ?_|(refine D6 (ht:=fun _=>?_) (hf:=fun _=>?_)<;>(try first|contradiction|(exfalso;omega))))
   all_goals try first|omega|contradiction
   exact⟨I4,_,⟨rfl,sa4,sp4,va4,vp4,rfl⟩,hm⟩
  ·rw[if_neg hn] at heq
   have hn0:r.1=0:=by omega
   have hB:=hL I3 a2' c2 xs2 ⟨sc,back,r.2⟩ sa sp va3 vp3 (hle0.trans hle3) hte.top hev3 (by dsimp only;omega) (hr5.le hle3) (U8.le hle3 _ _ hx5)
   dsimp only at hB
   rw[←heq] at hB
   repeat' (first|(refine F5 (d:=134) ?_ hm (hp:=pmR4) (hc:=hB);clear hm;rintro _ I4 _ _ ⟨rfl,sa4,sp4,va4,vp4,rfl⟩ hleI4 hm;try simp only[F7] at hm)|refine H9 ?_ hm|refine D7 ?_|refine D5 ?_|refine L8 ?_|refine X9 ?_|refine E8 ?_|refine C9 ?_|refine D8 ?_|refine A7 ?_|refine D9 ?_|refine E5 ?_|refine A8 ?_|refine E9 ?_|refine X3 ?_|(refine D6 (ht:=fun _=>?_) (hf:=fun _=>?_)<;>(try first|contradiction|(exfalso;omega))))
   all_goals try first|omega|contradiction
   exact⟨I4,_,⟨rfl,sa4,sp4,va4,vp4,rfl⟩,hm⟩
 rw[if_neg k3] at heq
 subst heq
 repeat' (first|refine H9 ?_ hm|refine D7 ?_|refine D5 ?_|refine L8 ?_|refine E8 ?_|refine C9 ?_|refine D8 ?_|refine A7 ?_|refine D9 ?_|refine E5 ?_|refine A8 ?_|refine E9 ?_|refine F8 ?_|refine X3 ?_|(refine D6 (ht:=fun _=>?_) (hf:=fun _=>?_)<;>(try first|contradiction|(exfalso;omega))))
 all_goals try first|omega|contradiction
 exact⟨I3,_,⟨rfl,sa,sp,va3,vp3,rfl⟩,hm⟩
theorem C1d (hW:B1p I0 its C bm bf deep) (hC:Sp.A3u C):∀(n:Nat) (l:List Sp.Stm),SizeOf.sizeOf l≤n→l.length≤64→Sp.X4 l→Sp.P6 (Sp.okE its) Sp.B8k l→A8y I0 C br bm bf deep l:=by
 intro n
 induction n with
 |zero=>intro l h;cases l<;>simp at h
 |succ n ih=>
 intro l hsz hll hsm hal
 refine B8W hC l hll (fun y hy=>?_)
 obtain⟨j,hj,rfl⟩:=List.getElem_of_mem hy
 have hg:=List.getElem?_eq_getElem hj
 have h1:=Sp.A1J hsm hg
 have h2:=Sp.Stm.all_node (Sp.A4c hal hg)
 have h3:=Sp.A4B (List.getElem_mem hj)
 generalize l[j]=y at h1 h2 h3
 obtain⟨s1,s2,s3,s4,s5⟩:=Sp.A1h h1
 obtain⟨z1,z2⟩:=Sp.A5C (s:=y)
 exact C0i hW hC y h1 h2.2.1 (ih y.thn (by omega) s2 s3 h2.2.2.1) (ih y.els (by omega) s4 s5 h2.2.2.2)
end
end Go.Proofs.YtfjdfdgpkncpfaaGreatDoor
end
section
namespace Go.Sp
theorem B3I {l:List Par}{k:Nat}{p:Par}{args:List Int}{n:Int} (h:l[k]?=some p) (ha:args[k]?=some n):A2t (l.take (k+1)) args=A2t (l.take k) args++ [⟨p.name,n⟩]:=by
 induction l generalizing k args with
 |nil=>simp at h
 |cons a l ih=>
  cases args with
  |nil=>simp at ha
  |cons b args=>
   cases k with
   |zero=>
    simp only[List.getElem?_cons_zero,Option.some.injEq] at h ha
    subst h;subst ha
    simp[A2t]
   |succ k=>
    rw[List.getElem?_cons_succ] at h ha
    have:=ih h ha
    simp only[A2t,List.take_succ_cons,List.zipWith_cons_cons,List.cons_append] at this ⊢
    rw[this]
theorem B5N {l:List Par}{k:Nat}{args:List Int} (hk:k≤l.length) (ha:l.length=args.length):(A2t (l.take k) args).length=k:=by
 rw[A2t,List.length_zipWith,List.length_take];omega
end Go.Sp
namespace Go.Proofs.YtfjdfdgpkncpfaaGreatDoor
open Go.Proofs.Tryz
open Go.Fw
theorem A92 (l:List Int):A6K l=l.flatMap (fun n=> [.int .i64 n]):=by
 induction l with
 |nil=>rfl
 |cons a l ih=>
  rw[List.flatMap_cons, ←ih];rfl
structure RFile (I:O5) (its:List Sp.Itm) (bf:Nat) (a:Option Addr) (cp:Nat) (xs:List Value):Prop where
 file:PtrI I bf 0 25 [.slice a its.length cp]
 fe:FE I its a cp xs
 ok:∀it∈its,it.small∧Sp.N7 it.body≤400000000∧(it.kind=2→Sp.P6 (Sp.okE its) Sp.B8k it.body)
structure RcX where
 k:Nat
 sa:Option Addr
 sp:Nat
section
variable {I0:O5}{its:List Sp.Itm}{bm bf:Nat}{a:Option Addr}{cp:Nat}{xs:List Value}
theorem B8X (hF:RFile I0 its bf a cp xs):∀d,d≤40→B1p I0 its (Sp.A0v its d) bm bf (40-d):=by
 intro d
 induction d with
 |zero=>
  intro _ J nm args m va vp aa ac hle hfd hra hst hev
  refine CalM.of fun w E hm=>enter (N:=94) func42 rfl [(0,ptr bm),(1,str nm),(2,.slice aa args.length ac)] A3h rfl ?_
  rw[Sp.A0v]
  by_cases he:m.err≠0
  ·rw[if_pos he]
   repeat' (first|refine H6 ?_ hm|refine D7 ?_|refine D5 ?_|refine X9 ?_|refine E8 ?_|refine C9 ?_|refine D8 ?_|refine A7 ?_|refine G5 ?_|refine E5 ?_|refine A8 ?_|refine G8 ?_|refine H5 ?_|(refine D6 (ht:=fun _=>?_) (hf:=fun _=>?_)<;>(try first|contradiction|(exfalso;omega))))
   all_goals try first|omega|contradiction
   exact⟨J,_,⟨rfl,va,vp,rfl⟩,hm⟩
  ·rw[if_neg he]
   have he0:m.err=0:=by omega
   repeat' (first|refine H6 ?_ hm|(refine J6 hm (k:=?_);clear hm;intro _ hm;try simp only[F7] at hm)|refine D7 ?_|refine D5 ?_|refine L8 ?_|refine X9 ?_|refine E8 ?_|refine C9 ?_|refine D8 ?_|refine A7 ?_|refine G5 ?_|refine E5 ?_|refine A8 ?_|refine F8 ?_|refine G8 ?_|refine H5 ?_|refine F9 ?_|(refine D6 (ht:=fun _=>?_) (hf:=fun _=>?_)<;>(try first|contradiction|(exfalso;omega))))
   all_goals try first|omega|contradiction
   exact⟨J,_,⟨rfl,va,vp,rfl⟩,hm⟩
 |succ d ihd=>
  intro hd J nm args m va vp aa ac hle hfd hra hst hev
  have ih:=ihd (by omega)
  refine CalM.of fun w E hm=>enter (N:=94) func42 rfl [(0,ptr bm),(1,str nm),(2,.slice aa args.length ac)] A3h rfl ?_
  have heq:∃fin,fin=Sp.A0v its (d+1) nm args m:=⟨_,rfl⟩
  obtain⟨fin,heq⟩:=heq
  rw[←heq]
  rw[Sp.A0v] at heq
  by_cases he:m.err≠0
  ·rw[if_pos he] at heq
   subst heq
   repeat' (first|refine H6 ?_ hm|refine D7 ?_|refine D5 ?_|refine X9 ?_|refine E8 ?_|refine C9 ?_|refine D8 ?_|refine A7 ?_|refine G5 ?_|refine E5 ?_|refine A8 ?_|refine G8 ?_|refine H5 ?_|(refine D6 (ht:=fun _=>?_) (hf:=fun _=>?_)<;>(try first|contradiction|(exfalso;omega))))
   all_goals try first|omega|contradiction
   exact⟨J,_,⟨rfl,va,vp,rfl⟩,hm⟩
  rw[if_neg he] at heq
  have he0:m.err=0:=by omega
  obtain⟨j,hf,hpl⟩:=hfd
  rw[hf] at heq
  dsimp only at heq
  obtain⟨hjl,hjk,_,_,hmem⟩:=Sp.Y8 hf
  have hfind:=(A2B 2 nm its J a cp xs (hF.fe.le hle)).read
  rw[show Sp.A0Y its 2 nm=(j:Int) by rw[Sp.A0Y,hf]] at hfind
  have hfile:=hF.file.le hle
  have hri:=(hF.fe.le hle).row
  have hfew:=hF.fe.few
  obtain⟨ci,hci,hat,_⟩:=(hF.fe.le hle).get (Sp.A0K hjl)
  obtain⟨hsm,hcnt,hokk⟩:=hF.ok _ hmem
  have hok:=hokk (by omega)
  have hto:=Sp.B0t (Sp.A4o its d) (Sp.N9 its j).body ⟨Sp.A2t (Sp.N9 its j).params args,0,m⟩ hst
  generalize Sp.N9 its j=it at heq hpl hat hsm hcnt hok hto
  obtain⟨pa,pc,sa9,sc9,ba,bc9,da9,dc9,xb,rfl,hpar,_,hrb,hbs,_⟩:=hat
  have hsp:=hsm.params
  have hsb:=hsm.body
  have hBk:=fun (br:Nat)=>C1d (br:=br) ih (Sp.A4o its d) _ it.body (Nat.le_refl _) (by omega) hsm.stms hok
  have hra2:=hra
  rw[A92] at hra2
  repeat' (first|(refine A0I (id:=6) (hm.perm pm0) [0,1,2,3,4,5,6,7,8,9,10,11,12,13] [14,15] 16 (h:=?_);clear hm;intro wd hR hm)|(refine A0C (j:=0) (d:=30) ?_ hR (hp:=hfile))|(refine A0h (d:=36) ?_ hR (hp:=hfile))|(refine A2A (d:=38) ?_ hR hm (hc:=hfind);clear hm;intro _ hm)|(refine B0F (d:=39) hm.kept (by rfl) (by rfl) (by rfl) (by rfl) hri (by omega) (by omega) ?_;intro bt ot hpt;rw[show ((j:Int).toNat *10)=j *10 from rfl,hci] at hpt)|refine Z5 8 ?_|refine Y7 ?_ hR|(refine A1l ?_;replace hm:=hR.back hm;clear hR;try simp only[F7] at hm)|(refine A0t (d:=42) ?_ hm;clear hm;intro b42 _ hm)|refine H6 ?_ hm|refine D7 ?_|refine D5 ?_|refine L8 ?_|refine X9 ?_|refine E8 ?_|refine C9 ?_|refine Q9 ?_|refine D8 ?_|refine A7 ?_|refine E5 ?_|refine A8 ?_|refine F8 ?_|(refine D6 (ht:=fun _=>?_) (hf:=fun _=>?_)<;>(try first|contradiction|(exfalso;omega)))|refine A0P ?_|refine X5 ?_|refine Q3 ?_|refine A0s ?_)
  all_goals try first|omega|contradiction
  have hm:=(hm.nil 151 2).swap
  refine⟨?_⟩
  repeat' (first|refine H9 ?_ hm|refine D7 ?_|refine G7 ?_|refine E8 ?_|refine C9 ?_|refine D8 ?_|refine A7 ?_|refine A8 ?_|refine E9 ?_)
  all_goals try first|omega|contradiction
  refine U4 (fun x:RcX=> [(0,ptr bm),(2,.slice aa args.length ac),(7,.pointer (some ⟨bt,ot,none⟩)),(8,ptr b42),(46,.slice pa it.params.length pc),(47,nt it.params.length),(48,nt x.k)])
   (fun x w'=>Mem E J [A5Y b42 bm (Sp.A2t (it.params.take x.k) args) x.sa x.sp 0,A53 (Sp.A2t (it.params.take x.k) args) x.sa x.sp,A87 bm bf m va vp (40-(d+1)),A35 m va vp] w'∧x.k≤it.params.length) (fun x=>it.params.length-x.k) ⟨0,none,0⟩
   (by exact⟨rfl,rfl,rfl,rfl,rfl,rfl,rfl,trivial⟩) ⟨hm,Nat.zero_le _⟩ ?_
  clear hm
  rintro⟨k,sa,sp⟩ w1 ⟨hm,hk⟩
  dsimp only at hm hk ⊢
  have hpln:=Sp.B5N hk hpl
  by_cases hlt:k<it.params.length
  ·have hg:it.params[k]?=some it.params[k]:=List.getElem?_eq_getElem hlt
   have hga:args[k]?=some args[k]:=List.getElem?_eq_getElem (by omega)
   generalize it.params[k]=p at hg
   generalize args[k]=n at hga
   have hstp:=Sp.B3I hg hga
   generalize Sp.A2t (it.params.take k) args=sc at hm hpln hstp
   repeat' (first|(refine P5 (d:=51) (enc:=A2a) (z:=p) ?_ (hr:=hpar) (he:=fun _=>rfl) (hz:=by exact hg);intro bz oz hpz)|(refine Y0 (id:=11) (hm.perm pm1_2) 12 14 (h:=?_);clear hm;intro wd hR hm)|(refine A1d (d:=62) (enc:=fun n=> [.int .i64 n]) (z:=n) ?_ (hr:=hra2) (he:=fun _=>rfl) (hz:=by exact hga);intro by_ oy hpy)|(refine A0C (j:=0) (d:=63) ?_ hR (hp:=hpy))|refine Y7 ?_ hR|(refine A1N (d:=66) ?_ hm;clear hm;intro a66 cp66 _ _ hm;replace hm:=hR.back hm;clear hR;try simp only[F7] at hm)|(refine V6 (d:=10) ?_ hm;clear hm;intro b10 _ hm)|refine U7 ?_ hm|(refine N8 ?_ hm;clear hm;intro _ hm;try simp only[F7] at hm)|(refine J6 hm (k:=?_);clear hm;intro _ hm;try simp only[F7] at hm)|refine D7 ?_|refine D5 ?_|refine J5 ?_|refine E8 ?_|refine Q4 ?_|refine C9 ?_|refine D8 ?_|refine A7 ?_|refine D9 ?_|refine E5 ?_|refine A8 ?_|refine E9 ?_|refine F8 ?_|(refine D6 (ht:=fun _=>?_) (hf:=fun _=>?_)<;>(try first|contradiction|(exfalso;omega)))|refine A0P ?_|refine X5 ?_|refine Q3 ?_|refine A3V ?_|refine A0s ?_)
   all_goals try first|omega|contradiction
   refine J9 (⟨k+1,a66,cp66⟩:RcX) (by exact⟨rfl,rfl,rfl,rfl,rfl,rfl,rfl,trivial⟩) ⟨?_,by dsimp only;omega⟩ (by dsimp only;omega)
   dsimp only[A5Y,A53]
   rw[hstp,List.flatMap_append,List.length_append]
   exact hm.snd.swap
  obtain rfl:k=it.params.length:=by omega
  rw[List.take_length] at hm hpln
  generalize Sp.A2t it.params args=sc at hm hpln heq hto
  have hB:=hBk b42 J ba bc9 xb ⟨sc,0,m⟩ sa sp va vp hle hst hev (by dsimp only;omega) hrb hbs
  dsimp only at hB
  generalize Sp.A30 (Sp.A0v its d) it.body ⟨sc,0,m⟩=s9 at hB heq hto
  subst heq
  have e1:(((40-(d+1):Nat):Int)+1)=((40-d:Nat):Int):=by omega
  have e2:(((40-d:Nat):Int)-1)=((40-(d+1):Nat):Int):=by omega
  repeat' (first|refine Z5 14 ?_|refine H6 ?_ hm|(refine J6 hm (k:=?_);clear hm;intro _ hm;try simp only[F7] at hm)|refine D7 ?_|refine J5 ?_|refine E8 ?_|refine Q4 ?_|refine C9 ?_|refine D8 ?_|refine A7 ?_|refine G9 ?_|refine G6 ?_|refine E5 ?_|refine A8 ?_|refine O4 ?_|(refine D6 (ht:=fun _=>?_) (hf:=fun _=>?_)<;>(try first|contradiction|(exfalso;omega))))
  all_goals try first|omega|contradiction
  rw[e1] at hm
  refine⟨?_⟩
  repeat' (first|(refine F5 (d:=82) ?_ hm (hp:=pmR4) (hc:=hB);clear hm;rintro _ I4 _ _ ⟨rfl,sa4,sp4,va4,vp4,rfl⟩ hleI4 hm;try simp only[F7] at hm)|refine Z5 16 ?_|refine H6 ?_ hm|refine H9 ?_ hm|(refine J6 hm (k:=?_);clear hm;intro _ hm;try simp only[F7] at hm)|refine D7 ?_|refine E8 ?_|refine A3M ?_|refine C9 ?_|refine D8 ?_|refine A7 ?_|refine E5 ?_|refine A8 ?_)
  all_goals try first|omega|contradiction
  rw[e2] at hm
  refine⟨?_⟩
  repeat' (first|refine H6 ?_ hm|refine D7 ?_|refine D5 ?_|refine E8 ?_|refine C9 ?_|refine D8 ?_|refine A7 ?_|refine A8 ?_|refine G8 ?_|refine H5 ?_)
  all_goals try first|omega|contradiction
  exact⟨I4,_,⟨rfl,va4,vp4,rfl⟩,hm.right (H:= [_,_])⟩
end
abbrev A3d (pb:Nat) (la:Option Addr) (lc:Nat) (T:Sp.Src) (s:Sp.St) (deep:Nat) (da:Option Addr) (dc:Nat):HItem:=
 .obj pb (.cells [.slice la T.l.length lc,nt s.i,nt T.size,.slice da s.ds.length dc,nt deep].toArray 177 (0,0))
abbrev QSt (pb:Nat) (la:Option Addr) (lc:Nat) (T:Sp.Src) (s:Sp.St) (deep:Nat) (da:Option Addr) (dc:Nat):List HItem:= [A3d pb la lc T s deep da dc,A15 s.ds da dc]
section
variable {I:O5}{pb deep lc dc:Nat}{la da:Option Addr}{T:Sp.Src}
theorem A0k (s:Sp.St) (hr:A1o I T la lc):CalR prog 92 #[ptr pb] I [A3d pb la lc T s deep da dc] (nt (T.tok s.i).pos):=by
 refine CalR.of fun w J hm hl hH hJ=>enter (N:=28) func92 rfl [(0,ptr pb)] Z4 rfl ?_
 have hp:=A4t (hH _ List.mem_cons_self)
 rw[←hJ] at hp
 replace hr:=hr.le hl
 by_cases hi:s.i<T.l.length
 ·have htk:=A14 hi
  repeat' (first|(refine A0n ?_ (hr:=by exact hr) (he:=by intro _;rfl) (hz:=by exact htk);intro b1 o1 hp1)|refine X8 ?_ hm|refine D5 ?_|refine D8 ?_|refine A7 ?_|refine G5 ?_|refine E5 ?_|refine A8 ?_|refine G8 ?_|refine H5 ?_|refine O6 ?_|(refine W9 ?_;intro _ hkq;replace hm:=hm.kept0 hkq;clear hkq)|(refine D6 (ht:=fun _=>?_) (hf:=fun _=>?_)<;>(try first|contradiction|(exfalso;omega)))|refine U3 ?_|refine A1f ?_|refine A03 ?_|refine O1 ?_|refine J4 ?_|refine H7 ?_)
  exact⟨rfl,hm.kept⟩
 ·have he:T.tok s.i=⟨0,[],T.size⟩:=Sp.A2S (by omega)
  rw[he]
  repeat' (first|refine H9 ?_ hm|refine X8 ?_ hm|refine D7 ?_|refine D5 ?_|refine E8 ?_|refine C9 ?_|refine D8 ?_|refine A7 ?_|refine E5 ?_|refine A8 ?_|refine F8 ?_|refine G8 ?_|refine H5 ?_|refine O6 ?_|(refine W9 ?_;intro _ hkq;replace hm:=hm.kept0 hkq;clear hkq)|(refine D6 (ht:=fun _=>?_) (hf:=fun _=>?_)<;>(try first|contradiction|(exfalso;omega)))|refine U3 ?_|refine A03 ?_|refine O1 ?_|refine J4 ?_|refine H7 ?_)
  exact⟨rfl,hm.kept⟩
theorem A06 (s:Sp.St) (hr:A1o I T la lc):CalR prog 116 #[ptr pb] I [A3d pb la lc T s deep da dc] (str (T.tok s.i).text):=by
 refine CalR.of fun w J hm hl hH hJ=>enter (N:=24) func116 rfl [(0,ptr pb)] Z4 rfl ?_
 have hp:=A4t (hH _ List.mem_cons_self)
 rw[←hJ] at hp
 replace hr:=hr.le hl
 by_cases hi:s.i<T.l.length
 ·have htk:=A14 hi
  repeat' (first|(refine A0n ?_ (hr:=by exact hr) (he:=by intro _;rfl) (hz:=by exact htk);intro b1 o1 hp1)|refine X8 ?_ hm|refine D5 ?_|refine D8 ?_|refine A7 ?_|refine G5 ?_|refine E5 ?_|refine A8 ?_|refine G8 ?_|refine H5 ?_|refine O6 ?_|(refine W9 ?_;intro _ hkq;replace hm:=hm.kept0 hkq;clear hkq)|(refine D6 (ht:=fun _=>?_) (hf:=fun _=>?_)<;>(try first|contradiction|(exfalso;omega)))|refine U3 ?_|refine A1f ?_|refine A03 ?_|refine O1 ?_|refine J4 ?_|refine H7 ?_)
  exact⟨rfl,hm.kept⟩
 ·have he:T.tok s.i=⟨0,[],T.size⟩:=Sp.A2S (by omega)
  rw[he]
  repeat' (first|refine X8 ?_ hm|refine D5 ?_|refine D8 ?_|refine A7 ?_|refine E5 ?_|refine A8 ?_|refine F8 ?_|refine G8 ?_|refine H5 ?_|refine O6 ?_|(refine W9 ?_;intro _ hkq;replace hm:=hm.kept0 hkq;clear hkq)|(refine D6 (ht:=fun _=>?_) (hf:=fun _=>?_)<;>(try first|contradiction|(exfalso;omega)))|refine U3 ?_|refine A03 ?_|refine O1 ?_|refine J4 ?_|refine H7 ?_)
  exact⟨rfl,hm.kept⟩
theorem A2o (s:Sp.St) (hr:A1o I T la lc) (hT:Ok T) (hi:s.i≤T.l.length):CalR prog 168 #[ptr pb] I [A3d pb la lc T s deep da dc] (nt (T.endOf s.i)):=by
 refine CalR.of fun w J hm hl hH hJ=>enter (N:=26) func168 rfl [(0,ptr pb)] Z4 rfl ?_
 have hp:=A4t (hH _ List.mem_cons_self)
 rw[←hJ] at hp
 replace hr:=hr.le hl
 have h1:=hT.at_ (s.i-1)
 have h2:=hT.size
 have h3:=hT.len
 by_cases h0:s.i=0
 ·rw[h0] at hp ⊢
  repeat' (first|refine H9 ?_ hm|refine D7 ?_|refine D5 ?_|refine L8 ?_|refine E8 ?_|refine C9 ?_|refine D8 ?_|refine A7 ?_|refine G5 ?_|refine E5 ?_|refine A8 ?_|refine G8 ?_|refine H5 ?_|refine F9 ?_)
  exact⟨rfl,hm.kept⟩
 ·have hlt:s.i-1<T.l.length:=by omega
  have htk:=A14 hlt
  repeat' (first|(refine Y0 (id:=3) (hm.perm pm0) 11 12 (h:=?_);clear hm;intro wd hR hm)|(refine A1d ?_ (hr:=by exact hr) (he:=by intro _;rfl) (hz:=by rw[show ((s.i:Int)-1).toNat=s.i-1 by omega];exact htk);intro b1 o1 hp1)|refine A0C ?_ hR|refine A0h ?_ hR|(refine A2K (d:=3) ?_ hm;clear hm;intro b3 _ hm)|(refine A1l ?_;replace hm:=hR.back hm;clear hR;try simp only[F7] at hm)|refine H6 ?_ hm|refine H9 ?_ hm|(refine N8 ?_ hm;clear hm;intro _ hm;try simp only[F7] at hm)|refine D7 ?_|refine D5 ?_|refine L8 ?_|refine A0Z ?_|refine E8 ?_|refine Q4 ?_|refine C9 ?_|refine D8 ?_|refine A7 ?_|refine E5 ?_|refine A8 ?_|refine F8 ?_|refine G8 ?_|refine H5 ?_|(refine D6 (ht:=fun _=>?_) (hf:=fun _=>?_)<;>(try first|contradiction|(exfalso;omega)))|refine A0P ?_|refine X5 ?_|refine C1i ?_|refine Q3 ?_|refine A0s ?_)
  refine⟨?_,hm.kept⟩
  rw[Sp.Src.endOf,if_neg h0,nt,Int.natCast_add]
end
end Go.Proofs.YtfjdfdgpkncpfaaGreatDoor
end
