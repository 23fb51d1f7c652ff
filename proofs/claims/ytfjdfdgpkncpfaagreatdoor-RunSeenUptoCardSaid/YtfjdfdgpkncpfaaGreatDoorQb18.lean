/- Own work: texts FwNil, NsC, NsD, FwCut2, NsR, NsE, NsF, one behind the other. -/
import Derived.Test.YtfjdfdgpkncpfaaGreatDoorQb17
set_option maxHeartbeats 64000000
section
namespace Go.Fw
open Go
section
variable {P:Program}{N:Nat}{ds:List Deferred}{Q:Exit→Act→World→Prop}{K:Act→World→Prop}{l l':Log}{w w':World}{ops:Array Oper}{os:List Oper}
variable {d:Nat}{ty:TypeId}{pos:String}{af:Array Edge}{g:Option (Nat×Bool)}{t t':TypeId}{x y z:Operand}
theorem A4U {e:TypeId} (hT:P.underlying t=some (.pointer e):=by kernel_rfl) {a:Option Addr}{k0:Value} (hw:P7 ops l ⟨some d,.binOp .neq t x (.const k0) t',ty,pos,af,g⟩=some true:=by rfl) (hN:Nat.blt d N=true:=by rfl)
  (hx:ev l x=some (.pointer a):=by rfl) (hk:k0=.pointer none:=by rfl) (k:WQ P N ds ops w K os ((d,.bool a.isSome)::l)):WQ P N ds ops w K (⟨some d,.binOp .neq t x (.const k0) t',ty,pos,af,g⟩::os) l:=
 A0a rfl hw hN (fun w' hkq c hc=>by
  subst hk
  have h1:=run_underlying (P:=P) (w:=w') hT
  have e2:c.eval (.const (.pointer none))=.pointer none:=rfl
  have h2:(Op.equal t (.pointer a) (.pointer none)).run P w'=.ok a.isNone w':=by
   show (Op.equalIn (9999+1) t (.pointer a) (.pointer none)).run P w'=_
   rw[Op.equalIn]
   cases a<;>simp[h1]
  cases a<;>simp[execOp,hc.ev hx,e2,eqGuard,binOp,h2]) k
end
end Go.Fw
end
section
namespace Go.Sp
def A81 (its:List Itm) (b:Int) (sc:List Lc) (e:Ex) (s:NW):NW:=if e.kind=2 then A5x b sc e.fr e.name s else if e.kind=4 then A3i its b e.fr e.name e.args.length s else s
theorem B9S (its:List Itm) (b:Int) (sc:List Lc) (e:Ex) (s:NW):exN its b sc e s=A3a its b sc e.args (A81 its b sc e s):=by cases e;rw[exN,A81];rfl
theorem B8w (its:List Itm) (b:Int) (sc:List Lc) (e:Ex) (s:NW):s.n≤(A81 its b sc e s).n∧(A81 its b sc e s).n≤s.n+2:=by
 have h1:=B3w b sc e.fr e.name s
 have h2:=B4m its b e.fr e.name e.args.length s
 rw[A81]
 split
 ·omega
 ·split<;>omega
theorem B6u (e:Ex):e.cnt=A0b e.args+1:=by cases e;rw[Ex.cnt];rfl
theorem B1Q {l:List Ex}{k:Nat}{y:Ex} (h:l[k]?=some y):A0b (l.take k)+y.cnt≤A0b l:=by
 have e:l=l.take (k+1)++l.drop (k+1):=(List.take_append_drop _ _).symm
 have h2:=congrArg A0b e
 rw[A2m,P9 h,A2m,A3A] at h2
 omega
theorem B26 {its:List Itm}{b:Int}{a:Nat}{n:List UInt8}{m:Nat}{s:NW} (h:Q8 its 2 n=none):A3i its b a n m s=A2X its b 2 a n s:=by rw[A3i,h]
theorem B27 {its:List Itm}{b:Int}{a:Nat}{n:List UInt8}{m:Nat}{s:NW}{j:Nat} (h:Q8 its 2 n=some j):A3i its b a n m s=if (N9 its j).params.length≠m then (A2X its b 2 a n s).tell a 5 n else A2X its b 2 a n s:=by rw[A3i,h]
end Go.Sp
namespace Go.Proofs.YtfjdfdgpkncpfaaGreatDoor
open Go.Proofs.Tryz
open Go.Fw
structure NX where
 k:Nat
 I:O5
 sa:Option Addr
 sp:Nat
 da:Option Addr
 dp:Nat
 ua:Option Addr
 up:Nat
def C0E (src:List UInt8) (p:Nat) (q:List UInt8) (its:List Sp.Itm) (it:Sp.Itm) (bc bf:Nat) (a:Option Addr) (cp:Nat) (xs:List Value) (pi:Value) (sc:List Sp.Lc) (e:Sp.Ex):Prop:=
 ∀(I:O5) (b o tc:Nat) (ea:Option Addr) (ec:Nat) (ys:List Value) (s:Sp.NW) (sa:Option Addr) (sp:Nat) (da:Option Addr) (dp:Nat) (ua:Option Addr) (up:Nat),s.n+2 *e.cnt≤900000000→NC I src p q its it bf a cp xs pi→
  PtrI I b o tc (A0d e ea ec)→RowI I 107 6 (.slice ea e.args.length ec) e.args.length ys→V5 I e.args ys→
  CalM prog 156 #[ptr bc,.pointer (some ⟨b,o,none⟩)] I (NSt bc bf pi sc sa sp s da dp ua up) (ToN bc bf pi sc (Sp.exN its p sc e s) (.tuple #[]))
section
variable {src:List UInt8}{p:Nat}{q:List UInt8}{its:List Sp.Itm}{it:Sp.Itm}{bc bf:Nat}{a:Option Addr}{cp:Nat}{xs:List Value}{pi:Value}{sc:List Sp.Lc}
theorem B90 (hs:sc.length≤1000000000) (hsc:Sp.A7I q sc):∀(n:Nat) (e:Sp.Ex),SizeOf.sizeOf e≤n→e.small→e.all (Sp.stE q)→C0E src p q its it bc bf a cp xs pi sc e:=by
 intro n
 induction n with
 |zero=>intro e h;cases e;simp at h
 |succ n ih=>
 intro e hsz hsm hall I b o tc ea ec ys s sa sp da dp ua up hn hC hp hr hx
 obtain⟨hal,hasm⟩:=Sp.A2q hsm
 obtain⟨hst,haall⟩:=Sp.Ex.all_node hall
 have hcnt:=Sp.B6u e
 refine CalM.of fun w E hm=>enter (N:=76) func156 rfl [(0,ptr bc),(1,.pointer (some ⟨b,o,none⟩))] A0B rfl ?_
 have hhd:=Sp.B8w its p sc e s
 rw[Sp.B9S]
 have hhr:Sp.A81 its p sc e s=if e.kind=2 then Sp.A5x p sc e.fr e.name s else if e.kind=4 then Sp.A3i its p e.fr e.name e.args.length s else s:=rfl
 generalize Sp.A81 its p sc e s=r at hhr hhd ⊢
 repeat' (first|(refine A4e 0 (fun _:NX=> [(0,ptr bc),(1,.pointer (some ⟨b,o,none⟩))]) (fun x w'=>Mem E x.I (NSt bc bf pi sc x.sa x.sp r x.da x.dp x.ua x.up) w'∧Le I x.I) ?_ ?_))
 ·refine⟨?_⟩
  by_cases k2:e.kind=2
  ·rw[if_pos k2] at hhr
   subst hhr
   have hc:=fun (J:O5) (m:Le I J)=>B4K (I:=J) (bc:=bc) (sc:=sc) (sa:=sa) (sp:=sp) (s:=s) (da:=da) (dp:=dp) (ua:=ua) (up:=up) (hC.le m) e.fr e.name (hst (.inl k2)) hsc hs (by omega)
   repeat' (first|(refine Q5 (id:=2) 9 (h:=?_))|(refine F5 (d:=21) ?_ hm (hp:=A1O) (hc:=hc I (Le.refl _));clear hm;rintro _ I2 _ _ ⟨rfl,sa2,sp2,da2,dp2,ua2,up2,rfl⟩ hleI2 hm;try simp only[F7] at hm)|refine H9 ?_ hm|refine X8 ?_ hm|refine D7 ?_|refine D5 ?_|refine L8 ?_|refine E8 ?_|refine C9 ?_|refine D8 ?_|refine A7 ?_|refine D9 ?_|refine E5 ?_|refine A8 ?_|refine E9 ?_|(refine V4 ?_;intro _ hkq;replace hm:=hm.kept0 hkq;clear hkq)|(refine D6 (ht:=fun _=>?_) (hf:=fun _=>?_)<;>(try first|contradiction|(exfalso;omega)))|refine U3 ?_|refine J4 ?_|refine H7 ?_)
   all_goals try omega
   exact Y6 (⟨0,I2,sa2,sp2,da2,dp2,ua2,up2⟩:NX) (by exact⟨rfl,rfl,trivial⟩) ⟨hm,hleI2⟩
  rw[if_neg k2] at hhr
  by_cases k4:e.kind=4
  ·rw[if_pos k4] at hhr
   have hin:=Sp.A85 its p 2 e.fr e.name s
   have hbd:=(hC.st.sub _ _ (hst (.inr k4))).1
   have hlen:=hC.len
   cases hf:Sp.Q8 its 2 e.name with
   |none=>
    rw[Sp.B26 hf] at hhr
    subst hhr
    have hc:=fun (J:O5) (m:Le I J)=>B0K (I:=J) (bc:=bc) (sc:=sc) (sa:=sa) (sp:=sp) (s:=s) (da:=da) (dp:=dp) (ua:=ua) (up:=up) (hC.le m) 2 e.fr e.name (hst (.inr k4)) (by omega) hf
    repeat' (first|(refine Q5 (id:=4) 9 (h:=?_))|(refine F5 (d:=33) ?_ hm (hp:=A1O) (hc:=hc I (Le.refl _));clear hm;rintro _ I2 _ _ ⟨rfl,sa2,sp2,da2,dp2,ua2,up2,rfl⟩ hleI2 hm;try simp only[F7] at hm)|(refine A4U (e:=60) (k:=?_))|refine H9 ?_ hm|refine X8 ?_ hm|refine D7 ?_|refine D5 ?_|refine L8 ?_|refine E8 ?_|refine C9 ?_|refine D8 ?_|refine A7 ?_|refine D9 ?_|refine E5 ?_|refine A8 ?_|refine E9 ?_|refine F8 ?_|refine O6 ?_|(refine W9 ?_;intro _ hkq;replace hm:=hm.kept0 hkq;clear hkq)|(refine V4 ?_;intro _ hkq;replace hm:=hm.kept0 hkq;clear hkq)|refine F6 ?_|(refine D6 (ht:=fun _=>?_) (hf:=fun _=>?_)<;>(try first|contradiction|(exfalso;omega)))|refine U3 ?_|refine A0p ?_|refine J4 ?_|refine H7 ?_|refine A2k ?_)
    all_goals try omega
    exact Y6 (⟨0,I2,sa2,sp2,da2,dp2,ua2,up2⟩:NX) (by exact⟨rfl,rfl,trivial⟩) ⟨hm,hleI2⟩
   |some j=>
    rw[Sp.B27 hf] at hhr
    have hc:=fun (J:O5) (m:Le I J)=>B0L (I:=J) (bc:=bc) (sc:=sc) (sa:=sa) (sp:=sp) (s:=s) (da:=da) (dp:=dp) (ua:=ua) (up:=up) (hC.le m) 2 e.fr e.name (hst (.inr k4)) (by omega) hf
    generalize Sp.A2X its p 2 e.fr e.name s=s1 at hc hhr hin
    by_cases hpl:(Sp.N9 its j).params.length≠e.args.length
    ·rw[if_pos hpl] at hhr
     subst hhr
     have hT:=fun (J:O5) (sa:Option Addr) (sp:Nat) (da:Option Addr) (dp:Nat) (ua:Option Addr) (up:Nat)=>A7z (I:=J) (bc:=bc) (bf:=bf) (pi:=pi) (sc:=sc) (sa:=sa) (sp:=sp) (s:=s1) (da:=da) (dp:=dp) (ua:=ua) (up:=up) e.name e.fr 5 (by omega) (by omega)
     repeat' (first|(refine Q5 (id:=4) 9 (h:=?_))|(refine F5 (d:=33) ?_ hm (hp:=A1O) (hc:=hc I (Le.refl _));clear hm;rintro _ I2 _ _ ⟨⟨bj,oj,cj,rfl,hpj,hatj⟩,sa2,sp2,da2,dp2,ua2,up2,rfl⟩ hleI2 hm;try simp only[F7] at hm;have hp2:=hp.le hleI2;obtain⟨pa,pc,sa9,sc9,ba,bc9,da9,dc9,xb,rfl,_⟩:=hatj)|(refine A4U (e:=60) (k:=?_))|(refine Q5 (id:=6) 9 (h:=?_))|(refine F5 (d:=58) ?_ hm (hp:=A1O) (hc:=hT I2 sa2 sp2 da2 dp2 ua2 up2);clear hm;rintro _ I3 _ _ ⟨rfl,sa3,sp3,da3,dp3,ua3,up3,rfl⟩ hleI3 hm;try simp only[F7] at hm)|refine H9 ?_ hm|refine X8 ?_ hm|refine D7 ?_|refine D5 ?_|refine L8 ?_|refine E8 ?_|refine C9 ?_|refine D8 ?_|refine A7 ?_|refine D9 ?_|refine E5 ?_|refine A8 ?_|refine E9 ?_|refine O6 ?_|(refine W9 ?_;intro _ hkq;replace hm:=hm.kept0 hkq;clear hkq)|(refine V4 ?_;intro _ hkq;replace hm:=hm.kept0 hkq;clear hkq)|(refine D6 (ht:=fun _=>?_) (hf:=fun _=>?_)<;>(try first|contradiction|(exfalso;omega)))|refine U3 ?_|refine V8 ?_|refine B9z ?_|refine O1 ?_|refine J4 ?_|refine H7 ?_)
     all_goals try omega
     exact Y6 (⟨0,I3,sa3,sp3,da3,dp3,ua3,up3⟩:NX) (by exact⟨rfl,rfl,trivial⟩) ⟨hm,hleI2.trans hleI3⟩
    ·rw[if_neg hpl] at hhr
     subst hhr
     repeat' (first|(refine Q5 (id:=4) 9 (h:=?_))|(refine F5 (d:=33) ?_ hm (hp:=A1O) (hc:=hc I (Le.refl _));clear hm;rintro _ I2 _ _ ⟨⟨bj,oj,cj,rfl,hpj,hatj⟩,sa2,sp2,da2,dp2,ua2,up2,rfl⟩ hleI2 hm;try simp only[F7] at hm;have hp2:=hp.le hleI2;obtain⟨pa,pc,sa9,sc9,ba,bc9,da9,dc9,xb,rfl,_⟩:=hatj)|(refine A4U (e:=60) (k:=?_))|refine H9 ?_ hm|refine X8 ?_ hm|refine D7 ?_|refine D5 ?_|refine L8 ?_|refine E8 ?_|refine C9 ?_|refine D8 ?_|refine A7 ?_|refine D9 ?_|refine E5 ?_|refine A8 ?_|refine E9 ?_|refine F8 ?_|refine O6 ?_|(refine W9 ?_;intro _ hkq;replace hm:=hm.kept0 hkq;clear hkq)|(refine V4 ?_;intro _ hkq;replace hm:=hm.kept0 hkq;clear hkq)|(refine D6 (ht:=fun _=>?_) (hf:=fun _=>?_)<;>(try first|contradiction|(exfalso;omega)))|refine U3 ?_|refine V8 ?_|refine B9z ?_|refine O1 ?_|refine J4 ?_|refine H7 ?_)
     all_goals try omega
     exact Y6 (⟨0,I2,sa2,sp2,da2,dp2,ua2,up2⟩:NX) (by exact⟨rfl,rfl,trivial⟩) ⟨hm,hleI2⟩
  ·rw[if_neg k4] at hhr
   subst hhr
   repeat' (first|refine H9 ?_ hm|refine D7 ?_|refine D5 ?_|refine L8 ?_|refine E8 ?_|refine C9 ?_|refine D8 ?_|refine A7 ?_|refine D9 ?_|refine E5 ?_|refine A8 ?_|refine E9 ?_|refine F8 ?_|(refine D6 (ht:=fun _=>?_) (hf:=fun _=>?_)<;>(try first|contradiction|(exfalso;omega))))
   all_goals try omega
   exact Y6 (⟨0,I,sa,sp,da,dp,ua,up⟩:NX) (by exact⟨rfl,rfl,trivial⟩) ⟨hm,Le.refl _⟩
 ·clear hm hhr
  rintro⟨_,I1,sa1,sp1,da1,dp1,ua1,up1⟩ w1 ⟨hm,hle1⟩
  dsimp only at hm hle1 ⊢
  have hp1:=hp.le hle1
  repeat' (first|refine H9 ?_ hm|refine D7 ?_|refine G7 ?_|refine E8 ?_|refine C9 ?_|refine D8 ?_|refine A7 ?_|refine E5 ?_|refine A8 ?_|refine E9 ?_)
  all_goals try omega
  refine U4 (fun x:NX=> [(0,ptr bc),(1,.pointer (some ⟨b,o,none⟩)),(63,nt e.args.length),(64,nt x.k)])
   (fun x w'=>Mem E x.I (NSt bc bf pi sc x.sa x.sp (Sp.A3a its p sc (e.args.take x.k) r) x.da x.dp x.ua x.up) w'∧Le I x.I∧x.k≤e.args.length) (fun x=>e.args.length-x.k) ⟨0,I1,sa1,sp1,da1,dp1,ua1,up1⟩
   (by exact⟨rfl,rfl,rfl,rfl,trivial⟩) ⟨by dsimp only;rw[List.take_zero,Sp.A3a];exact hm,hle1,Nat.zero_le _⟩ ?_
  clear hm hp1
  rintro⟨k,I2,sa2,sp2,da2,dp2,ua2,up2⟩ w2 ⟨hm,hle2,hk⟩
  dsimp only at hm hle2 hk ⊢
  have hC2:=hC.le hle2
  have hp2:=hp.le hle2
  have hrow:=hr.le hle2
  by_cases hlt:k<e.args.length
  ·have hg:e.args[k]?=some e.args[k]:=List.getElem?_eq_getElem hlt
   have hsz2:=Sp.A12 (List.getElem_mem hlt)
   have hsm2:=Sp.A0G hasm hg
   have hal2:=Sp.A3z haall hg
   obtain⟨ea2,ec2,ys2,hc2,hr2,hx2⟩:=(hx.get hg).out
   generalize e.args[k]=y at hg hsz2 hsm2 hal2 hc2 hr2 hx2
   have hstp:=Sp.B5g its p sc hg r
   have hcy:=Sp.B1Q hg
   have hnn:=Sp.B3e its p sc (e.args.take k) r
   generalize Sp.A3a its p sc (e.args.take k) r=s1 at hm hstp hnn
   have hcl:=fun b o tc (hpt:PtrI I2 b o tc (A0d y ea2 ec2))=>ih y (by omega) hsm2 hal2 I2 b o tc ea2 ec2 ys2 s1 sa2 sp2 da2 dp2 ua2 up2 (by omega) hC2 hpt (hr2.le hle2) (V5.le hle2 _ _ hx2)
   generalize Sp.exN its p sc y s1=s2 at hcl hstp
   repeat' (first|(refine L6 (d:=73) ?_ (hr:=hrow);intro bt ot hpt;rw[show ((k:Int).toNat *6)=k *6 from rfl,hc2] at hpt)|(refine F5 (d:=74) ?_ hm (hp:=A1O) (hc:=hcl _ _ _ hpt);clear hm;rintro _ I3 _ _ ⟨rfl,sa3,sp3,da3,dp3,ua3,up3,rfl⟩ hleI3 hm;try simp only[F7] at hm)|refine H9 ?_ hm|refine D7 ?_|refine D5 ?_|refine J5 ?_|refine E8 ?_|refine Q4 ?_|refine C9 ?_|refine D8 ?_|refine A7 ?_|refine D9 ?_|refine E5 ?_|refine A8 ?_|refine E9 ?_|refine F8 ?_|(refine D6 (ht:=fun _=>?_) (hf:=fun _=>?_)<;>(try first|contradiction|(exfalso;omega))))
   all_goals try omega
   exact J9 (⟨k+1,I3,sa3,sp3,da3,dp3,ua3,up3⟩:NX) (by exact⟨rfl,rfl,rfl,rfl,trivial⟩) ⟨by dsimp only;rw[hstp];exact hm,hle2.trans hleI3,by dsimp only;omega⟩ (by dsimp only;omega)
  ·obtain rfl:k=e.args.length:=by omega
   rw[List.take_length] at hm
   repeat' (first|refine J5 ?_|refine D8 ?_|refine A7 ?_|refine G9 ?_|refine G6 ?_|refine E5 ?_|refine A8 ?_|refine O4 ?_|refine X3 ?_|(refine D6 (ht:=fun _=>?_) (hf:=fun _=>?_)<;>(try first|contradiction|(exfalso;omega))))
   all_goals try omega
   exact⟨I2,_,⟨rfl,_,_,_,_,_,_,rfl⟩,hm⟩
end
end Go.Proofs.YtfjdfdgpkncpfaaGreatDoor
end
section
namespace Go.Sp
def B4p (its:List Itm) (b:Int) (x:Stm) (sc:List Lc) (s:NW):List Lc×NW:=
 if x.kind=1 then mkN x.name x.at_ sc s else
 if x.kind=2 then (sc,A5x b sc x.at_ x.name s) else
 if x.kind=5 then (sc,A2X its b 1 x.at_ x.name s) else
 if x.kind=3∨x.kind=4 then (sc,(A0j its b x.els sc (A0j its b x.thn sc s).2).2) else (sc,s)
theorem B4W (its:List Itm) (b:Int) (x:Stm) (sc:List Lc) (s:NW):A31 its b x sc s=B4p its b x sc (exN its b sc x.e s):=by cases x;rw[A31,B4p];rfl
theorem B4o (x:Stm):x.cnt=x.e.cnt+N7 x.thn+N7 x.els+1:=by cases x;rw[Stm.cnt];rfl
theorem B1c {l:List Stm}{k:Nat}{y:Stm} (h:l[k]?=some y):N7 (l.take k)+y.cnt≤N7 l:=by
 have e:l=l.take (k+1)++l.drop (k+1):=(List.take_append_drop _ _).symm
 have h2:=congrArg N7 e
 rw[A1z,P9 h,A1z,A24] at h2
 omega
theorem B4C:∀(l:List Stm),l.length≤N7 l
 | []=>by simp
 |x::l=>by rw[N7,List.length_cons];have:=B4o x;have:=B4C l;omega
theorem B9c {q:List UInt8} (its:List Itm) (b:Int) {x:Stm} (hx:stS q x.kind x.name x.at_ x.label x.opn x.fr x.to) {sc:List Lc} (hsc:A7I q sc) (s:NW):A7I q (A31 its b x sc s).1:=by
 rw[B4W,B4p]
 split
 ·rename_i hk
  rw[mkN]
  split
  ·exact hsc
  ·rename_i hn;exact B0g hsc hn (hx (.inl hk))
 ·split
  ·exact hsc
  ·split
   ·exact hsc
   ·split
    ·exact hsc
    ·exact hsc
theorem B2N {q:List UInt8} (its:List Itm) (b:Int):∀(l:List Stm),P6 (stE q) (stS q) l→∀ {sc:List Lc},A7I q sc→∀(s:NW),A7I q (A0j its b l sc s).1
 | [],_,sc,hsc,s=>by rw[A0j];exact hsc
 |x::l,h,sc,hsc,s=>by
  rw[P6] at h
  rw[A0j]
  exact B2N its b l h.2 (B9c its b (Stm.all_node h.1).1 hsc s) _
theorem A74 {p:PE}{q:PS}:∀ {l:List Stm} (k:Nat),P6 p q l→P6 p q (l.take k)
 | [],k,h=>by rw[List.take_nil];exact h
 |x::l,0,h=>by rw[List.take_zero];exact O7
 |x::l,k+1,h=>by
  rw[P6] at h
  rw[List.take_succ_cons,P6]
  exact⟨h.1,A74 k h.2⟩
end Go.Sp
namespace Go.Proofs.YtfjdfdgpkncpfaaGreatDoor
open Go.Proofs.Tryz
open Go.Fw
section
variable (src:List UInt8) (p:Nat) (q:List UInt8) (its:List Sp.Itm) (it:Sp.Itm) (bc bf:Nat) (a:Option Addr) (cp:Nat) (xs:List Value) (pi:Value)
def B6c (x:Sp.Stm):Prop:=
 ∀(I:O5) (b o tc:Nat) (cs:List Value) (sc:List Sp.Lc) (s:Sp.NW) (sa:Option Addr) (sp:Nat) (da:Option Addr) (dp:Nat) (ua:Option Addr) (up:Nat),Sp.A7I q sc→sc.length+x.cnt≤900000000→s.n+2 *x.cnt≤900000000→NC I src p q its it bf a cp xs pi→
  PtrI I b o tc cs→A29 I x cs→
  CalM prog 129 #[ptr bc,.pointer (some ⟨b,o,none⟩)] I (NSt bc bf pi sc sa sp s da dp ua up) (ToN bc bf pi (Sp.A31 its p x sc s).1 (Sp.A31 its p x sc s).2 (.tuple #[]))
def B0p (l:List Sp.Stm):Prop:=
 ∀(I:O5) (ab:Option Addr) (cb:Nat) (xb:List Value) (sc:List Sp.Lc) (s:Sp.NW) (sa:Option Addr) (sp:Nat) (da:Option Addr) (dp:Nat) (ua:Option Addr) (up:Nat),Sp.A7I q sc→sc.length+Sp.N7 l≤900000000→s.n+2 *Sp.N7 l≤900000000→NC I src p q its it bf a cp xs pi→
  RowI I 109 15 (.slice ab l.length cb) l.length xb→U8 I l xb→
  CalM prog 108 #[ptr bc,.slice ab l.length cb] I (NSt bc bf pi sc sa sp s da dp ua up) (ToN bc bf pi sc (Sp.A0j its p l sc s).2 (.tuple #[]))
end
section
variable {src:List UInt8}{p:Nat}{q:List UInt8}{its:List Sp.Itm}{it:Sp.Itm}{bc bf:Nat}{a:Option Addr}{cp:Nat}{xs:List Value}{pi:Value}
theorem B3v (sc:List Sp.Lc) (n:Nat):(sc.flatMap A5W).take (n *2)=(sc.take n).flatMap A5W:=by
 induction sc generalizing n with
 |nil=>simp
 |cons x l ih=>
  cases n with
  |zero=>simp
  |succ n=>
   rw[List.flatMap_cons,List.take_succ_cons,List.flatMap_cons,show (n+1) *2=2+n *2 by omega,List.take_append,List.take_of_length_le (by show 2≤2+n *2;omega),show 2+n *2-(A5W x).length=n *2 by (show 2+n *2-2=n *2;omega),ih]
theorem B8D (l:List Sp.Stm) (hl:l.length≤64) (hall:Sp.P6 (Sp.stE q) (Sp.stS q) l) (hS:∀y∈l,B6c src p q its it bc bf a cp xs pi y):B0p src p q its it bc bf a cp xs pi l:=by
 intro I ab cb xb sc s sa sp da dp ua up hsc hn1 hn2 hC hr hx
 refine CalM.of fun w E hm=>enter (N:=31) func108 rfl [(0,ptr bc),(1,.slice ab l.length cb)] A0B rfl ?_
 repeat' (first|refine H6 ?_ hm|refine D7 ?_|refine D5 ?_|refine G7 ?_|refine E8 ?_|refine C9 ?_|refine D8 ?_|refine A7 ?_|refine E5 ?_|refine A8 ?_|refine E9 ?_)
 refine U4 (fun x:NX=> [(0,ptr bc),(1,.slice ab l.length cb),(4,nt sc.length),(12,nt l.length),(13,nt x.k)])
  (fun x w'=>Mem E x.I (NSt bc bf pi (Sp.A0j its p (l.take x.k) sc s).1 x.sa x.sp (Sp.A0j its p (l.take x.k) sc s).2 x.da x.dp x.ua x.up) w'∧Le I x.I∧x.k≤l.length) (fun x=>l.length-x.k) ⟨0,I,sa,sp,da,dp,ua,up⟩
  (by exact⟨rfl,rfl,rfl,rfl,rfl,trivial⟩) ⟨by dsimp only;rw[List.take_zero,Sp.A0j];exact hm,Le.refl _,Nat.zero_le _⟩ ?_
 clear hm
 rintro⟨k,I1,sa1,sp1,da1,dp1,ua1,up1⟩ w1 ⟨hm,hle1,hk⟩
 dsimp only at hm hle1 hk ⊢
 have hC1:=hC.le hle1
 have hrow:=hr.le hle1
 by_cases hlt:k<l.length
 ·have hg:l[k]?=some l[k]:=List.getElem?_eq_getElem hlt
  have hmem:=List.getElem_mem hlt
  obtain⟨cs,hcs⟩:∃cs,cs=(xb.drop (k *15)).take 15:=⟨_,rfl⟩
  have hat:=hx.get hg
  rw[←hcs] at hat
  have hSk:=hS _ hmem
  generalize l[k]=y at hg hmem hat hSk
  have hst:=Sp.B3Y its p hg sc s
  have hcy:=Sp.B1c hg
  have hnn:=Sp.A46 its p (l.take k) sc s
  have hsc1:=Sp.B2N its p (l.take k) (Sp.A74 k hall) hsc s
  have htl:(l.take k).length=k:=by rw[List.length_take];omega
  have hkc:=Sp.B4C (l.take k)
  generalize Sp.A0j its p (l.take k) sc s=r at hm hst hnn hsc1
  have hcl:=fun b o (hpt:PtrI I1 b o 109 cs)=>hSk I1 b o 109 cs r.1 r.2 sa1 sp1 da1 dp1 ua1 up1 hsc1 (by omega) (by omega) hC1 hpt (A29.le hle1 _ _ hat)
  generalize Sp.A31 its p y r.1 r.2=z at hcl hst
  repeat' (first|(refine L6 (d:=19) ?_ (hr:=hrow);intro bt ot hpt;rw[show ((k:Int).toNat *15)=k *15 from rfl, ←hcs] at hpt)|(refine F5 (d:=20) ?_ hm (hp:=A1O) (hc:=hcl _ _ hpt);clear hm;rintro _ I2 _ _ ⟨rfl,sa2,sp2,da2,dp2,ua2,up2,rfl⟩ hleI2 hm;try simp only[F7] at hm)|refine D7 ?_|refine D5 ?_|refine J5 ?_|refine Q4 ?_|refine D8 ?_|refine A7 ?_|refine D9 ?_|refine E5 ?_|refine A8 ?_|refine E9 ?_|refine F8 ?_|(refine D6 (ht:=fun _=>?_) (hf:=fun _=>?_)<;>(try first|contradiction|(exfalso;omega))))
  all_goals try omega
  exact J9 (⟨k+1,I2,sa2,sp2,da2,dp2,ua2,up2⟩:NX) (by exact⟨rfl,rfl,rfl,rfl,rfl,trivial⟩) ⟨by dsimp only;rw[hst];exact hm,hle1.trans hleI2,by dsimp only;omega⟩ (by dsimp only;omega)
 ·obtain rfl:k=l.length:=by omega
  have hback:=Sp.B3X its p l sc s
  have hpl:=(Sp.A46 its p l sc s).2.2.1
  rw[List.take_length] at hm
  generalize Sp.A0j its p l sc s=r at hm hback hpl ⊢
  repeat' (first|(refine A7x (d:=28) ?_ hm (hmn:=hpl);clear hm;intro hm;try simp only[F7] at hm)|refine H6 ?_ hm|(refine J6 hm (k:=?_);clear hm;intro _ hm;try simp only[F7] at hm)|refine D7 ?_|refine J5 ?_|refine E8 ?_|refine C9 ?_|refine D8 ?_|refine A7 ?_|refine G9 ?_|refine G6 ?_|refine E5 ?_|refine A8 ?_|refine O4 ?_|refine X3 ?_|(refine D6 (ht:=fun _=>?_) (hf:=fun _=>?_)<;>(try first|contradiction|(exfalso;omega))))
  all_goals try omega
  refine⟨I1,_,⟨rfl,sa1,sp1,da1,dp1,ua1,up1,?_⟩,hm⟩
  rw[B3v,hback]
theorem B92 (x:Sp.Stm) (hsm:x.small) (hall:x.all (Sp.stE q) (Sp.stS q)) (hT:B0p src p q its it bc bf a cp xs pi x.thn) (hL:B0p src p q its it bc bf a cp xs pi x.els):B6c src p q its it bc bf a cp xs pi x:=by
 intro I b o tc cs sc s sa sp da dp ua up hsc hn1 hn2 hC hp hx
 obtain⟨s1,s2,s3,s4,s5⟩:=Sp.A1h hsm
 obtain⟨a1,a2,a3,a4⟩:=Sp.Stm.all_node hall
 have hcnt:=Sp.B4o x
 refine CalM.of fun w E hm=>enter (N:=64) func129 rfl [(0,ptr bc),(1,.pointer (some ⟨b,o,none⟩))] A0B rfl ?_
 obtain⟨ea,ec,ex,a1',c1,xs1,a2',c2,xs2,rfl,hr3,hx3,hr4,hx4,hr5,hx5⟩:=hx.out
 have hpe:=hp.sub (cs':=A0d x.e ea ec) 5 (fun j u hj=>by
  match j,hj with
  |0,hj=>exact hj
  |1,hj=>exact hj
  |2,hj=>exact hj
  |3,hj=>exact hj
  |4,hj=>exact hj
  |5,hj=>exact hj
  |j+6,hj=>cases hj)
 rw[Sp.B4W]
 have hE:=B90 (its:=its) (it:=it) (bc:=bc) (bf:=bf) (a:=a) (cp:=cp) (xs:=xs) (pi:=pi) (src:=src) (p:=p) (by omega) hsc _ x.e (Nat.le_refl _) s1 a2 I b (o+5) tc ea ec ex s sa sp da dp ua up (by omega) hC hpe hr3 hx3
 have hnx:=Sp.B6G its p sc x.e s
 generalize Sp.exN its p sc x.e s=r at hE hnx ⊢
 have hlen:=hC.len
 rw[Sp.B4p]
 by_cases k1:x.kind=1
 ·rw[if_pos k1]
  have hb:=(hC.st.sub _ _ (a1 (.inl k1))).1
  have hc:=fun (J:O5) (sa:Option Addr) (sp:Nat) (da:Option Addr) (dp:Nat) (ua:Option Addr) (up:Nat)=>B7o (I:=J) (bc:=bc) (bf:=bf) (pi:=pi) (sc:=sc) (sa:=sa) (sp:=sp) (s:=r) (da:=da) (dp:=dp) (ua:=ua) (up:=up) x.name x.at_ (by omega) (by omega) (by omega)
  repeat' (first|(refine F5 (d:=8) ?_ hm (hp:=A1O) (hc:=hE);clear hm;rintro _ I2 _ _ ⟨rfl,sa2,sp2,da2,dp2,ua2,up2,rfl⟩ hleI2 hm;try simp only[F7] at hm;have hp2:=hp.le hleI2)|(refine Q5 (id:=3) 9 (h:=?_))|(refine F5 (d:=24) ?_ hm (hp:=A1O) (hc:=hc I2 sa2 sp2 da2 dp2 ua2 up2);clear hm;rintro _ I3 _ _ ⟨rfl,sa3,sp3,da3,dp3,ua3,up3,rfl⟩ hleI3 hm;try simp only[F7] at hm)|refine H9 ?_ hm|refine X8 ?_ hm|refine D7 ?_|refine D5 ?_|refine L8 ?_|refine E8 ?_|refine C9 ?_|refine D8 ?_|refine A7 ?_|refine D9 ?_|refine E5 ?_|refine A8 ?_|refine E9 ?_|refine X3 ?_|(refine V4 ?_;intro _ hkq;replace hm:=hm.kept0 hkq;clear hkq)|(refine D6 (ht:=fun _=>?_) (hf:=fun _=>?_)<;>(try first|contradiction|(exfalso;omega)))|refine U3 ?_|refine J4 ?_|refine H7 ?_)
  all_goals try omega
  exact⟨I3,_,⟨rfl,_,_,_,_,_,_,rfl⟩,hm⟩
 rw[if_neg k1]
 by_cases k2:x.kind=2
 ·rw[if_pos k2]
  have hc:=fun (J:O5) (m:Le I J) (sa:Option Addr) (sp:Nat) (da:Option Addr) (dp:Nat) (ua:Option Addr) (up:Nat)=>B4K (I:=J) (bc:=bc) (sc:=sc) (sa:=sa) (sp:=sp) (s:=r) (da:=da) (dp:=dp) (ua:=ua) (up:=up) (hC.le m) x.at_ x.name (a1 (.inr (.inl k2))) hsc (by omega) (by omega)
  repeat' (first|(refine F5 (d:=8) ?_ hm (hp:=A1O) (hc:=hE);clear hm;rintro _ I2 _ _ ⟨rfl,sa2,sp2,da2,dp2,ua2,up2,rfl⟩ hleI2 hm;try simp only[F7] at hm;have hp2:=hp.le hleI2)|(refine Q5 (id:=5) 9 (h:=?_))|(refine F5 (d:=36) ?_ hm (hp:=A1O) (hc:=hc I2 hleI2 sa2 sp2 da2 dp2 ua2 up2);clear hm;rintro _ I3 _ _ ⟨rfl,sa3,sp3,da3,dp3,ua3,up3,rfl⟩ hleI3 hm;try simp only[F7] at hm)|refine H9 ?_ hm|refine X8 ?_ hm|refine D7 ?_|refine D5 ?_|refine L8 ?_|refine E8 ?_|refine C9 ?_|refine D8 ?_|refine A7 ?_|refine D9 ?_|refine E5 ?_|refine A8 ?_|refine E9 ?_|refine X3 ?_|(refine V4 ?_;intro _ hkq;replace hm:=hm.kept0 hkq;clear hkq)|(refine D6 (ht:=fun _=>?_) (hf:=fun _=>?_)<;>(try first|contradiction|(exfalso;omega)))|refine U3 ?_|refine J4 ?_|refine H7 ?_)
  all_goals try omega
  exact⟨I3,_,⟨rfl,_,_,_,_,_,_,rfl⟩,hm⟩
 rw[if_neg k2]
 by_cases k5:x.kind=5
 ·rw[if_pos k5]
  cases hf:Sp.Q8 its 1 x.name with
  |none=>
   have hc:=fun (J:O5) (m:Le I J) (sa:Option Addr) (sp:Nat) (da:Option Addr) (dp:Nat) (ua:Option Addr) (up:Nat)=>B0K (I:=J) (bc:=bc) (sc:=sc) (sa:=sa) (sp:=sp) (s:=r) (da:=da) (dp:=dp) (ua:=ua) (up:=up) (hC.le m) 1 x.at_ x.name (a1 (.inr (.inr k5))) (by omega) hf
   repeat' (first|(refine F5 (d:=8) ?_ hm (hp:=A1O) (hc:=hE);clear hm;rintro _ I2 _ _ ⟨rfl,sa2,sp2,da2,dp2,ua2,up2,rfl⟩ hleI2 hm;try simp only[F7] at hm;have hp2:=hp.le hleI2)|(refine Q5 (id:=7) 9 (h:=?_))|(refine F5 (d:=48) ?_ hm (hp:=A1O) (hc:=hc I2 hleI2 sa2 sp2 da2 dp2 ua2 up2);clear hm;rintro _ I3 _ _ ⟨rfl,sa3,sp3,da3,dp3,ua3,up3,rfl⟩ hleI3 hm;try simp only[F7] at hm)|refine H9 ?_ hm|refine X8 ?_ hm|refine D7 ?_|refine D5 ?_|refine L8 ?_|refine E8 ?_|refine C9 ?_|refine D8 ?_|refine A7 ?_|refine D9 ?_|refine E5 ?_|refine A8 ?_|refine E9 ?_|refine X3 ?_|(refine V4 ?_;intro _ hkq;replace hm:=hm.kept0 hkq;clear hkq)|(refine D6 (ht:=fun _=>?_) (hf:=fun _=>?_)<;>(try first|contradiction|(exfalso;omega)))|refine U3 ?_|refine J4 ?_|refine H7 ?_)
   all_goals try omega
   exact⟨I3,_,⟨rfl,_,_,_,_,_,_,rfl⟩,hm⟩
  |some j=>
   have hc:=fun (J:O5) (m:Le I J) (sa:Option Addr) (sp:Nat) (da:Option Addr) (dp:Nat) (ua:Option Addr) (up:Nat)=>B0L (I:=J) (bc:=bc) (sc:=sc) (sa:=sa) (sp:=sp) (s:=r) (da:=da) (dp:=dp) (ua:=ua) (up:=up) (hC.le m) 1 x.at_ x.name (a1 (.inr (.inr k5))) (by omega) hf
   repeat' (first|(refine F5 (d:=8) ?_ hm (hp:=A1O) (hc:=hE);clear hm;rintro _ I2 _ _ ⟨rfl,sa2,sp2,da2,dp2,ua2,up2,rfl⟩ hleI2 hm;try simp only[F7] at hm;have hp2:=hp.le hleI2)|(refine Q5 (id:=7) 9 (h:=?_))|(refine F5 (d:=48) ?_ hm (hp:=A1O) (hc:=hc I2 hleI2 sa2 sp2 da2 dp2 ua2 up2);clear hm;rintro _ I3 _ _ ⟨⟨_,_,_,rfl,_,_⟩,sa3,sp3,da3,dp3,ua3,up3,rfl⟩ hleI3 hm;try simp only[F7] at hm)|refine H9 ?_ hm|refine X8 ?_ hm|refine D7 ?_|refine D5 ?_|refine L8 ?_|refine E8 ?_|refine C9 ?_|refine D8 ?_|refine A7 ?_|refine D9 ?_|refine E5 ?_|refine A8 ?_|refine E9 ?_|refine X3 ?_|(refine V4 ?_;intro _ hkq;replace hm:=hm.kept0 hkq;clear hkq)|(refine D6 (ht:=fun _=>?_) (hf:=fun _=>?_)<;>(try first|contradiction|(exfalso;omega)))|refine U3 ?_|refine J4 ?_|refine H7 ?_)
   all_goals try omega
   exact⟨I3,_,⟨rfl,_,_,_,_,_,_,rfl⟩,hm⟩
 rw[if_neg k5]
 by_cases k34:x.kind=3∨x.kind=4
 ·rw[if_pos k34]
  have hb1:=fun (J:O5) (m:Le I J) (sa:Option Addr) (sp:Nat) (da:Option Addr) (dp:Nat) (ua:Option Addr) (up:Nat)=>hT J a1' c1 xs1 sc r sa sp da dp ua up hsc (by omega) (by omega) (hC.le m) (hr4.le m) (U8.le m _ _ hx4)
  have hnn:=Sp.A46 its p x.thn sc r
  generalize Sp.A0j its p x.thn sc r=r7 at hb1 hnn ⊢
  have hb2:=fun (J:O5) (m:Le I J) (sa:Option Addr) (sp:Nat) (da:Option Addr) (dp:Nat) (ua:Option Addr) (up:Nat)=>hL J a2' c2 xs2 sc r7.2 sa sp da dp ua up hsc (by omega) (by omega) (hC.le m) (hr5.le m) (U8.le m _ _ hx5)
  repeat' (first|(refine F5 (d:=8) ?_ hm (hp:=A1O) (hc:=hE);clear hm;rintro _ I2 _ _ ⟨rfl,sa2,sp2,da2,dp2,ua2,up2,rfl⟩ hleI2 hm;try simp only[F7] at hm;have hp2:=hp.le hleI2)|(refine F5 (d:=57) ?_ hm (hp:=A1O) (hc:=hb1 I2 hleI2 sa2 sp2 da2 dp2 ua2 up2);clear hm;rintro _ I3 _ _ ⟨rfl,sa3,sp3,da3,dp3,ua3,up3,rfl⟩ hleI3 hm;try simp only[F7] at hm;have hp3:=hp2.le hleI3)|(refine F5 (d:=63) ?_ hm (hp:=A1O) (hc:=hb2 I3 (hleI2.trans hleI3) sa3 sp3 da3 dp3 ua3 up3);clear hm;rintro _ I4 _ _ ⟨rfl,sa4,sp4,da4,dp4,ua4,up4,rfl⟩ hleI4 hm;try simp only[F7] at hm)|refine H9 ?_ hm|refine D7 ?_|refine D5 ?_|refine L8 ?_|refine E8 ?_|refine C9 ?_|refine D8 ?_|refine A7 ?_|refine D9 ?_|refine E5 ?_|refine A8 ?_|refine E9 ?_|refine F8 ?_|refine X3 ?_|(refine D6 (ht:=fun _=>?_) (hf:=fun _=>?_)<;>(try first|contradiction|(exfalso;omega))))
  all_goals try omega
  all_goals exact⟨I4,_,⟨rfl,_,_,_,_,_,_,rfl⟩,hm⟩
 ·rw[if_neg k34]
  repeat' (first|(refine F5 (d:=8) ?_ hm (hp:=A1O) (hc:=hE);clear hm;rintro _ I2 _ _ ⟨rfl,sa2,sp2,da2,dp2,ua2,up2,rfl⟩ hleI2 hm;try simp only[F7] at hm;have hp2:=hp.le hleI2)|refine H9 ?_ hm|refine D7 ?_|refine D5 ?_|refine L8 ?_|refine E8 ?_|refine C9 ?_|refine D8 ?_|refine A7 ?_|refine D9 ?_|refine E5 ?_|refine A8 ?_|refine E9 ?_|refine F8 ?_|refine X3 ?_|(refine D6 (ht:=fun _=>?_) (hf:=fun _=>?_)<;>(try first|contradiction|(exfalso;omega))))
  all_goals try omega
  exact⟨I2,_,⟨rfl,_,_,_,_,_,_,rfl⟩,hm⟩
theorem C08:∀(n:Nat) (l:List Sp.Stm),SizeOf.sizeOf l≤n→l.length≤64→Sp.X4 l→Sp.P6 (Sp.stE q) (Sp.stS q) l→B0p src p q its it bc bf a cp xs pi l:=by
 intro n
 induction n with
 |zero=>intro l h;cases l<;>simp at h
 |succ n ih=>
 intro l hsz hll hsm hal
 refine B8D l hll hal (fun y hy=>?_)
 obtain⟨j,hj,rfl⟩:=List.getElem_of_mem hy
 have hg:=List.getElem?_eq_getElem hj
 have h1:=Sp.A1J hsm hg
 have h0:=Sp.A4c hal hg
 have h2:=Sp.Stm.all_node h0
 have h3:=Sp.A4B (List.getElem_mem hj)
 generalize l[j]=y at h0 h1 h2 h3
 obtain⟨s1,s2,s3,s4,s5⟩:=Sp.A1h h1
 obtain⟨z1,z2⟩:=Sp.A5C (s:=y)
 exact B92 y h1 h0 (ih y.thn (by omega) s2 s3 h2.2.2.1) (ih y.els (by omega) s4 s5 h2.2.2.2)
end
end Go.Proofs.YtfjdfdgpkncpfaaGreatDoor
end
section
namespace Go.Fw
open Go
theorem RowI.take {I:O5}{e sz n m cp:Nat}{a:Option Addr}{xs:List Value} (h:RowI I e sz (.slice a n cp) n xs) (hmn:m≤n):RowI I e sz (.slice a m cp) m (xs.take (m *sz)):=by
 obtain⟨h0,a',cap,h1,h2,h3⟩:=h
 obtain⟨rfl,_,rfl⟩:=Value.slice.inj h1
 have hle:m *sz≤n *sz:=Nat.mul_le_mul_right _ hmn
 refine⟨by rw[List.length_take];omega,a,cp,rfl,by omega,fun hm=>?_⟩
 obtain⟨b,off,c,fr,e1,e2,e3⟩:=h3 (by omega)
 refine⟨b,off,c,fr,e1,e2,fun j u hj=>e3 j u ?_⟩
 rw[List.getElem?_take] at hj
 split at hj
 ·exact hj
 ·cases hj
section
variable {P:Program}{N:Nat}{ds:List Deferred}{Q:Exit→Act→World→Prop}{l:Log}{w:World}{ops:Array Oper}{os:List Oper}
variable {d:Nat}{ty:TypeId}{pos:String}{af:Array Edge}{g:Option (Nat×Bool)}{t:TypeId}{x y:Operand}{E:Ent}{I:O5}{H:List HItem}
theorem A7q {e:TypeId}{sz by_:Nat} [TySlice P t e] [Elem P e sz by_] {n m cp:Nat}{a:Option Addr}{xs:List Value} (k:RowI I e sz (.slice a m cp) m (xs.take (m *sz))→WL P N ds ops Q os ((d,.slice a m cp)::l) w) (hr:RowI I e sz (.slice a n cp) n xs)
  (hw:P7 ops l ⟨some d,.slice t x none (some y) none,ty,pos,af,g⟩=some true:=by rfl) (hN:Nat.blt d N=true:=by rfl)
  (hx:ev l x=some (.slice a n cp):=by rfl) (hy:ev l y=some (.int .i64 (m:Int)):=by rfl) (hmn:m≤n:=by omega)
   :
  WL P N ds ops Q (⟨some d,.slice t x none (some y) none,ty,pos,af,g⟩::os) l w:=by
 have h2:n≤cp:=by
  obtain⟨_,a',cap,h1,h2,_⟩:=hr
  obtain⟨_,_,rfl⟩:=Value.slice.inj h1
  exact h2
 refine O9 (w':=w) (v:=.slice a m cp) rfl hw hN (fun c hc=>?_) (k (hr.take hmn))
 obtain⟨inf,z,hinf,_,hs,_,_,_⟩:=Elem.out (P:=P) (e:=e)
 have h6:=run_underlying (P:=P) (w:=w) (TySlice.out (P:=P) (t:=t))
 have h7:m≤cp:=by omega
 rcases a with _|⟨b,off,o⟩
 ·simp[execOp,Instr.sliceAt,Instr.slice,Instr.sliceBounds,Instr.sliceBound,hc.ev hx,hc.ev hy,h6,asIntOf,h7,sizeOf,typeInfo,hinf]
 ·simp[execOp,Instr.sliceAt,Instr.slice,Instr.sliceBounds,Instr.sliceBound,hc.ev hx,hc.ev hy,h6,asIntOf,h7,sizeOf,typeInfo,hinf,Addr.add]
end
end Go.Fw
end
section
namespace Go.Proofs.YtfjdfdgpkncpfaaGreatDoor
open Go.Proofs.Tryz
open Go.Fw
theorem B7n (fi:FuncId) [Own prog fi] (ca:List Value) (F:Sp.Rf→Bool) (l:List Sp.Rf) (hl:l.length≤1000000000) (I:O5) (a:Option Addr) (cp:Nat) (hr:RowI I 62 2 (.slice a l.length cp) l.length (l.flatMap A1v))
  (hF:∀I',Le I I'→∀x,CalM prog fi (.agg (A1v x).toArray::ca).toArray I' [] (fun v _ H'=>v=.bool (F x)∧H'= [])):
  CalM prog 128 #[.slice a l.length cp,.func (.func fi) #[] ca.toArray] I [] (fun v _ H'=>v=.int .i64 (match l.findIdx? F with|some j=>(j:Int)|none=> -1)∧H'= []):=by
 refine CalM.of fun w E hm=>enter (N:=19) func128 rfl [(0,.slice a l.length cp),(1,.func (.func fi) #[] ca.toArray)] A0B rfl ?_
 repeat' (first|refine D7 ?_|refine D5 ?_|refine G7 ?_|refine D8 ?_|refine A7 ?_|refine E5 ?_|refine A8 ?_|refine E9 ?_)
 refine U4 (fun x:NI=> [(0,.slice a l.length cp),(1,.func (.func fi) #[] ca.toArray),(7,nt l.length),(8,nt x.k)])
  (fun x w'=>Mem E x.I [] w'∧Le I x.I∧x.k≤l.length∧∀j it',j<x.k→l[j]?=some it'→F it'=false) (fun x=>l.length-x.k) ⟨0,I⟩ (by exact⟨rfl,rfl,rfl,rfl,trivial⟩) ⟨hm,Le.refl _,Nat.zero_le _,fun j _ hj=>absurd hj (Nat.not_lt_zero j)⟩ ?_
 clear hm
 rintro⟨k,I1⟩ w1 ⟨hm,hle1,hk,hno⟩
 dsimp only at hm hle1 hk hno ⊢
 by_cases hlt:k<l.length
 ·have hg:l[k]?=some l[k]:=List.getElem?_eq_getElem hlt
  have hri:=hr.le hle1
  have hc:=hF I1 hle1 l[k]
  have hgk:l[((k:Nat):Int).toNat]?=some l[k]:=hg
  generalize l[k]=x at hg hc hgk
  cases hb:F x with
  |true=>
   rw[hb] at hc
   repeat' (first|(refine P5 (d:=14) (enc:=A1v) (z:=x) ?_ (hr:=hri) (he:=fun _=>rfl) (hz:=hgk);intro bt ot hpt)|(refine U7 (d:=15) ?_ hm (hp:=hpt))|(refine A8o (d:=16) ?_ hm (hp:=pm0) (hc:=by exact hc);clear hm;rintro _ I2 _ _ ⟨rfl,rfl⟩ hle hm)|refine D7 ?_|refine D5 ?_|refine J5 ?_|refine D8 ?_|refine A7 ?_|refine G5 ?_|refine O8 ?_|refine E5 ?_|refine A8 ?_|refine E9 ?_|refine F8 ?_|refine G8 ?_|refine H5 ?_|refine F9 ?_|(refine D6 (ht:=fun _=>?_) (hf:=fun _=>?_)<;>(try first|contradiction|(exfalso;omega))))
   all_goals try omega
   refine⟨I2,[],⟨?_,rfl⟩,hm.left (H:= [])⟩
   have:l.findIdx? F=some k:=by
    rw[List.findIdx?_eq_some_iff_getElem]
    obtain⟨hk,e⟩:=List.getElem?_eq_some_iff.1 hg
    refine⟨hk,by rw[e];exact hb,fun j hj=>?_⟩
    have:=hno j l[j] hj (List.getElem?_eq_getElem (by omega))
    rw[this];simp
   rw[this]
  |false=>
   rw[hb] at hc
   repeat' (first|(refine P5 (d:=14) (enc:=A1v) (z:=x) ?_ (hr:=hri) (he:=fun _=>rfl) (hz:=hgk);intro bt ot hpt)|(refine U7 (d:=15) ?_ hm (hp:=hpt))|(refine A8o (d:=16) ?_ hm (hp:=pm0) (hc:=by exact hc);clear hm;rintro _ I2 _ _ ⟨rfl,rfl⟩ hle hm)|refine D7 ?_|refine D5 ?_|refine J5 ?_|refine Q4 ?_|refine D8 ?_|refine A7 ?_|refine D9 ?_|refine E5 ?_|refine A8 ?_|refine E9 ?_|refine F8 ?_|refine F6 ?_|(refine D6 (ht:=fun _=>?_) (hf:=fun _=>?_)<;>(try first|contradiction|(exfalso;omega))))
   all_goals try omega
   refine J9 (⟨k+1,I2⟩:NI) (by exact⟨rfl,rfl,rfl,rfl,trivial⟩) ⟨hm.left (H:= []),hle1.trans hle,by dsimp only;omega,fun j it' hj hg'=>?_⟩ (by dsimp only;omega)
   rcases Nat.lt_or_ge j k with hjk|hjk
   ·exact hno j it' hjk hg'
   ·obtain rfl:j=k:=by dsimp only at hj;omega
    rw[hg] at hg'
    obtain rfl:=Option.some.inj hg'
    exact hb
 ·obtain rfl:k=l.length:=by omega
  repeat' (first|refine D5 ?_|refine J5 ?_|refine D8 ?_|refine A7 ?_|refine G9 ?_|refine G6 ?_|refine E5 ?_|refine A8 ?_|refine O4 ?_|refine G8 ?_|refine H5 ?_|(refine D6 (ht:=fun _=>?_) (hf:=fun _=>?_)<;>(try first|contradiction|(exfalso;omega))))
  all_goals try omega
  refine⟨I1,[],⟨?_,rfl⟩,hm.left (H:= [])⟩
  have:l.findIdx? F=none:=by
   rw[List.findIdx?_eq_none_iff]
   intro x hx
   obtain⟨j,hj,rfl⟩:=List.getElem_of_mem hx
   exact hno j _ hj (List.getElem?_eq_getElem hj)
  rw[this]
theorem A88 (fi:FuncId) [Own prog fi] (ca:List Value) (F:Sp.Rf→Bool) (l:List Sp.Rf) (hl:l.length≤1000000000) (I:O5) (a:Option Addr) (cp:Nat) (hr:RowI I 62 2 (.slice a l.length cp) l.length (l.flatMap A1v))
  (hF:∀I',Le I I'→∀x,CalM prog fi (.agg (A1v x).toArray::ca).toArray I' [] (fun v _ H'=>v=.bool (F x)∧H'= [])):
  CalM prog 106 #[.slice a l.length cp,.func (.func fi) #[] ca.toArray] I [] (fun v _ H'=>v=.bool (l.any F)∧H'= []):=by
 refine CalM.of fun w E hm=>enter (N:=9) func106 rfl [(0,.slice a l.length cp),(1,.func (.func fi) #[] ca.toArray)] A0B rfl ?_
 have hc:=B7n fi ca F l hl I a cp hr hF
 have hany:l.any F=decide (0≤(match l.findIdx? F with|some j=>(j:Int)|none=> -1)):=by
  cases h:l.findIdx? F with
  |some j=>
   obtain⟨hj,e,_⟩:=List.findIdx?_eq_some_iff_getElem.1 h
   rw[List.any_eq_true.2 ⟨l[j],List.getElem_mem hj,e⟩]
   exact(decide_eq_true (show (0:Int)≤(j:Int) by omega)).symm
  |none=>
   rw[List.findIdx?_eq_none_iff] at h
   rw[List.any_eq_false.2 (fun x hx=>by rw[h x hx];simp)]
   rfl
 rw[hany]
 generalize (match l.findIdx? F with|some j=>(j:Int)|none=> -1)=z at hc
 repeat' (first|(refine F5 (d:=7) ?_ hm (hc:=hc);clear hm;rintro _ I4 _ _ ⟨rfl,rfl⟩ hle hm;have hleI4:=hle;try simp only[F7] at hm)|refine D7 ?_|refine D5 ?_|refine A0i ?_|refine D8 ?_|refine A7 ?_|refine E5 ?_|refine A8 ?_|refine G8 ?_|refine H5 ?_)
 exact⟨I4,[],⟨rfl,rfl⟩,hm.left (H:= [])⟩
end Go.Proofs.YtfjdfdgpkncpfaaGreatDoor
end
section
namespace Go.Sp
theorem B0V:∀(l:List Par) (sc:List Lc) (s:NW),s.n≤(A2p l sc s).2.n∧(A2p l sc s).2.n≤s.n+l.length∧sc.length≤(A2p l sc s).1.length∧(A2p l sc s).1.length≤sc.length+l.length
 | [],sc,s=>by rw[A2p];exact⟨Nat.le_refl _,by simp,Nat.le_refl _,by simp⟩
 |x::l,sc,s=>by
  rw[A2p,List.length_cons]
  have h1:=B9u x.name x.at_ sc s
  have h2:=B0V l (mkN x.name x.at_ sc s).1 (mkN x.name x.at_ sc s).2
  omega
theorem B5Z (its:List Itm) (b:Int) (dn:List Rf) (c:Rf) (s:NW):s.n≤(A42 its b dn c s).n∧(A42 its b dn c s).n≤s.n+2:=by
 have h1:=A85 its b 1 c.at_ c.name s
 rw[A42]
 split
 ·rw[A6q];omega
 ·omega
theorem B09 (its:List Itm) (b:Int):∀(l dn:List Rf) (s:NW),s.n≤(A4i its b dn l s).n∧(A4i its b dn l s).n≤s.n+2 *l.length
 | [],dn,s=>by rw[A4i];simp
 |x::l,dn,s=>by
  rw[A4i,List.length_cons]
  have h1:=B5Z its b dn x s
  have h2:=B09 its b l (dn++ [x]) (A42 its b dn x s)
  omega
theorem B4N {q:List UInt8}:∀(l:List Par),(∀x∈l,A0L q x.at_ x.name)→∀ {sc:List Lc},A7I q sc→∀(s:NW),A7I q (A2p l sc s).1
 | [],_,sc,hsc,s=>by rw[A2p];exact hsc
 |x::l,h,sc,hsc,s=>by
  rw[A2p]
  refine B4N l (fun y hy=>h y (List.mem_cons_of_mem _ hy)) ?_ _
  rw[mkN]
  split
  ·exact hsc
  ·rename_i hn;exact B0g hsc hn (h x List.mem_cons_self)
end Go.Sp
namespace Go.Proofs.YtfjdfdgpkncpfaaGreatDoor
open Go.Proofs.Tryz
open Go.Fw
theorem B91 (I:O5) (b:Nat) (c:Sp.Rf) (hb:PtrI I b 0 62 (A1v c)) (x:Sp.Rf):
  CalM prog 107 #[.agg (A1v x).toArray,ptr b] I [] (fun v _ H'=>v=.bool (decide (x.name=c.name))∧H'= []):=by
 refine CalM.of fun w E hm=>enter (N:=9) func107 rfl [(0,.agg (A1v x).toArray),(1,ptr b)] A0B rfl ?_
 repeat' (first|(refine A0t (d:=2) ?_ hm;clear hm;intro b2 _ hm)|refine H6 ?_ hm|refine H9 ?_ hm|refine D5 ?_|refine U0 ?_|refine C9 ?_|refine D8 ?_|refine A7 ?_|refine E5 ?_|refine A8 ?_|refine G8 ?_|refine H5 ?_)
 exact⟨I,[],⟨rfl,rfl⟩,hm.left (H:= [])⟩
section
variable {src:List UInt8}{p:Nat}{q:List UInt8}{its:List Sp.Itm}{it:Sp.Itm}{bc bf:Nat}{a:Option Addr}{cp:Nat}{xs:List Value}{pi:Value}
theorem B3M (l:List Sp.Rf) (n:Nat):(l.flatMap A1v).take (n *2)=(l.take n).flatMap A1v:=by
 induction l generalizing n with
 |nil=>simp
 |cons x l ih=>
  cases n with
  |zero=>simp
  |succ n=>
   rw[List.flatMap_cons,List.take_succ_cons,List.flatMap_cons,show (n+1) *2=2+n *2 by omega,List.take_append,List.take_of_length_le (by show 2≤2+n *2;omega),show 2+n *2-(A1v x).length=n *2 by (show 2+n *2-2=n *2;omega),ih]
theorem B8H {I:O5}{sc:List Sp.Lc}{s:Sp.NW}{sa:Option Addr}{sp:Nat}{da:Option Addr}{dp:Nat}{ua:Option Addr}{up:Nat} (hC:NC I src p q its it bf a cp xs pi) (k:Int) (f:Nat) (n:List UInt8) (hst:Sp.A0L q f n) (hd:s.n≤1000000000):
  CalM prog 105 #[ptr bc,.int .i64 k,nt f,str n] I (NSt bc bf pi sc sa sp s da dp ua up)
   (fun _ _ H'=> ∃sa sp da dp ua up,H'=NSt bc bf pi sc sa sp (Sp.A2X its p k f n s) da dp ua up):=by
 cases hf:Sp.Q8 its k n with
 |none=>exact(B0K hC k f n hst hd hf).mono (fun _ _ _ _ h=>h.2)
 |some j=>exact(B0L hC k f n hst hd hf).mono (fun _ _ _ _ h=>h.2)
theorem C1q {I:O5}{s:Sp.NW}{sa:Option Addr}{sp:Nat}{da:Option Addr}{dp:Nat}{ua:Option Addr}{up:Nat} (hC:NC I src p q its it bf a cp xs pi) (hsm:it.small) (hcn:Sp.N7 it.body≤400000000) (hd:s.n≤1000):
  CalM prog 80 #[ptr bc] I (NSt bc bf pi [] sa sp s da dp ua up) (ToN bc bf pi (Sp.A2p it.params [] s).1 (Sp.fnN its it s) (.tuple #[])):=by
 refine CalM.of fun w E hm=>enter (N:=76) func80 rfl [(0,ptr bc)] Z4 rfl ?_
 have hlen:=hC.len
 have hst:=hC.st
 rw[Sp.fnN,hst.at_]
 obtain⟨bi,oi,tci,ci,rfl,hpi,hati⟩:=hC.item
 obtain⟨pa,pc,sa9,sc9,ba,bc9,da9,dc9,xb,rfl,hpar,hsnd,hrb,hbs,_⟩:=hati
 have hsp:=hsm.params
 have hss:=hsm.sends
 have hsb:=hsm.body
 repeat' (first|refine H6 ?_ hm|refine H9 ?_ hm|refine D7 ?_|refine G7 ?_|refine E8 ?_|refine C9 ?_|refine D8 ?_|refine A7 ?_|refine E5 ?_|refine A8 ?_|refine E9 ?_)
 refine U4 (fun x:NX=> [(0,ptr bc),(12,.slice pa it.params.length pc),(13,nt it.params.length),(14,nt x.k)])
  (fun x w'=>Mem E x.I (NSt bc bf (.pointer (some ⟨bi,oi,none⟩)) (Sp.A2p (it.params.take x.k) [] s).1 x.sa x.sp (Sp.A2p (it.params.take x.k) [] s).2 x.da x.dp x.ua x.up) w'∧Le I x.I∧x.k≤it.params.length) (fun x=>it.params.length-x.k) ⟨0,I,sa,sp,da,dp,ua,up⟩
  (by exact⟨rfl,rfl,rfl,rfl,trivial⟩) ⟨by dsimp only;rw[List.take_zero,Sp.A2p];exact hm,Le.refl _,Nat.zero_le _⟩ ?_
 clear hm
 rintro⟨k,I1,sa1,sp1,da1,dp1,ua1,up1⟩ w1 ⟨hm,hle1,hk⟩
 dsimp only at hm hle1 hk ⊢
 by_cases hlt:k<it.params.length
 ·have hg:it.params[k]?=some it.params[k]:=List.getElem?_eq_getElem hlt
  have hpst:=(hst.sub _ _ (hst.params _ (List.getElem_mem hlt))).1
  have hstp:=Sp.B5L hg [] s
  have hpr:=hpar.le hle1
  have hgk:it.params[((k:Nat):Int).toNat]?=some it.params[k]:=hg
  generalize it.params[k]=y at hg hpst hstp hgk
  have hnn:=Sp.B0V (it.params.take k) [] s
  rw[List.length_take] at hnn
  generalize Sp.A2p (it.params.take k) [] s=r at hm hstp hnn
  have hc:=fun (J:O5)=>B7o (I:=J) (bc:=bc) (bf:=bf) (pi:=.pointer (some ⟨bi,oi,none⟩)) (sc:=r.1) (sa:=sa1) (sp:=sp1) (s:=r.2) (da:=da1) (dp:=dp1) (ua:=ua1) (up:=up1) y.name y.at_ (by omega) (by dsimp only[List.length_nil] at hnn;omega) (by omega)
  generalize Sp.mkN y.name y.at_ r.1 r.2=z at hc hstp
  repeat' (first|(refine P5 (d:=16) (enc:=A2a) (z:=y) ?_ (hr:=hpr) (he:=fun _=>rfl) (hz:=hgk);intro bt ot hpt)|(refine F5 (d:=23) ?_ hm (hp:=B0d) (hc:=hc I1);clear hm;rintro _ I2 _ _ ⟨rfl,sa2,sp2,da2,dp2,ua2,up2,rfl⟩ hleI2 hm;try simp only[F7] at hm)|(refine V7 (d:=3) ?_ hm;clear hm;intro b3 _ hm)|refine H6 ?_ hm|refine U7 ?_ hm|refine D7 ?_|refine J5 ?_|refine Q4 ?_|refine C9 ?_|refine D8 ?_|refine A7 ?_|refine D9 ?_|refine E5 ?_|refine A8 ?_|refine E9 ?_|refine F8 ?_|(refine D6 (ht:=fun _=>?_) (hf:=fun _=>?_)<;>(try first|contradiction|(exfalso;omega))))
  all_goals try omega
  exact J9 (⟨k+1,I2,sa2,sp2,da2,dp2,ua2,up2⟩:NX) (by exact⟨rfl,rfl,rfl,rfl,trivial⟩) ⟨by dsimp only;rw[hstp];exact hm.left,hle1.trans hleI2,by dsimp only;omega⟩ (by dsimp only;omega)
 obtain rfl:k=it.params.length:=by omega
 rw[List.take_length] at hm
 have hnp:=Sp.B0V it.params [] s
 have hsc1:=Sp.B4N it.params hst.params Sp.B7N s
 generalize Sp.A2p it.params [] s=r at hm hnp hsc1 ⊢
 have hpi1:=hpi.le hle1
 repeat' (first|refine H6 ?_ hm|refine H9 ?_ hm|refine D7 ?_|refine J5 ?_|refine G7 ?_|refine E8 ?_|refine C9 ?_|refine D8 ?_|refine A7 ?_|refine G9 ?_|refine G6 ?_|refine E5 ?_|refine A8 ?_|refine E9 ?_|refine O4 ?_|(refine D6 (ht:=fun _=>?_) (hf:=fun _=>?_)<;>(try first|contradiction|(exfalso;omega))))
 all_goals try omega
 refine U4 (fun x:NX=> [(0,ptr bc),(31,.slice sa9 it.sends.length sc9),(32,nt it.sends.length),(33,nt x.k)])
  (fun x w'=>Mem E x.I (NSt bc bf (.pointer (some ⟨bi,oi,none⟩)) r.1 x.sa x.sp (Sp.A4i its p [] (it.sends.take x.k) r.2) x.da x.dp x.ua x.up) w'∧Le I x.I∧x.k≤it.sends.length) (fun x=>it.sends.length-x.k) ⟨0,I1,sa1,sp1,da1,dp1,ua1,up1⟩
  (by exact⟨rfl,rfl,rfl,rfl,trivial⟩) ⟨by dsimp only;rw[List.take_zero,Sp.A4i];exact hm,hle1,Nat.zero_le _⟩ ?_
 clear hm hpi1 hle1 hlt hk
 rintro⟨k,I2,sa2,sp2,da2,dp2,ua2,up2⟩ w2 ⟨hm,hle2,hk⟩
 dsimp only at hm hle2 hk ⊢
 have hC2:=hC.le hle2
 have hpi2:=hpi.le hle2
 by_cases hlt:k<it.sends.length
 ·have hg:it.sends[k]?=some it.sends[k]:=List.getElem?_eq_getElem hlt
  have hs0:=hst.sends _ (List.getElem_mem hlt)
  have hpst:=(hst.sub _ _ hs0).1
  have hstp:=Sp.B5Y its p hg r.2
  have hpr:=hsnd.le hle2
  have hgk:it.sends[((k:Nat):Int).toNat]?=some it.sends[k]:=hg
  generalize it.sends[k]=y at hg hpst hstp hgk hs0
  have hnn:=Sp.B09 its p (it.sends.take k) [] r.2
  rw[List.length_take] at hnn
  generalize Sp.A4i its p [] (it.sends.take k) r.2=s1 at hm hstp hnn
  have hc:=fun (J:O5) (m:Le I2 J)=>B8H (I:=J) (bc:=bc) (sc:=r.1) (s:=s1) (sa:=sa2) (sp:=sp2) (da:=da2) (dp:=dp2) (ua:=ua2) (up:=up2) (hC2.le m) 1 y.at_ y.name hs0 (by omega)
  have hin:=Sp.A85 its p 1 y.at_ y.name s1
  rw[Sp.A42] at hstp
  generalize Sp.A2X its p 1 y.at_ y.name s1=s2 at hc hstp hin
  have htl:(it.sends.take k).length=k:=by rw[List.length_take];omega
  repeat' (first|refine Z5 9 ?_|(refine P5 (d:=36) (enc:=A1v) (z:=y) ?_ (hr:=hpr) (he:=fun _=>rfl) (hz:=hgk);intro bt ot hpt)|(refine F5 (d:=43) ?_ hm (hp:=B0d) (hc:=hc I2 (Le.refl _));clear hm;rintro _ I3 _ _ ⟨sa3,sp3,da3,dp3,ua3,up3,rfl⟩ hleI3 hm;try simp only[F7] at hm)|(refine V6 (d:=5) ?_ hm;clear hm;intro b5 _ hm)|refine H6 ?_ hm|refine U7 ?_ hm|(refine N8 ?_ hm;clear hm;intro _ hm;try simp only[F7] at hm)|refine D7 ?_|refine D5 ?_|refine J5 ?_|refine C9 ?_|refine D8 ?_|refine A7 ?_|refine E5 ?_|refine A8 ?_|refine E9 ?_|refine F8 ?_|(refine D6 (ht:=fun _=>?_) (hf:=fun _=>?_)<;>(try first|contradiction|(exfalso;omega))))
  all_goals try omega
  obtain⟨I4,hle4,hm4,hpn⟩:=(hm.front 4 rfl).freezeO
  clear hm
  have hm:=hm4
  clear hm4
  have hpi4:=(hpi2.le hleI3).le hle4
  have hpr4:=(hpr.le hleI3).le hle4
  have hct:=A88 107 [ptr b5] (fun x=>decide (x.name=y.name)) (it.sends.take k) (by omega) I4 sa9 sc9 (by rw[htl, ←B3M];exact hpr4.take (by omega)) (fun I' m x=>B91 I' b5 y (hpn.le m) x)
  rw[htl] at hct
  refine⟨?_⟩
  by_cases hn:y.name≠ []
  ·cases hb:(it.sends.take k).any (fun x=>decide (x.name=y.name)) with
   |true=>
    rw[hb] at hct
    rw[if_pos ⟨hn,hb⟩] at hstp
    have hT:=fun (J:O5)=>A7z (I:=J) (bc:=bc) (bf:=bf) (pi:=.pointer (some ⟨bi,oi,none⟩)) (sc:=r.1) (sa:=sa3) (sp:=sp3) (s:=s2) (da:=da3) (dp:=dp3) (ua:=ua3) (up:=up3) y.name y.at_ 7 (by omega) (by omega)
    repeat' (first|(refine A7q (d:=56) ?_ hpr4;intro _)|(refine F5 (d:=58) ?_ hm (hp:=pm0) (hc:=hct);clear hm;rintro _ I5 _ _ ⟨rfl,rfl⟩ hleI5 hm;try simp only[F7] at hm;have hpn5:=hpn.le hleI5)|(refine F5 (d:=65) ?_ hm (hp:=A1O) (hc:=hT I5);clear hm;rintro _ I6 _ _ ⟨rfl,sa4,sp4,da4,dp4,ua4,up4,rfl⟩ hleI6 hm;try simp only[F7] at hm)|refine H6 ?_ hm|refine H9 ?_ hm|refine D7 ?_|refine J8 ?_|refine A0x ?_|refine E8 ?_|refine A0r ?_|refine Q4 ?_|refine C9 ?_|(refine O0 (h1:=fun _=>?_) (h0:=fun _=>?_)<;>(try first|contradiction|(exfalso;omega)))|refine D8 ?_|refine A7 ?_|refine D9 ?_|refine A8 ?_|refine F9 ?_)
    all_goals try first|omega|contradiction
    exact J9 (⟨k+1,I6,sa4,sp4,da4,dp4,ua4,up4⟩:NX) (by exact⟨rfl,rfl,rfl,rfl,trivial⟩) ⟨by dsimp only;rw[hstp];exact hm,(((hle2.trans hleI3).trans hle4).trans hleI5).trans hleI6,by dsimp only;omega⟩ (by dsimp only;omega)
   |false=>
    rw[hb] at hct
    rw[if_neg (fun h=>by rw[hb] at h;exact absurd h.2 (by decide))] at hstp
    repeat' (first|(refine A7q (d:=56) ?_ hpr4;intro _)|(refine F5 (d:=58) ?_ hm (hp:=pm0) (hc:=hct);clear hm;rintro _ I5 _ _ ⟨rfl,rfl⟩ hleI5 hm;try simp only[F7] at hm)|refine H6 ?_ hm|refine H9 ?_ hm|refine D7 ?_|refine J8 ?_|refine A0x ?_|refine E8 ?_|refine A0r ?_|refine Q4 ?_|refine C9 ?_|(refine O0 (h1:=fun _=>?_) (h0:=fun _=>?_)<;>(try first|contradiction|(exfalso;omega)))|refine D8 ?_|refine A7 ?_|refine D9 ?_|refine A8 ?_|refine F8 ?_|refine F6 ?_)
    all_goals try first|omega|contradiction
    exact J9 (⟨k+1,I5,sa3,sp3,da3,dp3,ua3,up3⟩:NX) (by exact⟨rfl,rfl,rfl,rfl,trivial⟩) ⟨by dsimp only;rw[hstp];exact hm,((hle2.trans hleI3).trans hle4).trans hleI5,by dsimp only;omega⟩ (by dsimp only;omega)
  ·rw[if_neg (fun h=>hn h.1)] at hstp
   repeat' (first|refine H9 ?_ hm|refine D7 ?_|refine J3 ?_|refine A0x ?_|refine Q4 ?_|refine C9 ?_|refine Y1 ?_|(refine O0 (h1:=fun _=>?_) (h0:=fun _=>?_)<;>(try first|contradiction|(exfalso;omega)))|refine D8 ?_|refine A7 ?_|refine D9 ?_|refine A8 ?_|refine F8 ?_|refine F6 ?_)
   all_goals try first|omega|contradiction
   exact J9 (⟨k+1,I4,sa3,sp3,da3,dp3,ua3,up3⟩:NX) (by exact⟨rfl,rfl,rfl,rfl,trivial⟩) ⟨by dsimp only;rw[hstp];exact hm,(hle2.trans hleI3).trans hle4,by dsimp only;omega⟩ (by dsimp only;omega)
 ·obtain rfl:k=it.sends.length:=by omega
  rw[List.take_length] at hm
  have hnn:=Sp.B09 its p it.sends [] r.2
  generalize Sp.A4i its p [] it.sends r.2=s1 at hm hnn ⊢
  have hblk:=C08 (its:=its) (it:=it) (bc:=bc) (bf:=bf) (a:=a) (cp:=cp) (xs:=xs) (src:=src) (p:=p) (q:=q) (pi:=.pointer (some ⟨bi,oi,none⟩)) _ it.body (Nat.le_refl _) (by omega) hsm.stms hst.body I2 ba bc9 xb r.1 s1 sa2 sp2 da2 dp2 ua2 up2 hsc1 (by dsimp only[List.length_nil] at hnp;omega) (by omega) hC2 (hrb.le hle2) (U8.le hle2 _ _ hbs)
  repeat' (first|(refine F5 (d:=75) ?_ hm (hp:=A1O) (hc:=hblk);clear hm;rintro _ I5 _ _ ⟨rfl,sa4,sp4,da4,dp4,ua4,up4,rfl⟩ hleI5 hm;try simp only[F7] at hm)|refine H6 ?_ hm|refine H9 ?_ hm|refine D7 ?_|refine J5 ?_|refine E8 ?_|refine C9 ?_|refine D8 ?_|refine A7 ?_|refine G9 ?_|refine G6 ?_|refine E5 ?_|refine A8 ?_|refine O4 ?_|refine X3 ?_|(refine D6 (ht:=fun _=>?_) (hf:=fun _=>?_)<;>(try first|contradiction|(exfalso;omega))))
  all_goals try omega
  exact⟨I5,_,⟨rfl,_,_,_,_,_,_,rfl⟩,hm⟩
end
end Go.Proofs.YtfjdfdgpkncpfaaGreatDoor
end
