/- Own work: texts FlB, FlC, FlD, FlE, FlG, one behind the other. -/
import Derived.Test.YtfjdfdgpkncpfaaGreatDoorQb20
set_option maxHeartbeats 64000000
section
namespace Go.Sp
theorem B5P (its:List Itm) (sc:List Lc) (e:Ex):plainF its sc e=if e.kind=2 then A3E sc e.name else if e.kind=3 then plainsF its sc e.args 0 else if e.kind=4 then callLab its e.name else 0:=by
 cases e;rw[plainF];rfl
theorem A3D {its:List Itm}{k:Int}{n:List UInt8}{j:Nat} (h:Q8 its k n=some j):A0Y its k n=j:=by rw[A0Y,h]
theorem A3C {its:List Itm}{k:Int}{n:List UInt8} (h:Q8 its k n=none):A0Y its k n= -1:=by rw[A0Y,h]
end Go.Sp
namespace Go.Proofs.YtfjdfdgpkncpfaaGreatDoor
open Go.Proofs.Tryz
open Go.Fw
theorem B6O {its:List Sp.Itm}{it:Sp.Itm}{bc bf sp:Nat}{a:Option Addr}{cp:Nat}{xs:List Value}{pi vf v3 v5 v6 v7:Value}{sc:List Sp.Lc}{sa:Option Addr} (hs:sc.length≤1099511627776) (hsl:Sp.A2D sc):
  ∀(n:Nat) (e:Sp.Ex),SizeOf.sizeOf e≤n→e.small→∀(J:O5) (b o tc:Nat) (ea:Option Addr) (ec:Nat) (ys:List Value),FRd J bc bf pi sc sa sp v3 vf v5 v6 v7→FC J its it bf a cp xs pi vf→
   PtrI J b o tc (A0d e ea ec)→RowI J 107 6 (.slice ea e.args.length ec) e.args.length ys→V5 J e.args ys→
   CalR prog 173 #[ptr bc,.pointer (some ⟨b,o,none⟩)] J [] (nt (Sp.plainF its sc e)):=by
 intro n
 induction n with
 |zero=>intro e h;cases e;simp at h
 |succ n ih=>
 intro e hsz hsm J b o tc ea ec ys hR0 hC0 hp0 hr0 hx0
 obtain⟨hal,hasm⟩:=Sp.A2q hsm
 refine CalR.of fun w K hm hl _ _=>enter (N:=68) func173 rfl [(0,ptr bc),(1,.pointer (some ⟨b,o,none⟩))] A0B rfl ?_
 have hR:=hR0.le hl
 have hC:=hC0.le hl
 have hp:=hp0.le hl
 have hr:=hr0.le hl
 have hx:=V5.le hl _ _ hx0
 clear hR0 hC0 hp0 hr0 hx0
 obtain⟨hRp,hRr⟩:=hR
 have hCf:=hC.file
 rw[Sp.B5P]
 by_cases k2:e.kind=2
 ·rw[if_pos k2]
  repeat' (first|(refine L9 (d:=19) ?_ hm (hc:=B3g e.name hs ⟨hRp,hRr⟩);clear hm;intro _ hm)|refine H9 ?_ hm|refine D7 ?_|refine D5 ?_|refine L8 ?_|refine E8 ?_|refine C9 ?_|refine D8 ?_|refine A7 ?_|refine D9 ?_|refine E5 ?_|refine A8 ?_|refine E9 ?_|refine G8 ?_|refine H5 ?_|(refine D6 (ht:=fun _=>?_) (hf:=fun _=>?_)<;>(try first|contradiction|(exfalso;omega))))
  all_goals try omega
  exact⟨rfl,hm.kept⟩
 rw[if_neg k2]
 by_cases k3:e.kind=3
 ·rw[if_pos k3]
  repeat' (first|refine H9 ?_ hm|refine D7 ?_|refine D5 ?_|refine L8 ?_|refine G7 ?_|refine E8 ?_|refine C9 ?_|refine D8 ?_|refine A7 ?_|refine E5 ?_|refine A8 ?_|refine E9 ?_|(refine D6 (ht:=fun _=>?_) (hf:=fun _=>?_)<;>(try first|contradiction|(exfalso;omega))))
  all_goals try omega
  refine U4 (fun k:Nat=> [(0,ptr bc),(1,.pointer (some ⟨b,o,none⟩)),(5,nt (Sp.plainsF its sc (e.args.take k) 0)),(26,nt e.args.length),(27,nt k)]) (fun k w'=>Mem ⟨w,[],K⟩ K [] w'∧k≤e.args.length) (fun k=>e.args.length-k) 0
   (by exact⟨rfl,rfl,by rw[List.take_zero,Sp.plainsF];rfl,rfl,rfl,trivial⟩) ⟨hm,Nat.zero_le _⟩ ?_
  clear hm
  rintro k w1 ⟨hm,hk⟩
  try dsimp only at hm hk ⊢
  by_cases hlt:k<e.args.length
  ·have hg:e.args[k]?=some e.args[k]:=List.getElem?_eq_getElem hlt
   have hsz2:=Sp.A12 (List.getElem_mem hlt)
   have hsm2:=Sp.A0G hasm hg
   obtain⟨ea2,ec2,ys2,hc2,hr2,hx2⟩:=(hx.get hg).out
   generalize e.args[k]=y at hg hsz2 hsm2 hc2 hr2 hx2
   have hst:=Sp.B00 its sc hg 0
   have hl1:=Sp.A6m hC.lab hsl (e.args.take k) 0 (by omega)
   have hl2:=Sp.A5P hC.lab hsl y
   repeat' (first|(refine L6 (d:=37) ?_ (hr:=hr);intro bt ot hpt;rw[show ((k:Int).toNat *6)=k *6 from rfl,hc2] at hpt)|(refine L9 (d:=38) ?_ hm (hc:=ih y (by omega) hsm2 K _ _ _ ea2 ec2 ys2 ⟨hRp,hRr⟩ hC hpt hr2 hx2);clear hm;intro _ hm)|(refine Q7 (d:=39) (hc:=by exact A4K _ _ hl1 hl2 _) (k:=?_);rintro _ _ ⟨rfl,rfl⟩)|refine H9 ?_ hm|refine D7 ?_|refine D5 ?_|refine J5 ?_|refine E8 ?_|refine Q4 ?_|refine C9 ?_|refine D8 ?_|refine A7 ?_|refine D9 ?_|refine E5 ?_|refine A8 ?_|refine E9 ?_|refine F8 ?_|(refine D6 (ht:=fun _=>?_) (hf:=fun _=>?_)<;>(try first|contradiction|(exfalso;omega))))
   all_goals try omega
   refine J9 (k+1:Nat) (by exact⟨rfl,rfl,by rw[hst];rfl,rfl,rfl,trivial⟩) ⟨hm,by omega⟩ (by omega)
  ·obtain rfl:k=e.args.length:=by omega
   repeat' (first|refine D7 ?_|refine D5 ?_|refine J5 ?_|refine D8 ?_|refine A7 ?_|refine G9 ?_|refine D9 ?_|refine G6 ?_|refine E5 ?_|refine A8 ?_|refine O4 ?_|refine G8 ?_|refine H5 ?_|(refine D6 (ht:=fun _=>?_) (hf:=fun _=>?_)<;>(try first|contradiction|(exfalso;omega))))
   all_goals try omega
   exact⟨by rw[List.take_length],hm.kept⟩
 rw[if_neg k3]
 by_cases k4:e.kind=4
 ·rw[if_pos k4]
  have hfind:=(A2B 2 e.name its K a cp xs hC.fe).read
  cases hf:Sp.Q8 its 2 e.name with
  |some j=>
   obtain⟨hj,_,_,_,_⟩:=Sp.Y8 hf
   obtain⟨ci,hci,hat,hlc⟩:=hC.fe.get (Sp.A0K hj)
   obtain⟨pa,pc,sa1,sc1,ba,bc1,da,dc,xb,rfl,_⟩:=hat
   have hri:=hC.fe.row
   rw[Sp.callLab,hf]
   rw[Sp.A3D hf] at hfind
   repeat' (first|(refine V3 (d:=53) ?_ hm (hc:=hfind))|(refine L6 (d:=64) ?_ (hr:=hri);intro bt ot hpt;rw[show ((j:Int).toNat *10)=j *10 from rfl,hci] at hpt)|refine H9 ?_ hm|refine X8 ?_ hm|refine A4u ?_ hm|refine D7 ?_|refine D5 ?_|refine A0i ?_|refine L8 ?_|refine E8 ?_|refine C9 ?_|refine D8 ?_|refine A7 ?_|refine D9 ?_|refine E5 ?_|refine A8 ?_|refine E9 ?_|refine G8 ?_|refine H5 ?_|refine O6 ?_|(refine W9 ?_;intro _ hkq;replace hm:=hm.kept0 hkq;clear hkq)|refine F9 ?_|(refine D6 (ht:=fun _=>?_) (hf:=fun _=>?_)<;>(try first|contradiction|(exfalso;omega)))|refine U3 ?_|refine A1f ?_|refine J4 ?_|refine H7 ?_)
   all_goals try omega
   exact⟨rfl,hm.kept⟩
  |none=>
   rw[Sp.callLab,hf]
   rw[Sp.A3C hf] at hfind
   repeat' (first|(refine V3 (d:=53) ?_ hm (hc:=hfind))|refine H9 ?_ hm|refine X8 ?_ hm|refine A4u ?_ hm|refine D7 ?_|refine D5 ?_|refine A0i ?_|refine L8 ?_|refine E8 ?_|refine C9 ?_|refine D8 ?_|refine A7 ?_|refine D9 ?_|refine E5 ?_|refine A8 ?_|refine E9 ?_|refine F8 ?_|refine G8 ?_|refine H5 ?_|refine O6 ?_|(refine W9 ?_;intro _ hkq;replace hm:=hm.kept0 hkq;clear hkq)|refine F6 ?_|(refine D6 (ht:=fun _=>?_) (hf:=fun _=>?_)<;>(try first|contradiction|(exfalso;omega)))|refine U3 ?_|refine A1f ?_|refine J4 ?_|refine H7 ?_)
   all_goals try omega
   exact⟨rfl,hm.kept⟩
 ·rw[if_neg k4]
  repeat' (first|refine H9 ?_ hm|refine D7 ?_|refine D5 ?_|refine L8 ?_|refine E8 ?_|refine C9 ?_|refine D8 ?_|refine A7 ?_|refine D9 ?_|refine E5 ?_|refine A8 ?_|refine E9 ?_|refine F8 ?_|refine G8 ?_|refine H5 ?_|(refine D6 (ht:=fun _=>?_) (hf:=fun _=>?_)<;>(try first|contradiction|(exfalso;omega))))
  all_goals try omega
  exact⟨rfl,hm.kept⟩
end Go.Proofs.YtfjdfdgpkncpfaaGreatDoor
end
section
namespace Go.Sp
def A7R (its:List Itm) (at_:Int) (sc:List Lc) (un:Nat) (e:Ex) (s:FW):Nat×FW:=
 if e.kind=2 then (A3E sc e.name,s) else if e.kind=3 then opsF its at_ sc un e.args 0 s else
 if e.kind=4 then (callLab its e.name,askFloor its un e.name e.fr e.to (argsF its at_ sc un e.name e.args 0 s)) else (0,s)
theorem B3a (its:List Itm) (at_:Int) (sc:List Lc) (un:Nat) (e:Ex) (s:FW):exF its at_ sc un e s=((A7R its at_ sc un e s).1,(A7R its at_ sc un e s).2.hit at_ e.fr e.to ((A7R its at_ sc un e s).1|||un)):=by
 cases e with
 |mk k nm n args f t=>
 rw[exF,A7R]
 show _=_
 by_cases k2:k=2
 ·simp[k2,Ex.kind,Ex.name,Ex.fr,Ex.to]
 ·by_cases k3:k=3
  ·simp[k3,Ex.kind,Ex.args,Ex.fr,Ex.to]
  ·by_cases k4:k=4
   ·simp[k4,Ex.kind,Ex.name,Ex.args,Ex.fr,Ex.to]
   ·simp[k2,k3,k4,Ex.kind,Ex.fr,Ex.to]
theorem B6v (its:List Itm) (at_:Int) (sc:List Lc) (un:Nat) (e:Ex) (s:FW):s.ds.length≤(A7R its at_ sc un e s).2.ds.length∧(A7R its at_ sc un e s).2.ds.length+1≤s.ds.length+2 *e.cnt:=by
 have:=A8Q its at_ sc un e s
 rw[B3a] at this
 dsimp only at this
 rw[A3F] at this
 exact this
theorem B8y {s:FW}{at_:Int}{f t n:Nat} (h0:s.hv=none) (h1:(f:Int)≤at_) (h2:at_<t):s.hit at_ f t n=⟨s.ds,some n⟩:=by rw[FW.hit,if_pos ⟨h0,h1,h2⟩]
theorem B60 {s:FW}{at_:Int}{f t n m:Nat} (h0:s.hv=some m):s.hit at_ f t n=s:=by rw[FW.hit,if_neg (by rw[h0];simp)]
theorem B8x {s:FW}{at_:Int}{f t n:Nat} (h1:¬((f:Int)≤at_∧at_<t)):s.hit at_ f t n=s:=by rw[FW.hit,if_neg (fun h=>h1 h.2)]
end Go.Sp
namespace Go.Fw
theorem B38 {R:List HItem}{a b c:HItem}:∀h∈ [a,b,c],h∈a::b::c::R:=by simp
end Go.Fw
namespace Go.Proofs.YtfjdfdgpkncpfaaGreatDoor
open Go.Proofs.Tryz
open Go.Fw
structure FX where
 k:Nat
 I:O5
 sa:Option Addr
 sp:Nat
 da:Option Addr
 dp:Nat
def B58 (its:List Sp.Itm) (it:Sp.Itm) (bc bf:Nat) (a:Option Addr) (cp:Nat) (xs:List Value) (pi vf:Value) (sc:List Sp.Lc) (at_:Int) (un:Nat) (e:Sp.Ex):Prop:=
 ∀(I:O5) (b o tc:Nat) (ea:Option Addr) (ec:Nat) (ys:List Value) (s:Sp.FW) (sa:Option Addr) (sp:Nat) (da:Option Addr) (dp:Nat),s.ds.length+2 *e.cnt≤1000000000→FC I its it bf a cp xs pi vf→
  PtrI I b o tc (A0d e ea ec)→RowI I 107 6 (.slice ea e.args.length ec) e.args.length ys→V5 I e.args ys→
  CalM prog 174 #[ptr bc,.pointer (some ⟨b,o,none⟩),nt un] I (FSt bc bf pi sc sa sp s da dp vf at_) (ToF bc bf pi vf at_ sc (Sp.exF its at_ sc un e s).2 (nt (Sp.exF its at_ sc un e s).1))
section
variable {its:List Sp.Itm}{it:Sp.Itm}{bc bf:Nat}{a:Option Addr}{cp:Nat}{xs:List Value}{pi vf:Value}{sc:List Sp.Lc}{at_:Int}{un:Nat}
theorem B9U (hun:un<256) (_hsc:sc.length≤1099511627776) (hsl:Sp.A2D sc) (e:Sp.Ex) (hsm:e.small) (hE:∀y,y∈e.args→B58 its it bc bf a cp xs pi vf sc at_ un y)
  (I:O5) (b o tc:Nat) (ea:Option Addr) (ec:Nat) (ys:List Value) (s:Sp.FW) (sa:Option Addr) (sp:Nat) (da:Option Addr) (dp:Nat) (hn:s.ds.length+2 *e.cnt≤1000000000) (hC:FC I its it bf a cp xs pi vf)
  (hp:PtrI I b o tc (A0d e ea ec)) (hr:RowI I 107 6 (.slice ea e.args.length ec) e.args.length ys) (hx:V5 I e.args ys):
  CalM prog 191 #[ptr bc,.pointer (some ⟨b,o,none⟩),nt un] I (FSt bc bf pi sc sa sp s da dp vf at_)
   (ToF bc bf pi vf at_ sc (Sp.askFloor its un e.name e.fr e.to (Sp.argsF its at_ sc un e.name e.args 0 s)) (nt (Sp.callLab its e.name))):=by
 obtain⟨hal,hasm⟩:=Sp.A2q hsm
 have hcnt:=Sp.Ex.cnt_eq e
 refine CalM.of fun w E hm=>enter (N:=149) func191 rfl [(0,ptr bc),(1,.pointer (some ⟨b,o,none⟩)),(2,nt un)] A3h rfl ?_
 obtain⟨fa,fp,rfl,hfl⟩:=hC.floors
 have hCf:=hC.file
 have hri:=hC.fe.row
 have hfew:=hC.fe.few
 have hfind:=(A2B 2 e.name its I a cp xs hC.fe).read
 obtain⟨fv,hfv⟩:∃fv,fv=Sp.A0Y its 2 e.name:=⟨_,rfl⟩
 rw[←hfv] at hfind
 repeat' (first|(refine V3 (d:=20) ?_ hm (hc:=hfind))|refine H9 ?_ hm|refine P8 ?_ hm|refine X8 ?_ hm|refine A4u ?_ hm|refine D7 ?_|refine D5 ?_|refine G7 ?_|refine E8 ?_|refine C9 ?_|refine D8 ?_|refine A7 ?_|refine E5 ?_|refine A8 ?_|refine E9 ?_|refine O6 ?_|(refine W9 ?_;intro _ hkq;replace hm:=hm.kept0 hkq;clear hkq)|refine U3 ?_|refine A1f ?_|refine J4 ?_|refine H7 ?_)
 all_goals try omega
 refine U4 (fun x:FX=> [(0,ptr bc),(1,.pointer (some ⟨b,o,none⟩)),(2,nt un),(7,.int .i64 fv),(25,nt e.args.length),(26,nt x.k)])
  (fun x w'=>Mem E x.I (FSt bc bf pi sc x.sa x.sp (Sp.argsF its at_ sc un e.name (e.args.take x.k) 0 s) x.da x.dp (.slice fa its.length fp) at_) w'∧Le I x.I∧x.k≤e.args.length) (fun x=>e.args.length-x.k) ⟨0,I,sa,sp,da,dp⟩
  (by exact⟨rfl,rfl,rfl,rfl,rfl,rfl,trivial⟩) ⟨by dsimp only;rw[List.take_zero,Sp.argsF];exact hm,Le.refl _,Nat.zero_le _⟩ ?_
 clear hm
 rintro⟨k,I1,sa1,sp1,da1,dp1⟩ w1 ⟨hm,hle1,hk⟩
 dsimp only at hm hle1 hk ⊢
 have hC1:=hC.le hle1
 have hCf1:=hC1.file
 have hri1:=hC1.fe.row
 have hp1:=hp.le hle1
 by_cases hlt:k<e.args.length
 ·have hg:e.args[k]?=some e.args[k]:=List.getElem?_eq_getElem hlt
  have hmem:=List.getElem_mem hlt
  obtain⟨ea2,ec2,ys2,hc2,hr2,hx2⟩:=(hx.get hg).out
  have hEk:=hE _ hmem
  generalize e.args[k]=y at hg hmem hc2 hr2 hx2 hEk
  have hst:=Sp.B23 its at_ sc un e.name hg s
  have hcy:=Sp.A3B hg
  have hnn:=Sp.A6w its at_ sc un e.name (e.args.take k) 0 s
  generalize Sp.argsF its at_ sc un e.name (e.args.take k) 0 s=s1 at hm hst hnn
  have hcl:=fun (J:O5) (m:Le I J) (h1:FC J its it bf a cp xs pi (.slice fa its.length fp)) b o tc (hpt:PtrI J b o tc (A0d y ea2 ec2))=>hEk J b o tc ea2 ec2 ys2 s1 sa1 sp1 da1 dp1 (by omega) h1 hpt (hr2.le m) (V5.le m _ _ hx2)
  have hl1:=Sp.A7i hC.lab at_ hsl un y s1
  have hnx:=Sp.A8Q its at_ sc un y s1
  generalize Sp.exF its at_ sc un y s1=r at hcl hst hl1 hnx
  have hrow:=hr.le hle1
  have hl2:=Sp.B0a hl1 hun
  rw[Sp.askArg] at hst
  cases hf:Sp.Q8 its 2 e.name with
  |none=>
   rw[hf] at hst
   rw[Sp.A3C hf] at hfv
   subst hfv
   repeat' (first|(refine L6 (d:=35) ?_ (hr:=hrow);intro bt ot hpt;rw[show ((k:Int).toNat *6)=k *6 from rfl,hc2] at hpt)|(refine F5 (d:=37) ?_ hm (hc:=hcl I1 hle1 hC1 _ _ _ hpt);clear hm;rintro _ I2 _ _ ⟨rfl,sa2,sp2,da2,dp2,rfl⟩ hle hm;have hleI2:=hle;try simp only[F7] at hm;have hCf2:=hCf1.le hleI2;have hp2:=hp1.le hleI2)|(refine Q7 (d:=39) (hc:=by exact A4K _ _ hl1 hun _) (k:=?_);rintro _ _ ⟨rfl,rfl⟩)|refine H9 ?_ hm|refine D7 ?_|refine D5 ?_|refine J3 ?_|refine J5 ?_|refine A0i ?_|refine E8 ?_|refine Q4 ?_|refine C9 ?_|refine Y1 ?_|refine D8 ?_|refine A7 ?_|refine D9 ?_|refine E5 ?_|refine A8 ?_|refine E9 ?_|refine F8 ?_|refine F6 ?_|(refine D6 (ht:=fun _=>?_) (hf:=fun _=>?_)<;>(try first|contradiction|(exfalso;omega))))
   all_goals try omega
   exact J9 (⟨k+1,I2,sa2,sp2,da2,dp2⟩:FX) (by exact⟨rfl,rfl,rfl,rfl,rfl,rfl,trivial⟩) ⟨by dsimp only;rw[hst];exact hm,hle1.trans hleI2,by dsimp only;omega⟩ (by dsimp only;omega)
  |some j=>
   rw[hf] at hst
   rw[Sp.A3D hf] at hfv
   subst hfv
   obtain⟨hj,_,_,_,hmemj⟩:=Sp.Y8 hf
   obtain⟨ci,hci,hat,hlc⟩:=hC1.fe.get (Sp.A0K hj)
   obtain⟨pa,pc,sa9,sc9,ba,bc9,da9,dc9,xb,rfl,hpars,_⟩:=hat
   have hplab:=(hC.lab _ hmemj).2
   dsimp only at hst
   generalize Sp.N9 its j=itj at hci hpars hplab hst
   by_cases hkp:k<itj.params.length
   ·have hgp:itj.params[k]?=some itj.params[k]:=List.getElem?_eq_getElem hkp
    have hpl:=hplab _ (List.getElem_mem hkp)
    generalize itj.params[k]=q at hgp hpl
    rw[hgp] at hst
    dsimp only at hst
    rw[Sp.FW.ask] at hst
    have hF:=fun w=>A6z (r.1|||un) q.label hl2 hpl w
    cases hfl2:Sp.S9 (r.1|||un) q.label with
    |true=>
     rw[hfl2] at hF hst
     repeat' (first|(refine L6 (d:=35) ?_ (hr:=hrow);intro bt ot hpt;rw[show ((k:Int).toNat *6)=k *6 from rfl,hc2] at hpt)|(refine F5 (d:=37) ?_ hm (hc:=hcl I1 hle1 hC1 _ _ _ hpt);clear hm;rintro _ I2 _ _ ⟨rfl,sa2,sp2,da2,dp2,rfl⟩ hle hm;have hleI2:=hle;try simp only[F7] at hm;have hCf2:=hCf1.le hleI2;have hp2:=hp1.le hleI2)|(refine Q7 (d:=39) (hc:=by exact A4K _ _ hl1 hun _) (k:=?_);rintro _ _ ⟨rfl,rfl⟩)|(refine L6 (d:=52) ?_ (hr:=hri1.le hleI2);intro bu ou hpu;rw[show ((j:Int).toNat *10)=j *10 from rfl,hci] at hpu)|(refine L6 (d:=68) ?_ (hr:=hri1.le hleI2);intro bv ov hpv;rw[show ((j:Int).toNat *10)=j *10 from rfl,hci] at hpv)|(refine P5 (d:=72) (enc:=A2a) (z:=q) ?_ (hr:=hpars.le hleI2) (he:=fun _=>rfl) (hz:=by exact hgp);intro bz oz hpz)|(refine Q7 (d:=75) (hc:=by exact hF _) (k:=?_);rintro _ _ ⟨rfl,rfl⟩)|refine H6 ?_ hm|refine H9 ?_ hm|refine D7 ?_|refine D5 ?_|refine J8 ?_|refine J5 ?_|refine A0i ?_|refine G7 ?_|refine U9 ?_|refine E8 ?_|refine Q4 ?_|refine C9 ?_|(refine O0 (h1:=fun _=>?_) (h0:=fun _=>?_)<;>(try first|contradiction|(exfalso;omega)))|refine D8 ?_|refine A7 ?_|refine D9 ?_|refine E5 ?_|refine A8 ?_|refine E9 ?_|refine F8 ?_|refine F6 ?_|(refine D6 (ht:=fun _=>?_) (hf:=fun _=>?_)<;>(try first|contradiction|(exfalso;omega))))
     all_goals try omega
     rw[if_pos rfl] at hst
     exact J9 (⟨k+1,I2,sa2,sp2,da2,dp2⟩:FX) (by exact⟨rfl,rfl,rfl,rfl,rfl,rfl,trivial⟩) ⟨by dsimp only;rw[hst];exact hm,hle1.trans hleI2,by dsimp only;omega⟩ (by dsimp only;omega)
    |false=>
     rw[hfl2] at hF hst
     rw[if_neg Bool.false_ne_true] at hst
     have hT:=fun (J:O5) (sa:Option Addr) (sp:Nat) (da:Option Addr) (dp:Nat)=>B3h (I:=J) (bc:=bc) (bf:=bf) (pi:=pi) (sc:=sc) (sa:=sa) (sp:=sp) (s:=r.2) (da:=da) (dp:=dp) (vf:=.slice fa its.length fp) (at_:=at_) q.name y.fr y.to (by omega)
     repeat' (first|(refine L6 (d:=35) ?_ (hr:=hrow);intro bt ot hpt;rw[show ((k:Int).toNat *6)=k *6 from rfl,hc2] at hpt)|(refine F5 (d:=37) ?_ hm (hc:=hcl I1 hle1 hC1 _ _ _ hpt);clear hm;rintro _ I2 _ _ ⟨rfl,sa2,sp2,da2,dp2,rfl⟩ hle hm;have hleI2:=hle;try simp only[F7] at hm;have hCf2:=hCf1.le hleI2;have hp2:=hp1.le hleI2)|(refine Q7 (d:=39) (hc:=by exact A4K _ _ hl1 hun _) (k:=?_);rintro _ _ ⟨rfl,rfl⟩)|(refine L6 (d:=52) ?_ (hr:=hri1.le hleI2);intro bu ou hpu;rw[show ((j:Int).toNat *10)=j *10 from rfl,hci] at hpu)|(refine L6 (d:=68) ?_ (hr:=hri1.le hleI2);intro bv ov hpv;rw[show ((j:Int).toNat *10)=j *10 from rfl,hci] at hpv)|(refine P5 (d:=72) (enc:=A2a) (z:=q) ?_ (hr:=hpars.le hleI2) (he:=fun _=>rfl) (hz:=by exact hgp);intro bz oz hpz)|(refine Q7 (d:=75) (hc:=by exact hF _) (k:=?_);rintro _ _ ⟨rfl,rfl⟩)|(refine Q5 (id:=7) 32 (h:=?_))|(refine A4R (d:=84) ?_ (hr:=hrow.le hleI2);intro bt3 ot3 hpt3;rw[show ((k:Int).toNat *6)=k *6 from rfl,hc2] at hpt3)|(refine A4R (d:=92) ?_ (hr:=hrow.le hleI2);intro bt4 ot4 hpt4;rw[show ((k:Int).toNat *6)=k *6 from rfl,hc2] at hpt4)|(refine A4R (d:=103) ?_ (hr:=hri1.le hleI2);intro bv3 ov3 hpv3;rw[show ((j:Int).toNat *10)=j *10 from rfl,hci] at hpv3)|(refine A0n (d:=107) (enc:=A2a) (z:=q) ?_ (hr:=hpars.le hleI2) (he:=fun _=>rfl) (hz:=by exact hgp);intro bz3 oz3 hpz3)|(refine F5 (d:=110) ?_ hm (hc:=hT I2 sa2 sp2 da2 dp2);clear hm;rintro _ I3 _ _ ⟨rfl,sa3,sp3,da3,dp3,rfl⟩ hle hm;have hleI3:=hle;try simp only[F7] at hm)|refine H6 ?_ hm|refine H9 ?_ hm|refine P8 ?_ hm|refine X8 ?_ hm|refine D7 ?_|refine D5 ?_|refine J8 ?_|refine J5 ?_|refine A0i ?_|refine G7 ?_|refine U9 ?_|refine E8 ?_|refine Q4 ?_|refine C9 ?_|(refine O0 (h1:=fun _=>?_) (h0:=fun _=>?_)<;>(try first|contradiction|(exfalso;omega)))|refine D8 ?_|refine A7 ?_|refine D9 ?_|refine E5 ?_|refine A8 ?_|refine E9 ?_|refine F8 ?_|(refine V4 ?_;intro _ hkq;replace hm:=hm.kept0 hkq;clear hkq)|refine F9 ?_|(refine D6 (ht:=fun _=>?_) (hf:=fun _=>?_)<;>(try first|contradiction|(exfalso;omega)))|refine U3 ?_|refine J4 ?_|refine H7 ?_)
     all_goals try omega
     exact J9 (⟨k+1,I3,sa3,sp3,da3,dp3⟩:FX) (by exact⟨rfl,rfl,rfl,rfl,rfl,rfl,trivial⟩) ⟨by dsimp only;rw[hst];exact hm,(hle1.trans hleI2).trans hleI3,by dsimp only;omega⟩ (by dsimp only;omega)
   ·rw[List.getElem?_eq_none (by omega)] at hst
    dsimp only at hst
    repeat' (first|(refine L6 (d:=35) ?_ (hr:=hrow);intro bt ot hpt;rw[show ((k:Int).toNat *6)=k *6 from rfl,hc2] at hpt)|(refine F5 (d:=37) ?_ hm (hc:=hcl I1 hle1 hC1 _ _ _ hpt);clear hm;rintro _ I2 _ _ ⟨rfl,sa2,sp2,da2,dp2,rfl⟩ hle hm;have hleI2:=hle;try simp only[F7] at hm;have hCf2:=hCf1.le hleI2;have hp2:=hp1.le hleI2)|(refine Q7 (d:=39) (hc:=by exact A4K _ _ hl1 hun _) (k:=?_);rintro _ _ ⟨rfl,rfl⟩)|(refine L6 (d:=52) ?_ (hr:=hri1.le hleI2);intro bu ou hpu;rw[show ((j:Int).toNat *10)=j *10 from rfl,hci] at hpu)|refine H6 ?_ hm|refine H9 ?_ hm|refine D7 ?_|refine D5 ?_|refine J8 ?_|refine J3 ?_|refine J5 ?_|refine A0i ?_|refine G7 ?_|refine E8 ?_|refine Q4 ?_|refine C9 ?_|refine Y1 ?_|(refine O0 (h1:=fun _=>?_) (h0:=fun _=>?_)<;>(try first|contradiction|(exfalso;omega)))|refine D8 ?_|refine A7 ?_|refine D9 ?_|refine E5 ?_|refine A8 ?_|refine E9 ?_|refine F8 ?_|refine F6 ?_|(refine D6 (ht:=fun _=>?_) (hf:=fun _=>?_)<;>(try first|contradiction|(exfalso;omega))))
    all_goals try omega
    exact J9 (⟨k+1,I2,sa2,sp2,da2,dp2⟩:FX) (by exact⟨rfl,rfl,rfl,rfl,rfl,rfl,trivial⟩) ⟨by dsimp only;rw[hst];exact hm,hle1.trans hleI2,by dsimp only;omega⟩ (by dsimp only;omega)
 ·obtain rfl:k=e.args.length:=by omega
  have hnn:=Sp.A6w its at_ sc un e.name e.args 0 s
  rw[List.take_length] at hm
  generalize Sp.argsF its at_ sc un e.name e.args 0 s=s1 at hm hnn ⊢
  cases hf:Sp.Q8 its 2 e.name with
  |none=>
   rw[Sp.A3C hf] at hfv
   subst hfv
   rw[Sp.askFloor,Sp.callLab,hf]
   repeat' (first|refine D7 ?_|refine D5 ?_|refine J5 ?_|refine D8 ?_|refine A7 ?_|refine G5 ?_|refine G9 ?_|refine G6 ?_|refine E5 ?_|refine A8 ?_|refine O4 ?_|refine G8 ?_|refine H5 ?_|refine F9 ?_|(refine D6 (ht:=fun _=>?_) (hf:=fun _=>?_)<;>(try first|contradiction|(exfalso;omega))))
   all_goals try omega
   exact⟨I1,_,⟨rfl,_,_,_,_,rfl⟩,hm⟩
  |some j=>
   rw[Sp.A3D hf] at hfv
   subst hfv
   rw[Sp.askFloor,Sp.callLab,hf]
   dsimp only
   obtain⟨hj,_,_,_,hmemj⟩:=Sp.Y8 hf
   obtain⟨ci,hci,hat,hlc⟩:=hC1.fe.get (Sp.A0K hj)
   obtain⟨pa,pc,sa9,sc9,ba,bc9,da9,dc9,xb,rfl,_⟩:=hat
   have hfg:(Sp.A2y its)[j]?=some (Sp.A2z its (Sp.N9 its j).sends):=by rw[Sp.A2y,List.getElem?_map,Sp.A0K hj];rfl
   have hml:=Sp.B2g its (Sp.N9 its j).sends
   have hfl1:=hfl.le hle1
   have hF:=fun w=>A6z un (Sp.A2z its (Sp.N9 its j).sends) hun hml w
   rw[Sp.FW.ask]
   cases hb:Sp.S9 un (Sp.A2z its (Sp.N9 its j).sends) with
   |true=>
    rw[hb] at hF
    rw[if_pos rfl]
    repeat' (first|(refine P5 (d:=120) (enc:=A1q) (z:=Sp.A2z its (Sp.N9 its j).sends) ?_ (hr:=hfl1) (he:=fun _=>rfl) (hz:=by exact hfg);intro bz oz hpz)|(refine Q7 (d:=122) (hc:=by exact hF _) (k:=?_);rintro _ _ ⟨rfl,rfl⟩)|(refine L6 (d:=146) ?_ (hr:=hri1);intro bu ou hpu;rw[show ((j:Int).toNat *10)=j *10 from rfl,hci] at hpu)|refine H6 ?_ hm|refine H9 ?_ hm|refine A1s ?_ hm|refine D7 ?_|refine D5 ?_|refine J5 ?_|refine U9 ?_|refine E8 ?_|refine C9 ?_|refine D8 ?_|refine A7 ?_|refine G9 ?_|refine G6 ?_|refine E5 ?_|refine A8 ?_|refine F8 ?_|refine O4 ?_|refine G8 ?_|refine H5 ?_|refine F6 ?_|(refine D6 (ht:=fun _=>?_) (hf:=fun _=>?_)<;>(try first|contradiction|(exfalso;omega))))
    all_goals try omega
    exact⟨I1,_,⟨rfl,_,_,_,_,rfl⟩,hm⟩
   |false=>
    rw[hb] at hF
    rw[if_neg Bool.false_ne_true]
    have hT:=fun (J:O5)=>B3h (I:=J) (bc:=bc) (bf:=bf) (pi:=pi) (sc:=sc) (sa:=sa1) (sp:=sp1) (s:=s1) (da:=da1) (dp:=dp1) (vf:=.slice fa its.length fp) (at_:=at_) e.name e.fr e.to (by omega)
    repeat' (first|(refine P5 (d:=120) (enc:=A1q) (z:=Sp.A2z its (Sp.N9 its j).sends) ?_ (hr:=hfl1) (he:=fun _=>rfl) (hz:=by exact hfg);intro bz oz hpz)|(refine Q7 (d:=122) (hc:=by exact hF _) (k:=?_);rintro _ _ ⟨rfl,rfl⟩)|(refine Q5 (id:=12) 13 (h:=?_))|(refine F5 (d:=137) ?_ hm (hc:=hT I1);clear hm;rintro _ I3 _ _ ⟨rfl,sa3,sp3,da3,dp3,rfl⟩ hle hm;have hleI3:=hle;try simp only[F7] at hm;have hCf3:=hCf1.le hleI3)|(refine L6 (d:=146) ?_ (hr:=hri1.le hleI3);intro bu ou hpu;rw[show ((j:Int).toNat *10)=j *10 from rfl,hci] at hpu)|refine H6 ?_ hm|refine H9 ?_ hm|refine A1s ?_ hm|refine X8 ?_ hm|refine D7 ?_|refine D5 ?_|refine J5 ?_|refine U9 ?_|refine E8 ?_|refine C9 ?_|refine D8 ?_|refine A7 ?_|refine G9 ?_|refine G6 ?_|refine E5 ?_|refine A8 ?_|refine F8 ?_|refine O4 ?_|refine G8 ?_|refine H5 ?_|(refine V4 ?_;intro _ hkq;replace hm:=hm.kept0 hkq;clear hkq)|refine F9 ?_|refine F6 ?_|(refine D6 (ht:=fun _=>?_) (hf:=fun _=>?_)<;>(try first|contradiction|(exfalso;omega)))|refine U3 ?_|refine J4 ?_|refine H7 ?_)
    all_goals try omega
    exact⟨I3,_,⟨rfl,_,_,_,_,rfl⟩,hm⟩
end
section
variable {its:List Sp.Itm}{it:Sp.Itm}{bc bf:Nat}{a:Option Addr}{cp:Nat}{xs:List Value}{pi vf:Value}{sc:List Sp.Lc}{at_:Int}{un:Nat}
theorem B9V (hun:un<256) (hsc:sc.length≤1099511627776) (hsl:Sp.A2D sc):∀(n:Nat) (e:Sp.Ex),SizeOf.sizeOf e≤n→e.small→B58 its it bc bf a cp xs pi vf sc at_ un e:=by
 intro n
 induction n with
 |zero=>intro e h;cases e;simp at h
 |succ n ih=>
 intro e hsz hsm I b o tc ea ec ys s sa sp da dp hn hC hp hr hx
 obtain⟨hal,hasm⟩:=Sp.A2q hsm
 have hcnt:=Sp.Ex.cnt_eq e
 refine CalM.of fun w E hm=>enter (N:=86) func174 rfl [(0,ptr bc),(1,.pointer (some ⟨b,o,none⟩)),(2,nt un)] A3h rfl ?_
 have hcore:=Sp.B6v its at_ sc un e s
 rw[Sp.B3a]
 have hlt:=Sp.A7i hC.lab at_ hsl un e s
 rw[Sp.B3a] at hlt
 dsimp only at hlt ⊢
 have hcr:Sp.A7R its at_ sc un e s=if e.kind=2 then (Sp.A3E sc e.name,s) else if e.kind=3 then Sp.opsF its at_ sc un e.args 0 s else
  if e.kind=4 then (Sp.callLab its e.name,Sp.askFloor its un e.name e.fr e.to (Sp.argsF its at_ sc un e.name e.args 0 s)) else (0,s):=rfl
 generalize Sp.A7R its at_ sc un e s=r at hcr hcore hlt ⊢
 repeat' (first|(refine A79 2 (fun _:FX=> [(0,ptr bc),(1,.pointer (some ⟨b,o,none⟩)),(2,nt un),(7,nt r.1)]) (fun x w'=>Mem E x.I (FSt bc bf pi sc x.sa x.sp r.2 x.da x.dp vf at_) w'∧Le I x.I) ?_ ?_)|refine D5 ?_|refine D8 ?_|refine A7 ?_|refine E5 ?_|refine A8 ?_)
 ·refine⟨?_⟩
  by_cases k2:e.kind=2
  ·rw[if_pos k2] at hcr
   subst hcr
   have hg:=CalR.flow (I:=I) (bc:=bc) (bf:=bf) (pi:=pi) (sc:=sc) (sa:=sa) (sp:=sp) (s:=s) (da:=da) (dp:=dp) (vf:=vf) (at_:=at_) (fun J m h=>B3g e.name hsc h)
   repeat' (first|(refine L9 (d:=20) ?_ hm (hs:=B38) (hc:=by exact hg);clear hm;intro _ hm)|refine H9 ?_ hm|refine D7 ?_|refine D5 ?_|refine L8 ?_|refine E8 ?_|refine C9 ?_|refine D8 ?_|refine A7 ?_|refine D9 ?_|refine E5 ?_|refine A8 ?_|refine E9 ?_|(refine D6 (ht:=fun _=>?_) (hf:=fun _=>?_)<;>(try first|contradiction|(exfalso;omega))))
   all_goals try omega
   exact Y6 (⟨0,I,sa,sp,da,dp⟩:FX) (by exact⟨rfl,rfl,rfl,rfl,trivial⟩) ⟨hm,Le.refl _⟩
  rw[if_neg k2] at hcr
  by_cases k3:e.kind=3
  ·rw[if_pos k3] at hcr
   repeat' (first|refine H9 ?_ hm|refine D7 ?_|refine D5 ?_|refine L8 ?_|refine G7 ?_|refine E8 ?_|refine C9 ?_|refine D8 ?_|refine A7 ?_|refine E5 ?_|refine A8 ?_|refine E9 ?_|(refine D6 (ht:=fun _=>?_) (hf:=fun _=>?_)<;>(try first|contradiction|(exfalso;omega))))
   all_goals try omega
   refine U4 (fun x:FX=> [(0,ptr bc),(1,.pointer (some ⟨b,o,none⟩)),(2,nt un),(7,nt (Sp.opsF its at_ sc un (e.args.take x.k) 0 s).1),(27,nt e.args.length),(28,nt x.k)])
    (fun x w'=>Mem E x.I (FSt bc bf pi sc x.sa x.sp (Sp.opsF its at_ sc un (e.args.take x.k) 0 s).2 x.da x.dp vf at_) w'∧Le I x.I∧x.k≤e.args.length) (fun x=>e.args.length-x.k) ⟨0,I,sa,sp,da,dp⟩
    (by exact⟨rfl,rfl,rfl,by rw[List.take_zero,Sp.opsF];rfl,rfl,rfl,trivial⟩) ⟨by dsimp only;rw[List.take_zero,Sp.opsF];exact hm,Le.refl _,Nat.zero_le _⟩ ?_
   clear hm
   rintro⟨k,I1,sa1,sp1,da1,dp1⟩ w1 ⟨hm,hle1,hk⟩
   dsimp only at hm hle1 hk ⊢
   have hC1:=hC.le hle1
   have hp1:=hp.le hle1
   have hrow:=hr.le hle1
   by_cases hlt:k<e.args.length
   ·have hg:e.args[k]?=some e.args[k]:=List.getElem?_eq_getElem hlt
    have hsz2:=Sp.A12 (List.getElem_mem hlt)
    have hsm2:=Sp.A0G hasm hg
    obtain⟨ea2,ec2,ys2,hc2,hr2,hx2⟩:=(hx.get hg).out
    generalize e.args[k]=y at hg hsz2 hsm2 hc2 hr2 hx2
    have hst:=Sp.B5J its at_ sc un hg 0 s
    have hcy:=Sp.A3B hg
    have hnn:=Sp.B0R its at_ sc un (e.args.take k) 0 s
    have hl1:=Sp.B0Q hC.lab at_ hsl un (e.args.take k) 0 s (by omega)
    generalize Sp.opsF its at_ sc un (e.args.take k) 0 s=q at hm hst hnn hl1 ⊢
    have hcl:=ih y (by omega) hsm2
    have hl2:=Sp.A7i hC.lab at_ hsl un y q.2
    have hcl2:=fun b o tc (hpt:PtrI I1 b o tc (A0d y ea2 ec2))=>hcl I1 b o tc ea2 ec2 ys2 q.2 sa1 sp1 da1 dp1 (by omega) hC1 hpt (hr2.le hle1) (V5.le hle1 _ _ hx2)
    generalize Sp.exF its at_ sc un y q.2=p at hcl2 hst hl2
    repeat' (first|(refine L6 (d:=38) ?_ (hr:=hrow);intro bt ot hpt;rw[show ((k:Int).toNat *6)=k *6 from rfl,hc2] at hpt)|(refine F5 (d:=40) ?_ hm (hc:=hcl2 _ _ _ hpt);clear hm;rintro _ I2 _ _ ⟨rfl,sa2,sp2,da2,dp2,rfl⟩ hle hm;have hleI2:=hle;try simp only[F7] at hm)|(refine Q7 (d:=41) (hc:=by exact A4K _ _ hl1 hl2 _) (k:=?_);rintro _ _ ⟨rfl,rfl⟩)|refine H9 ?_ hm|refine D7 ?_|refine D5 ?_|refine J5 ?_|refine E8 ?_|refine Q4 ?_|refine C9 ?_|refine D8 ?_|refine A7 ?_|refine D9 ?_|refine E5 ?_|refine A8 ?_|refine E9 ?_|refine F8 ?_|(refine D6 (ht:=fun _=>?_) (hf:=fun _=>?_)<;>(try first|contradiction|(exfalso;omega))))
    all_goals try omega
    exact J9 (⟨k+1,I2,sa2,sp2,da2,dp2⟩:FX) (by exact⟨rfl,rfl,rfl,by rw[hst];rfl,rfl,rfl,trivial⟩) ⟨by dsimp only;rw[hst];exact hm,hle1.trans hleI2,by dsimp only;omega⟩ (by dsimp only;omega)
   ·obtain rfl:k=e.args.length:=by omega
    rw[List.take_length, ←hcr] at hm
    rw[List.take_length, ←hcr]
    repeat' (first|refine J5 ?_|refine D8 ?_|refine A7 ?_|refine G9 ?_|refine D9 ?_|refine G6 ?_|refine E5 ?_|refine A8 ?_|refine O4 ?_|(refine D6 (ht:=fun _=>?_) (hf:=fun _=>?_)<;>(try first|contradiction|(exfalso;omega))))
    all_goals try omega
    exact Y6 (⟨0,I1,sa1,sp1,da1,dp1⟩:FX) (by exact⟨rfl,rfl,rfl,rfl,trivial⟩) ⟨hm,hle1⟩
  rw[if_neg k3] at hcr
  by_cases k4:e.kind=4
  ·rw[if_pos k4] at hcr
   subst hcr
   have hc:=B9U (at_:=at_) hun hsc hsl e hsm (fun y hy=>ih y (by have:=Sp.A12 hy;omega) (by obtain⟨j,hj,rfl⟩:=List.getElem_of_mem hy;exact Sp.A0G hasm (List.getElem?_eq_getElem hj))) I b o tc ea ec ys s sa sp da dp hn hC hp hr hx
   repeat' (first|(refine F5 (d:=48) ?_ hm (hc:=hc);clear hm;rintro _ I2 _ _ ⟨rfl,sa2,sp2,da2,dp2,rfl⟩ hle hm;have hleI2:=hle;try simp only[F7] at hm)|refine H9 ?_ hm|refine D7 ?_|refine D5 ?_|refine L8 ?_|refine E8 ?_|refine C9 ?_|refine D8 ?_|refine A7 ?_|refine D9 ?_|refine E5 ?_|refine A8 ?_|refine E9 ?_|(refine D6 (ht:=fun _=>?_) (hf:=fun _=>?_)<;>(try first|contradiction|(exfalso;omega))))
   all_goals try omega
   exact Y6 (⟨0,I2,sa2,sp2,da2,dp2⟩:FX) (by exact⟨rfl,rfl,rfl,rfl,trivial⟩) ⟨hm,hleI2⟩
  ·rw[if_neg k4] at hcr
   subst hcr
   repeat' (first|refine H9 ?_ hm|refine D7 ?_|refine D5 ?_|refine L8 ?_|refine E8 ?_|refine C9 ?_|refine D8 ?_|refine A7 ?_|refine D9 ?_|refine E5 ?_|refine A8 ?_|refine E9 ?_|refine F8 ?_|(refine D6 (ht:=fun _=>?_) (hf:=fun _=>?_)<;>(try first|contradiction|(exfalso;omega))))
   all_goals try omega
   exact Y6 (⟨0,I,sa,sp,da,dp⟩:FX) (by exact⟨rfl,rfl,rfl,rfl,trivial⟩) ⟨hm,Le.refl _⟩
 ·clear hm
  rintro⟨_,I1,sa1,sp1,da1,dp1⟩ w1 ⟨hm,hle1⟩
  dsimp only at hm hle1 ⊢
  have hp1:=hp.le hle1
  clear hcr hp hr hx
  cases hv:r.2.hv with
  |some m=>
   rw[Sp.B60 hv]
   have e1:r.2=⟨r.2.ds,some m⟩:=by rw[←hv]
   rw[e1] at hm ⊢
   repeat' (first|refine P8 ?_ hm|refine D7 ?_|refine D5 ?_|refine D8 ?_|refine A7 ?_|refine E5 ?_|refine A8 ?_|refine F8 ?_|refine G8 ?_|refine H5 ?_|refine O6 ?_|(refine W9 ?_;intro _ hkq;replace hm:=hm.kept0 hkq;clear hkq)|refine F6 ?_|refine U3 ?_|refine A0p ?_|refine B7H ?_|refine J4 ?_|refine H7 ?_|refine A2k ?_)
   all_goals try omega
   exact⟨I1,_,⟨rfl,_,_,_,_,rfl⟩,hm⟩
  |none=>
   have e1:r.2=⟨r.2.ds,none⟩:=by rw[←hv]
   by_cases hh:(e.fr:Int)≤at_∧at_<e.to
   ·rw[Sp.B8y hv hh.1 hh.2]
    rw[e1] at hm
    repeat' (first|(refine Q7 (d:=80) (hc:=by exact A4K _ _ hlt hun _) (k:=?_);rintro _ _ ⟨rfl,rfl⟩)|refine P8 ?_ hm|refine X8 ?_ hm|(refine J6 hm (k:=?_);clear hm;intro _ hm;try simp only[F7] at hm)|refine D7 ?_|refine D5 ?_|refine E8 ?_|refine C9 ?_|refine D8 ?_|refine A7 ?_|refine E5 ?_|refine A8 ?_|refine G8 ?_|refine H5 ?_|refine O6 ?_|(refine W9 ?_;intro _ hkq;replace hm:=hm.kept0 hkq;clear hkq)|(refine D6 (ht:=fun _=>?_) (hf:=fun _=>?_)<;>(try first|contradiction|(exfalso;omega)))|refine U3 ?_|refine V8 ?_|refine A03 ?_|refine B9y ?_|refine B7H ?_|refine J4 ?_|refine H7 ?_|(refine U6 (fun _=>?_) (h1:=fun _=>?_)<;>(try first|contradiction|(exfalso;omega))))
    all_goals try omega
    exact⟨I1,_,⟨rfl,_,_,_,_,rfl⟩,hm⟩
   ·rw[Sp.B8x hh]
    rw[e1] at hm ⊢
    repeat' (first|refine P8 ?_ hm|refine X8 ?_ hm|refine D7 ?_|refine D5 ?_|refine D8 ?_|refine A7 ?_|refine E5 ?_|refine A8 ?_|refine F8 ?_|refine G8 ?_|refine H5 ?_|refine O6 ?_|(refine W9 ?_;intro _ hkq;replace hm:=hm.kept0 hkq;clear hkq)|refine F6 ?_|(refine D6 (ht:=fun _=>?_) (hf:=fun _=>?_)<;>(try first|contradiction|(exfalso;omega)))|refine U3 ?_|refine V8 ?_|refine A0p ?_|refine A03 ?_|refine B9y ?_|refine B7H ?_|refine J4 ?_|refine H7 ?_|refine A2k ?_|(refine U6 (fun _=>?_) (h1:=fun _=>?_)<;>(try first|contradiction|(exfalso;omega))))
    all_goals try omega
    all_goals exact⟨I1,_,⟨rfl,_,_,_,_,rfl⟩,hm⟩
end
end Go.Proofs.YtfjdfdgpkncpfaaGreatDoor
end
section
namespace Go.Sp
def B0w (its:List Itm) (own:Nat) (at_:Int) (x:Stm) (sc:List Lc) (a:Nat) (s:FW):List Lc×FW:=
 if x.kind=1 then (sc++ [⟨x.name,if x.opn=true then a else x.label⟩],s.ask a (if x.opn=true then a else x.label) x.fr x.to x.name) else
 if x.kind=2 then (sc,s.ask a (A3E sc x.name) x.fr x.to x.name) else
 if x.kind=5 then (sc,askCh its a x.name x.fr x.to s) else
 if x.kind=6 then (sc,s.ask a own x.fr x.to x.name) else
 if x.kind=3∨x.kind=4 then (sc,(stmsF its own at_ x.els sc a (stmsF its own at_ x.thn sc a s).2).2) else (sc,s)
theorem B89 (its:List Itm) (own:Nat) (at_:Int) (x:Stm) (sc:List Lc) (un:Nat) (s:FW):
  stmF its own at_ x sc un s=B0w its own at_ x sc ((exF its at_ sc (unF its sc x.kind un x.e) x.e s).1|||unF its sc x.kind un x.e) (exF its at_ sc (unF its sc x.kind un x.e) x.e s).2:=by
 cases x;rw[stmF,B0w];rfl
theorem B0l {its:List Itm} (h:A3G its) (own:Nat) (at_:Int):∀(l:List Stm) {sc:List Lc},A2D sc→∀ {un:Nat},un<256→P6 B6i B66 l→∀(s:FW),A2D (stmsF its own at_ l sc un s).1
 | [],sc,hs,un,hu,_,s=>by rw[stmsF];exact hs
 |x::l,sc,hs,un,hu,hx,s=>by
  rw[P6] at hx
  rw[stmsF]
  exact B0l h own at_ l (B7V h own at_ x hs hu (Stm.all_node hx.1).1 s) hu hx.2 _
end Go.Sp
namespace Go.Proofs.YtfjdfdgpkncpfaaGreatDoor
open Go.Proofs.Tryz
open Go.Fw
section
variable (its:List Sp.Itm) (it:Sp.Itm) (bc bf:Nat) (a:Option Addr) (cp:Nat) (xs:List Value) (pi vf:Value) (at_:Int)
def B9n (x:Sp.Stm):Prop:=
 ∀(I:O5) (b o tc:Nat) (cs:List Value) (un:Nat) (sc:List Sp.Lc) (s:Sp.FW) (sa:Option Addr) (sp:Nat) (da:Option Addr) (dp:Nat),un<256→Sp.A2D sc→sc.length+x.cnt≤1000000000→s.ds.length+2 *x.cnt≤1000000000→FC I its it bf a cp xs pi vf→
  PtrI I b o tc cs→A29 I x cs→
  CalM prog 155 #[ptr bc,.pointer (some ⟨b,o,none⟩),nt un] I (FSt bc bf pi sc sa sp s da dp vf at_) (ToF bc bf pi vf at_ (Sp.stmF its it.label at_ x sc un s).1 (Sp.stmF its it.label at_ x sc un s).2 (.tuple #[]))
def B4c (l:List Sp.Stm):Prop:=
 ∀(I:O5) (ab:Option Addr) (cb:Nat) (xb:List Value) (un:Nat) (sc:List Sp.Lc) (s:Sp.FW) (sa:Option Addr) (sp:Nat) (da:Option Addr) (dp:Nat),un<256→Sp.A2D sc→sc.length+Sp.N7 l≤1000000000→s.ds.length+2 *Sp.N7 l≤1000000000→FC I its it bf a cp xs pi vf→
  RowI I 109 15 (.slice ab l.length cb) l.length xb→U8 I l xb→
  CalM prog 125 #[ptr bc,.slice ab l.length cb,nt un] I (FSt bc bf pi sc sa sp s da dp vf at_) (ToF bc bf pi vf at_ sc (Sp.stmsF its it.label at_ l sc un s).2 (.tuple #[]))
end
section
variable {its:List Sp.Itm}{it:Sp.Itm}{bc bf:Nat}{a:Option Addr}{cp:Nat}{xs:List Value}{pi vf:Value}{at_:Int}
theorem B8t (l:List Sp.Stm) (hl:l.length≤64) (hlab:Sp.P6 Sp.B6i Sp.B66 l) (hS:∀y∈l,B9n its it bc bf a cp xs pi vf at_ y):B4c its it bc bf a cp xs pi vf at_ l:=by
 intro I ab cb xb un sc s sa sp da dp hun hsl hn1 hn2 hC hr hx
 refine CalM.of fun w E hm=>enter (N:=34) func125 rfl [(0,ptr bc),(1,.slice ab l.length cb),(2,nt un)] A3h rfl ?_
 repeat' (first|refine H6 ?_ hm|refine D7 ?_|refine D5 ?_|refine G7 ?_|refine E8 ?_|refine C9 ?_|refine D8 ?_|refine A7 ?_|refine E5 ?_|refine A8 ?_|refine E9 ?_)
 refine U4 (fun x:FX=> [(0,ptr bc),(1,.slice ab l.length cb),(2,nt un),(6,nt sc.length),(14,nt l.length),(15,nt x.k)])
  (fun x w'=>Mem E x.I (FSt bc bf pi (Sp.stmsF its it.label at_ (l.take x.k) sc un s).1 x.sa x.sp (Sp.stmsF its it.label at_ (l.take x.k) sc un s).2 x.da x.dp vf at_) w'∧Le I x.I∧x.k≤l.length) (fun x=>l.length-x.k) ⟨0,I,sa,sp,da,dp⟩
  (by exact⟨rfl,rfl,rfl,rfl,rfl,rfl,trivial⟩) ⟨by dsimp only;rw[List.take_zero,Sp.stmsF];exact hm,Le.refl _,Nat.zero_le _⟩ ?_
 clear hm
 rintro⟨k,I1,sa1,sp1,da1,dp1⟩ w1 ⟨hm,hle1,hk⟩
 dsimp only at hm hle1 hk ⊢
 have hC1:=hC.le hle1
 have hrow:=hr.le hle1
 by_cases hlt:k<l.length
 ·have hg:l[k]?=some l[k]:=List.getElem?_eq_getElem hlt
  have hmem:=List.getElem_mem hlt
  obtain⟨cs,hcs⟩:∃cs,cs=(xb.drop (k *15)).take 15:=⟨_,rfl⟩
  have hat:=hx.get hg
  rw[←hcs] at hat
  have hSk:=hS _ hmem
  generalize l[k]=y at hg hmem hat hSk
  have hst:=Sp.B3W its it.label at_ hg sc un s
  have hcy:=Sp.A3e hg
  have hnn:=Sp.A2R its it.label at_ (l.take k) sc un s
  have hsl1:=Sp.B0l hC.lab it.label at_ (l.take k) hsl hun (Sp.A6X k hlab) s
  have htl:(l.take k).length=k:=by rw[List.length_take];omega
  generalize Sp.stmsF its it.label at_ (l.take k) sc un s=q at hm hst hnn hsl1
  have hkc:k≤Sp.N7 (l.take k):=by
   have key:∀(l:List Sp.Stm),l.length≤Sp.N7 l:=by
    intro l
    induction l with
    |nil=>simp
    |cons x l ih=>rw[Sp.N7,List.length_cons];have:=Sp.Stm.cnt_eq x;omega
   have:=key (l.take k)
   omega
  have hcl:=fun b o (hpt:PtrI I1 b o 109 cs)=>hSk I1 b o 109 cs un q.1 q.2 sa1 sp1 da1 dp1 hun hsl1 (by omega) (by omega) hC1 hpt (A29.le hle1 _ _ hat)
  generalize Sp.stmF its it.label at_ y q.1 un q.2=p at hcl hst
  repeat' (first|(refine L6 (d:=21) ?_ (hr:=hrow);intro bt ot hpt;rw[show ((k:Int).toNat *15)=k *15 from rfl, ←hcs] at hpt)|(refine F5 (d:=23) ?_ hm (hc:=hcl _ _ hpt);clear hm;rintro _ I2 _ _ ⟨rfl,sa2,sp2,da2,dp2,rfl⟩ hle hm;have hleI2:=hle;try simp only[F7] at hm)|refine D7 ?_|refine D5 ?_|refine J5 ?_|refine Q4 ?_|refine D8 ?_|refine A7 ?_|refine D9 ?_|refine E5 ?_|refine A8 ?_|refine E9 ?_|refine F8 ?_|(refine D6 (ht:=fun _=>?_) (hf:=fun _=>?_)<;>(try first|contradiction|(exfalso;omega))))
  all_goals try omega
  exact J9 (⟨k+1,I2,sa2,sp2,da2,dp2⟩:FX) (by exact⟨rfl,rfl,rfl,rfl,rfl,rfl,trivial⟩) ⟨by dsimp only;rw[hst];exact hm,hle1.trans hleI2,by dsimp only;omega⟩ (by dsimp only;omega)
 ·obtain rfl:k=l.length:=by omega
  have hback:=Sp.B3V its it.label at_ l sc un s
  have hpl:=(Sp.A2R its it.label at_ l sc un s).2.2.1
  rw[List.take_length] at hm
  generalize Sp.stmsF its it.label at_ l sc un s=q at hm hback hpl ⊢
  repeat' (first|(refine A7x (d:=31) ?_ hm (hmn:=hpl);clear hm;intro hm;try simp only[F7] at hm)|refine H6 ?_ hm|(refine J6 hm (k:=?_);clear hm;intro _ hm;try simp only[F7] at hm)|refine D7 ?_|refine J5 ?_|refine E8 ?_|refine C9 ?_|refine D8 ?_|refine A7 ?_|refine G9 ?_|refine G6 ?_|refine E5 ?_|refine A8 ?_|refine O4 ?_|refine X3 ?_|(refine D6 (ht:=fun _=>?_) (hf:=fun _=>?_)<;>(try first|contradiction|(exfalso;omega))))
  all_goals try omega
  refine⟨I1,_,⟨rfl,sa1,sp1,da1,dp1,?_⟩,hm⟩
  have e:(q.1.flatMap A5b).take (sc.length *2)=sc.flatMap A5b:=by
   have key:∀(l:List Sp.Lc) (n:Nat),(l.flatMap A5b).take (n *2)=(l.take n).flatMap A5b:=by
    intro l
    induction l with
    |nil=>intro n;simp
    |cons x l ih=>
     intro n
     cases n with
     |zero=>simp
     |succ n=>
      rw[List.flatMap_cons,List.take_succ_cons,List.flatMap_cons,show (n+1) *2=2+n *2 by omega,List.take_append,List.take_of_length_le (by show 2≤2+n *2;omega),show 2+n *2-(A5b x).length=n *2 by (show 2+n *2-2=n *2;omega),ih]
   rw[key,hback]
  rw[e]
end
theorem A8x (bc bf:Nat) (pi:Value) (sc:List Sp.Lc) (sa:Option Addr) (sp:Nat) (s:Sp.FW) (n:List UInt8) (x:Nat) (da:Option Addr) (dp:Nat) (vf:Value) (at_:Int):
  [.obj bc (.cells [ptr bf,pi,.slice sa (sc.length+1) sp,.slice da s.ds.length dp,vf,.int .i64 at_,.bool s.hv.isSome,nt (s.hv.getD 0)].toArray 190 (0,0)),.row (.slice sa (sc.length+1) sp) 219 2 (sc.length+1) (sc.flatMap A5b++A5b ⟨n,x⟩),A15 s.ds da dp]=FSt bc bf pi (sc++ [⟨n,x⟩]) sa sp s da dp vf at_:=by
 simp[List.flatMap_append]
section
variable {its:List Sp.Itm}{it:Sp.Itm}{bc bf:Nat}{a:Option Addr}{cp:Nat}{xs:List Value}{pi vf:Value}{at_:Int}
theorem B9W (x:Sp.Stm) (hsm:x.small) (hlb:x.label<256) (hT:B4c its it bc bf a cp xs pi vf at_ x.thn) (hL:B4c its it bc bf a cp xs pi vf at_ x.els):B9n its it bc bf a cp xs pi vf at_ x:=by
 intro I b o tc cs un sc s sa sp da dp hun hsl hn1 hn2 hC hp hx
 obtain⟨s1,s2,s3,s4,s5⟩:=Sp.A1h hsm
 have hcnt:=Sp.Stm.cnt_eq x
 refine CalM.of fun w E hm=>enter (N:=136) func155 rfl [(0,ptr bc),(1,.pointer (some ⟨b,o,none⟩)),(2,nt un)] A3h rfl ?_
 obtain⟨ea,ec,ex,a1,c1,xs1,a2,c2,xs2,rfl,hr3,hx3,hr4,hx4,hr5,hx5⟩:=hx.out
 have hpe:=hp.sub (cs':=A0d x.e ea ec) 5 (fun j u hj=>by
  match j,hj with
  |0,hj=>exact hj
  |1,hj=>exact hj
  |2,hj=>exact hj
  |3,hj=>exact hj
  |4,hj=>exact hj
  |5,hj=>exact hj
  |j+6,hj=>cases hj)
 rw[Sp.B89]
 have hu1:=Sp.B70 hC.lab hsl x.kind hun x.e
 have hur:Sp.unF its sc x.kind un x.e=if x.kind=4 then Sp.plainF its sc x.e|||un else un:=rfl
 generalize Sp.unF its sc x.kind un x.e=un1 at hu1 hur ⊢
 repeat' (first|(refine A79 0 (fun _:FX=> [(0,ptr bc),(1,.pointer (some ⟨b,o,none⟩)),(2,nt un1)]) (fun x w'=>Mem E I (FSt bc bf pi sc sa sp s da dp vf at_) w') ?_ ?_))
 ·refine⟨?_⟩
  by_cases k4:x.kind=4
  ·rw[if_pos k4] at hur
   subst hur
   have hpl:=Sp.A5P hC.lab hsl x.e
   have hg:=CalR.flow (I:=I) (bc:=bc) (bf:=bf) (pi:=pi) (sc:=sc) (sa:=sa) (sp:=sp) (s:=s) (da:=da) (dp:=dp) (vf:=vf) (at_:=at_) (fun J m h=>B6O (by omega) hsl _ x.e (Nat.le_refl _) s1 J b (o+5) tc ea ec ex h (hC.le m) (hpe.le m) (hr3.le m) (V5.le m _ _ hx3))
   repeat' (first|(refine L9 (d:=18) ?_ hm (hs:=B38) (hc:=by exact hg);clear hm;intro _ hm)|(refine Q7 (d:=20) (hc:=by exact A4K _ _ hpl hun _) (k:=?_);rintro _ _ ⟨rfl,rfl⟩)|refine H9 ?_ hm|refine D7 ?_|refine D5 ?_|refine L8 ?_|refine E8 ?_|refine C9 ?_|refine D8 ?_|refine A7 ?_|refine E5 ?_|refine A8 ?_|(refine D6 (ht:=fun _=>?_) (hf:=fun _=>?_)<;>(try first|contradiction|(exfalso;omega))))
   all_goals try omega
   exact Y6 (⟨0,I,sa,sp,da,dp⟩:FX) (by exact⟨rfl,rfl,rfl,trivial⟩) hm
  ·rw[if_neg k4] at hur
   subst hur
   repeat' (first|refine H9 ?_ hm|refine D7 ?_|refine L8 ?_|refine E8 ?_|refine C9 ?_|refine D8 ?_|refine A7 ?_|refine E5 ?_|refine A8 ?_|refine F8 ?_|(refine D6 (ht:=fun _=>?_) (hf:=fun _=>?_)<;>(try first|contradiction|(exfalso;omega))))
   all_goals try omega
   exact Y6 (⟨0,I,sa,sp,da,dp⟩:FX) (by exact⟨rfl,rfl,rfl,trivial⟩) hm
 clear hm hur
 rintro⟨_,_,_,_,_,_⟩ w1 hm
 try dsimp only at hm ⊢
 have hE:=B9V (its:=its) (it:=it) (bc:=bc) (bf:=bf) (a:=a) (cp:=cp) (xs:=xs) (pi:=pi) (vf:=vf) (at_:=at_) hu1 (by omega) hsl _ x.e (Nat.le_refl _) s1 I b (o+5) tc ea ec ex s sa sp da dp (by omega) hC hpe hr3 hx3
 have hl1:=Sp.A7i hC.lab at_ hsl un1 x.e s
 have hnx:=Sp.A8Q its at_ sc un1 x.e s
 generalize Sp.exF its at_ sc un1 x.e s=r at hE hl1 hnx ⊢
 have hl2:=Sp.B0a hl1 hu1
 obtain⟨av,hav⟩:∃av,av=r.1|||un1:=⟨_,rfl⟩
 rw[←hav] at hl2 ⊢
 have hJ:=A4K r.1 un1 hl1 hu1
 rw[←hav] at hJ
 have hto:=fun (J:O5) (m:Le I J) (c:Nat) (hc:c<256) (sa:Option Addr) (sp:Nat) (da:Option Addr) (dp:Nat)=>C1p (I:=J) (bc:=bc) (bf:=bf) (pi:=pi) (sc:=sc) (sa:=sa) (sp:=sp) (s:=r.2) (da:=da) (dp:=dp) (vf:=vf) (at_:=at_) x b o tc _ (hp.le m) (A29.le m _ _ hx) av c hl2 hc (by omega)
 rw[Sp.B0w]
 by_cases k1:x.kind=1
 ·rw[if_pos k1]
  cases ho:x.opn with
  |true=>
   rw[ho] at hp
   simp only[if_true]
   have hto1:=fun (J:O5) (m:Le I J) (sa:Option Addr) (sp:Nat) (da:Option Addr) (dp:Nat)=>hto J m av hl2 sa sp da dp
   generalize hs6:Sp.FW.ask r.2 av av x.fr x.to x.name=s6 at hto1 ⊢
   repeat' (first|(refine F5 (d:=26) ?_ hm (hc:=hE);clear hm;rintro _ I2 _ _ ⟨rfl,sa2,sp2,da2,dp2,rfl⟩ hle hm;have hleI2:=hle;try simp only[F7] at hm;have hp2:=hp.le hleI2)|(refine Q7 (d:=28) (hc:=by exact hJ _) (k:=?_);rintro _ _ ⟨rfl,rfl⟩)|(refine F5 (d:=48) ?_ hm (hc:=hto1 I2 hleI2 sa2 sp2 da2 dp2);clear hm;rintro _ I3 _ _ ⟨rfl,sa3,sp3,da3,dp3,rfl⟩ hle hm;have hleI3:=hle;try simp only[F7] at hm;have hp3:=hp2.le hleI3)|(refine Y0 (id:=9) (hm.perm pm1_1) 11 13 (h:=?_);clear hm;intro wd hR hm)|refine Y7 ?_ hR|refine A0C ?_ hR|(refine A1N (d:=61) ?_ hm;clear hm;intro a61 cp61 _ _ hm;replace hm:=hR.back hm;clear hR;try simp only[F7] at hm)|refine H9 ?_ hm|(refine J6 hm (k:=?_);clear hm;intro _ hm;try simp only[F7] at hm)|refine D7 ?_|refine D5 ?_|refine L8 ?_|refine E8 ?_|refine C9 ?_|refine D8 ?_|refine A7 ?_|refine D9 ?_|refine E5 ?_|refine A8 ?_|refine E9 ?_|refine X3 ?_|refine F9 ?_|(refine D6 (ht:=fun _=>?_) (hf:=fun _=>?_)<;>(try first|contradiction|(exfalso;omega)))|refine A0P ?_|refine X5 ?_|refine Q3 ?_|refine A3V ?_|refine A0s ?_)
   all_goals try omega
   exact⟨I3,_,⟨rfl,_,_,_,_,A8x _ _ _ _ _ _ _ _ _ _ _ _ _⟩,hm.swap⟩
  |false=>
   rw[ho] at hp
   simp only[Bool.false_eq_true,if_false]
   have hto1:=fun (J:O5) (m:Le I J) (sa:Option Addr) (sp:Nat) (da:Option Addr) (dp:Nat)=>hto J m x.label hlb sa sp da dp
   generalize hs6:Sp.FW.ask r.2 av x.label x.fr x.to x.name=s6 at hto1 ⊢
   repeat' (first|(refine F5 (d:=26) ?_ hm (hc:=hE);clear hm;rintro _ I2 _ _ ⟨rfl,sa2,sp2,da2,dp2,rfl⟩ hle hm;have hleI2:=hle;try simp only[F7] at hm;have hp2:=hp.le hleI2)|(refine Q7 (d:=28) (hc:=by exact hJ _) (k:=?_);rintro _ _ ⟨rfl,rfl⟩)|(refine F5 (d:=48) ?_ hm (hc:=hto1 I2 hleI2 sa2 sp2 da2 dp2);clear hm;rintro _ I3 _ _ ⟨rfl,sa3,sp3,da3,dp3,rfl⟩ hle hm;have hleI3:=hle;try simp only[F7] at hm;have hp3:=hp2.le hleI3)|(refine Y0 (id:=9) (hm.perm pm1_1) 11 13 (h:=?_);clear hm;intro wd hR hm)|refine Y7 ?_ hR|refine A0C ?_ hR|(refine A1N (d:=61) ?_ hm;clear hm;intro a61 cp61 _ _ hm;replace hm:=hR.back hm;clear hR;try simp only[F7] at hm)|refine H9 ?_ hm|(refine J6 hm (k:=?_);clear hm;intro _ hm;try simp only[F7] at hm)|refine D7 ?_|refine D5 ?_|refine L8 ?_|refine E8 ?_|refine C9 ?_|refine D8 ?_|refine A7 ?_|refine D9 ?_|refine E5 ?_|refine A8 ?_|refine E9 ?_|refine F8 ?_|refine X3 ?_|refine F6 ?_|(refine D6 (ht:=fun _=>?_) (hf:=fun _=>?_)<;>(try first|contradiction|(exfalso;omega)))|refine A0P ?_|refine X5 ?_|refine Q3 ?_|refine A3V ?_|refine A0s ?_)
   all_goals try omega
   exact⟨I3,_,⟨rfl,_,_,_,_,A8x _ _ _ _ _ _ _ _ _ _ _ _ _⟩,hm.swap⟩
 rw[if_neg k1]
 by_cases k2:x.kind=2
 ·rw[if_pos k2]
  have hg:=fun (J:O5) (sa:Option Addr) (sp:Nat) (da:Option Addr) (dp:Nat)=>CalR.flow (I:=J) (bc:=bc) (bf:=bf) (pi:=pi) (sc:=sc) (sa:=sa) (sp:=sp) (s:=r.2) (da:=da) (dp:=dp) (vf:=vf) (at_:=at_) (fun J m h=>B3g x.name (by omega) h)
  have hgl:=Sp.B0B hsl x.name
  repeat' (first|(refine F5 (d:=26) ?_ hm (hc:=hE);clear hm;rintro _ I2 _ _ ⟨rfl,sa2,sp2,da2,dp2,rfl⟩ hle hm;have hleI2:=hle;try simp only[F7] at hm;have hp2:=hp.le hleI2;have hCf2:=hC.file.le hleI2)|(refine Q7 (d:=28) (hc:=by exact hJ _) (k:=?_);rintro _ _ ⟨rfl,rfl⟩)|(refine L9 (d:=74) ?_ hm (hs:=B38) (hc:=by exact hg I2 sa2 sp2 da2 dp2);clear hm;intro _ hm)|(refine F5 (d:=75) ?_ hm (hc:=hto I2 hleI2 _ hgl sa2 sp2 da2 dp2);clear hm;rintro _ I3 _ _ ⟨rfl,sa3,sp3,da3,dp3,rfl⟩ hle hm;have hleI3:=hle;try simp only[F7] at hm)|refine H9 ?_ hm|refine D7 ?_|refine D5 ?_|refine L8 ?_|refine E8 ?_|refine C9 ?_|refine D8 ?_|refine A7 ?_|refine D9 ?_|refine E5 ?_|refine A8 ?_|refine E9 ?_|refine X3 ?_|(refine D6 (ht:=fun _=>?_) (hf:=fun _=>?_)<;>(try first|contradiction|(exfalso;omega))))
  all_goals try omega
  exact⟨I3,_,⟨rfl,_,_,_,_,rfl⟩,hm⟩
 rw[if_neg k2]
 by_cases k5:x.kind=5
 ·rw[if_pos k5]
  have hfind:=fun (J:O5) (m:Le I J)=>(A2B 1 x.name its J a cp xs (hC.fe.le m)).read
  rw[Sp.askCh]
  cases hf:Sp.Q8 its 1 x.name with
  |none=>
   rw[Sp.A3C hf] at hfind
   repeat' (first|(refine F5 (d:=26) ?_ hm (hc:=hE);clear hm;rintro _ I2 _ _ ⟨rfl,sa2,sp2,da2,dp2,rfl⟩ hle hm;have hleI2:=hle;try simp only[F7] at hm;have hp2:=hp.le hleI2;have hCf2:=hC.file.le hleI2)|(refine Q7 (d:=28) (hc:=by exact hJ _) (k:=?_);rintro _ _ ⟨rfl,rfl⟩)|(refine V3 (d:=88) ?_ hm (hc:=hfind I2 hleI2))|refine H9 ?_ hm|refine P8 ?_ hm|refine X8 ?_ hm|refine A4u ?_ hm|refine D7 ?_|refine D5 ?_|refine A0i ?_|refine L8 ?_|refine E8 ?_|refine C9 ?_|refine D8 ?_|refine A7 ?_|refine D9 ?_|refine E5 ?_|refine A8 ?_|refine E9 ?_|refine F8 ?_|refine X3 ?_|refine O6 ?_|(refine W9 ?_;intro _ hkq;replace hm:=hm.kept0 hkq;clear hkq)|refine F6 ?_|(refine D6 (ht:=fun _=>?_) (hf:=fun _=>?_)<;>(try first|contradiction|(exfalso;omega)))|refine U3 ?_|refine A1f ?_|refine J4 ?_|refine H7 ?_)
   all_goals try omega
   exact⟨I2,_,⟨rfl,_,_,_,_,rfl⟩,hm⟩
  |some j=>
   rw[Sp.A3D hf] at hfind
   obtain⟨hj,_,_,_,hmemj⟩:=Sp.Y8 hf
   obtain⟨ci,hci,hat,hlc⟩:=hC.fe.get (Sp.A0K hj)
   obtain⟨pa,pc,sa9,sc9,ba,bc9,da9,dc9,xb,rfl,_⟩:=hat
   have hjl:=(hC.lab _ hmemj).1
   have hri:=hC.fe.row
   have hfew:=hC.fe.few
   repeat' (first|(refine F5 (d:=26) ?_ hm (hc:=hE);clear hm;rintro _ I2 _ _ ⟨rfl,sa2,sp2,da2,dp2,rfl⟩ hle hm;have hleI2:=hle;try simp only[F7] at hm;have hp2:=hp.le hleI2;have hCf2:=hC.file.le hleI2)|(refine Q7 (d:=28) (hc:=by exact hJ _) (k:=?_);rintro _ _ ⟨rfl,rfl⟩)|(refine V3 (d:=88) ?_ hm (hc:=hfind I2 hleI2))|(refine L6 (d:=102) ?_ (hr:=hri.le hleI2);intro bu ou hpu;rw[show ((j:Int).toNat *10)=j *10 from rfl,hci] at hpu)|(refine F5 (d:=105) ?_ hm (hc:=hto I2 hleI2 _ hjl sa2 sp2 da2 dp2);clear hm;rintro _ I3 _ _ ⟨rfl,sa3,sp3,da3,dp3,rfl⟩ hle hm;have hleI3:=hle;try simp only[F7] at hm)|refine H6 ?_ hm|refine H9 ?_ hm|refine P8 ?_ hm|refine X8 ?_ hm|refine A4u ?_ hm|refine D7 ?_|refine D5 ?_|refine A0i ?_|refine L8 ?_|refine E8 ?_|refine C9 ?_|refine D8 ?_|refine A7 ?_|refine D9 ?_|refine E5 ?_|refine A8 ?_|refine E9 ?_|refine X3 ?_|refine O6 ?_|(refine W9 ?_;intro _ hkq;replace hm:=hm.kept0 hkq;clear hkq)|refine F9 ?_|(refine D6 (ht:=fun _=>?_) (hf:=fun _=>?_)<;>(try first|contradiction|(exfalso;omega)))|refine U3 ?_|refine A1f ?_|refine J4 ?_|refine H7 ?_)
   all_goals try omega
   exact⟨I3,_,⟨rfl,_,_,_,_,rfl⟩,hm⟩
 rw[if_neg k5]
 by_cases k6:x.kind=6
 ·rw[if_pos k6]
  obtain⟨bi,oi,tci,ci,rfl,hpi,hati⟩:=hC.item
  obtain⟨pa,pc,sa9,sc9,ba,bc9,da9,dc9,xb,rfl,_⟩:=hati
  repeat' (first|(refine F5 (d:=26) ?_ hm (hc:=hE);clear hm;rintro _ I2 _ _ ⟨rfl,sa2,sp2,da2,dp2,rfl⟩ hle hm;have hleI2:=hle;try simp only[F7] at hm;have hp2:=hp.le hleI2;have hpi2:=hpi.le hleI2;have hCf2:=hC.file.le hleI2)|(refine Q7 (d:=28) (hc:=by exact hJ _) (k:=?_);rintro _ _ ⟨rfl,rfl⟩)|(refine F5 (d:=118) ?_ hm (hc:=hto I2 hleI2 _ hC.own sa2 sp2 da2 dp2);clear hm;rintro _ I3 _ _ ⟨rfl,sa3,sp3,da3,dp3,rfl⟩ hle hm;have hleI3:=hle;try simp only[F7] at hm)|refine H6 ?_ hm|refine H9 ?_ hm|refine D7 ?_|refine D5 ?_|refine L8 ?_|refine E8 ?_|refine C9 ?_|refine D8 ?_|refine A7 ?_|refine D9 ?_|refine E5 ?_|refine A8 ?_|refine E9 ?_|refine X3 ?_|(refine D6 (ht:=fun _=>?_) (hf:=fun _=>?_)<;>(try first|contradiction|(exfalso;omega))))
  all_goals try omega
  exact⟨I3,_,⟨rfl,_,_,_,_,rfl⟩,hm⟩
 rw[if_neg k6]
 by_cases k34:x.kind=3∨x.kind=4
 ·rw[if_pos k34]
  have hb1:=fun (J:O5) (m:Le I J) (sa:Option Addr) (sp:Nat) (da:Option Addr) (dp:Nat)=>hT J a1 c1 xs1 av sc r.2 sa sp da dp hl2 hsl (by omega) (by omega) (hC.le m) (hr4.le m) (U8.le m _ _ hx4)
  have hnn:=Sp.A2R its it.label at_ x.thn sc av r.2
  generalize Sp.stmsF its it.label at_ x.thn sc av r.2=r7 at hb1 hnn ⊢
  have hb2:=fun (J:O5) (m:Le I J) (sa:Option Addr) (sp:Nat) (da:Option Addr) (dp:Nat)=>hL J a2 c2 xs2 av sc r7.2 sa sp da dp hl2 hsl (by omega) (by omega) (hC.le m) (hr5.le m) (U8.le m _ _ hx5)
  repeat' (first|(refine F5 (d:=26) ?_ hm (hc:=hE);clear hm;rintro _ I2 _ _ ⟨rfl,sa2,sp2,da2,dp2,rfl⟩ hle hm;have hleI2:=hle;try simp only[F7] at hm;have hp2:=hp.le hleI2;have hCf2:=hC.file.le hleI2)|(refine Q7 (d:=28) (hc:=by exact hJ _) (k:=?_);rintro _ _ ⟨rfl,rfl⟩)|(refine F5 (d:=128) ?_ hm (hc:=hb1 I2 hleI2 sa2 sp2 da2 dp2);clear hm;rintro _ I3 _ _ ⟨rfl,sa3,sp3,da3,dp3,rfl⟩ hle hm;have hleI3:=hle;try simp only[F7] at hm;have hp3:=hp2.le hleI3)|(refine F5 (d:=135) ?_ hm (hc:=hb2 I3 (hleI2.trans hleI3) sa3 sp3 da3 dp3);clear hm;rintro _ I4 _ _ ⟨rfl,sa4,sp4,da4,dp4,rfl⟩ hle hm;have hleI4:=hle;try simp only[F7] at hm)|refine H9 ?_ hm|refine D7 ?_|refine D5 ?_|refine L8 ?_|refine E8 ?_|refine C9 ?_|refine D8 ?_|refine A7 ?_|refine D9 ?_|refine E5 ?_|refine A8 ?_|refine E9 ?_|refine F8 ?_|refine X3 ?_|(refine D6 (ht:=fun _=>?_) (hf:=fun _=>?_)<;>(try first|contradiction|(exfalso;omega))))
  all_goals try omega
  all_goals exact⟨I4,_,⟨rfl,_,_,_,_,rfl⟩,hm⟩
 ·rw[if_neg k34]
  repeat' (first|(refine F5 (d:=26) ?_ hm (hc:=hE);clear hm;rintro _ I2 _ _ ⟨rfl,sa2,sp2,da2,dp2,rfl⟩ hle hm;have hleI2:=hle;try simp only[F7] at hm;have hp2:=hp.le hleI2;have hCf2:=hC.file.le hleI2)|(refine Q7 (d:=28) (hc:=by exact hJ _) (k:=?_);rintro _ _ ⟨rfl,rfl⟩)|refine H9 ?_ hm|refine D7 ?_|refine D5 ?_|refine L8 ?_|refine E8 ?_|refine C9 ?_|refine D8 ?_|refine A7 ?_|refine D9 ?_|refine E5 ?_|refine A8 ?_|refine E9 ?_|refine F8 ?_|refine X3 ?_|(refine D6 (ht:=fun _=>?_) (hf:=fun _=>?_)<;>(try first|contradiction|(exfalso;omega))))
  all_goals try omega
  exact⟨I2,_,⟨rfl,_,_,_,_,rfl⟩,hm⟩
end
end Go.Proofs.YtfjdfdgpkncpfaaGreatDoor
end
