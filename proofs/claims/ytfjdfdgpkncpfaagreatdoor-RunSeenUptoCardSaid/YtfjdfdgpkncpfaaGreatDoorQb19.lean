/- Own work: texts NsG, FwApp, NsH, NsI, NsJ, NsK, FwIns, EfA, EfB, one behind the other. -/
import Derived.Test.YtfjdfdgpkncpfaaGreatDoorQb18
import Derived.Shelf.Spec.SearchS
import Derived.Shelf.Spec.SlicesInsert
import Derived.Shelf.Spec.SlicesInsertGrow
set_option maxHeartbeats 64000000
section
namespace Go.Sp
structure ItN (src:List UInt8) (it:Itm):Prop where
 small:it.small
 cnt:N7 it.body≤400000000
 st:B8f src it
def same (it x:Itm):Bool:=decide (x.kind=it.kind) && decide (x.name=it.name)
theorem A9B {its:List Itm}{i:Nat}{F:Itm→Bool} (hi:i≤its.length) (h:∀j x,j<i→its[j]?=some x→F x=false):(its.take i).any F=false:=by
 rw[List.any_eq_false]
 intro x hx
 obtain⟨j,hj,rfl⟩:=List.getElem_of_mem hx
 rw[List.length_take] at hj
 rw[List.getElem_take,h j _ (by omega) (List.getElem?_eq_getElem (by omega))]
 simp
theorem A9C {its:List Itm}{i k:Nat}{F:Itm→Bool}{x:Itm} (hk:k<i) (hg:its[k]?=some x) (h:F x=true):(its.take i).any F=true:=by
 rw[List.any_eq_true]
 refine⟨x,?_,h⟩
 refine List.mem_of_getElem? (i:=k) ?_
 rw[List.getElem?_take,if_pos hk,hg]
theorem B1M {α:Type} (xs:List α) {i k:Nat} (hk:k<i):(((xs.take (i *10)).drop (k *10)).take 10)=(xs.drop (k *10)).take 10:=by
 rw[List.drop_take,List.take_take,Nat.min_eq_left (by omega)]
end Go.Sp
namespace Go.Proofs.YtfjdfdgpkncpfaaGreatDoor
open Go.Proofs.Tryz
open Go.Fw
section
variable {src:List UInt8}{its:List Sp.Itm}{a:Option Addr}{cp:Nat}{xs:List Value}
theorem B93 (i:Nat) (hi:i<its.length) (bf:Nat) (I:O5) (hfile:PtrI I bf 0 25 [.slice a its.length cp]) (h:FE I its a cp xs) (hlen:src.length≤4000) (hN:∀x∈its,Sp.ItN src x):
  CalM prog 49 #[ptr bf,nt i] I [] (fun v _ H'=> ∃bc pi sc sa sp da dp ua up,v=ptr bc∧H'=NSt bc bf pi sc sa sp (Sp.A27 its i) da dp ua up):=by
 refine CalM.of fun w E hm=>enter (N:=80) func49 rfl [(0,ptr bf),(1,nt i)] A0B rfl ?_
 have hfew:=h.few
 have hg:=Sp.A0K hi
 obtain⟨ci,hci,hat,hlc⟩:=h.get hg
 have hri:=h.row
 have hIt:=hN _ (Sp.A5v hi)
 have hw:Sp.A27 its i=if (Sp.N9 its i).kind=2 then Sp.fnN its (Sp.N9 its i) (if Sp.A75 its i (Sp.N9 its i)=true then Sp.NW0.tell (Sp.N9 its i).mark 7 (Sp.N9 its i).name else Sp.NW0) else (if Sp.A75 its i (Sp.N9 its i)=true then Sp.NW0.tell (Sp.N9 its i).mark 7 (Sp.N9 its i).name else Sp.NW0):=rfl
 generalize Sp.A27 its i=fin at hw ⊢
 generalize Sp.N9 its i=it at hg hat hIt hw
 obtain⟨s0,hs0⟩:∃s0,s0=if Sp.A75 its i it=true then Sp.NW0.tell it.mark 7 it.name else Sp.NW0:=⟨_,rfl⟩
 rw[←hs0] at hw
 have hs0n:s0.n≤1:=by
  rw[hs0]
  split
  ·rw[Sp.A6q];exact Nat.le_refl _
  ·exact Nat.zero_le _
 have htk:Sp.A75 its i it=(decide (it.kind≠3) && (decide (it.name≠ []) && (its.take i).any (Sp.same it))):=rfl
 have hat0:=hat
 obtain⟨pa,pc,sa9,sc9,ba,bc9,da9,dc9,xb,rfl,hpar,hsnd,hrb,hbs,_⟩:=hat
 obtain⟨p,q,hst⟩:=hIt.st
 have hbd:=(hst.sub _ _ hst.mark).1
 repeat' (first|(refine L6 (d:=15) ?_ (hr:=hri);intro bt ot hpt;rw[show ((i:Int).toNat *10)=i *10 from rfl,hci] at hpt)|(refine A4e 3 (fun _:NX=> [(0,ptr bf),(1,nt i),(5,ptr b17),(6,.pointer (some ⟨bt,ot,none⟩))]) (fun x w'=>Mem E x.I (NSt b17 bf (.pointer (some ⟨bt,ot,none⟩)) [] x.sa x.sp s0 x.da x.dp x.ua x.up) w'∧Le I x.I) ?_ ?_)|(refine A0t (d:=17) ?_ hm;clear hm;intro b17 _ hm)|refine H6 ?_ hm|refine H9 ?_ hm|refine D7 ?_|refine D5 ?_|refine E8 ?_|refine C9 ?_|refine Q9 ?_|refine D8 ?_|refine A7 ?_|refine E5 ?_|refine A8 ?_)
 ·have hm:Mem E I (NSt b17 bf (.pointer (some ⟨bt,ot,none⟩)) [] none 0 Sp.NW0 none 0 none 0) _:=(((hm.nil 92 4).swap.nil 221 2).swap.nil 53 3).swap
  refine⟨?_⟩
  by_cases hk:it.kind≠3∧it.name≠ []
  case neg=>
   have:s0=Sp.NW0:=by
    rw[hs0,if_neg]
    rw[htk]
    intro h1
    simp only[Bool.and_eq_true,decide_eq_true_eq] at h1
    exact hk ⟨h1.1,h1.2.1⟩
   subst this
   by_cases h3:it.kind=3
   ·skip
    repeat' (first|refine H9 ?_ hm|refine D7 ?_|refine J3 ?_|refine X9 ?_|refine E8 ?_|refine C9 ?_|refine Y1 ?_|(refine O0 (h1:=fun _=>?_) (h0:=fun _=>?_)<;>(try first|contradiction|(exfalso;omega)))|refine D8 ?_|refine A7 ?_|refine E5 ?_|refine A8 ?_|refine F8 ?_|refine F6 ?_)
    all_goals try first|omega|contradiction
    exact Y6 (⟨0,I,none,0,none,0,none,0⟩:NX) (by exact⟨rfl,rfl,rfl,rfl,trivial⟩) ⟨hm,Le.refl _⟩
   ·have hnn:it.name= []:=Classical.byContradiction fun h1=>hk ⟨h3,h1⟩
    repeat' (first|refine H9 ?_ hm|refine D7 ?_|refine J8 ?_|refine X9 ?_|refine A0x ?_|refine E8 ?_|refine C9 ?_|(refine O0 (h1:=fun _=>?_) (h0:=fun _=>?_)<;>(try first|contradiction|(exfalso;omega)))|refine D8 ?_|refine A7 ?_|refine E5 ?_|refine A8 ?_|refine F8 ?_|(refine D6 (ht:=fun _=>?_) (hf:=fun _=>?_)<;>(try first|contradiction|(exfalso;omega))))
    all_goals try first|omega|contradiction
    exact Y6 (⟨0,I,none,0,none,0,none,0⟩:NX) (by exact⟨rfl,rfl,rfl,rfl,trivial⟩) ⟨hm,Le.refl _⟩
  obtain⟨hk3,hnn⟩:=hk
  repeat' (first|(refine A7q (d:=39) ?_ hri;intro hrs)|refine H9 ?_ hm|refine D7 ?_|refine J8 ?_|refine X9 ?_|refine A0x ?_|refine G7 ?_|refine E8 ?_|refine C9 ?_|(refine O0 (h1:=fun _=>?_) (h0:=fun _=>?_)<;>(try first|contradiction|(exfalso;omega)))|refine D8 ?_|refine A7 ?_|refine E5 ?_|refine A8 ?_|refine E9 ?_|(refine D6 (ht:=fun _=>?_) (hf:=fun _=>?_)<;>(try first|contradiction|(exfalso;omega))))
  all_goals try first|omega|contradiction
  refine U4 (fun k:Nat=> [(0,ptr bf),(1,nt i),(5,ptr b17),(6,.pointer (some ⟨bt,ot,none⟩)),(39,.slice a i cp),(40,nt i),(41,nt k)])
   (fun k w'=>Mem E I (NSt b17 bf (.pointer (some ⟨bt,ot,none⟩)) [] none 0 Sp.NW0 none 0 none 0) w'∧k≤i∧∀j x,j<k→its[j]?=some x→Sp.same it x=false) (fun k=>i-k) 0
   (by exact⟨rfl,rfl,rfl,rfl,rfl,rfl,rfl,trivial⟩) ⟨hm,Nat.zero_le _,fun j _ hj=>absurd hj (Nat.not_lt_zero j)⟩ ?_
  clear hm
  rintro k w1 ⟨hm,hk,hno⟩
  try dsimp only at hm hk hno ⊢
  by_cases hlt:k<i
  ·have hgk:its[k]?=some its[k]:=List.getElem?_eq_getElem (by omega)
   obtain⟨cz,hcz,hatz,hl10⟩:=h.get hgk
   have hdt:=Sp.B1M xs hlt
   generalize its[k]=y at hgk hatz
   obtain⟨pa3,pc3,sa3,sc3,ba3,bc3,da3,dc3,xb3,rfl,_⟩:=hatz
   cases hsm:Sp.same it y with
   |true=>
    have hsk:=hsm
    simp only[Sp.same,Bool.and_eq_true,decide_eq_true_eq] at hsk
    obtain⟨e1,e2⟩:=hsk
    have:s0=Sp.NW0.tell it.mark 7 it.name:=by
     rw[hs0,if_pos]
     rw[htk,Sp.A9C hlt hgk hsm,decide_eq_true hk3,decide_eq_true hnn];rfl
    subst this
    have hT:=A7z (I:=I) (bc:=b17) (bf:=bf) (pi:=.pointer (some ⟨bt,ot,none⟩)) (sc:= []) (sa:=none) (sp:=0) (s:=Sp.NW0) (da:=none) (dp:=0) (ua:=none) (up:=0) it.name it.mark 7 (by omega) (by decide)
    repeat' (first|(refine L6 (d:=43) ?_ (hr:=hrs);intro bu ou hpu;rw[show ((k:Int).toNat *10)=k *10 from rfl,hdt,hcz] at hpu)|(refine Q5 (id:=8) 9 (h:=?_))|(refine F5 (d:=70) ?_ hm (hp:=B0d) (hc:=hT);clear hm;rintro _ I2 _ _ ⟨rfl,sa2,sp2,da2,dp2,ua2,up2,rfl⟩ hleI2 hm;try simp only[F7] at hm)|(refine V7 (d:=8) ?_ hm;clear hm;intro b8 _ hm)|refine U7 ?_ hm|refine P8 ?_ hm|refine X8 ?_ hm|refine J5 ?_|refine D8 ?_|refine A7 ?_|refine G9 ?_|refine G6 ?_|refine A0u ?_|refine E5 ?_|refine A8 ?_|refine E9 ?_|refine F8 ?_|refine O4 ?_|refine O6 ?_|(refine W9 ?_;intro _ hkq;replace hm:=hm.kept0 hkq;clear hkq)|(refine V4 ?_;intro _ hkq;replace hm:=hm.kept0 hkq;clear hkq)|(refine D6 (ht:=fun _=>?_) (hf:=fun _=>?_)<;>(try first|contradiction|(exfalso;omega)))|refine U3 ?_|refine V8 ?_|refine A39 ?_|refine A5Q ?_|refine J4 ?_|refine H7 ?_|(refine U6 (fun _=>?_) (h1:=fun _=>?_)<;>(try first|contradiction|(exfalso;omega))))
    all_goals try first|omega|contradiction
    exact Y6 (⟨0,I2,sa2,sp2,da2,dp2,ua2,up2⟩:NX) (by exact⟨rfl,rfl,rfl,rfl,trivial⟩) ⟨hm.left,hleI2⟩
   |false=>
    have hne:¬(y.kind=it.kind∧y.name=it.name):=fun h1=>by
     rw[Sp.same,decide_eq_true h1.1,decide_eq_true h1.2] at hsm
     cases hsm
    repeat' (first|(refine L6 (d:=43) ?_ (hr:=hrs);intro bu ou hpu;rw[show ((k:Int).toNat *10)=k *10 from rfl,hdt,hcz] at hpu)|(refine V7 (d:=8) ?_ hm;clear hm;intro b8 _ hm)|refine U7 ?_ hm|refine P8 ?_ hm|refine X8 ?_ hm|refine D7 ?_|refine J5 ?_|refine Q4 ?_|refine D8 ?_|refine A7 ?_|refine D9 ?_|refine E5 ?_|refine A8 ?_|refine E9 ?_|refine F8 ?_|refine O6 ?_|(refine W9 ?_;intro _ hkq;replace hm:=hm.kept0 hkq;clear hkq)|refine F6 ?_|(refine D6 (ht:=fun _=>?_) (hf:=fun _=>?_)<;>(try first|contradiction|(exfalso;omega)))|refine U3 ?_|refine V8 ?_|refine A0p ?_|refine A39 ?_|refine A5Q ?_|refine J4 ?_|refine H7 ?_|refine A2k ?_|(refine U6 (fun _=>?_) (h1:=fun _=>?_)<;>(try first|contradiction|(exfalso;omega))))
    all_goals try (exfalso;first|omega|contradiction|(exact hne ⟨by omega,by assumption⟩))
    all_goals refine J9 (k+1:Nat) (by exact⟨rfl,rfl,rfl,rfl,rfl,rfl,rfl,trivial⟩) ⟨hm.tl,by omega,fun j x hj hg'=>?_⟩ (by omega)
    all_goals
     rcases Nat.lt_or_ge j k with hjk|hjk
     ·exact hno j x hjk hg'
     ·obtain rfl:j=k:=by omega
      rw[hgk] at hg'
      obtain rfl:=Option.some.inj hg'
      exact hsm
  ·obtain rfl:k=i:=by omega
   have:s0=Sp.NW0:=by
    rw[hs0,if_neg]
    rw[htk,Sp.A9B (by omega) hno]
    simp
   subst this
   repeat' (first|refine J5 ?_|refine D8 ?_|refine A7 ?_|refine G9 ?_|refine G6 ?_|refine E5 ?_|refine A8 ?_|refine O4 ?_|(refine D6 (ht:=fun _=>?_) (hf:=fun _=>?_)<;>(try first|contradiction|(exfalso;omega))))
   all_goals try first|omega|contradiction
   exact Y6 (⟨0,I,none,0,none,0,none,0⟩:NX) (by exact⟨rfl,rfl,rfl,rfl,trivial⟩) ⟨hm,Le.refl _⟩
 ·clear hm
  rintro⟨_,I1,sa1,sp1,da1,dp1,ua1,up1⟩ w1 ⟨hm,hle1⟩
  dsimp only at hm hle1 ⊢
  have hpt1:=hpt.le hle1
  by_cases k2:it.kind=2
  ·rw[if_pos k2] at hw
   have hC:NC I1 src p q its it bf a cp xs (.pointer (some ⟨bt,ot,none⟩)):=⟨hfile.le hle1,h.le hle1,⟨bt,ot,_,_,rfl,hpt1,hat0.le hle1⟩,hlen,hst,fun x hx=>(hN x hx).st⟩
   have hF:=C1q (bc:=b17) (s:=s0) (sa:=sa1) (sp:=sp1) (da:=da1) (dp:=dp1) (ua:=ua1) (up:=up1) hC hIt.small hIt.cnt (by omega)
   rw[←hw] at hF
   repeat' (first|(refine F5 (d:=78) ?_ hm (hp:=A1O) (hc:=hF);clear hm;rintro _ I2 _ _ ⟨rfl,sa2,sp2,da2,dp2,ua2,up2,rfl⟩ hleI2 hm;try simp only[F7] at hm)|refine H9 ?_ hm|refine D7 ?_|refine D5 ?_|refine L8 ?_|refine E8 ?_|refine C9 ?_|refine D8 ?_|refine A7 ?_|refine E5 ?_|refine A8 ?_|refine G8 ?_|refine H5 ?_|(refine D6 (ht:=fun _=>?_) (hf:=fun _=>?_)<;>(try first|contradiction|(exfalso;omega))))
   all_goals try first|omega|contradiction
   exact⟨I2,_,⟨_,_,_,_,_,_,_,_,_,rfl,rfl⟩,hm⟩
  ·rw[if_neg k2] at hw
   subst hw
   repeat' (first|refine H9 ?_ hm|refine D7 ?_|refine D5 ?_|refine L8 ?_|refine E8 ?_|refine C9 ?_|refine D8 ?_|refine A7 ?_|refine E5 ?_|refine A8 ?_|refine F8 ?_|refine G8 ?_|refine H5 ?_|(refine D6 (ht:=fun _=>?_) (hf:=fun _=>?_)<;>(try first|contradiction|(exfalso;omega))))
   all_goals try first|omega|contradiction
   exact⟨I1,_,⟨_,_,_,_,_,_,_,_,_,rfl,rfl⟩,hm⟩
end
end Go.Proofs.YtfjdfdgpkncpfaaGreatDoor
end
section
namespace Go.Fw
open Go
section
variable {P:Program}{N:Nat}{ds:List Deferred}{Q:Exit→Act→World→Prop}{l:Log}{w:World}{ops:Array Oper}{os:List Oper}
variable {d:Nat}{ty:TypeId}{pos:String}{af:Array Edge}{g:Option (Nat×Bool)}{t:TypeId}{x y:Operand}{E:Ent}{I:O5}{H:List HItem}
theorem A8f {e:TypeId}{sz by_:Nat} [TySlice P t e] [he:Elem P e sz by_] {b:Option Addr}{n c c2:Nat} (hc:n≤c) (ty:TypeId):
  (Builtin.append_ #[t,t] ty #[.slice b n c,.slice none 0 c2]).run P w=.ok (.slice b n c) w:=by
 obtain⟨i,z,hi,hz,hs,hby,hzc,hpos⟩:=he.out
 have ht:=run_underlying (P:=P) (w:=w) (TySlice.out (P:=P) (t:=t))
 cases b<;>simp[Builtin.append_,Builtin.firstCells,Builtin.lenOf,storeCells,ht,sizeOf,typeInfo,hi,hc]
theorem A97 {e:TypeId}{sz by_:Nat} [TySlice P t e] [Elem P e sz by_] {i n m cp:Nat}{v:Value}{a:Option Addr}{xs ys:List Value} (k:∀a' cp' w',Mem E I (H.set i (.row (.slice a' (n+m) cp') e sz (n+m) (xs++ys))) w'→WL P N ds ops Q os ((d,.slice a' (n+m) cp')::l) w') (hm:Mem E I H w)
  (hw:P7 ops l ⟨some d,.call ⟨.builtin .append, #[x,y], #[t,t]⟩,ty,pos,af,g⟩=some true:=by rfl) (hN:Nat.blt d N=true:=by rfl)
  (hx:ev l x=some v:=by rfl) (hy:ev l y=some (.slice a m cp):=by rfl) (hi:H[i]?=some (.row v e sz n xs):=by first|exact gt0|exact gt1|exact gt2|exact gt3|exact gt4|exact gt5|exact gt6) (hr:RowI I e sz (.slice a m cp) m ys) (h1:∀u∈ys,u.oneCell'=true)
  (hlen:(n+m) *by_≤140737488355328:=by omega) (h63:n+m≤9223372036854775807:=by omega)
   :
  WL P N ds ops Q (⟨some d,.call ⟨.builtin .append, #[x,y], #[t,t]⟩,ty,pos,af,g⟩::os) l w:=by
 have ho:=hm.getRow hi
 obtain⟨hl0,a',cap,hv,hmc,h3⟩:=hr
 obtain⟨rfl,_,rfl⟩:=Value.slice.inj hv
 cases a with
 |none=>
  obtain rfl:m=0:=Classical.byContradiction fun h=>by obtain⟨_,_,_,_,e1,_⟩:=h3 (by omega);cases e1
  obtain rfl:ys= []:=List.eq_nil_of_length_eq_zero (by simpa using hl0)
  obtain⟨b,c,rfl⟩:=A3o ho
  have hnc:=(B4L ho (Nat.le_refl _)).2.1
  have hm':=hm.turn (h':=.row (.slice b (n+0) c) e sz (n+0) (xs++ [])) hi (Kept.refl _ w) (by rw[Nat.add_zero,List.append_nil];exact hm.ok _ (List.mem_of_getElem? hi)) (.inl rfl)
  refine O9 (w':=w) (v:=.slice b n c) rfl hw hN (fun c2 hc=>?_) (k b c w hm')
  have hr:=A8f (P:=P) (t:=t) (w:=w) (e:=e) (b:=b) (c2:=cp) hnc ty
  simp[execOp,resolve,invoke,builtin,hc.ev hx,hc.ev hy,hr]
 |some ad=>
  obtain⟨v',w',hr,ho',hk,hb⟩:=A4Y (P:=P) (t:=t) ho ad m cp ys hl0 (fun j u hj=>by
    have hm0:0<m:=by
     rcases Nat.eq_zero_or_pos m with h|h
     ·subst h
      rw[List.eq_nil_of_length_eq_zero (l:=ys) (by simpa using hl0)] at hj
      cases hj
     ·exact h
    obtain⟨b,off,c,fr,e1,e2,e3⟩:=h3 hm0
    obtain rfl:=Option.some.inj e1
    rw[Addr.add_lit]
    exact A1A (hm.inv _ _ e2) (e3 j u hj)) h1 h63 hlen (Nat.zero_le _) ty
  obtain⟨a2,c2,rfl⟩:=A3o ho'
  refine O9 (w':=w') (v:=.slice a2 (n+m) c2) rfl hw hN (fun c3 hc=>?_) (k a2 c2 w' (hm.turn hi hk ho' (hb.imp_right fun ⟨g,h1,h2⟩=>⟨g,h1,h2⟩)))
  simp[execOp,resolve,invoke,builtin,hc.ev hx,hc.ev hy,hr]
end
end Go.Fw
end
section
namespace Go.Sp
theorem B75 {src:List UInt8}{its:List Itm} (h:∀x∈its,ItN src x) {i:Nat} (hi:i<its.length):(A27 its i).n≤900000000:=by
 have hm:=A5v hi
 have hN:=h _ hm
 rw[A27]
 generalize N9 its i=it at hN
 have h0:(if A75 its i it=true then NW0.tell it.mark 7 it.name else NW0).n≤1:=by
  split
  ·rw[A6q];exact Nat.le_refl _
  ·exact Nat.zero_le _
 generalize (if A75 its i it=true then NW0.tell it.mark 7 it.name else NW0)=s0 at h0
 split
 ·rw[fnN]
  have h1:=B0V it.params [] s0
  generalize A2p it.params [] s0=r at h1
  have h2:=B09 its it.at_ it.sends [] r.2
  generalize A4i its it.at_ [] it.sends r.2=s1 at h2
  have h3:=A46 its it.at_ it.body r.1 s1
  have h4:=hN.small.params
  have h5:=hN.small.sends
  have h6:=hN.cnt
  omega
 ·omega
end Go.Sp
namespace Go.Proofs.YtfjdfdgpkncpfaaGreatDoor
open Go.Proofs.Tryz
open Go.Fw
section
variable {src:List UInt8}{its:List Sp.Itm}{a:Option Addr}{cp:Nat}{xs:List Value}
end
section
variable {src:List UInt8}{its:List Sp.Itm}{a:Option Addr}{cp:Nat}{xs:List Value}
theorem B8E (i:Nat) (hi:i<its.length) (I:O5) (h:FE I its a cp xs) (hlen:src.length≤4000) (hN:∀x∈its,Sp.ItN src x):
  CalM prog 87 #[.agg [.slice a its.length cp].toArray,nt i] I [] (fun v I' H'=>H'= []∧∃da dp,v=.slice da (Sp.A27 its i).ds.length dp∧RowI I' 92 4 (.slice da (Sp.A27 its i).ds.length dp) (Sp.A27 its i).ds.length ((Sp.A27 its i).ds.flatMap A3w)):=by
 refine CalM.of fun w E hm=>enter (N:=19) func87 rfl [(0,.agg [.slice a its.length cp].toArray),(1,nt i)] A0B rfl ?_
 have hfew:=h.few
 repeat' (first|(refine A0t (d:=2) ?_ hm;clear hm;intro b2 _ hm)|refine H6 ?_ hm|refine D7 ?_|refine D5 ?_|refine J3 ?_|refine J5 ?_|refine A0i ?_|refine G7 ?_|refine C9 ?_|refine D8 ?_|refine A7 ?_|refine E5 ?_|refine A8 ?_|refine F8 ?_|(refine D6 (ht:=fun _=>?_) (hf:=fun _=>?_)<;>(try first|contradiction|(exfalso;omega))))
 all_goals try omega
 obtain⟨I2,hle2,hm2,hpf⟩:=hm.freezeO
 clear hm
 have hm:=hm2
 clear hm2
 have hck:=B93 i hi b2 I2 hpf (h.le hle2) hlen hN
 generalize Sp.A27 its i=fin at hck ⊢
 repeat' (first|(refine F5 (d:=15) ?_ hm (hp:=pm0) (hc:=hck);clear hm;rintro _ I4 _ _ ⟨bc,pi,sc,sa,sp,da,dp,ua,up,rfl,rfl⟩ hleI4 hm;try simp only[F7] at hm)|refine H6 ?_ hm|refine D5 ?_|refine E8 ?_|refine C9 ?_|refine D8 ?_|refine A7 ?_|refine G8 ?_|refine H5 ?_)
 all_goals try omega
 obtain⟨I6,hle6,hm6,hrow⟩:=(hm.front 3 rfl).freeze
 exact⟨I6,[],⟨rfl,_,_,rfl,hrow⟩,hm6.left (H:= [])⟩
end
end Go.Proofs.YtfjdfdgpkncpfaaGreatDoor
end
section
namespace Go.Sp
end Go.Sp
namespace Go.Proofs.YtfjdfdgpkncpfaaGreatDoor
open Go.Proofs.Tryz
open Go.Fw
section
variable {src:List UInt8}{its:List Sp.Itm}{a:Option Addr}{cp:Nat}{xs:List Value}
end
end Go.Proofs.YtfjdfdgpkncpfaaGreatDoor
end
section
namespace Go.Sp
theorem B6R (s:List UInt8):∀x∈H8 s,ItN s x:=by
 intro x hx
 have hst:=B6S s x hx
 by_cases h0:Y5 s=0
 ·have hl:s.length≤4000:=by
   rw[Y5] at h0
   split at h0
   ·cases h0
   ·omega
  rw[H8,if_pos h0,A3j] at hx
  obtain⟨j,_,rfl⟩:=List.mem_map.1 hx
  have hp:(A0y s (U2 s) j).length≤4000:=by rw[A0y,List.length_take,List.length_drop];omega
  have hc:=A84 (A0y s (U2 s) j) ((U2 s).getD j 0:Nat)
  exact⟨A4S _ _ (by omega),by rw[A1L];omega,hst⟩
 ·rw[H8,if_neg h0] at hx
  simp at hx
end Go.Sp
end
section
namespace Go.Fw
open Go
abbrev A33 (s:List UInt8):List Value:= [str s]
theorem B05 {w:World}{b o:Nat}{c:Array Value}{e:TypeId}{fr:Nat×Nat}{v:Value} (h:w.heap[b]?=some (.cells c e fr)):(w.setCell ⟨b,o,none⟩ v).heap[b]?=some (.cells (c.setIfInBounds o v) e fr):=by
 simp[World.setCell,Array.getElem?_modify,h]
theorem B06 (w:World) (b o:Nat) (v:Value):Kept [b] w (w.setCell ⟨b,o,none⟩ v):=
 ⟨rfl,rfl,rfl,by simp[World.setCell],fun k _ hk=>by
  have:b≠k:=fun e=>hk (by rw[e];simp)
  simp[World.setCell,Array.getElem?_modify,this]⟩
theorem A1H (b:Nat):∀(vs:List Value) (o:Nat) (w:World),Kept [b] w (w.setCells b o vs)
 | [],_,w=>Kept.refl _ w
 |v::vs,o,w=>(B06 w b o v).trans (A1H b vs (o+1) _)
theorem A1G {b:Nat}{e:TypeId}{fr:Nat×Nat}:∀(vs:List Value) (o:Nat) (w:World) (c:List Value),w.heap[b]?=some (.cells c.toArray e fr)→o+vs.length≤c.length→
  (w.setCells b o vs).heap[b]?=some (.cells (c.take o++(vs++c.drop (o+vs.length))).toArray e fr)
 | [],o,w,c,h,_=>by
  show w.heap[b]?=_
  rw[h,List.nil_append,List.length_nil,Nat.add_zero,List.take_append_drop]
 |v::vs,o,w,c,h,hl=>by
  rw[List.length_cons] at hl
  have h1:=B05 (o:=o) (v:=v) h
  rw[show c.toArray.setIfInBounds o v=(c.set o v).toArray by simp] at h1
  have h2:=A1G vs (o+1) _ (c.set o v) h1 (by rw[List.length_set];omega)
  show ((w.setCell ⟨b,o,none⟩ v).setCells b (o+1) vs).heap[b]?=_
  rw[h2]
  congr 2
  apply congrArg
  have e1:(c.set o v).take (o+1)=c.take o++ [v]:=by
   rw[List.take_set,List.take_succ_eq_append_getElem (by omega),List.set_append,if_neg (by rw[List.length_take];omega),List.length_take,Nat.min_eq_left (by omega),Nat.sub_self]
   rfl
  have e2:(c.set o v).drop (o+1+vs.length)=c.drop (o+1+vs.length):=by
   rw[List.drop_set,if_pos (by omega)]
  rw[e1,e2,List.length_cons,show o+(vs.length+1)=o+1+vs.length by omega,List.append_assoc,List.cons_append,List.nil_append,List.cons_append]
theorem Kept.drewN (q:Nat) (w:World):Kept [] w (w.drewN q):=
 ⟨rfl,rfl,rfl,Nat.le_refl _,fun _ _ _=>rfl⟩
theorem A8M {w:World}{g n sz:Nat}{e:TypeId}{cur:Array Value}{xs:List Value} (hg:w.heap[g]?=some (.cells cur e (0,0))) (ht:cur.toList.take (n *sz)=xs) {j:Nat}{v:Value} (h:xs[j]?=some v):w.cell? ⟨g,0+j,none⟩=some v:=by
 rw[Nat.zero_add]
 refine A1A hg ?_
 rw[←ht,List.getElem?_take] at h
 split at h
 ·simpa using h
 ·cases h
theorem A6G {α:Type} (f:α→Value) (l:List α):l.flatMap (fun a=> [f a])=l.map f:=by
 induction l with
 |nil=>rfl
 |cons a l ih=>rw[List.flatMap_cons,ih];rfl
section
open Go.Sp (Srt A4Q A1P)
theorem B1G:∀(x y:List UInt8),Op.bytesLess x y=decide (x<y)
 | [],[]=>by simp[Op.bytesLess]
 |_::_,[]=>by simp[Op.bytesLess]
 | [],_::_=>by simp[Op.bytesLess]
 |a::x,b::y=>by
  rw[Op.bytesLess,B1G x y]
  simp only[List.cons_lt_cons_iff]
  by_cases h1:a<b<;>by_cases h2:a=b<;>by_cases h3:x<y<;>simp[h1,h2,h3]
def A3O (l:List (List UInt8)) (s:List UInt8):Nat:=(l.takeWhile (fun x=>decide (x<s))).length
theorem A6S {s:List UInt8}:∀ {l:List (List UInt8)},Srt l→(∀j x,j<A3O l s→l[j]?=some x→x<s)∧(∀j x,A3O l s≤j→l[j]?=some x→¬x<s)∧A3O l s≤l.length
 | [],_=>⟨fun j x _ h=>by simp at h,fun j x _ h=>by simp at h,Nat.le_refl _⟩
 |a::l,h=>by
  obtain⟨h1,h2⟩:=List.pairwise_cons.1 h
  obtain⟨i1,i2,i3⟩:=A6S (s:=s) h2
  by_cases ha:a<s
  ·have e:A3O (a::l) s=A3O l s+1:=by simp[A3O,ha]
   rw[e]
   refine⟨fun j x hj hx=>?_,fun j x hj hx=>?_,by rw[List.length_cons];omega⟩
   ·cases j with
    |zero=>simp only[List.getElem?_cons_zero,Option.some.injEq] at hx;rw[←hx];exact ha
    |succ j=>exact i1 j x (by omega) (by simpa using hx)
   ·cases j with
    |zero=>omega
    |succ j=>exact i2 j x (by omega) (by simpa using hx)
  ·have e:A3O (a::l) s=0:=by simp[A3O,ha]
   rw[e]
   refine⟨fun j x hj hx=>by omega,fun j x hj hx=>?_,Nat.zero_le _⟩
   cases j with
   |zero=>simp only[List.getElem?_cons_zero,Option.some.injEq] at hx;rw[←hx];exact ha
   |succ j=>
    have hm:=List.mem_of_getElem? (show l[j]?=some x by simpa using hx)
    exact fun hxs=>ha (Sp.A7A (h1 x hm) hxs)
theorem B5Q {l:List (List UInt8)}{s:List UInt8} (h:Srt l):l[A3O l s]?=some s↔s∈l:=by
 obtain⟨h1,h2,h3⟩:=A6S (s:=s) h
 constructor
 ·exact fun e=>List.mem_of_getElem? e
 ·intro hm
  obtain⟨j,hj,rfl⟩:=List.getElem_of_mem hm
  have hg:=List.getElem?_eq_getElem hj
  have h4:A3O l l[j]≤j:=by
   rcases Nat.lt_or_ge j (A3O l l[j]) with h5|h5
   ·exact absurd (h1 j _ h5 hg) (Sp.A3J _)
   ·exact h5
  have hk:A3O l l[j]<l.length:=by omega
  have hgk:=List.getElem?_eq_getElem hk
  have h5:=h2 _ _ (Nat.le_refl _) hgk
  rcases Nat.lt_or_ge (A3O l l[j]) j with h6|h6
  ·exact absurd (List.pairwise_iff_getElem.1 h _ _ hk hj h6) h5
  ·have:A3O l l[j]=j:=by omega
   rw[this];exact hg
end
section
variable {P:Program}{ρ:Shelf.Ren}
theorem B69 (L:Proofs.Lays2.n26 P ρ) {I:O5}{ty:TypeId}{l:List (List UInt8)}{a:Option Addr}{cp:Nat} (s:List UInt8) (hs:Sp.Srt l) (hn:l.length≤1099511627776):
  CalR P (ρ.f 26) #[.slice a l.length cp,str s] I [.row (.slice a l.length cp) ty 1 l.length (l.flatMap A33)] (.tuple #[.int .i64 (A3O l s:Nat),.bool (decide (s∈l))]):=by
 refine⟨fun w hI hH=>?_⟩
 have ho:w.ownsRow 0 ty 1 (.slice a l.length cp) l.length (l.flatMap A33):=hH _ List.mem_cons_self
 rcases ho.2 with ⟨hv,h0⟩|⟨g,cap,cur,hv,_,hg,hc,hcm,hsz,ht⟩
 ·injection hv with e1 e2 e3
  subst e1;subst e3
  have hl:l= []:=List.eq_nil_of_length_eq_zero h0
  subst hl
  refine⟨Calls.mono (Proofs.Any2.slices_BinarySearch_string_empty L none 0 ⟨s.toArray⟩ w) (fun e w' q=>?_)⟩
  obtain⟨rfl,rfl⟩:=q
  exact⟨rfl,Kept.refl _ _⟩
 ·injection hv with e1 e2 e3
  subst e1;subst e3
  rw[Nat.mul_one] at ht
  have hcell:∀j,j<l.length→w.cell? ⟨g,0+j,none⟩=some (.string ⟨(l.getD j []).toArray⟩):=fun j hj=>by
   refine A8M (n:=l.length) (sz:=1) (xs:=l.flatMap A33) hg (by rw[Nat.mul_one];exact ht) ?_
   rw[A6G,List.getElem?_map,List.getElem?_eq_getElem hj,List.getD_eq_getElem?_getD,List.getElem?_eq_getElem hj];rfl
  obtain⟨p1,p2,p3⟩:=A6S (s:=s) hs
  have hless:(fun t=>Op.bytesLess (⟨(l.getD t []).toArray⟩:ByteArray).toList (⟨s.toArray⟩:ByteArray).toList)=fun t=>decide (l.getD t []<s):=by
   funext t;rw[A47,A47,B1G]
  have hb:=Lib.bsGo_spec (fun t=>decide (t<l.length) && decide (l.getD t []<s)) (A3O l s) (fun t ht2=>by
   have hlt:t<l.length:=by omega
   have:=p1 t _ ht2 (List.getElem?_eq_getElem hlt)
   rw[Bool.and_eq_true,decide_eq_true_eq,decide_eq_true_eq,List.getD_eq_getElem?_getD,List.getElem?_eq_getElem hlt]
   exact⟨hlt,this⟩) (fun t ht2=>by
   rw[Bool.and_eq_false_iff,decide_eq_false_iff_not,decide_eq_false_iff_not]
   rcases Nat.lt_or_ge t l.length with hlt|hlt
   ·right
    rw[List.getD_eq_getElem?_getD,List.getElem?_eq_getElem hlt]
    exact p2 t _ ht2 (List.getElem?_eq_getElem hlt)
   ·left;omega) l.length 0 l.length (by omega) (by omega) p3
  have hcongr:∀(f lo hi:Nat),hi≤l.length→Lib.bsGo (fun t=>decide (l.getD t []<s)) f lo hi=Lib.bsGo (fun t=>decide (t<l.length) && decide (l.getD t []<s)) f lo hi:=by
   intro f
   induction f with
   |zero=>intro lo hi _;rfl
   |succ f ih=>
    intro lo hi hhi
    unfold Lib.bsGo
    by_cases h:lo<hi
    ·rw[if_pos h,if_pos h,ih _ _ hhi,ih _ _ (by omega),decide_eq_true (show (lo+hi) / 2<l.length by omega),Bool.true_and]
    ·rw[if_neg h,if_neg h]
  have hres:=Proofs.Any2.slices_BinarySearch_string L g 0 l.length cp (fun j=>⟨(l.getD j []).toArray⟩) ⟨s.toArray⟩ w (by omega) hcell
  rw[hless,hcongr _ _ _ (Nat.le_refl _),hb] at hres
  refine⟨Calls.mono hres (fun e w' q=>?_)⟩
  obtain⟨rfl,qq,rfl⟩:=q
  refine⟨?_,Kept.drewN qq w⟩
  have hfd:decide (A3O l s<l.length∧(⟨(l.getD (A3O l s) []).toArray⟩:ByteArray)=⟨s.toArray⟩)=decide (s∈l):=by
   rw[decide_eq_decide, ←B5Q hs]
   constructor
   ·rintro⟨h1,h2⟩
    have h3:l.getD (A3O l s) []=s:=by
     have:=congrArg ByteArray.toList h2
     rwa [A47,A47] at this
    rw[List.getElem?_eq_getElem h1]
    rw[List.getD_eq_getElem?_getD,List.getElem?_eq_getElem h1] at h3
    exact congrArg some h3
   ·intro h
    obtain⟨h1,h2⟩:=List.getElem?_eq_some_iff.1 h
    exact⟨h1,by rw[List.getD_eq_getElem?_getD,h];rfl⟩
  rw[hfd]
theorem Mem.turn2 {E:Ent}{I:O5}{w w':World}{h h' v:HItem} (hm:Mem E I [h,v] w) (k:Kept h.blk.toList w w') (ho:h'.ok w') (hb:h'.blk=h.blk∨∃g,h'.blk=some g∧w.heap.size≤g):Mem E I [h'] w':=
 (hm.turn (i:=0) rfl k ho hb).hd
theorem B1k (n:Nat):(Builtin.zeroCells (Value.string ⟨#[]⟩).cells n).toList.length=n:=by simp[Builtin.zeroCells,Value.cells]
theorem B68 (L:Proofs.Lays2.n22 P ρ) {I:O5}{ty:TypeId} (hty:ρ.t 9=ty) {n k vb cp:Nat}{a:Option Addr}{xs:List Value} (u:List UInt8) (hk:k≤n) (hn:n≤1000000000000) (h1:xs.all (·.oneCell')=true):
  CalM P (ρ.f 22) #[.slice a n cp,.int .i64 k,.slice (some ⟨vb,0,none⟩) 1 1] I [.row (.slice a n cp) ty 1 n xs,.row (.slice (some ⟨vb,0,none⟩) 1 1) ty 1 1 [str u]]
   (fun v _ H'=> ∃a' cp',v=.slice a' (n+1) cp'∧H'= [.row (.slice a' (n+1) cp') ty 1 (n+1) (xs.take k++str u::xs.drop k)]):=by
 refine CalM.of fun w E hm=>?_
 have hV:w.ownsRow 0 ty 1 (.slice (some ⟨vb,0,none⟩) 1 1) 1 [str u]:=hm.ok _ (List.mem_cons_of_mem _ List.mem_cons_self)
 have hR:w.ownsRow 0 ty 1 (.slice a n cp) n xs:=hm.ok _ List.mem_cons_self
 have hxl:xs.length=n:=by have:=hR.1;omega
 have h1':∀v∈xs,v.oneCell'=true:=fun v hv=>List.all_eq_true.1 h1 v hv
 have hu:∀v∈ [str u],v.oneCell'=true:=fun v hv=>by
  obtain rfl:v=str u:=by simpa using hv
  rfl
 obtain⟨curv,hvg,hvs,hvt⟩:∃curv:Array Value,w.heap[vb]?=some (.cells curv ty (0,0))∧curv.size=1∧curv.toList.take (1 *1)= [str u]:=by
  rcases hV.2 with ⟨h,_⟩|⟨g,cap,cur,hv,_,hg,_,_,hs,ht⟩
  ·cases h
  ·injection hv with e1 _ e3
   injection e1 with e1
   injection e1 with e1
   subst e1;subst e3
   exact⟨cur,hg,by rw[hs],ht⟩
 have hvc:∀(j:Nat) (v:Value),[str u][j]?=some v→w.cell? ⟨vb,0+j,none⟩=some v:=fun j v hj=>A8M (n:=1) (sz:=1) hvg hvt hj
 have hbig:(n+1) *16≤140737488355328:=by omega
 have hml:n+1≤maxLen:=by simp only[maxLen];omega
 have fresh:∀(w':World) (cap:Nat) (cells:List Value),Kept [] w w'→w'.heap[w.heap.size]?=some (.cells cells.toArray ty (0,0))→cells.length=cap→n+1≤cap→cap≤maxLen→cells.take (n+1)=xs.take k++str u::xs.drop k→
   ∃I' H',(∃a' cp',Value.slice (some ⟨w.heap.size,0,none⟩) (n+1) cap=.slice a' (n+1) cp'∧H'= [.row (.slice a' (n+1) cp') ty 1 (n+1) (xs.take k++str u::xs.drop k)])∧Mem E I' H' w':=fun w' cap cells hk' hh hcl hc1 hc2 ht=>
  ⟨I,_,⟨_,_,rfl,rfl⟩,hm.turn2 (hk'.mono (fun _ h=>by cases h)) ⟨by rw[List.length_append,List.length_cons,List.length_take,List.length_drop];omega,.inr ⟨w.heap.size,cap,cells.toArray,rfl,Nat.zero_le _,hh,hc1,hc2,by simp[hcl],by simpa using ht⟩⟩ (.inr ⟨w.heap.size,rfl,Nat.le_refl _⟩)⟩
 rcases hR.2 with ⟨hv,h0⟩|⟨g,cap,cur,hv,_,hg,hc,hcm,hs,ht⟩
 · -- none
  injection hv with e1 e2 e3
  subst e1;subst e3
  obtain rfl:xs= []:=List.eq_nil_of_length_eq_zero (by omega)
  obtain rfl:k=0:=by omega
  subst h0
  refine⟨Calls.mono (Proofs.Any2.slices_Insert_string_end_grow L none 0 0 vb 0 1 1 [] [str u] w (by omega) (by omega) (by omega) (by omega) rfl rfl (fun _=>rfl) (fun _ h=>by cases h) hvc hu) (fun e w' q=>?_)⟩
  obtain⟨rfl,rfl⟩:=q
  rw[hty]
  have hge:=grownCap_ge w (0+1) 0 ty
  exact fresh _ (grownCap w (0+1) 0 ty) ([str u]++(Builtin.zeroCells (Value.string ⟨#[]⟩).cells (grownCap w (0+1) 0 ty-(0+1))).toList) ((Kept.drew w).trans (Kept.alloc _ _)) (by rw[show w.heap.size=w.drew.heap.size from rfl,heap_alloc_new];simp) (by rw[List.length_append,B1k,List.length_singleton];omega) hge (grownCap_le_maxLen w _ _ _ hml) (by simp)
 ·injection hv with e1 e2 e3
  subst e1;subst e3
  obtain⟨cL,rfl⟩:∃cL:List Value,cur=cL.toArray:=⟨cur.toList,by simp⟩
  have hs':cL.length=cp:=by simpa using hs
  have ht':cL.take n=xs:=by simpa using ht
  have hcell:∀(j:Nat) (v:Value),xs[j]?=some v→w.cell? ⟨g,0+j,none⟩=some v:=fun j v hj=>A8M (n:=n) (sz:=1) hg ht hj
  have hsp:∀j,j<cp→(w.cell? ⟨g,0+j,none⟩).isSome=true:=fun j hj=>by
   rw[Nat.zero_add,A1A (v:=cL[j]'(by omega)) hg (by rw[List.getElem?_toArray,List.getElem?_eq_getElem])];rfl
  have hfz:∀b o,(w.heap[b]?=some (.cells cL.toArray ty (0,0))∨w.heap[b]?=some (.cells curv ty (0,0)))→w.frozen? ⟨b,o,none⟩=false:=fun b o h=>by
   rcases h with h|h<;>simp[World.frozen?,h]
  have hne:vb≠g:=fun e=>by
   have:=(List.pairwise_cons.1 hm.dist).1 _ (List.mem_cons_self) g rfl
   exact this (by rw[←e];rfl)
  rcases Nat.lt_or_ge n cp with hroom|hroom
  · -- room
   have place:∀(w':World) (cells:List Value),Kept [g] w w'→w'.heap[g]?=some (.cells cells.toArray ty (0,0))→cells.length=cp→cells.take (n+1)=xs.take k++str u::xs.drop k→
     ∃I' H',(∃a' cp',Value.slice (some ⟨g,0,none⟩) (n+1) cp=.slice a' (n+1) cp'∧H'= [.row (.slice a' (n+1) cp') ty 1 (n+1) (xs.take k++str u::xs.drop k)])∧Mem E I' H' w':=fun w' cells hk' hh hcl ht=>
    ⟨I,_,⟨_,_,rfl,rfl⟩,hm.turn2 (h:=.row (.slice (some ⟨g,0,none⟩) n cp) ty 1 n xs) hk' ⟨by rw[List.length_append,List.length_cons,List.length_take,List.length_drop];omega,.inr ⟨g,cp,cells.toArray,rfl,Nat.zero_le _,hh,by omega,hcm,by simp[hcl],by simpa using ht⟩⟩ (.inl rfl)⟩
   rcases Nat.lt_or_ge k n with hkn|hkn
   ·refine⟨Calls.mono (Proofs.Any2.slices_Insert_string_shift L g 0 n cp k vb 0 1 1 xs [str u] w hkn (by omega) (by omega) (by simp only[maxLen] at hcm;omega) hne hxl rfl hcell (fun j hj=>hsp j (by omega)) (fun j _=>hfz _ _ (.inl hg)) hvc h1' hu
     ty ty 1 cp (by simp[World.shape?,hvg,hvs]) (by simp[World.shape?,hg,hs']) (by omega) (hfz _ _ (.inr hvg)) (hfz _ _ (.inr hvg))) (fun e w' q=>?_)⟩
    obtain⟨rfl,rfl⟩:=q
    have hdl:(xs.drop k).length=n-k:=by rw[List.length_drop,hxl]
    have g1:=A1G (xs.drop k) (0+(k+1)) w.drew cL hg (by rw[hdl];omega)
    have g2:=A1G [str u] (0+k) _ _ g1 (by simp[hdl];omega)
    refine place _ _ (((Kept.drew w).mono (fun _ h=>by cases h)).trans ((A1H g _ _ _).trans (A1H g _ _ _))) g2 ?_ ?_
    ·simp only[Nat.zero_add,List.length_append,List.length_take,List.length_drop,List.length_cons,List.length_nil]
     omega
    ·have e1:cL.take (0+(k+1))=xs.take k++ [cL[k]'(by omega)]:=by
      have e0:xs.take k=cL.take k:=by rw[show xs=cL.take n from ht'.symm,List.take_take,Nat.min_eq_left (by omega)]
      rw[Nat.zero_add,List.take_succ_eq_append_getElem (by omega),e0]
     rw[e1,hdl]
     simp only[Nat.zero_add,List.length_singleton]
     have e2:((xs.take k++ [cL[k]'(by omega)])++(xs.drop k++cL.drop (k+1+(n-k)))).take k=xs.take k:=by
      rw[List.append_assoc,List.take_append_of_le_length (by rw[List.length_take];omega),List.take_take,Nat.min_self]
     have e3:((xs.take k++ [cL[k]'(by omega)])++(xs.drop k++cL.drop (k+1+(n-k)))).drop (k+1)=xs.drop k++cL.drop (k+1+(n-k)):=by
      rw[List.drop_append_of_le_length (by rw[List.length_append,List.length_take];simp;omega),List.drop_of_length_le (by rw[List.length_append,List.length_take];simp;omega),List.nil_append]
     rw[e2,e3]
     rw[List.take_append,List.take_of_length_le (by rw[List.length_take];omega),List.length_take,hxl,Nat.min_eq_left hk]
     congr 1
     rw[show n+1-k=(n-k)+1 by omega,List.singleton_append,List.take_succ_cons,List.take_append_of_le_length (by rw[hdl];omega),List.take_of_length_le (by rw[hdl];omega)]
   ·obtain rfl:k=n:=by omega
    refine⟨Calls.mono (Proofs.Any2.slices_Insert_string_end_room L g 0 k cp vb 0 1 1 [str u] w (by omega) (by omega) (by simp only[maxLen] at hcm;omega) rfl (fun j hj=>by rw[Nat.add_assoc];exact hsp _ (by omega)) (fun j _=>hfz _ _ (.inl hg)) hvc hu) (fun e w' q=>?_)⟩
    obtain⟨rfl,rfl⟩:=q
    have g1:=A1G [str u] (0+k) w cL hg (by simp;omega)
    refine place _ _ (A1H g _ _ _) g1 ?_ ?_
    ·simp only[Nat.zero_add,List.length_append,List.length_take,List.length_drop,List.length_cons,List.length_nil]
     omega
    ·simp only[Nat.zero_add,List.length_singleton]
     rw[ht',List.take_of_length_le (l:=xs) (by omega),List.drop_of_length_le (l:=xs) (by omega), ←List.append_assoc,List.take_append_of_le_length (by rw[List.length_append,hxl];simp),List.take_of_length_le (by rw[List.length_append,hxl];simp)]
  · -- none
   obtain rfl:n=cp:=by omega
   rcases Nat.lt_or_ge k n with hkn|hkn
   ·refine⟨Calls.mono (Proofs.Any2.slices_Insert_string_grow L g 0 n n k vb 0 1 1 xs [str u] w hkn (by omega) (by omega) (by omega) (by omega) hxl rfl hcell hvc h1' hu) (fun e w' q=>?_)⟩
    obtain⟨rfl,rfl⟩:=q
    rw[hty]
    have hge:=grownCap_ge w (n+1) n ty
    have hdl:(xs.drop k).length=n-k:=by rw[List.length_drop,hxl]
    generalize hG:grownCap w (n+1) n ty=G at hge ⊢
    have hGm:G≤maxLen:=by rw[←hG];exact grownCap_le_maxLen w _ _ _ hml
    obtain⟨zs,hzs⟩:∃zs:List Value,(Builtin.zeroCells (Value.string ⟨#[]⟩).cells (n+1-k)++Builtin.zeroCells (Value.string ⟨#[]⟩).cells (G-(n+1))).toList=zs:=⟨_,rfl⟩
    have hzl:zs.length=G-k:=by rw[←hzs,Array.toList_append,List.length_append,B1k,B1k];omega
    have hcells:((xs.take k).toArray++Builtin.zeroCells (Value.string ⟨#[]⟩).cells (n+1-k)++Builtin.zeroCells (Value.string ⟨#[]⟩).cells (G-(n+1)))=(xs.take k++zs).toArray:=by
     rw[←hzs];simp
    rw[hcells]
    have hl0:(xs.take k++zs).length=G:=by rw[List.length_append,List.length_take,hzl];omega
    have g0:=heap_alloc_new w (.cells (xs.take k++zs).toArray ty (0,0))
    have g1:=A1G [str u] k (w.alloc (.cells (xs.take k++zs).toArray ty (0,0))).drew (xs.take k++zs) g0 (by simp[hl0];omega)
    have g2:=A1G (xs.drop k) (k+1) (((w.alloc (.cells (xs.take k++zs).toArray ty (0,0))).drew.setCells w.heap.size k [str u]).drew) _ g1 (by simp[hzl,hdl];omega)
    have kk:Kept [] w ((((w.alloc (.cells (xs.take k++zs).toArray ty (0,0))).drew.setCells w.heap.size k [str u]).drew).setCells w.heap.size (k+1) (xs.drop k)):=by
     refine Kept.step (Y:= [w.heap.size]) (Kept.alloc w (.cells (xs.take k++zs).toArray ty (0,0))) ?_ (fun x hx=> .inr (by simp at hx;omega))
     exact((Kept.drew _).mono (fun _ h=>by cases h)).trans ((A1H _ _ _ _).trans (((Kept.drew _).mono (fun _ h=>by cases h)).trans (A1H _ _ _ _)))
    refine fresh _ G _ kk g2 ?_ hge hGm ?_
    ·simp only[List.length_append,List.length_take,List.length_drop,List.length_cons,List.length_nil,hzl]
     omega
    ·have e1:(xs.take k++zs).take k=xs.take k:=by
      rw[List.take_append_of_le_length (by rw[List.length_take];omega),List.take_take,Nat.min_self]
     rw[e1]
     have e2:(xs.take k++([str u]++(xs.take k++zs).drop (k+ [str u].length))).take (k+1)=xs.take k++ [str u]:=by
      rw[←List.append_assoc,List.take_append_of_le_length (by rw[List.length_append,List.length_take];simp;omega),List.take_of_length_le (by rw[List.length_append,List.length_take];simp;omega)]
     rw[e2, ←List.append_assoc,List.take_append_of_le_length (by simp only[List.length_append,List.length_take,hdl,List.length_singleton];omega),List.take_of_length_le (by simp only[List.length_append,List.length_take,hdl,List.length_singleton];omega),List.append_assoc];rfl
   ·obtain rfl:k=n:=by omega
    refine⟨Calls.mono (Proofs.Any2.slices_Insert_string_end_grow L (some ⟨g,0,none⟩) k k vb 0 1 1 xs [str u] w (by omega) (by omega) (by omega) (by omega) hxl rfl (fun h=>by cases h) (fun ad had j v hj=>by cases had;rw[Addr.add_lit];exact hcell j v hj) hvc hu) (fun e w' q=>?_)⟩
    obtain⟨rfl,rfl⟩:=q
    rw[hty]
    have hge:=grownCap_ge w (k+1) k ty
    exact fresh _ (grownCap w (k+1) k ty) ((xs++ [str u])++(Builtin.zeroCells (Value.string ⟨#[]⟩).cells (grownCap w (k+1) k ty-(k+1))).toList) ((Kept.drew w).trans (Kept.alloc _ _)) (by rw[show w.heap.size=w.drew.heap.size from rfl,heap_alloc_new];simp) (by rw[List.length_append,B1k];simp[hxl];omega) hge (grownCap_le_maxLen w _ _ _ hml)
     (by rw[List.take_append_of_le_length (by simp[hxl]),List.take_of_length_le (by simp[hxl]),List.take_of_length_le (l:=xs) (by omega),List.drop_of_length_le (l:=xs) (by omega)])
end
end Go.Fw
end
section
namespace Go.Fw
theorem B5m {l:List (List UInt8)}{k:Nat}{s:List UInt8}:((l.take k++s::l.drop k).flatMap A33)=(l.flatMap A33).take k++str s::(l.flatMap A33).drop k:=by
 rw[A6G,A6G,List.map_append,List.map_cons,List.map_take,List.map_drop]
theorem C1t {x y z:HItem}: [x,y,z].Perm [y,z,x]:=List.perm_append_comm (l₁:= [x]) (l₂:= [y,z])
theorem B5n (l:List (List UInt8)):(l.flatMap A33).all (·.oneCell')=true:=by
 induction l with
 |nil=>rfl
 |cons p l ih=>rw[List.flatMap_cons,List.all_append,ih];rfl
end Go.Fw
namespace Go.Proofs.YtfjdfdgpkncpfaaGreatDoor
open Go.Proofs.Tryz
open Go.Fw
abbrev A3T (l:List (List UInt8)) (a:Option Addr) (cp:Nat):HItem:=.row (.slice a l.length cp) 9 1 l.length (l.flatMap A33)
abbrev C0J (l:List (List UInt8)):Value→O5→List HItem→Prop:=fun v _ H'=> ∃a cp,v=.slice a l.length cp∧H'= [A3T l a cp]
theorem B1O (I:O5) (l:List (List UInt8)) (a:Option Addr) (cp:Nat) (s:List UInt8) (hs:Sp.Srt l) (hn:l.length≤1000000000):
  CalR prog 165 #[.slice a l.length cp,str s] I [A3T l a cp] (.tuple #[nt (A3O l s),.bool (decide (s∈l))]):=
 B69 Tryz.laysNm226 s hs (by omega)
theorem B6y (I:O5) (l:List (List UInt8)) (a:Option Addr) (cp vb:Nat) (s:List UInt8) (hs:Sp.Srt l) (hn:l.length≤1000000000) (_:s∉l):
  CalM prog 166 #[.slice a l.length cp,nt (A3O l s),.slice (some ⟨vb,0,none⟩) 1 1] I [A3T l a cp,.row (.slice (some ⟨vb,0,none⟩) 1 1) 9 1 1 [str s]] (C0J (Sp.A4Q s l)):=by
 obtain⟨h1,h2,h3⟩:=A6S (s:=s) hs
 have h:=B68 Tryz.laysNm222 (I:=I) (ty:=9) rfl (n:=l.length) (k:=A3O l s) (vb:=vb) (cp:=cp) (a:=a) (xs:=l.flatMap A33) s h3 (by omega) (B5n l)
 refine h.mono (fun v J H' _ hp=>?_)
 obtain⟨a',cp',rfl,rfl⟩:=hp
 have e:=Sp.B4z h3 (fun j x hj hx=>h1 j x hj hx) (fun x hx=>h2 _ x (Nat.le_refl _) hx)
 refine⟨a',cp',by rw[Sp.A5u],?_⟩
 rw[←B5m, ←e]
 show _= [HItem.row (.slice a' (Sp.A4Q s l).length cp') _ 1 (Sp.A4Q s l).length _]
 rw[Sp.A5u]
theorem B6x (I:O5) (l:List (List UInt8)) (a:Option Addr) (cp:Nat) (s:List UInt8) (hs:Sp.Srt l) (hn:l.length≤1000000000):
  CalM prog 142 #[.slice a l.length cp,str s] I [A3T l a cp] (C0J (Sp.A1P l s)):=by
 refine CalM.of fun w E hm=>enter (N:=24) func142 rfl [(0,.slice a l.length cp),(1,str s)] A0B rfl ?_
 have hS:=B1O I l a cp s hs hn
 by_cases h0:s= []∨s∈l
 ·rw[Sp.A7d h0]
  by_cases hm1:s∈l
  ·rw[decide_eq_true hm1] at hS
   repeat' (first|(refine L9 (d:=10) ?_ hm (hc:=hS);clear hm;intro _ hm)|refine D7 ?_|refine D5 ?_|refine J8 ?_|refine V9 ?_|refine Y1 ?_|refine D8 ?_|refine A7 ?_|refine G5 ?_|refine E5 ?_|refine A8 ?_|refine G8 ?_|refine H5 ?_|refine F9 ?_)
   all_goals try first|omega|contradiction
   exact⟨I,_,⟨a,cp,rfl,rfl⟩,hm⟩
  ·rw[decide_eq_false hm1] at hS
   have hs0:s= []:=h0.resolve_right hm1
   subst hs0
   repeat' (first|(refine L9 (d:=10) ?_ hm (hc:=hS);clear hm;intro _ hm)|refine D7 ?_|refine D5 ?_|refine J3 ?_|refine U0 ?_|refine V9 ?_|refine D8 ?_|refine A7 ?_|refine G5 ?_|refine E5 ?_|refine A8 ?_|refine G8 ?_|refine H5 ?_|refine F9 ?_)
   all_goals try first|omega|contradiction
   exact⟨I,_,⟨a,cp,rfl,rfl⟩,hm⟩
 ·rw[Sp.B6e h0]
  have hm1:s∉l:=fun h=>h0 (.inr h)
  have hs0:s≠ []:=fun h=>h0 (.inl h)
  rw[decide_eq_false hm1] at hS
  have hI:=fun vb=>B6y I l a cp vb s hs hn hm1
  repeat' (first|(refine L9 (d:=10) ?_ hm (hc:=hS);clear hm;intro _ hm)|(refine A2J (d:=22) ?_ hm;clear hm;intro bb _ hm)|(refine F5 (d:=23) ?_ hm (hp:=List.Perm.swap _ _ _) (hc:=hI bb);clear hm;rintro _ I2 _ _ ⟨a2,cp2,rfl,rfl⟩ hleI2 hm;try simp only[F7] at hm)|refine D7 ?_|refine D5 ?_|refine J3 ?_|refine U0 ?_|refine V9 ?_|refine D8 ?_|refine A7 ?_|refine E5 ?_|refine A8 ?_|refine F8 ?_|refine G8 ?_|refine H5 ?_|(refine D6 (ht:=fun _=>?_) (hf:=fun _=>?_)<;>(try first|contradiction|(exfalso;omega))))
  all_goals try first|omega|contradiction
  exact⟨I2,_,⟨a2,cp2,rfl,rfl⟩,hm⟩
abbrev B20 (bd:Nat) (q:List (List UInt8)×List (List UInt8)) (sa:Option Addr) (sp:Nat) (ca:Option Addr) (cp:Nat):List HItem:=
 [.cell bd [.slice sa q.1.length sp,.slice ca q.2.length cp] 261,A3T q.1 sa sp,A3T q.2 ca cp]
abbrev C0H (bd:Nat) (q:List (List UInt8)×List (List UInt8)):Value→O5→List HItem→Prop:=fun v _ H'=>v=.tuple #[]∧∃sa sp ca cp,H'=B20 bd q sa sp ca cp
structure EfX where
 k:Nat
 I:O5
 sa:Option Addr
 sp:Nat
 ca:Option Addr
 cp:Nat
theorem B9Q {bd:Nat}:∀(n:Nat) (e:Sp.Ex),SizeOf.sizeOf e≤n→e.small→∀(I:O5) (b o tc:Nat) (ea:Option Addr) (ec:Nat) (ys:List Value) (q:List (List UInt8)×List (List UInt8)) (sa:Option Addr) (sp:Nat) (ca:Option Addr) (cp:Nat),
  Sp.Srt q.2→q.2.length+e.cnt≤1000000000→PtrI I b o tc (A0d e ea ec)→RowI I 107 6 (.slice ea e.args.length ec) e.args.length ys→V5 I e.args ys→
  CalM prog 178 #[ptr bd,.pointer (some ⟨b,o,none⟩)] I (B20 bd q sa sp ca cp) (C0H bd (q.1,Sp.exE e q.2)):=by
 intro n
 induction n with
 |zero=>intro e h;cases e;simp at h
 |succ n ih=>
 intro e hsz hsm I b o tc ea ec ys q sa sp ca cp hq hn hp hr hx
 obtain⟨hal,hasm⟩:=Sp.A2q hsm
 have hcnt:=Sp.Ex.cnt_eq e
 refine CalM.of fun w E hm=>enter (N:=39) func178 rfl [(0,ptr bd),(1,.pointer (some ⟨b,o,none⟩))] A0B rfl ?_
 rw[Sp.B9R]
 obtain⟨c1,hc1⟩:∃c1,c1=if e.kind=4 then Sp.A1P q.2 e.name else q.2:=⟨_,rfl⟩
 rw[←hc1]
 have hc1n:q.2.length≤c1.length∧c1.length≤q.2.length+1:=by
  have:=Sp.A6u q.2 e.name
  rw[hc1];split<;>omega
 have hc1s:Sp.Srt c1:=by
  rw[hc1];split
  ·exact Sp.A5i hq _
  ·exact hq
 repeat' (first|(refine A4e 0 (fun _:EfX=> [(0,ptr bd),(1,.pointer (some ⟨b,o,none⟩))]) (fun x w'=>Mem E x.I (B20 bd (q.1,c1) x.sa x.sp x.ca x.cp) w'∧Le I x.I) ?_ ?_))
 ·refine⟨?_⟩
  by_cases k4:e.kind=4
  ·rw[if_pos k4] at hc1
   have hA:=B6x I q.2 ca cp e.name hq (by omega)
   rw[←hc1] at hA
   repeat' (first|(refine A0I (id:=1) (hm.perm pm1_2) [0,1,2,3,4,5,6,7,8] [9] 10 (h:=?_);clear hm;intro wd hR hm)|(refine Z7 (d:=19) ?_ hm (hc:=hA);clear hm;rintro _ I2 _ _ ⟨a2,cp2,rfl,rfl⟩ hle hm;have hleI2:=hle;try simp only[F7] at hm)|refine Y7 ?_ hR|refine A0C ?_ hR|(refine A1l ?_;replace hm:=hR.back hm;clear hR;try simp only[F7] at hm)|refine H9 ?_ hm|(refine J6 hm (k:=?_);clear hm;intro _ hm;try simp only[F7] at hm)|refine D7 ?_|refine L8 ?_|refine E8 ?_|refine C9 ?_|refine D8 ?_|refine A7 ?_|refine E5 ?_|refine A8 ?_|(refine D6 (ht:=fun _=>?_) (hf:=fun _=>?_)<;>(try first|contradiction|(exfalso;omega)))|refine A0P ?_|refine X5 ?_|refine Q3 ?_|refine A0s ?_)
   all_goals try omega
   exact Y6 (⟨0,I2,sa,sp,a2,cp2⟩:EfX) (by exact⟨rfl,rfl,trivial⟩) ⟨hm.perm C1t,hleI2⟩
  ·rw[if_neg k4] at hc1
   subst hc1
   repeat' (first|refine H9 ?_ hm|refine D7 ?_|refine L8 ?_|refine E8 ?_|refine C9 ?_|refine D8 ?_|refine A7 ?_|refine E5 ?_|refine A8 ?_|refine F8 ?_|(refine D6 (ht:=fun _=>?_) (hf:=fun _=>?_)<;>(try first|contradiction|(exfalso;omega))))
   all_goals try omega
   exact Y6 (⟨0,I,sa,sp,ca,cp⟩:EfX) (by exact⟨rfl,rfl,trivial⟩) ⟨hm,Le.refl _⟩
 ·clear hm hc1
  rintro⟨_,I1,sa1,sp1,ca1,cp1⟩ w1 ⟨hm,hle1⟩
  dsimp only at hm hle1 ⊢
  have hp1:=hp.le hle1
  repeat' (first|refine H9 ?_ hm|refine D7 ?_|refine G7 ?_|refine E8 ?_|refine C9 ?_|refine D8 ?_|refine A7 ?_|refine E5 ?_|refine A8 ?_|refine E9 ?_)
  all_goals try omega
  refine U4 (fun x:EfX=> [(0,ptr bd),(1,.pointer (some ⟨b,o,none⟩)),(26,nt e.args.length),(27,nt x.k)])
   (fun x w'=>Mem E x.I (B20 bd (q.1,Sp.A2n (e.args.take x.k) c1) x.sa x.sp x.ca x.cp) w'∧Le I x.I∧x.k≤e.args.length) (fun x=>e.args.length-x.k) ⟨0,I1,sa1,sp1,ca1,cp1⟩
   (by exact⟨rfl,rfl,rfl,rfl,trivial⟩) ⟨by dsimp only;rw[List.take_zero,Sp.A2n];exact hm,hle1,Nat.zero_le _⟩ ?_
  clear hm hle1 hp1
  rintro⟨k,I2,sa2,sp2,ca2,cp2⟩ w2 ⟨hm,hle2,hk⟩
  dsimp only at hm hle2 hk ⊢
  have hp2:=hp.le hle2
  have hrow:=hr.le hle2
  by_cases hlt:k<e.args.length
  ·have hg:e.args[k]?=some e.args[k]:=List.getElem?_eq_getElem hlt
   have hsz2:=Sp.A12 (List.getElem_mem hlt)
   have hsm2:=Sp.A0G hasm hg
   obtain⟨ea2,ec2,ys2,hc2,hr2,hx2⟩:=(hx.get hg).out
   generalize e.args[k]=y at hg hsz2 hsm2 hc2 hr2 hx2
   have hst:=Sp.B5f hg c1
   have hcy:=Sp.A3B hg
   have hnn:=Sp.B3d (e.args.take k) c1
   have hss:=Sp.A8T (e.args.take k) hc1s
   generalize Sp.A2n (e.args.take k) c1=c2 at hm hst hnn hss
   have hcl:=fun b o tc (hpt:PtrI I2 b o tc (A0d y ea2 ec2))=>ih y (by omega) hsm2 I2 b o tc ea2 ec2 ys2 (q.1,c2) sa2 sp2 ca2 cp2 hss (by dsimp only;omega) hpt (hr2.le hle2) (V5.le hle2 _ _ hx2)
   repeat' (first|(refine L6 (d:=36) ?_ (hr:=hrow);intro bt ot hpt;rw[show ((k:Int).toNat *6)=k *6 from rfl,hc2] at hpt)|(refine F5 (d:=37) ?_ hm (hc:=hcl _ _ _ hpt);clear hm;rintro _ I3 _ _ ⟨rfl,sa3,sp3,ca3,cp3,rfl⟩ hle hm;have hleI3:=hle;try simp only[F7] at hm)|refine H9 ?_ hm|refine D7 ?_|refine D5 ?_|refine J5 ?_|refine E8 ?_|refine Q4 ?_|refine C9 ?_|refine D8 ?_|refine A7 ?_|refine D9 ?_|refine E5 ?_|refine A8 ?_|refine E9 ?_|refine F8 ?_|(refine D6 (ht:=fun _=>?_) (hf:=fun _=>?_)<;>(try first|contradiction|(exfalso;omega))))
   all_goals try omega
   exact J9 (⟨k+1,I3,sa3,sp3,ca3,cp3⟩:EfX) (by exact⟨rfl,rfl,rfl,rfl,trivial⟩) ⟨by dsimp only;rw[hst];exact hm,hle2.trans hleI3,by dsimp only;omega⟩ (by dsimp only;omega)
  ·obtain rfl:k=e.args.length:=by omega
   rw[List.take_length] at hm
   repeat' (first|refine J5 ?_|refine D8 ?_|refine A7 ?_|refine G9 ?_|refine G6 ?_|refine E5 ?_|refine A8 ?_|refine O4 ?_|refine X3 ?_|(refine D6 (ht:=fun _=>?_) (hf:=fun _=>?_)<;>(try first|contradiction|(exfalso;omega))))
   all_goals try omega
   exact⟨I2,_,⟨rfl,sa2,sp2,ca2,cp2,rfl⟩,hm⟩
end Go.Proofs.YtfjdfdgpkncpfaaGreatDoor
end
section
namespace Go.Sp
structure Itm.fit (it:Itm):Prop where
 sends:it.sends.length≤1000000000
 body:it.body.length≤40
 stms:X4 it.body
theorem Itm.small.fit {it:Itm} (h:it.small):it.fit:=⟨by have:=h.sends;omega,h.body,h.stms⟩
end Go.Sp
namespace Go.Proofs.YtfjdfdgpkncpfaaGreatDoor
open Go.Proofs.Tryz
open Go.Fw
theorem B85 {I:O5}{x:Sp.Stm}{b o tc ec:Nat}{ea:Option Addr}{v1 v2:Value} (hp:PtrI I b o tc (A44 x.kind x.name x.at_ x.label x.opn x.e ea ec v1 v2 x.fr x.to)):PtrI I b (o+5) tc (A0d x.e ea ec):=
 hp.sub (cs':=A0d x.e ea ec) 5 (fun j u hj=>by
  match j,hj with
  |0,hj=>exact hj
  |1,hj=>exact hj
  |2,hj=>exact hj
  |3,hj=>exact hj
  |4,hj=>exact hj
  |5,hj=>exact hj
  |j+6,hj=>cases hj)
theorem B8r {bd:Nat}:∀(n:Nat) (l:List Sp.Stm),SizeOf.sizeOf l≤n→l.length≤64→Sp.X4 l→∀(I:O5) (ab:Option Addr) (cb:Nat) (xb:List Value) (q:List (List UInt8)×List (List UInt8)) (sa:Option Addr) (sp:Nat) (ca:Option Addr) (cp:Nat),
  Sp.Srt q.1∧Sp.Srt q.2→q.1.length+q.2.length+Sp.N7 l≤1000000000→RowI I 109 15 (.slice ab l.length cb) l.length xb→U8 I l xb→
  CalM prog 164 #[ptr bd,.slice ab l.length cb] I (B20 bd q sa sp ca cp) (C0H bd (Sp.Z9 l q)):=by
 intro n
 induction n with
 |zero=>intro l h;cases l<;>simp at h
 |succ n ih=>
 intro l hsz hll hsm I ab cb xb q sa sp ca cp hq hn hr hx
 refine CalM.of fun w E hm=>enter (N:=49) func164 rfl [(0,ptr bd),(1,.slice ab l.length cb)] A0B rfl ?_
 repeat' (first|refine D7 ?_|refine G7 ?_|refine D8 ?_|refine A7 ?_|refine E5 ?_|refine A8 ?_|refine E9 ?_)
 refine U4 (fun x:EfX=> [(0,ptr bd),(1,.slice ab l.length cb),(7,nt l.length),(8,nt x.k)])
  (fun x w'=>Mem E x.I (B20 bd (Sp.Z9 (l.take x.k) q) x.sa x.sp x.ca x.cp) w'∧Le I x.I∧x.k≤l.length) (fun x=>l.length-x.k) ⟨0,I,sa,sp,ca,cp⟩
  (by exact⟨rfl,rfl,rfl,rfl,trivial⟩) ⟨by dsimp only;rw[List.take_zero,Sp.Z9];exact hm,Le.refl _,Nat.zero_le _⟩ ?_
 clear hm
 rintro⟨k,I1,sa1,sp1,ca1,cp1⟩ w1 ⟨hm,hle1,hk⟩
 dsimp only at hm hle1 hk ⊢
 have hrow:=hr.le hle1
 by_cases hlt:k<l.length
 ·have hg:l[k]?=some l[k]:=List.getElem?_eq_getElem hlt
  have hme:=Sp.A4B (List.getElem_mem hlt)
  obtain⟨cs,hcs⟩:∃cs,(xb.drop (k *15)).take 15=cs:=⟨_,rfl⟩
  have hat:=hx.get hg
  rw[hcs] at hat
  have hsm2:=Sp.A1J hsm hg
  generalize l[k]=y at hg hme hat hsm2
  have hst:=Sp.B3U hg q
  have hcy:=Sp.A3e hg
  have hnn:=Sp.A5U (l.take k) q
  have hss:=Sp.A3s (l.take k) hq
  generalize Sp.Z9 (l.take k) q=r at hm hst hnn hss
  obtain⟨s1,s2,s3,s4,s5⟩:=Sp.A1h hsm2
  obtain⟨z1,z2⟩:=Sp.A5C (s:=y)
  have hcnt:=Sp.Stm.cnt_eq y
  obtain⟨ea,ec,ex,a1',c1,xs1,a2',c2,xs2,rfl,hr3,hx3,hr4,hx4,hr5,hx5⟩:=hat.out
  rw[Sp.B86] at hst
  obtain⟨r1,hr1⟩:∃r1,r1=if y.kind=5 then Sp.A1P r.1 y.name else r.1:=⟨_,rfl⟩
  rw[←hr1] at hst
  have hr1n:r.1.length≤r1.length∧r1.length≤r.1.length+1:=by
   have:=Sp.A6u r.1 y.name
   rw[hr1];split<;>omega
  have hr1s:Sp.Srt r1:=by
   rw[hr1];split
   ·exact Sp.A5i hss.1 _
   ·exact hss.1
  repeat' (first|(refine L6 (d:=13) ?_ (hr:=hrow);intro bt ot hpt;rw[show ((k:Int).toNat *15)=k *15 from rfl,hcs] at hpt)|(refine A4e 4 (fun _:EfX=> [(0,ptr bd),(1,.slice ab l.length cb),(5,.pointer (some ⟨bt,ot,none⟩)),(7,nt l.length),(8,nt k)]) (fun x w'=>Mem E x.I (B20 bd (r1,r.2) x.sa x.sp x.ca x.cp) w'∧Le I1 x.I) ?_ ?_)|refine D7 ?_|refine D5 ?_|refine J5 ?_|refine D8 ?_|refine A7 ?_|refine E5 ?_|refine A8 ?_|refine E9 ?_|refine F8 ?_|(refine D6 (ht:=fun _=>?_) (hf:=fun _=>?_)<;>(try first|contradiction|(exfalso;omega))))
  ·refine⟨?_⟩
   by_cases k5:y.kind=5
   ·rw[if_pos k5] at hr1
    have hA:=B6x I1 r.1 sa1 sp1 y.name hss.1 (by omega)
    rw[←hr1] at hA
    repeat' (first|(refine A0I (id:=5) (hm.perm pm1_1) [0,1,2,3,4,5,6,7,8] [9] 10 (h:=?_);clear hm;intro wd hR hm)|(refine Z7 (d:=28) ?_ hm (hc:=hA);clear hm;rintro _ I2 _ _ ⟨a2,cp2,rfl,rfl⟩ hle hm;have hleI2:=hle;try simp only[F7] at hm)|refine Y7 ?_ hR|refine A0C ?_ hR|(refine A1l ?_;replace hm:=hR.back hm;clear hR;try simp only[F7] at hm)|refine H9 ?_ hm|(refine J6 hm (k:=?_);clear hm;intro _ hm;try simp only[F7] at hm)|refine D7 ?_|refine L8 ?_|refine E8 ?_|refine C9 ?_|refine D8 ?_|refine A7 ?_|refine E5 ?_|refine A8 ?_|(refine D6 (ht:=fun _=>?_) (hf:=fun _=>?_)<;>(try first|contradiction|(exfalso;omega)))|refine A0P ?_|refine X5 ?_|refine Q3 ?_|refine A0s ?_)
    all_goals try omega
    exact Y6 (⟨0,I2,a2,cp2,ca1,cp1⟩:EfX) (by exact⟨rfl,rfl,rfl,rfl,rfl,trivial⟩) ⟨hm.swap,hleI2⟩
   ·rw[if_neg k5] at hr1
    subst hr1
    repeat' (first|refine H9 ?_ hm|refine D7 ?_|refine L8 ?_|refine E8 ?_|refine C9 ?_|refine D8 ?_|refine A7 ?_|refine E5 ?_|refine A8 ?_|refine F8 ?_|(refine D6 (ht:=fun _=>?_) (hf:=fun _=>?_)<;>(try first|contradiction|(exfalso;omega))))
    all_goals try omega
    exact Y6 (⟨0,I1,sa1,sp1,ca1,cp1⟩:EfX) (by exact⟨rfl,rfl,rfl,rfl,rfl,trivial⟩) ⟨hm,Le.refl _⟩
  ·clear hm hr1
   rintro⟨_,I2,sa2,sp2,ca2,cp2⟩ w2 ⟨hm,hle2⟩
   dsimp only at hm hle2 ⊢
   have hpt2:=hpt.le hle2
   have hpe:=B85 hpt2
   have hE:=B9Q (bd:=bd) _ y.e (Nat.le_refl _) s1 I2 bt (ot+5) 109 ea ec ex (r1,r.2) sa2 sp2 ca2 cp2 hss.2 (by dsimp only;omega) hpe ((hr3.le hle1).le hle2) (V5.le hle2 _ _ (V5.le hle1 _ _ hx3))
   have hnE:=Sp.B6E y.e r.2
   have hsE:=Sp.B0z y.e hss.2
   dsimp only at hE
   generalize Sp.exE y.e r.2=r2 at hE hnE hsE hst
   have hT:=fun (J:O5) (m:Le I2 J) (sa:Option Addr) (sp:Nat) (ca:Option Addr) (cp:Nat)=>ih y.thn (by omega) s2 s3 J a1' c1 xs1 (r1,r2) sa sp ca cp ⟨hr1s,hsE⟩ (by dsimp only;omega) (((hr4.le hle1).le hle2).le m) (U8.le m _ _ (U8.le hle2 _ _ (U8.le hle1 _ _ hx4)))
   have hnT:=Sp.A5U y.thn (r1,r2)
   have hsT:=Sp.A3s y.thn (q:=(r1,r2)) ⟨hr1s,hsE⟩
   dsimp only at hnT
   generalize Sp.Z9 y.thn (r1,r2)=r3 at hT hnT hsT hst
   have hL:=fun (J:O5) (m:Le I2 J) (sa:Option Addr) (sp:Nat) (ca:Option Addr) (cp:Nat)=>ih y.els (by omega) s4 s5 J a2' c2 xs2 r3 sa sp ca cp hsT (by omega) (((hr5.le hle1).le hle2).le m) (U8.le m _ _ (U8.le hle2 _ _ (U8.le hle1 _ _ hx5)))
   rw[←hst] at hL
   repeat' (first|(refine F5 (d:=35) ?_ hm (hc:=hE);clear hm;rintro _ I3 _ _ ⟨rfl,sa3,sp3,ca3,cp3,rfl⟩ hle hm;have hleI3:=hle;try simp only[F7] at hm;replace hpt2:=hpt2.le hleI3)|(refine F5 (d:=41) ?_ hm (hc:=hT I3 hleI3 _ _ _ _);clear hm;rintro _ I4 _ _ ⟨rfl,sa4,sp4,ca4,cp4,rfl⟩ hle hm;have hleI4:=hle;try simp only[F7] at hm;replace hpt2:=hpt2.le hleI4)|(refine F5 (d:=47) ?_ hm (hc:=hL I4 (hleI3.trans hleI4) _ _ _ _);clear hm;rintro _ I5 _ _ ⟨rfl,sa5,sp5,ca5,cp5,rfl⟩ hle hm;have hleI5:=hle;try simp only[F7] at hm)|refine H9 ?_ hm|refine D7 ?_|refine E8 ?_|refine Q4 ?_|refine C9 ?_|refine D8 ?_|refine A7 ?_|refine D9 ?_|refine E5 ?_|refine A8 ?_)
   all_goals try omega
   exact J9 (⟨k+1,I5,sa5,sp5,ca5,cp5⟩:EfX) (by exact⟨rfl,rfl,rfl,rfl,trivial⟩) ⟨hm,(((hle1.trans hle2).trans hleI3).trans hleI4).trans hleI5,by dsimp only;omega⟩ (by dsimp only;omega)
 ·obtain rfl:k=l.length:=by omega
  rw[List.take_length] at hm
  repeat' (first|refine J5 ?_|refine D8 ?_|refine A7 ?_|refine G9 ?_|refine G6 ?_|refine E5 ?_|refine A8 ?_|refine O4 ?_|refine X3 ?_|(refine D6 (ht:=fun _=>?_) (hf:=fun _=>?_)<;>(try first|contradiction|(exfalso;omega))))
  all_goals try omega
  exact⟨I1,_,⟨rfl,sa1,sp1,ca1,cp1,rfl⟩,hm⟩
theorem _root_.Go.Fw.pmEg {x y z:HItem}{r:List HItem}:(x::y::z::r).Perm (z::x::y::r):=(List.perm_append_comm (l₁:= [x,y]) (l₂:= [z])).append_right r
abbrev C0L (it:Sp.Itm):Value→O5→List HItem→Prop:=fun v _ H'=> ∃sa sp ca cp,v=.tuple #[.slice sa (Sp.A2M it).1.length sp,.slice ca (Sp.A2M it).2.length cp]∧H'= [A3T (Sp.A2M it).1 sa sp,A3T (Sp.A2M it).2 ca cp]
theorem C0Y (it:Sp.Itm) (hs:it.fit) (hcn:Sp.N7 it.body≤400000000) (I:O5) (cs:List Value) (hi:A5g I it cs):CalM prog 141 #[.agg cs.toArray] I [] (C0L it):=by
 obtain⟨ap,cp,as_,cs',ab,cb,ad,cd,xb,rfl,r1,r2,r3,r4,r5⟩:=hi
 have hsb:=hs.body
 have hS:=fun (J:O5) (m:Le I J) (bd:Nat)=>B8r (bd:=bd) _ it.body (Nat.le_refl _) (by omega) hs.stms J ab cb xb ([],[]) none 0 none 0 ⟨Sp.Srt.nil,Sp.Srt.nil⟩ (by simp;omega) (r3.le m) (U8.le m _ _ r4)
 rw[show Sp.Z9 it.body ([],[])=Sp.A2M it from rfl] at hS
 refine CalM.of fun w E hm=>enter (N:=19) func141 rfl [(0,.agg (A1m it.kind it.name it.label (.slice ap it.params.length cp) (.slice as_ it.sends.length cs') (.slice ab it.body.length cb) it.at_ it.size it.mark (.slice ad it.diags.length cd)).toArray)] Z4 rfl ?_
 obtain⟨r,hr⟩:∃r,r=Sp.A2M it:=⟨_,rfl⟩
 rw[←hr] at hS
 repeat' (first|refine Z5 2 ?_|(refine A0t (d:=1) ?_ hm;clear hm;intro b1 _ hm)|(refine A0t (d:=6) ?_ hm;clear hm;intro b6 _ hm)|refine D5 ?_|refine Q9 ?_|refine D8 ?_|refine A7 ?_|refine E5 ?_|refine A8 ?_)
 all_goals try omega
 have hm:=((hm.nil 9 1).nil 9 1).perm pmEg
 refine⟨?_⟩
 repeat' (first|(refine F5 (d:=10) ?_ hm (hp:=pm3_0) (hc:=hS I (Le.refl _) b6);clear hm;rintro _ I2 _ _ ⟨rfl,sa2,sp2,ca2,cp2,rfl⟩ hleI2 hm;try simp only[F7] at hm)|refine H6 ?_ hm|refine P8 ?_ hm|refine D7 ?_|refine C9 ?_|refine D8 ?_|refine A7 ?_|refine E5 ?_|refine A8 ?_|refine G8 ?_|refine B4k ?_|refine O6 ?_|(refine W9 ?_;intro _ hkq;replace hm:=hm.kept0 hkq;clear hkq)|refine U3 ?_|refine A1f ?_|refine J4 ?_|refine H7 ?_)
 all_goals try omega
 subst hr
 exact⟨I2,_,⟨sa2,sp2,ca2,cp2,rfl,rfl⟩,hm.tl.left (H:= [_,_])⟩
end Go.Proofs.YtfjdfdgpkncpfaaGreatDoor
end
