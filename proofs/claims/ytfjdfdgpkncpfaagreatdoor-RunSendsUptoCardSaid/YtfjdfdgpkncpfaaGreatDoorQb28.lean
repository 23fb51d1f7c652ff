/- Own work: texts LawRq, one behind the other. -/
import Derived.Test.YtfjdfdgpkncpfaaGreatDoorQb27
set_option maxHeartbeats 64000000
section
namespace Go.Sp
theorem B2A (its:List Itm) (nm:List UInt8) (args:List Int):(A0U its nm args).ev.length≤3000:=by
 rw[A0U]
 split
 ·exact Nat.zero_le _
 ·split
  ·exact Nat.zero_le _
  ·split
   ·exact Nat.zero_le _
   ·split
    ·exact Nat.zero_le _
    ·have h1:=A4o its 40 nm args MR0 (Nat.zero_le _)
     have h2:=h1.ev
     have h3:=h1.top
     have h4:MR0.ev.length=0:=rfl
     have h5:MR0.steps=0:=rfl
     dsimp only
     omega
def A4I (n:Nat) (ps:List Par) (xa cs:List Int) (k:Nat):Prop:= ∀(i:Nat) (p:Par),i<k→ps[i]?=some p→S9 p.label n=true→cs[i]?=xa[i]?
theorem A4I.keep {n k:Nat}{ps:List Par}{xa cs:List Int}{p:Par} (h:A4I n ps xa cs k) (hp:ps[k]?=some p) (hf:S9 p.label n=false):A4I n ps xa cs (k+1):=fun i q hi hq hfl=>by
 by_cases e:i=k
 ·subst e
  rw[hp] at hq;injection hq with hq;subst hq
  rw[hf] at hfl;cases hfl
 ·exact h i q (by omega) hq hfl
theorem A4I.set {n k:Nat}{ps:List Par}{xa cs:List Int}{z:Int} (h:A4I n ps xa cs k) (hz:xa[k]?=some z) (hk:k<cs.length):A4I n ps xa (cs.set k z) (k+1):=fun i q hi hq hfl=>by
 rw[List.getElem?_set]
 by_cases e:k=i
 ·subst e
  rw[if_pos rfl,if_pos hk,hz]
 ·rw[if_neg e]
  exact h i q (by omega) hq hfl
end Go.Sp
namespace Go.Proofs.YtfjdfdgpkncpfaaGreatDoor
open Go.Proofs.Tryz
open Go.Fw
structure RqX where
 k:Nat
 cs:List Int
 a:Option Addr
 cp:Nat
structure RqY where
 p:Nat
 q:Nat
 ea:Option Addr
 ep:Nat
 fa:Option Addr
 fp:Nat
 I:O5
abbrev C1e (ea:Option Addr) (ep:Nat) (r:Sp.Rn):List Value:= [.slice ea r.ev.length ep,.int .i64 r.n,nt r.err,nt r.steps]
theorem B63 (cs:List Int) (k:Nat) (z:Int):(A6K cs).set k (.int .i64 z)=A6K (cs.set k z):=by
 rw[A6K,A6K,List.map_set]
theorem B3R (s:List UInt8) (nm:List UInt8) (xa ya:List Int) (n:Int) (aa:Option Addr) (ac:Nat) (ba:Option Addr) (bc:Nat) (I:O5) (hs:s.length≤9223372036854775807) (_:nm.length≤9223372036854775807) (_:xa.length≤1000000000) (_:ya.length≤1000000000) (hC:A1X I) (hra:RowI I 3 1 (.slice aa xa.length ac) xa.length (A6K xa)) (hrb:RowI I 3 1 (.slice ba ya.length bc) ya.length (A6K ya)):
  CalM prog 7 #[str s,str nm,.slice aa xa.length ac,.slice ba ya.length bc,.int .i64 n] I [] (fun v _ H'=>v=.bool true∧H'= []):=by
 refine CalM.of fun w E hm=>enter (N:=131) func7 rfl [(0,str s),(1,str nm),(2,.slice aa xa.length ac),(3,.slice ba ya.length bc),(4,.int .i64 n)] C0Q rfl ?_
 have hAl:=B1f I hC
 have hF:=fun (J:O5) (m:Le I J)=>B0U s J (hC.le m) hs
 by_cases h0:Sp.Y5 s≠0
 ·have hits0:Sp.H8 s= []:=by rw[Sp.H8,if_neg (fun h=>h0 h)]
  generalize Sp.Y5 s=er at hF h0
  rw[hits0] at hF
  repeat' (first|(refine F5 (d:=19) ?_ hm (hp:=pm0) (hc:=hAl);clear hm;rintro _ I1 _ _ ⟨rfl,rfl⟩ hleI1 hm;try simp only[F7] at hm)|(refine F5 (d:=23) ?_ hm (hp:=pm0) (hc:=hF I1 hleI1);clear hm;rintro _ I2 _ _ ⟨a,cp,xs,rfl,hrow,hits,rfl⟩ hleI2 hm;try simp only[F7] at hm)|(refine F5 (d:=28) ?_ hm (hp:=pm0) (hc:=A2B 2 nm [] I2 a cp xs (A6F hrow hits (by decide)));clear hm;rintro _ I3 _ _ ⟨rfl,rfl⟩ hleI3 hm;try simp only[F7] at hm)|(refine V7 (d:=11) ?_ hm;clear hm;intro b11 _ hm)|refine U5 ?_ hm|refine D7 ?_|refine D5 ?_|refine J8 ?_|refine X9 ?_|refine U9 ?_|refine V9 ?_|refine Y1 ?_|(refine O0 (h1:=fun _=>?_) (h0:=fun _=>?_)<;>(try first|contradiction|(exfalso;omega)))|refine D8 ?_|refine A7 ?_|refine G5 ?_|refine E5 ?_|refine A8 ?_|refine F8 ?_|refine G8 ?_|refine H5 ?_|refine F9 ?_|refine F6 ?_)
  all_goals try first|omega|contradiction
  all_goals exact⟨I3,[],⟨rfl,rfl⟩,hm.left (H:= [])⟩
 have h00:Sp.Y5 s=0:=by omega
 rw[h00] at hF
 have hA:=Sp.A8m h00
 have hok:=fun h=>Sp.B3N (s:=s) h
 have hlaw:=fun h n nm j hj args args' h1 h2 h3=>Sp.B3O (s:=s) h n nm (j:=j) hj args args' h1 h2 h3
 generalize Sp.H8 s=its at hF hA hok hlaw
 have hfew:=hA.few
 have hfind:=fun (J:O5) (a cp xs) (h:FE J its a cp xs)=>A2B 2 nm its J a cp xs h
 cases hf:Sp.Q8 its 2 nm with
 |none=>
  have hv:Sp.A0Y its 2 nm= -1:=by rw[Sp.A0Y,hf]
  rw[hv] at hfind
  repeat' (first|(refine F5 (d:=19) ?_ hm (hp:=pm0) (hc:=hAl);clear hm;rintro _ I1 _ _ ⟨rfl,rfl⟩ hleI1 hm;try simp only[F7] at hm)|(refine F5 (d:=23) ?_ hm (hp:=pm0) (hc:=hF I1 hleI1);clear hm;rintro _ I2 _ _ ⟨a,cp,xs,rfl,hrow,hits,rfl⟩ hleI2 hm;try simp only[F7] at hm)|(refine F5 (d:=28) ?_ hm (hp:=pm0) (hc:=hfind I2 a cp xs (A6F hrow hits hA.few));clear hm;rintro _ I3 _ _ ⟨rfl,rfl⟩ hleI3 hm;try simp only[F7] at hm)|(refine V7 (d:=11) ?_ hm;clear hm;intro b11 _ hm)|refine U5 ?_ hm|refine D7 ?_|refine D5 ?_|refine J8 ?_|refine J3 ?_|refine J5 ?_|refine X9 ?_|refine U9 ?_|refine V9 ?_|refine Y1 ?_|refine D8 ?_|refine A7 ?_|refine G5 ?_|refine E5 ?_|refine A8 ?_|refine F8 ?_|refine G8 ?_|refine H5 ?_|refine F9 ?_|refine F6 ?_)
  all_goals try first|omega|contradiction
  all_goals exact⟨I3,[],⟨rfl,rfl⟩,hm.left (H:= [])⟩
 |some j=>
 have hv:Sp.A0Y its 2 nm=(j:Int):=by rw[Sp.A0Y,hf]
 rw[hv] at hfind
 obtain⟨hjl,_,_,_,hmem⟩:=Sp.Y8 hf
 have hlb:=(hA.lab _ hmem).1
 by_cases hn0:0≤n∧n≤255
 case neg=>
  have hRi:=A4L n
  rw[decide_eq_false hn0] at hRi
  repeat' (first|(refine F5 (d:=19) ?_ hm (hp:=pm0) (hc:=hAl);clear hm;rintro _ I1 _ _ ⟨rfl,rfl⟩ hleI1 hm;try simp only[F7] at hm)|(refine F5 (d:=23) ?_ hm (hp:=pm0) (hc:=hF I1 hleI1);clear hm;rintro _ I2 _ _ ⟨a,cp,xs,rfl,hrow,hits,rfl⟩ hleI2 hm;try simp only[F7] at hm)|(refine F5 (d:=28) ?_ hm (hp:=pm0) (hc:=hfind I2 a cp xs (A6F hrow hits hA.few));clear hm;rintro _ I3 _ _ ⟨rfl,rfl⟩ hleI3 hm;try simp only[F7] at hm)|(refine Q7 (d:=37) (hc:=by exact hRi _) (k:=?_);rintro _ _ ⟨rfl,rfl⟩)|(refine V7 (d:=11) ?_ hm;clear hm;intro b11 _ hm)|refine U5 ?_ hm|refine D7 ?_|refine D5 ?_|refine J8 ?_|refine J3 ?_|refine J5 ?_|refine X9 ?_|refine U9 ?_|refine V9 ?_|refine Y1 ?_|refine D8 ?_|refine A7 ?_|refine G5 ?_|refine E5 ?_|refine A8 ?_|refine F8 ?_|refine G8 ?_|refine H5 ?_|refine F9 ?_|refine F6 ?_)
  all_goals try first|omega|contradiction
  all_goals exact⟨I3,[],⟨rfl,rfl⟩,hm.left (H:= [])⟩
 have hRi:=A4L n
 rw[decide_eq_true hn0] at hRi
 obtain⟨lo,rfl⟩:∃x:Nat,n=x:=⟨n.toNat,by omega⟩
 have hlo:lo<256:=by omega
 repeat' (first|(refine F5 (d:=19) ?_ hm (hp:=pm0) (hc:=hAl);clear hm;rintro _ I1 _ _ ⟨rfl,rfl⟩ hleI1 hm;try simp only[F7] at hm)|(refine F5 (d:=23) ?_ hm (hp:=pm0) (hc:=hF I1 hleI1);clear hm;rintro _ I2 _ _ ⟨a,cp,xs,rfl,hrow,hits,rfl⟩ hleI2 hm;try simp only[F7] at hm)|refine Z5 4 ?_|(refine V7 (d:=11) ?_ hm;clear hm;intro b11 _ hm)|refine D7 ?_|refine D5 ?_|refine U9 ?_|refine V9 ?_|refine D8 ?_|refine A7 ?_|refine E5 ?_|refine A8 ?_|refine F8 ?_|refine F6 ?_)
 all_goals try first|omega|contradiction
 have q1:FE I2 its a cp xs:=A6F hrow hits hA.few
 obtain⟨I3,hle3,hm3,hpf⟩:=hm.freezeO
 clear hm
 have hm:=hm3
 clear hm3
 have q3:=q1.le hle3
 refine⟨?_⟩
 repeat' (first|(refine U7 (d:=26) ?_ hm (hp:=hpf))|(refine F5 (d:=28) ?_ hm (hp:=pm0) (hc:=hfind I3 a cp xs q3);clear hm;rintro _ I4 _ _ ⟨rfl,rfl⟩ hleI4 hm;try simp only[F7] at hm)|refine Z5 5 ?_|refine D7 ?_|refine D5 ?_|refine D8 ?_|refine A7 ?_|refine E5 ?_|refine A8 ?_)
 all_goals try first|omega|contradiction
 have hpf4:=hpf.le hleI4
 have q4:=q3.le hleI4
 have hle04:Le I I4:=((hleI1.trans hleI2).trans hle3).trans hleI4
 have hri:=q4.row
 obtain⟨ci,hci,hat,_⟩:=q4.get (Sp.A0K hjl)
 have hsm:=(hA.fl _ hmem).small
 have hlaw2:=fun h args args' h1 h2 h3=>hlaw h lo nm j hf args args' h1 h2 h3
 have hrn:=(Sp.B82 its nm xa).1
 have hpl8:∀p∈(Sp.N9 its j).params,p.label<256:=fun p hp=>((hA.lab _ hmem).2 p hp)
 clear hlaw hfind hF hAl
 have hlab:(Sp.N9 its j).label<256:=hlb
 have heq:Sp.N9 its j=Sp.N9 its j:=rfl
 generalize Sp.N9 its j=it at hat hsm hlaw2 hpl8 hlab hlb heq
 obtain⟨pa,pc,sa9,sc9,ba9,bc9,da9,dc9,xb,rfl,hpar,_⟩:=hat
 have hsp:=hsm.params
 refine⟨?_⟩
 by_cases hl1:xa.length=it.params.length
 case neg=>
  repeat' (first|(refine Q7 (d:=37) (hc:=by exact hRi _) (k:=?_);rintro _ _ ⟨rfl,rfl⟩)|(refine L6 (d:=46) ?_ (hr:=hri);intro bt ot hpt;rw[show ((j:Int).toNat *10)=j *10 from rfl,hci] at hpt)|refine H9 ?_ hm|refine D7 ?_|refine D5 ?_|refine J8 ?_|refine J3 ?_|refine J5 ?_|refine X9 ?_|refine G7 ?_|refine U9 ?_|refine C9 ?_|refine Y1 ?_|(refine O0 (h1:=fun _=>?_) (h0:=fun _=>?_)<;>(try first|contradiction|(exfalso;omega)))|refine D8 ?_|refine A7 ?_|refine G5 ?_|refine E5 ?_|refine A8 ?_|refine G8 ?_|refine H5 ?_|refine F9 ?_)
  all_goals try first|omega|contradiction
  all_goals exact⟨I4,[],⟨rfl,rfl⟩,hm.left (H:= [])⟩
 by_cases hl2:ya.length=xa.length
 case neg=>
  repeat' (first|(refine Q7 (d:=37) (hc:=by exact hRi _) (k:=?_);rintro _ _ ⟨rfl,rfl⟩)|(refine L6 (d:=46) ?_ (hr:=hri);intro bt ot hpt;rw[show ((j:Int).toNat *10)=j *10 from rfl,hci] at hpt)|refine H9 ?_ hm|refine D7 ?_|refine D5 ?_|refine J3 ?_|refine J5 ?_|refine X9 ?_|refine G7 ?_|refine U9 ?_|refine C9 ?_|(refine O0 (h1:=fun _=>?_) (h0:=fun _=>?_)<;>(try first|contradiction|(exfalso;omega)))|refine D8 ?_|refine A7 ?_|refine G5 ?_|refine E5 ?_|refine A8 ?_|refine G8 ?_|refine H5 ?_|(refine D6 (ht:=fun _=>?_) (hf:=fun _=>?_)<;>(try first|contradiction|(exfalso;omega))))
  all_goals try first|omega|contradiction
  all_goals exact⟨I4,[],⟨rfl,rfl⟩,hm.left (H:= [])⟩
 have hrb4:=hrb.le hle04
 have hra4:=hra.le hle04
 have hra5:=hra4
 rw[A92] at hra5
 repeat' (first|(refine Q7 (d:=37) (hc:=by exact hRi _) (k:=?_);rintro _ _ ⟨rfl,rfl⟩)|(refine L6 (d:=46) ?_ (hr:=hri);intro bt ot hpt;rw[show ((j:Int).toNat *10)=j *10 from rfl,hci] at hpt)|(refine L6 (d:=65) ?_ (hr:=hri);intro bu ou hpu;rw[show ((j:Int).toNat *10)=j *10 from rfl,hci] at hpu)|(refine A2J (d:=59) (vs:=[]) (xs:=[]) ?_ hm;clear hm;intro b59 _ hm)|(refine A97 (d:=61) ?_ hm (hr:=hrb4) (h1:=fun u hu=>by obtain⟨z,_,rfl⟩:=List.mem_map.1 hu;rfl);clear hm;intro a61 cp61 _ hm;try simp only[F7] at hm)|refine H9 ?_ hm|refine D7 ?_|refine D5 ?_|refine J3 ?_|refine J5 ?_|refine X9 ?_|refine G7 ?_|refine U9 ?_|refine C9 ?_|(refine O0 (h1:=fun _=>?_) (h0:=fun _=>?_)<;>(try first|contradiction|(exfalso;omega)))|refine D8 ?_|refine A7 ?_|refine E5 ?_|refine A8 ?_|refine E9 ?_|refine F8 ?_|(refine D6 (ht:=fun _=>?_) (hf:=fun _=>?_)<;>(try first|contradiction|(exfalso;omega))))
 all_goals try first|omega|contradiction
 refine U4 (fun x:RqX=> [(1,str nm),(2,.slice aa xa.length ac),(4,nt lo),(11,ptr b11),(13,nt j),(14,.slice x.a x.cs.length x.cp),(67,.slice pa it.params.length pc),(68,nt it.params.length),(69,nt x.k)])
  (fun x w'=>Mem E I4 [.row (.slice x.a x.cs.length x.cp) 3 1 x.cs.length (A6K x.cs)] w'∧x.k≤it.params.length∧x.cs.length=it.params.length∧Sp.A4I lo it.params xa x.cs x.k) (fun x=>it.params.length-x.k) ⟨0,ya,a61,cp61⟩
  (by exact⟨rfl,rfl,rfl,rfl,rfl,by show some (Value.slice a61 (0+ya.length) cp61)=_;rw[Nat.zero_add],rfl,rfl,rfl,trivial⟩) ⟨by rw[Nat.zero_add] at hm;exact hm,Nat.zero_le _,by dsimp only;omega,fun i p hi=>by dsimp only at hi;omega⟩ ?_
 clear hm
 rintro⟨k,cs,a14,cp14⟩ w3 ⟨hm,hk,hcl,hak⟩
 dsimp only at hm hk hcl hak ⊢
 by_cases hlt:k<it.params.length
 ·have hg:it.params[k]?=some it.params[k]:=List.getElem?_eq_getElem hlt
  have hga:xa[k]?=some xa[k]:=List.getElem?_eq_getElem (by omega)
  have hp8:=hpl8 _ (List.getElem_mem hlt)
  generalize it.params[k]=p at hg hp8
  generalize xa[k]=z at hga
  have hFl:=A6z p.label lo hp8 hlo
  have hfo:(0:Nat)+(k:Int).toNat *1=k:=by rw[Int.toNat_natCast];omega
  obtain⟨bb,rfl⟩:=hm.rowAddr (by omega)
  cases hfl:Sp.S9 p.label lo with
  |true=>
   rw[hfl] at hFl
   have hst:=hak.set (z:=z) hga (by omega)
   repeat' (first|(refine Q7 (d:=77) (hc:=by exact hFl _) (k:=?_);rintro _ _ ⟨rfl,rfl⟩)|(refine P5 (d:=72) (enc:=A2a) (z:=p) ?_ (hr:=hpar) (he:=fun _=>rfl) (hz:=by exact hg);intro bz oz hpz)|(refine P5 (d:=82) (enc:=fun n=> [.int .i64 n]) (z:=z) ?_ (hr:=hra5) (he:=fun _=>rfl) (hz:=by exact hga);intro by_ oy hpy)|(refine A20 (i:=1) hm (by rfl) (by rfl) (by rfl) (by rfl) (by rfl) (by rfl) (by rfl) (by simp;omega) ?_;clear hm;intro _ hm;rw[hfo,B63] at hm;simp only[F7] at hm)|(refine V6 (d:=16) ?_ hm;clear hm;intro b16 _ hm)|refine H6 ?_ hm|refine U7 ?_ hm|refine A1s ?_ hm|(refine N8 ?_ hm;clear hm;intro _ hm;try simp only[F7] at hm)|refine D7 ?_|refine D5 ?_|refine J5 ?_|refine Q4 ?_|refine C9 ?_|refine Z8 (k:=?_)|refine D8 ?_|refine A7 ?_|refine D9 ?_|refine E5 ?_|refine A8 ?_|refine E9 ?_|refine F8 ?_|refine F9 ?_|(refine D6 (ht:=fun _=>?_) (hf:=fun _=>?_)<;>(try first|contradiction|(exfalso;omega))))
   all_goals try first|omega|contradiction
   refine J9 (⟨k+1,cs.set k z,some ⟨bb,0,none⟩,cp14⟩:RqX) (by exact⟨rfl,rfl,rfl,rfl,rfl,by rw[List.length_set];rfl,rfl,rfl,rfl,trivial⟩) ⟨by dsimp only;rw[List.length_set];exact hm.tl,by dsimp only;omega,by dsimp only;rw[List.length_set];exact hcl,hst⟩ (by dsimp only;omega)
  |false=>
   rw[hfl] at hFl
   have hst:=hak.keep hg hfl
   repeat' (first|(refine Q7 (d:=77) (hc:=by exact hFl _) (k:=?_);rintro _ _ ⟨rfl,rfl⟩)|(refine P5 (d:=72) (enc:=A2a) (z:=p) ?_ (hr:=hpar) (he:=fun _=>rfl) (hz:=by exact hg);intro bz oz hpz)|(refine V6 (d:=16) ?_ hm;clear hm;intro b16 _ hm)|refine H6 ?_ hm|refine U7 ?_ hm|(refine N8 ?_ hm;clear hm;intro _ hm;try simp only[F7] at hm)|refine D7 ?_|refine D5 ?_|refine J5 ?_|refine Q4 ?_|refine C9 ?_|refine D8 ?_|refine A7 ?_|refine D9 ?_|refine E5 ?_|refine A8 ?_|refine E9 ?_|refine F8 ?_|refine F6 ?_|(refine D6 (ht:=fun _=>?_) (hf:=fun _=>?_)<;>(try first|contradiction|(exfalso;omega))))
   all_goals try first|omega|contradiction
   exact J9 (⟨k+1,cs,some ⟨bb,0,none⟩,cp14⟩:RqX) (by exact⟨rfl,rfl,rfl,rfl,rfl,rfl,rfl,rfl,rfl,trivial⟩) ⟨hm.tl,by dsimp only;omega,hcl,hst⟩ (by dsimp only;omega)
 obtain rfl:k=it.params.length:=by omega
 have hal2:∀(i:Nat) (p:Sp.Par) (a a':Int),it.params[i]?=some p→xa[i]?=some a→cs[i]?=some a'→Sp.S9 p.label lo=true→a=a':=fun i p a a' h1 h2 h3 h4=>by
  have:=hak i p (List.getElem?_eq_some_iff.1 h1).1 h1 h4
  rw[h2,h3] at this
  injection this with this
  exact this.symm
 repeat' (first|refine Z5 14 ?_|refine J5 ?_|refine D8 ?_|refine A7 ?_|refine G9 ?_|refine G6 ?_|refine E5 ?_|refine A8 ?_|refine O4 ?_|(refine D6 (ht:=fun _=>?_) (hf:=fun _=>?_)<;>(try first|contradiction|(exfalso;omega))))
 all_goals try first|omega|contradiction
 obtain⟨I5,hle5,hm5,hrc⟩:=hm.freeze
 clear hm
 have hm:=hm5
 clear hm5
 have hpf5:=hpf4.le hle5
 have q5:=q4.le hle5
 have hra6:=hra4.le hle5
 have hri5:=q5.row
 have hX:=fun (J:O5) (m:Le I5 J)=>B4Q nm xa J (q5.le m) hA hok aa ac (hra6.le m)
 have hY:=fun (J:O5) (m:Le I5 J)=>B4Q nm cs J (q5.le m) hA hok a14 cp14 (hrc.le m)
 have hxe:=Sp.B2A its nm xa
 have hye:=Sp.B2A its nm cs
 have hlw:(Sp.A0U its nm xa).err=0→(Sp.A0U its nm cs).err=0→Sp.U1 its (Sp.A0U its nm xa).ev lo=Sp.U1 its (Sp.A0U its nm cs).ev lo∧(Sp.S9 it.label lo=true→(Sp.A0U its nm xa).n=(Sp.A0U its nm cs).n):=fun e1 e2=>by
  by_cases hb:Sp.A2I its= []
  ·exact hlaw2 hb xa cs (by omega) hcl hal2 e1 e2
  ·have:=hrn hb;omega
 clear hlaw2 hrn hal2 hak
 generalize Sp.A0U its nm xa=x at hX hxe hlw
 generalize Sp.A0U its nm cs=y at hY hye hlw
 unfold B4f B80 at hX hY
 refine⟨B45 14 (fun z:RqY=> [(4,nt lo),(11,ptr b11),(13,nt j),(17,ptr z.p),(18,ptr z.q)])
  (fun z w'=>Mem E z.I [.cell z.q (C1e z.fa z.fp y) 31,.cell z.p (C1e z.ea z.ep x) 31] w'∧Le I5 z.I∧RowI z.I 35 2 (.slice z.ea x.ev.length z.ep) x.ev.length (x.ev.flatMap A0Q)∧RowI z.I 35 2 (.slice z.fa y.ev.length z.fp) y.ev.length (y.ev.flatMap A0Q)) ?_ ?_⟩
 ·skip
  repeat' (first|(refine A8a (id:=14) (hm.perm pm0) [0,1,2,4,5,6] 11 (h:=?_);clear hm;intro wd hR hm)|(refine A0h (d:=86) ?_ hR (hp:=hpf5))|(refine A0h (d:=90) ?_ hR (hp:=hpf5))|(refine B4I (d:=89) hm (by rfl) (by rfl) (by rfl) pm0 (hX I5 (Le.refl _)) ?_;clear hm;rintro _ I6 _ _ ⟨rfl,ea,ep,rfl,hre⟩ hleI6 hm;try simp only[F7] at hm)|(refine B4I (d:=93) hm (by rfl) (by rfl) (by rfl) pm0 (hY I6 hleI6) ?_;clear hm;rintro _ I7 _ _ ⟨rfl,fa,fp,rfl,hrf⟩ hleI7 hm;try simp only[F7] at hm)|(refine B2V (i:=3) (j:=8) (k:=9) (by decide+kernel) (by rfl) (by rfl) (by rfl) (by rfl) (by rfl) (by rfl) ?_ ?_ ?_)|(refine B2V (i:=7) (j:=8) (k:=9) (by decide+kernel) (by rfl) (by rfl) (by rfl) (by rfl) (by rfl) (by rfl) ?_ ?_ ?_)|(refine A3X (i:=3) (j:=8) ?_ (by decide+kernel) (h:=?_))|(refine A3X (i:=3) (j:=9) ?_ (by decide+kernel) (h:=?_))|(refine A3X (i:=7) (j:=8) ?_ (by decide+kernel) (h:=?_))|(refine A3X (i:=7) (j:=9) ?_ (by decide+kernel) (h:=?_))|(refine A3X (i:=8) (j:=9) ?_ (by decide+kernel) (h:=?_))|(refine A3W (i:=3) ?_ (by decide+kernel))|(refine A3W (i:=7) ?_ (by decide+kernel))|(refine A3W (i:=8) ?_ (by decide+kernel))|(refine A3W (i:=9) ?_ (by decide+kernel))|(refine A3W (i:=10) ?_ (by decide+kernel))|(refine B74 (by decide+kernel) ?_;replace hm:=hR.back hm;clear hR;try simp only[F7] at hm)|(refine A99 (d:=17) ?_ hm;clear hm;intro b17 _ hm)|(refine A99 (d:=18) ?_ hm;clear hm;intro b18 _ hm)|refine B48 ?_|(refine B2m ?_ hm;clear hm;intro _ hm;try simp only[F7] at hm)|(refine N8 ?_ hm;clear hm;intro _ hm;try simp only[F7] at hm)|refine D8 ?_|refine A0P ?_)
  all_goals first
   |exact Y6 (⟨b17,b18,ea,ep,fa,fp,I7⟩:RqY) (by exact⟨rfl,rfl,rfl,rfl,rfl,trivial⟩) ⟨hm,hleI6.trans hleI7,hre.le hleI7,hrf⟩
   |exact Y6 (⟨b17,b18,ea,ep,fa,fp,I7⟩:RqY) (by exact⟨rfl,rfl,rfl,rfl,rfl,trivial⟩) ⟨hm.perm (.swap _ _ _),hleI6.trans hleI7,hre.le hleI7,hrf⟩
 clear hm
 rintro⟨p17,p18,ea,ep,fa,fp,I7⟩ w4 ⟨hm,hle7,hre,hrf⟩
 dsimp only at hm hle7 hre hrf ⊢
 by_cases e1:x.err=0
 case neg=>
  repeat' (first|refine H6 ?_ hm|refine D7 ?_|refine D5 ?_|refine J8 ?_|refine X9 ?_|refine C9 ?_|refine Y1 ?_|(refine O0 (h1:=fun _=>?_) (h0:=fun _=>?_)<;>(try first|contradiction|(exfalso;omega)))|refine D8 ?_|refine A7 ?_|refine G5 ?_|refine E5 ?_|refine A8 ?_|refine G8 ?_|refine H5 ?_|refine F9 ?_)
  all_goals try first|omega|contradiction
  all_goals exact⟨I7,[],⟨rfl,rfl⟩,hm.left (H:= [])⟩
 by_cases e2:y.err=0
 case neg=>
  repeat' (first|refine H6 ?_ hm|refine D7 ?_|refine D5 ?_|refine J3 ?_|refine X9 ?_|refine C9 ?_|(refine O0 (h1:=fun _=>?_) (h0:=fun _=>?_)<;>(try first|contradiction|(exfalso;omega)))|refine D8 ?_|refine A7 ?_|refine G5 ?_|refine E5 ?_|refine A8 ?_|refine G8 ?_|refine H5 ?_|(refine D6 (ht:=fun _=>?_) (hf:=fun _=>?_)<;>(try first|contradiction|(exfalso;omega))))
  all_goals try first|omega|contradiction
  all_goals exact⟨I7,[],⟨rfl,rfl⟩,hm.left (H:= [])⟩
 obtain⟨hs1,hs2⟩:=hlw e1 e2
 repeat' (first|refine Z5 17 ?_|refine H6 ?_ hm|refine D7 ?_|refine J3 ?_|refine X9 ?_|refine C9 ?_|(refine O0 (h1:=fun _=>?_) (h0:=fun _=>?_)<;>(try first|contradiction|(exfalso;omega)))|refine D8 ?_|refine A7 ?_|refine E5 ?_|refine A8 ?_|refine F8 ?_|(refine D6 (ht:=fun _=>?_) (hf:=fun _=>?_)<;>(try first|contradiction|(exfalso;omega))))
 all_goals try first|omega|contradiction
 obtain⟨I8,hle8,hm8,hpy⟩:=hm.freezeO
 obtain⟨I9,hle9,hm9,hpx⟩:=hm8.freezeO
 clear hm hm8
 have hm:=hm9
 clear hm9
 have hpy9:PtrI I9 p18 0 31 [.slice fa y.ev.length fp,.int .i64 y.n,nt y.err,nt y.steps]:=hpy.le hle9
 have hle79:Le I7 I9:=hle8.trans hle9
 have hpf9:=(hpf5.le hle7).le hle79
 have q9:=(q5.le hle7).le hle79
 have hri9:=q9.row
 have hre9:=hre.le hle79
 have hrf9:=hrf.le hle79
 have hS1:=A7E x.ev lo hlo I9 q9 hA (by omega) ea ep hre9
 have hS2:=fun (J:O5) (m:Le I9 J)=>A7E y.ev lo hlo J (q9.le m) hA (by omega) fa fp (hrf9.le m)
 rw[←hs1] at hS2
 have hsl:(Sp.U1 its x.ev lo).length≤x.ev.length:=List.length_filter_le _ _
 have hEv:=fun (J:O5) (a b:Option Addr) (c d:Nat) (ha:RowI J 35 2 (.slice a (Sp.U1 its x.ev lo).length c) (Sp.U1 its x.ev lo).length ((Sp.U1 its x.ev lo).flatMap A0Q)) (hb:RowI J 35 2 (.slice b (Sp.U1 its x.ev lo).length d) (Sp.U1 its x.ev lo).length ((Sp.U1 its x.ev lo).flatMap A0Q))=>B2S (Sp.U1 its x.ev lo) (by omega) J a b c d ha hb
 generalize Sp.U1 its x.ev lo=lz at hS1 hS2 hEv hsl
 have hFl:=A6z it.label lo hlab hlo
 have hFJ:∀J:O5,CalR prog 27 #[nt it.label,nt lo] J [] (.bool (Sp.S9 it.label lo)):=fun J=>⟨fun w _ _=>(hFl w).mono (fun v w' ⟨h1,h2⟩=>⟨h1,by rw[h2];exact Kept.refl _ _⟩)⟩
 refine⟨?_⟩
 cases hfl:Sp.S9 it.label lo with
 |true=>
  rw[hfl] at hFJ
  have hnn:=hs2 hfl
  rw[←hnn] at hpy9
  repeat' (first|(refine A3Y (id:=17) (hm.perm pm0) [([0,1,2,3,5,6,7,8],[4,9,10]),([11,12,13,14,15,16,17,18],[19]),([20,21,22,23,24,25,26,27,28],[])] 29 (h:=?_);clear hm;intro wd hR hm)|(refine A0h (d:=102) ?_ hR (hp:=hpf9))|(refine A0h (d:=107) ?_ hR (hp:=hpf9))|(refine A0T (d:=117) ?_ (hr:=hri9);intro bt ot hpt;rw[show ((j:Int).toNat *10)=j *10 from rfl,hci] at hpt)|(refine A2A (d:=121) ?_ hR hm (hc:=hFJ _);clear hm;intro _ hm)|(refine Z7 (d:=106) ?_ hm (hp:=pm0) (hc:=hS1);clear hm;rintro _ I10 _ _ ⟨rfl,ga,gp,rfl,hr10⟩ hleI10 hm;try simp only[F7] at hm)|(refine Z7 (d:=111) ?_ hm (hp:=pm0) (hc:=hS2 I10 hleI10);clear hm;rintro _ I11 _ _ ⟨rfl,ka,kp,rfl,hr11⟩ hleI11 hm;try simp only[F7] at hm)|(refine Z7 (d:=112) ?_ hm (hp:=pm0) (hc:=hEv I11 _ _ _ _ (hr10.le hleI11) hr11);clear hm;rintro _ I12 _ _ ⟨rfl,rfl⟩ hleI12 hm;try simp only[F7] at hm)|refine A0C ?_ hR|refine A69 ?_|refine A68 ?_|refine A1l ?_|refine B6k ?_|(refine A9y ?_;replace hm:=hR.back hm;clear hR;try simp only[F7] at hm)|refine D5 ?_|refine D8 ?_|refine A7 ?_|refine G8 ?_|refine H5 ?_|refine A0P ?_|refine A5G ?_|refine A64 ?_|refine C1g ?_|refine B9D ?_|refine Q3 ?_)
  all_goals try first|omega|contradiction
  all_goals exact⟨I12,[],⟨by first|rfl|rw[decide_eq_true rfl],rfl⟩,by first|exact hm|exact hR.back hm⟩
 |false=>
  rw[hfl] at hFJ
  repeat' (first|(refine A3Y (id:=17) (hm.perm pm0) [([0,1,2,3,5,6,7,8],[4,9,10]),([11,12,13,14,15,16,17,18],[19]),([20,21,22,23,24,25,26,27,28],[])] 29 (h:=?_);clear hm;intro wd hR hm)|(refine A0h (d:=102) ?_ hR (hp:=hpf9))|(refine A0h (d:=107) ?_ hR (hp:=hpf9))|(refine A0T (d:=117) ?_ (hr:=hri9);intro bt ot hpt;rw[show ((j:Int).toNat *10)=j *10 from rfl,hci] at hpt)|(refine A2A (d:=121) ?_ hR hm (hc:=hFJ _);clear hm;intro _ hm)|(refine Z7 (d:=106) ?_ hm (hp:=pm0) (hc:=hS1);clear hm;rintro _ I10 _ _ ⟨rfl,ga,gp,rfl,hr10⟩ hleI10 hm;try simp only[F7] at hm)|(refine Z7 (d:=111) ?_ hm (hp:=pm0) (hc:=hS2 I10 hleI10);clear hm;rintro _ I11 _ _ ⟨rfl,ka,kp,rfl,hr11⟩ hleI11 hm;try simp only[F7] at hm)|(refine Z7 (d:=112) ?_ hm (hp:=pm0) (hc:=hEv I11 _ _ _ _ (hr10.le hleI11) hr11);clear hm;rintro _ I12 _ _ ⟨rfl,rfl⟩ hleI12 hm;try simp only[F7] at hm)|refine A0C ?_ hR|refine A69 ?_|refine A68 ?_|refine A1l ?_|refine B6k ?_|(refine A9y ?_;replace hm:=hR.back hm;clear hR;try simp only[F7] at hm)|refine D5 ?_|refine D8 ?_|refine A7 ?_|refine G8 ?_|refine H5 ?_|refine A0P ?_|refine A5G ?_|refine B9D ?_|refine Q3 ?_|refine B49 ?_)
  all_goals try first|omega|contradiction
  all_goals exact⟨I12,[],⟨rfl,rfl⟩,by first|exact hm|exact hR.back hm⟩
end Go.Proofs.YtfjdfdgpkncpfaaGreatDoor
end
