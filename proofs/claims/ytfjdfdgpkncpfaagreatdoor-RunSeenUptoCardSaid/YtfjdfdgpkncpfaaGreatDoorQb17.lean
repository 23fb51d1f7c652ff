/- Own work: texts PpR, NmA, SpecAgain, SpecJoin, SpecCutoff, SpecFew, SpecPiece, SpecStand, SpecStand2, NsA, NsB, one behind the other. -/
import Derived.Test.YtfjdfdgpkncpfaaGreatDoorQb16
set_option maxHeartbeats 64000000
section
namespace Go.Proofs.YtfjdfdgpkncpfaaGreatDoor
open Go.Proofs.Tryz
open Go.Fw
structure AgX where
 k:Nat
 I:O5
 a:Option Addr
 cp:Nat
 xs:List Value
abbrev it0:List Value:=A1m 0 [] 0 A10 A10 A10 0 0 0 A10
theorem B54 (w:World):(zeroValue 60).run prog w=.ok (.agg it0.toArray) w:=by kernel_rfl
abbrev B8h (fresh err:Nat) (its:List Sp.Itm):Value→O5→List HItem→Prop:=fun v I' H'=> ∃a cp xs,v=.tuple #[.agg [.slice a its.length cp].toArray,nt fresh,nt err]∧RowI I' 60 10 (.slice a its.length cp) its.length xs∧A3f I' its xs∧H'= []
theorem B6w (s:List UInt8):(Sp.U2 s).length≤s.length:=by
 obtain⟨r,h1,h2⟩:=Sp.A6B s (Sp.O3 s) []
 have e:Sp.U2 s=r:=by rw[Sp.U2,h1];simp
 have:=h2.length_le
 have:=A4F s
 rw[e]
 simp at *
 omega
theorem B7x (s:List UInt8) (I:O5) (hC:A1X I) (hs:s.length≤9223372036854775807):CalM prog 41 #[.agg [.slice none 0 0].toArray,str [],str s] I [] (B8h (Sp.H8 s).length (Sp.Y5 s) (Sp.H8 s)):=by
 refine CalM.of fun w E hm=>enter (N:=127) func41 rfl [(0,.agg [.slice none 0 0].toArray),(1,str []),(2,str s)] A3h rfl ?_
 by_cases hl:s.length>4000
 ·have he:Sp.Y5 s=4:=by rw[Sp.Y5,if_pos hl]
  have hi:Sp.H8 s= []:=by rw[Sp.H8,he];rfl
  rw[he,hi]
  repeat' (first|(refine A6j hm (by rfl) (by rfl) (by rfl) (by rfl) (by first|exact gt0|exact gt1|exact gt2|exact gt3|exact gt4|exact gt5|exact gt6) (by rfl) ?_)|(refine A0t (d:=3) ?_ hm;clear hm;intro b3 _ hm)|(refine V6 (d:=6) ?_ hm;clear hm;intro b6 _ hm)|(refine N8 ?_ hm;clear hm;intro _ hm;try simp only[F7] at hm)|refine D7 ?_|refine D5 ?_|refine A2L ?_|refine A0Z ?_|refine Q9 ?_|refine D8 ?_|refine A7 ?_|refine G5 ?_|refine E5 ?_|refine A8 ?_|refine G8 ?_|(refine D6 (ht:=fun _=>?_) (hf:=fun _=>?_)<;>(try first|contradiction|(exfalso;omega))))
  all_goals try omega
  exact⟨_,_,⟨none,0,[],rfl,A0z _ _ _ _ _,rfl,rfl⟩,hm.left (H:= [])⟩
 have hcl:=B6w s
 repeat' (first|(refine B5A ?_ hm;clear hm;intro bm _ hm)|(refine A0t (d:=3) ?_ hm;clear hm;intro b3 _ hm)|(refine V6 (d:=6) ?_ hm;clear hm;intro b6 _ hm)|refine H6 ?_ hm|refine D7 ?_|refine D5 ?_|refine A2L ?_|refine A0Z ?_|refine G7 ?_|refine C9 ?_|refine D8 ?_|refine A7 ?_|refine E5 ?_|refine A8 ?_|refine E9 ?_|refine F8 ?_|(refine D6 (ht:=fun _=>?_) (hf:=fun _=>?_)<;>(try first|contradiction|(exfalso;omega))))
 all_goals try omega
 refine U4 (fun _:Unit=> [(2,str s),(3,ptr b3),(6,ptr b6),(9,.map (some bm)),(26,nt 0),(27,nt 0)]) (fun _ w'=>Mem E I [.mp bm [],.cell b6 [.slice none 0 0] 25,.cell b3 [.slice none 0 0] 25] w') (fun _=>0) () (by exact⟨rfl,rfl,rfl,rfl,rfl,rfl,trivial⟩) hm ?_
 clear hm
 rintro⟨⟩ w1 hm
 repeat' (first|(refine Q7 (hc:=by exact B9L s (by omega) _) (k:=?_);rintro tv wt ⟨hto,hkt⟩;obtain⟨ta,tc,rfl⟩:=A3o hto;replace hm:=hm.add (x:=.row (.slice ta (Sp.U2 s).length tc) 3 1 (Sp.U2 s).length ((Sp.U2 s).flatMap A1q)) hkt (A3p hto (Nat.zero_le _)) (fun b hb=>(hto.lt b hb).1))|(refine V6 (d:=12) ?_ hm;clear hm;intro b12 _ hm)|(refine A2b (d:=73) ?_ hm;clear hm;intro a73 cp73 _ _ hm;try simp only[F7] at hm)|refine D7 ?_|refine D5 ?_|refine J5 ?_|refine A0Z ?_|refine G7 ?_|refine A3M ?_|refine D8 ?_|refine A7 ?_|refine G9 ?_|refine G6 ?_|refine E5 ?_|refine A8 ?_|refine E9 ?_|refine O4 ?_|refine F6 ?_)
 all_goals try omega
 obtain⟨I2,hle2,hm2,hrow⟩:=hm.freeze
 clear hm hto hkt
 have hm:=hm2.nil 60 10
 clear hm2
 obtain⟨n,hn⟩:∃n,n=(Sp.U2 s).length:=⟨_,rfl⟩
 have hcat:∀k,k<n→(Sp.U2 s).getD k 0<(Sp.U2 s).getD (k+1) s.length∧(Sp.U2 s).getD (k+1) s.length≤s.length:=fun k hk=>Sp.A32 s (by omega)
 have hfl:(Sp.U2 s).flatMap A1q++ [nt s.length]=(Sp.U2 s++ [s.length]).flatMap A1q:=by rw[List.flatMap_append];rfl
 have hz1:∀k,k<n→(Sp.U2 s++ [s.length])[k]?=some ((Sp.U2 s).getD k 0):=fun k hk=>by
  rw[List.getElem?_append_left (by omega),List.getD_eq_getElem?_getD,List.getElem?_eq_getElem (by omega)];rfl
 have hz2:∀k,k<n→(Sp.U2 s++ [s.length])[k+1]?=some ((Sp.U2 s).getD (k+1) s.length):=fun k hk=>by
  rcases Nat.lt_or_ge (k+1) (Sp.U2 s).length with h|h
  ·rw[List.getElem?_append_left h,List.getD_eq_getElem?_getD,List.getElem?_eq_getElem h];rfl
  ·rw[List.getElem?_append_right h,show k+1-(Sp.U2 s).length=0 by omega,List.getD_eq_getElem?_getD,List.getElem?_eq_none h];rfl
 have hsm:∀k,(Sp.A0y s (Sp.U2 s) k).length≤1048576:=fun k=>by rw[Sp.A0y,List.length_take,List.length_drop];omega
 have hits0:Sp.A3j s (Sp.U2 s)=(List.range n).map (Sp.A1L s (Sp.U2 s)):=by rw[Sp.A3j,hn]
 have herr:30<n→Sp.Y5 s=5∧Sp.H8 s= []:=fun h=>by
  have:Sp.Y5 s=5:=by rw[Sp.Y5,if_neg hl,if_pos (by omega)]
  exact⟨this,by rw[Sp.H8,this];rfl⟩
 have hok:n≤30→Sp.Y5 s=0∧Sp.H8 s=Sp.A3j s (Sp.U2 s):=fun h=>by
  have:Sp.Y5 s=0:=by rw[Sp.Y5,if_neg hl,if_neg (by omega)]
  exact⟨this,by rw[Sp.H8,this];rfl⟩
 change RowI I2 3 1 (.slice a73 ((Sp.U2 s).length+1) cp73) ((Sp.U2 s).length+1) ((Sp.U2 s).flatMap A1q++ [nt s.length]) at hrow
 rw[hfl, ←hn] at hrow
 rw[←hn] at hcl ⊢
 generalize Sp.Y5 s=er at herr hok ⊢
 generalize Sp.H8 s=its at herr hok ⊢
 clear hn hfl
 have hsmall:∀k,(Sp.A1L s (Sp.U2 s) k).small:=fun k=>Sp.A4S _ _ (hsm k)
 generalize Sp.U2 s=cz at hrow hcat hz1 hz2 hits0 hok hsm hsmall
 refine U4 (fun x:AgX=> [(2,str s),(6,ptr b6),(9,.map (some bm)),(12,ptr b12),(13,nt x.k),(14,.slice a73 (n+1) cp73),(76,.int .i64 (((n+1:Nat):Int)-1)),(77,nt x.k)])
  (fun x w'=>Mem E x.I [C05 x.k x.a x.cp x.xs,.cell b12 [.slice x.a x.k x.cp] 25,.mp bm [],.cell b6 [.slice none 0 0] 25,.cell b3 [.slice none 0 0] 25] w'∧Le I2 x.I∧A3f x.I ((List.range x.k).map (Sp.A1L s cz)) x.xs∧x.k≤n∧x.k≤30)
  (fun x=>n-x.k) ⟨0,I2,none,0,[]⟩ (by exact⟨rfl,rfl,rfl,rfl,rfl,rfl,rfl,rfl,trivial⟩) ⟨hm,Le.refl _,rfl,Nat.zero_le _,by dsimp only;omega⟩ ?_
 clear hm
 rintro⟨k,I3,a,cp,xs⟩ w2 ⟨hm,hle3,hits,hk,hk30⟩
 dsimp only at hm hle3 hits hk hk30 ⊢
 have hrow2:=hrow.le hle3
 by_cases hlt:k<n
 ·by_cases h30:k=30
  ·obtain⟨he,hi⟩:=herr (by omega)
   subst he;subst hi
   repeat' (first|(refine A6j hm (by rfl) (by rfl) (by rfl) (by rfl) (by first|exact gt0|exact gt1|exact gt2|exact gt3|exact gt4|exact gt5|exact gt6) (by rfl) ?_)|refine H6 ?_ hm|(refine N8 ?_ hm;clear hm;intro _ hm;try simp only[F7] at hm)|refine D7 ?_|refine D5 ?_|refine J5 ?_|refine L8 ?_|refine G7 ?_|refine C9 ?_|refine Q9 ?_|refine D8 ?_|refine A7 ?_|refine G5 ?_|refine O8 ?_|refine E5 ?_|refine A8 ?_|refine E9 ?_|refine F8 ?_|refine G8 ?_|(refine D6 (ht:=fun _=>?_) (hf:=fun _=>?_)<;>(try first|contradiction|(exfalso;omega))))
   all_goals try omega
   exact⟨_,_,⟨none,0,[],rfl,A0z _ _ _ _ _,rfl,rfl⟩,hm.left (H:= [])⟩
  ·have hca:=hcat k hlt
   have hza:(cz++ [s.length])[((k:Nat):Int).toNat]?=some (cz.getD k 0):=by rw[Int.toNat_natCast];exact hz1 k hlt
   have hzb:(cz++ [s.length])[(((k:Nat):Int)+1).toNat]?=some (cz.getD (k+1) s.length):=by
    rw[show (((k:Nat):Int)+1).toNat=k+1 by omega];exact hz2 k hlt
   have hit:=B98 (Sp.A0y s cz k) ((cz.getD k 0:Nat):Int) I3 ((hC.le hle2).le hle3) (hsm k)
   rw[show Sp.item (Sp.A0y s cz k) ((cz.getD k 0:Nat):Int)=Sp.A1L s cz k from rfl,Sp.A0y] at hit
   have hat:(Sp.A1L s cz k).at_=((cz.getD k 0:Nat):Int):=Sp.B0G _ _
   have hsk:=hsmall k
   have hsn:=Sp.B3r s cz k
   generalize Sp.A1L s cz k=it at hit hat hsk hsn
   generalize cz.getD (k+1) s.length=e2 at hca hzb hit
   generalize cz.getD k 0=e1 at hca hza hit hat
   clear hsmall hsm hcat hz1 hz2 hits0 herr hok
   repeat' (first|(refine Y0 (id:=24) (hm.perm pm1_1) 3 6 (h:=?_);clear hm;intro wd hR hm)|(refine A0n (d:=88) (enc:=A1q) (z:=e1) ?_ (hr:=hrow2) (he:=fun _=>rfl) (hz:=hza);intro bt ot hpt)|(refine A0n (d:=93) (enc:=A1q) (z:=e2) ?_ (hr:=hrow2) (he:=fun _=>rfl) (hz:=hzb);intro bt2 ot2 hpt2)|(refine B5z hm (by rfl) (by rfl) (by rfl) (by rfl) (by first|exact gt0|exact gt1|exact gt2|exact gt3|exact gt4|exact gt5|exact gt6) (by exact List.nodup_nil) B54 ?_)|(refine P5 (d:=109) (enc:=A1q) (z:=e1) ?_ (hr:=hrow2) (he:=fun _=>rfl) (hz:=hza);intro bt3 ot3 hpt3)|(refine F5 ?_ hm (hc:=hit);clear hm;rintro _ I4 _ _ ⟨_,rfl,⟨ap,cp1,as_,cs1,ab,cb,ad,cd,xb,rfl,r1,r2,r3,r4,r5⟩,rfl⟩ hle hm;have hleI4:=hle;try simp only[F7] at hm)|(refine P5 (d:=114) (enc:=A1q) (z:=e1) ?_ (hr:=hrow2.le hleI4) (he:=fun _=>rfl) (hz:=hza);intro bt4 ot4 hpt4)|(refine Z7 (d:=120) ?_ hm (hc:=C1b it hsk _ _ ⟨ap,cp1,as_,cs1,ab,cb,ad,cd,xb,by rw[hat],r1,r2,r3,r4,r5⟩);clear hm;rintro _ I5 _ _ ⟨_,rfl,⟨ap2,cp2,as2,cs2,ab2,cb2,ad2,cd2,xb2,rfl,q1,q2,q3,q4,q5⟩,rfl⟩ hle hm;have hleI5:=hle;try simp only[F7] at hm)|refine A6k ?_ hR|refine Y7 ?_ hR|(refine A1N (d:=122) ?_ hm;clear hm;intro a122 cp122 _ _ hm;replace hm:=hR.back hm;clear hR;try simp only[F7] at hm)|(refine V7 (d:=17) ?_ hm;clear hm;intro b17 _ hm)|refine H6 ?_ hm|refine A1s ?_ hm|refine B5s ?_ hm|(refine N8 ?_ hm;clear hm;intro _ hm;try simp only[F7] at hm)|(refine J6 hm (k:=?_);clear hm;intro _ hm;try simp only[F7] at hm)|refine D7 ?_|refine D5 ?_|refine J5 ?_|refine L8 ?_|refine G7 ?_|refine U9 ?_|refine V9 ?_|refine Q4 ?_|refine C9 ?_|refine D8 ?_|refine A7 ?_|refine D9 ?_|refine E5 ?_|refine A8 ?_|refine E9 ?_|refine F8 ?_|refine O6 ?_|(refine W9 ?_;intro _ hkq;replace hm:=hm.kept0 hkq;clear hkq)|refine F9 ?_|(refine D6 (ht:=fun _=>?_) (hf:=fun _=>?_)<;>(try first|contradiction|(exfalso;omega)))|refine U3 ?_|refine A1f ?_|refine A9h ?_|refine B2y ?_|refine Q3 ?_|refine A0s ?_)
   all_goals try first|omega|contradiction
   refine J9 (⟨k+1,I5,_,_,_⟩:AgX) (by exact⟨rfl,rfl,rfl,rfl,rfl,rfl,rfl,rfl,trivial⟩) ⟨(hm.front 1 rfl).tl,(hle3.trans hleI4).trans hleI5,?_,by dsimp only;omega,by dsimp only;omega⟩ (by dsimp only;omega)
   dsimp only
   rw[hsn]
   exact(hits.le (hleI4.trans hleI5)).snoc ⟨ap2,cp2,as2,cs2,ab2,cb2,ad2,cd2,xb2,rfl,q1,q2,q3,q4,q5⟩
 ·obtain rfl:k=n:=by omega
  obtain⟨he,hi⟩:=hok hk30
  subst he;subst hi
  have hln:(Sp.A3j s cz).length=k:=by rw[hits0];simp
  repeat' (first|(refine A6j hm (by rfl) (by rfl) (by rfl) (by rfl) (by first|exact gt0|exact gt1|exact gt2|exact gt3|exact gt4|exact gt5|exact gt6) (by rfl) ?_)|refine U5 ?_ hm|(refine N8 ?_ hm;clear hm;intro _ hm;try simp only[F7] at hm)|refine D7 ?_|refine D5 ?_|refine J5 ?_|refine D8 ?_|refine A7 ?_|refine G9 ?_|refine G6 ?_|refine E5 ?_|refine A8 ?_|refine O4 ?_|refine G8 ?_|(refine D6 (ht:=fun _=>?_) (hf:=fun _=>?_)<;>(try first|contradiction|(exfalso;omega))))
  all_goals try omega
  obtain⟨I4,hle4,hm4,hrow4⟩:=(hm.front 0 rfl).freeze
  refine⟨I4,[],⟨a,cp,xs,?_,?_,by rw[hits0];exact hits.le hle4,rfl⟩,hm4.left (H:= [])⟩
  ·rw[hln];rfl
  ·rw[hln];exact hrow4
theorem B0U (s:List UInt8) (I:O5) (hC:A1X I) (hs:s.length≤9223372036854775807):CalM prog 16 #[str s] I [] (B9J (Sp.Y5 s) (Sp.H8 s)):=by
 refine CalM.of fun w E hm=>enter (N:=16) func16 rfl [(0,str s)] Z4 rfl ?_
 repeat' (first|(refine F5 ?_ hm (hc:=B7x s I hC hs);clear hm;rintro _ I2 _ _ ⟨a,cp,xs,rfl,hrow,hits,rfl⟩ hle hm;have hleI2:=hle;try simp only[F7] at hm)|(refine V6 (d:=2) ?_ hm;clear hm;intro b2 _ hm)|(refine V7 (d:=4) ?_ hm;clear hm;intro b4 _ hm)|refine U5 ?_ hm|(refine N8 ?_ hm;clear hm;intro _ hm;try simp only[F7] at hm)|refine A6i ?_ hm|refine D7 ?_|refine D5 ?_|refine V9 ?_|refine Q9 ?_|refine D8 ?_|refine A7 ?_|refine E5 ?_|refine A8 ?_|refine G8 ?_)
 exact⟨I2,[],⟨a,cp,xs,rfl,hrow,hits,rfl⟩,hm.left (H:= [])⟩
end Go.Proofs.YtfjdfdgpkncpfaaGreatDoor
end
section

end
section
namespace Go.Sp
def B7F (s:List UInt8):List (List UInt8):=(List.range (U2 s).length).map (A0y s (U2 s))
def B6h (s t:List UInt8) (j:Nat):Bool:= !(B7F s).contains (A0y t (U2 t) j)
def fresh (s t:List UInt8) (k:Nat):Nat:=(List.range k).countP (B6h s t)
def B13 (s t:List UInt8):Nat:=if Y5 t=0 then fresh s t (U2 t).length else 0
theorem B3o (s t:List UInt8):fresh s t 0=0:=rfl
theorem B3n (s t:List UInt8) (k:Nat):fresh s t (k+1)=fresh s t k+if B6h s t k then 1 else 0:=by
 rw[fresh,List.range_succ,List.countP_append, ←fresh,List.countP_singleton]
theorem A9X (s t:List UInt8) (i m:Nat) (h:∀j,j<m→B6h s t j=true→j=i):∀k,k≤m→fresh s t k≤if i<k then 1 else 0
 |0,_=>by simp[B3o]
 |k+1,hk=>by
  have:=A9X s t i m h k (by omega)
  rw[B3n]
  by_cases ha:B6h s t k=true
  ·obtain rfl:=h k (by omega) ha
   rw[if_neg (by omega)] at this
   rw[if_pos ha,if_pos (by omega)]
   omega
  ·rw[if_neg ha]
   by_cases hik:i<k
   ·rw[if_pos hik] at this
    rw[if_pos (by omega)];omega
   ·rw[if_neg hik] at this
    omega
end Go.Sp
namespace Go.Sp
def shift (n:Nat) (t:Tok):Tok:=⟨t.kind,t.text,t.pos+n⟩
def tk (s:List UInt8) (p:Nat):List Tok:=A49 s.length s p
theorem B39 (p:Nat):tk [] p= []:=rfl
theorem B1e (s:List UInt8) (p:Nat) (hs:s≠ []):tk s p=(if (one s).1>0 then [⟨(one s).1,s.take (one s).2,p⟩] else [])++tk (s.drop (one s).2) (p+(one s).2):=by
 have hl:=A3K s hs
 obtain⟨f,hf⟩:∃f,s.length=f+1:=⟨s.length-1,by omega⟩
 have e:A49 f (s.drop (one s).2) (p+(one s).2)=tk (s.drop (one s).2) (p+(one s).2):=A7K _ _ _ _ (by simp;omega) (by simp)
 unfold tk at e ⊢
 rw[hf]
 simp only[A49,hs,if_false]
 rw[e]
 split<;>rfl
theorem A63 (n:Nat):∀(f:Nat) (s:List UInt8) (p:Nat),A49 f s (p+n)=(A49 f s p).map (shift n)
 |0,_,_=>rfl
 |f+1,s,p=>by
  simp only[A49]
  split
  ·rfl
  ·split
   ·rw[List.map_cons, ←A63 n f,show p+n+(one s).2=p+(one s).2+n by omega];rfl
   ·rw[←A63 n f,show p+n+(one s).2=p+(one s).2+n by omega]
theorem B42 (F:UInt8→Bool):∀(r:List UInt8) (m:Nat),(r.takeWhile F).length≤m→(r.take m).takeWhile F=r.takeWhile F
 | [],m,_=>by simp
 |c::r,0,h=>by
  rw[List.takeWhile_cons] at h ⊢
  split at h
  ·simp at h
  ·rename_i hc;simp[hc]
 |c::r,m+1,h=>by
  rw[List.take_succ_cons,List.takeWhile_cons,List.takeWhile_cons]
  rw[List.takeWhile_cons] at h
  split at h
  ·rename_i hc
   rw[if_pos hc,if_pos hc,B42 F r m (by simpa using h)]
  ·rename_i hc;rw[if_neg hc,if_neg hc]
theorem B7r (s:List UInt8) (m:Nat) (hs:s≠ []) (h:(one s).2≤m):one (s.take m)=one s:=by
 cases s with
 |nil=>exact absurd rfl hs
 |cons c r=>
  have hm:1≤m:=Nat.le_trans (A3K (c::r) hs).1 h
  obtain⟨m,rfl⟩:∃k,m=k+1:=⟨m-1,by omega⟩
  rw[List.take_succ_cons]
  have key:∀F:UInt8→Bool,run F r≤m+1→run F (r.take m)=run F r:=fun F hF=>by
   unfold run at hF ⊢
   rw[B42 F r m (by omega)]
  simp only[one] at h ⊢
  by_cases h1:A5M c=true
  ·rw[if_pos h1] at h ⊢;rw[key _ h,if_pos h1]
  ·rw[if_neg h1] at h ⊢;rw[if_neg h1]
   by_cases h2:c.toNat=35
   ·rw[if_pos h2] at h ⊢;rw[key _ h,if_pos h2]
   ·rw[if_neg h2] at h ⊢;rw[if_neg h2]
    by_cases h3:A1U c=true
    ·rw[if_pos h3] at h ⊢;rw[key _ h,if_pos h3]
    ·rw[if_neg h3] at h ⊢;rw[if_neg h3]
     by_cases h4:A1Z c=true
     ·rw[if_pos h4] at h ⊢;rw[key _ h,if_pos h4]
     ·rw[if_neg h4] at h ⊢;rw[if_neg h4]
theorem C0w:∀(k:Nat) (s:List UInt8) (p n:Nat) (t:Tok),s.length=k→(tk s p)[n]?=some t→p≤t.pos∧tk (s.take (t.pos-p)) p=(tk s p).take n:=by
 intro k
 induction k using Nat.strongRecOn with
 |_ k ih=>
  intro s p n t hk ht
  by_cases hs:s= []
  ·subst hs;rw[B39] at ht;simp at ht
  have hl:=A3K s hs
  have step:=B1e s p hs
  have rest:∀(n:Nat),(tk (s.drop (one s).2) (p+(one s).2))[n]?=some t→p≤t.pos∧tk (s.take (t.pos-p)) p=(if (one s).1>0 then [⟨(one s).1,s.take (one s).2,p⟩] else [])++(tk (s.drop (one s).2) (p+(one s).2)).take n:=fun n hn=>by
   obtain⟨h1,h2⟩:=ih (s.drop (one s).2).length (by simp;omega) (s.drop (one s).2) (p+(one s).2) n t rfl hn
   refine⟨by omega,?_⟩
   have hm:(one s).2≤t.pos-p:=by omega
   have hne:s.take (t.pos-p)≠ []:=by
    intro e
    have:=congrArg List.length e
    simp at this
    rcases this with this|this
    ·omega
    ·exact hs this
   have e3:((s.drop (one s).2).take (t.pos-(p+(one s).2)))=(s.take (t.pos-p)).drop (one s).2:=by
    rw[List.drop_take];congr 1;omega
   have e4:(s.take (t.pos-p)).take (one s).2=s.take (one s).2:=by rw[List.take_take,Nat.min_eq_left hm]
   rw[B1e _ _ hne,B7r s _ hs hm,e4, ←e3,h2]
  rw[step] at ht ⊢
  by_cases hp:(one s).1>0
  ·rw[if_pos hp] at ht rest ⊢
   cases n with
   |zero=>
    simp only[List.singleton_append,List.getElem?_cons_zero,Option.some.injEq] at ht
    subst ht
    exact⟨Nat.le_refl _,by simp[B39]⟩
   |succ n=>
    obtain⟨h1,h2⟩:=rest n (by simpa using ht)
    exact⟨h1,by rw[h2];simp⟩
  ·rw[if_neg hp] at ht rest ⊢
   exact rest n (by simpa using ht)
theorem A9r (s:List UInt8) (n:Nat) (t:Tok) (h:(O3 s)[n]?=some t):O3 (s.take t.pos)=(O3 s).take n:=by
 have:=(C0w _ s 0 n t rfl h).2
 rw[Nat.sub_zero] at this
 exact this
structure Cut (T T':Src) (n:Nat):Prop where
 l:T'.l=T.l.take n
 lt:n<T.l.length
section
variable {T T':Src}{n:Nat}
theorem Cut.len (C:Cut T T' n):T'.l.length=n:=by rw[C.l,List.length_take];have:=C.lt;omega
theorem Cut.tok (C:Cut T T' n) {i:Nat} (h:i<n):T.tok i=T'.tok i:=by
 have:=C.lt
 rw[Src.tok,Src.tok,C.l,List.getD_eq_getElem?_getD,List.getD_eq_getElem?_getD,List.getElem?_take,if_pos h,List.getElem?_eq_getElem (by omega)];rfl
theorem Cut.is (C:Cut T T' n) {i:Nat} (w:List UInt8) (h:i<n):T.is i w=T'.is i w:=by
 have h1:=C.lt
 have h2:=C.len
 rw[Src.is,Src.is,C.tok h,h2,decide_eq_true (by omega:i<T.l.length),decide_eq_true h]
theorem Cut.is_lt (C:Cut T T' n) {i:Nat}{w:List UInt8} (h:T'.is i w=true):i<n:=by have:=Go.Sp.is_lt h;rwa [C.len] at this
theorem Cut.endOf (C:Cut T T' n) {i:Nat} (h:i≤n):T.endOf i=T'.endOf i:=by
 rw[Src.endOf,Src.endOf]
 by_cases h0:i=0
 ·rw[if_pos h0,if_pos h0]
 ·rw[if_neg h0,if_neg h0,C.tok (by omega)]
end
def bs (s:List UInt8) (l:List Tok):List Nat:=(l.filter (A18 s)).map (·.pos)
theorem B4w (s:List UInt8):∀(l:List Tok) (acc:List Nat),acc≠ []→l.foldl (A0m s) acc=acc++bs s l
 | [],acc,_=>by simp[bs]
 |t::l,acc,h=>by
  rw[List.foldl_cons,B4w s l _ (A8O s acc t),A0m]
  by_cases hb:A18 s t=true
  ·rw[if_pos (.inl hb),bs,bs,List.filter_cons_of_pos hb];simp
  ·rw[if_neg (by rintro(h1|h1);exact hb h1;exact h h1),bs,bs,List.filter_cons_of_neg hb]
theorem A6e (s:List UInt8) (p:Nat):∀(l:List Tok) (acc:List Nat) (i:Nat),acc.length≤i→(l.foldl (A0m s) acc)[i]?=some p→
  ∃n t,l[n]?=some t∧t.pos=p∧(l.take n).foldl (A0m s) acc=(l.foldl (A0m s) acc).take i∧(l.foldl (A0m s) acc).drop (i+1)=bs s (l.drop (n+1))
 | [],acc,i,h,hp=>by
  rw[List.foldl_nil,List.getElem?_eq_none h] at hp
  cases hp
 |t::l,acc,i,h,hp=>by
  rw[List.foldl_cons] at hp ⊢
  by_cases h2:(A0m s acc t).length≤i
  ·obtain⟨n,u,h3,h4,h5,h6⟩:=A6e s p l _ i h2 hp
   exact⟨n+1,u,by simpa using h3,h4,by rw[List.take_succ_cons,List.foldl_cons];exact h5,by rw[h6];simp⟩
  ·have h3:=B1K s acc t
   have h4:i=acc.length:=by omega
   have h5:A0m s acc t=acc++ [t.pos]:=by
    rw[A0m] at h2 ⊢
    split
    ·rfl
    ·rename_i hn
     rw[if_neg hn] at h2
     omega
   rw[B4w s l _ (A8O s acc t),h5] at hp ⊢
   refine⟨0,t,rfl,?_,?_,?_⟩
   ·rw[h4,List.append_assoc,List.getElem?_append_right (Nat.le_refl _)] at hp
    simpa using hp
   ·rw[h4,List.append_assoc,List.take_left];rfl
   ·rw[h4,List.drop_left' (by simp)];rfl
theorem B41:∀(k:Nat) (s:List UInt8) (p n:Nat) (t:Tok),s.length=k→(tk s p)[n]?=some t→p≤t.pos∧(tk s p).drop n=tk (s.drop (t.pos-p)) t.pos:=by
 intro k
 induction k using Nat.strongRecOn with
 |_ k ih=>
  intro s p n t hk ht
  by_cases hs:s= []
  ·subst hs;rw[B39] at ht;simp at ht
  have hl:=A3K s hs
  have step:=B1e s p hs
  have rest:∀(n:Nat),(tk (s.drop (one s).2) (p+(one s).2))[n]?=some t→p≤t.pos∧(tk (s.drop (one s).2) (p+(one s).2)).drop n=tk (s.drop (t.pos-p)) t.pos:=fun n hn=>by
   obtain⟨h1,h2⟩:=ih (s.drop (one s).2).length (by simp;omega) (s.drop (one s).2) (p+(one s).2) n t rfl hn
   refine⟨by omega,?_⟩
   rw[h2,List.drop_drop,show (one s).2+(t.pos-(p+(one s).2))=t.pos-p by omega]
  by_cases ho:(one s).1>0
  ·rw[if_pos ho] at step
   cases n with
   |zero=>
    rw[step] at ht
    simp at ht
    subst ht
    simp
   |succ n=>
    rw[step] at ht ⊢
    simpa using rest n (by simpa using ht)
  ·rw[if_neg ho] at step
   rw[step] at ht ⊢
   simpa using rest n (by simpa using ht)
theorem B1F (s:List UInt8) (p:Nat) (t:Tok) (h:t.pos<p):A18 (s.take p) t=A18 s t:=by
 have:(s.take p).getD (t.pos-1) 0=s.getD (t.pos-1) 0:=by
  rw[List.getD_eq_getElem?_getD,List.getD_eq_getElem?_getD,List.getElem?_take_of_lt (by omega)]
 simp only[A18,this]
theorem A8Y {α β:Type} (f g:β→α→β):∀(l:List α) (b:β),(∀b,∀a∈l,f b a=g b a)→l.foldl f b=l.foldl g b
 | [],b,_=>rfl
 |a::l,b,h=>by
  rw[List.foldl_cons,List.foldl_cons,h b a (by simp)]
  exact A8Y f g l _ (fun b' a' ha=>h b' a' (by simp[ha]))
theorem B0x (s:List UInt8) (i p:Nat) (h:(U2 s)[i]?=some p):(U2 s).take i=U2 (s.take p)∧(U2 s).drop (i+1)=(bs (s.drop p) (O3 (s.drop p)).tail).map (· +p):=by
 obtain⟨n,t,h1,h2,h3,h4⟩:=A6e s p (O3 s) [] i (Nat.zero_le _) h
 subst h2
 constructor
 ·change ((O3 s).foldl (A0m s) []).take i=_
  rw[←h3,U2,A9r s n t h1]
  refine A8Y _ _ _ _ fun acc u hu=>?_
  have hu2:u.pos<t.pos:=by
   obtain⟨m,hm,rfl⟩:=List.getElem_of_mem hu
   rw[List.length_take] at hm
   have hn:=(List.getElem?_eq_some_iff.1 h1)
   obtain⟨hn1,hn2⟩:=hn
   have:=List.pairwise_iff_getElem.1 (A2T s) m n (by omega) hn1 (by omega)
   have h5:=(A1u s _ (List.getElem_mem (show m<(O3 s).length by omega))).len
   rw[hn2] at this
   rw[List.getElem_take]
   omega
  rw[A0m,A0m,B1F s t.pos u hu2]
 ·change ((O3 s).foldl (A0m s) []).drop (i+1)=_
  rw[h4]
  obtain⟨h5,h6⟩:=B41 s.length s 0 n t rfl h1
  have h7:(O3 s).drop n=(O3 (s.drop t.pos)).map (shift t.pos):=by
   have e:O3 s=tk s 0:=rfl
   rw[e,h6,Nat.sub_zero]
   have:=A63 t.pos (s.drop t.pos).length (s.drop t.pos) 0
   rw[Nat.zero_add] at this
   exact this
  have h8:(O3 s).drop (n+1)=(O3 (s.drop t.pos)).tail.map (shift t.pos):=by
   rw[←List.drop_drop,h7, ←List.map_drop,List.drop_one]
  rw[h8,bs,bs,List.filter_map,List.map_map,List.map_map]
  have hpos:∀u∈(O3 (s.drop t.pos)).tail,1≤u.pos:=fun u hu=>by
   have hs:=A2T (s.drop t.pos)
   have hok:=fun v hv=>(A1u (s.drop t.pos) v hv).len
   generalize O3 (s.drop t.pos)=L at hu hs hok
   cases L with
   |nil=>simp at hu
   |cons a L=>
    have:=(List.pairwise_cons.1 hs).1 u hu
    have:=hok a (by simp)
    omega
  generalize (O3 (s.drop t.pos)).tail=L at hpos
  have hb:L.filter (A18 s ∘ shift t.pos)=L.filter (A18 (s.drop t.pos)):=by
   refine List.filter_congr fun u hu=>?_
   have h9:=hpos u hu
   have e1:(s.drop t.pos).getD (u.pos-1) 0=s.getD (u.pos+t.pos-1) 0:=by
    rw[List.getD_eq_getElem?_getD,List.getD_eq_getElem?_getD,List.getElem?_drop,show t.pos+(u.pos-1)=u.pos+t.pos-1 by omega]
   have e2:decide ((shift t.pos u).pos=0)=decide (u.pos=0):=by
    rw[decide_eq_false (show ¬(shift t.pos u).pos=0 from by show ¬u.pos+t.pos=0;omega),decide_eq_false (by omega)]
   have e3:(shift t.pos u).pos-1=u.pos+t.pos-1:=rfl
   show A18 s (shift t.pos u)=A18 (s.drop t.pos) u
   rw[A18,A18,e1,e2,e3]
   rfl
  rw[hb]
  rfl
theorem A1r {l:List Nat}{i d x:Nat} (h:l[i]?=some x):l.getD i d=x:=by rw[List.getD_eq_getElem?_getD,h];rfl
theorem B5i (s t:List UInt8) (i c:Nat) (hlen:(U2 t).length=(U2 s).length) (hs:(U2 s)[i]?=some c) (ht:(U2 t)[i]?=some c) (e e':Nat)
  (he:e=(U2 s).getD (i+1) s.length) (he':e'=(U2 t).getD (i+1) t.length) (hpre:s.take c=t.take c) (hsuf:s.drop e=t.drop e') (k:Nat) (hk:k<(U2 t).length) (hki:k≠i):
  A0y t (U2 t) k=A0y s (U2 s) k:=by
 have hi:i<(U2 s).length:=(List.getElem?_eq_some_iff.1 hs).1
 have hls:(U2 s).getD (i+1) s.length≤s.length:=(A32 s hi).2
 have hlt:(U2 t).getD (i+1) t.length≤t.length:=(A32 t (by omega)).2
 have hsl:=congrArg List.length hsuf
 simp only[List.length_drop] at hsl
 rcases Nat.lt_or_ge k i with h|h
 · -- ahead
  obtain⟨a1,_⟩:=B0x s i c hs
  obtain⟨b1,_⟩:=B0x t i c ht
  rw[hpre, ←b1] at a1
  have g:∀j,j<i→(U2 s)[j]?=(U2 t)[j]? :=fun j hj=>by
   have:=congrArg (fun l=>l[j]?) a1
   simpa[List.getElem?_take_of_lt hj] using this
  have gk:=g k h
  have gk1:(U2 s)[k+1]?=(U2 t)[k+1]? :=by
   rcases Nat.lt_or_ge (k+1) i with h2|h2
   ·exact g _ h2
   ·rw[show k+1=i by omega,hs,ht]
  obtain⟨x,hx⟩:∃x,(U2 s)[k]?=some x:=⟨_,List.getElem?_eq_getElem (by omega)⟩
  obtain⟨y,hy⟩:∃y,(U2 s)[k+1]?=some y:=⟨_,List.getElem?_eq_getElem (by omega)⟩
  have hyc:y≤c:=by
   have hsort:=(A7S s).1
   obtain⟨hy1,rfl⟩:=List.getElem?_eq_some_iff.1 hy
   obtain⟨hs1,rfl⟩:=List.getElem?_eq_some_iff.1 hs
   rcases Nat.lt_or_ge (k+1) i with h2|h2
   ·exact Nat.le_of_lt (List.pairwise_iff_getElem.1 hsort (k+1) i hy1 hs1 h2)
   ·have:k+1=i:=by omega
    subst this
    exact Nat.le_refl _
  have hx':(U2 t)[k]?=some x:=by rw[←gk];exact hx
  have hy':(U2 t)[k+1]?=some y:=by rw[←gk1];exact hy
  rw[A0y,A0y,A1r hx,A1r hy,A1r hx',A1r hy']
  have e1:∀r:List UInt8,(r.drop x).take (y-x)=((r.take c).drop x).take (y-x):=fun r=>by
   rw[List.drop_take,List.take_take,Nat.min_eq_left (by omega)]
  rw[e1 s,e1 t,hpre]
 · -- behind
  have h1:i+1≤k:=by omega
  obtain⟨x,hx⟩:∃x,(U2 s)[i+1]?=some x:=⟨_,List.getElem?_eq_getElem (by omega)⟩
  obtain⟨y,hy⟩:∃y,(U2 t)[i+1]?=some y:=⟨_,List.getElem?_eq_getElem (by omega)⟩
  rw[A1r hx] at he hls
  rw[A1r hy] at he' hlt
  subst he;subst he'
  obtain⟨_,a2⟩:=B0x s (i+1) e hx
  obtain⟨_,b2⟩:=B0x t (i+1) e' hy
  rw[←hsuf] at b2
  generalize bs (s.drop e) (O3 (s.drop e)).tail=L at a2 b2
  have hL:L.length=(U2 s).length-(i+2):=by
   have:=congrArg List.length a2
   simp at this
   omega
  have gs:∀j,i+1≤j→∃z,(U2 s).getD j s.length=z+e∧(U2 t).getD j t.length=z+e':=fun j hj=>by
   rcases Nat.lt_or_ge (i+1) j with h2|h2
   ·rcases Nat.lt_or_ge j (U2 s).length with h3|h3
    ·have ga:=congrArg (fun l=>l[j-(i+2)]?) a2
     have gb:=congrArg (fun l=>l[j-(i+2)]?) b2
     simp only[List.getElem?_drop,List.getElem?_map,show i+1+1+(j-(i+2))=j by omega] at ga gb
     have hz:L[j-(i+2)]?=some L[j-(i+2)]:=List.getElem?_eq_getElem (by omega)
     rw[hz] at ga gb
     exact⟨_,A1r ga,A1r gb⟩
    ·refine⟨s.length-e,?_,?_⟩
     ·rw[List.getD_eq_getElem?_getD,List.getElem?_eq_none h3]
      simp only[Option.getD_none]
      omega
     ·rw[List.getD_eq_getElem?_getD,List.getElem?_eq_none (by omega)]
      simp only[Option.getD_none]
      omega
   ·obtain rfl:j=i+1:=by omega
    exact⟨0,by rw[A1r hx];omega,by rw[A1r hy];omega⟩
  have gd:∀(r:List UInt8) d,k<(U2 r).length→(U2 r).getD k 0=(U2 r).getD k d:=fun r d hr=>by
   rw[List.getD_eq_getElem?_getD,List.getD_eq_getElem?_getD,List.getElem?_eq_getElem hr];rfl
  obtain⟨z,z1,z2⟩:=gs k h1
  obtain⟨z',z3,z4⟩:=gs (k+1) (by omega)
  rw[A0y,A0y,gd s s.length (by omega),gd t t.length hk,z1,z2,z3,z4,show z'+e'-(z+e')=z'+e-(z+e) by omega]
  congr 1
  rw[Nat.add_comm z e',Nat.add_comm z e, ←List.drop_drop, ←List.drop_drop,hsuf]
theorem few (s t:List UInt8) (f u:Int) (x:List UInt8) (hc:B6s s f u x=0) (htx:t=C0U s f u x) (hs0:Y5 s=0) (ht0:Y5 t=0) (hlen:(H8 t).length=(H8 s).length)
  (i:Nat) (a b:Itm) (ha:(H8 s)[i]?=some a) (hb:(H8 t)[i]?=some b) (h1:a.at_≤f) (h2:u-a.at_≤a.size) (h3:b.at_=a.at_) (h4:(b.size:Int)-a.size=(t.length:Int)-s.length):
  B13 s t≤1:=by
 have es:H8 s=A3j s (U2 s):=by rw[H8,if_pos hs0]
 have et:H8 t=A3j t (U2 t):=by rw[H8,if_pos ht0]
 rw[es] at ha hlen
 rw[et] at hb hlen
 rw[A7s,A7s] at hlen
 have hi:i<(U2 s).length:=by
  have:=(List.getElem?_eq_some_iff.1 ha).1
  rwa [A7s] at this
 have hi':i<(U2 t).length:=by omega
 rw[A94 s _ hi] at ha
 rw[A94 t _ hi'] at hb
 obtain rfl:=Option.some.inj ha
 obtain rfl:=Option.some.inj hb
 clear ha hb
 have q1:=A32 s hi
 have q2:=A32 t hi'
 have hat:∀r k,(A1L r (U2 r) k).at_=((U2 r).getD k 0:Nat):=fun r k=>by rw[A1L,(A93 _ _).2]
 have hsz:∀r k,(A1L r (U2 r) k).size=(A0y r (U2 r) k).length:=fun r k=>by rw[A1L,(A93 _ _).1]
 have hsa:(A0y s (U2 s) i).length=(U2 s).getD (i+1) s.length-(U2 s).getD i 0:=by rw[A0y,List.length_take,List.length_drop];omega
 have hsb:(A0y t (U2 t) i).length=(U2 t).getD (i+1) t.length-(U2 t).getD i 0:=by rw[A0y,List.length_take,List.length_drop];omega
 rw[hat] at h1 h2
 rw[hat,hat] at h3
 rw[hsz,hsa] at h2
 rw[hsz,hsz,hsa,hsb] at h4
 have gs:(U2 s)[i]?=some ((U2 s).getD i 0):=by rw[List.getD_eq_getElem?_getD,List.getElem?_eq_getElem hi];rfl
 have gt:(U2 t)[i]?=some ((U2 t).getD i 0):=by rw[List.getD_eq_getElem?_getD,List.getElem?_eq_getElem hi'];rfl
 obtain⟨c,hcc⟩:∃c,c=(U2 s).getD i 0:=⟨_,rfl⟩
 obtain⟨e,hee⟩:∃e,e=(U2 s).getD (i+1) s.length:=⟨_,rfl⟩
 obtain⟨e',hee'⟩:∃e',e'=(U2 t).getD (i+1) t.length:=⟨_,rfl⟩
 have h3':(U2 t).getD i 0=c:=by rw[hcc];omega
 rw[h3'] at gt h4 q2
 rw[←hcc] at gs h1 h2 h4 q1
 rw[←hee] at h2 h4 q1
 rw[←hee'] at h4 q2
 have hin:¬(f<0∨u<f∨u>s.length):=fun h=>by rw[B6s,if_pos h] at hc;cases hc
 have ht2:t=s.take f.toNat++x++s.drop u.toNat:=by rw[htx,C0U,if_pos hc]
 have htl:(t.length:Int)=s.length-(u-f)+x.length:=by
  rw[ht2];simp only[List.length_append,List.length_take,List.length_drop];omega
 have hpre:s.take c=t.take c:=by
  rw[ht2,List.append_assoc,List.take_append_of_le_length (by rw[List.length_take];omega),List.take_take,Nat.min_eq_left (by omega)]
 have hsuf:s.drop e=t.drop e':=by
  have hl:(s.take f.toNat++x).length=f.toNat+x.length:=by rw[List.length_append,List.length_take];omega
  have:e'=(s.take f.toNat++x).length+(e-u.toNat):=by rw[hl];omega
  rw[ht2,this, ←List.drop_drop,List.drop_left,List.drop_drop,show u.toNat+(e-u.toNat)=e by omega]
 rw[B13,if_pos ht0]
 have hone:=A9X s t i (U2 t).length (fun j hj hjn=>?_) (U2 t).length (Nat.le_refl _)
 ·split at hone<;>omega
 ·by_cases hji:j=i
  ·exact hji
  ·exfalso
   have hp:=B5i s t i c hlen gs gt e e' hee hee' hpre hsuf j hj hji
   have hm:A0y s (U2 s) j∈B7F s:=List.mem_map_of_mem (List.mem_range.2 (by omega))
   rw[B6h,hp] at hjn
   simp[hm] at hjn
theorem B1N (s:List UInt8) (n:Nat) (t:Tok) (h:(O3 s)[n]?=some t):(O3 s).drop n=(O3 (s.drop t.pos)).map (shift t.pos):=by
 have h6:=(B41 s.length s 0 n t rfl h).2
 have e:O3 s=tk s 0:=rfl
 rw[e,h6,Nat.sub_zero]
 have:=A63 t.pos (s.drop t.pos).length (s.drop t.pos) 0
 rw[Nat.zero_add] at this
 exact this
theorem B4q {s:List UInt8}{i c:Nat} (h:(U2 s)[i]?=some c):∃(n:Nat) (t:Tok),(O3 s)[n]?=some t∧t.pos=c:=by
 obtain⟨n,t,h1,h2,_⟩:=A6e s c (O3 s) [] i (Nat.zero_le _) h
 exact⟨n,t,h1,h2⟩
theorem B3J (s:List UInt8) {i:Nat} (hi:i<(U2 s).length):∃m n,(O3 (A0y s (U2 s) i)).map (shift ((U2 s).getD i 0))=((O3 s).take m).drop n:=by
 have hc:(U2 s)[i]?=some (U2 s)[i]:=List.getElem?_eq_getElem hi
 obtain⟨n,t,h1,h2⟩:=B4q hc
 have hlt:=A32 s hi
 rw[A0y,A1r hc, ←h2]
 rw[A1r hc, ←h2] at hlt
 rcases Nat.lt_or_ge (i+1) (U2 s).length with h3|h3
 ·obtain⟨m,u,h4,h5⟩:=B4q (List.getElem?_eq_getElem h3)
  have e1:(U2 s).getD (i+1) s.length=u.pos:=by rw[A1r (List.getElem?_eq_getElem h3),h5]
  rw[e1] at hlt ⊢
  have h6:=A9r s m u h4
  have hnm:n<m:=by
   rcases Nat.lt_or_ge n m with h|h
   ·exact h
   ·exfalso
    have hn:=List.getElem?_eq_some_iff.1 h1
    have hm:=List.getElem?_eq_some_iff.1 h4
    obtain⟨hn1,hn2⟩:=hn
    obtain⟨hm1,hm2⟩:=hm
    rcases Nat.lt_or_ge m n with h7|h7
    ·have:=List.pairwise_iff_getElem.1 (A2T s) m n hm1 hn1 h7
     rw[hn2,hm2] at this
     omega
    ·obtain rfl:n=m:=by omega
     rw[hn2] at hm2
     subst hm2
     omega
  refine⟨m,n,?_⟩
  have h8:(O3 (s.take u.pos))[n]?=some t:=by rw[h6,List.getElem?_take_of_lt hnm];exact h1
  rw[←h6,B1N _ n t h8,List.drop_take]
 ·have e1:(U2 s).getD (i+1) s.length=s.length:=by rw[List.getD_eq_getElem?_getD,List.getElem?_eq_none h3];rfl
  refine⟨(O3 s).length,n,?_⟩
  rw[e1,List.take_length,B1N s n t h1,List.take_of_length_le (by rw[List.length_drop];omega)]
theorem B5O (s:List UInt8) {i:Nat} (hi:i<(U2 s).length) {t:Tok} (h:t∈O3 (A0y s (U2 s) i)):shift ((U2 s).getD i 0) t∈O3 s:=by
 obtain⟨m,n,h1⟩:=B3J s hi
 have h2:shift ((U2 s).getD i 0) t∈((O3 s).take m).drop n:=h1 ▸ List.mem_map_of_mem h
 exact List.mem_of_mem_take (List.mem_of_mem_drop h2)
def A0L (s:List UInt8) (a:Nat) (n:List UInt8):Prop:=a+n.length≤s.length∧(s.drop a).take n.length=n∧(n≠ []→name n=true∧∃k,(⟨k,n,a⟩:Tok)∈O3 s)
theorem A45 {s:List UInt8}{a:Nat} (h:a≤s.length):A0L s a []:=⟨by simpa using h,by simp,fun h=>absurd rfl h⟩
def stE (s:List UInt8):PE:=fun k nm _ _ f _=>(k=2∨k=4)→A0L s f nm
def stS (s:List UInt8):PS:=fun k nm a _ _ _ _=>(k=1∨k=2∨k=5)→A0L s a nm
theorem B2P (src:List UInt8) (i:Nat):((⟨O3 src,src.length⟩:Src).tok i).pos≤src.length:=by
 rw[Src.tok]
 by_cases h:i<(O3 src).length
 ·have hk:=A1u src (O3 src)[i] (List.getElem_mem h)
  simp only[List.getD_eq_getElem?_getD,List.getElem?_eq_getElem h,Option.getD_some]
  exact Nat.le_of_lt hk.pos
 ·simp only[List.getD_eq_getElem?_getD,List.getElem?_eq_none (Nat.le_of_not_lt h),Option.getD_none]
  exact Nat.le_refl _
theorem A48 (src:List UInt8) (i:Nat) (hn:name ((⟨O3 src,src.length⟩:Src).tok i).text=true):A0L src ((⟨O3 src,src.length⟩:Src).tok i).pos ((⟨O3 src,src.length⟩:Src).tok i).text:=by
 rw[Src.tok] at hn ⊢
 by_cases h:i<(O3 src).length
 ·have hk:=A1u src (O3 src)[i] (List.getElem_mem h)
  simp only[List.getD_eq_getElem?_getD,List.getElem?_eq_getElem h,Option.getD_some] at hn ⊢
  exact⟨hk.fit,hk.text.symm,fun _=>⟨hn,_,List.getElem_mem h⟩⟩
 ·simp only[List.getD_eq_getElem?_getD,List.getElem?_eq_none (Nat.le_of_not_lt h),Option.getD_none]
  exact A45 (Nat.le_refl _)
theorem A2C (src:List UInt8) (s:St):A0L src ((⟨O3 src,src.length⟩:Src).tok s.i).pos (s.named ⟨O3 src,src.length⟩).1:=by
 have h0:A0L src ((⟨O3 src,src.length⟩:Src).tok s.i).pos []:=A45 (B2P src s.i)
 rw[St.named]
 split
 ·rename_i hn
  exact A48 src s.i hn
 ·split
  ·exact h0
  ·exact h0
theorem C0m (src:List UInt8):AtE ⟨O3 src,src.length⟩ (stE src):=
 ⟨fun h=>(by omega),fun i h=>(by omega),fun i n _ _ h=>(by omega),fun i hn _=>A48 src i hn,fun i j m hn _ _ _=>A48 src i hn,fun i k1 n1 v1 m1 f1 t1 k2 n2 v2 m2 f2 t2 _ _ _ h=>(by omega)⟩
theorem C0o (src:List UInt8):AtS ⟨O3 src,src.length⟩ (stS src):=
 ⟨fun h=>(by omega),fun i s lb o j _ _=>A2C src s,fun i j hn _=>A48 src i hn,fun k i j hk h=>(by omega),fun i s j _=>A2C src s⟩
structure ItS (s:List UInt8) (p:Nat) (q:List UInt8) (it:Itm):Prop where
 at_:it.at_=p
 sub:∀a n,A0L q a n→A0L s (p+a) n
 body:P6 (stE q) (stS q) it.body
 params:∀x∈it.params,A0L q x.at_ x.name
 sends:∀x∈it.sends,A0L q x.at_ x.name
 mark:A0L q it.mark it.name
def B8f (s:List UInt8) (it:Itm):Prop:= ∃p q,ItS s p q it
theorem B0Z (s:List UInt8) {i:Nat} (hi:i<(U2 s).length) {a:Nat}{n:List UInt8} (h:A0L (A0y s (U2 s) i) a n):A0L s ((U2 s).getD i 0+a) n:=by
 obtain⟨c1,c2⟩:=A32 s hi
 obtain⟨h1,h2,h3⟩:=h
 have h4:=fun (k:Nat) (h:(⟨k,n,a⟩:Tok)∈O3 (A0y s (U2 s) i))=>B5O s hi h
 rw[A0y,List.length_take,List.length_drop] at h1
 rw[A0y] at h2
 refine⟨by omega,?_,fun hn=>?_⟩
 case refine_2=>
  obtain⟨hnm,k,hk⟩:=h3 hn
  refine⟨hnm,k,?_⟩
  rw[Nat.add_comm]
  exact h4 k hk
 rw[List.drop_take,List.take_take,List.drop_drop,Nat.min_eq_left (by omega)] at h2
 exact h2
theorem B6S (s:List UInt8):∀it∈H8 s,B8f s it:=by
 intro it hit
 rw[H8] at hit
 split at hit
 ·rw[A3j,List.mem_map] at hit
  obtain⟨i,hi,rfl⟩:=hit
  have hi:=List.mem_range.1 hi
  obtain⟨c1,c2⟩:=A32 s hi
  have hall:=B19 (src:=A0y s (U2 s) i) ((U2 s).getD i 0:Nat) (C0m _) (C0o _) (r:=fun x=>A0L (A0y s (U2 s) i) x.at_ x.name) (t:=fun x=>A0L (A0y s (U2 s) i) x.at_ x.name) (fun s _ _=>A2C _ s) (fun s=>A2C _ s)
  refine⟨(U2 s).getD i 0,A0y s (U2 s) i,?_⟩
  rw[A1L]
  refine⟨B0G _ _,fun a n h=>B0Z s hi h,hall.body,hall.params,hall.sends,?_⟩
  rcases hall.mark with ⟨h1,h2⟩|⟨st,h1,h2⟩
  ·rw[h1]
   rcases h2 with ⟨j,h2⟩|h2
   ·rw[h2];exact A45 (B2P (A0y s (U2 s) i) j)
   ·rw[h2];exact A45 (Nat.zero_le _)
  ·rw[h1,h2];exact A2C _ st
 ·cases hit
def C0O (s:List UInt8) (u:Us):Prop:= ∃f d n,u.fr=((f:Nat):Int)∧u.to=((f+n.length:Nat):Int)∧u.df=((d:Nat):Int)∧n≠ []∧A0L s f n∧A0L s d n
def NW.ok (s:List UInt8) (w:NW):Prop:= ∀u∈w.us,C0O s u
def A7I (q:List UInt8) (sc:List Lc):Prop:= ∀l∈sc,l.name≠ []∧A0L q l.at_ l.name
theorem B5l {s:List UInt8}{its:List Itm} (h:∀x∈its,B8f s x) {k:Int}{n:List UInt8}{j:Nat} (hf:Q8 its k n=some j):n≠ []∧∃d:Nat,(N9 its j).at_+(N9 its j).mark=(d:Int)∧A0L s d n:=by
 obtain⟨hj,h1,h2,h3,h4⟩:=Y8 hf
 obtain⟨p,q,hi⟩:=h _ h4
 refine⟨h3,p+(N9 its j).mark,by rw[hi.at_];omega,?_⟩
 have:=hi.sub _ _ hi.mark
 rw[h2] at this
 exact this
section
variable {s q:List UInt8}{p:Nat}{its:List Itm}{sc:List Lc}
theorem B0g (h:A7I q sc) {n:List UInt8}{a:Nat} (hn:n≠ []) (hst:A0L q a n):A7I q (sc++ [⟨n,a⟩]):=fun l hl=>by
 rcases List.mem_append.1 hl with hl|hl
 ·exact h l hl
 ·obtain rfl:=List.mem_singleton.1 hl
  exact⟨hn,hst⟩
theorem B7N:A7I q []:=fun l h=>by cases h
end
theorem B3j (n:List UInt8) {l:List Lc}{k:Nat}{x:Lc} (h:l[k]?=some x):A0g (l.take (k+1)) n=if x.name=n then some x else A0g (l.take k) n:=by
 rw[P9 h,A2U]
end Go.Sp
namespace Go.Fw
theorem A9q {R:List HItem}{a b c d:HItem}:∀h∈ [a,b,c,d],h∈a::b::c::d::R:=by simp
theorem A1O {R:List HItem}{a b c d:HItem}:(a::b::c::d::R).Perm ([a,b,c,d]++R):=.refl _
theorem B0d {R:List HItem}{a b c d x:HItem}:(x::a::b::c::d::R).Perm ([a,b,c,d]++(x::R)):=
 (pm3_1 (R:=d::R)).trans (((List.Perm.swap d x R).cons c).cons b|>.cons a)
end Go.Fw
namespace Go.Proofs.YtfjdfdgpkncpfaaGreatDoor
open Go.Proofs.Tryz
open Go.Fw
abbrev A5W (l:Sp.Lc):List Value:= [str l.name,nt l.at_]
abbrev B6z (u:Sp.Us):List Value:= [.int .i64 u.fr,.int .i64 u.to,.int .i64 u.df]
abbrev B4F (sc:List Sp.Lc) (sa:Option Addr) (sp:Nat):HItem:=.row (.slice sa sc.length sp) 221 2 sc.length (sc.flatMap A5W)
abbrev B71 (us:List Sp.Us) (ua:Option Addr) (up:Nat):HItem:=.row (.slice ua us.length up) 53 3 us.length (us.flatMap B6z)
abbrev C07 (bc bf:Nat) (pi:Value) (sc:List Sp.Lc) (sa:Option Addr) (sp:Nat) (s:Sp.NW) (da:Option Addr) (dp:Nat) (ua:Option Addr) (up:Nat):HItem:=
 .obj bc (.cells [ptr bf,pi,.slice sa sc.length sp,.slice da s.ds.length dp,.slice ua s.us.length up].toArray 126 (0,0))
abbrev NSt (bc bf:Nat) (pi:Value) (sc:List Sp.Lc) (sa:Option Addr) (sp:Nat) (s:Sp.NW) (da:Option Addr) (dp:Nat) (ua:Option Addr) (up:Nat):List HItem:=
 [C07 bc bf pi sc sa sp s da dp ua up,B71 s.us ua up,B4F sc sa sp,A15 s.ds da dp]
abbrev ToN (bc bf:Nat) (pi:Value) (sc:List Sp.Lc) (s:Sp.NW) (val:Value):Value→O5→List HItem→Prop:=
 fun v _ H'=>v=val∧∃sa sp da dp ua up,H'=NSt bc bf pi sc sa sp s da dp ua up
structure NRd (J:O5) (bc bf:Nat) (pi:Value) (sc:List Sp.Lc) (sa:Option Addr) (sp:Nat) (v3 v4:Value):Prop where
 ptr:PtrI J bc 0 126 [ptr bf,pi,.slice sa sc.length sp,v3,v4]
 row:RowI J 221 2 (.slice sa sc.length sp) sc.length (sc.flatMap A5W)
theorem NRd.le {I J:O5} (m:Le I J) {bc bf:Nat}{pi:Value}{sc:List Sp.Lc}{sa:Option Addr}{sp:Nat}{v3 v4:Value} (h:NRd I bc bf pi sc sa sp v3 v4):NRd J bc bf pi sc sa sp v3 v4:=⟨h.ptr.le m,h.row.le m⟩
def lcV:Option Sp.Lc→Value
 |some l=> .tuple #[.agg [str l.name,nt l.at_].toArray,.bool true]
 |none=> .tuple #[.agg [str [],nt 0].toArray,.bool false]
structure NC (I:O5) (src:List UInt8) (p:Nat) (q:List UInt8) (its:List Sp.Itm) (it:Sp.Itm) (bf:Nat) (a:Option Addr) (cp:Nat) (xs:List Value) (pi:Value):Prop where
 file:PtrI I bf 0 25 [.slice a its.length cp]
 fe:FE I its a cp xs
 item:∃bi oi tc ci,pi=.pointer (some ⟨bi,oi,none⟩)∧PtrI I bi oi tc ci∧A5g I it ci
 len:src.length≤4000
 st:Sp.ItS src p q it
 sts:∀x∈its,Sp.B8f src x
theorem NC.le {I J:O5} (m:Le I J) {src:List UInt8}{p:Nat}{q:List UInt8}{its:List Sp.Itm}{it:Sp.Itm}{bf:Nat}{a:Option Addr}{cp:Nat}{xs:List Value}{pi:Value} (h:NC I src p q its it bf a cp xs pi):NC J src p q its it bf a cp xs pi:=by
 obtain⟨h1,h2,⟨bi,oi,tc,ci,e,h3,h4⟩,h5,h6,h7⟩:=h
 exact⟨h1.le m,h2.le m,⟨bi,oi,tc,ci,e,h3.le m,h4.le m⟩,h5,h6,h7⟩
section
variable {I:O5}{bc bf sp dp up:Nat}{pi:Value}{sc:List Sp.Lc}{sa da ua:Option Addr}{s:Sp.NW}
theorem CalR.walker {f:FuncId}{args:Array Value}{v:Value} (h:∀J,Le I J→NRd J bc bf pi sc sa sp (.slice da s.ds.length dp) (.slice ua s.us.length up)→CalR prog f args J [] v):
  CalR prog f args I (NSt bc bf pi sc sa sp s da dp ua up) v:=
 CalR.of fun w J hm hl hH hJ=>by
  have h1:=A4t (hH (C07 bc bf pi sc sa sp s da dp ua up) (by simp))
  have h2:=A91 (hH (B4F sc sa sp) (by simp))
  rw[←hJ] at h1 h2
  exact(h J hl ⟨h1,h2⟩).run w hm.inv (fun _ h=>by cases h)
theorem B4J {J:O5}{v3 v4:Value} (n:List UInt8) (hs:sc.length≤1099511627776) (h:NRd J bc bf pi sc sa sp v3 v4):CalM prog 126 #[ptr bc,str n] J [] (fun v _ H'=>v=lcV (Sp.A0g sc n)∧H'= []):=by
 refine CalM.of fun w E hm=>enter (N:=35) func126 rfl [(0,ptr bc),(1,str n)] A0B rfl ?_
 obtain⟨hp,hr⟩:=h
 repeat' (first|(refine V6 (d:=4) ?_ hm;clear hm;intro b4 _ hm)|refine H9 ?_ hm|refine D7 ?_|refine D5 ?_|refine G7 ?_|refine E8 ?_|refine A3M ?_|refine C9 ?_|refine D8 ?_|refine A7 ?_|refine E5 ?_|refine A8 ?_|refine E9 ?_)
 refine U4 (fun k:Nat=> [(0,ptr bc),(1,str n),(4,ptr b4),(6,.int .i64 ((k:Int)-1))]) (fun k w'=>Mem E J [.cell b4 [str [],nt 0] 221] w'∧k≤sc.length∧Sp.A0g sc n=Sp.A0g (sc.take k) n) (fun k=>k) sc.length (by exact⟨rfl,rfl,rfl,rfl,trivial⟩) ⟨hm,Nat.le_refl _,by rw[List.take_length]⟩ ?_
 clear hm
 rintro k w1 ⟨hm,hk,hf⟩
 try dsimp only at hm hk hf ⊢
 by_cases h0:0<k
 ·have hg:sc[k-1]?=some sc[k-1]:=List.getElem?_eq_getElem (by omega)
  have hcut:=Sp.B3j n hg
  rw[show k-1+1=k by omega] at hcut
  generalize sc[k-1]=x at hg hcut
  rw[hcut] at hf
  have hi:sc[((k:Int)-1).toNat]?=some x:=by rw[show ((k:Int)-1).toNat=k-1 by omega];exact hg
  by_cases hx:x.name=n
  ·rw[if_pos hx] at hf
   repeat' (first|(refine P5 (d:=22) (enc:=A5W) (z:=x) ?_ (hr:=hr) (he:=fun _=>rfl) (hz:=hi);intro b1 o1 p1)|(refine P5 (d:=32) (enc:=A5W) (z:=x) ?_ (hr:=hr) (he:=fun _=>rfl) (hz:=hi);intro b2 o2 p2)|refine H9 ?_ hm|refine U7 ?_ hm|(refine N8 ?_ hm;clear hm;intro _ hm;try simp only[F7] at hm)|refine A6i ?_ hm|refine D7 ?_|refine D5 ?_|refine A0i ?_|refine U0 ?_|refine E8 ?_|refine C9 ?_|refine D8 ?_|refine A7 ?_|refine G5 ?_|refine O8 ?_|refine E5 ?_|refine A8 ?_|refine E9 ?_|refine F8 ?_|refine G8 ?_|(refine D6 (ht:=fun _=>?_) (hf:=fun _=>?_)<;>(try first|contradiction|(exfalso;omega))))
   all_goals try first|omega|contradiction
   exact⟨J,[],⟨by rw[hf];rfl,rfl⟩,hm.left (H:= [])⟩
  ·rw[if_neg hx] at hf
   repeat' (first|(refine P5 (d:=22) (enc:=A5W) (z:=x) ?_ (hr:=hr) (he:=fun _=>rfl) (hz:=hi);intro b1 o1 p1)|refine H9 ?_ hm|refine D7 ?_|refine D5 ?_|refine A0i ?_|refine U0 ?_|refine E8 ?_|refine A3M ?_|refine C9 ?_|refine D8 ?_|refine A7 ?_|refine D9 ?_|refine E5 ?_|refine A8 ?_|refine E9 ?_|refine F8 ?_|(refine D6 (ht:=fun _=>?_) (hf:=fun _=>?_)<;>(try first|contradiction|(exfalso;omega))))
   all_goals try first|omega|contradiction
   refine J9 (k-1:Nat) (by exact⟨rfl,rfl,rfl,by rw[show (((k-1:Nat):Int)-1)=(k:Int)-1-1 by omega];rfl,trivial⟩) ⟨hm,by omega,hf⟩ (by omega)
 ·obtain rfl:k=0:=by omega
  repeat' (first|(refine N8 ?_ hm;clear hm;intro _ hm;try simp only[F7] at hm)|refine A6i ?_ hm|refine D7 ?_|refine D5 ?_|refine A0i ?_|refine Q9 ?_|refine D8 ?_|refine A7 ?_|refine G9 ?_|refine G6 ?_|refine E5 ?_|refine A8 ?_|refine O4 ?_|refine G8 ?_|refine F6 ?_)
  all_goals try omega
  exact⟨J,[],⟨by rw[hf];rfl,rfl⟩,hm.left (H:= [])⟩
theorem B6b (bc bf:Nat) (pi:Value) (sc:List Sp.Lc) (sa:Option Addr) (sp:Nat) (s:Sp.NW) (f e:Nat) (n:List UInt8) (da:Option Addr) (dp:Nat) (ua:Option Addr) (up:Nat):
  [.obj bc (.cells [ptr bf,pi,.slice sa sc.length sp,.slice da (s.ds.length+1) dp,.slice ua s.us.length up].toArray 126 (0,0)),B71 s.us ua up,B4F sc sa sp,.row (.slice da (s.ds.length+1) dp) 92 4 (s.ds.length+1) (s.ds.flatMap A3w++A3w ⟨f,f+n.length,e,n⟩)]=NSt bc bf pi sc sa sp (s.tell f e n) da dp ua up:=by
 simp[Sp.NW.tell,List.flatMap_append]
theorem B8g (bc bf:Nat) (pi:Value) (sc:List Sp.Lc) (sa:Option Addr) (sp:Nat) (s:Sp.NW) (b:Int) (f:Nat) (n:List UInt8) (d:Int) (da:Option Addr) (dp:Nat) (ua:Option Addr) (up:Nat):
  [.obj bc (.cells [ptr bf,pi,.slice sa sc.length sp,.slice da s.ds.length dp,.slice ua (s.us.length+1) up].toArray 126 (0,0)),.row (.slice ua (s.us.length+1) up) 53 3 (s.us.length+1) (s.us.flatMap B6z++B6z ⟨b+f,b+f+n.length,d⟩),B4F sc sa sp,A15 s.ds da dp]=NSt bc bf pi sc sa sp (s.use b f n d) da dp ua up:=by
 simp[Sp.NW.use,List.flatMap_append]
theorem A7z (n:List UInt8) (f e:Nat) (hf:f+n.length≤1099511627776) (hd:s.n≤1000000000):
  CalM prog 79 #[ptr bc,nt f,nt e,str n] I (NSt bc bf pi sc sa sp s da dp ua up) (ToN bc bf pi sc (s.tell f e n) (.tuple #[])):=by
 have hn:s.n=s.ds.length+s.us.length:=rfl
 refine CalM.of fun w E hm=>enter (N:=25) func79 rfl [(0,ptr bc),(1,nt f),(2,nt e),(3,str n)] A8I rfl ?_
 repeat' (first|(refine A2b (d:=22) ?_ hm;clear hm;intro a22 cp22 _ _ hm;try simp only[F7] at hm)|refine H6 ?_ hm|(refine J6 hm (k:=?_);clear hm;intro _ hm;try simp only[F7] at hm)|refine D7 ?_|refine A0Z ?_|refine E8 ?_|refine Q4 ?_|refine C9 ?_|refine Q9 ?_|refine D8 ?_|refine A8 ?_|refine X3 ?_)
 exact⟨I,_,⟨rfl,_,_,_,_,_,_,B6b _ _ _ _ _ _ s f e n _ _ _ _⟩,hm⟩
theorem B9w {src:List UInt8}{p:Nat}{q:List UInt8}{its:List Sp.Itm}{it:Sp.Itm}{a:Option Addr}{cp:Nat}{xs:List Value} (hC:NC I src p q its it bf a cp xs pi) (f:Nat) (n:List UInt8) (d:Int) (hst:Sp.A0L q f n) (hd:s.n≤1000000000):
  CalM prog 127 #[ptr bc,nt f,str n,.int .i64 d] I (NSt bc bf pi sc sa sp s da dp ua up) (ToN bc bf pi sc (s.use p f n d) (.tuple #[])):=by
 have hn:s.n=s.ds.length+s.us.length:=rfl
 have hb:=(hC.st.sub _ _ hst).1
 have hlen:=hC.len
 have hat:=hC.st.at_
 refine CalM.of fun w E hm=>enter (N:=40) func127 rfl [(0,ptr bc),(1,nt f),(2,str n),(3,.int .i64 d)] A8I rfl ?_
 obtain⟨bi,oi,tci,ci,rfl,hpi,hati⟩:=hC.item
 obtain⟨pa,pc,sa9,sc9,ba,bc9,da9,dc9,xb,rfl,_⟩:=hati
 rw[hat] at hpi
 repeat' (first|(refine Y0 (id:=0) (hm.perm pm1_1) 28 30 (h:=?_);clear hm;intro wd hR hm)|refine Y7 ?_ hR|refine A0C ?_ hR|(refine A1N (d:=37) ?_ hm;clear hm;intro a37 cp37 _ _ hm;replace hm:=hR.back hm;clear hR;try simp only[F7] at hm)|(refine J6 hm (k:=?_);clear hm;intro _ hm;try simp only[F7] at hm)|refine E8 ?_|refine C9 ?_|refine D8 ?_|refine X3 ?_|refine A0P ?_|refine B53 ?_|refine X5 ?_|refine C1f ?_|refine Q3 ?_|refine A3V ?_|refine A0s ?_)
 all_goals try omega
 exact⟨I,_,⟨rfl,_,_,_,_,_,_,B8g _ _ _ _ _ _ s p f n d _ _ _ _⟩,hm.swap⟩
end
end Go.Proofs.YtfjdfdgpkncpfaaGreatDoor
end
section
namespace Go.Sp
theorem B5x {b:Int}{sc:List Lc}{a:Nat}{n:List UInt8}{s:NW}{l:Lc} (h:A0g sc n=some l):A5x b sc a n s=s.use b a n (b+l.at_):=by rw[A5x,h]
theorem B5w {b:Int}{sc:List Lc}{a:Nat}{n:List UInt8}{s:NW} (h:A0g sc n=none):A5x b sc a n s=if n= [] then s else s.tell a 6 n:=by rw[A5x,h]
theorem B5v {its:List Itm}{b k:Int}{a:Nat}{n:List UInt8}{s:NW}{j:Nat} (h:Q8 its k n=some j):A2X its b k a n s=s.use b a n ((N9 its j).at_+(N9 its j).mark):=by rw[A2X,h]
theorem B5u {its:List Itm}{b k:Int}{a:Nat}{n:List UInt8}{s:NW} (h:Q8 its k n=none):A2X its b k a n s=if n= [] then s else s.tell a 6 n:=by rw[A2X,h]
theorem B7g {n:List UInt8}{a:Nat}{sc:List Lc}{s:NW}{l:Lc} (hn:n≠ []) (h:A0g sc n=some l):mkN n a sc s=(sc++ [⟨n,a⟩],s.tell a 7 n):=by rw[mkN,if_neg hn,h]
theorem B7f {n:List UInt8}{a:Nat}{sc:List Lc}{s:NW} (hn:n≠ []) (h:A0g sc n=none):mkN n a sc s=(sc++ [⟨n,a⟩],s):=by rw[mkN,if_neg hn,h]
end Go.Sp
namespace Go.Proofs.YtfjdfdgpkncpfaaGreatDoor
open Go.Proofs.Tryz
open Go.Fw
theorem B1s (bc bf:Nat) (pi:Value) (sc:List Sp.Lc) (sa:Option Addr) (sp:Nat) (s:Sp.NW) (n:List UInt8) (x:Nat) (da:Option Addr) (dp:Nat) (ua:Option Addr) (up:Nat):
  [.obj bc (.cells [ptr bf,pi,.slice sa (sc.length+1) sp,.slice da s.ds.length dp,.slice ua s.us.length up].toArray 126 (0,0)),B71 s.us ua up,.row (.slice sa (sc.length+1) sp) 221 2 (sc.length+1) (sc.flatMap A5W++A5W ⟨n,x⟩),A15 s.ds da dp]=NSt bc bf pi (sc++ [⟨n,x⟩]) sa sp s da dp ua up:=by
 simp[List.flatMap_append]
section
variable {I:O5}{bc bf sp dp up:Nat}{pi:Value}{sc:List Sp.Lc}{sa da ua:Option Addr}{s:Sp.NW}
theorem B7o (n:List UInt8) (a:Nat) (ha:a+n.length≤1099511627776) (hs:sc.length≤1000000000) (hd:s.n≤1000000000):
  CalM prog 104 #[ptr bc,str n,nt a] I (NSt bc bf pi sc sa sp s da dp ua up) (ToN bc bf pi (Sp.mkN n a sc s).1 (Sp.mkN n a sc s).2 (.tuple #[])):=by
 refine CalM.of fun w E hm=>enter (N:=33) func104 rfl [(0,ptr bc),(1,str n),(2,nt a)] A3h rfl ?_
 by_cases hn:n= []
 ·subst hn
  repeat' (first|refine D7 ?_|refine U0 ?_|refine D8 ?_|refine A7 ?_|refine G5 ?_|refine E5 ?_|refine A8 ?_|refine G8 ?_|refine A4J ?_|refine F9 ?_)
  all_goals try first|omega|contradiction
  exact⟨I,_,⟨rfl,_,_,_,_,_,_,rfl⟩,hm⟩
 have hg:=CalR.walker (I:=I) (bc:=bc) (bf:=bf) (pi:=pi) (sc:=sc) (sa:=sa) (sp:=sp) (s:=s) (da:=da) (dp:=dp) (ua:=ua) (up:=up) (fun J m h=>(B4J n (by omega) h).read)
 cases hf:Sp.A0g sc n with
 |some l=>
  rw[hf] at hg
  dsimp only[lcV] at hg
  rw[Sp.B7g hn hf]
  have hT:=fun (J:O5)=>A7z (I:=J) (bc:=bc) (bf:=bf) (pi:=pi) (sc:=sc) (sa:=sa) (sp:=sp) (s:=s) (da:=da) (dp:=dp) (ua:=ua) (up:=up) n a 7 ha hd
  repeat' (first|(refine L9 (d:=13) ?_ hm (hs:=A9q) (hc:=by exact hg);clear hm;intro _ hm)|(refine F5 (d:=20) ?_ hm (hp:=B0d) (hc:=hT I);clear hm;rintro _ I2 _ _ ⟨rfl,sa2,sp2,da2,dp2,ua2,up2,rfl⟩ hleI2 hm;try simp only[F7] at hm)|(refine V7 (d:=6) ?_ hm;clear hm;intro b6 _ hm)|(refine A2b (d:=30) ?_ hm;clear hm;intro a30 cp30 _ _ hm;try simp only[F7] at hm)|refine H6 ?_ hm|(refine J6 hm (k:=?_);clear hm;intro _ hm;try simp only[F7] at hm)|refine D7 ?_|refine D5 ?_|refine U0 ?_|refine V9 ?_|refine E8 ?_|refine C9 ?_|refine Q9 ?_|refine D8 ?_|refine A7 ?_|refine E5 ?_|refine A8 ?_|refine F8 ?_|refine X3 ?_|refine F9 ?_|(refine D6 (ht:=fun _=>?_) (hf:=fun _=>?_)<;>(try first|contradiction|(exfalso;omega))))
  all_goals try first|omega|contradiction
  exact⟨I2,_,⟨rfl,_,_,_,_,_,_,B1s _ _ _ _ _ _ (s.tell a 7 n) n a _ _ _ _⟩,hm.left⟩
 |none=>
  rw[hf] at hg
  dsimp only[lcV] at hg
  rw[Sp.B7f hn hf]
  repeat' (first|(refine L9 (d:=13) ?_ hm (hs:=A9q) (hc:=by exact hg);clear hm;intro _ hm)|(refine V7 (d:=6) ?_ hm;clear hm;intro b6 _ hm)|(refine A2b (d:=30) ?_ hm;clear hm;intro a30 cp30 _ _ hm;try simp only[F7] at hm)|refine H6 ?_ hm|(refine J6 hm (k:=?_);clear hm;intro _ hm;try simp only[F7] at hm)|refine D7 ?_|refine D5 ?_|refine U0 ?_|refine V9 ?_|refine E8 ?_|refine C9 ?_|refine Q9 ?_|refine D8 ?_|refine A7 ?_|refine E5 ?_|refine A8 ?_|refine F8 ?_|refine X3 ?_|refine F6 ?_|(refine D6 (ht:=fun _=>?_) (hf:=fun _=>?_)<;>(try first|contradiction|(exfalso;omega))))
  all_goals try first|omega|contradiction
  exact⟨I,_,⟨rfl,_,_,_,_,_,_,B1s _ _ _ _ _ _ s n a _ _ _ _⟩,hm.tl⟩
variable {src:List UInt8}{p:Nat}{q:List UInt8}{its:List Sp.Itm}{it:Sp.Itm}{a:Option Addr}{cp:Nat}{xs:List Value}
theorem B4K (hC:NC I src p q its it bf a cp xs pi) (f:Nat) (n:List UInt8) (hst:Sp.A0L q f n) (hsc:Sp.A7I q sc) (hs:sc.length≤1000000000) (hd:s.n≤1000000000):
  CalM prog 157 #[ptr bc,nt f,str n] I (NSt bc bf pi sc sa sp s da dp ua up) (ToN bc bf pi sc (Sp.A5x p sc f n s) (.tuple #[])):=by
 have hb:=(hC.st.sub _ _ hst).1
 have hlen:=hC.len
 have hat:=hC.st.at_
 refine CalM.of fun w E hm=>enter (N:=35) func157 rfl [(0,ptr bc),(1,nt f),(2,str n)] A3h rfl ?_
 have hg:=CalR.walker (I:=I) (bc:=bc) (bf:=bf) (pi:=pi) (sc:=sc) (sa:=sa) (sp:=sp) (s:=s) (da:=da) (dp:=dp) (ua:=ua) (up:=up) (fun J m h=>(B4J n (by omega) h).read)
 cases hf:Sp.A0g sc n with
 |some l=>
  rw[hf] at hg
  dsimp only[lcV] at hg
  rw[Sp.B5x hf]
  have hl:=(hC.st.sub _ _ (hsc _ (Sp.A4M hf).1).2).1
  have hU:=fun (J:O5) (m:Le I J)=>B9w (I:=J) (bc:=bc) (sc:=sc) (sa:=sa) (sp:=sp) (s:=s) (da:=da) (dp:=dp) (ua:=ua) (up:=up) (hC.le m) f n ((p:Int)+l.at_) hst hd
  obtain⟨bi,oi,tci,ci,rfl,hpi,hati⟩:=hC.item
  obtain⟨pa,pc,sa9,sc9,ba,bc9,da9,dc9,xb,rfl,_⟩:=hati
  rw[hat] at hpi
  repeat' (first|(refine L9 (d:=11) ?_ hm (hs:=A9q) (hc:=by exact hg);clear hm;intro _ hm)|(refine Q5 (id:=2) 13 (h:=?_))|(refine F5 (d:=28) ?_ hm (hp:=B0d) (hc:=hU I (Le.refl _));clear hm;rintro _ I2 _ _ ⟨rfl,sa2,sp2,da2,dp2,ua2,up2,rfl⟩ hleI2 hm;try simp only[F7] at hm)|(refine V7 (d:=6) ?_ hm;clear hm;intro b6 _ hm)|refine P8 ?_ hm|refine X8 ?_ hm|refine D7 ?_|refine D5 ?_|refine V9 ?_|refine D8 ?_|refine A7 ?_|refine E5 ?_|refine A8 ?_|refine X3 ?_|(refine V4 ?_;intro _ hkq;replace hm:=hm.kept0 hkq;clear hkq)|refine F9 ?_|refine U3 ?_|refine J4 ?_|refine A9h ?_|refine H7 ?_)
  all_goals try first|omega|contradiction
  exact⟨I2,_,⟨rfl,_,_,_,_,_,_,rfl⟩,hm.left⟩
 |none=>
  rw[hf] at hg
  dsimp only[lcV] at hg
  rw[Sp.B5w hf]
  by_cases hn:n= []
  ·rw[if_pos hn]
   subst hn
   repeat' (first|(refine L9 (d:=11) ?_ hm (hs:=A9q) (hc:=by exact hg);clear hm;intro _ hm)|(refine V7 (d:=6) ?_ hm;clear hm;intro b6 _ hm)|refine D7 ?_|refine D5 ?_|refine A0x ?_|refine V9 ?_|refine D8 ?_|refine A7 ?_|refine E5 ?_|refine A8 ?_|refine F8 ?_|refine X3 ?_|refine F6 ?_)
   all_goals try first|omega|contradiction
   exact⟨I,_,⟨rfl,_,_,_,_,_,_,rfl⟩,hm.tl⟩
  ·rw[if_neg hn]
   have hT:=fun (J:O5)=>A7z (I:=J) (bc:=bc) (bf:=bf) (pi:=pi) (sc:=sc) (sa:=sa) (sp:=sp) (s:=s) (da:=da) (dp:=dp) (ua:=ua) (up:=up) n f 6 (by omega) hd
   repeat' (first|(refine L9 (d:=11) ?_ hm (hs:=A9q) (hc:=by exact hg);clear hm;intro _ hm)|(refine F5 (d:=34) ?_ hm (hp:=B0d) (hc:=hT I);clear hm;rintro _ I2 _ _ ⟨rfl,sa2,sp2,da2,dp2,ua2,up2,rfl⟩ hleI2 hm;try simp only[F7] at hm)|(refine V7 (d:=6) ?_ hm;clear hm;intro b6 _ hm)|refine D7 ?_|refine D5 ?_|refine A0x ?_|refine V9 ?_|refine D8 ?_|refine A7 ?_|refine E5 ?_|refine A8 ?_|refine X3 ?_|refine F6 ?_|(refine D6 (ht:=fun _=>?_) (hf:=fun _=>?_)<;>(try first|contradiction|(exfalso;omega))))
   all_goals try first|omega|contradiction
   exact⟨I2,_,⟨rfl,_,_,_,_,_,_,rfl⟩,hm.left⟩
theorem B0K (hC:NC I src p q its it bf a cp xs pi) (k:Int) (f:Nat) (n:List UInt8) (hst:Sp.A0L q f n) (hd:s.n≤1000000000) (hf:Sp.Q8 its k n=none):
  CalM prog 105 #[ptr bc,.int .i64 k,nt f,str n] I (NSt bc bf pi sc sa sp s da dp ua up) (ToN bc bf pi sc (Sp.A2X its p k f n s) (.pointer none)):=by
 have hb:=(hC.st.sub _ _ hst).1
 have hlen:=hC.len
 refine CalM.of fun w E hm=>enter (N:=51) func105 rfl [(0,ptr bc),(1,.int .i64 k),(2,nt f),(3,str n)] A8I rfl ?_
 have hCf:=hC.file
 have hfind:=(A2B k n its I a cp xs hC.fe).read
 rw[Sp.A0Y,hf] at hfind
 dsimp only at hfind
 rw[Sp.B5u hf]
 by_cases hn:n= []
 ·rw[if_pos hn]
  subst hn
  repeat' (first|(refine L9 (d:=19) ?_ hm (hc:=hfind);clear hm;intro _ hm)|refine H6 ?_ hm|refine U7 ?_ hm|refine D7 ?_|refine D5 ?_|refine J5 ?_|refine A0x ?_|refine E8 ?_|refine C9 ?_|refine D8 ?_|refine A7 ?_|refine G5 ?_|refine E5 ?_|refine A8 ?_|refine F8 ?_|refine G8 ?_|refine H5 ?_|refine F9 ?_|refine F6 ?_)
  all_goals try first|omega|contradiction
  exact⟨I,_,⟨rfl,_,_,_,_,_,_,rfl⟩,hm⟩
 ·rw[if_neg hn]
  have hT:=fun (J:O5)=>A7z (I:=J) (bc:=bc) (bf:=bf) (pi:=pi) (sc:=sc) (sa:=sa) (sp:=sp) (s:=s) (da:=da) (dp:=dp) (ua:=ua) (up:=up) n f 6 (by omega) hd
  repeat' (first|(refine L9 (d:=19) ?_ hm (hc:=hfind);clear hm;intro _ hm)|(refine F5 (d:=27) ?_ hm (hp:=A1O) (hc:=hT I);clear hm;rintro _ I2 _ _ ⟨rfl,sa2,sp2,da2,dp2,ua2,up2,rfl⟩ hleI2 hm;try simp only[F7] at hm)|refine H6 ?_ hm|refine U7 ?_ hm|refine D7 ?_|refine D5 ?_|refine J5 ?_|refine A0x ?_|refine E8 ?_|refine C9 ?_|refine D8 ?_|refine A7 ?_|refine G5 ?_|refine E5 ?_|refine A8 ?_|refine G8 ?_|refine H5 ?_|refine F9 ?_|(refine D6 (ht:=fun _=>?_) (hf:=fun _=>?_)<;>(try first|contradiction|(exfalso;omega))))
  all_goals try first|omega|contradiction
  exact⟨I2,_,⟨rfl,_,_,_,_,_,_,rfl⟩,hm⟩
theorem B0L (hC:NC I src p q its it bf a cp xs pi) (k:Int) (f:Nat) (n:List UInt8) (hst:Sp.A0L q f n) (hd:s.n≤1000000000) {j:Nat} (hf:Sp.Q8 its k n=some j):
  CalM prog 105 #[ptr bc,.int .i64 k,nt f,str n] I (NSt bc bf pi sc sa sp s da dp ua up)
   (fun v I' H'=>(∃bj oj cj,v=.pointer (some ⟨bj,oj,none⟩)∧PtrI I' bj oj 60 cj∧A5g I' (Sp.N9 its j) cj)∧∃sa sp da dp ua up,H'=NSt bc bf pi sc sa sp (Sp.A2X its p k f n s) da dp ua up):=by
 refine CalM.of fun w E hm=>enter (N:=51) func105 rfl [(0,ptr bc),(1,.int .i64 k),(2,nt f),(3,str n)] A8I rfl ?_
 have hCf:=hC.file
 have hlen:=hC.len
 have hri:=hC.fe.row
 have hfew:=hC.fe.few
 have hfind:=(A2B k n its I a cp xs hC.fe).read
 rw[Sp.A0Y,hf] at hfind
 dsimp only at hfind
 rw[Sp.B5v hf]
 obtain⟨hj,_,_,_,hmemj⟩:=Sp.Y8 hf
 obtain⟨_,dd,hdd,hds⟩:=Sp.B5l hC.sts hf
 have hd0:=hds.1
 have hU:=fun (J:O5) (m:Le I J)=>B9w (I:=J) (bc:=bc) (sc:=sc) (sa:=sa) (sp:=sp) (s:=s) (da:=da) (dp:=dp) (ua:=ua) (up:=up) (hC.le m) f n ((Sp.N9 its j).at_+(Sp.N9 its j).mark) hst hd
 obtain⟨ci,hci,hat,hlc⟩:=hC.fe.get (Sp.A0K hj)
 have hat0:=hat
 obtain⟨pa,pc,sa9,sc9,ba,bc9,da9,dc9,xb,rfl,_⟩:=hat
 repeat' (first|(refine L9 (d:=19) ?_ hm (hc:=hfind);clear hm;intro _ hm)|(refine L6 (d:=36) ?_ (hr:=hri);intro bu ou hpu;rw[show ((j:Int).toNat *10)=j *10 from rfl,hci] at hpu)|(refine Q5 (id:=7) 12 (h:=?_))|(refine F5 (d:=49) ?_ hm (hp:=A1O) (hc:=hU I (Le.refl _));clear hm;rintro _ I2 _ _ ⟨rfl,sa2,sp2,da2,dp2,ua2,up2,rfl⟩ hleI2 hm;try simp only[F7] at hm)|refine H6 ?_ hm|refine H9 ?_ hm|refine U7 ?_ hm|refine X8 ?_ hm|refine D7 ?_|refine D5 ?_|refine J5 ?_|refine E8 ?_|refine C9 ?_|refine D8 ?_|refine A7 ?_|refine E5 ?_|refine A8 ?_|refine F8 ?_|refine G8 ?_|refine H5 ?_|(refine V4 ?_;intro _ hkq;replace hm:=hm.kept0 hkq;clear hkq)|refine F6 ?_|refine U3 ?_|refine J4 ?_|refine A9h ?_|refine H7 ?_)
 all_goals try first|omega|contradiction
 exact⟨I2,_,And.intro ⟨_,_,_,rfl,hpu.le hleI2,hat0.le hleI2⟩ ⟨_,_,_,_,_,_,rfl⟩,hm⟩
end
end Go.Proofs.YtfjdfdgpkncpfaaGreatDoor
end
