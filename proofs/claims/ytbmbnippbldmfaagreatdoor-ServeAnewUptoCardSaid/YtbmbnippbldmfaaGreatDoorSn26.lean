/- Own work. -/
import Derived.Test.YtbmbnippbldmfaaGreatDoorSn25
set_option maxHeartbeats 64000000
namespace Go.Sp
theorem C1F {l:List Par}{k:Nat}{p:Par} (h:l[k]?=some p):(A9V l).getD k []=p.name++ [58,32]++A4F p.label:=by
 rw[O4,A9V,A0f,h];rfl
theorem B7V (l:List Rf):∀ {j k:Nat},j<=k->(A7y l j).length<=(A7y l k).length
 |j,0,h=>by
  obtain rfl:j=0:=by omega
  exact G9 _
 |j,k+1,h=>by
  by_cases e:j=k+1
  ·subst e;exact G9 _
  ·have:=B7V l (j:=j) (k:=k) (by omega)
   rw[B0l,E9];omega
theorem B8I {its:List Itm}{k:Nat}{it:Itm} (h:its[k]?=some it):A24 (its.take (k+1))=A24 (its.take k)++A9Q it:=by
 rw[A24,A3f,h,X9, <-A24];simp
theorem C2S (its:List Itm) (k:Nat):(A24 (its.take k)).length<=(A24 its).length:=by
 have:A24 its=A24 (its.take k)++A24 (its.drop k):=by rw[A24,A24,A24, <-X9,A3e]
 rw[this,E9];omega
theorem C3e {it:Itm} (h:it.fitI):A9Q it≠ []:=by
 rw[A9Q];rcases h.kind with k|⟨k,_⟩
 ·rw[if_neg (by omega),if_pos k];simp
 ·rw[if_pos k];simp
theorem B6x {its:List Itm}{k:Nat}{it:Itm} (h:its[k]?=some it):(its.drop k).any (fun it=> !it.diags.isEmpty)=(!it.diags.isEmpty||(its.drop (k+1)).any (fun it=> !it.diags.isEmpty)):=by
 rw[List.drop_eq_getElem?_toList_append,h];simp
end Go.Sp
namespace Go.Proofs
open Go.Proofs.Tryz
open Go.Sp
open Go.Fw
theorem C6w {I0:P6} (hT:A8B I0) {bw:Nat}{x:Sp.Stm}{d:Nat} (hfit:x.fitS d) (hB1:BW I0 bw (d+1) x.thn) (hB2:BW I0 bw (d+1) x.els):SW I0 bw d x:=by
 intro I b o tc k ea ec ex a1 c1 xs1 a2 c2 xs2 out u a cp hle0 hk hlen hp h2 h3 h4 h5 h6 h7;obtain⟨hfe,hnode⟩:=B4t hfit;have hE:=C7N hT bw _ x.e (G9 _) _ _ hfe;have heq:=C52 x k;obtain⟨fin,hfin⟩:∃fin,fin=B55 x k:=⟨_,rfl⟩;rw[<-hfin]at heq hlen |-;have hd12:d<12:=by
  have:=hfe;cases he:x.e
  rw[he,Sp.Ex.fitE]at this;exact this.1
 have hpl:=B2x k;have hRp:=fun (J:P6)=>B8g (I:=J) k (by omega)
 have hEx:=fun (J:P6) (m:Le I J) (o2:List UInt8) (u a cp) (ho:o2.length+(Sp.exW x.e).length<=100000000000000)=>hE J b (o+5) tc ea ec ex o2 u a cp (hle0.trans m) ho (C4d (hp.le m)) (h2.le m) (Y7.le m _ _ h3)
 generalize Sp.pad k=pd at heq hRp hpl;have hW0:=A0l bw out pd u a cp (I:=I) (by rw[heq,E9]at hlen;omega);refine CalM.of fun w E hm=>enter (N:=155) func99 rfl [(0,ptr bw),(1,.pointer (some ⟨b,o,none⟩)),(2,nt k)] A3C rfl ?_
 by_cases k1:x.kind=1
 ·rw[if_pos k1]at heq
  have hlb:x.label<256:=by
   rcases hnode with h|h|h|h|h|h
   ·exact h.2
   all_goals omega
  have hPr:=fun (J:P6)=>B6b (J:=J) x.label hlb
  cases ho:x.opn with
  |true=>
   rw[ho,if_pos rfl,J3]at heq;subst heq;simp only[E9,F8,List.length_nil]at hlen;rw[ho]at hp;repeat' (first|refine Z8 (id:=0) (hm.perm pm2_0) [0,1,2,3] [4,5] 6 (by kernel_rfl) ?_;clear hm;intro wd hR hm|refine U7 (d:=12) ?_ hm (hp:=pm0) (hc:=hRp I);clear hm;rintro _ I1 _ _ ⟨rfl,rfl,rfl⟩ hleI1 hm;rw[P5]at hm|refine U7 (d:=13) ?_ hm (hp:=pm2_0) (hc:=hW0);clear hm;rintro _ I2 _ _ ⟨b2,cq2,rfl⟩ hleI2 hm;rw[J3]at hm;have hp2:=hp.le hleI2|refine Z8 (id:=4) (hm.perm pm2_0) [0,1,2,3,4,5,6,7] [8] 9 (by kernel_rfl) ?_;clear hm;intro wd hR hm|refine A2s (d:=27) (s:= [108,101,116,32]) (u:=x.name) (by rfl) (by rfl) (by rfl) (by rfl) (by simp only[F8,List.length_nil];omega) ?_|refine U7 (d:=28) ?_ hm (hp:=pm2_0) (hc:=A0l bw (out++pd) ([108,101,116,32]++x.name) true b2 cq2 (by simp only[E9,F8,List.length_nil];omega));clear hm;rintro _ I3 _ _ ⟨b3,cq3,rfl⟩ hleI3 hm;rw[J3]at hm;have hp3:=hp2.le hleI3|refine F6 (d:=47) ?_ hm (hp:=pm2_0) (hc:=A0l bw (out++pd++([108,101,116,32]++x.name)) [32,61,32] true b3 cq3 (by simp only[E9,F8,List.length_nil];omega));clear hm;rintro _ I4 _ _ ⟨b4,cq4,rfl⟩ hleI4 hm;rw[J3]at hm;have hp4:=hp3.le hleI4|refine F6 (d:=52) ?_ hm (hp:=pm2_0) (hc:=hEx I4 (((hleI2).trans hleI3).trans hleI4) (out++pd++([108,101,116,32]++x.name)++ [32,61,32]) true b4 cq4 (by simp only[E9,F8,List.length_nil];omega));clear hm;rintro _ I5 _ _ ⟨b5,cq5,rfl⟩ hleI5 hm;rw[J3]at hm;have hp5:=hp4.le hleI5|refine F6 (d:=154) ?_ hm (hp:=pm2_0) (hc:=A0l bw (out++pd++([108,101,116,32]++x.name)++ [32,61,32]++Sp.exW x.e) [59,10] true b5 cq5 (by simp only[E9,F8,List.length_nil];omega));clear hm;rintro _ I6 _ _ ⟨b6,cq6,rfl⟩ hleI6 hm;rw[J3]at hm;have hp6:=hp5.le hleI6|refine A0c ?_ hR|refine A0w ?_;replace hm:=hR.back hm;clear hR;try simp only[F9]at hm|refine J5 ?_ hm|refine D8 ?_|refine D6 ?_|refine N9 ?_|refine Y9 ?_|refine E5 ?_|refine C9 ?_|refine D9 ?_|refine A7 ?_|refine D7 ?_|refine E8 ?_|refine A8 ?_|refine F5 ?_|refine G5 ?_|refine X0 ?_|refine F7 ?_|(refine D5 (ht:=fun _=>?_) (hf:=fun _=>?_)<;>try first|contradiction|omega)|refine Z4 ?_|refine O5 ?_|refine J8 ?_|refine A0b ?_)
   refine⟨I6,_,⟨b6,cq6,?_⟩,hm⟩
   simp only[O3]
  |false=>
   rw[ho,if_neg (by simp)]at heq;have hpn:=A5z x.label;generalize A4F x.label=pr at heq hPr hpn;subst heq;simp only[E9,F8,List.length_nil]at hlen;rw[ho]at hp;repeat' (first|refine Z8 (id:=0) (hm.perm pm2_0) [0,1,2,3] [4,5] 6 (by kernel_rfl) ?_;clear hm;intro wd hR hm|refine U7 (d:=12) ?_ hm (hp:=pm0) (hc:=hRp I);clear hm;rintro _ I1 _ _ ⟨rfl,rfl,rfl⟩ hleI1 hm;rw[P5]at hm|refine U7 (d:=13) ?_ hm (hp:=pm2_0) (hc:=hW0);clear hm;rintro _ I2 _ _ ⟨b2,cq2,rfl⟩ hleI2 hm;rw[J3]at hm;have hp2:=hp.le hleI2|refine Z8 (id:=4) (hm.perm pm2_0) [0,1,2,3,4,5,6,7] [8] 9 (by kernel_rfl) ?_;clear hm;intro wd hR hm|refine A2s (d:=27) (s:= [108,101,116,32]) (u:=x.name) (by rfl) (by rfl) (by rfl) (by rfl) (by simp only[F8,List.length_nil];omega) ?_|refine U7 (d:=28) ?_ hm (hp:=pm2_0) (hc:=A0l bw (out++pd) ([108,101,116,32]++x.name) true b2 cq2 (by simp only[E9,F8,List.length_nil];omega));clear hm;rintro _ I3 _ _ ⟨b3,cq3,rfl⟩ hleI3 hm;rw[J3]at hm;have hp3:=hp2.le hleI3|refine Z8 (id:=6) (hm.perm pm2_0) [0,1,2,3,4,5,6] [7,8,9] 10 (by kernel_rfl) ?_;clear hm;intro wd hR hm|refine A3p (d:=41) ?_ hR hm (hc:=hPr _);clear hm;intro _ hm|refine A5A (d:=42) (s:= [58,32]) (u:=pr) hm.kept (by rfl) (by rfl) (by rfl) (by rfl) (by simp only[F8,List.length_nil];omega) ?_|refine U7 (d:=43) ?_ hm (hp:=pm2_0) (hc:=A0l bw (out++pd++([108,101,116,32]++x.name)) ([58,32]++pr) true b3 cq3 (by simp only[E9,F8,List.length_nil];omega));clear hm;rintro _ I4 _ _ ⟨b4,cq4,rfl⟩ hleI4 hm;rw[J3]at hm;have hp4:=hp3.le hleI4|refine F6 (d:=47) ?_ hm (hp:=pm2_0) (hc:=A0l bw (out++pd++([108,101,116,32]++x.name)++([58,32]++pr)) [32,61,32] true b4 cq4 (by simp only[E9,F8,List.length_nil];omega));clear hm;rintro _ I5 _ _ ⟨b5,cq5,rfl⟩ hleI5 hm;rw[J3]at hm;have hp5:=hp4.le hleI5|refine F6 (d:=52) ?_ hm (hp:=pm2_0) (hc:=hEx I5 ((((hleI2).trans hleI3).trans hleI4).trans hleI5) (out++pd++([108,101,116,32]++x.name)++([58,32]++pr)++ [32,61,32]) true b5 cq5 (by simp only[E9,F8,List.length_nil];omega));clear hm;rintro _ I6 _ _ ⟨b6,cq6,rfl⟩ hleI6 hm;rw[J3]at hm;have hp6:=hp5.le hleI6|refine F6 (d:=154) ?_ hm (hp:=pm2_0) (hc:=A0l bw (out++pd++([108,101,116,32]++x.name)++([58,32]++pr)++ [32,61,32]++Sp.exW x.e) [59,10] true b6 cq6 (by simp only[E9,F8,List.length_nil];omega));clear hm;rintro _ I7 _ _ ⟨b7,cq7,rfl⟩ hleI7 hm;rw[J3]at hm;have hp7:=hp6.le hleI7|refine A0c ?_ hR|refine A0w ?_;replace hm:=hR.back hm;clear hR;try simp only[F9]at hm|refine J5 ?_ hm|refine D8 ?_|refine D6 ?_|refine N9 ?_|refine Y9 ?_|refine E5 ?_|refine C9 ?_|refine D9 ?_|refine A7 ?_|refine D7 ?_|refine E8 ?_|refine A8 ?_|refine F5 ?_|refine X0 ?_|refine H6 ?_|(refine D5 (ht:=fun _=>?_) (hf:=fun _=>?_)<;>try first|contradiction|omega)|refine Z4 ?_|refine O5 ?_|refine J8 ?_|refine A0b ?_)
   refine⟨I7,_,⟨b7,cq7,?_⟩,hm⟩
   simp only[O3]
 rw[if_neg k1]at heq;by_cases k2:x.kind=2
 ·rw[if_pos k2]at heq
  subst heq;simp only[E9,F8,List.length_nil]at hlen;repeat' (first|refine Z8 (id:=0) (hm.perm pm2_0) [0,1,2,3] [4,5] 6 (by kernel_rfl) ?_;clear hm;intro wd hR hm|refine U7 (d:=12) ?_ hm (hp:=pm0) (hc:=hRp I);clear hm;rintro _ I1 _ _ ⟨rfl,rfl,rfl⟩ hleI1 hm;rw[P5]at hm|refine U7 (d:=13) ?_ hm (hp:=pm2_0) (hc:=hW0);clear hm;rintro _ I2 _ _ ⟨b2,cq2,rfl⟩ hleI2 hm;rw[J3]at hm;have hp2:=hp.le hleI2|refine Z8 (id:=10) (hm.perm pm2_0) [0,1,2,3,4,5,6,7] [8] 9 (by kernel_rfl) ?_;clear hm;intro wd hR hm|refine A2s (d:=62) (s:=x.name) (u:= [32,61,32]) (by rfl) (by rfl) (by rfl) (by rfl) (by simp only[F8,List.length_nil];omega) ?_|refine U7 (d:=63) ?_ hm (hp:=pm2_0) (hc:=A0l bw (out++pd) (x.name++ [32,61,32]) true b2 cq2 (by simp only[E9,F8,List.length_nil];omega));clear hm;rintro _ I3 _ _ ⟨b3,cq3,rfl⟩ hleI3 hm;rw[J3]at hm;have hp3:=hp2.le hleI3|refine F6 (d:=68) ?_ hm (hp:=pm2_0) (hc:=hEx I3 ((hleI2).trans hleI3) (out++pd++(x.name++ [32,61,32])) true b3 cq3 (by simp only[E9,F8,List.length_nil];omega));clear hm;rintro _ I4 _ _ ⟨b4,cq4,rfl⟩ hleI4 hm;rw[J3]at hm;have hp4:=hp3.le hleI4|refine F6 (d:=154) ?_ hm (hp:=pm2_0) (hc:=A0l bw (out++pd++(x.name++ [32,61,32])++Sp.exW x.e) [59,10] true b4 cq4 (by simp only[E9,F8,List.length_nil];omega));clear hm;rintro _ I5 _ _ ⟨b5,cq5,rfl⟩ hleI5 hm;rw[J3]at hm;have hp5:=hp4.le hleI5|refine A0c ?_ hR|refine A0w ?_;replace hm:=hR.back hm;clear hR;try simp only[F9]at hm|refine J5 ?_ hm|refine D8 ?_|refine D6 ?_|refine N9 ?_|refine E5 ?_|refine C9 ?_|refine D9 ?_|refine A7 ?_|refine D7 ?_|refine E8 ?_|refine A8 ?_|refine F5 ?_|refine X0 ?_|(refine D5 (ht:=fun _=>?_) (hf:=fun _=>?_)<;>try first|contradiction|omega)|refine Z4 ?_|refine O5 ?_|refine J8 ?_|refine A0b ?_)
  refine⟨I5,_,⟨b5,cq5,?_⟩,hm⟩
  simp only[O3]
 rw[if_neg k2]at heq;by_cases k5:x.kind=5
 ·rw[if_pos k5]at heq
  subst heq;simp only[E9,F8,List.length_nil]at hlen;repeat' (first|refine Z8 (id:=0) (hm.perm pm2_0) [0,1,2,3] [4,5] 6 (by kernel_rfl) ?_;clear hm;intro wd hR hm|refine U7 (d:=12) ?_ hm (hp:=pm0) (hc:=hRp I);clear hm;rintro _ I1 _ _ ⟨rfl,rfl,rfl⟩ hleI1 hm;rw[P5]at hm|refine U7 (d:=13) ?_ hm (hp:=pm2_0) (hc:=hW0);clear hm;rintro _ I2 _ _ ⟨b2,cq2,rfl⟩ hleI2 hm;rw[J3]at hm;have hp2:=hp.le hleI2|refine Z8 (id:=13) (hm.perm pm2_0) [0,1,2,3,4,5,6,7,8] [9] 10 (by kernel_rfl) ?_;clear hm;intro wd hR hm|refine A2s (d:=78) (s:= [115,101,110,100,32]) (u:=x.name) (by rfl) (by rfl) (by rfl) (by rfl) (by simp only[F8,List.length_nil];omega) ?_|refine A2s (d:=79) (s:= [115,101,110,100,32]++x.name) (u:= [32]) (by rfl) (by rfl) (by rfl) (by rfl) (by simp only[E9,F8,List.length_nil];omega) ?_|refine U7 (d:=80) ?_ hm (hp:=pm2_0) (hc:=A0l bw (out++pd) ([115,101,110,100,32]++x.name++ [32]) true b2 cq2 (by simp only[E9,F8,List.length_nil];omega));clear hm;rintro _ I3 _ _ ⟨b3,cq3,rfl⟩ hleI3 hm;rw[J3]at hm;have hp3:=hp2.le hleI3|refine F6 (d:=85) ?_ hm (hp:=pm2_0) (hc:=hEx I3 ((hleI2).trans hleI3) (out++pd++([115,101,110,100,32]++x.name++ [32])) true b3 cq3 (by simp only[E9,F8,List.length_nil];omega));clear hm;rintro _ I4 _ _ ⟨b4,cq4,rfl⟩ hleI4 hm;rw[J3]at hm;have hp4:=hp3.le hleI4|refine F6 (d:=154) ?_ hm (hp:=pm2_0) (hc:=A0l bw (out++pd++([115,101,110,100,32]++x.name++ [32])++Sp.exW x.e) [59,10] true b4 cq4 (by simp only[E9,F8,List.length_nil];omega));clear hm;rintro _ I5 _ _ ⟨b5,cq5,rfl⟩ hleI5 hm;rw[J3]at hm;have hp5:=hp4.le hleI5|refine A0c ?_ hR|refine A0w ?_;replace hm:=hR.back hm;clear hR;try simp only[F9]at hm|refine J5 ?_ hm|refine D8 ?_|refine D6 ?_|refine N9 ?_|refine E5 ?_|refine C9 ?_|refine D9 ?_|refine A7 ?_|refine D7 ?_|refine E8 ?_|refine A8 ?_|refine F5 ?_|refine X0 ?_|(refine D5 (ht:=fun _=>?_) (hf:=fun _=>?_)<;>try first|contradiction|omega)|refine Z4 ?_|refine O5 ?_|refine J8 ?_|refine A0b ?_)
  refine⟨I5,_,⟨b5,cq5,?_⟩,hm⟩
  simp only[O3]
 rw[if_neg k5]at heq;by_cases k6:x.kind=6
 ·rw[if_pos k6]at heq
  subst heq;simp only[E9,F8,List.length_nil]at hlen;repeat' (first|refine Z8 (id:=0) (hm.perm pm2_0) [0,1,2,3] [4,5] 6 (by kernel_rfl) ?_;clear hm;intro wd hR hm|refine U7 (d:=12) ?_ hm (hp:=pm0) (hc:=hRp I);clear hm;rintro _ I1 _ _ ⟨rfl,rfl,rfl⟩ hleI1 hm;rw[P5]at hm|refine U7 (d:=13) ?_ hm (hp:=pm2_0) (hc:=hW0);clear hm;rintro _ I2 _ _ ⟨b2,cq2,rfl⟩ hleI2 hm;rw[J3]at hm;have hp2:=hp.le hleI2|refine F6 (d:=91) ?_ hm (hp:=pm2_0) (hc:=A0l bw (out++pd) [114,101,116,117,114,110,32] true b2 cq2 (by simp only[E9,F8,List.length_nil];omega));clear hm;rintro _ I3 _ _ ⟨b3,cq3,rfl⟩ hleI3 hm;rw[J3]at hm;have hp3:=hp2.le hleI3|refine F6 (d:=96) ?_ hm (hp:=pm2_0) (hc:=hEx I3 ((hleI2).trans hleI3) (out++pd++ [114,101,116,117,114,110,32]) true b3 cq3 (by simp only[E9,F8,List.length_nil];omega));clear hm;rintro _ I4 _ _ ⟨b4,cq4,rfl⟩ hleI4 hm;rw[J3]at hm;have hp4:=hp3.le hleI4|refine F6 (d:=154) ?_ hm (hp:=pm2_0) (hc:=A0l bw (out++pd++ [114,101,116,117,114,110,32]++Sp.exW x.e) [59,10] true b4 cq4 (by simp only[E9,F8,List.length_nil];omega));clear hm;rintro _ I5 _ _ ⟨b5,cq5,rfl⟩ hleI5 hm;rw[J3]at hm;have hp5:=hp4.le hleI5|refine A0w ?_;replace hm:=hR.back hm;clear hR;try simp only[F9]at hm|refine J5 ?_ hm|refine D8 ?_|refine D6 ?_|refine N9 ?_|refine E5 ?_|refine C9 ?_|refine D9 ?_|refine A7 ?_|refine D7 ?_|refine E8 ?_|refine A8 ?_|refine F5 ?_|refine X0 ?_|(refine D5 (ht:=fun _=>?_) (hf:=fun _=>?_)<;>try first|contradiction|omega)|refine Z4 ?_|refine O5 ?_|refine J8 ?_|refine A0b ?_)
  refine⟨I5,_,⟨b5,cq5,?_⟩,hm⟩
  simp only[O3]
 rw[if_neg k6]at heq;by_cases k7:x.kind=7
 ·rw[if_pos k7]at heq
  subst heq;simp only[E9,F8,List.length_nil]at hlen;repeat' (first|refine Z8 (id:=0) (hm.perm pm2_0) [0,1,2,3] [4,5] 6 (by kernel_rfl) ?_;clear hm;intro wd hR hm|refine U7 (d:=12) ?_ hm (hp:=pm0) (hc:=hRp I);clear hm;rintro _ I1 _ _ ⟨rfl,rfl,rfl⟩ hleI1 hm;rw[P5]at hm|refine U7 (d:=13) ?_ hm (hp:=pm2_0) (hc:=hW0);clear hm;rintro _ I2 _ _ ⟨b2,cq2,rfl⟩ hleI2 hm;rw[J3]at hm;have hp2:=hp.le hleI2|refine F6 (d:=103) ?_ hm (hp:=pm2_0) (hc:=hEx I2 (hleI2) (out++pd) true b2 cq2 (by simp only[E9];omega));clear hm;rintro _ I3 _ _ ⟨b3,cq3,rfl⟩ hleI3 hm;rw[J3]at hm;have hp3:=hp2.le hleI3|refine F6 (d:=154) ?_ hm (hp:=pm2_0) (hc:=A0l bw (out++pd++Sp.exW x.e) [59,10] true b3 cq3 (by simp only[E9,F8,List.length_nil];omega));clear hm;rintro _ I4 _ _ ⟨b4,cq4,rfl⟩ hleI4 hm;rw[J3]at hm;have hp4:=hp3.le hleI4|refine A0w ?_;replace hm:=hR.back hm;clear hR;try simp only[F9]at hm|refine J5 ?_ hm|refine D8 ?_|refine D6 ?_|refine N9 ?_|refine E5 ?_|refine C9 ?_|refine D9 ?_|refine A7 ?_|refine D7 ?_|refine E8 ?_|refine A8 ?_|refine F5 ?_|refine X0 ?_|(refine D5 (ht:=fun _=>?_) (hf:=fun _=>?_)<;>try first|contradiction|omega)|refine Z4 ?_|refine O5 ?_|refine J8 ?_|refine A0b ?_)
  refine⟨I4,_,⟨b4,cq4,?_⟩,hm⟩
  simp only[O3]
 rw[if_neg k7]at heq;have k34:x.kind=3\/x.kind=4:=by
  rcases hnode with h|h|h|h|h|h
  ·omega
  ·omega
  ·omega
  ·omega
  ·omega
  ·exact h.1
 rw[if_pos k34]at heq;have hb1:=fun (J:P6) (m:Le I J) (o2:List UInt8) (a cp) (ho:o2.length+(B1j x.thn k).length<=100000000000000)=>hB1 J k a1 c1 xs1 o2 true a cp (hle0.trans m) (by omega) ho (h4.le m) (X6.le m _ _ h5)
 have hb2:=fun (J:P6) (m:Le I J) (o2:List UInt8) (a cp) (ho:o2.length+(B1j x.els k).length<=100000000000000)=>hB2 J k a2 c2 xs2 o2 true a cp (hle0.trans m) (by omega) ho (h6.le m) (X6.le m _ _ h7)
 generalize B1j x.thn k=t1 at heq hb1;generalize B1j x.els k=t2 at heq hb2;by_cases k3:x.kind=3
 ·rw[if_neg (by omega)]at heq
  by_cases he:0<x.els.length
  ·rw[if_pos he]at heq
   subst heq;simp only[E9,F8,List.length_nil]at hlen;repeat' (first|refine Z8 (id:=0) (hm.perm pm2_0) [0,1,2,3] [4,5] 6 (by kernel_rfl) ?_;clear hm;intro wd hR hm|refine U7 (d:=12) ?_ hm (hp:=pm0) (hc:=hRp I);clear hm;rintro _ I1 _ _ ⟨rfl,rfl,rfl⟩ hleI1 hm;rw[P5]at hm|refine U7 (d:=13) ?_ hm (hp:=pm2_0) (hc:=hW0);clear hm;rintro _ I2 _ _ ⟨b2,cq2,rfl⟩ hleI2 hm;rw[J3]at hm;have hp2:=hp.le hleI2|refine F6 (d:=116) ?_ hm (hp:=pm2_0) (hc:=A0l bw (out++pd) [105,102,32] true b2 cq2 (by simp only[E9,F8,List.length_nil];omega));clear hm;rintro _ I3 _ _ ⟨b3,cq3,rfl⟩ hleI3 hm;rw[J3]at hm;have hp3:=hp2.le hleI3|refine F6 (d:=121) ?_ hm (hp:=pm2_0) (hc:=hEx I3 ((hleI2).trans hleI3) (out++pd++ [105,102,32]) true b3 cq3 (by simp only[E9,F8,List.length_nil];omega));clear hm;rintro _ I4 _ _ ⟨b4,cq4,rfl⟩ hleI4 hm;rw[J3]at hm;have hp4:=hp3.le hleI4|refine F6 (d:=125) ?_ hm (hp:=pm2_0) (hc:=A4k bw (out++pd++ [105,102,32]++Sp.exW x.e) 32 true b4 cq4 (by simp only[E9,F8,List.length_nil];omega));clear hm;rintro _ I5 _ _ ⟨b5,cq5,rfl⟩ hleI5 hm;rw[J3]at hm;have hp5:=hp4.le hleI5|refine F6 (d:=132) ?_ hm (hp:=pm2_0) (hc:=hb1 I5 ((((hleI2).trans hleI3).trans hleI4).trans hleI5) (out++pd++ [105,102,32]++Sp.exW x.e++ [32]) b5 cq5 (by simp only[E9,F8,List.length_nil];omega));clear hm;rintro _ I6 _ _ ⟨b6,cq6,rfl⟩ hleI6 hm;rw[J3]at hm;have hp6:=hp5.le hleI6|refine F6 (d:=142) ?_ hm (hp:=pm2_0) (hc:=A0l bw (out++pd++ [105,102,32]++Sp.exW x.e++ [32]++t1) [32,101,108,115,101,32] true b6 cq6 (by simp only[E9,F8,List.length_nil];omega));clear hm;rintro _ I7 _ _ ⟨b7,cq7,rfl⟩ hleI7 hm;rw[J3]at hm;have hp7:=hp6.le hleI7|refine F6 (d:=149) ?_ hm (hp:=pm2_0) (hc:=hb2 I7 ((((((hleI2).trans hleI3).trans hleI4).trans hleI5).trans hleI6).trans hleI7) (out++pd++ [105,102,32]++Sp.exW x.e++ [32]++t1++ [32,101,108,115,101,32]) b7 cq7 (by simp only[E9,F8,List.length_nil];omega));clear hm;rintro _ I8 _ _ ⟨b8,cq8,rfl⟩ hleI8 hm;rw[J3]at hm;have hp8:=hp7.le hleI8|refine F6 (d:=154) ?_ hm (hp:=pm2_0) (hc:=A0l bw (out++pd++ [105,102,32]++Sp.exW x.e++ [32]++t1++ [32,101,108,115,101,32]++t2) [10] true b8 cq8 (by simp only[E9,F8,List.length_nil];omega));clear hm;rintro _ I9 _ _ ⟨b9,cq9,rfl⟩ hleI9 hm;rw[J3]at hm;have hp9:=hp8.le hleI9|refine A0w ?_;replace hm:=hR.back hm;clear hR;try simp only[F9]at hm|refine J5 ?_ hm|refine D8 ?_|refine D6 ?_|refine A0F ?_|refine N9 ?_|refine G7 ?_|refine E5 ?_|refine C9 ?_|refine D9 ?_|refine A7 ?_|refine D7 ?_|refine E8 ?_|refine A8 ?_|refine F5 ?_|refine G5 ?_|refine X0 ?_|(refine D5 (ht:=fun _=>?_) (hf:=fun _=>?_)<;>try first|contradiction|omega)|refine Z4 ?_|refine O5 ?_|refine J8 ?_|refine A0b ?_)
   refine⟨I9,_,⟨b9,cq9,?_⟩,hm⟩
   simp only[O3]
  ·rw[if_neg he,J3]at heq
   subst heq;simp only[E9,F8,List.length_nil]at hlen;repeat' (first|refine Z8 (id:=0) (hm.perm pm2_0) [0,1,2,3] [4,5] 6 (by kernel_rfl) ?_;clear hm;intro wd hR hm|refine U7 (d:=12) ?_ hm (hp:=pm0) (hc:=hRp I);clear hm;rintro _ I1 _ _ ⟨rfl,rfl,rfl⟩ hleI1 hm;rw[P5]at hm|refine U7 (d:=13) ?_ hm (hp:=pm2_0) (hc:=hW0);clear hm;rintro _ I2 _ _ ⟨b2,cq2,rfl⟩ hleI2 hm;rw[J3]at hm;have hp2:=hp.le hleI2|refine F6 (d:=116) ?_ hm (hp:=pm2_0) (hc:=A0l bw (out++pd) [105,102,32] true b2 cq2 (by simp only[E9,F8,List.length_nil];omega));clear hm;rintro _ I3 _ _ ⟨b3,cq3,rfl⟩ hleI3 hm;rw[J3]at hm;have hp3:=hp2.le hleI3|refine F6 (d:=121) ?_ hm (hp:=pm2_0) (hc:=hEx I3 ((hleI2).trans hleI3) (out++pd++ [105,102,32]) true b3 cq3 (by simp only[E9,F8,List.length_nil];omega));clear hm;rintro _ I4 _ _ ⟨b4,cq4,rfl⟩ hleI4 hm;rw[J3]at hm;have hp4:=hp3.le hleI4|refine F6 (d:=125) ?_ hm (hp:=pm2_0) (hc:=A4k bw (out++pd++ [105,102,32]++Sp.exW x.e) 32 true b4 cq4 (by simp only[E9,F8,List.length_nil];omega));clear hm;rintro _ I5 _ _ ⟨b5,cq5,rfl⟩ hleI5 hm;rw[J3]at hm;have hp5:=hp4.le hleI5|refine F6 (d:=132) ?_ hm (hp:=pm2_0) (hc:=hb1 I5 ((((hleI2).trans hleI3).trans hleI4).trans hleI5) (out++pd++ [105,102,32]++Sp.exW x.e++ [32]) b5 cq5 (by simp only[E9,F8,List.length_nil];omega));clear hm;rintro _ I6 _ _ ⟨b6,cq6,rfl⟩ hleI6 hm;rw[J3]at hm;have hp6:=hp5.le hleI6|refine F6 (d:=154) ?_ hm (hp:=pm2_0) (hc:=A0l bw (out++pd++ [105,102,32]++Sp.exW x.e++ [32]++t1) [10] true b6 cq6 (by simp only[E9,F8,List.length_nil];omega));clear hm;rintro _ I7 _ _ ⟨b7,cq7,rfl⟩ hleI7 hm;rw[J3]at hm;have hp7:=hp6.le hleI7|refine A0w ?_;replace hm:=hR.back hm;clear hR;try simp only[F9]at hm|refine J5 ?_ hm|refine D8 ?_|refine D6 ?_|refine A0F ?_|refine N9 ?_|refine G7 ?_|refine E5 ?_|refine C9 ?_|refine D9 ?_|refine A7 ?_|refine D7 ?_|refine E8 ?_|refine A8 ?_|refine F5 ?_|refine G5 ?_|refine X0 ?_|(refine D5 (ht:=fun _=>?_) (hf:=fun _=>?_)<;>try first|contradiction|omega)|refine Z4 ?_|refine O5 ?_|refine J8 ?_|refine A0b ?_)
   refine⟨I7,_,⟨b7,cq7,?_⟩,hm⟩
   simp only[O3]
 by_cases k4:x.kind=4
 ·rw[if_pos k4]at heq
  by_cases he:0<x.els.length
  ·rw[if_pos he]at heq
   subst heq;simp only[E9,F8,List.length_nil]at hlen;repeat' (first|refine Z8 (id:=0) (hm.perm pm2_0) [0,1,2,3] [4,5] 6 (by kernel_rfl) ?_;clear hm;intro wd hR hm|refine U7 (d:=12) ?_ hm (hp:=pm0) (hc:=hRp I);clear hm;rintro _ I1 _ _ ⟨rfl,rfl,rfl⟩ hleI1 hm;rw[P5]at hm|refine U7 (d:=13) ?_ hm (hp:=pm2_0) (hc:=hW0);clear hm;rintro _ I2 _ _ ⟨b2,cq2,rfl⟩ hleI2 hm;rw[J3]at hm;have hp2:=hp.le hleI2|refine F6 (d:=116) ?_ hm (hp:=pm2_0) (hc:=A0l bw (out++pd) [119,104,105,108,101,32] true b2 cq2 (by simp only[E9,F8,List.length_nil];omega));clear hm;rintro _ I3 _ _ ⟨b3,cq3,rfl⟩ hleI3 hm;rw[J3]at hm;have hp3:=hp2.le hleI3|refine F6 (d:=121) ?_ hm (hp:=pm2_0) (hc:=hEx I3 ((hleI2).trans hleI3) (out++pd++ [119,104,105,108,101,32]) true b3 cq3 (by simp only[E9,F8,List.length_nil];omega));clear hm;rintro _ I4 _ _ ⟨b4,cq4,rfl⟩ hleI4 hm;rw[J3]at hm;have hp4:=hp3.le hleI4|refine F6 (d:=125) ?_ hm (hp:=pm2_0) (hc:=A4k bw (out++pd++ [119,104,105,108,101,32]++Sp.exW x.e) 32 true b4 cq4 (by simp only[E9,F8,List.length_nil];omega));clear hm;rintro _ I5 _ _ ⟨b5,cq5,rfl⟩ hleI5 hm;rw[J3]at hm;have hp5:=hp4.le hleI5|refine F6 (d:=132) ?_ hm (hp:=pm2_0) (hc:=hb1 I5 ((((hleI2).trans hleI3).trans hleI4).trans hleI5) (out++pd++ [119,104,105,108,101,32]++Sp.exW x.e++ [32]) b5 cq5 (by simp only[E9,F8,List.length_nil];omega));clear hm;rintro _ I6 _ _ ⟨b6,cq6,rfl⟩ hleI6 hm;rw[J3]at hm;have hp6:=hp5.le hleI6|refine F6 (d:=142) ?_ hm (hp:=pm2_0) (hc:=A0l bw (out++pd++ [119,104,105,108,101,32]++Sp.exW x.e++ [32]++t1) [32,101,108,115,101,32] true b6 cq6 (by simp only[E9,F8,List.length_nil];omega));clear hm;rintro _ I7 _ _ ⟨b7,cq7,rfl⟩ hleI7 hm;rw[J3]at hm;have hp7:=hp6.le hleI7|refine F6 (d:=149) ?_ hm (hp:=pm2_0) (hc:=hb2 I7 ((((((hleI2).trans hleI3).trans hleI4).trans hleI5).trans hleI6).trans hleI7) (out++pd++ [119,104,105,108,101,32]++Sp.exW x.e++ [32]++t1++ [32,101,108,115,101,32]) b7 cq7 (by simp only[E9,F8,List.length_nil];omega));clear hm;rintro _ I8 _ _ ⟨b8,cq8,rfl⟩ hleI8 hm;rw[J3]at hm;have hp8:=hp7.le hleI8|refine F6 (d:=154) ?_ hm (hp:=pm2_0) (hc:=A0l bw (out++pd++ [119,104,105,108,101,32]++Sp.exW x.e++ [32]++t1++ [32,101,108,115,101,32]++t2) [10] true b8 cq8 (by simp only[E9,F8,List.length_nil];omega));clear hm;rintro _ I9 _ _ ⟨b9,cq9,rfl⟩ hleI9 hm;rw[J3]at hm;have hp9:=hp8.le hleI9|refine A0w ?_;replace hm:=hR.back hm;clear hR;try simp only[F9]at hm|refine J5 ?_ hm|refine D8 ?_|refine D6 ?_|refine A0F ?_|refine N9 ?_|refine G7 ?_|refine E5 ?_|refine C9 ?_|refine D9 ?_|refine A7 ?_|refine D7 ?_|refine E8 ?_|refine A8 ?_|refine F5 ?_|refine X0 ?_|(refine D5 (ht:=fun _=>?_) (hf:=fun _=>?_)<;>try first|contradiction|omega)|refine Z4 ?_|refine O5 ?_|refine J8 ?_|refine A0b ?_)
   refine⟨I9,_,⟨b9,cq9,?_⟩,hm⟩
   simp only[O3]
  ·rw[if_neg he,J3]at heq
   subst heq;simp only[E9,F8,List.length_nil]at hlen;repeat' (first|refine Z8 (id:=0) (hm.perm pm2_0) [0,1,2,3] [4,5] 6 (by kernel_rfl) ?_;clear hm;intro wd hR hm|refine U7 (d:=12) ?_ hm (hp:=pm0) (hc:=hRp I);clear hm;rintro _ I1 _ _ ⟨rfl,rfl,rfl⟩ hleI1 hm;rw[P5]at hm|refine U7 (d:=13) ?_ hm (hp:=pm2_0) (hc:=hW0);clear hm;rintro _ I2 _ _ ⟨b2,cq2,rfl⟩ hleI2 hm;rw[J3]at hm;have hp2:=hp.le hleI2|refine F6 (d:=116) ?_ hm (hp:=pm2_0) (hc:=A0l bw (out++pd) [119,104,105,108,101,32] true b2 cq2 (by simp only[E9,F8,List.length_nil];omega));clear hm;rintro _ I3 _ _ ⟨b3,cq3,rfl⟩ hleI3 hm;rw[J3]at hm;have hp3:=hp2.le hleI3|refine F6 (d:=121) ?_ hm (hp:=pm2_0) (hc:=hEx I3 ((hleI2).trans hleI3) (out++pd++ [119,104,105,108,101,32]) true b3 cq3 (by simp only[E9,F8,List.length_nil];omega));clear hm;rintro _ I4 _ _ ⟨b4,cq4,rfl⟩ hleI4 hm;rw[J3]at hm;have hp4:=hp3.le hleI4|refine F6 (d:=125) ?_ hm (hp:=pm2_0) (hc:=A4k bw (out++pd++ [119,104,105,108,101,32]++Sp.exW x.e) 32 true b4 cq4 (by simp only[E9,F8,List.length_nil];omega));clear hm;rintro _ I5 _ _ ⟨b5,cq5,rfl⟩ hleI5 hm;rw[J3]at hm;have hp5:=hp4.le hleI5|refine F6 (d:=132) ?_ hm (hp:=pm2_0) (hc:=hb1 I5 ((((hleI2).trans hleI3).trans hleI4).trans hleI5) (out++pd++ [119,104,105,108,101,32]++Sp.exW x.e++ [32]) b5 cq5 (by simp only[E9,F8,List.length_nil];omega));clear hm;rintro _ I6 _ _ ⟨b6,cq6,rfl⟩ hleI6 hm;rw[J3]at hm;have hp6:=hp5.le hleI6|refine F6 (d:=154) ?_ hm (hp:=pm2_0) (hc:=A0l bw (out++pd++ [119,104,105,108,101,32]++Sp.exW x.e++ [32]++t1) [10] true b6 cq6 (by simp only[E9,F8,List.length_nil];omega));clear hm;rintro _ I7 _ _ ⟨b7,cq7,rfl⟩ hleI7 hm;rw[J3]at hm;have hp7:=hp6.le hleI7|refine A0w ?_;replace hm:=hR.back hm;clear hR;try simp only[F9]at hm|refine J5 ?_ hm|refine D8 ?_|refine D6 ?_|refine A0F ?_|refine N9 ?_|refine G7 ?_|refine E5 ?_|refine C9 ?_|refine D9 ?_|refine A7 ?_|refine D7 ?_|refine E8 ?_|refine A8 ?_|refine F5 ?_|refine G5 ?_|refine X0 ?_|(refine D5 (ht:=fun _=>?_) (hf:=fun _=>?_)<;>try first|contradiction|omega)|refine Z4 ?_|refine O5 ?_|refine J8 ?_|refine A0b ?_)
   refine⟨I7,_,⟨b7,cq7,?_⟩,hm⟩
   simp only[O3]
 omega
theorem C0K {I0:P6} (hT:A8B I0) {bw:Nat}:∀(n:Nat),(∀(x:Sp.Stm),SizeOf.sizeOf x<=n->∀d,x.fitS d->SW I0 bw d x)/\(∀(l:List Sp.Stm),SizeOf.sizeOf l<=n->l.length<=40->∀d,d<=1000->A0M l d->BW I0 bw d l)
 |0=>⟨fun x h=>by cases x;simp at h,fun l h=>by cases l<;>simp at h⟩
 |n+1=>by
  obtain⟨ihS,ihB⟩:=C0K hT (bw:=bw) n;refine⟨fun x hsz d hfit=>?_,fun l hsz hl d hd hfit=>?_⟩
  ·obtain⟨hfe,hnode⟩:=B4t hfit
   have hd12:d<12:=by
    have:=hfe;cases he:x.e
    rw[he,Sp.Ex.fitE]at this;exact this.1
   have hz:SizeOf.sizeOf x.thn<SizeOf.sizeOf x/\SizeOf.sizeOf x.els<SizeOf.sizeOf x:=by
    cases x
    simp only[Sp.Stm.thn,Sp.Stm.els,Sp.Stm.mk.sizeOf_spec];omega
   have hnil:x.kind≠3->x.kind≠4->x.thn= []/\x.els= []:=fun h3 h4=>by
    cases x
    rw[Sp.Stm.fitS]at hfit;simp only[Sp.Stm.kind,Sp.Stm.thn,Sp.Stm.els]at h3 h4 |-;rcases hfit.2 with h|h|h|h|h|h
    ·exact h.2.2.2.2
    ·exact h.2.2.2.2
    ·exact h.2.2.2.2
    ·exact h.2.2.2.2
    ·exact⟨h.2.2.2.2.1,h.2.2.2.2.2.1⟩
    ·omega
   by_cases k34:x.kind=3\/x.kind=4
   ·obtain⟨_,t1,t2,t3,t4⟩:(x.kind=3\/x.kind=4)/\x.thn.length<=40/\x.els.length<=40/\A0M x.thn (d+1)/\A0M x.els (d+1):=by
     rcases hnode with h|h|h|h|h|h
     ·omega
     ·omega
     ·omega
     ·omega
     ·omega
     ·exact h
    exact C6w hT hfit (ihB x.thn (by omega) t1 _ (by omega) t3) (ihB x.els (by omega) t2 _ (by omega) t4)
   ·obtain⟨e1,e2⟩:=hnil (fun h=>k34 (.inl h)) (fun h=>k34 (.inr h))
    exact C6w hT hfit (ihB x.thn (by omega) (by rw[e1];exact H7 _) _ (by omega) (by rw[e1,A0M];trivial)) (ihB x.els (by omega) (by rw[e2];exact H7 _) _ (by omega) (by rw[e2,A0M];trivial))
  ·refine C6d hd (by omega) (fun x hx=>?_)
   obtain⟨j,hj,rfl⟩:=A1K hx;have h3:=A3w (O7 hj);exact ihS _ (by omega) d (B19 hfit (G6 hj))
theorem C7g {x:HItem}{A:List HItem}:(A++ [x]).Perm (x::A):=A0P
theorem C7P {I0:P6} (hT:A8B I0) {bw:Nat}{it:Sp.Itm} (hfit:it.fitI) {I:P6}{b o tc:Nat}{cs:List Value}{out:List UInt8}{u:Bool}{a:Option Addr}{cp:Nat} (hle0:Le I0 I) (hlen:out.length+(A9Q it).length<=100000000000000)
  (hp:PtrI I b o tc cs) (hat:A5W I it cs):
  CalM prog 38 #[ptr bw,.pointer (some ⟨b,o,none⟩)] I (WSt bw out u a cp) (ToW bw (out++A9Q it)):=by
 obtain⟨pa,pc,sa9,sc9,ba9,bc9,da9,dc9,xb,rfl,hpar,hsnd,hrb,hbs,_⟩:=hat
 have hBk:=(C0K hT (bw:=bw) _).2 it.body (G9 _) hfit.body.1 1 (by decide) hfit.body.2;refine CalM.of fun w E hm=>enter (N:=122) func38 rfl [(0,ptr bw),(1,.pointer (some ⟨b,o,none⟩))] A0T rfl ?_
 have hPr:=fun (J:P6)=>B6b (J:=J) it.label hfit.label
 have hnm:=A3U hfit.named;have hpn:=A5z it.label;have hp5:=hfit.params.1;have hs5:=hfit.sends.1;by_cases k1:it.kind=1
 ·rw[A9Q,if_pos k1]at hlen |-
  generalize A4F it.label=pr at hPr hlen hpn |-;simp only[E9,F8,List.length_nil]at hlen;repeat' (first|refine Z8 (id:=2) (hm.perm pm2_0) [0,1,2,3,4,5,6,7,8,9,10,11,12] [13,14,15,16] 17 (by kernel_rfl) ?_;clear hm;intro wd hR hm|refine A2s (d:=21) (s:= [99,104,97,110,32]) (u:=it.name) (by rfl) (by rfl) (by rfl) (by rfl) (by simp only[F8,List.length_nil];omega) ?_|refine A2s (d:=22) (s:= [99,104,97,110,32]++it.name) (u:= [58,32]) (by rfl) (by rfl) (by rfl) (by rfl) (by simp only[E9,F8,List.length_nil];omega) ?_|refine A3p (d:=27) ?_ hR hm (hc:=hPr _);clear hm;intro _ hm|refine A5A (d:=28) (s:= [99,104,97,110,32]++it.name++ [58,32]) (u:=pr) hm.kept (by rfl) (by rfl) (by rfl) (by rfl) (by simp only[E9,F8,List.length_nil];omega) ?_|refine A5A (d:=29) (s:= [99,104,97,110,32]++it.name++ [58,32]++pr) (u:= [59,10]) hm.kept (by rfl) (by rfl) (by rfl) (by rfl) (by simp only[E9,F8,List.length_nil];omega) ?_|refine U7 (d:=30) ?_ hm (hp:=pm2_0) (hc:=A0l bw out ([99,104,97,110,32]++it.name++ [58,32]++pr++ [59,10]) u a cp (by simp only[E9,F8,List.length_nil];omega));clear hm;rintro _ I3 _ _ ⟨b3,cq3,rfl⟩ hleI3 hm;rw[J3]at hm|refine A0c ?_ hR|refine A0w ?_;replace hm:=hR.back hm;clear hR;try simp only[F9]at hm|refine J5 ?_ hm|refine D8 ?_|refine D6 ?_|refine N9 ?_|refine E5 ?_|refine C9 ?_|refine D9 ?_|refine A7 ?_|refine D7 ?_|refine E8 ?_|refine A8 ?_|refine F5 ?_|refine X0 ?_|(refine D5 (ht:=fun _=>?_) (hf:=fun _=>?_)<;>try first|contradiction|omega)|refine Z4 ?_|refine O5 ?_|refine J8 ?_|refine A0b ?_)
  exact⟨I3,_,⟨b3,cq3,rfl⟩,hm⟩
 have k2:it.kind=2:=by
  rcases hfit.kind with h|h
  ·exact h
  ·omega
 rw[A9Q,if_neg k1,if_pos k2]at hlen |-;have hcl:=fun j=>B2W (A9V it.params) (j:=j) (k:=it.params.length)
 have hsl:=fun j=>B7V it.sends (j:=j) (k:=it.sends.length)
 generalize hpr:A4F it.label=pr at hPr hlen hpn |-;clear hpr;simp only[E9,F8,List.length_nil]at hlen;repeat' (first|refine Z8 (id:=4) (hm.perm pm2_0) [0,1,2,3,4,5,6,7,8] [9] 10 (by kernel_rfl) ?_;clear hm;intro wd hR hm|refine A2s (d:=40) (s:= [102,110,32]) (u:=it.name) (by rfl) (by rfl) (by rfl) (by rfl) (by simp only[F8,List.length_nil];omega) ?_|refine A2s (d:=41) (s:= [102,110,32]++it.name) (u:= [40]) (by rfl) (by rfl) (by rfl) (by rfl) (by simp only[E9,F8,List.length_nil];omega) ?_|refine U7 (d:=42) ?_ hm (hp:=pm2_0) (hc:=A0l bw out ([102,110,32]++it.name++ [40]) u a cp (by simp only[E9,F8,List.length_nil];omega));clear hm;rintro _ I3 _ _ ⟨b3,cq3,rfl⟩ hleI3 hm;rw[J3]at hm;have hp3:=hp.le hleI3|refine A0c ?_ hR|refine A0w ?_;replace hm:=hR.back hm;clear hR;try simp only[F9]at hm|refine J5 ?_ hm|refine D8 ?_|refine D6 ?_|refine N9 ?_|refine G7 ?_|refine E5 ?_|refine C9 ?_|refine D9 ?_|refine A7 ?_|refine E8 ?_|refine A8 ?_|refine F5 ?_|(refine D5 (ht:=fun _=>?_) (hf:=fun _=>?_)<;>try first|contradiction|omega)|refine Z4 ?_|refine O5 ?_|refine J8 ?_|refine A0b ?_)
 obtain⟨o1,ho1⟩:∃o1,o1=out++([102,110,32]++it.name++ [40]):=⟨_,rfl⟩;have hl1:o1.length=out.length+it.name.length+4:=by rw[ho1];simp only[E9,F8,List.length_nil];omega
 change Mem E I3 (WSt bw (out++([102,110,32]++it.name++ [40])) true b3 cq3) _ at hm
 rw[<-ho1]at hm;refine U2 (fun x:WrX=> [(0,ptr bw),(1,.pointer (some ⟨b,o,none⟩)),(46,.slice pa it.params.length pc),(47,nt it.params.length),(48,nt x.k)])
  (fun x w'=>Mem E x.I (WSt bw (o1++A3F (A9V it.params) x.k) true x.a x.cp) w'/\Le I x.I/\x.k<=it.params.length) (fun x=>it.params.length-x.k) ⟨0,I3,b3,cq3⟩
  (by exact⟨rfl,rfl,rfl,rfl,rfl,trivial⟩) ⟨by rw[show A3F (A9V it.params) 0= [] from rfl,J3];exact hm,hleI3,H7 _⟩ ?_
 clear hm;rintro⟨k,I5,v5,cq5⟩ w5 ⟨hm,hle5,hk⟩;dsimp only at hm hle5 hk |-;have hp5:=hp.le hle5;by_cases hlt:k<it.params.length
 ·have hg:it.params[k]?=some it.params[k]:=G6 hlt
  obtain⟨hpn1,hpn2⟩:=hfit.params.2 _ (O7 hlt);have hst:=A6j (A9V it.params) k;have hc1:=hcl (k+1) hlt;rw[C1F hg]at hst;rw[hst]at hc1;generalize it.params[k]=p at hg hst hc1 hpn1 hpn2;have hPp:=fun (J:P6)=>B6b (J:=J) p.label hpn2
  have hpl:=A3U hpn1;have hpl2:=A5z p.label;generalize A4F p.label=pl at hPp hst hc1 hpl2;generalize A3F (A9V it.params) k=ck at hst hc1 hm;have hr5:=hpar.le hle5;simp only[E9,F8,List.length_nil]at hc1;by_cases h0:k=0
  ·subst h0
   rw[if_neg (by decide),P5]at hst;repeat' (first|refine Q9 (d:=51) (enc:=A2N) (z:=p) ?_ (hr:=hr5) (he:=fun _=>rfl) (hz:=by exact hg);intro bz oz hpz|refine Z8 (id:=10) (hm.perm pm2_1) [0,1,2,3,4,5,6,7] [8,9,10] 11 (by kernel_rfl) ?_;clear hm;intro wd hR hm|refine A2s (d:=64) (s:=p.name) (u:= [58,32]) (by rfl) (by rfl) (by rfl) (by rfl) (by simp only[F8,List.length_nil];omega) ?_|refine A3p (d:=67) ?_ hR hm (hc:=hPp _);clear hm;intro _ hm|refine A5A (d:=68) (s:=p.name++ [58,32]) (u:=pl) hm.kept (by rfl) (by rfl) (by rfl) (by rfl) (by simp only[E9,F8,List.length_nil];omega) ?_|refine U7 (d:=69) ?_ hm (hp:=pm2_0) (hc:=A0l bw (o1++ck) (p.name++ [58,32]++pl) true v5 cq5 (by simp only[E9,F8,List.length_nil];omega));clear hm;rintro _ I7 _ _ ⟨b7,cq7,rfl⟩ hleI7 hm;rw[J3]at hm|refine Y3 ?_ hR|refine A0w ?_;replace hm:=hR.back hm;clear hR;try simp only[F9]at hm|refine U1 (d:=5) ?_ hm;clear hm;intro b5 _ hm|refine X3 ?_ hm|refine N7 ?_ hm;clear hm;intro _ hm;try simp only[F9]at hm|refine D8 ?_|refine D6 ?_|refine J6 ?_|refine A0F ?_|refine P7 ?_|refine D9 ?_|refine A7 ?_|refine D7 ?_|refine E8 ?_|refine A8 ?_|refine F5 ?_|refine G5 ?_|refine F7 ?_|(refine D5 (ht:=fun _=>?_) (hf:=fun _=>?_)<;>try first|contradiction|omega)|refine Z4 ?_|refine O5 ?_|refine J8 ?_|refine A0b ?_)
   exact L9 (⟨0+1,I7,b7,cq7⟩:WrX) (by exact⟨rfl,rfl,rfl,rfl,rfl,trivial⟩) ⟨by dsimp only;rw[hst, <-O3];exact hm.left (H:= [_,_]),hle5.trans hleI7,by dsimp only;omega⟩ (by dsimp only;omega)
  ·rw[if_pos (by omega)]at hst
   rw[if_pos (by omega)]at hc1;simp only[F8,List.length_nil]at hc1;repeat' (first|refine Q9 (d:=51) (enc:=A2N) (z:=p) ?_ (hr:=hr5) (he:=fun _=>rfl) (hz:=by exact hg);intro bz oz hpz|refine F6 (d:=58) ?_ hm (hp:=pm2_1) (hc:=A0l bw (o1++ck) [44,32] true v5 cq5 (by simp only[E9,F8,List.length_nil];omega));clear hm;rintro _ I6 _ _ ⟨b6,cq6,rfl⟩ hleI6 hm;replace hm:=hm.perm C7g|refine Z8 (id:=10) (hm.perm pm2_1) [0,1,2,3,4,5,6,7] [8,9,10] 11 (by kernel_rfl) ?_;clear hm;intro wd hR hm|refine A2s (d:=64) (s:=p.name) (u:= [58,32]) (by rfl) (by rfl) (by rfl) (by rfl) (by simp only[F8,List.length_nil];omega) ?_|refine A3p (d:=67) ?_ hR hm (hc:=hPp _);clear hm;intro _ hm|refine A5A (d:=68) (s:=p.name++ [58,32]) (u:=pl) hm.kept (by rfl) (by rfl) (by rfl) (by rfl) (by simp only[E9,F8,List.length_nil];omega) ?_|refine U7 (d:=69) ?_ hm (hp:=pm2_0) (hc:=A0l bw (o1++ck++ [44,32]) (p.name++ [58,32]++pl) true b6 cq6 (by simp only[E9,F8,List.length_nil];omega));clear hm;rintro _ I7 _ _ ⟨b7,cq7,rfl⟩ hleI7 hm;rw[J3]at hm|refine Y3 ?_ hR|refine A0w ?_;replace hm:=hR.back hm;clear hR;try simp only[F9]at hm|refine U1 (d:=5) ?_ hm;clear hm;intro b5 _ hm|refine X3 ?_ hm|refine N7 ?_ hm;clear hm;intro _ hm;try simp only[F9]at hm|refine D8 ?_|refine D6 ?_|refine J6 ?_|refine A0F ?_|refine E5 ?_|refine P7 ?_|refine C9 ?_|refine D9 ?_|refine A7 ?_|refine D7 ?_|refine E8 ?_|refine A8 ?_|refine F5 ?_|refine G5 ?_|(refine D5 (ht:=fun _=>?_) (hf:=fun _=>?_)<;>try first|contradiction|omega)|refine Z4 ?_|refine O5 ?_|refine J8 ?_|refine A0b ?_)
   exact L9 (⟨k+1,I7,b7,cq7⟩:WrX) (by exact⟨rfl,rfl,rfl,rfl,rfl,trivial⟩) ⟨by dsimp only;rw[hst, <-O3, <-O3];exact hm.left (H:= [_,_]),(hle5.trans hleI6).trans hleI7,by dsimp only;omega⟩ (by dsimp only;omega)
 obtain rfl:k=it.params.length:=by omega
 generalize A3F (A9V it.params) it.params.length=ck at hlen hm |-;clear hcl;repeat' (first|refine Z8 (id:=12) (hm.perm pm2_0) [0,1,2,3,4,5,6] [7,8,9] 10 (by kernel_rfl) ?_;clear hm;intro wd hR hm|refine A3p (d:=78) ?_ hR hm (hc:=hPr _);clear hm;intro _ hm|refine A5A (d:=79) (s:= [41,58,32]) (u:=pr) hm.kept (by rfl) (by rfl) (by rfl) (by rfl) (by simp only[F8,List.length_nil];omega) ?_|refine U7 (d:=80) ?_ hm (hp:=pm2_0) (hc:=A0l bw (o1++ck) ([41,58,32]++pr) true v5 cq5 (by simp only[E9,F8,List.length_nil];omega));clear hm;rintro _ I6 _ _ ⟨b6,cq6,rfl⟩ hleI6 hm;rw[J3]at hm;have hp6:=hp5.le hleI6|refine A0c ?_ hR|refine A0w ?_;replace hm:=hR.back hm;clear hR;try simp only[F9]at hm|refine J5 ?_ hm|refine D8 ?_|refine J6 ?_|refine G7 ?_|refine E5 ?_|refine C9 ?_|refine D9 ?_|refine A7 ?_|refine H9 ?_|refine H5 ?_|refine E8 ?_|refine A8 ?_|refine F5 ?_|refine P9 ?_|(refine D5 (ht:=fun _=>?_) (hf:=fun _=>?_)<;>try first|contradiction|omega)|refine Z4 ?_|refine O5 ?_|refine J8 ?_|refine A0b ?_)
 obtain⟨o2,ho2⟩:∃o2,o2=o1++ck++([41,58,32]++pr):=⟨_,rfl⟩;have hl2:o2.length=o1.length+ck.length+pr.length+3:=by rw[ho2];simp only[E9,F8,List.length_nil];omega
 change Mem E I6 (WSt bw (o1++ck++([41,58,32]++pr)) true b6 cq6) _ at hm
 rw[<-ho2]at hm;have hle6:Le I I6:=hle5.trans hleI6;refine U2 (fun x:WrX=> [(0,ptr bw),(1,.pointer (some ⟨b,o,none⟩)),(84,.slice sa9 it.sends.length sc9),(85,nt it.sends.length),(86,nt x.k)])
  (fun x w'=>Mem E x.I (WSt bw (o2++A7y it.sends x.k) true x.a x.cp) w'/\Le I x.I/\x.k<=it.sends.length) (fun x=>it.sends.length-x.k) ⟨0,I6,b6,cq6⟩
  (by exact⟨rfl,rfl,rfl,rfl,rfl,trivial⟩) ⟨by rw[show A7y it.sends 0= [] from rfl,J3];exact hm,hle6,H7 _⟩ ?_
 clear hm;rintro⟨q,I8,b8,cq8⟩ w8 ⟨hm,hle8,hq⟩;dsimp only at hm hle8 hq |-;have hp8:=hp.le hle8;by_cases hlq:q<it.sends.length
 ·have hg:it.sends[q]?=some it.sends[q]:=G6 hlq
  have hpn1:=hfit.sends.2 _ (O7 hlq);have hst:=B0l it.sends q;have hc1:=hsl (q+1) hlq;rw[O4,hg,Option.getD_some]at hst;rw[hst]at hc1;generalize it.sends[q]=p at hg hst hc1 hpn1;have hpl:=A3U hpn1;generalize A7y it.sends q=ck2 at hst hc1 hm;have hr8:=hsnd.le hle8;simp only[E9]at hc1;by_cases h0:q=0
  ·subst h0
   rw[if_pos rfl]at hst hc1;simp only[F8,List.length_nil]at hc1;repeat' (first|refine Q9 (d:=89) (enc:=A2V) (z:=p) ?_ (hr:=hr8) (he:=fun _=>rfl) (hz:=by exact hg);intro bz oz hpz|refine F6 (d:=96) ?_ hm (hp:=pm2_1) (hc:=A0l bw (o2++ck2) [32,115,101,110,100,115,32] true b8 cq8 (by simp only[E9,F8,List.length_nil];omega));clear hm;rintro _ I9 _ _ ⟨b9,cq9,rfl⟩ hleI9 hm;replace hm:=hm.perm C7g|refine Z8 (id:=19) (hm.perm pm2_1) [0,1,2,3,4] [5] 6 (by kernel_rfl) ?_;clear hm;intro wd hR hm|refine U7 (d:=106) ?_ hm (hp:=pm2_0) (hc:=A0l bw (o2++ck2++ [32,115,101,110,100,115,32]) p.name true b9 cq9 (by simp only[E9,F8,List.length_nil];omega));clear hm;rintro _ I10 _ _ ⟨b10,cq10,rfl⟩ hleI10 hm;rw[J3]at hm|refine Y3 ?_ hR|refine A0w ?_;replace hm:=hR.back hm;clear hR;try simp only[F9]at hm|refine U1 (d:=7) ?_ hm;clear hm;intro b7 _ hm|refine X3 ?_ hm|refine N7 ?_ hm;clear hm;intro _ hm;try simp only[F9]at hm|refine D8 ?_|refine D6 ?_|refine J6 ?_|refine N9 ?_|refine E5 ?_|refine P7 ?_|refine C9 ?_|refine D9 ?_|refine A7 ?_|refine D7 ?_|refine E8 ?_|refine A8 ?_|refine F5 ?_|refine G5 ?_|refine H6 ?_|(refine D5 (ht:=fun _=>?_) (hf:=fun _=>?_)<;>try first|contradiction|omega)|refine Z4 ?_|refine O5 ?_|refine J8 ?_|refine A0b ?_)
   exact L9 (⟨0+1,I10,b10,cq10⟩:WrX) (by exact⟨rfl,rfl,rfl,rfl,rfl,trivial⟩) ⟨by dsimp only;rw[hst, <-O3, <-O3];exact hm.left (H:= [_,_]),(hle8.trans hleI9).trans hleI10,by dsimp only;omega⟩ (by dsimp only;omega)
  ·rw[if_neg h0]at hst hc1
   simp only[F8,List.length_nil]at hc1;repeat' (first|refine Q9 (d:=89) (enc:=A2V) (z:=p) ?_ (hr:=hr8) (he:=fun _=>rfl) (hz:=by exact hg);intro bz oz hpz|refine F6 (d:=100) ?_ hm (hp:=pm2_1) (hc:=A0l bw (o2++ck2) [44,32] true b8 cq8 (by simp only[E9,F8,List.length_nil];omega));clear hm;rintro _ I9 _ _ ⟨b9,cq9,rfl⟩ hleI9 hm;replace hm:=hm.perm C7g|refine Z8 (id:=19) (hm.perm pm2_1) [0,1,2,3,4] [5] 6 (by kernel_rfl) ?_;clear hm;intro wd hR hm|refine U7 (d:=106) ?_ hm (hp:=pm2_0) (hc:=A0l bw (o2++ck2++ [44,32]) p.name true b9 cq9 (by simp only[E9,F8,List.length_nil];omega));clear hm;rintro _ I10 _ _ ⟨b10,cq10,rfl⟩ hleI10 hm;rw[J3]at hm|refine Y3 ?_ hR|refine A0w ?_;replace hm:=hR.back hm;clear hR;try simp only[F9]at hm|refine U1 (d:=7) ?_ hm;clear hm;intro b7 _ hm|refine X3 ?_ hm|refine N7 ?_ hm;clear hm;intro _ hm;try simp only[F9]at hm|refine D8 ?_|refine D6 ?_|refine J6 ?_|refine N9 ?_|refine E5 ?_|refine P7 ?_|refine C9 ?_|refine D9 ?_|refine A7 ?_|refine D7 ?_|refine E8 ?_|refine A8 ?_|refine F5 ?_|refine G5 ?_|(refine D5 (ht:=fun _=>?_) (hf:=fun _=>?_)<;>try first|contradiction|omega)|refine Z4 ?_|refine O5 ?_|refine J8 ?_|refine A0b ?_)
   exact L9 (⟨q+1,I10,b10,cq10⟩:WrX) (by exact⟨rfl,rfl,rfl,rfl,rfl,trivial⟩) ⟨by dsimp only;rw[hst, <-O3, <-O3];exact hm.left (H:= [_,_]),(hle8.trans hleI9).trans hleI10,by dsimp only;omega⟩ (by dsimp only;omega)
 obtain rfl:q=it.sends.length:=by omega
 generalize A7y it.sends it.sends.length=ck2 at hlen hm |-;clear hsl;have hB:=fun (J:P6) (m:Le I J) (o3:List UInt8) (a cp) (ho:o3.length+(B1j it.body 0).length<=100000000000000)=>hBk J 0 ba9 bc9 xb o3 true a cp (hle0.trans m) (G9 _) ho (hrb.le m) (X6.le m _ _ hbs)
 generalize B1j it.body 0=bk at hB hlen |-;repeat' (first|refine F6 (d:=111) ?_ hm (hp:=pm2_0) (hc:=A4k bw (o2++ck2) 32 true b8 cq8 (by simp only[E9];omega));clear hm;rintro _ I9 _ _ ⟨b9,cq9,rfl⟩ hleI9 hm;rw[J3]at hm;have hp9:=hp8.le hleI9|refine F6 (d:=117) ?_ hm (hp:=pm2_0) (hc:=hB I9 (hle8.trans hleI9) (o2++ck2++ [32]) b9 cq9 (by simp only[E9,F8,List.length_nil];omega));clear hm;rintro _ I10 _ _ ⟨b10,cq10,rfl⟩ hleI10 hm;rw[J3]at hm|refine F6 (d:=121) ?_ hm (hp:=pm2_0) (hc:=A4k bw (o2++ck2++ [32]++bk) 10 true b10 cq10 (by simp only[E9,F8,List.length_nil];omega));clear hm;rintro _ I11 _ _ ⟨b11,cq11,rfl⟩ hleI11 hm;rw[J3]at hm|refine J5 ?_ hm|refine D8 ?_|refine J6 ?_|refine E5 ?_|refine C9 ?_|refine D9 ?_|refine A7 ?_|refine H9 ?_|refine D7 ?_|refine H5 ?_|refine E8 ?_|refine A8 ?_|refine P9 ?_|refine X0 ?_|(refine D5 (ht:=fun _=>?_) (hf:=fun _=>?_)<;>try first|contradiction|omega))
 refine⟨I11,_,⟨b11,cq11,?_⟩,hm⟩
 rw[ho2,ho1];simp only[O3]
structure WrY where
 k:Nat
 I:P6
 u:Bool
 a:Option Addr
 cp:Nat
theorem C7O {I:P6}{its:List Sp.Itm}{a:Option Addr}{cp:Nat}{xs:List Value} (hT:A8B I) (hfe:FE I its a cp xs) (hfit:∀it∈its,it.fitI) (hlen:(A24 its).length<=100000000000000):
  CalM prog 11 #[.agg [.slice a its.length cp].toArray] I [] (fun v _ H'=>v=str (A24 its)/\H'= []):=by
 refine CalM.of fun w E hm=>enter (N:=24) func11 rfl [(0,.agg [.slice a its.length cp].toArray)] A0I rfl ?_
 have hfew:=hfe.few;repeat' (first|refine A0H 1 ?_|refine A0K (d:=1) ?_ hm;clear hm;intro b1 _ hm|refine D6 ?_|refine D9 ?_|refine A7 ?_|refine E8 ?_|refine A8 ?_)
 obtain⟨I2,hle2,hm2,hpf⟩:=hm.freezeO;clear hm;have hm:=hm2;clear hm2;refine⟨?_⟩
 repeat' (first|refine A0K (d:=6) (vs:=[.pointer none,.slice none 0 0]) ?_ hm;clear hm;intro b6 _ hm|refine Q3 (d:=5) ?_|refine A0H 2 ?_|refine D6 ?_|refine D9 ?_|refine A7 ?_|refine E8 ?_|refine A8 ?_)
 have hm:=(hm.nil 5 1).swap;refine⟨?_⟩
 repeat' (first|refine J5 ?_ hm|refine D8 ?_|refine G7 ?_|refine C9 ?_|refine D9 ?_|refine A7 ?_|refine A8 ?_|refine F5 ?_)
 refine U2 (fun x:WrY=> [(1,ptr b1),(3,ptr b6),(9,nt its.length),(10,nt x.k)])
  (fun x w'=>Mem E x.I (WSt b6 (A24 (its.take x.k)) x.u x.a x.cp) w'/\Le I2 x.I/\x.k<=its.length/\(x.k=0->x.a=none)) (fun x=>its.length-x.k) ⟨0,I2,false,none,0⟩
  (by exact⟨rfl,rfl,rfl,rfl,trivial⟩) ⟨hm,Le.refl _,H7 _,fun _=>rfl⟩ ?_
 clear hm;rintro⟨k,I3,u,oa,oc⟩ w3 ⟨hm,hle3,hk,hk0⟩;dsimp only at hm hle3 hk hk0 |-;have hpf3:=hpf.le hle3;have hle03:Le I I3:=hle2.trans hle3;have hfe3:=hfe.le hle03;have hri:=hfe3.row;by_cases hlt:k<its.length
 ·have hg:its[k]?=some its[k]:=G6 hlt
  have hf:=hfit _ (O7 hlt);have hst:=B8I hg;have hl1:=C2S its (k+1);obtain⟨ci,hci,hat,_⟩:=hfe3.get hg;generalize its[k]=it at hg hf hst hat
  rw[hst,E9]at hl1;have hW:=fun (b o tc:Nat) (hp:PtrI I3 b o tc ci)=>C7P (I0:=I) hT (bw:=b6) hf (u:=u) (a:=oa) (cp:=oc) (out:=A24 (its.take k)) hle03 (by omega) hp hat
  repeat' (first|refine O0 (d:=17) ?_ (hr:=hri);intro bt ot hpt;rw[show ((k:Int).toNat *10)=k *10 from rfl,hci]at hpt|refine F6 (d:=18) ?_ hm (hp:=pm2_0) (hc:=hW _ _ _ hpt);clear hm;rintro _ I4 _ _ ⟨b4,cq4,rfl⟩ hleI4 hm;rw[J3]at hm|refine J5 ?_ hm|refine D8 ?_|refine D6 ?_|refine J6 ?_|refine P7 ?_|refine C9 ?_|refine D9 ?_|refine A7 ?_|refine D7 ?_|refine E8 ?_|refine A8 ?_|refine F5 ?_|refine G5 ?_|(refine D5 (ht:=fun _=>?_) (hf:=fun _=>?_)<;>try first|contradiction|omega))
  exact L9 (⟨k+1,I4,true,b4,cq4⟩:WrY) (by exact⟨rfl,rfl,rfl,rfl,trivial⟩) ⟨by dsimp only;rw[hst];exact hm,hle3.trans hleI4,by dsimp only;omega,fun h=>(by dsimp only at h;omega)⟩ (by dsimp only;omega)
 obtain rfl:k=its.length:=by omega
 rw[V5]at hm;have hne:A24 its≠ []\/A24 its= []/\oa=none:=by
  cases its with
  |nil=>exact .inr ⟨rfl,hk0 rfl⟩
  |cons it its=>exact .inl (by rw[A24,A0a];have:=C3e (hfit it Q7);simp[this])
 repeat' (first|refine F6 (d:=23) ?_ hm (hp:=pm2_0) (hc:=C2n b6 (A24 its) u oa oc hne);clear hm;rintro _ I5 _ _ ⟨rfl,rfl⟩ hleI5 hm|refine D8 ?_|refine D6 ?_|refine J6 ?_|refine E5 ?_|refine C9 ?_|refine D9 ?_|refine A7 ?_|refine H9 ?_|refine H5 ?_|refine E8 ?_|refine A8 ?_|refine P9 ?_|refine H8 ?_|refine J9 ?_|(refine D5 (ht:=fun _=>?_) (hf:=fun _=>?_)<;>try first|contradiction|omega))
 exact⟨I5,[],⟨rfl,rfl⟩,hm.left (H:= [])⟩
theorem C8D {src:List UInt8}{its:List Sp.Itm} (hits:its=J7 src) (I:P6) (hT:A8B I) {a:Option Addr}{c:Nat}{xs:List Value} (hfe:FE I its a c xs) (bs:Nat) (op:Bool):
  CalM prog 96 #[ptr bs] I [C1T bs src its.length op a c] (fun v I' H'=> ∃x,v=.agg x.toArray/\A4u I' (C3j its) x/\H'= [C1T bs src its.length op a c]):=by
 refine CalM.of fun w E hm=>enter (N:=28) func96 rfl [(0,ptr bs)] A0I rfl ?_
 have hfew:=hfe.few;have hri:=hfe.row;obtain⟨hI,hlab,h30⟩:=B60 src;have hlw:=fun (hb:A8L (J7 src)=false) (r:List Sp.Itm) (h:B1d (J7 src) r)=>B8Z src hb h
 rw[<-hits]at hI hlab hlw h30;repeat' (first|refine U1 (d:=2) ?_ hm;clear hm;intro b2 _ hm|refine J4 ?_ hm|refine D8 ?_|refine G7 ?_|refine E5 ?_|refine C9 ?_|refine D9 ?_|refine A7 ?_|refine E8 ?_|refine A8 ?_|refine F5 ?_)
 refine U2 (fun k:Nat=> [(0,ptr bs),(2,ptr b2),(9,.slice a its.length c),(10,nt its.length),(11,nt k)])
  (fun k w'=>Mem E I [.cell b2 (rpV A9d none 0 none 0) 80,C1T bs src its.length op a c] w'/\k<=its.length/\A8L its=(its.drop k).any (fun it=> !it.diags.isEmpty)) (fun k=>its.length-k) 0
  (by exact⟨rfl,rfl,rfl,rfl,rfl,trivial⟩) ⟨hm,H7 _,rfl⟩ ?_
 clear hm;rintro k w1 ⟨hm,hk,hbad⟩;try dsimp only at hm hk hbad |-
 by_cases hlt:k<its.length
 ·have hg:its[k]?=some (A0o its k):=A2G hlt
  obtain⟨ci,hci,hat,_⟩:=hfe.get hg;rw[B6x hg]at hbad;generalize A0o its k=it at hg hat hbad;obtain⟨pa,pc,sa9,sc9,ba9,bc9,da9,dc9,xb,rfl,_⟩:=hat
  by_cases hd:0<it.diags.length
  ·have hb:A8L its=true:=by
    rw[hbad];cases hdd:it.diags with
    |nil=>rw[hdd]at hd;simp at hd
    |cons _ _=>rfl
   repeat' (first|refine O0 (d:=13) ?_ (hr:=hri);intro bt ot hpt;rw[show ((k:Int).toNat *10)=k *10 from rfl,hci]at hpt|refine X3 (d:=14) ?_ hm (hp:=hpt)|refine Y5 (d:=4) ?_ hm;clear hm;intro b4 _ hm|refine J4 ?_ hm|refine N7 ?_ hm;clear hm;intro _ hm;try simp only[F9]at hm|refine Y4 ?_ hm|refine J6 ?_|refine A0F ?_|refine G7 ?_|refine C9 ?_|refine Q3 ?_|refine D9 ?_|refine A7 ?_|refine G8 ?_|refine O1 ?_|refine E8 ?_|refine A8 ?_|refine F5 ?_|refine G5 ?_|refine H8 ?_|(refine D5 (ht:=fun _=>?_) (hf:=fun _=>?_)<;>try first|contradiction|omega))
   exact⟨I,_,⟨_,rfl,by rw[C3j,if_pos hb];exact A4u.plain I rfl rfl,rfl⟩,hm.tl.tl⟩
  ·have hd0:it.diags= []:=A00 (by omega)
   rw[hd0]at hbad;repeat' (first|refine O0 (d:=13) ?_ (hr:=hri);intro bt ot hpt;rw[show ((k:Int).toNat *10)=k *10 from rfl,hci]at hpt|refine X3 (d:=14) ?_ hm (hp:=hpt)|refine Y5 (d:=4) ?_ hm;clear hm;intro b4 _ hm|refine J4 ?_ hm|refine D8 ?_|refine J6 ?_|refine A0F ?_|refine G7 ?_|refine P7 ?_|refine C9 ?_|refine D9 ?_|refine A7 ?_|refine D7 ?_|refine E8 ?_|refine A8 ?_|refine F5 ?_|refine G5 ?_|(refine D5 (ht:=fun _=>?_) (hf:=fun _=>?_)<;>try first|contradiction|omega))
   exact L9 (k+1:Nat) (by exact⟨rfl,rfl,rfl,rfl,rfl,trivial⟩) ⟨hm.tl,by omega,hbad⟩ (by omega)
 ·obtain rfl:k=its.length:=by omega
  rw[A6D]at hbad;have hb:A8L its=false:=hbad;have hLb:=C29 hlab hI I a c xs hfe;repeat' (first|refine B0R (d:=24) hm (by rfl) (by rfl) (by rfl) (by first|exact gt0|exact gt1|exact gt2|exact gt3|exact gt4|exact gt5|exact gt6) (by rfl) (by rfl) ?_|refine F6 (d:=25) ?_ hm (hp:=pm0) (hc:=hLb);clear hm;rintro _ I2 _ _ ⟨rfl,ra,rp,rxs,r,hr,rfl,hrr,hrx⟩ hleI2 hm;try simp only[F9]at hm;have hrl:=hr.len;have hfe2:=B99 hrr hrx (by omega);obtain⟨hfit,hlen⟩:=hlw hb r hr|refine F6 (d:=26) ?_ hm (hp:=pm0) (hc:=C7O (hT.le hleI2) hfe2 hfit hlen);clear hm;rintro _ I3 _ _ ⟨rfl,rfl⟩ hleI3 hm;try simp only[F9]at hm|refine N7 ?_ hm;clear hm;intro _ hm;try simp only[F9]at hm|refine Y4 ?_ hm|refine D8 ?_|refine J6 ?_|refine E5 ?_|refine C9 ?_|refine Q3 ?_|refine D9 ?_|refine A7 ?_|refine H9 ?_|refine H5 ?_|refine E8 ?_|refine A8 ?_|refine P9 ?_|refine H8 ?_|(refine D5 (ht:=fun _=>?_) (hf:=fun _=>?_)<;>try first|contradiction|omega))
  exact⟨I3,_,⟨_,rfl,by rw[C3j,hb,C3l hr];exact A4u.plain I3 rfl rfl,rfl⟩,hm.tl⟩
end Go.Proofs
