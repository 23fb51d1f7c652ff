/- Own work: texts PpJ, PpK, PpL, one behind the other. -/
import Derived.Test.YtfjdfdgpkncpfaaGreatDoorQb14
set_option maxHeartbeats 64000000
section
namespace Go.Proofs.YtfjdfdgpkncpfaaGreatDoor
open Go.Proofs.Tryz
open Go.Fw
section
variable {T:Sp.Src}{pb f:Nat}{I:O5}{la:Option Addr}{lc deep:Nat}{da:Option Addr}{dc:Nat}{s:Sp.St}
theorem C0e (hT:Ok T) (_hC:A1X I) (hr:A1o I T la lc) (hi:s.i≤T.l.length) (_hf:5 *(T.l.length-s.i)+5≤f+1) (hd:s.ds.length+8 *(T.l.length-s.i)+32≤1099511627776) (_hdp:deep≤12) (n1:(T.tok s.i).text≠ [108,101,116]) (n2:(T.tok s.i).text≠ [105,102]) (n3:(T.tok s.i).text≠ [119,104,105,108,101]) (n4:(T.tok s.i).text≠ [115,101,110,100]) (n5:(T.tok s.i).text≠ [114,101,116,117,114,110]) (h5:Sp.name (T.tok s.i).text=false):
  CalM prog 149 #[ptr pb] I (QSt pb la lc T s deep da dc) (A8A pb la lc T deep (Sp.stm T (f+1) deep s)):=by
 have h2:=hT.size
 have h3:=hT.len
 have h1:=hT.at_ s.i
 have het0:=fun da dc=>A0f (pb:=pb) (deep:=deep) (da:=da) (dc:=dc) s [108,101,116] (by simp) hr hT hi
 rw[Sp.A1x (by exact n1:(T.tok s.i).text≠ [108,101,116]),if_neg (by simp)] at het0
 have het1:=fun da dc=>A0f (pb:=pb) (deep:=deep) (da:=da) (dc:=dc) s [105,102] (by simp) hr hT hi
 rw[Sp.A1x (by exact n2:(T.tok s.i).text≠ [105,102]),if_neg (by simp)] at het1
 have het2:=fun da dc=>A0f (pb:=pb) (deep:=deep) (da:=da) (dc:=dc) s [119,104,105,108,101] (by simp) hr hT hi
 rw[Sp.A1x (by exact n3:(T.tok s.i).text≠ [119,104,105,108,101]),if_neg (by simp)] at het2
 have het3:=fun da dc=>A0f (pb:=pb) (deep:=deep) (da:=da) (dc:=dc) s [115,101,110,100] (by simp) hr hT hi
 rw[Sp.A1x (by exact n4:(T.tok s.i).text≠ [115,101,110,100]),if_neg (by simp)] at het3
 have het4:=fun da dc=>A0f (pb:=pb) (deep:=deep) (da:=da) (dc:=dc) s [114,101,116,117,114,110] (by simp) hr hT hi
 rw[Sp.A1x (by exact n5:(T.tok s.i).text≠ [114,101,116,117,114,110]),if_neg (by simp)] at het4
 have hnR:CalR prog 52 #[str (T.tok s.i).text] I [] (.bool false):=⟨fun w _ _=>by have:=A58 (T.tok s.i).text (by omega) w;rwa [h5] at this⟩
 have hpk:=fun da dc=>A06 (pb:=pb) (deep:=deep) (da:=da) (dc:=dc) s hr
 rw[Sp.stm]
 dsimp only
 rw[if_neg n1,if_neg n2,if_neg n3,if_neg n4,if_neg n5,if_neg (by rw[h5];simp)]
 refine CalM.of fun w E hm=>enter (N:=154) func149 rfl [(0,ptr pb)] Z4 rfl ?_
 repeat' (first|(refine L9 ?_ hm (hc:=A0k s hr);clear hm;intro _ hm)|(refine Q5 (id:=38) 5 (h:=?_))|(refine A5A (by rfl) (by rfl) (by rfl) (by rfl) ?_)|(refine F5 ?_ hm (hc:=het0 _ _);clear hm;rintro _ _ _ _ ⟨rfl,rfl,dk0,ck0,rfl⟩ hle hm;try simp only[F7] at hm)|(refine F5 ?_ hm (hc:=het1 _ _);clear hm;rintro _ _ _ _ ⟨rfl,rfl,dk1,ck1,rfl⟩ hle hm;try simp only[F7] at hm)|(refine F5 ?_ hm (hc:=het2 _ _);clear hm;rintro _ _ _ _ ⟨rfl,rfl,dk2,ck2,rfl⟩ hle hm;try simp only[F7] at hm)|(refine F5 ?_ hm (hc:=het3 _ _);clear hm;rintro _ _ _ _ ⟨rfl,rfl,dk3,ck3,rfl⟩ hle hm;try simp only[F7] at hm)|(refine F5 ?_ hm (hc:=het4 _ _);clear hm;rintro _ _ _ _ ⟨rfl,rfl,dk4,ck4,rfl⟩ hle hm;try simp only[F7] at hm)|(refine V3 ?_ hm (hc:=hpk _ _))|(refine L9 ?_ hm (hc:=hpk _ _);clear hm;intro _ hm)|(refine V3 ?_ hm (hc:=hnR))|(refine L9 ?_ hm (hc:=hnR);clear hm;intro _ hm)|(refine F5 ?_ hm (hc:=A2c s 2 hr hT hi (by omega));clear hm;rintro _ _ _ _ ⟨rfl,rfl,da2,dc2,rfl⟩ hle hm;try simp only[F7] at hm)|(refine V3 ?_ hm (hc:=A2o (s.bad T 2) hr hT hi))|(refine V6 (d:=2) ?_ hm;clear hm;intro b2 _ hm)|(refine V7 (d:=3) ?_ hm;clear hm;intro b3 _ hm)|refine U5 ?_ hm|refine P8 ?_ hm|(refine N8 ?_ hm;clear hm;intro _ hm;try simp only[F7] at hm)|(refine J6 hm (k:=?_);clear hm;intro _ hm;try simp only[F7] at hm)|refine Y9 ?_ hm|refine D7 ?_|refine D5 ?_|refine C9 ?_|refine Q9 ?_|refine D8 ?_|refine A7 ?_|refine D9 ?_|refine E5 ?_|refine A8 ?_|refine E9 ?_|refine G8 ?_|refine O6 ?_|(refine W9 ?_;intro _ hkq;replace hm:=hm.kept0 hkq;clear hkq)|(refine V4 ?_;intro _ hkq;replace hm:=hm.kept0 hkq;clear hkq)|refine F6 ?_|refine U3 ?_|refine A1f ?_|refine A0p ?_|refine H7 ?_|refine A2k ?_)
 all_goals try first|omega|contradiction
 exact⟨I,_,⟨⟨none,0,[],none,0,[],none,0,[],rfl,A0z _ _ _ _ _,.nil,A0M _,.nil,A0M _,.nil⟩,da2,dc2,rfl⟩,hm.left (H:= [_,_])⟩
theorem C1c (hT:Ok T) (hC:A1X I) (hr:A1o I T la lc) (hi:s.i≤T.l.length) (hf:5 *(T.l.length-s.i)+5≤f+1) (hd:s.ds.length+8 *(T.l.length-s.i)+32≤1099511627776) (hdp:deep≤12) (n1:(T.tok s.i).text≠ [108,101,116]) (n2:(T.tok s.i).text≠ [105,102]) (n3:(T.tok s.i).text≠ [119,104,105,108,101]) (n4:(T.tok s.i).text≠ [115,101,110,100]) (n5:(T.tok s.i).text≠ [114,101,116,117,114,110]) (h5:Sp.name (T.tok s.i).text=true) (h6:T.is (s.i+1) [61]=false):
  CalM prog 149 #[ptr pb] I (QSt pb la lc T s deep da dc) (A8A pb la lc T deep (Sp.stm T (f+1) deep s)):=by
 have h2:=hT.size
 have h3:=hT.len
 have h1:=hT.at_ s.i
 have het0:=fun da dc=>A0f (pb:=pb) (deep:=deep) (da:=da) (dc:=dc) s [108,101,116] (by simp) hr hT hi
 rw[Sp.A1x (by exact n1:(T.tok s.i).text≠ [108,101,116]),if_neg (by simp)] at het0
 have het1:=fun da dc=>A0f (pb:=pb) (deep:=deep) (da:=da) (dc:=dc) s [105,102] (by simp) hr hT hi
 rw[Sp.A1x (by exact n2:(T.tok s.i).text≠ [105,102]),if_neg (by simp)] at het1
 have het2:=fun da dc=>A0f (pb:=pb) (deep:=deep) (da:=da) (dc:=dc) s [119,104,105,108,101] (by simp) hr hT hi
 rw[Sp.A1x (by exact n3:(T.tok s.i).text≠ [119,104,105,108,101]),if_neg (by simp)] at het2
 have het3:=fun da dc=>A0f (pb:=pb) (deep:=deep) (da:=da) (dc:=dc) s [115,101,110,100] (by simp) hr hT hi
 rw[Sp.A1x (by exact n4:(T.tok s.i).text≠ [115,101,110,100]),if_neg (by simp)] at het3
 have het4:=fun da dc=>A0f (pb:=pb) (deep:=deep) (da:=da) (dc:=dc) s [114,101,116,117,114,110] (by simp) hr hT hi
 rw[Sp.A1x (by exact n5:(T.tok s.i).text≠ [114,101,116,117,114,110]),if_neg (by simp)] at het4
 have hnR:CalR prog 52 #[str (T.tok s.i).text] I [] (.bool true):=⟨fun w _ _=>by have:=A58 (T.tok s.i).text (by omega) w;rwa [h5] at this⟩
 have hlt:=Sp.A0W (Sp.A3m h5)
 have hpk:=fun da dc=>A06 (pb:=pb) (deep:=deep) (da:=da) (dc:=dc) s hr
 rw[Sp.stm]
 dsimp only
 rw[if_neg n1,if_neg n2,if_neg n3,if_neg n4,if_neg n5,if_pos h5,if_neg (by rw[h6];simp)]
 have hex:=fun da dc=>(A1D T pb hT f).2 I la lc deep da dc s 1 hC hr (by omega) (by omega) (by omega) hdp
 have hg:=(Sp.A0c T f).2.2.1 deep 1 s
 generalize Sp.Y2 T f deep 1 s=r at hex hg ⊢
 have hg1:=hg.le
 have hg2:=hg.top (by omega)
 have hg3:=hg.ds
 have hg4:=(Sp.X6 T r.2 [59]).top hg2
 refine CalM.of fun w E hm=>enter (N:=154) func149 rfl [(0,ptr pb)] Z4 rfl ?_
 by_cases hl7:s.i+1<T.l.length
 ·have htx:(T.tok (s.i+1)).text≠ [61]:=fun e=>by rw[Sp.A5Z e (by simp)] at h6;cases h6
  repeat' (first|(refine L9 ?_ hm (hc:=A0k s hr);clear hm;intro _ hm)|(refine Q5 (id:=38) 5 (h:=?_))|(refine A5A (by rfl) (by rfl) (by rfl) (by rfl) ?_)|(refine F5 ?_ hm (hc:=het0 _ _);clear hm;rintro _ _ _ _ ⟨rfl,rfl,dk0,ck0,rfl⟩ hle hm;try simp only[F7] at hm)|(refine F5 ?_ hm (hc:=het1 _ _);clear hm;rintro _ _ _ _ ⟨rfl,rfl,dk1,ck1,rfl⟩ hle hm;try simp only[F7] at hm)|(refine F5 ?_ hm (hc:=het2 _ _);clear hm;rintro _ _ _ _ ⟨rfl,rfl,dk2,ck2,rfl⟩ hle hm;try simp only[F7] at hm)|(refine F5 ?_ hm (hc:=het3 _ _);clear hm;rintro _ _ _ _ ⟨rfl,rfl,dk3,ck3,rfl⟩ hle hm;try simp only[F7] at hm)|(refine F5 ?_ hm (hc:=het4 _ _);clear hm;rintro _ _ _ _ ⟨rfl,rfl,dk4,ck4,rfl⟩ hle hm;try simp only[F7] at hm)|(refine V3 ?_ hm (hc:=hpk _ _))|(refine L9 ?_ hm (hc:=hpk _ _);clear hm;intro _ hm)|(refine V3 ?_ hm (hc:=hnR))|(refine L9 ?_ hm (hc:=hnR);clear hm;intro _ hm)|(refine A0n (enc:=A1Q) (z:=T.tok (s.i+1)) ?_ (hr:=by exact hr) (he:=by intro _;rfl) (hz:=by rw[show ((s.i:Int)+1).toNat=s.i+1 by omega];exact A14 (by omega));intro b9 o9 hp9)|(refine F5 ?_ hm (hc:=hex _ _);clear hm;rintro _ I2 _ _ ⟨⟨ea,ec,xs,rfl,hrow,hexs⟩,da',dc',rfl⟩ hle hm;have hleI2:=hle;try simp only[F7] at hm)|(refine F5 ?_ hm (hc:=A1k r.2 [59] (by simp) (hr.le hleI2) hT (by omega) hg2);clear hm;rintro _ _ _ _ ⟨rfl,rfl,da2,dc2,rfl⟩ hle hm;try simp only[F7] at hm)|(refine V3 ?_ hm (hc:=A2o (r.2.need T [59]).2 (hr.le hleI2) hT hg4))|(refine V6 (d:=2) ?_ hm;clear hm;intro b2 _ hm)|(refine V7 (d:=3) ?_ hm;clear hm;intro b3 _ hm)|refine U5 ?_ hm|refine P8 ?_ hm|refine X8 ?_ hm|(refine N8 ?_ hm;clear hm;intro _ hm;try simp only[F7] at hm)|(refine J6 hm (k:=?_);clear hm;intro _ hm;try simp only[F7] at hm)|(refine A1V ?_ hm;clear hm;intro _ hm;try simp only[F7] at hm)|refine Y9 ?_ hm|refine D7 ?_|refine D5 ?_|refine C9 ?_|refine Q9 ?_|refine D8 ?_|refine A7 ?_|refine D9 ?_|refine E5 ?_|refine A8 ?_|refine E9 ?_|refine G8 ?_|refine O6 ?_|(refine W9 ?_;intro _ hkq;replace hm:=hm.kept0 hkq;clear hkq)|(refine V4 ?_;intro _ hkq;replace hm:=hm.kept0 hkq;clear hkq)|refine F9 ?_|refine F6 ?_|(refine D6 (ht:=fun _=>?_) (hf:=fun _=>?_)<;>(try first|contradiction|(exfalso;omega)))|refine U3 ?_|refine A1f ?_|refine V8 ?_|refine A03 ?_|refine A5Q ?_|refine O1 ?_|refine J4 ?_|refine A9h ?_|refine H7 ?_|(refine U6 (fun _=>?_) (h1:=fun _=>?_)<;>(try first|contradiction|(exfalso;omega))))
  all_goals try first|omega|contradiction
  exact⟨I2,_,⟨⟨ea,ec,xs,none,0,[],none,0,[],rfl,hrow,hexs,A0M _,.nil,A0M _,.nil⟩,da2,dc2,rfl⟩,hm.left (H:= [_,_])⟩
 ·skip
  repeat' (first|(refine L9 ?_ hm (hc:=A0k s hr);clear hm;intro _ hm)|(refine Q5 (id:=38) 5 (h:=?_))|(refine A5A (by rfl) (by rfl) (by rfl) (by rfl) ?_)|(refine F5 ?_ hm (hc:=het0 _ _);clear hm;rintro _ _ _ _ ⟨rfl,rfl,dk0,ck0,rfl⟩ hle hm;try simp only[F7] at hm)|(refine F5 ?_ hm (hc:=het1 _ _);clear hm;rintro _ _ _ _ ⟨rfl,rfl,dk1,ck1,rfl⟩ hle hm;try simp only[F7] at hm)|(refine F5 ?_ hm (hc:=het2 _ _);clear hm;rintro _ _ _ _ ⟨rfl,rfl,dk2,ck2,rfl⟩ hle hm;try simp only[F7] at hm)|(refine F5 ?_ hm (hc:=het3 _ _);clear hm;rintro _ _ _ _ ⟨rfl,rfl,dk3,ck3,rfl⟩ hle hm;try simp only[F7] at hm)|(refine F5 ?_ hm (hc:=het4 _ _);clear hm;rintro _ _ _ _ ⟨rfl,rfl,dk4,ck4,rfl⟩ hle hm;try simp only[F7] at hm)|(refine V3 ?_ hm (hc:=hpk _ _))|(refine L9 ?_ hm (hc:=hpk _ _);clear hm;intro _ hm)|(refine V3 ?_ hm (hc:=hnR))|(refine L9 ?_ hm (hc:=hnR);clear hm;intro _ hm)|(refine F5 ?_ hm (hc:=hex _ _);clear hm;rintro _ I2 _ _ ⟨⟨ea,ec,xs,rfl,hrow,hexs⟩,da',dc',rfl⟩ hle hm;have hleI2:=hle;try simp only[F7] at hm)|(refine F5 ?_ hm (hc:=A1k r.2 [59] (by simp) (hr.le hleI2) hT (by omega) hg2);clear hm;rintro _ _ _ _ ⟨rfl,rfl,da2,dc2,rfl⟩ hle hm;try simp only[F7] at hm)|(refine V3 ?_ hm (hc:=A2o (r.2.need T [59]).2 (hr.le hleI2) hT hg4))|(refine V6 (d:=2) ?_ hm;clear hm;intro b2 _ hm)|(refine V7 (d:=3) ?_ hm;clear hm;intro b3 _ hm)|refine U5 ?_ hm|refine P8 ?_ hm|(refine N8 ?_ hm;clear hm;intro _ hm;try simp only[F7] at hm)|(refine J6 hm (k:=?_);clear hm;intro _ hm;try simp only[F7] at hm)|(refine A1V ?_ hm;clear hm;intro _ hm;try simp only[F7] at hm)|refine Y9 ?_ hm|refine D7 ?_|refine D5 ?_|refine C9 ?_|refine Q9 ?_|refine D8 ?_|refine A7 ?_|refine D9 ?_|refine E5 ?_|refine A8 ?_|refine E9 ?_|refine G8 ?_|refine O6 ?_|(refine W9 ?_;intro _ hkq;replace hm:=hm.kept0 hkq;clear hkq)|(refine V4 ?_;intro _ hkq;replace hm:=hm.kept0 hkq;clear hkq)|refine F9 ?_|refine F6 ?_|refine U3 ?_|refine A1f ?_|refine V8 ?_|refine A0p ?_|refine A03 ?_|refine O1 ?_|refine J4 ?_|refine A9h ?_|refine H7 ?_|refine A2k ?_|(refine U6 (fun _=>?_) (h1:=fun _=>?_)<;>(try first|contradiction|(exfalso;omega))))
  all_goals try first|omega|contradiction
  exact⟨I2,_,⟨⟨ea,ec,xs,none,0,[],none,0,[],rfl,hrow,hexs,A0M _,.nil,A0M _,.nil⟩,da2,dc2,rfl⟩,hm.left (H:= [_,_])⟩
theorem C0h (hT:Ok T) (hC:A1X I) (hr:A1o I T la lc) (hi:s.i≤T.l.length) (hf:5 *(T.l.length-s.i)+5≤f+1) (hd:s.ds.length+8 *(T.l.length-s.i)+32≤1099511627776) (hdp:deep≤12) (n1:(T.tok s.i).text≠ [108,101,116]) (n2:(T.tok s.i).text≠ [105,102]) (n3:(T.tok s.i).text≠ [119,104,105,108,101]) (n4:(T.tok s.i).text≠ [115,101,110,100]) (n5:(T.tok s.i).text≠ [114,101,116,117,114,110]) (h5:Sp.name (T.tok s.i).text=true) (h6:T.is (s.i+1) [61]=true):
  CalM prog 149 #[ptr pb] I (QSt pb la lc T s deep da dc) (A8A pb la lc T deep (Sp.stm T (f+1) deep s)):=by
 have h2:=hT.size
 have h3:=hT.len
 have h1:=hT.at_ s.i
 have het0:=fun da dc=>A0f (pb:=pb) (deep:=deep) (da:=da) (dc:=dc) s [108,101,116] (by simp) hr hT hi
 rw[Sp.A1x (by exact n1:(T.tok s.i).text≠ [108,101,116]),if_neg (by simp)] at het0
 have het1:=fun da dc=>A0f (pb:=pb) (deep:=deep) (da:=da) (dc:=dc) s [105,102] (by simp) hr hT hi
 rw[Sp.A1x (by exact n2:(T.tok s.i).text≠ [105,102]),if_neg (by simp)] at het1
 have het2:=fun da dc=>A0f (pb:=pb) (deep:=deep) (da:=da) (dc:=dc) s [119,104,105,108,101] (by simp) hr hT hi
 rw[Sp.A1x (by exact n3:(T.tok s.i).text≠ [119,104,105,108,101]),if_neg (by simp)] at het2
 have het3:=fun da dc=>A0f (pb:=pb) (deep:=deep) (da:=da) (dc:=dc) s [115,101,110,100] (by simp) hr hT hi
 rw[Sp.A1x (by exact n4:(T.tok s.i).text≠ [115,101,110,100]),if_neg (by simp)] at het3
 have het4:=fun da dc=>A0f (pb:=pb) (deep:=deep) (da:=da) (dc:=dc) s [114,101,116,117,114,110] (by simp) hr hT hi
 rw[Sp.A1x (by exact n5:(T.tok s.i).text≠ [114,101,116,117,114,110]),if_neg (by simp)] at het4
 have hnR:CalR prog 52 #[str (T.tok s.i).text] I [] (.bool true):=⟨fun w _ _=>by have:=A58 (T.tok s.i).text (by omega) w;rwa [h5] at this⟩
 have hlt:=Sp.is_lt h6
 have htx:=Sp.B0E h6
 have hpk:=fun da dc=>A06 (pb:=pb) (deep:=deep) (da:=da) (dc:=dc) s hr
 have hnm:=fun da dc=>A5z (pb:=pb) (deep:=deep) (da:=da) (dc:=dc) s hr hT (by omega) hi
 rw[Sp.St.named,if_pos h5] at hnm
 have hni:s.next.i=s.i+1:=rfl
 rw[Sp.stm]
 dsimp only
 rw[if_neg n1,if_neg n2,if_neg n3,if_neg n4,if_neg n5,if_pos h5,if_pos h6]
 have hex:=fun da dc=>(A1D T pb hT f).2 I la lc deep da dc s.next.next 1 hC hr (by rw[Sp.J7,Sp.J7];omega) (by rw[Sp.J7,Sp.J7];omega) (by rw[Sp.J7,Sp.J7,Sp.Y3,Sp.Y3];omega) hdp
 have hg:=(Sp.A0c T f).2.2.1 deep 1 s.next.next
 generalize Sp.Y2 T f deep 1 s.next.next=r at hex hg ⊢
 have hg1:=hg.le
 have hg2:=hg.top (by rw[Sp.J7,Sp.J7];omega)
 have hg3:=hg.ds
 rw[Sp.J7,Sp.J7] at hg1 hg3
 rw[Sp.Y3,Sp.Y3] at hg3
 have hg4:=(Sp.X6 T r.2 [59]).top hg2
 refine CalM.of fun w E hm=>enter (N:=154) func149 rfl [(0,ptr pb)] Z4 rfl ?_
 repeat' (first|(refine L9 ?_ hm (hc:=A0k s hr);clear hm;intro _ hm)|(refine Q5 (id:=38) 5 (h:=?_))|(refine A5A (by rfl) (by rfl) (by rfl) (by rfl) ?_)|(refine F5 ?_ hm (hc:=het0 _ _);clear hm;rintro _ _ _ _ ⟨rfl,rfl,dk0,ck0,rfl⟩ hle hm;try simp only[F7] at hm)|(refine F5 ?_ hm (hc:=het1 _ _);clear hm;rintro _ _ _ _ ⟨rfl,rfl,dk1,ck1,rfl⟩ hle hm;try simp only[F7] at hm)|(refine F5 ?_ hm (hc:=het2 _ _);clear hm;rintro _ _ _ _ ⟨rfl,rfl,dk2,ck2,rfl⟩ hle hm;try simp only[F7] at hm)|(refine F5 ?_ hm (hc:=het3 _ _);clear hm;rintro _ _ _ _ ⟨rfl,rfl,dk3,ck3,rfl⟩ hle hm;try simp only[F7] at hm)|(refine F5 ?_ hm (hc:=het4 _ _);clear hm;rintro _ _ _ _ ⟨rfl,rfl,dk4,ck4,rfl⟩ hle hm;try simp only[F7] at hm)|(refine V3 ?_ hm (hc:=hpk _ _))|(refine V3 ?_ hm (hc:=hnR))|(refine A0n (enc:=A1Q) (z:=T.tok (s.i+1)) ?_ (hr:=by exact hr) (he:=by intro _;rfl) (hz:=by rw[show ((s.i:Int)+1).toNat=s.i+1 by omega];exact A14 (by omega));intro b9 o9 hp9)|(refine F5 ?_ hm (hc:=hnm _ _);clear hm;rintro _ _ _ _ ⟨rfl,rfl,da1,dc1,rfl⟩ hle hm;try simp only[F7] at hm)|(refine F5 ?_ hm (hc:=hex _ _);clear hm;rintro _ I2 _ _ ⟨⟨ea,ec,xs,rfl,hrow,hexs⟩,da',dc',rfl⟩ hle hm;have hleI2:=hle;try simp only[F7] at hm)|(refine F5 ?_ hm (hc:=A1k r.2 [59] (by simp) (hr.le hleI2) hT (by omega) hg2);clear hm;rintro _ _ _ _ ⟨rfl,rfl,da2,dc2,rfl⟩ hle hm;try simp only[F7] at hm)|(refine V3 ?_ hm (hc:=A2o (r.2.need T [59]).2 (hr.le hleI2) hT hg4))|(refine V6 (d:=2) ?_ hm;clear hm;intro b2 _ hm)|(refine V7 (d:=3) ?_ hm;clear hm;intro b3 _ hm)|refine H6 ?_ hm|refine U5 ?_ hm|refine P8 ?_ hm|refine X8 ?_ hm|(refine N8 ?_ hm;clear hm;intro _ hm;try simp only[F7] at hm)|(refine J6 hm (k:=?_);clear hm;intro _ hm;try simp only[F7] at hm)|(refine A1V ?_ hm;clear hm;intro _ hm;try simp only[F7] at hm)|refine Y9 ?_ hm|refine D7 ?_|refine D5 ?_|refine E8 ?_|refine Q4 ?_|refine C9 ?_|refine Q9 ?_|refine D8 ?_|refine A7 ?_|refine D9 ?_|refine E5 ?_|refine A8 ?_|refine E9 ?_|refine G8 ?_|refine O6 ?_|(refine W9 ?_;intro _ hkq;replace hm:=hm.kept0 hkq;clear hkq)|(refine V4 ?_;intro _ hkq;replace hm:=hm.kept0 hkq;clear hkq)|refine F6 ?_|(refine D6 (ht:=fun _=>?_) (hf:=fun _=>?_)<;>(try first|contradiction|(exfalso;omega)))|refine U3 ?_|refine A1f ?_|refine V8 ?_|refine A03 ?_|refine A5Q ?_|refine O1 ?_|refine J4 ?_|refine A9h ?_|refine H7 ?_|(refine U6 (fun _=>?_) (h1:=fun _=>?_)<;>(try first|contradiction|(exfalso;omega))))
 all_goals try first|omega|contradiction
 exact⟨I2,_,⟨⟨ea,ec,xs,none,0,[],none,0,[],rfl,hrow,hexs,A0M _,.nil,A0M _,.nil⟩,da2,dc2,rfl⟩,hm.left (H:= [_,_])⟩
theorem B8S (hT:Ok T) (hC:A1X I) (hr:A1o I T la lc) (hi:s.i≤T.l.length) (hf:5 *(T.l.length-s.i)+5≤f+1) (hd:s.ds.length+8 *(T.l.length-s.i)+32≤1099511627776) (hdp:deep≤12) (h5:(T.tok s.i).text= [114,101,116,117,114,110]):
  CalM prog 149 #[ptr pb] I (QSt pb la lc T s deep da dc) (A8A pb la lc T deep (Sp.stm T (f+1) deep s)):=by
 have h2:=hT.size
 have h3:=hT.len
 have h1:=hT.at_ s.i
 have hlt:s.i<T.l.length:=Sp.A0W (by rw[h5];simp)
 have het0:=fun da dc=>A0f (pb:=pb) (deep:=deep) (da:=da) (dc:=dc) s [108,101,116] (by simp) hr hT hi
 rw[Sp.A1x (by rw[h5];simp:(T.tok s.i).text≠ [108,101,116]),if_neg (by simp)] at het0
 have het1:=fun da dc=>A0f (pb:=pb) (deep:=deep) (da:=da) (dc:=dc) s [105,102] (by simp) hr hT hi
 rw[Sp.A1x (by rw[h5];simp:(T.tok s.i).text≠ [105,102]),if_neg (by simp)] at het1
 have het2:=fun da dc=>A0f (pb:=pb) (deep:=deep) (da:=da) (dc:=dc) s [119,104,105,108,101] (by simp) hr hT hi
 rw[Sp.A1x (by rw[h5];simp:(T.tok s.i).text≠ [119,104,105,108,101]),if_neg (by simp)] at het2
 have het3:=fun da dc=>A0f (pb:=pb) (deep:=deep) (da:=da) (dc:=dc) s [115,101,110,100] (by simp) hr hT hi
 rw[Sp.A1x (by rw[h5];simp:(T.tok s.i).text≠ [115,101,110,100]),if_neg (by simp)] at het3
 have het4:=fun da dc=>A0f (pb:=pb) (deep:=deep) (da:=da) (dc:=dc) s [114,101,116,117,114,110] (by simp) hr hT hi
 rw[Sp.A5Z h5 (by simp),if_pos (by rfl)] at het4
 rw[Sp.stm]
 dsimp only
 rw[h5,if_neg (by decide),if_neg (by decide),if_neg (by decide),if_neg (by decide),if_pos rfl]
 have hex:=fun da dc=>(A1D T pb hT f).2 I la lc deep da dc s.next 1 hC hr (by rw[Sp.J7];omega) (by rw[Sp.J7];omega) (by rw[Sp.J7,Sp.Y3];omega) hdp
 have hg:=(Sp.A0c T f).2.2.1 deep 1 s.next
 generalize Sp.Y2 T f deep 1 s.next=r at hex hg ⊢
 have hg1:=hg.le
 have hg2:=hg.top (by rw[Sp.J7];omega)
 have hg3:=hg.ds
 rw[Sp.J7] at hg1 hg3
 rw[Sp.Y3] at hg3
 have hg4:=(Sp.X6 T r.2 [59]).top hg2
 refine CalM.of fun w E hm=>enter (N:=154) func149 rfl [(0,ptr pb)] Z4 rfl ?_
 repeat' (first|(refine L9 ?_ hm (hc:=A0k s hr);clear hm;intro _ hm)|(refine Q5 (id:=38) 5 (h:=?_))|(refine A5A (by rfl) (by rfl) (by rfl) (by rfl) ?_)|(refine F5 ?_ hm (hc:=het0 _ _);clear hm;rintro _ _ _ _ ⟨rfl,rfl,dk0,ck0,rfl⟩ hle hm;try simp only[F7] at hm)|(refine F5 ?_ hm (hc:=het1 _ _);clear hm;rintro _ _ _ _ ⟨rfl,rfl,dk1,ck1,rfl⟩ hle hm;try simp only[F7] at hm)|(refine F5 ?_ hm (hc:=het2 _ _);clear hm;rintro _ _ _ _ ⟨rfl,rfl,dk2,ck2,rfl⟩ hle hm;try simp only[F7] at hm)|(refine F5 ?_ hm (hc:=het3 _ _);clear hm;rintro _ _ _ _ ⟨rfl,rfl,dk3,ck3,rfl⟩ hle hm;try simp only[F7] at hm)|(refine F5 ?_ hm (hc:=het4 _ _);clear hm;rintro _ _ _ _ ⟨rfl,rfl,dk4,ck4,rfl⟩ hle hm;try simp only[F7] at hm)|(refine F5 ?_ hm (hc:=hex _ _);clear hm;rintro _ I2 _ _ ⟨⟨ea,ec,xs,rfl,hrow,hexs⟩,da',dc',rfl⟩ hle hm;have hleI2:=hle;try simp only[F7] at hm)|(refine F5 ?_ hm (hc:=A1k r.2 [59] (by simp) (hr.le hleI2) hT (by omega) hg2);clear hm;rintro _ _ _ _ ⟨rfl,rfl,da2,dc2,rfl⟩ hle hm;try simp only[F7] at hm)|(refine V3 ?_ hm (hc:=A2o (r.2.need T [59]).2 (hr.le hleI2) hT hg4))|(refine V6 (d:=2) ?_ hm;clear hm;intro b2 _ hm)|(refine V7 (d:=3) ?_ hm;clear hm;intro b3 _ hm)|refine U5 ?_ hm|refine P8 ?_ hm|(refine N8 ?_ hm;clear hm;intro _ hm;try simp only[F7] at hm)|(refine J6 hm (k:=?_);clear hm;intro _ hm;try simp only[F7] at hm)|(refine A1V ?_ hm;clear hm;intro _ hm;try simp only[F7] at hm)|refine Y9 ?_ hm|refine D7 ?_|refine D5 ?_|refine C9 ?_|refine Q9 ?_|refine D8 ?_|refine A7 ?_|refine D9 ?_|refine E5 ?_|refine A8 ?_|refine E9 ?_|refine G8 ?_|(refine V4 ?_;intro _ hkq;replace hm:=hm.kept0 hkq;clear hkq)|refine F9 ?_|refine F6 ?_|refine U3 ?_|refine H7 ?_)
 all_goals try first|omega|contradiction
 exact⟨I2,_,⟨⟨ea,ec,xs,none,0,[],none,0,[],rfl,hrow,hexs,A0M _,.nil,A0M _,.nil⟩,da2,dc2,rfl⟩,hm.left (H:= [_,_])⟩
theorem B8V (hT:Ok T) (hC:A1X I) (hr:A1o I T la lc) (hi:s.i≤T.l.length) (hf:5 *(T.l.length-s.i)+5≤f+1) (hd:s.ds.length+8 *(T.l.length-s.i)+32≤1099511627776) (hdp:deep≤12) (h5:(T.tok s.i).text= [115,101,110,100]):
  CalM prog 149 #[ptr pb] I (QSt pb la lc T s deep da dc) (A8A pb la lc T deep (Sp.stm T (f+1) deep s)):=by
 have h2:=hT.size
 have h3:=hT.len
 have h1:=hT.at_ s.i
 have hlt:s.i<T.l.length:=Sp.A0W (by rw[h5];simp)
 have het0:=fun da dc=>A0f (pb:=pb) (deep:=deep) (da:=da) (dc:=dc) s [108,101,116] (by simp) hr hT hi
 rw[Sp.A1x (by rw[h5];simp:(T.tok s.i).text≠ [108,101,116]),if_neg (by simp)] at het0
 have het1:=fun da dc=>A0f (pb:=pb) (deep:=deep) (da:=da) (dc:=dc) s [105,102] (by simp) hr hT hi
 rw[Sp.A1x (by rw[h5];simp:(T.tok s.i).text≠ [105,102]),if_neg (by simp)] at het1
 have het2:=fun da dc=>A0f (pb:=pb) (deep:=deep) (da:=da) (dc:=dc) s [119,104,105,108,101] (by simp) hr hT hi
 rw[Sp.A1x (by rw[h5];simp:(T.tok s.i).text≠ [119,104,105,108,101]),if_neg (by simp)] at het2
 have het3:=fun da dc=>A0f (pb:=pb) (deep:=deep) (da:=da) (dc:=dc) s [115,101,110,100] (by simp) hr hT hi
 rw[Sp.A5Z h5 (by simp),if_pos (by rfl)] at het3
 have hnm:=fun da dc=>A5z (pb:=pb) (deep:=deep) (da:=da) (dc:=dc) s.next hr hT (by rw[Sp.Y3];omega) (by rw[Sp.J7];omega)
 have hgn:=Sp.A0q T s.next
 rw[Sp.stm]
 dsimp only
 rw[h5,if_neg (by decide),if_neg (by decide),if_neg (by decide),if_pos rfl]
 generalize s.next.named T=q at hnm hgn ⊢
 have hq1:=hgn.le
 have hq2:=hgn.top (by rw[Sp.J7];omega)
 have hq3:=hgn.ds
 rw[Sp.J7] at hq1 hq3
 rw[Sp.Y3] at hq3
 have hex:=fun da dc=>(A1D T pb hT f).2 I la lc deep da dc q.2 1 hC hr (by omega) (by omega) (by omega) hdp
 have hg:=(Sp.A0c T f).2.2.1 deep 1 q.2
 generalize Sp.Y2 T f deep 1 q.2=r at hex hg ⊢
 have hg1:=hg.le
 have hg2:=hg.top (by omega)
 have hg3:=hg.ds
 have hg4:=(Sp.X6 T r.2 [59]).top hg2
 refine CalM.of fun w E hm=>enter (N:=154) func149 rfl [(0,ptr pb)] Z4 rfl ?_
 repeat' (first|(refine L9 ?_ hm (hc:=A0k s hr);clear hm;intro _ hm)|(refine Q5 (id:=38) 5 (h:=?_))|(refine A5A (by rfl) (by rfl) (by rfl) (by rfl) ?_)|(refine F5 ?_ hm (hc:=het0 _ _);clear hm;rintro _ _ _ _ ⟨rfl,rfl,dk0,ck0,rfl⟩ hle hm;try simp only[F7] at hm)|(refine F5 ?_ hm (hc:=het1 _ _);clear hm;rintro _ _ _ _ ⟨rfl,rfl,dk1,ck1,rfl⟩ hle hm;try simp only[F7] at hm)|(refine F5 ?_ hm (hc:=het2 _ _);clear hm;rintro _ _ _ _ ⟨rfl,rfl,dk2,ck2,rfl⟩ hle hm;try simp only[F7] at hm)|(refine F5 ?_ hm (hc:=het3 _ _);clear hm;rintro _ _ _ _ ⟨rfl,rfl,dk3,ck3,rfl⟩ hle hm;try simp only[F7] at hm)|(refine L9 ?_ hm (hc:=A0k s.next hr);clear hm;intro _ hm)|(refine F5 ?_ hm (hc:=hnm _ _);clear hm;rintro _ _ _ _ ⟨rfl,rfl,da1,dc1,rfl⟩ hle hm;try simp only[F7] at hm)|(refine F5 ?_ hm (hc:=hex _ _);clear hm;rintro _ I2 _ _ ⟨⟨ea,ec,xs,rfl,hrow,hexs⟩,da',dc',rfl⟩ hle hm;have hleI2:=hle;try simp only[F7] at hm)|(refine F5 ?_ hm (hc:=A1k r.2 [59] (by simp) (hr.le hleI2) hT (by omega) hg2);clear hm;rintro _ _ _ _ ⟨rfl,rfl,da2,dc2,rfl⟩ hle hm;try simp only[F7] at hm)|(refine V3 ?_ hm (hc:=A2o (r.2.need T [59]).2 (hr.le hleI2) hT hg4))|(refine V6 (d:=2) ?_ hm;clear hm;intro b2 _ hm)|(refine V7 (d:=3) ?_ hm;clear hm;intro b3 _ hm)|refine U5 ?_ hm|refine P8 ?_ hm|(refine N8 ?_ hm;clear hm;intro _ hm;try simp only[F7] at hm)|(refine J6 hm (k:=?_);clear hm;intro _ hm;try simp only[F7] at hm)|(refine A1V ?_ hm;clear hm;intro _ hm;try simp only[F7] at hm)|refine Y9 ?_ hm|refine D7 ?_|refine D5 ?_|refine C9 ?_|refine Q9 ?_|refine D8 ?_|refine A7 ?_|refine D9 ?_|refine E5 ?_|refine A8 ?_|refine E9 ?_|refine G8 ?_|(refine V4 ?_;intro _ hkq;replace hm:=hm.kept0 hkq;clear hkq)|refine F9 ?_|refine F6 ?_|refine U3 ?_|refine H7 ?_)
 all_goals try first|omega|contradiction
 exact⟨I2,_,⟨⟨ea,ec,xs,none,0,[],none,0,[],rfl,hrow,hexs,A0M _,.nil,A0M _,.nil⟩,da2,dc2,rfl⟩,hm.left (H:= [_,_])⟩
end
section
variable {T:Sp.Src}{pb f:Nat}{I:O5}{la:Option Addr}{lc deep:Nat}{da:Option Addr}{dc:Nat}{s:Sp.St}
theorem B8U (hT:Ok T) (hC:A1X I) (hr:A1o I T la lc) (hi:s.i≤T.l.length) (hf:5 *(T.l.length-s.i)+5≤f+1) (hd:s.ds.length+8 *(T.l.length-s.i)+32≤1099511627776) (hdp:deep≤12) (h5:(T.tok s.i).text= [108,101,116]) (h6:T.is (s.next.named T).2.i [58]=true):
  CalM prog 149 #[ptr pb] I (QSt pb la lc T s deep da dc) (A8A pb la lc T deep (Sp.stm T (f+1) deep s)):=by
 have h2:=hT.size
 have h3:=hT.len
 have h1:=hT.at_ s.i
 have hlt:s.i<T.l.length:=Sp.A0W (by rw[h5];simp)
 have het0:=fun da dc=>A0f (pb:=pb) (deep:=deep) (da:=da) (dc:=dc) s [108,101,116] (by simp) hr hT hi
 rw[Sp.A5Z h5 (by simp),if_pos (by rfl)] at het0
 have hnm:=fun da dc=>A5z (pb:=pb) (deep:=deep) (da:=da) (dc:=dc) s.next hr hT (by rw[Sp.Y3];omega) (by rw[Sp.J7];omega)
 have hgn:=Sp.A0q T s.next
 rw[Sp.stm]
 dsimp only
 rw[h5,if_pos rfl]
 generalize s.next.named T=q at hnm hgn h6 ⊢
 have hq1:=hgn.le
 have hq2:=hgn.top (by rw[Sp.J7];omega)
 have hq3:=hgn.ds
 rw[Sp.J7] at hq1 hq3
 rw[Sp.Y3] at hq3
 have hec:=fun da dc=>A0f (pb:=pb) (deep:=deep) (da:=da) (dc:=dc) q.2 [58] (by simp) hr hT hq2
 rw[h6] at hec
 have hlc:=Sp.is_lt h6
 rw[if_pos (by rfl)] at hec
 rw[h6,if_neg (by simp)]
 have hlab:=fun da dc=>A8p (pb:=pb) (deep:=deep) (da:=da) (dc:=dc) q.2.next hr hT (by rw[Sp.J7];omega) (by rw[Sp.J7,Sp.Y3];omega)
 have hgl:=Sp.A2i T q.2.next
 generalize Sp.lab T q.2.next=lb at hlab hgl ⊢
 have hl1:=hgl.le
 have hl2:=hgl.top (by rw[Sp.J7];omega)
 have hl3:=hgl.ds
 rw[Sp.J7] at hl1 hl3
 rw[Sp.Y3] at hl3
 have hnd:=fun da dc=>A1k (pb:=pb) (deep:=deep) (da:=da) (dc:=dc) lb.2 [61] (by simp) hr hT (by omega) (by omega)
 have hge:=Sp.X6 T lb.2 [61]
 generalize lb.2.need T [61]=e at hnd hge ⊢
 have he1:=hge.le
 have he2:=hge.top (by omega)
 have he3:=hge.ds
 have hex:=fun da dc=>(A1D T pb hT f).2 I la lc deep da dc e.2 1 hC hr (by omega) (by omega) (by omega) hdp
 have hg:=(Sp.A0c T f).2.2.1 deep 1 e.2
 generalize Sp.Y2 T f deep 1 e.2=r at hex hg ⊢
 have hg1:=hg.le
 have hg2:=hg.top (by omega)
 have hg3:=hg.ds
 have hg4:=(Sp.X6 T r.2 [59]).top hg2
 refine CalM.of fun w E hm=>enter (N:=154) func149 rfl [(0,ptr pb)] Z4 rfl ?_
 repeat' (first|(refine L9 ?_ hm (hc:=A0k s hr);clear hm;intro _ hm)|(refine Q5 (id:=38) 5 (h:=?_))|(refine A5A (by rfl) (by rfl) (by rfl) (by rfl) ?_)|(refine F5 ?_ hm (hc:=het0 _ _);clear hm;rintro _ _ _ _ ⟨rfl,rfl,dk0,ck0,rfl⟩ hle hm;try simp only[F7] at hm)|(refine L9 ?_ hm (hc:=A0k s.next hr);clear hm;intro _ hm)|(refine F5 ?_ hm (hc:=hnm _ _);clear hm;rintro _ _ _ _ ⟨rfl,rfl,da1,dc1,rfl⟩ hle hm;try simp only[F7] at hm)|(refine F5 ?_ hm (hc:=hec _ _);clear hm;rintro _ _ _ _ ⟨rfl,rfl,da5,dc5,rfl⟩ hle hm;try simp only[F7] at hm)|(refine F5 ?_ hm (hc:=hlab _ _);clear hm;rintro _ _ _ _ ⟨rfl,rfl,da3,dc3,rfl⟩ hle hm;try simp only[F7] at hm)|(refine F5 ?_ hm (hc:=hnd _ _);clear hm;rintro _ _ _ _ ⟨rfl,rfl,da4,dc4,rfl⟩ hle hm;try simp only[F7] at hm)|(refine F5 ?_ hm (hc:=hex _ _);clear hm;rintro _ I2 _ _ ⟨⟨ea,ec,xs,rfl,hrow,hexs⟩,da',dc',rfl⟩ hle hm;have hleI2:=hle;try simp only[F7] at hm)|(refine F5 ?_ hm (hc:=A1k r.2 [59] (by simp) (hr.le hleI2) hT (by omega) hg2);clear hm;rintro _ _ _ _ ⟨rfl,rfl,da2,dc2,rfl⟩ hle hm;try simp only[F7] at hm)|(refine V3 ?_ hm (hc:=A2o (r.2.need T [59]).2 (hr.le hleI2) hT hg4))|(refine V6 (d:=2) ?_ hm;clear hm;intro b2 _ hm)|(refine V7 (d:=3) ?_ hm;clear hm;intro b3 _ hm)|refine H6 ?_ hm|refine U5 ?_ hm|refine P8 ?_ hm|(refine N8 ?_ hm;clear hm;intro _ hm;try simp only[F7] at hm)|(refine J6 hm (k:=?_);clear hm;intro _ hm;try simp only[F7] at hm)|(refine A1V ?_ hm;clear hm;intro _ hm;try simp only[F7] at hm)|refine Y9 ?_ hm|refine D7 ?_|refine D5 ?_|refine U9 ?_|refine C9 ?_|refine Q9 ?_|refine D8 ?_|refine A7 ?_|refine D9 ?_|refine E5 ?_|refine A8 ?_|refine E9 ?_|refine G8 ?_|(refine V4 ?_;intro _ hkq;replace hm:=hm.kept0 hkq;clear hkq)|refine F9 ?_|refine U3 ?_|refine H7 ?_)
 all_goals try first|omega|contradiction
 exact⟨I2,_,⟨⟨ea,ec,xs,none,0,[],none,0,[],rfl,hrow,hexs,A0M _,.nil,A0M _,.nil⟩,da2,dc2,rfl⟩,hm.left (H:= [_,_])⟩
theorem B8T (hT:Ok T) (hC:A1X I) (hr:A1o I T la lc) (hi:s.i≤T.l.length) (hf:5 *(T.l.length-s.i)+5≤f+1) (hd:s.ds.length+8 *(T.l.length-s.i)+32≤1099511627776) (hdp:deep≤12) (h5:(T.tok s.i).text= [108,101,116]) (h6:T.is (s.next.named T).2.i [58]=false):
  CalM prog 149 #[ptr pb] I (QSt pb la lc T s deep da dc) (A8A pb la lc T deep (Sp.stm T (f+1) deep s)):=by
 have h2:=hT.size
 have h3:=hT.len
 have h1:=hT.at_ s.i
 have hlt:s.i<T.l.length:=Sp.A0W (by rw[h5];simp)
 have het0:=fun da dc=>A0f (pb:=pb) (deep:=deep) (da:=da) (dc:=dc) s [108,101,116] (by simp) hr hT hi
 rw[Sp.A5Z h5 (by simp),if_pos (by rfl)] at het0
 have hnm:=fun da dc=>A5z (pb:=pb) (deep:=deep) (da:=da) (dc:=dc) s.next hr hT (by rw[Sp.Y3];omega) (by rw[Sp.J7];omega)
 have hgn:=Sp.A0q T s.next
 rw[Sp.stm]
 dsimp only
 rw[h5,if_pos rfl]
 generalize s.next.named T=q at hnm hgn h6 ⊢
 have hq1:=hgn.le
 have hq2:=hgn.top (by rw[Sp.J7];omega)
 have hq3:=hgn.ds
 rw[Sp.J7] at hq1 hq3
 rw[Sp.Y3] at hq3
 have hec:=fun da dc=>A0f (pb:=pb) (deep:=deep) (da:=da) (dc:=dc) q.2 [58] (by simp) hr hT hq2
 rw[h6] at hec
 rw[if_neg (by simp)] at hec
 rw[h6,if_pos (by rfl)]
 have hnd:=fun da dc=>A1k (pb:=pb) (deep:=deep) (da:=da) (dc:=dc) q.2 [61] (by simp) hr hT (by omega) (by omega)
 have hge:=Sp.X6 T q.2 [61]
 generalize q.2.need T [61]=e at hnd hge ⊢
 have he1:=hge.le
 have he2:=hge.top (by omega)
 have he3:=hge.ds
 have hex:=fun da dc=>(A1D T pb hT f).2 I la lc deep da dc e.2 1 hC hr (by omega) (by omega) (by omega) hdp
 have hg:=(Sp.A0c T f).2.2.1 deep 1 e.2
 generalize Sp.Y2 T f deep 1 e.2=r at hex hg ⊢
 have hg1:=hg.le
 have hg2:=hg.top (by omega)
 have hg3:=hg.ds
 have hg4:=(Sp.X6 T r.2 [59]).top hg2
 refine CalM.of fun w E hm=>enter (N:=154) func149 rfl [(0,ptr pb)] Z4 rfl ?_
 repeat' (first|(refine L9 ?_ hm (hc:=A0k s hr);clear hm;intro _ hm)|(refine Q5 (id:=38) 5 (h:=?_))|(refine A5A (by rfl) (by rfl) (by rfl) (by rfl) ?_)|(refine F5 ?_ hm (hc:=het0 _ _);clear hm;rintro _ _ _ _ ⟨rfl,rfl,dk0,ck0,rfl⟩ hle hm;try simp only[F7] at hm)|(refine L9 ?_ hm (hc:=A0k s.next hr);clear hm;intro _ hm)|(refine F5 ?_ hm (hc:=hnm _ _);clear hm;rintro _ _ _ _ ⟨rfl,rfl,da1,dc1,rfl⟩ hle hm;try simp only[F7] at hm)|(refine F5 ?_ hm (hc:=hec _ _);clear hm;rintro _ _ _ _ ⟨rfl,rfl,da5,dc5,rfl⟩ hle hm;try simp only[F7] at hm)|(refine F5 ?_ hm (hc:=hnd _ _);clear hm;rintro _ _ _ _ ⟨rfl,rfl,da4,dc4,rfl⟩ hle hm;try simp only[F7] at hm)|(refine F5 ?_ hm (hc:=hex _ _);clear hm;rintro _ I2 _ _ ⟨⟨ea,ec,xs,rfl,hrow,hexs⟩,da',dc',rfl⟩ hle hm;have hleI2:=hle;try simp only[F7] at hm)|(refine F5 ?_ hm (hc:=A1k r.2 [59] (by simp) (hr.le hleI2) hT (by omega) hg2);clear hm;rintro _ _ _ _ ⟨rfl,rfl,da2,dc2,rfl⟩ hle hm;try simp only[F7] at hm)|(refine V3 ?_ hm (hc:=A2o (r.2.need T [59]).2 (hr.le hleI2) hT hg4))|(refine V6 (d:=2) ?_ hm;clear hm;intro b2 _ hm)|(refine V7 (d:=3) ?_ hm;clear hm;intro b3 _ hm)|refine H6 ?_ hm|refine U5 ?_ hm|refine P8 ?_ hm|(refine N8 ?_ hm;clear hm;intro _ hm;try simp only[F7] at hm)|(refine J6 hm (k:=?_);clear hm;intro _ hm;try simp only[F7] at hm)|(refine A1V ?_ hm;clear hm;intro _ hm;try simp only[F7] at hm)|refine Y9 ?_ hm|refine D7 ?_|refine D5 ?_|refine U9 ?_|refine C9 ?_|refine Q9 ?_|refine D8 ?_|refine A7 ?_|refine D9 ?_|refine E5 ?_|refine A8 ?_|refine E9 ?_|refine F8 ?_|refine G8 ?_|(refine V4 ?_;intro _ hkq;replace hm:=hm.kept0 hkq;clear hkq)|refine F9 ?_|refine F6 ?_|refine U3 ?_|refine H7 ?_)
 all_goals try first|omega|contradiction
 exact⟨I2,_,⟨⟨ea,ec,xs,none,0,[],none,0,[],rfl,hrow,hexs,A0M _,.nil,A0M _,.nil⟩,da2,dc2,rfl⟩,hm.left (H:= [_,_])⟩
theorem C0g (hT:Ok T) (hC:A1X I) (hr:A1o I T la lc) (hi:s.i≤T.l.length) (hf:5 *(T.l.length-s.i)+5≤f+1) (hd:s.ds.length+8 *(T.l.length-s.i)+32≤1099511627776) (hdp:deep≤12) (ihb:∀g,g≤f→A55 T pb g) (h5:(T.tok s.i).text= [105,102]) (h6:T.is (Sp.block T f deep (Sp.Y2 T f deep 1 s.next).2).2.i [101,108,115,101]=true):
  CalM prog 149 #[ptr pb] I (QSt pb la lc T s deep da dc) (A8A pb la lc T deep (Sp.stm T (f+1) deep s)):=by
 have h2:=hT.size
 have h3:=hT.len
 have h1:=hT.at_ s.i
 have hlt:s.i<T.l.length:=Sp.A0W (by rw[h5];simp)
 have het0:=fun da dc=>A0f (pb:=pb) (deep:=deep) (da:=da) (dc:=dc) s [108,101,116] (by simp) hr hT hi
 rw[Sp.A1x (by rw[h5];simp:(T.tok s.i).text≠ [108,101,116]),if_neg (by simp)] at het0
 have het1:=fun da dc=>A0f (pb:=pb) (deep:=deep) (da:=da) (dc:=dc) s [105,102] (by simp) hr hT hi
 rw[Sp.A5Z h5 (by simp),if_pos (by rfl)] at het1
 have hex:=fun da dc=>(A1D T pb hT f).2 I la lc deep da dc s.next 1 hC hr (by rw[Sp.J7];omega) (by rw[Sp.J7];omega) (by rw[Sp.J7,Sp.Y3];omega) hdp
 have hg:=(Sp.A0c T f).2.2.1 deep 1 s.next
 rw[Sp.stm]
 dsimp only
 rw[h5,if_neg (by decide),if_pos rfl]
 generalize Sp.Y2 T f deep 1 s.next=r at hex hg h6 ⊢
 have hg1:=hg.le
 have hg2:=hg.top (by rw[Sp.J7];omega)
 have hg3:=hg.ds
 rw[Sp.J7] at hg1 hg3
 rw[Sp.Y3] at hg3
 have hbl:=fun I (hC:A1X I) (hr:A1o I T la lc) da dc=>ihb f (Nat.le_refl _) I la lc deep da dc r.2 hC hr hg2 (by omega) (by omega) hdp
 have hgb:=(Sp.A0N T f).1 deep r.2
 generalize Sp.block T f deep r.2=b at hbl hgb h6 ⊢
 have hb1:=hgb.le
 have hb2:=hgb.top hg2
 have hb3:=hgb.ds
 have his:=fun I (hr:A1o I T la lc) da dc=>A0f (I:=I) (pb:=pb) (deep:=deep) (da:=da) (dc:=dc) b.2 [101,108,115,101] (by simp) hr hT hb2
 rw[h6] at his ⊢
 have hle':=Sp.is_lt h6
 rw[if_pos rfl] at his ⊢
 have hel:=fun I (hC:A1X I) (hr:A1o I T la lc) da dc=>ihb f (Nat.le_refl _) I la lc deep da dc b.2.next hC hr (by rw[Sp.J7];omega) (by rw[Sp.J7];omega) (by rw[Sp.J7,Sp.Y3];omega) hdp
 have hge:=(Sp.A0N T f).1 deep b.2.next
 generalize Sp.block T f deep b.2.next=c at hel hge ⊢
 have he1:=hge.le
 have he2:=hge.top (by rw[Sp.J7];omega)
 have he3:=hge.ds
 refine CalM.of fun w E hm=>enter (N:=154) func149 rfl [(0,ptr pb)] Z4 rfl ?_
 repeat' (first|(refine L9 ?_ hm (hc:=A0k s hr);clear hm;intro _ hm)|(refine Q5 (id:=38) 5 (h:=?_))|(refine A5A (by rfl) (by rfl) (by rfl) (by rfl) ?_)|(refine F5 ?_ hm (hc:=het0 _ _);clear hm;rintro _ _ _ _ ⟨rfl,rfl,dk0,ck0,rfl⟩ hle hm;try simp only[F7] at hm)|(refine F5 ?_ hm (hc:=het1 _ _);clear hm;rintro _ _ _ _ ⟨rfl,rfl,dk1,ck1,rfl⟩ hle hm;try simp only[F7] at hm)|(refine F5 ?_ hm (hc:=hex _ _);clear hm;rintro _ I2 _ _ ⟨⟨ea,ec,xs,rfl,hrow,hexs⟩,da',dc',rfl⟩ hle hm;have hleI2:=hle;try simp only[F7] at hm)|(refine F5 (d:=50) ?_ hm (hc:=hel I3 (hC.le (hleI2.trans hleI3)) (hr.le (hleI2.trans hleI3)) _ _);clear hm;rintro _ I4 _ _ ⟨⟨a4,c4,xs4,rfl,hrow4,hsts4⟩,da4,dc4,rfl⟩ hle hm;have hleI4:=hle;try simp only[F7] at hm)|(refine F5 (d:=45) ?_ hm (hc:=hbl I2 (hC.le hleI2) (hr.le hleI2) _ _);clear hm;rintro _ I3 _ _ ⟨⟨a3,c3,xs3,rfl,hrow3,hsts3⟩,da3,dc3,rfl⟩ hle hm;have hleI3:=hle;try simp only[F7] at hm)|(refine F5 ?_ hm (hc:=his I3 (hr.le (hleI2.trans hleI3)) _ _);clear hm;rintro _ _ _ _ ⟨rfl,rfl,da6,dc6,rfl⟩ hle hm;try simp only[F7] at hm)|(refine V3 ?_ hm (hc:=A2o c.2 (hr.le ((hleI2.trans hleI3).trans hleI4)) hT he2))|(refine V6 (d:=2) ?_ hm;clear hm;intro b2 _ hm)|(refine V7 (d:=3) ?_ hm;clear hm;intro b3 _ hm)|refine U5 ?_ hm|refine P8 ?_ hm|(refine N8 ?_ hm;clear hm;intro _ hm;try simp only[F7] at hm)|(refine J6 hm (k:=?_);clear hm;intro _ hm;try simp only[F7] at hm)|(refine A1V ?_ hm;clear hm;intro _ hm;try simp only[F7] at hm)|refine Y9 ?_ hm|refine D7 ?_|refine D5 ?_|refine C9 ?_|refine Q9 ?_|refine D8 ?_|refine A7 ?_|refine D9 ?_|refine E5 ?_|refine A8 ?_|refine E9 ?_|refine G8 ?_|(refine V4 ?_;intro _ hkq;replace hm:=hm.kept0 hkq;clear hkq)|refine F9 ?_|refine F6 ?_|refine U3 ?_|refine H7 ?_)
 all_goals try first|omega|contradiction
 exact⟨I4,_,⟨⟨ea,ec,xs,a3,c3,xs3,a4,c4,xs4,rfl,hrow.le (hleI3.trans hleI4),V5.le (hleI3.trans hleI4) _ _ hexs,hrow3.le hleI4,U8.le hleI4 _ _ hsts3,hrow4,hsts4⟩,da4,dc4,rfl⟩,hm.left (H:= [_,_])⟩
theorem C0f (hT:Ok T) (hC:A1X I) (hr:A1o I T la lc) (hi:s.i≤T.l.length) (hf:5 *(T.l.length-s.i)+5≤f+1) (hd:s.ds.length+8 *(T.l.length-s.i)+32≤1099511627776) (hdp:deep≤12) (ihb:∀g,g≤f→A55 T pb g) (h5:(T.tok s.i).text= [105,102]) (h6:T.is (Sp.block T f deep (Sp.Y2 T f deep 1 s.next).2).2.i [101,108,115,101]=false):
  CalM prog 149 #[ptr pb] I (QSt pb la lc T s deep da dc) (A8A pb la lc T deep (Sp.stm T (f+1) deep s)):=by
 have h2:=hT.size
 have h3:=hT.len
 have h1:=hT.at_ s.i
 have hlt:s.i<T.l.length:=Sp.A0W (by rw[h5];simp)
 have het0:=fun da dc=>A0f (pb:=pb) (deep:=deep) (da:=da) (dc:=dc) s [108,101,116] (by simp) hr hT hi
 rw[Sp.A1x (by rw[h5];simp:(T.tok s.i).text≠ [108,101,116]),if_neg (by simp)] at het0
 have het1:=fun da dc=>A0f (pb:=pb) (deep:=deep) (da:=da) (dc:=dc) s [105,102] (by simp) hr hT hi
 rw[Sp.A5Z h5 (by simp),if_pos (by rfl)] at het1
 have hex:=fun da dc=>(A1D T pb hT f).2 I la lc deep da dc s.next 1 hC hr (by rw[Sp.J7];omega) (by rw[Sp.J7];omega) (by rw[Sp.J7,Sp.Y3];omega) hdp
 have hg:=(Sp.A0c T f).2.2.1 deep 1 s.next
 rw[Sp.stm]
 dsimp only
 rw[h5,if_neg (by decide),if_pos rfl]
 generalize Sp.Y2 T f deep 1 s.next=r at hex hg h6 ⊢
 have hg1:=hg.le
 have hg2:=hg.top (by rw[Sp.J7];omega)
 have hg3:=hg.ds
 rw[Sp.J7] at hg1 hg3
 rw[Sp.Y3] at hg3
 have hbl:=fun I (hC:A1X I) (hr:A1o I T la lc) da dc=>ihb f (Nat.le_refl _) I la lc deep da dc r.2 hC hr hg2 (by omega) (by omega) hdp
 have hgb:=(Sp.A0N T f).1 deep r.2
 generalize Sp.block T f deep r.2=b at hbl hgb h6 ⊢
 have hb1:=hgb.le
 have hb2:=hgb.top hg2
 have hb3:=hgb.ds
 have his:=fun I (hr:A1o I T la lc) da dc=>A0f (I:=I) (pb:=pb) (deep:=deep) (da:=da) (dc:=dc) b.2 [101,108,115,101] (by simp) hr hT hb2
 rw[h6] at his ⊢
 rw[if_neg (by simp)] at his ⊢
 refine CalM.of fun w E hm=>enter (N:=154) func149 rfl [(0,ptr pb)] Z4 rfl ?_
 repeat' (first|(refine L9 ?_ hm (hc:=A0k s hr);clear hm;intro _ hm)|(refine Q5 (id:=38) 5 (h:=?_))|(refine A5A (by rfl) (by rfl) (by rfl) (by rfl) ?_)|(refine F5 ?_ hm (hc:=het0 _ _);clear hm;rintro _ _ _ _ ⟨rfl,rfl,dk0,ck0,rfl⟩ hle hm;try simp only[F7] at hm)|(refine F5 ?_ hm (hc:=het1 _ _);clear hm;rintro _ _ _ _ ⟨rfl,rfl,dk1,ck1,rfl⟩ hle hm;try simp only[F7] at hm)|(refine F5 ?_ hm (hc:=hex _ _);clear hm;rintro _ I2 _ _ ⟨⟨ea,ec,xs,rfl,hrow,hexs⟩,da',dc',rfl⟩ hle hm;have hleI2:=hle;try simp only[F7] at hm)|(refine F5 (d:=45) ?_ hm (hc:=hbl I2 (hC.le hleI2) (hr.le hleI2) _ _);clear hm;rintro _ I3 _ _ ⟨⟨a3,c3,xs3,rfl,hrow3,hsts3⟩,da3,dc3,rfl⟩ hle hm;have hleI3:=hle;try simp only[F7] at hm)|(refine F5 ?_ hm (hc:=his I3 (hr.le (hleI2.trans hleI3)) _ _);clear hm;rintro _ _ _ _ ⟨rfl,rfl,da6,dc6,rfl⟩ hle hm;try simp only[F7] at hm)|(refine V3 ?_ hm (hc:=A2o b.2 (hr.le (hleI2.trans hleI3)) hT hb2))|(refine V6 (d:=2) ?_ hm;clear hm;intro b2 _ hm)|(refine V7 (d:=3) ?_ hm;clear hm;intro b3 _ hm)|refine U5 ?_ hm|refine P8 ?_ hm|(refine N8 ?_ hm;clear hm;intro _ hm;try simp only[F7] at hm)|(refine J6 hm (k:=?_);clear hm;intro _ hm;try simp only[F7] at hm)|(refine A1V ?_ hm;clear hm;intro _ hm;try simp only[F7] at hm)|refine Y9 ?_ hm|refine D7 ?_|refine D5 ?_|refine C9 ?_|refine Q9 ?_|refine D8 ?_|refine A7 ?_|refine D9 ?_|refine E5 ?_|refine A8 ?_|refine E9 ?_|refine F8 ?_|refine G8 ?_|(refine V4 ?_;intro _ hkq;replace hm:=hm.kept0 hkq;clear hkq)|refine F9 ?_|refine F6 ?_|refine U3 ?_|refine H7 ?_)
 all_goals try first|omega|contradiction
 exact⟨I3,_,⟨⟨ea,ec,xs,a3,c3,xs3,none,0,[],rfl,hrow.le hleI3,V5.le hleI3 _ _ hexs,hrow3,hsts3,A0M _,.nil⟩,da6,dc6,rfl⟩,hm.left (H:= [_,_])⟩
theorem B7G (hT:Ok T) (hC:A1X I) (hr:A1o I T la lc) (hi:s.i≤T.l.length) (hf:5 *(T.l.length-s.i)+5≤f+1) (hd:s.ds.length+8 *(T.l.length-s.i)+32≤1099511627776) (hdp:deep≤12) (ihb:∀g,g≤f→A55 T pb g) (h5:(T.tok s.i).text= [119,104,105,108,101]):
  CalM prog 149 #[ptr pb] I (QSt pb la lc T s deep da dc) (A8A pb la lc T deep (Sp.stm T (f+1) deep s)):=by
 have h2:=hT.size
 have h3:=hT.len
 have h1:=hT.at_ s.i
 have hlt:s.i<T.l.length:=Sp.A0W (by rw[h5];simp)
 have het0:=fun da dc=>A0f (pb:=pb) (deep:=deep) (da:=da) (dc:=dc) s [108,101,116] (by simp) hr hT hi
 rw[Sp.A1x (by rw[h5];simp:(T.tok s.i).text≠ [108,101,116]),if_neg (by simp)] at het0
 have het1:=fun da dc=>A0f (pb:=pb) (deep:=deep) (da:=da) (dc:=dc) s [105,102] (by simp) hr hT hi
 rw[Sp.A1x (by rw[h5];simp:(T.tok s.i).text≠ [105,102]),if_neg (by simp)] at het1
 have het2:=fun da dc=>A0f (pb:=pb) (deep:=deep) (da:=da) (dc:=dc) s [119,104,105,108,101] (by simp) hr hT hi
 rw[Sp.A5Z h5 (by simp),if_pos (by rfl)] at het2
 have hex:=fun da dc=>(A1D T pb hT f).2 I la lc deep da dc s.next 1 hC hr (by rw[Sp.J7];omega) (by rw[Sp.J7];omega) (by rw[Sp.J7,Sp.Y3];omega) hdp
 have hg:=(Sp.A0c T f).2.2.1 deep 1 s.next
 rw[Sp.stm]
 dsimp only
 rw[h5,if_neg (by decide),if_neg (by decide),if_pos rfl]
 generalize Sp.Y2 T f deep 1 s.next=r at hex hg ⊢
 have hg1:=hg.le
 have hg2:=hg.top (by rw[Sp.J7];omega)
 have hg3:=hg.ds
 rw[Sp.J7] at hg1 hg3
 rw[Sp.Y3] at hg3
 have hbl:=fun I (hC:A1X I) (hr:A1o I T la lc) da dc=>ihb f (Nat.le_refl _) I la lc deep da dc r.2 hC hr hg2 (by omega) (by omega) hdp
 have hgb:=(Sp.A0N T f).1 deep r.2
 generalize Sp.block T f deep r.2=b at hbl hgb ⊢
 have hb1:=hgb.le
 have hb2:=hgb.top hg2
 have hb3:=hgb.ds
 refine CalM.of fun w E hm=>enter (N:=154) func149 rfl [(0,ptr pb)] Z4 rfl ?_
 repeat' (first|(refine L9 ?_ hm (hc:=A0k s hr);clear hm;intro _ hm)|(refine Q5 (id:=38) 5 (h:=?_))|(refine A5A (by rfl) (by rfl) (by rfl) (by rfl) ?_)|(refine F5 ?_ hm (hc:=het0 _ _);clear hm;rintro _ _ _ _ ⟨rfl,rfl,dk0,ck0,rfl⟩ hle hm;try simp only[F7] at hm)|(refine F5 ?_ hm (hc:=het1 _ _);clear hm;rintro _ _ _ _ ⟨rfl,rfl,dk1,ck1,rfl⟩ hle hm;try simp only[F7] at hm)|(refine F5 ?_ hm (hc:=het2 _ _);clear hm;rintro _ _ _ _ ⟨rfl,rfl,dk2,ck2,rfl⟩ hle hm;try simp only[F7] at hm)|(refine F5 ?_ hm (hc:=hex _ _);clear hm;rintro _ I2 _ _ ⟨⟨ea,ec,xs,rfl,hrow,hexs⟩,da',dc',rfl⟩ hle hm;have hleI2:=hle;try simp only[F7] at hm)|(refine F5 (d:=60) ?_ hm (hc:=hbl I2 (hC.le hleI2) (hr.le hleI2) _ _);clear hm;rintro _ I3 _ _ ⟨⟨a3,c3,xs3,rfl,hrow3,hsts3⟩,da3,dc3,rfl⟩ hle hm;have hleI3:=hle;try simp only[F7] at hm)|(refine V3 ?_ hm (hc:=A2o b.2 (hr.le (hleI2.trans hleI3)) hT hb2))|(refine V6 (d:=2) ?_ hm;clear hm;intro b2 _ hm)|(refine V7 (d:=3) ?_ hm;clear hm;intro b3 _ hm)|refine U5 ?_ hm|refine P8 ?_ hm|(refine N8 ?_ hm;clear hm;intro _ hm;try simp only[F7] at hm)|(refine J6 hm (k:=?_);clear hm;intro _ hm;try simp only[F7] at hm)|(refine A1V ?_ hm;clear hm;intro _ hm;try simp only[F7] at hm)|refine Y9 ?_ hm|refine D7 ?_|refine D5 ?_|refine C9 ?_|refine Q9 ?_|refine D8 ?_|refine A7 ?_|refine D9 ?_|refine E5 ?_|refine A8 ?_|refine E9 ?_|refine G8 ?_|(refine V4 ?_;intro _ hkq;replace hm:=hm.kept0 hkq;clear hkq)|refine F9 ?_|refine F6 ?_|refine U3 ?_|refine H7 ?_)
 all_goals try first|omega|contradiction
 exact⟨I3,_,⟨⟨ea,ec,xs,a3,c3,xs3,none,0,[],rfl,hrow.le hleI3,V5.le hleI3 _ _ hexs,hrow3,hsts3,A0M _,.nil⟩,da3,dc3,rfl⟩,hm.left (H:= [_,_])⟩
end
structure QBl where
 f:Nat
 l:List Sp.Stm
 n:Nat
 s:Sp.St
 I:O5
 a:Option Addr
 cp:Nat
 xs:List Value
 da:Option Addr
 dc:Nat
theorem B99 {E:Ent}{N b1 cp lc deep dc pb:Nat}{I:O5}{T:Sp.Src}{la da a:Option Addr}{xs:List Value}{R:List HItem}{l:Log}{w:World}{b:List Sp.Stm}{s':Sp.St} (hdp:deep≤12) (hx:lk l 2=some (.slice a b.length cp))
  (hm:Mem E I (.cell b1 [ptr pb] 175::A3d pb la lc T s' (deep+1) da dc::A15 s'.ds da dc::R) w)
  (hrow:RowI I 109 15 (.slice a b.length cp) b.length xs) (hsts:U8 I b xs):
  At N [⟨.fn (.func 148) #[ptr b1], #[]⟩] (bodyPostD prog Tryz.f118 (Ret (fun v w'=> ∃I' H',C0N pb la lc T deep (b,s') v I' H'∧Mem E I' H' w'))) .ret l w:=
 B1D rfl hx (B97 hdp hm) (fun _w' hm'=>⟨I,_,⟨⟨a,cp,xs,rfl,hrow,hsts⟩,da,dc,rfl⟩,hm'.tl.left (H:= [_,_])⟩)
theorem B0T (T:Sp.Src) (pb:Nat) (hT:Ok T) (n:Nat) (ih:∀g,g<n→B9I T pb g):A55 T pb n:=by
 intro I la lc deep da dc s hC hr hi hf hd hdp
 obtain⟨f,rfl⟩:∃f,n=f+1:=⟨n-1,by omega⟩
 have h2:=hT.size
 have h3:=hT.len
 have hn:=fun da dc=>A1k (pb:=pb) (deep:=deep) (da:=da) (dc:=dc) s [123] (by simp) hr hT (by omega) hi
 rw[Sp.St.need] at hn
 rw[Sp.block]
 refine CalM.of fun w E hm=>A1b (N:=68) func118 rfl [(0,ptr pb)] Z4 rfl ?_
 by_cases hq:T.is s.i [123]=true
 case neg=>
  rw[if_neg hq] at hn
  rw[show T.is s.i [123]=false by simpa using hq,if_pos (by rfl)]
  repeat' (first|(refine F5 ?_ hm (hc:=hn _ _);clear hm;rintro _ _ _ _ ⟨rfl,rfl,da',dc',rfl⟩ hle hm;try simp only[F7] at hm)|(refine A6y ?_)|(refine A0t (d:=1) ?_ hm;clear hm;intro b1 _ hm)|refine H6 ?_ hm|refine D5 ?_|refine U9 ?_|refine D8 ?_|refine A7 ?_|refine G5 ?_|refine E5 ?_|refine A8 ?_|refine G8 ?_|refine F9 ?_)
  exact⟨I,_,⟨⟨none,0,[],rfl,A0M _,.nil⟩,da',dc',rfl⟩,hm.left (H:= [_,_])⟩
 rw[if_pos hq] at hn
 rw[hq,if_neg (by simp)]
 have hlt:=Sp.is_lt hq
 have hni:s.next.i=s.i+1:=rfl
 have hnd:s.next.ds.length=s.ds.length:=rfl
 by_cases hdeep:12≤deep
 ·rw[if_pos hdeep]
  have hd12:deep=12:=by omega
  repeat' (first|(refine F5 ?_ hm (hc:=hn _ _);clear hm;rintro _ _ _ _ ⟨rfl,rfl,da',dc',rfl⟩ hle hm;try simp only[F7] at hm)|(refine F5 ?_ hm (hc:=A2c s.next 12 hr hT (by omega) (by omega));clear hm;rintro _ _ _ _ ⟨rfl,rfl,da2,dc2,rfl⟩ hle hm;try simp only[F7] at hm)|(refine A6y ?_)|(refine A0t (d:=1) ?_ hm;clear hm;intro b1 _ hm)|refine H6 ?_ hm|refine D5 ?_|refine L8 ?_|refine U9 ?_|refine E8 ?_|refine C9 ?_|refine D8 ?_|refine A7 ?_|refine G5 ?_|refine E5 ?_|refine A8 ?_|refine F8 ?_|refine G8 ?_|refine F6 ?_|(refine D6 (ht:=fun _=>?_) (hf:=fun _=>?_)<;>(try first|contradiction|(exfalso;omega))))
  all_goals try omega
  exact⟨I,_,⟨⟨none,0,[],rfl,A0M _,.nil⟩,da2,dc2,rfl⟩,hm.left (H:= [_,_])⟩
 rw[if_neg hdeep]
 dsimp only
 have hg:=(Sp.A0N T f).2.1 (deep+1) [] s.next
 have hg1:=hg.le
 have hg2:=hg.top (by omega)
 have hg3:=hg.ds
 obtain⟨R,hR⟩:∃R,R=Sp.A2O T f (deep+1) [] s.next:=⟨_,rfl⟩
 rw[←hR] at hg hg1 hg2 hg3 ⊢
 repeat' (first|(refine A65 0 (fun x:QBl=> [(1,ptr b1),(3,.slice x.a x.n x.cp)]) (fun x w'=>Mem E x.I [A3d pb la lc T R.2 (deep+1) x.da x.dc,A15 R.2.ds x.da x.dc,B7S x.n x.a x.cp x.xs,.cell b1 [ptr pb] 175] w'∧Le I x.I∧U8 x.I R.1 x.xs∧R.1.length=x.n) ?_ ?_)|(refine F5 ?_ hm (hc:=hn _ _);clear hm;rintro _ _ _ _ ⟨rfl,rfl,da',dc',rfl⟩ hle hm;try simp only[F7] at hm)|(refine A0t (d:=1) ?_ hm;clear hm;intro b1 _ hm)|refine H6 ?_ hm|(refine J6 hm (k:=?_);clear hm;intro _ hm;try simp only[F7] at hm)|refine D5 ?_|refine L8 ?_|refine U9 ?_|refine E8 ?_|refine A0r ?_|refine Q4 ?_|refine C9 ?_|refine D8 ?_|refine A7 ?_|refine E5 ?_|refine A8 ?_|refine F8 ?_|refine A3L ?_|refine F6 ?_|(refine D6 (ht:=fun _=>?_) (hf:=fun _=>?_)<;>(try first|contradiction|(exfalso;omega))))
 all_goals try omega
 ·have hm2:=hm.nil 109 15
  clear hm
  refine U4 (fun x:QBl=> [(1,ptr b1),(3,.slice x.a x.n x.cp)])
   (fun x w'=>Mem E x.I [A3d pb la lc T x.s (deep+1) x.da x.dc,A15 x.s.ds x.da x.dc,B7S x.n x.a x.cp x.xs,.cell b1 [ptr pb] 175] w'∧
    Le I x.I∧U8 x.I x.l x.xs∧x.l.length=x.n∧x.n≤40∧x.f≤f∧x.s.i≤T.l.length∧x.s.ds.length+8 *(T.l.length-x.s.i)≤s.ds.length+8 *(T.l.length-s.i)∧
    Sp.A2O T x.f (deep+1) x.l x.s=R∧5 *(T.l.length-x.s.i)+6≤x.f)
   (fun x=>T.l.length-x.s.i) ⟨f,[],0,s.next,I,none,0,[],da',dc'⟩ (by exact⟨rfl,rfl,trivial⟩)
   ⟨hm2.perm pm2_1,Le.refl _,.nil,rfl,by dsimp only;omega,Nat.le_refl _,by dsimp only;omega,by dsimp only;omega,hR.symm,by dsimp only;omega⟩ ?_
  clear hm2 hn
  rintro⟨f1,l1,n1,s1,I1,a1,cp1,xs1,da1,dc1⟩ w2 ⟨hm,hle0,hsts,hn1,hn40,hff,hi1,hd1,hL,hf1⟩
  dsimp only at hm hle0 hsts hn1 hn40 hff hi1 hd1 hL hf1 ⊢
  have hr1:=hr.le hle0
  have hC1:=hC.le hle0
  obtain⟨f1,rfl⟩:∃f',f1=f'+1:=⟨f1-1,by omega⟩
  rw[Sp.A2O] at hL
  have hpk:=A06 (pb:=pb) (deep:=deep+1) (da:=da1) (dc:=dc1) s1 hr1
  by_cases hend:T.l.length≤s1.i∨T.is s1.i [125]=true
  ·rw[if_pos hend] at hL
   subst hL
   by_cases hl1:T.l.length≤s1.i
   ·skip
    repeat' (first|refine P8 ?_ hm|refine A7 ?_|refine G9 ?_|refine G6 ?_|refine E5 ?_|refine O4 ?_|refine O6 ?_|(refine W9 ?_;intro _ hkq;replace hm:=hm.kept0 hkq;clear hkq)|refine F6 ?_|refine U3 ?_|refine A0p ?_|refine A03 ?_|refine O1 ?_|refine J4 ?_|refine H7 ?_|refine A2k ?_|(refine U6 (fun _=>?_) (h1:=fun _=>?_)<;>(try first|contradiction|(exfalso;omega))))
    all_goals try first|omega|contradiction
    exact Y6 (⟨0,[],n1,s1,I1,a1,cp1,xs1,da1,dc1⟩:QBl) (by exact⟨rfl,rfl,trivial⟩) ⟨hm,hle0,hsts,hn1⟩
   ·rw[Sp.B0E (hend.resolve_left hl1)] at hpk
    repeat' (first|(refine V3 ?_ hm (hc:=hpk))|refine P8 ?_ hm|refine A7 ?_|refine G9 ?_|refine G6 ?_|refine E5 ?_|refine O4 ?_|refine O6 ?_|(refine W9 ?_;intro _ hkq;replace hm:=hm.kept0 hkq;clear hkq)|refine F6 ?_|refine U3 ?_|refine V8 ?_|refine A03 ?_|refine A0A ?_|refine O1 ?_|refine J4 ?_|refine H7 ?_|(refine U6 (fun _=>?_) (h1:=fun _=>?_)<;>(try first|contradiction|(exfalso;omega))))
    all_goals try first|omega|contradiction
    exact Y6 (⟨0,[],n1,s1,I1,a1,cp1,xs1,da1,dc1⟩:QBl) (by exact⟨rfl,rfl,trivial⟩) ⟨hm,hle0,hsts,hn1⟩
  rw[if_neg hend] at hL
  have hlt1:s1.i<T.l.length:=by omega
  have htt:(T.tok s1.i).text≠ [125]:=fun e=>hend (.inr (Sp.A5Z e (by simp)))
  by_cases h40:40≤l1.length
  ·rw[if_pos h40] at hL
   subst hL
   repeat' (first|(refine V3 ?_ hm (hc:=hpk))|(refine F5 ?_ hm (hc:=A2c s1 5 hr1 hT hi1 (by omega));clear hm;rintro _ _ _ _ ⟨rfl,rfl,da2,dc2,rfl⟩ hle hm;try simp only[F7] at hm)|refine H6 ?_ hm|refine P8 ?_ hm|refine D7 ?_|refine L8 ?_|refine G7 ?_|refine D8 ?_|refine A7 ?_|refine G9 ?_|refine G6 ?_|refine A0u ?_|refine E5 ?_|refine A8 ?_|refine E9 ?_|refine F8 ?_|refine O4 ?_|refine O6 ?_|(refine W9 ?_;intro _ hkq;replace hm:=hm.kept0 hkq;clear hkq)|(refine D6 (ht:=fun _=>?_) (hf:=fun _=>?_)<;>(try first|contradiction|(exfalso;omega)))|refine U3 ?_|refine V8 ?_|refine A03 ?_|refine A0A ?_|refine O1 ?_|refine J4 ?_|refine H7 ?_|(refine U6 (fun _=>?_) (h1:=fun _=>?_)<;>(try first|contradiction|(exfalso;omega))))
   all_goals try first|omega|contradiction
   exact Y6 (⟨0,[],n1,s1,I1,a1,cp1,xs1,da2,dc2⟩:QBl) (by exact⟨rfl,rfl,trivial⟩) ⟨hm,hle0,hsts,hn1⟩
  rw[if_neg h40] at hL
  dsimp only at hL
  have hst:=fun da dc=>ih f1 (by omega) I1 la lc (deep+1) da dc s1 hC1 hr1 hi1 (by omega) (by omega) (by omega)
  have hgr:=(Sp.A0N T f1).2.2 (deep+1) s1
  generalize Sp.stm T f1 (deep+1) s1=r at hL hst hgr
  have hgr1:=hgr.le
  have hgr2:=hgr.top hi1
  have hgr3:=hgr.ds0
  have hgr4:=hgr.ds1
  have hnl:(l1++ [r.1]).length=n1+1:=by simp[hn1]
  have hni:r.2.next.i=r.2.i+1:=rfl
  have hnd:r.2.next.ds.length=r.2.ds.length:=rfl
  repeat' (first|(refine V3 ?_ hm (hc:=hpk))|(refine F5 ?_ hm (hc:=hst _ _);clear hm;rintro _ I2 _ _ ⟨⟨ea,ec,ex,a3,c3,xs3,a4,c4,xs4,rfl,hrow,hexs,hrow3,hsts3,hrow4,hsts4⟩,da',dc',rfl⟩ hle hm;have hleI2:=hle;try simp only[F7] at hm)|(refine A2b (d:=51) ?_ hm;clear hm;intro a51 cp51 _ _ hm;try simp only[F7] at hm)|refine H6 ?_ hm|refine P8 ?_ hm|(refine J6 hm (k:=?_);clear hm;intro _ hm;try simp only[F7] at hm)|refine D7 ?_|refine D5 ?_|refine L8 ?_|refine G7 ?_|refine E8 ?_|refine Q4 ?_|refine C9 ?_|refine D8 ?_|refine A7 ?_|refine D9 ?_|refine E5 ?_|refine A8 ?_|refine E9 ?_|refine F8 ?_|refine O6 ?_|(refine W9 ?_;intro _ hkq;replace hm:=hm.kept0 hkq;clear hkq)|(refine D6 (ht:=fun _=>?_) (hf:=fun _=>?_)<;>(try first|contradiction|(exfalso;omega)))|refine U3 ?_|refine V8 ?_|refine A03 ?_|refine A0A ?_|refine O1 ?_|refine J4 ?_|refine H7 ?_|(refine U6 (fun _=>?_) (h1:=fun _=>?_)<;>(try first|contradiction|(exfalso;omega))))
  all_goals try first|omega|contradiction
  ·rename_i hsame
   have hsame:r.2.i=s1.i:=by omega
   rw[if_pos hsame] at hL
   have:=hgr3 hsame
   exact J9 (⟨f1,l1++ [r.1],n1+1,r.2.next,I2,_,_,_,da',dc'⟩:QBl) (by exact⟨rfl,rfl,trivial⟩) ⟨hm,hle0.trans hleI2,(U8.le hleI2 _ _ hsts).snoc (A6p hrow hexs hrow3 hsts3 hrow4 hsts4),hnl,by dsimp only;omega,by dsimp only;omega,by dsimp only;omega,by dsimp only;omega,hL,by dsimp only;omega⟩ (by dsimp only;omega)
  ·rename_i hsame
   have hsame:¬r.2.i=s1.i:=by omega
   rw[if_neg hsame] at hL
   have:=hgr4 (by omega)
   exact J9 (⟨f1,l1++ [r.1],n1+1,r.2,I2,_,_,_,da',dc'⟩:QBl) (by exact⟨rfl,rfl,trivial⟩) ⟨hm,hle0.trans hleI2,(U8.le hleI2 _ _ hsts).snoc (A6p hrow hexs hrow3 hsts3 hrow4 hsts4),hnl,by dsimp only;omega,by dsimp only;omega,hgr2,by dsimp only;omega,hL,by dsimp only;omega⟩ (by dsimp only;omega)
 ·clear hm hn
  rintro⟨_,_,n1,_,I1,a1,cp1,xs1,da1,dc1⟩ w2 ⟨hm,hle0,hsts,hn1⟩
  dsimp only at hm hle0 hsts hn1 ⊢
  have hr1:=hr.le hle0
  subst hn1
  repeat' (first|(refine F5 ?_ hm (hc:=A1k R.2 [125] (by simp) hr1 hT (by omega) hg2);clear hm;rintro _ _ _ _ ⟨rfl,rfl,da2,dc2,rfl⟩ hle hm;try simp only[F7] at hm)|refine H6 ?_ hm|refine D7 ?_|refine D5 ?_|refine D8 ?_|refine A7 ?_|refine E5 ?_|refine A8 ?_|refine G8 ?_)
  all_goals try first|omega|contradiction
  obtain⟨I3,hle3,hm3,hrow3⟩:=(hm.front 2 rfl).freeze
  exact B99 (b:=R.1) (s':=(R.2.need T [125]).2) (by omega) rfl (hm3.front 2 rfl) hrow3 (U8.le hle3 _ _ hsts)
theorem B3G (T:Sp.Src) (pb:Nat) (hT:Ok T) (n:Nat) (ih:∀g,g<n→A55 T pb g):B9I T pb n:=by
 intro I la lc deep da dc s hC hr hi hf hd hdp
 obtain⟨f,rfl⟩:∃f,n=f+1:=⟨n-1,by omega⟩
 have ihb:∀g,g≤f→A55 T pb g:=fun g hg=>ih g (by omega)
 by_cases h1:(T.tok s.i).text= [108,101,116]
 ·cases h6:T.is (s.next.named T).2.i [58] with
  |true=>exact B8U hT hC hr hi hf hd hdp h1 h6
  |false=>exact B8T hT hC hr hi hf hd hdp h1 h6
 by_cases h2:(T.tok s.i).text= [105,102]
 ·cases h6:T.is (Sp.block T f deep (Sp.Y2 T f deep 1 s.next).2).2.i [101,108,115,101] with
  |true=>exact C0g hT hC hr hi hf hd hdp ihb h2 h6
  |false=>exact C0f hT hC hr hi hf hd hdp ihb h2 h6
 by_cases h3:(T.tok s.i).text= [119,104,105,108,101]
 ·exact B7G hT hC hr hi hf hd hdp ihb h3
 by_cases h4:(T.tok s.i).text= [115,101,110,100]
 ·exact B8V hT hC hr hi hf hd hdp h4
 by_cases h5:(T.tok s.i).text= [114,101,116,117,114,110]
 ·exact B8S hT hC hr hi hf hd hdp h5
 cases h6:Sp.name (T.tok s.i).text with
 |false=>exact C0e hT hC hr hi hf hd hdp h1 h2 h3 h4 h5 h6
 |true=>
  cases h7:T.is (s.i+1) [61] with
  |true=>exact C0h hT hC hr hi hf hd hdp h1 h2 h3 h4 h5 h6 h7
  |false=>exact C1c hT hC hr hi hf hd hdp h1 h2 h3 h4 h5 h6 h7
theorem A9e (T:Sp.Src) (pb:Nat) (hT:Ok T) (n:Nat):B9I T pb n∧A55 T pb n:=by
 induction n using Nat.strongRecOn with
 |_ n ih=>exact⟨B3G T pb hT n (fun g hg=>(ih g hg).2),B0T T pb hT n (fun g hg=>(ih g hg).1)⟩
end Go.Proofs.YtfjdfdgpkncpfaaGreatDoor
end
