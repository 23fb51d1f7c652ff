/- Own work. -/
import Derived.Test.YtfgmppgjopchoaaGreatDoorSy9
import Derived.Lib.AtoiAll
set_option maxHeartbeats 64000000
namespace Go.Sp
theorem C9m (n:Nat) (hn:n<256) (q:Nat) (hq:q<8):(n:Int).fdiv (2 ^ q)=((n / 2 ^ q:Nat):Int)/\(n / 2 ^ q) &&& 1=(bit n q).toNat/\(n|||2 ^ q)=(if bit n q=true then n else n+2 ^ q)/\(n|||2 ^ q)<256:=by
 revert hq;revert q;revert hn;revert n;decide+kernel
theorem C9h (q:Nat) (hq:q<8):(1:Int) *2 ^ q=((2 ^ q:Nat):Int)/\2 ^ q<256:=by
 revert hq;revert q;decide+kernel
def A5g (n:Nat) (c:UInt8):Nat:=if n<=1000000000 then 10 *n+(c.toNat-48) else n
theorem C1f (t:List UInt8):A4t t=t.foldl A5g 0:=rfl
theorem B61:∀(r:List UInt8) (a:Nat),a<=r.foldl A5g a
 | [],a=>H6 _
 |c::r,a=>by
  rw[A1e];have:=B61 r (A5g a c);have:a<=A5g a c:=by rw[A5g];split<;>omega
  omega
theorem B4t:∀(r:List UInt8) (a:Nat),1000000000<a->r.foldl A5g a=a
 | [],a,_=>rfl
 |c::r,a,h=>by rw[A1e,A5g,if_neg (by omega)];exact B4t r a h
theorem B3Y:∀(r:List UInt8) (a:Nat),(∀c∈r,48<=c.toNat/\c.toNat<=57)->r.foldl A5g a<=1000000000->Lib.parseUint10 a r=.ok (r.foldl A5g a)
 | [],a,_,_=>rfl
 |c::r,a,hd,h=>by
  rw[A1e]at h |-;have hc:=hd c Q7;have ha:a<=1000000000:=by
   have:=B61 r (A5g a c);have:a<=A5g a c:=by rw[A5g];split<;>omega
   omega
  have e:A5g a c=a *10+(c.toNat-48):=by rw[A5g,if_pos ha];omega
  rw[Lib.parseUint10,if_pos hc,if_neg (by omega),if_neg (by omega), <-e];exact B3Y r _ (fun c hc=>hd c (A0K _ hc)) h
theorem B8l:∀(r:List UInt8) (a:Nat),(∀c∈r,48<=c.toNat/\c.toNat<=57)->1000000000<r.foldl A5g a->Lib.parseUint10 a r=.range\/∃u,1000000000<u/\Lib.parseUint10 a r=.ok u
 | [],a,_,h=> .inr ⟨a,h,rfl⟩
 |c::r,a,hd,h=>by
  rw[A1e]at h;have hc:=hd c Q7;rw[Lib.parseUint10,if_pos hc];split
  ·exact .inl rfl
  ·split
   ·exact .inl rfl
   ·refine B8l r _ (fun c hc=>hd c (A0K _ hc)) ?_
    by_cases ha:a<=1000000000
    ·have e:A5g a c=a *10+(c.toNat-48):=by rw[A5g,if_pos ha];omega
     rw[<-e];exact h
    ·rw[B4t r _ (by omega)];omega
theorem B6Q (t:List UInt8) (hn:1<=t.length) (hd:∀c∈t,48<=c.toNat/\c.toNat<=57):
  (A4t t<=1000000000->Lib.atoiAll t=.ok (A4t t:Int))/\(1000000000<A4t t->Lib.atoiAll t=.range\/∃v:Int,1000000000<v/\Lib.atoiAll t=.ok v):=by
 rw[C1f];cases t with
 |nil=>simp at hn
 |cons c r=>
  have hc:=hd c Q7;have hp:Lib.parseMag (if c.toNat=43\/c.toNat=45 then r else c::r)=Lib.parseUint10 0 (c::r):=by
   rw[if_neg (by omega),Lib.parseMag,if_neg (by simp)]
  have hneg:¬c.toNat=45:=by omega
  constructor
  ·intro h
   have h1:=B3Y (c::r) 0 hd h;simp only[Lib.atoiAll];rw[hp,h1];generalize (c::r).foldl A5g 0=d at h |-;simp only[hneg];simp
   omega
  ·intro h
   simp only[Lib.atoiAll];rw[hp];rcases B8l (c::r) 0 hd h with h1|⟨u,hu,h1⟩
   ·rw[h1];exact .inl rfl
   ·rw[h1]
    simp only[hneg];by_cases h2:9223372036854775808<=u
    ·exact .inl (by simp[h2])
    ·exact .inr ⟨(u:Int),by omega,by simp[h2]⟩
theorem C4L (t:List UInt8):A1i t<=3:=by
 rw[A1i];split
 ·omega
 ·split
  ·omega
  ·split<;>omega
end Go.Sp
namespace Go.Proofs
open Go.Proofs.Tryz
open Go.Sp
open Go.Fw
abbrev A5Z (pb:Nat) (la:Option Addr) (lc:Nat) (T:Sp.Src) (s:Sp.St) (deep:Nat) (da:Option Addr) (dc:Nat):HItem:=
 .obj pb (.cells [.slice la T.l.length lc,nt s.i,nt T.size,.slice da s.ds.length dc,nt deep].toArray 109 (0,0))
abbrev QSt (pb:Nat) (la:Option Addr) (lc:Nat) (T:Sp.Src) (s:Sp.St) (deep:Nat) (da:Option Addr) (dc:Nat):List HItem:= [A5Z pb la lc T s deep da dc,A37 s.ds da dc]
section
variable {I:P6}{pb deep lc dc:Nat}{la da:Option Addr}{T:Sp.Src}
theorem A1o (s:Sp.St) (hr:A20 I T la lc):CalR prog 43 #[ptr pb] I [A5Z pb la lc T s deep da dc] (nt (T.tok s.i).pos):=by
 refine CalR.of fun w J hm hl hH hJ=>enter (N:=28) func43 rfl [(0,ptr pb)] A0E rfl ?_
 have hp:=A7o (hH _ Q7);rw[<-hJ]at hp;replace hr:=hr.le hl;by_cases hi:s.i<T.l.length
 ·have htk:=A35 hi
  repeat' (first|refine Z7 ?_ (hr:=by exact hr) (he:=by intro _;rfl) (hz:=by exact htk);intro b1 o1 hp1|refine A0o ?_ hm|refine D6 ?_|refine D9 ?_|refine A7 ?_|refine G8 ?_|refine E5 ?_|refine A8 ?_|refine H8 ?_|refine J9 ?_|refine U4 ?_|refine A0h ?_;intro _ hkq;replace hm:=hm.kept0 hkq;clear hkq|(refine D5 (ht:=fun _=>?_) (hf:=fun _=>?_)<;>try first|contradiction|omega)|refine X7 ?_|refine A1V ?_|refine A2v ?_|refine V5 ?_|refine O9 ?_|refine L9 ?_)
  exact⟨rfl,hm.kept⟩
 ·have he:T.tok s.i=⟨0,[],T.size⟩:=A44 (by omega)
  rw[he];repeat' (first|refine J5 ?_ hm|refine A0o ?_ hm|refine D8 ?_|refine D6 ?_|refine E8 ?_|refine C9 ?_|refine D9 ?_|refine A7 ?_|refine E5 ?_|refine A8 ?_|refine G5 ?_|refine H8 ?_|refine J9 ?_|refine U4 ?_|refine A0h ?_;intro _ hkq;replace hm:=hm.kept0 hkq;clear hkq|(refine D5 (ht:=fun _=>?_) (hf:=fun _=>?_)<;>try first|contradiction|omega)|refine X7 ?_|refine A2v ?_|refine V5 ?_|refine O9 ?_|refine L9 ?_)
  exact⟨rfl,hm.kept⟩
theorem A2y (s:Sp.St) (hr:A20 I T la lc):CalR prog 66 #[ptr pb] I [A5Z pb la lc T s deep da dc] (str (T.tok s.i).text):=by
 refine CalR.of fun w J hm hl hH hJ=>enter (N:=24) func66 rfl [(0,ptr pb)] A0E rfl ?_
 have hp:=A7o (hH _ Q7);rw[<-hJ]at hp;replace hr:=hr.le hl;by_cases hi:s.i<T.l.length
 ·have htk:=A35 hi
  repeat' (first|refine Z7 ?_ (hr:=by exact hr) (he:=by intro _;rfl) (hz:=by exact htk);intro b1 o1 hp1|refine A0o ?_ hm|refine D6 ?_|refine D9 ?_|refine A7 ?_|refine G8 ?_|refine E5 ?_|refine A8 ?_|refine H8 ?_|refine J9 ?_|refine U4 ?_|refine A0h ?_;intro _ hkq;replace hm:=hm.kept0 hkq;clear hkq|(refine D5 (ht:=fun _=>?_) (hf:=fun _=>?_)<;>try first|contradiction|omega)|refine X7 ?_|refine A1V ?_|refine A2v ?_|refine V5 ?_|refine O9 ?_|refine L9 ?_)
  exact⟨rfl,hm.kept⟩
 ·have he:T.tok s.i=⟨0,[],T.size⟩:=A44 (by omega)
  rw[he];repeat' (first|refine A0o ?_ hm|refine D6 ?_|refine D9 ?_|refine A7 ?_|refine E5 ?_|refine A8 ?_|refine G5 ?_|refine H8 ?_|refine J9 ?_|refine U4 ?_|refine A0h ?_;intro _ hkq;replace hm:=hm.kept0 hkq;clear hkq|(refine D5 (ht:=fun _=>?_) (hf:=fun _=>?_)<;>try first|contradiction|omega)|refine X7 ?_|refine A2v ?_|refine V5 ?_|refine O9 ?_|refine L9 ?_)
  exact⟨rfl,hm.kept⟩
theorem A4A (s:Sp.St) (hr:A20 I T la lc) (hT:Ok T) (hi:s.i<=T.l.length):CalR prog 122 #[ptr pb] I [A5Z pb la lc T s deep da dc] (nt (T.endOf s.i)):=by
 refine CalR.of fun w J hm hl hH hJ=>enter (N:=26) func122 rfl [(0,ptr pb)] A0E rfl ?_
 have hp:=A7o (hH _ Q7);rw[<-hJ]at hp;replace hr:=hr.le hl;have h1:=hT.at_ (s.i-1);have h2:=hT.size;have h3:=hT.len;by_cases h0:s.i=0
 ·rw[h0]at hp |-
  repeat' (first|refine J5 ?_ hm|refine D8 ?_|refine D6 ?_|refine O0 ?_|refine E8 ?_|refine C9 ?_|refine D9 ?_|refine A7 ?_|refine G8 ?_|refine E5 ?_|refine A8 ?_|refine H8 ?_|refine J9 ?_|refine H5 ?_)
  exact⟨rfl,hm.kept⟩
 ·have hlt:s.i-1<T.l.length:=by omega
  have htk:=A35 hlt;repeat' (first|refine A0u (id:=3) (hm.perm pm0) 11 12 (h:=?_);clear hm;intro wd hR hm|refine A2G ?_ (hr:=by exact hr) (he:=by intro _;rfl) (hz:=by rw[show ((s.i:Int)-1).toNat=s.i-1 by omega];exact htk);intro b1 o1 hp1|refine A0b ?_ hR|refine A1U ?_ hR|refine A3Y (d:=3) ?_ hm;clear hm;intro b3 _ hm|refine A0x ?_;replace hm:=hR.back hm;clear hR;try simp only[F8]at hm|refine J4 ?_ hm|refine J5 ?_ hm|refine N8 ?_ hm;clear hm;intro _ hm;try simp only[F8]at hm|refine D8 ?_|refine D6 ?_|refine O0 ?_|refine A0I ?_|refine E8 ?_|refine P5 ?_|refine C9 ?_|refine D9 ?_|refine A7 ?_|refine E5 ?_|refine A8 ?_|refine G5 ?_|refine H8 ?_|refine J9 ?_|(refine D5 (ht:=fun _=>?_) (hf:=fun _=>?_)<;>try first|contradiction|omega)|refine Z5 ?_|refine O6 ?_|refine C4T ?_|refine L6 ?_|refine A0a ?_)
  refine⟨?_,hm.kept⟩
  rw[Sp.Src.endOf,if_neg h0,nt,Int.natCast_add]
end
theorem B0D (c:UInt8) (w:World):
  Cal prog 92 #[.int .u8 (c.toNat:Int)] w fun v w'=>v=.bool (A4W c)/\w'=w:=by
 refine enter (N:=21) func92 rfl [(0,.int .u8 (c.toNat:Int))] A0E rfl ?_
 repeat' (first|refine D8 ?_|refine D6 ?_|refine O1 ?_|refine J8 ?_|refine A6J ?_|refine A03 ?_|refine O0 ?_|refine A0D ?_|(refine N9 (h1:=fun _=>?_) (h0:=fun _=>?_)<;>try first|contradiction|omega)|refine D9 ?_|refine A7 ?_|refine E5 ?_|refine A8 ?_|refine H8 ?_|refine J9 ?_)
 all_goals (refine⟨congrArg Value.bool ?_,rfl⟩;unfold A4W;rw[A2H];simp;omega)
theorem B2w (c:UInt8) (w:World):
  Cal prog 94 #[.int .u8 (c.toNat:Int)] w fun v w'=>v=.bool (A4V c)/\w'=w:=by
 refine enter (N:=9) func94 rfl [(0,.int .u8 (c.toNat:Int))] A0E rfl ?_
 repeat' (first|refine D8 ?_|refine D6 ?_|refine O1 ?_|refine J8 ?_|refine A6J ?_|refine A03 ?_|refine A0D ?_|(refine N9 (h1:=fun _=>?_) (h0:=fun _=>?_)<;>try first|contradiction|omega)|refine D9 ?_|refine A7 ?_|refine E5 ?_|refine A8 ?_|refine H8 ?_|refine J9 ?_)
 all_goals (refine⟨congrArg Value.bool ?_,rfl⟩;unfold A4V;rw[A2H];simp;omega)
theorem C0f (c:UInt8) (w:World):
  Cal prog 90 #[.int .u8 (c.toNat:Int)] w fun v w'=>v=.bool (A9r c)/\w'=w:=by
 refine enter (N:=13) func90 rfl [(0,.int .u8 (c.toNat:Int))] A0E rfl ?_
 repeat' (first|refine D8 ?_|refine D6 ?_|refine O1 ?_|refine J8 ?_|refine O0 ?_|refine A0D ?_|(refine N9 (h1:=fun _=>?_) (h0:=fun _=>?_)<;>try first|contradiction|omega)|refine D9 ?_|refine A7 ?_|refine E5 ?_|refine A8 ?_|refine H8 ?_|refine J9 ?_)
 all_goals (refine⟨congrArg Value.bool ?_,rfl⟩;unfold A9r;rw[A2H];simp;omega)
theorem C68 (c:UInt8) (w:World):
  Cal prog 95 #[.int .u8 (c.toNat:Int)] w fun v w'=>v=.bool (B5C c)/\w'=w:=by
 refine enter (N:=12) func95 rfl [(0,.int .u8 (c.toNat:Int))] A0E rfl ?_
 repeat' (first|refine D8 ?_|refine D6 ?_|refine D9 ?_|refine A7 ?_|refine E5 ?_|refine A8 ?_|refine F5 ?_)
 refine U1 (fun k=> [(0,.int .u8 (c.toNat:Int)),(4,.int .i64 ((k:Nat):Int))]) (fun k w'=>w'=w/\k<=12/\∀j,j<k->Sp.B49.getD j 0≠c) (fun k=>12-k) 0 ⟨rfl,rfl,trivial⟩ ⟨rfl,by omega,by omega⟩ ?_
 rintro k w ⟨rfl,hk,hn⟩;repeat' (first|refine D8 ?_|refine D6 ?_|refine J6 ?_|refine O0 ?_|refine P5 ?_|refine A1q ?_|refine D9 ?_|refine A7 ?_|refine G8 ?_|refine H9 ?_|refine D7 ?_|refine O3 ?_|refine G9 ?_|refine E5 ?_|refine A8 ?_|refine F5 ?_|refine G5 ?_|refine P9 ?_|refine H8 ?_|refine J9 ?_|(refine D5 (ht:=fun _=>?_) (hf:=fun _=>?_)<;>try first|contradiction|omega))
 ·refine⟨congrArg Value.bool (Eq.symm ?_),rfl⟩
  rename_i h1 h2
  have h3:Sp.B49.getD k 0=c:=toNat_inj h2;have h4:k<Sp.B49.length:=by simp[B49];omega
  unfold B5C
  rw[A70];refine⟨c,?_,by simp⟩
  rw[<-h3,O4,G6 h4];exact O5 h4
 ·rename_i h1 h2
  refine L8 (k+1) ⟨rfl,rfl,trivial⟩ ⟨rfl,by omega,fun j hj=>?_⟩ (by omega)
  by_cases hjk:j=k
  ·subst hjk;exact fun e=>h2 (by rw[<-e];rfl)
  ·exact hn j (by omega)
 ·refine⟨congrArg Value.bool (Eq.symm ?_),rfl⟩
  rename_i h1
  obtain rfl:k=12:=by omega
  unfold B5C
  rw[A6C];intro x hx;obtain⟨j,hj,rfl⟩:=List.mem_iff_getElem.1 hx;have:=hn j (by simpa[B49] using hj);rw[O4,G6 hj]at this;simpa using this
theorem C2Q (c:UInt8) (w:World):
  Cal prog 91 #[.int .u8 (c.toNat:Int)] w fun v w'=>v=.bool (B5P c)/\w'=w:=by
 refine enter (N:=5) func91 rfl [(0,.int .u8 (c.toNat:Int))] A0E rfl ?_
 repeat' (first|refine D8 ?_|refine D6 ?_|refine A0t ?_|refine D9 ?_|refine A7 ?_|refine E5 ?_|refine A8 ?_|refine H8 ?_|refine J9 ?_)
 all_goals (refine⟨congrArg Value.bool ?_,rfl⟩;unfold B5P;rw[A2H];simp;omega)
theorem C2P (c:UInt8) (w:World):
  Cal prog 93 #[.int .u8 (c.toNat:Int)] w fun v w'=>v=.bool (A5Y c)/\w'=w:=by
 refine enter (N:=9) func93 rfl [(0,.int .u8 (c.toNat:Int))] A0E rfl ?_
 repeat' (first|refine A0k (hc:=by exact B0D c _) (k:=?_);rintro _ _ ⟨rfl,rfl⟩|refine A0k (hc:=by exact B2w c _) (k:=?_);rintro _ _ ⟨rfl,rfl⟩|refine D8 ?_|refine D6 ?_|refine O1 ?_|refine J8 ?_|refine A0D ?_|refine B32 (h1:=fun _=>?_) (h0:=fun _=>?_)<;>fail_if_success contradiction|refine D9 ?_|refine A7 ?_|refine E5 ?_|refine A8 ?_|refine H8 ?_|refine J9 ?_)
 all_goals (refine⟨congrArg Value.bool ?_,rfl⟩;unfold A5Y;simp[*])
theorem B5s (fi:FuncId) [Own prog fi] (F:UInt8->Bool) (hF:∀c w,Cal prog fi #[.int .u8 (c.toNat:Int)] w fun v w'=>v=.bool (F c)/\w'=w)
  (s:List UInt8) (hs:s≠ []) (hl:s.length<=9223372036854775807) (b:Nat) (w:World) (hb:w.heap[b]?=some (.cells (str s).cells 9 (0,0))):
  Cal prog 89 #[.func (.func fi) #[] #[],.pointer (some ⟨b,0,none⟩)] w fun v w'=>v=.int .i64 (Sp.run F s.tail:Int)/\w'=w:=by
 have hs':0<s.length:=A3R.2 hs;refine enter (N:=19) func89 rfl [(0,.func (.func fi) #[] #[]),(1,.pointer (some ⟨b,0,none⟩))] A0R rfl ?_
 repeat' (first|refine D6 ?_|refine D9 ?_|refine A7 ?_|refine E5 ?_|refine A8 ?_|refine F5 ?_)
 refine U1 (fun k=> [(0,.func (.func fi) #[] #[]),(1,.pointer (some ⟨b,0,none⟩)),(4,.int .i64 ((k:Nat):Int))])
  (fun k w'=>w'=w/\1<=k/\k<=s.length/\∀j,1<=j->j<k->F (s.getD j 0)=true) (fun k=>s.length-k) 1 ⟨rfl,rfl,rfl,trivial⟩ ⟨rfl,by omega,by omega,by omega⟩ ?_
 rintro k w ⟨rfl,hk0,hk,hn⟩;repeat' (first|refine A7u (hc:=by exact hF _ _) (k:=?_);rintro _ _ ⟨rfl,rfl⟩|refine D8 ?_|refine D6 ?_|refine O1 ?_|refine J8 ?_|refine J6 ?_|refine A0I ?_|refine P5 ?_|refine A1q ?_|refine A40 (k:=?_)|refine A0D ?_|(refine N9 (h1:=fun _=>?_) (h0:=fun _=>?_)<;>try first|contradiction|omega)|refine D9 ?_|refine A7 ?_|refine H9 ?_|refine D7 ?_|refine G9 ?_|refine E5 ?_|refine A8 ?_|refine F5 ?_|refine G5 ?_|refine P9 ?_|refine H8 ?_|refine J9 ?_|refine F7 ?_|refine A8u (ht:=fun _=>?_) (hf:=fun _=>?_))
 ·rename_i h1 h2
  refine L8 (k+1) ⟨rfl,rfl,rfl,trivial⟩ ⟨rfl,by omega,by omega,fun j h3 h4=>?_⟩ (by omega)
  by_cases hjk:j=k
  ·subst hjk;exact h2
  ·exact hn j h3 (by omega)
 ·rename_i h1 h2
  refine⟨?_,rfl⟩
  rw[C4t F s k hk0 hn hk (.inr h2)]
 ·rename_i h1
  refine⟨?_,rfl⟩
  rw[C4t F s k hk0 hn hk (.inl (by omega))]
theorem C8z (s:List UInt8) (hs:s≠ []) (hl:s.length<=9223372036854775807) (w:World):
  Cal prog 65 #[str s] w fun v w'=>v=.tuple #[.int .i64 ((Sp.one s).1:Int),.int .i64 ((Sp.one s).2:Int)]/\Kept [] w w':=by
 have hs':0<s.length:=A3R.2 hs;refine enter (N:=32) func65 rfl [(0,str s)] A0E rfl ?_
 repeat' (first|refine C35 (k:=?_);intro b w1 hbe hb hk|refine A0k (hc:=by exact C0f _ _) (k:=?_);rintro _ _ ⟨rfl,rfl⟩|refine A0k (hc:=by exact B0D _ _) (k:=?_);rintro _ _ ⟨rfl,rfl⟩|refine A0k (hc:=by exact B2w _ _) (k:=?_);rintro _ _ ⟨rfl,rfl⟩|refine A0k (hc:=by exact C68 _ _) (k:=?_);rintro _ _ ⟨rfl,rfl⟩|refine A7u (hc:=by exact B5s _ A9r C0f s hs hl _ _ (by assumption)) (k:=?_);rintro _ _ ⟨rfl,rfl⟩|refine A7u (hc:=by exact B5s _ B5P C2Q s hs hl _ _ (by assumption)) (k:=?_);rintro _ _ ⟨rfl,rfl⟩|refine A7u (hc:=by exact B5s _ A5Y C2P s hs hl _ _ (by assumption)) (k:=?_);rintro _ _ ⟨rfl,rfl⟩|refine A7u (hc:=by exact B5s _ A4V B2w s hs hl _ _ (by assumption)) (k:=?_);rintro _ _ ⟨rfl,rfl⟩|refine D8 ?_|refine D6 ?_|refine O0 ?_|refine A1l ?_|refine A1q ?_|refine A40 (k:=?_)|refine D9 ?_|refine A7 ?_|refine G8 ?_|refine D7 ?_|refine O3 ?_|refine E5 ?_|refine A8 ?_|refine F5 ?_|refine G5 ?_|refine H8 ?_|refine A1R ?_|(refine D5 (ht:=fun _=>?_) (hf:=fun _=>?_)<;>try first|contradiction|omega)|refine A8u (ht:=fun _=>?_) (hf:=fun _=>?_))
 all_goals
  refine⟨?_,hk⟩
  cases s with
  |nil=>exact absurd rfl hs
  |cons c r=>
   simp only[List.getD_cons_zero,Int.toNat_zero,List.tail_cons]at *;have e:∀m:Nat,((m:Int)=35↔m=35):=fun m=>by omega
   simp_all [Sp.one]
structure TokLoop where
 at_:Nat
 out:Value
 acc:List Sp.Tok
theorem B6T (s:List UInt8) (hl:s.length<=1099511627776) (w:World):
  Cal prog 40 #[str s] w fun v w'=>w'.ownsRow w.heap.size 106 3 v (U9 s).length ((U9 s).flatMap A3F)/\Kept [] w w':=by
 refine enter (N:=36) func40 rfl [(0,str s)] A0E rfl ?_
 repeat' (first|refine D6 ?_|refine D9 ?_|refine A7 ?_|refine E5 ?_|refine A8 ?_|refine F5 ?_)
 refine U1 (fun x:TokLoop=> [(0,str s),(3,x.out),(4,.int .i64 (x.at_:Int))])
  (fun x w'=>x.at_<=s.length/\x.acc.length<=x.at_/\x.acc++A5C s x.at_=U9 s/\w'.ownsRow w.heap.size 106 3 x.out x.acc.length (x.acc.flatMap A3F)/\Kept [] w w')
  (fun x=>s.length-x.at_) ⟨0,.slice none 0 0,[]⟩ ⟨rfl,rfl,rfl,trivial⟩ ⟨by simp,by simp,by simp[A7C],World.ownsRow_nil _ _ _ _,Kept.refl _ _⟩ ?_
 rintro⟨k,out,acc⟩ w1 ⟨hk,hacc,heq,hown,hkept⟩;dsimp only at hk hacc heq hown hkept |-;have hone:=fun h:s.drop k≠ []=>A6G _ h
 have hstep:=fun h:k<s.length=>A5W s k h
 repeat' (first|refine A0k (hc:=by exact C8z (s.drop k) (by simp;omega) (by simp;omega) _) (k:=?_);rintro _ w2 ⟨rfl,hk2⟩;have h1:=hone (by simp;omega);simp only[A0s]at h1|refine A74 (hown:=by exact hk2.own hown (by simp)) (hbase:=by have:=hkept.size;have:=hk2.size;omega) (k:=?_);intro v3 w3 hown3 hk3 hb3|refine D8 ?_|refine D6 ?_|refine J6 ?_|refine A0v ?_|refine A0I ?_|refine U6 ?_|refine P5 ?_|refine B0X ?_|refine A7e ?_|refine Q4 ?_|refine D9 ?_|refine A7 ?_|refine H9 ?_|refine D7 ?_|refine G9 ?_|refine E5 ?_|refine A8 ?_|refine F5 ?_|refine G5 ?_|refine P9 ?_|refine H8 ?_|refine J9 ?_|(refine D5 (ht:=fun _=>?_) (hf:=fun _=>?_)<;>try first|contradiction|omega))
 ·rename_i h0 h2
  have hst:=hstep (by omega);rw[if_pos (by omega)]at hst;refine L8 (⟨k+(Sp.one (s.drop k)).2,v3,acc++ [⟨(Sp.one (s.drop k)).1,(s.drop k).take (Sp.one (s.drop k)).2,k⟩]⟩:TokLoop) (by exact⟨rfl,rfl,rfl,trivial⟩) ?_ ?_
  ·refine⟨by dsimp only;omega,by simp;omega,by rw[<-heq,hst];simp,?_,?_⟩
   ·have e:((k:Int)+((Sp.one (s.drop k)).2:Int)).toNat-(k:Int).toNat=(Sp.one (s.drop k)).2:=by omega
    rw[e]at hown3;simpa[A3F,Y2,Value.cells] using hown3
   ·exact(hkept.step0 hk2).step hk3 (fun x hx=> .inr (by
     cases ho:out.ownBlock with
     |none=>simp[ho]at hx
     |some g=>simp[ho]at hx;subst hx;exact(hown.lt _ ho).1))
  ·dsimp only;omega
 ·rename_i h0 h2
  have hst:=hstep (by omega);rw[if_neg (by omega),P7]at hst;refine L8 (⟨k+(Sp.one (s.drop k)).2,out,acc⟩:TokLoop) (by exact⟨rfl,rfl,rfl,trivial⟩) ?_ ?_
  ·exact⟨by dsimp only;omega,by dsimp only;omega,by rw[<-heq,hst],hk2.own hown (by simp),hkept.step0 hk2⟩
  ·dsimp only;omega
 ·rename_i h0
  rw[A6Q s k (by omega),J3]at heq;rw[<-heq];exact⟨hown,hkept⟩
theorem C8A (w:World):Cal prog 98 #[] w fun v w'=>w'.ownsRow w.heap.size 9 1 v 9 (Sp.A5T.map str)/\Kept [] w w':=by
 refine enter (N:=2) func98 rfl [] C2F rfl ?_
 repeat' (first|refine A5H (by rfl) (by rfl) (by rfl) (by rfl) (by rfl) (by decide) ?_;intro b w1 hbe hb hk|refine D6 ?_|refine D9 ?_|refine A7 ?_|refine E5 ?_|refine A8 ?_|refine H8 ?_|refine J9 ?_)
 exact⟨B5W hb (by rfl) (by omega) (by decide),hk⟩
theorem C69 (s:List UInt8) (hl:s.length<=9223372036854775807) (w:World):Cal prog 99 #[str s] w fun v w'=>v=.bool (B0u s)/\w'=w:=by
 refine enter (N:=36) func99 rfl [(0,str s)] A0E rfl ?_
 repeat' (first|refine A0k (hc:=by exact B0D _ _) (k:=?_);rintro _ w ⟨rfl,rfl⟩|refine D8 ?_|refine D6 ?_|refine O1 ?_|refine J8 ?_|refine J6 ?_|refine A0v ?_|refine A0I ?_|refine Y3 ?_|refine A1q ?_|refine A0D ?_|(refine N9 (h1:=fun _=>?_) (h0:=fun _=>?_)<;>try first|contradiction|omega)|refine D9 ?_|refine A7 ?_|refine G8 ?_|refine E5 ?_|refine A8 ?_|refine F5 ?_|refine G5 ?_|refine H8 ?_|refine J9 ?_|refine H5 ?_|refine A8u (ht:=fun _=>?_) (hf:=fun _=>?_))
 ·refine⟨?_,rfl⟩;rename_i h;rw[show B0u s=false by simp[B0u];omega]
 ·refine⟨?_,rfl⟩;rename_i h h1;rw[show B0u s=false by simp[B0u];omega]
 ·refine⟨?_,rfl⟩;rename_i h h1 h2;have h2':A4W (s.getD 0 0)=false:=by simpa using h2
  rw[show B0u s=false by unfold B0u;rw[h2'];simp]
 ·rename_i h0 h1 h2
  have h2':A4W (s.getD 0 0)=true:=by simpa using h2
  refine U1 (fun k=> [(0,str s),(19,.int .i64 (s.length:Int)),(20,.int .i64 ((k:Nat):Int))]) (fun k w'=>w'=w/\k<=s.length/\∀j,j<k->A5Y (s.getD j 0)=true) (fun k=>s.length-k) 0 ⟨rfl,rfl,rfl,trivial⟩ ⟨rfl,by omega,by omega⟩ ?_
  rintro k w ⟨rfl,hk,hn⟩;repeat' (first|refine A0k (hc:=by exact B0D _ _) (k:=?_);rintro _ w ⟨rfl,rfl⟩|refine A0k (hc:=by exact B2w _ _) (k:=?_);rintro _ w ⟨rfl,rfl⟩|refine D8 ?_|refine D6 ?_|refine O1 ?_|refine J8 ?_|refine J6 ?_|refine Y3 ?_|refine P5 ?_|refine A1q ?_|refine A0D ?_|refine B32 (h1:=fun _=>?_) (h0:=fun _=>?_)<;>fail_if_success contradiction|refine D9 ?_|refine A7 ?_|refine G8 ?_|refine H9 ?_|refine D7 ?_|refine O3 ?_|refine G9 ?_|refine E5 ?_|refine A8 ?_|refine F5 ?_|refine G5 ?_|refine P9 ?_|refine H8 ?_|refine J9 ?_|refine F7 ?_|(refine D5 (ht:=fun _=>?_) (hf:=fun _=>?_)<;>try first|contradiction|omega)|refine A8u (ht:=fun _=>?_) (hf:=fun _=>?_))
  ·rename_i h3 h4 h5
   refine⟨?_,rfl⟩
   rw[C6F (k:=k) (by omega) (by simp at h4 h5;simp[A5Y,h4,h5])]
  ·rename_i h3 h4 h5
   refine L8 (k+1) (by exact⟨rfl,rfl,rfl,trivial⟩) ⟨rfl,by omega,fun j hj=>?_⟩ (by omega)
   by_cases hjk:j=k
   ·subst hjk;simp at h5;simp[A5Y,h5]
   ·exact hn j (by omega)
  ·rename_i h3 h4
   refine L8 (k+1) (by exact⟨rfl,rfl,rfl,trivial⟩) ⟨rfl,by omega,fun j hj=>?_⟩ (by omega)
   by_cases hjk:j=k
   ·subst hjk;simp at h4;simp[A5Y,h4]
   ·exact hn j (by omega)
  ·rename_i h3
   refine⟨?_,rfl⟩
   have ha:s.all A5Y=true:=(C0b _ _).2 (fun j hj=>hn j (by omega));rw[show B0u s=true by unfold B0u;rw[h2',ha];simp;omega]
theorem A8P (s:List UInt8) (hl:s.length<=9223372036854775807) (w:World):Cal prog 69 #[str s] w fun v w'=>v=.bool (Sp.name s)/\Kept [] w w':=by
 refine enter (N:=17) func69 rfl [(0,str s)] A0E rfl ?_
 repeat' (first|refine A0k (hc:=by exact C8A _) (k:=?_);rintro _ w1 ⟨hown,hk1⟩;obtain⟨g,cap,cur,rfl,hbg,hg,hcap,hcur,_⟩:=B3D hown (by decide)|refine D8 ?_|refine D6 ?_|refine G7 ?_|refine D9 ?_|refine A7 ?_|refine E5 ?_|refine A8 ?_|refine F5 ?_)
 refine U1 (fun k=> [(0,str s),(5,.slice (some ⟨g,0,none⟩) 9 cap),(6,.int .i64 9),(7,.int .i64 ((k:Nat):Int))]) (fun k w'=>w'=w1/\k<=9/\∀j,j<k->s≠Sp.A5T.getD j []) (fun k=>9-k) 0 ⟨rfl,rfl,rfl,rfl,trivial⟩ ⟨rfl,by omega,by omega⟩ ?_
 rintro k w1 ⟨rfl,hk,hn⟩;have hcell:k<9->cur[0+(k:Int).toNat *1]?=some (str (Sp.A5T.getD k [])):=fun h=>hcur _ _ (by
  have h9:k<Sp.A5T.length:=h;simp[O4,G6 h9])
 repeat' (first|refine A40 (hc:=by exact hcell (by omega)) (k:=?_)|refine A0k (hc:=by exact C69 s hl _) (k:=?_);rintro _ w ⟨rfl,rfl⟩|refine D8 ?_|refine D6 ?_|refine J6 ?_|refine V8 ?_|refine P5 ?_|refine A0L (k:=?_)|refine D9 ?_|refine A7 ?_|refine G8 ?_|refine H9 ?_|refine D7 ?_|refine O3 ?_|refine G9 ?_|refine E5 ?_|refine A8 ?_|refine F5 ?_|refine G5 ?_|refine P9 ?_|refine H8 ?_|refine J9 ?_|(refine D5 (ht:=fun _=>?_) (hf:=fun _=>?_)<;>try first|contradiction|omega))
 ·rename_i h0 h1
  refine⟨?_,hk1⟩
  have h9:k<Sp.A5T.length:=show k<9 by omega
  have:Sp.A5T.any (fun w=>decide (s=w))=true:=by
   rw[A70];exact⟨_,O5 h9,by rw[h1,O4,G6 h9];simp⟩
  simp only[Sp.name,this,Bool.not_true,Bool.false_and]
 ·rename_i h0 h1
  refine L8 (k+1) (by exact⟨rfl,rfl,rfl,rfl,trivial⟩) ⟨rfl,by omega,fun j hj=>?_⟩ (by omega)
  by_cases hjk:j=k
  ·subst hjk;exact h1
  ·exact hn j (by omega)
 ·rename_i h0
  refine⟨?_,hk1⟩
  have:Sp.A5T.any (fun w=>decide (s=w))=false:=by
   rw[A6C];intro x hx;obtain⟨j,hj,rfl⟩:=List.mem_iff_getElem.1 hx;have:=hn j (by have:j<9:=hj;omega);rw[O4,G6 hj]at this;simpa using this
  simp only[Sp.name,this,Bool.not_false,A5Q]
structure CLoop where
 at_:Nat
 out:Value
 acc:List Nat
theorem C2O (s:List UInt8) (hl:s.length<=1099511627776) (w:World):
  Cal prog 25 #[str s] w fun v w'=>w'.ownsRow w.heap.size 3 1 v (Y5 s).length ((Y5 s).flatMap A1r)/\Kept [] w w':=by
 refine enter (N:=53) func25 rfl [(0,str s)] A0E rfl ?_
 repeat' (first|refine A0k (hc:=by exact B6T s hl _) (k:=?_);rintro tv w1 ⟨htv,hk1⟩;obtain⟨ta,tc,rfl⟩:=A4q htv|refine D8 ?_|refine D6 ?_|refine G7 ?_|refine D9 ?_|refine A7 ?_|refine E5 ?_|refine A8 ?_|refine F5 ?_)
 have htl:=A7D s;refine U1 (fun x:CLoop=> [(0,str s),(3,x.out),(8,.slice ta (U9 s).length tc),(9,.int .i64 ((U9 s).length:Int)),(10,.int .i64 (x.at_:Int))])
  (fun x w'=>x.at_<=(U9 s).length/\x.acc.length<=x.at_/\x.acc=((U9 s).take x.at_).foldl (A14 s) []/\w'.ownsRow w1.heap.size 3 1 x.out x.acc.length (x.acc.flatMap A1r)/\Kept [] w1 w')
  (fun x=>(U9 s).length-x.at_) ⟨0,.slice none 0 0,[]⟩ ⟨rfl,rfl,rfl,rfl,rfl,trivial⟩ ⟨by simp,by simp,by simp,World.ownsRow_nil _ _ _ _,Kept.refl _ _⟩ ?_
 rintro⟨k,out,acc⟩ w2 ⟨hk,hacc,heq,hown,hkept⟩;dsimp only at hk hacc heq hown hkept |-;by_cases hlt:k<(U9 s).length
 ·obtain⟨g,cap,cur,htve,hbg,hg,hcap,hcur,hsz⟩:=B3D htv (by omega)
  injection htve with e1 e2 e3
  subst e1;have hg2:=hkept.get0 hg;have htok:(U9 s)[k]?=some (U9 s)[k]:=G6 hlt;have hok:=A2D s _ (O5 hlt);have hfold:=C1v (A14 s) [] _ _ _ htok;have hcell:∀(j:Nat) (v:Value),(A3F (U9 s)[k])[j]?=some v->cur[0+(k:Int).toNat *3+j]?=some v:=fun j v hv=>by
   rw[show 0+(k:Int).toNat *3+j=k *3+j by omega];exact hcur _ _ (B8M _ _ _ htok j v hv)
  generalize (U9 s)[k]=t at htok hok hfold hcell;have hp1:=hok.pos;obtain⟨oa,oc,rfl⟩:=A4q hown;repeat' (first|refine B3A (vs:=A3F t) (hb:=hg2) (hc:=hcell) (k:=?_)|refine C38 (k:=?_);intro b w3 hbe hb hkb|refine A74 (hown:=by exact hkb.own hown (by simp)) (hbase:=by have:=hkept.size;have:=hkb.size;omega) (k:=?_);intro v3 w4 hown3 hk3 hb3|refine D8 ?_|refine D6 ?_|refine O1 ?_|refine J8 ?_|refine J6 ?_|refine O0 ?_|refine V8 ?_|refine G7 ?_|refine P5 ?_|refine A3i ?_|refine A1q ?_|refine C9 ?_|refine A0L (k:=?_)|refine A40 (k:=?_)|refine A0D ?_|(refine N9 (h1:=fun _=>?_) (h0:=fun _=>?_)<;>try first|contradiction|omega)|refine D9 ?_|refine A7 ?_|refine D7 ?_|refine E5 ?_|refine A8 ?_|refine F5 ?_|refine G5 ?_|refine H5 ?_|(refine D5 (ht:=fun _=>?_) (hf:=fun _=>?_)<;>try first|contradiction|omega))
  all_goals
   have e10:((t.pos:Int)-1).toNat=t.pos-1:=by omega
   rw[<-heq]at hfold
  all_goals first
   |(have hst:B0c s t=true\/acc= []:=by
      simp only[B0c,V3,Bool.or_eq_true,decide_eq_true_eq, <-e10];simp only[Sp.wFn,C4W];first
       |exact .inr (A06 (by omega))
       |exact .inl ⟨⟨by omega,.inl (by assumption)⟩,by omega⟩
       |exact .inl ⟨⟨by omega,.inr (by assumption)⟩,by omega⟩
     rw[A14,if_pos hst]at hfold;refine L8 (⟨k+1,v3,acc++ [t.pos]⟩:CLoop) (by exact⟨rfl,rfl,rfl,rfl,rfl,trivial⟩) ?_ (by dsimp only;omega)
     refine⟨by dsimp only;omega,by simp;omega,hfold.symm,?_,?_⟩
     ·simpa[A1r,Y2,Value.cells,A3F] using hown3
     ·exact(hkept.step0 hkb).step hk3 (fun x hx=> .inr (by
      cases oa with
      |none=>simp[Value.ownBlock]at hx
      |some a=>simp[Value.ownBlock]at hx;subst hx;exact(hown.lt _ rfl).1)))
   |(have hst:¬(B0c s t=true\/acc= []):=by
      rintro(h|h)
      ·simp only[B0c,V3,Bool.or_eq_true,decide_eq_true_eq, <-e10]at h
       simp only[Sp.wFn,C4W]at h;obtain⟨⟨h1,h2⟩,h3⟩:=h;rcases h2 with h2|h2<;>first|omega|exact absurd h2 (by assumption)
      ·have h0:acc.length=0:=by rw[h];rfl
       omega
     rw[A14,if_neg hst]at hfold;refine L8 (⟨k+1,.slice oa acc.length oc,acc⟩:CLoop) (by exact⟨rfl,rfl,rfl,rfl,rfl,trivial⟩) ?_ (by dsimp only;omega)
     exact⟨by dsimp only;omega,by dsimp only;omega,hfold.symm,hkb.own hown (by simp),hkept.step0 hkb⟩)
 ·have hkk:k=(U9 s).length:=by omega
  have hcs:Y5 s=acc:=by rw[heq,hkk,V6];rfl
  repeat' (first|refine D8 ?_|refine D6 ?_|refine J6 ?_|refine D9 ?_|refine A7 ?_|refine H9 ?_|refine G9 ?_|refine E5 ?_|refine A8 ?_|refine P9 ?_|refine H8 ?_|refine J9 ?_|(refine D5 (ht:=fun _=>?_) (hf:=fun _=>?_)<;>try first|contradiction|omega))
  rw[hcs];exact⟨A30 hown hk1.size,hk1.trans hkept⟩
abbrev ToQ (pb:Nat) (la:Option Addr) (lc:Nat) (T:Sp.Src) (deep:Nat) (I:P6) (s:Sp.St) (val:Value):Value->P6->List HItem->Prop:=
 fun v I' H'=>v=val/\I=I'/\∃da dc,H'=QSt pb la lc T s deep da dc
theorem B6A (pb:Nat) (la:Option Addr) (lc:Nat) (T:Sp.Src) (s:Sp.St) (g:Sp.Dg) (deep:Nat) (da:Option Addr) (dc:Nat):
  [.obj pb (.cells [.slice la T.l.length lc,nt s.i,nt T.size,.slice da (s.ds.length+1) dc,nt deep].toArray 109 (0,0)),.row (.slice da (s.ds.length+1) dc) 56 4 (s.ds.length+1) (s.ds.flatMap A5J++A5J g)]=QSt pb la lc T ⟨s.i,s.ds++ [g]⟩ deep da dc:=by
 simp[Y2]
section
variable {I:P6}{pb deep lc dc:Nat}{la da:Option Addr}{T:Sp.Src}
theorem A1h (s:Sp.St) (t:List UInt8) (_ht:t≠ []) (hr:A20 I T la lc) (hT:Ok T) (hi:s.i<=T.l.length):
  CalM prog 41 #[ptr pb,str t] I (QSt pb la lc T s deep da dc) (ToQ pb la lc T deep I (if T.is s.i t=true then s.next else s) (.bool (T.is s.i t))):=by
 refine CalM.of fun w E hm=>enter (N:=28) func41 rfl [(0,ptr pb),(1,str t)] A0R rfl ?_
 have h2:=hT.size;have h3:=hT.len;by_cases hq:T.is s.i t=true
 ·have hlt:=A1I hq
  have hte:(T.tok s.i).text=t:=by simp only[Sp.Src.is,V3,decide_eq_true_eq]at hq;exact hq.2
  rw[if_pos hq,hq];have hpk:=A2y (pb:=pb) (deep:=deep) (da:=da) (dc:=dc) s hr;rw[hte]at hpk;repeat' (first|refine A0p ?_ hm (hc:=hpk)|refine J4 ?_ hm|refine V4 ?_ hm|refine O7 hm (k:=?_);clear hm;intro _ hm;try simp only[F8]at hm|refine D8 ?_|refine D6 ?_|refine E8 ?_|refine P5 ?_|refine C9 ?_|refine D9 ?_|refine A7 ?_|refine E5 ?_|refine A8 ?_|refine G5 ?_|refine H8 ?_|refine J9 ?_|refine U4 ?_|refine A0h ?_;intro _ hkq;replace hm:=hm.kept0 hkq;clear hkq|(refine D5 (ht:=fun _=>?_) (hf:=fun _=>?_)<;>try first|contradiction|omega)|refine X7 ?_|refine A09 ?_|refine A61 ?_|refine A1L ?_|refine V5 ?_|refine O9 ?_|refine L9 ?_|(refine Y8 (fun _=>?_) (h1:=fun _=>?_)<;>try first|contradiction|omega))
  all_goals try (exfalso;first|omega|simp_all;done)
  exact⟨I,_,⟨rfl,rfl,da,dc,rfl⟩,hm⟩
 ·rw[if_neg hq,show T.is s.i t=false by simpa using hq]
  by_cases hlt:s.i<T.l.length
  ·have hte:(T.tok s.i).text≠t:=by
    intro e;exact hq (by simp[Sp.Src.is,hlt,e])
   repeat' (first|refine A0p ?_ hm (hc:=A2y s hr)|refine D6 ?_|refine D9 ?_|refine A7 ?_|refine G8 ?_|refine E5 ?_|refine A8 ?_|refine H8 ?_|refine J9 ?_|refine U4 ?_|refine A0h ?_;intro _ hkq;replace hm:=hm.kept0 hkq;clear hkq|refine H5 ?_|refine X7 ?_|refine A0r ?_|refine A1L ?_|refine A36 ?_|(refine Y8 (fun _=>?_) (h1:=fun _=>?_)<;>try first|contradiction|omega))
   all_goals try (exfalso;first|omega|simp_all;done)
   all_goals exact⟨I,_,⟨rfl,rfl,da,dc,rfl⟩,hm⟩
  ·have hei:s.i=T.l.length:=by omega
   repeat' (first|refine A0p ?_ hm (hc:=A2y s hr)|refine V4 ?_ hm|refine D6 ?_|refine D9 ?_|refine A7 ?_|refine G8 ?_|refine E5 ?_|refine A8 ?_|refine H8 ?_|refine J9 ?_|refine U4 ?_|refine A0h ?_;intro _ hkq;replace hm:=hm.kept0 hkq;clear hkq|refine H5 ?_|(refine D5 (ht:=fun _=>?_) (hf:=fun _=>?_)<;>try first|contradiction|omega)|refine X7 ?_|refine A0r ?_|refine A09 ?_|refine A61 ?_|refine A1L ?_|refine V5 ?_|refine O9 ?_|refine L9 ?_|refine A36 ?_|(refine Y8 (fun _=>?_) (h1:=fun _=>?_)<;>try first|contradiction|omega))
   all_goals try (exfalso;first|omega|simp_all;done)
   all_goals exact⟨I,_,⟨rfl,rfl,da,dc,rfl⟩,hm⟩
theorem A4e (s:Sp.St) (e:Nat) (hr:A20 I T la lc) (hT:Ok T) (hi:s.i<=T.l.length) (hd:s.ds.length<1099511627776):
  CalM prog 47 #[ptr pb,nt e] I (QSt pb la lc T s deep da dc) (ToQ pb la lc T deep I (s.bad T e) (.tuple #[])):=by
 refine CalM.of fun w E hm=>enter (N:=59) func47 rfl [(0,ptr pb),(1,nt e)] A0R rfl ?_
 have h1:=hT.at_ s.i;have h2:=hT.size;have h3:=hT.len;by_cases hlt:s.i<T.l.length
 ·have htk:=A35 hlt
  repeat' (first|refine Z7 ?_ (hr:=by exact hr) (he:=by intro _;rfl) (hz:=by exact htk);intro b1 o1 hp1|refine A0m (id:=3) (hm.perm pm1_1) [0,1,2,3,4,5,7,8,9] [6,10,11,12,13] 14 (h:=?_);clear hm;intro wd hR hm|refine A3p (d:=53) ?_ hR hm (hc:=A2y s hr);clear hm;intro _ hm|refine A3p (d:=49) ?_ hR hm (hc:=A1o s hr);clear hm;intro _ hm|refine Y6 ?_ hR|refine A9z ?_ hm|refine A1S (d:=56) ?_ hm;clear hm;intro a56 cp56 _ _ hm;replace hm:=hR.back hm;clear hR;try simp only[F8]at hm|refine J4 ?_ hm|refine V4 ?_ hm|refine A0o ?_ hm|refine O7 hm (k:=?_);clear hm;intro _ hm;try simp only[F8]at hm|refine D8 ?_|refine D6 ?_|refine E8 ?_|refine C9 ?_|refine D9 ?_|refine A7 ?_|refine E5 ?_|refine A8 ?_|refine X3 ?_|refine U4 ?_|refine A0h ?_;intro _ hkq;replace hm:=hm.kept0 hkq;clear hkq|(refine D5 (ht:=fun _=>?_) (hf:=fun _=>?_)<;>try first|contradiction|omega)|refine X7 ?_|refine A1V ?_|refine A2v ?_|refine C18 ?_|refine V5 ?_|refine O9 ?_|refine A90 ?_|refine L9 ?_|refine Z5 ?_|refine O6 ?_|refine L6 ?_|refine A0a ?_)
  exact⟨I,_,⟨rfl,rfl,_,_,B6A _ _ _ _ _ ⟨_,_,_,_⟩ _ _ _⟩,hm.swap⟩
 ·have he:T.tok s.i=⟨0,[],T.size⟩:=A44 (by omega)
  rw[Sp.St.bad,he];have hpk:=A2y (pb:=pb) (deep:=deep) (da:=da) (dc:=dc) s hr;have hhr:=A1o (pb:=pb) (deep:=deep) (da:=da) (dc:=dc) s hr;rw[he]at hpk hhr;repeat' (first|refine A0m (id:=3) (hm.perm pm1_1) [0,1,2,3,4,5,7,8,9] [6,10,11,12,13] 14 (h:=?_);clear hm;intro wd hR hm|refine A3p (d:=53) ?_ hR hm (hc:=hpk);clear hm;intro _ hm|refine A3p (d:=49) ?_ hR hm (hc:=hhr);clear hm;intro _ hm|refine Y6 ?_ hR|refine A9z ?_ hm|refine A1S (d:=56) ?_ hm;clear hm;intro a56 cp56 _ _ hm;replace hm:=hR.back hm;clear hR;try simp only[F8]at hm|refine J4 ?_ hm|refine V4 ?_ hm|refine O7 hm (k:=?_);clear hm;intro _ hm;try simp only[F8]at hm|refine D8 ?_|refine D6 ?_|refine E8 ?_|refine C9 ?_|refine D9 ?_|refine A7 ?_|refine E5 ?_|refine A8 ?_|refine G5 ?_|refine X3 ?_|refine U4 ?_|refine A0h ?_;intro _ hkq;replace hm:=hm.kept0 hkq;clear hkq|(refine D5 (ht:=fun _=>?_) (hf:=fun _=>?_)<;>try first|contradiction|omega)|refine X7 ?_|refine A2v ?_|refine V5 ?_|refine O9 ?_|refine L9 ?_|refine Z5 ?_|refine O6 ?_|refine L6 ?_|refine A0a ?_)
  exact⟨I,_,⟨rfl,rfl,_,_,B6A _ _ _ _ _ ⟨_,_,_,_⟩ _ _ _⟩,hm.swap⟩
end
structure QLab where
 f:Nat
 n:Nat
 s:Sp.St
 da:Option Addr
 dc:Nat
section
variable {I:P6}{pb deep lc dc:Nat}{la da:Option Addr}{T:Sp.Src}
theorem A2V (s:Sp.St) (t:List UInt8) (ht:t≠ []) (hr:A20 I T la lc) (hT:Ok T) (hd:s.ds.length<1099511627776) (hi:s.i<=T.l.length):
  CalM prog 45 #[ptr pb,str t] I (QSt pb la lc T s deep da dc) (ToQ pb la lc T deep I (s.need T t).2 (.bool (s.need T t).1)):=by
 refine CalM.of fun w E hm=>enter (N:=10) func45 rfl [(0,ptr pb),(1,str t)] A0R rfl ?_
 have he:=A1h (pb:=pb) (deep:=deep) (da:=da) (dc:=dc) s t ht hr hT hi;rw[Sp.St.need];by_cases hq:T.is s.i t=true
 ·rw[if_pos hq,hq]at he
  rw[if_pos hq];repeat' (first|refine F6 ?_ hm (hc:=he);clear hm;rintro _ _ _ _ ⟨rfl,rfl,da1,dc1,rfl⟩ hle hm;try simp only[F8]at hm|refine D8 ?_|refine D6 ?_|refine D9 ?_|refine A7 ?_|refine G8 ?_|refine E5 ?_|refine A8 ?_|refine H8 ?_|refine J9 ?_|refine H5 ?_)
  exact⟨I,_,⟨rfl,rfl,da1,dc1,rfl⟩,hm⟩
 ·rw[if_neg hq,show T.is s.i t=false by simpa using hq]at he
  rw[if_neg hq];repeat' (first|refine F6 ?_ hm (hc:=he);clear hm;rintro _ _ _ _ ⟨rfl,rfl,da1,dc1,rfl⟩ hle hm;try simp only[F8]at hm|refine F6 ?_ hm (hc:=A4e s 2 hr hT hi hd);clear hm;rintro _ _ _ _ ⟨rfl,rfl,da2,dc2,rfl⟩ hle hm;try simp only[F8]at hm|refine D8 ?_|refine D6 ?_|refine D9 ?_|refine A7 ?_|refine E5 ?_|refine A8 ?_|refine G5 ?_|refine H8 ?_|refine J9 ?_|refine F7 ?_)
  exact⟨I,_,⟨rfl,rfl,da2,dc2,rfl⟩,hm⟩
theorem A89 (s:Sp.St) (hr:A20 I T la lc) (hT:Ok T) (hd:s.ds.length<1099511627776) (hi:s.i<=T.l.length):
  CalM prog 44 #[ptr pb] I (QSt pb la lc T s deep da dc) (ToQ pb la lc T deep I (s.named T).2 (str (s.named T).1)):=by
 refine CalM.of fun w E hm=>enter (N:=55) func44 rfl [(0,ptr pb)] A0E rfl ?_
 have h1:=hT.at_ s.i;have h2:=hT.size;have h3:=hT.len;rw[Sp.St.named];have hn:=A8P (T.tok s.i).text (by omega);by_cases hname:Sp.name (T.tok s.i).text=true
 ·rw[if_pos hname]
  rw[hname]at hn;have hlt:=A2e (A59 hname);repeat' (first|refine U0 ?_ hm (hc:=A2y s hr);clear hm;intro _ hm|refine A0k (hc:=by exact hn _) (k:=?_);rintro _ _ ⟨rfl,hk⟩;replace hm:=hm.kept0 hk|refine J4 ?_ hm|refine O7 hm (k:=?_);clear hm;intro _ hm;try simp only[F8]at hm|refine D8 ?_|refine D6 ?_|refine Y3 ?_|refine E8 ?_|refine P5 ?_|refine C9 ?_|refine D9 ?_|refine A7 ?_|refine E5 ?_|refine A8 ?_|refine G5 ?_|refine H8 ?_|refine J9 ?_|refine F7 ?_)
  exact⟨I,_,⟨rfl,rfl,da,dc,rfl⟩,hm⟩
 ·have hname':Sp.name (T.tok s.i).text=false:=by simpa using hname
  rw[if_neg hname];rw[hname']at hn;by_cases hk:(T.tok s.i).kind=1
  ·rw[if_pos hk]
   have hlt:=B2f (T:=T) (i:=s.i) (by omega);have hbi:(s.bad T 7).i=s.i:=rfl;have htk:=A35 hlt;repeat' (first|refine U0 ?_ hm (hc:=A2y s hr);clear hm;intro _ hm|refine A0k (hc:=by exact hn _) (k:=?_);rintro _ _ ⟨rfl,hk2⟩;replace hm:=hm.kept0 hk2|refine Z7 ?_ (hr:=by exact hr) (he:=by intro _;rfl) (hz:=by exact htk);intro b1 o1 hp1|refine F6 ?_ hm (hc:=A4e s 7 hr hT hi hd);clear hm;rintro _ _ _ _ ⟨rfl,rfl,da2,dc2,rfl⟩ hle hm;try simp only[F8]at hm|refine J4 ?_ hm|refine V4 ?_ hm|refine A0o ?_ hm|refine O7 hm (k:=?_);clear hm;intro _ hm;try simp only[F8]at hm|refine D8 ?_|refine D6 ?_|refine Y3 ?_|refine E8 ?_|refine P5 ?_|refine C9 ?_|refine D9 ?_|refine A7 ?_|refine G8 ?_|refine E5 ?_|refine A8 ?_|refine H8 ?_|refine J9 ?_|refine U4 ?_|refine A0h ?_;intro _ hkq;replace hm:=hm.kept0 hkq;clear hkq|refine H5 ?_|(refine D5 (ht:=fun _=>?_) (hf:=fun _=>?_)<;>try first|contradiction|omega)|refine X7 ?_|refine A0r ?_|refine A2v ?_|refine A61 ?_|refine V5 ?_|refine O9 ?_|refine L9 ?_|(refine Y8 (fun _=>?_) (h1:=fun _=>?_)<;>try first|contradiction|omega))
   exact⟨I,_,⟨rfl,rfl,da2,dc2,rfl⟩,hm⟩
  ·rw[if_neg hk]
   by_cases hlt:s.i<T.l.length
   ·have htk:=A35 hlt
    repeat' (first|refine U0 ?_ hm (hc:=A2y s hr);clear hm;intro _ hm|refine A0k (hc:=by exact hn _) (k:=?_);rintro _ _ ⟨rfl,hk2⟩;replace hm:=hm.kept0 hk2|refine Z7 ?_ (hr:=by exact hr) (he:=by intro _;rfl) (hz:=by exact htk);intro b1 o1 hp1|refine F6 ?_ hm (hc:=A4e s 2 hr hT hi hd);clear hm;rintro _ _ _ _ ⟨rfl,rfl,da2,dc2,rfl⟩ hle hm;try simp only[F8]at hm|refine V4 ?_ hm|refine A0o ?_ hm|refine D8 ?_|refine D6 ?_|refine Y3 ?_|refine D9 ?_|refine A7 ?_|refine G8 ?_|refine E5 ?_|refine A8 ?_|refine G5 ?_|refine H8 ?_|refine J9 ?_|refine U4 ?_|refine A0h ?_;intro _ hkq;replace hm:=hm.kept0 hkq;clear hkq|refine H5 ?_|(refine D5 (ht:=fun _=>?_) (hf:=fun _=>?_)<;>try first|contradiction|omega)|refine X7 ?_|refine A0r ?_|refine A2v ?_|refine A61 ?_|refine V5 ?_|refine O9 ?_|refine L9 ?_|(refine Y8 (fun _=>?_) (h1:=fun _=>?_)<;>try first|contradiction|omega))
    exact⟨I,_,⟨rfl,rfl,da2,dc2,rfl⟩,hm⟩
   ·skip
    repeat' (first|refine U0 ?_ hm (hc:=A2y s hr);clear hm;intro _ hm|refine A0k (hc:=by exact hn _) (k:=?_);rintro _ _ ⟨rfl,hk2⟩;replace hm:=hm.kept0 hk2|refine F6 ?_ hm (hc:=A4e s 2 hr hT hi hd);clear hm;rintro _ _ _ _ ⟨rfl,rfl,da2,dc2,rfl⟩ hle hm;try simp only[F8]at hm|refine V4 ?_ hm|refine D8 ?_|refine D6 ?_|refine Y3 ?_|refine D9 ?_|refine A7 ?_|refine G8 ?_|refine E5 ?_|refine A8 ?_|refine G5 ?_|refine H8 ?_|refine J9 ?_|refine U4 ?_|refine A0h ?_;intro _ hkq;replace hm:=hm.kept0 hkq;clear hkq|refine H5 ?_|refine F7 ?_|refine X7 ?_|refine A09 ?_|refine A2v ?_|refine V5 ?_|refine O9 ?_|refine L9 ?_|refine A36 ?_|(refine Y8 (fun _=>?_) (h1:=fun _=>?_)<;>try first|contradiction|omega))
    exact⟨I,_,⟨rfl,rfl,da2,dc2,rfl⟩,hm⟩
theorem B2E (s:Sp.St) (hr:A20 I T la lc) (hT:Ok T) (hi:s.i<=T.l.length) (hd:s.ds.length+2 *(T.l.length-s.i)+2<=1099511627776):
  CalM prog 46 #[ptr pb] I (QSt pb la lc T s deep da dc) (ToQ pb la lc T deep I (Sp.lab T s).2 (nt (Sp.lab T s).1)):=by
 refine CalM.of fun w E hm=>enter (N:=61) func46 rfl [(0,ptr pb)] A0E rfl ?_
 have h2:=hT.size;have h3:=hT.len;have hn:=A2V (pb:=pb) (deep:=deep) (da:=da) (dc:=dc) s [123] (by simp) hr hT (by omega) hi;rw[Sp.lab];rw[Sp.St.need]at hn;by_cases hq:T.is s.i [123]=true
 case neg=>
  rw[if_neg hq];rw[if_neg hq]at hn;repeat' (first|refine F6 ?_ hm (hc:=hn);clear hm;rintro _ _ _ _ ⟨rfl,rfl,da',dc',rfl⟩ hle hm;try simp only[F8]at hm|refine D8 ?_|refine D6 ?_|refine Y3 ?_|refine D9 ?_|refine A7 ?_|refine G8 ?_|refine E5 ?_|refine A8 ?_|refine H8 ?_|refine J9 ?_|refine H5 ?_)
  exact⟨I,_,⟨rfl,rfl,da',dc',rfl⟩,hm⟩
 rw[if_pos hq];rw[if_pos hq]at hn;have hlt:=A1I hq;repeat' (first|refine F6 ?_ hm (hc:=hn);clear hm;rintro _ _ _ _ ⟨rfl,rfl,da',dc',rfl⟩ hle hm;try simp only[F8]at hm|refine D8 ?_|refine D6 ?_|refine Y3 ?_|refine D9 ?_|refine A7 ?_|refine E5 ?_|refine A8 ?_|refine F5 ?_|refine G5 ?_|refine F7 ?_)
 refine U1 (fun x:QLab=> [(0,ptr pb),(3,nt x.n)])
  (fun x w'=>Mem E I (QSt pb la lc T x.s deep x.da x.dc) w'/\B2n T x.f x.n x.s=B2n T (T.l.length+1) 0 s.next/\T.l.length-x.s.i<x.f/\x.s.i<=T.l.length/\x.n<256/\x.s.ds.length+2 *(T.l.length-x.s.i)+1<=1099511627776)
  (fun x=>T.l.length-x.s.i) ⟨T.l.length+1,0,s.next,da',dc'⟩ (by exact⟨rfl,rfl,trivial⟩) ⟨hm,rfl,by dsimp only;omega,by dsimp only;rw[Q5];omega,by simp,by dsimp only;rw[Q5,A0V];omega⟩ ?_
 clear hm hn;rintro⟨f,n,s2,da2,dc2⟩ w2 ⟨hm,hL,hf,hi2,hn2,hr2⟩;dsimp only at hm hL hf hi2 hn2 hr2 |-;obtain⟨f,rfl⟩:∃f',f=f'+1:=⟨f-1,by omega⟩;rw[B2n]at hL;have hqe:=A1h (pb:=pb) (deep:=deep) (da:=da2) (dc:=dc2) s2 [125] (by simp) hr hT hi2;by_cases hend:T.is s2.i [125]=true
 ·rw[if_pos hend]at hL
  rw[<-hL];rw[if_pos hend,hend]at hqe;have hlt2:=A1I hend;repeat' (first|refine F6 ?_ hm (hc:=hqe);clear hm;rintro _ _ _ _ ⟨rfl,rfl,da3,dc3,rfl⟩ hle hm;try simp only[F8]at hm|refine D8 ?_|refine D6 ?_|refine Y3 ?_|refine D9 ?_|refine A7 ?_|refine H9 ?_|refine G9 ?_|refine E5 ?_|refine A8 ?_|refine P9 ?_|refine H8 ?_|refine J9 ?_|refine F7 ?_)
  exact⟨I,_,⟨rfl,rfl,da3,dc3,rfl⟩,hm⟩
 have hend':T.is s2.i [125]=false:=by simpa using hend
 rw[if_neg hend]at hL;rw[if_neg hend,hend']at hqe;dsimp only at hL;have h1:=hT.at_ s2.i;have htg:C2m (T.tok s2.i).text=decide ((T.tok s2.i).text.length=1/\97<=((T.tok s2.i).text.getD (0:Int).toNat 0).toNat/\((T.tok s2.i).text.getD (0:Int).toNat 0).toNat<=104):=by
  rw[C2m,Bool.decide_and,Bool.decide_and];rfl
 by_cases hgood:C2m (T.tok s2.i).text=true
 case neg=>
  have hgood':C2m (T.tok s2.i).text=false:=by simpa using hgood
  rw[hgood']at hL;simp only[Bool.not_false,if_true]at hL;rw[<-hL];rw[htg,decide_eq_false_iff_not]at hgood';repeat' (first|refine F6 ?_ hm (hc:=hqe);clear hm;rintro _ _ _ _ ⟨rfl,rfl,da4,dc4,rfl⟩ hle hm;try simp only[F8]at hm|refine U0 ?_ hm (hc:=A2y s2 hr);clear hm;intro _ hm|refine F6 ?_ hm (hc:=A4e s2 2 hr hT hi2 (by omega));clear hm;rintro _ _ _ _ ⟨rfl,rfl,da3,dc3,rfl⟩ hle hm;try simp only[F8]at hm|refine D8 ?_|refine D6 ?_|refine O1 ?_|refine J8 ?_|refine J6 ?_|refine A0v ?_|refine A0t ?_|refine A0I ?_|refine Y3 ?_|refine A1q ?_|refine A0D ?_|(refine N9 (h1:=fun _=>?_) (h0:=fun _=>?_)<;>try first|contradiction|omega)|refine D9 ?_|refine A7 ?_|refine G8 ?_|refine O3 ?_|refine E5 ?_|refine A8 ?_|refine F5 ?_|refine G5 ?_|refine H8 ?_|refine J9 ?_|refine H5 ?_|(refine D5 (ht:=fun _=>?_) (hf:=fun _=>?_)<;>try first|contradiction|omega))
  all_goals first
   |exact⟨I,_,⟨rfl,rfl,da3,dc3,rfl⟩,hm⟩
   |(exfalso;omega)
 rw[hgood]at hL;have hlt2:s2.i<T.l.length:=A2e (by intro e;rw[e]at hgood;revert hgood;decide);rw[htg,decide_eq_true_eq]at hgood;have hce:(T.tok s2.i).text.getD (0:Int).toNat 0=(T.tok s2.i).text.getD 0 0:=rfl;rw[hce]at hgood;generalize hcc:(T.tok s2.i).text.getD 0 0=c at hgood hL hce;obtain⟨q,hqq⟩:∃q,q=c.toNat-97:=⟨_,rfl⟩;rw[<-hqq]at hL;have hq8:q<8:=by omega
 obtain⟨hfd,hb1,hor,hor2⟩:=C9m n hn2 q hq8;obtain⟨hp1,hp2⟩:=C9h q hq8;have hbq:((c.toNat:Int)-97).toNat=q:=by omega
 have hdl:n / 2 ^ q<=n:=Nat.div_le_self _ _;simp only[Bool.not_true,A6A,if_false]at hL;generalize n / 2 ^ q=m at hfd hb1 hdl;obtain⟨s3,hs3⟩:∃s3,s3=(if Sp.bit n q=true then s2.bad T 7 else s2):=⟨_,rfl⟩;rw[<-hs3]at hL;have hs3i:s3.i=s2.i:=by rw[hs3];split<;>rfl
 have hs3d:s3.ds.length<=s2.ds.length+1:=by rw[hs3];split<;>simp[Sp.St.bad]
 rw[<-hor]at hL;have hni:s3.next.i=s3.i+1:=rfl;have hnd:s3.next.ds.length=s3.ds.length:=rfl;have hnn:s3.next.next.i=s3.i+1+1:=rfl;have hnnd:s3.next.next.ds.length=s3.ds.length:=rfl;have hmc:=fun da dc=>A2V (pb:=pb) (deep:=deep) (da:=da) (dc:=dc) s3.next [44] (by simp) hr hT (by omega) (by omega)
 rw[Sp.St.need]at hmc;have hpk:=fun da dc=>A2y (pb:=pb) (deep:=deep) (da:=da) (dc:=dc) s3.next hr
 have tel:=fun da dc=>A4e (pb:=pb) (deep:=deep) (da:=da) (dc:=dc) s2 7 hr hT hi2 (by omega)
 have hor':((n:Int).toNat|||(((2 ^ q:Nat):Int)).toNat)=(n|||2 ^ q):=rfl;generalize 2 ^ q=pq at hp1 hp2 hor2 hor hL hor';generalize n|||pq=n1 at hor2 hor hL hor'
 repeat' (first|refine B0t 9 (fun _:QLab=> [(0,ptr pb),(3,nt n),(4,str (T.tok s2.i).text)]) (fun x w'=>Mem E I (QSt pb la lc T s3 deep x.da x.dc) w') ?_ ?_|refine F6 ?_ hm (hc:=hqe);clear hm;rintro _ _ _ _ ⟨rfl,rfl,da4,dc4,rfl⟩ hle hm;try simp only[F8]at hm|refine U0 (d:=12) ?_ hm (hc:=A2y s2 hr);clear hm;intro _ hm|refine A1q ?_;rw[hce]|refine D8 ?_|refine D6 ?_|refine J8 ?_|refine J6 ?_|refine A0v ?_|refine A0t ?_|refine A0I ?_|refine Y3 ?_|refine A7v ?_|(refine N9 (h1:=fun _=>?_) (h0:=fun _=>?_)<;>try first|contradiction|omega)|refine D9 ?_|refine A7 ?_|refine E5 ?_|refine A8 ?_|refine F5 ?_|refine G5 ?_|refine H5 ?_|(refine D5 (ht:=fun _=>?_) (hf:=fun _=>?_)<;>try first|contradiction|omega))
 ·cases hb:Sp.bit n q with
  |true=>
   rw[hb]at hb1 hs3;rw[if_pos rfl]at hs3;subst hs3;repeat' (first|refine F6 ?_ hm (hc:=tel _ _);clear hm;rintro _ _ _ _ ⟨rfl,rfl,da3,dc3,rfl⟩ hle hm;try simp only[F8]at hm|refine B9t (k:=?_);rw[hbq,hfd]|refine B5S ?_;rw[show ((m:Int).toNat &&& (1:Int).toNat)=1 from hb1]|refine D8 ?_|refine O0 ?_|refine D9 ?_|refine A7 ?_|refine A8 ?_|refine H5 ?_)
   exact A01 (⟨0,0,s2,da3,dc3⟩:QLab) (by exact⟨rfl,rfl,rfl,trivial⟩) hm
  |false=>
   rw[hb]at hb1 hs3;rw[if_neg (by simp)]at hs3;subst hs3;repeat' (first|refine B9t (k:=?_);rw[hbq,hfd]|refine B5S ?_;rw[show ((m:Int).toNat &&& (1:Int).toNat)=0 from hb1]|refine O0 ?_|refine D9 ?_|refine A7 ?_|refine G5 ?_|refine F7 ?_)
   exact A01 (⟨0,0,s3,da4,dc4⟩:QLab) (by exact⟨rfl,rfl,rfl,trivial⟩) hm
 clear hm hqe tel;rintro⟨_,_,_,da5,dc5⟩ w3 hm;dsimp only at hm |-;by_cases e1:T.is s3.next.i [125]=true
 ·rw[if_pos e1]at hL
  have e1t:(T.tok s3.next.i).text= [125]:=by simp only[Sp.Src.is,V3,decide_eq_true_eq]at e1;exact e1.2
  have hlt5:=A1I e1;rw[e1t]at hpk;repeat' (first|refine U0 ?_ hm (hc:=hpk _ _);clear hm;intro _ hm|refine A1q ?_;rw[hce]|refine B5U (h':=by rw[hbq,hp1];omega) (k:=?_);rw[hbq,hp1]|refine B7J ?_;rw[hor']|refine J4 ?_ hm|refine O7 hm (k:=?_);clear hm;intro _ hm;try simp only[F8]at hm|refine D8 ?_|refine D6 ?_|refine J8 ?_|refine A08 ?_|refine E8 ?_|refine P5 ?_|refine A7v ?_|refine C9 ?_|refine A0D ?_|refine D9 ?_|refine A7 ?_|refine D7 ?_|refine E5 ?_|refine A8 ?_|refine G5 ?_|refine F7 ?_)
  exact L8 (⟨f,n1,s3.next,da5,dc5⟩:QLab) (by exact⟨rfl,rfl,trivial⟩) ⟨hm,hL,by dsimp only;omega,by dsimp only;omega,hor2,by dsimp only;omega⟩ (by dsimp only;omega)
 rw[if_neg e1]at hL;by_cases e2:T.is s3.next.i [44]=true
 ·rw[if_pos e2]at hL hmc
  have e1t:(T.tok s3.next.i).text= [44]:=by simp only[Sp.Src.is,V3,decide_eq_true_eq]at e2;exact e2.2
  have hlt5:=A1I e2;rw[e1t]at hpk;repeat' (first|refine U0 ?_ hm (hc:=hpk _ _);clear hm;intro _ hm|refine F6 ?_ hm (hc:=hmc _ _);clear hm;rintro _ _ _ _ ⟨rfl,rfl,da6,dc6,rfl⟩ hle hm;try simp only[F8]at hm|refine A1q ?_;rw[hce]|refine B5U (h':=by rw[hbq,hp1];omega) (k:=?_);rw[hbq,hp1]|refine B7J ?_;rw[hor']|refine J4 ?_ hm|refine O7 hm (k:=?_);clear hm;intro _ hm;try simp only[F8]at hm|refine D8 ?_|refine D6 ?_|refine O1 ?_|refine A08 ?_|refine Y3 ?_|refine E8 ?_|refine P5 ?_|refine A7v ?_|refine C9 ?_|refine D9 ?_|refine A7 ?_|refine D7 ?_|refine E5 ?_|refine A8 ?_|refine G5 ?_|refine F7 ?_)
  exact L8 (⟨f,n1,s3.next.next,da6,dc6⟩:QLab) (by exact⟨rfl,rfl,trivial⟩) ⟨hm,hL,by dsimp only;omega,by dsimp only;omega,hor2,by dsimp only;omega⟩ (by dsimp only;omega)
 rw[if_neg e2]at hL hmc;have e1t:s3.next.i<T.l.length->(T.tok s3.next.i).text≠ [125]:=fun h e=>e1 (by simp[Sp.Src.is,h,e])
 rw[<-hL];by_cases hlt6:s3.next.i<T.l.length
 ·have e1t:=e1t hlt6
  repeat' (first|refine U0 ?_ hm (hc:=hpk _ _);clear hm;intro _ hm|refine F6 ?_ hm (hc:=hmc _ _);clear hm;rintro _ _ _ _ ⟨rfl,rfl,da6,dc6,rfl⟩ hle hm;try simp only[F8]at hm|refine A1q ?_;rw[hce]|refine B5U (h':=by rw[hbq,hp1];omega) (k:=?_);rw[hbq,hp1]|refine B7J ?_;rw[hor']|refine J4 ?_ hm|refine O7 hm (k:=?_);clear hm;intro _ hm;try simp only[F8]at hm|refine D8 ?_|refine D6 ?_|refine O1 ?_|refine A08 ?_|refine Y3 ?_|refine E8 ?_|refine P5 ?_|refine A7v ?_|refine C9 ?_|(refine N9 (h1:=fun _=>?_) (h0:=fun _=>?_)<;>try first|contradiction|omega)|refine D9 ?_|refine A7 ?_|refine G8 ?_|refine O3 ?_|refine E5 ?_|refine A8 ?_|refine H8 ?_|refine J9 ?_|refine H5 ?_)
  exact⟨I,_,⟨rfl,rfl,da6,dc6,rfl⟩,hm⟩
 ·rw[A44 (by omega:T.l.length<=s3.next.i)]at hpk
  repeat' (first|refine U0 ?_ hm (hc:=hpk _ _);clear hm;intro _ hm|refine F6 ?_ hm (hc:=hmc _ _);clear hm;rintro _ _ _ _ ⟨rfl,rfl,da6,dc6,rfl⟩ hle hm;try simp only[F8]at hm|refine A1q ?_;rw[hce]|refine B5U (h':=by rw[hbq,hp1];omega) (k:=?_);rw[hbq,hp1]|refine B7J ?_;rw[hor']|refine J4 ?_ hm|refine O7 hm (k:=?_);clear hm;intro _ hm;try simp only[F8]at hm|refine D8 ?_|refine D6 ?_|refine O1 ?_|refine A08 ?_|refine Y3 ?_|refine E8 ?_|refine P5 ?_|refine A7v ?_|refine C9 ?_|refine D9 ?_|refine A7 ?_|refine G8 ?_|refine O3 ?_|refine E5 ?_|refine A8 ?_|refine H8 ?_|refine J9 ?_|refine H5 ?_)
  exact⟨I,_,⟨rfl,rfl,da6,dc6,rfl⟩,hm⟩
theorem C5X (t:List UInt8) (w:World):Cal prog 142 #[str t] w fun v w'=>v=nt (A1i t)/\w'=w:=by
 refine enter (N:=12) func142 rfl [(0,str t)] A0E rfl ?_
 rw[A1i];by_cases h1:t= [61]
 ·subst h1
  repeat' (first|refine D8 ?_|refine D6 ?_|refine V8 ?_|refine D9 ?_|refine A7 ?_|refine G8 ?_|refine O3 ?_|refine E5 ?_|refine A8 ?_|refine F5 ?_|refine G5 ?_|refine H8 ?_|refine J9 ?_|refine H5 ?_)
  exact⟨rfl,rfl⟩
 by_cases h2:t= [60]
 ·subst h2
  repeat' (first|refine D8 ?_|refine D6 ?_|refine V8 ?_|refine D9 ?_|refine A7 ?_|refine G8 ?_|refine O3 ?_|refine E5 ?_|refine A8 ?_|refine F5 ?_|refine H8 ?_|refine J9 ?_|refine H5 ?_|refine F7 ?_)
  exact⟨rfl,rfl⟩
 by_cases h3:t= [43]
 ·subst h3
  repeat' (first|refine D8 ?_|refine D6 ?_|refine V8 ?_|refine D9 ?_|refine A7 ?_|refine G8 ?_|refine O3 ?_|refine E5 ?_|refine A8 ?_|refine F5 ?_|refine G5 ?_|refine H8 ?_|refine J9 ?_|refine H5 ?_|refine F7 ?_)
  exact⟨rfl,rfl⟩
 by_cases h4:t= [45]
 ·subst h4
  repeat' (first|refine D8 ?_|refine D6 ?_|refine V8 ?_|refine D9 ?_|refine A7 ?_|refine G8 ?_|refine O3 ?_|refine E5 ?_|refine A8 ?_|refine F5 ?_|refine H8 ?_|refine J9 ?_|refine H5 ?_|refine F7 ?_)
  exact⟨rfl,rfl⟩
 by_cases h5:t= [42]
 ·subst h5
  repeat' (first|refine D8 ?_|refine D6 ?_|refine V8 ?_|refine D9 ?_|refine A7 ?_|refine G8 ?_|refine O3 ?_|refine E5 ?_|refine A8 ?_|refine F5 ?_|refine H8 ?_|refine J9 ?_|refine H5 ?_|refine F7 ?_)
  exact⟨rfl,rfl⟩
 rw[if_neg (by simp[h1,h2]),if_neg (by simp[h3,h4]),if_neg h5];repeat' (first|refine D8 ?_|refine D6 ?_|refine V8 ?_|refine D9 ?_|refine A7 ?_|refine D7 ?_|refine E5 ?_|refine A8 ?_|refine F5 ?_|refine G5 ?_|refine H8 ?_|refine J9 ?_|(refine D5 (ht:=fun _=>?_) (hf:=fun _=>?_)<;>try first|contradiction|omega))
 all_goals first|exact⟨rfl,rfl⟩|(exfalso;simp_all;done)
abbrev B2S (pb:Nat) (la:Option Addr) (lc:Nat) (T:Sp.Src) (deep:Nat) (r:Sp.Ex×Sp.St):Value->P6->List HItem->Prop:=
 fun v I' H'=>(∃ea ec xs,v=.agg [nt r.1.kind,str r.1.name,nt r.1.n,.slice ea r.1.args.length ec,nt r.1.fr,nt r.1.to].toArray/\RowI I' 125 6 (.slice ea r.1.args.length ec) r.1.args.length xs/\Y9 I' r.1.args xs)/\
  ∃da dc,H'=QSt pb la lc T r.2 deep da dc
theorem B9y (s:Sp.St) (e:Nat) (hr:A20 I T la lc) (hT:Ok T) (hi:s.i<=T.l.length) (hd:s.ds.length<1099511627776):
  CalM prog 167 #[ptr pb,nt e] I (QSt pb la lc T s deep da dc) (B2S pb la lc T deep (A9X T s e)):=by
 refine CalM.of fun w E hm=>enter (N:=13) func167 rfl [(0,ptr pb),(1,nt e)] A0R rfl ?_
 repeat' (first|refine F6 ?_ hm (hc:=A4e s e hr hT hi hd);clear hm;rintro _ _ _ _ ⟨rfl,rfl,da',dc',rfl⟩ hle hm;try simp only[F8]at hm|refine U0 ?_ hm (hc:=A1o (s.bad T e) hr);clear hm;intro _ hm|refine S9 (d:=4) ?_ hm;clear hm;intro b4 _ hm|refine N8 ?_ hm;clear hm;intro _ hm;try simp only[F8]at hm|refine Y4 ?_ hm|refine D8 ?_|refine Q4 ?_|refine D9 ?_|refine A7 ?_|refine E5 ?_|refine A8 ?_|refine H8 ?_)
 exact⟨I,_,⟨⟨none,0,[],rfl,A0W _ _ _ _ _,.nil⟩,da',dc',rfl⟩,hm.left (H:= [_,_])⟩
end
abbrev A0C (e:Sp.Ex) (ea:Option Addr) (ec:Nat):List Value:= [nt e.kind,str e.name,nt e.n,.slice ea e.args.length ec,nt e.fr,nt e.to]
abbrev ex0:List Value:= [.int .i64 0,str [],.int .i64 0,.slice none 0 0,.int .i64 0,.int .i64 0]
theorem A6l {I:P6}{e:Sp.Ex}{ea:Option Addr}{ec:Nat}{xs:List Value} (h1:RowI I 125 6 (.slice ea e.args.length ec) e.args.length xs) (h2:Y9 I e.args xs):A67 I e (A0C e ea ec):=by
 cases e with
 |mk k nm n args f t=>exact .of h1 h2
theorem C89 {I:P6}{e1 e2:Sp.Ex}{c1 c2:List Value} (h1:A67 I e1 c1) (h2:A67 I e2 c2):Y9 I [e1,e2] (c1++(c2++ [])):=by
 rw[Y9];exact⟨c1,_,rfl,h1,by rw[Y9];exact⟨c2,[],rfl,h2,.nil⟩⟩
theorem Ok.digs {T:Sp.Src} (h:Ok T) {i:Nat} (hk:(T.tok i).kind=2):∀c∈(T.tok i).text,48<=c.toNat/\c.toNat<=57:=by
 rcases U2 i T.l.length with h1|h1
 ·rw[Sp.Src.tok,O4,G6 h1]at hk |-
  exact h.dig _ (O5 h1) hk
 ·rw[A44 h1]at hk;cases hk
theorem A19 (I:P6):RowI I 127 15 (.slice none ([]:List Sp.Stm).length 0) ([]:List Sp.Stm).length []:=A0W _ _ _ _ _
theorem B0q {I:P6}{s:Sp.Stm}{ea a1 a2:Option Addr}{ec c1 c2:Nat}{ex xs1 xs2:List Value}
  (h2:RowI I 125 6 (.slice ea s.e.args.length ec) s.e.args.length ex) (h3:Y9 I s.e.args ex)
  (h4:RowI I 127 15 (.slice a1 s.thn.length c1) s.thn.length xs1) (h5:X9 I s.thn xs1) (h6:RowI I 127 15 (.slice a2 s.els.length c2) s.els.length xs2) (h7:X9 I s.els xs2):
  A5h I s (A2K s.kind s.name s.at_ s.label s.opn s.e ea ec (.slice a1 s.thn.length c1) (.slice a2 s.els.length c2) s.fr s.to):=by
 cases s with
 |mk k nm a lb o e thn els f t=>exact .of h2 h3 h4 h5 h6 h7
abbrev B8b (n:Nat) (a:Option Addr) (cp:Nat) (xs:List Value):HItem:=.row (.slice a n cp) 127 15 n xs
abbrev B8C (n:Nat) (a:Option Addr) (cp:Nat) (xs:List Value):HItem:=.row (.slice a n cp) 125 6 n xs
abbrev A3Z:Value:=.slice none 0 0
abbrev B50 (l:List Sp.Par) (n:Nat) (a:Option Addr) (c:Nat):HItem:=.row (.slice a n c) 90 3 n (l.flatMap A2N)
abbrev B6d (l:List Sp.Rf) (n:Nat) (a:Option Addr) (c:Nat):HItem:=.row (.slice a n c) 118 2 n (l.flatMap A2X)
abbrev C61 (err:Nat) (its:List Sp.Itm):Value->P6->List HItem->Prop:=fun v I' H'=> ∃a cp xs,v=.tuple #[.agg [.slice a its.length cp].toArray,nt err]/\RowI I' 64 10 (.slice a its.length cp) its.length xs/\A5d I' its xs/\H'= []
abbrev B3n (k:Nat) (a:Option Addr) (cp:Nat) (xs:List Value):HItem:=.row (.slice a k cp) 64 10 k xs
structure ItX where
 I:P6
 da:Option Addr
 dc:Nat
 ap:Option Addr
 cp:Nat
 as_:Option Addr
 cs:Nat
 ab:Option Addr
 cb:Nat
 xb:List Value
abbrev itV (q:Sp.Itm) (x:ItX):List Value:=A1z q.kind q.name q.label (.slice x.ap q.params.length x.cp) (.slice x.as_ q.sends.length x.cs) (.slice x.ab q.body.length x.cb) q.at_ q.size q.mark A3Z
abbrev C8q (it:Sp.Itm):Value->P6->List HItem->Prop:=fun v I' H'=> ∃cs,v=.agg cs.toArray/\A5X I' it cs/\H'= []
end Go.Proofs
namespace Go.Proofs
open Go.Proofs.Tryz
open Go.Sp
open Go Go.Fw
instance :TyMap prog 77 9 64:=⟨by kernel_rfl⟩
instance :TyMap prog 181 3 3:=⟨by kernel_rfl⟩
end Go.Proofs
