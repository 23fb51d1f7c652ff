/- Own work. -/
import Derived.Test.YtbmbnippbldmfaaGreatDoorSn9
import Derived.Lib.AtoiAll
set_option maxHeartbeats 64000000
namespace Go.Sp
theorem C80 (n:Nat) (hn:n<256) (q:Nat) (hq:q<8):(n:Int).fdiv (2 ^ q)=((n / 2 ^ q:Nat):Int)/\(n / 2 ^ q) &&& 1=(bit n q).toNat/\(n|||2 ^ q)=(if bit n q=true then n else n+2 ^ q)/\(n|||2 ^ q)<256:=by
 revert hq;revert q;revert hn;revert n;decide+kernel
theorem C8V (q:Nat) (hq:q<8):(1:Int) *2 ^ q=((2 ^ q:Nat):Int)/\2 ^ q<256:=by
 revert hq;revert q;decide+kernel
def A5i (n:Nat) (c:UInt8):Nat:=if n<=1000000000 then 10 *n+(c.toNat-48) else n
theorem C0T (t:List UInt8):A4v t=t.foldl A5i 0:=rfl
theorem B6O:∀(r:List UInt8) (a:Nat),a<=r.foldl A5i a
 | [],a=>G9 _
 |c::r,a=>by
  rw[A1f];have:=B6O r (A5i a c);have:a<=A5i a c:=by rw[A5i];split<;>omega
  omega
theorem B4i:∀(r:List UInt8) (a:Nat),1000000000<a->r.foldl A5i a=a
 | [],a,_=>rfl
 |c::r,a,h=>by rw[A1f,A5i,if_neg (by omega)];exact B4i r a h
theorem B3O:∀(r:List UInt8) (a:Nat),(∀c∈r,48<=c.toNat/\c.toNat<=57)->r.foldl A5i a<=1000000000->Lib.parseUint10 a r=.ok (r.foldl A5i a)
 | [],a,_,_=>rfl
 |c::r,a,hd,h=>by
  rw[A1f]at h |-;have hc:=hd c Q7;have ha:a<=1000000000:=by
   have:=B6O r (A5i a c);have:a<=A5i a c:=by rw[A5i];split<;>omega
   omega
  have e:A5i a c=a *10+(c.toNat-48):=by rw[A5i,if_pos ha];omega
  rw[Lib.parseUint10,if_pos hc,if_neg (by omega),if_neg (by omega), <-e];exact B3O r _ (fun c hc=>hd c (A0Q _ hc)) h
theorem B8a:∀(r:List UInt8) (a:Nat),(∀c∈r,48<=c.toNat/\c.toNat<=57)->1000000000<r.foldl A5i a->Lib.parseUint10 a r=.range\/∃u,1000000000<u/\Lib.parseUint10 a r=.ok u
 | [],a,_,h=> .inr ⟨a,h,rfl⟩
 |c::r,a,hd,h=>by
  rw[A1f]at h;have hc:=hd c Q7;rw[Lib.parseUint10,if_pos hc];split
  ·exact .inl rfl
  ·split
   ·exact .inl rfl
   ·refine B8a r _ (fun c hc=>hd c (A0Q _ hc)) ?_
    by_cases ha:a<=1000000000
    ·have e:A5i a c=a *10+(c.toNat-48):=by rw[A5i,if_pos ha];omega
     rw[<-e];exact h
    ·rw[B4i r _ (by omega)];omega
theorem B6E (t:List UInt8) (hn:1<=t.length) (hd:∀c∈t,48<=c.toNat/\c.toNat<=57):
  (A4v t<=1000000000->Lib.atoiAll t=.ok (A4v t:Int))/\(1000000000<A4v t->Lib.atoiAll t=.range\/∃v:Int,1000000000<v/\Lib.atoiAll t=.ok v):=by
 rw[C0T];cases t with
 |nil=>simp at hn
 |cons c r=>
  have hc:=hd c Q7;have hp:Lib.parseMag (if c.toNat=43\/c.toNat=45 then r else c::r)=Lib.parseUint10 0 (c::r):=by
   rw[if_neg (by omega),Lib.parseMag,if_neg (by simp)]
  have hneg:¬c.toNat=45:=by omega
  constructor
  ·intro h
   have h1:=B3O (c::r) 0 hd h;simp only[Lib.atoiAll];rw[hp,h1];generalize (c::r).foldl A5i 0=d at h |-;simp only[hneg];simp
   omega
  ·intro h
   simp only[Lib.atoiAll];rw[hp];rcases B8a (c::r) 0 hd h with h1|⟨u,hu,h1⟩
   ·rw[h1];exact .inl rfl
   ·rw[h1]
    simp only[hneg];by_cases h2:9223372036854775808<=u
    ·exact .inl (by simp[h2])
    ·exact .inr ⟨(u:Int),by omega,by simp[h2]⟩
theorem C4o (t:List UInt8):A1i t<=3:=by
 rw[A1i];split
 ·omega
 ·split
  ·omega
  ·split<;>omega
end Go.Sp
namespace Go.Proofs
open Go.Proofs.Tryz
open Go.Sp
open Go.Fw
theorem B0z (c:UInt8) (w:World):
  Cal prog 116 #[.int .u8 (c.toNat:Int)] w fun v w'=>v=.bool (A40 c)/\w'=w:=by
 refine enter (N:=21) func116 rfl [(0,.int .u8 (c.toNat:Int))] A0I rfl ?_
 repeat' (first|refine D8 ?_|refine D6 ?_|refine O9 ?_|refine L8 ?_|refine A6I ?_|refine A04 ?_|refine N9 ?_|refine A0N ?_|(refine N8 (h1:=fun _=>?_) (h0:=fun _=>?_)<;>try first|contradiction|omega)|refine D9 ?_|refine A7 ?_|refine E8 ?_|refine A8 ?_|refine H8 ?_|refine J9 ?_)
 all_goals (refine⟨congrArg Value.bool ?_,rfl⟩;unfold A40;rw[A2I];simp;omega)
theorem B2o (c:UInt8) (w:World):
  Cal prog 117 #[.int .u8 (c.toNat:Int)] w fun v w'=>v=.bool (A4Z c)/\w'=w:=by
 refine enter (N:=9) func117 rfl [(0,.int .u8 (c.toNat:Int))] A0I rfl ?_
 repeat' (first|refine D8 ?_|refine D6 ?_|refine O9 ?_|refine L8 ?_|refine A6I ?_|refine A04 ?_|refine A0N ?_|(refine N8 (h1:=fun _=>?_) (h0:=fun _=>?_)<;>try first|contradiction|omega)|refine D9 ?_|refine A7 ?_|refine E8 ?_|refine A8 ?_|refine H8 ?_|refine J9 ?_)
 all_goals (refine⟨congrArg Value.bool ?_,rfl⟩;unfold A4Z;rw[A2I];simp;omega)
theorem B9X (c:UInt8) (w:World):
  Cal prog 167 #[.int .u8 (c.toNat:Int)] w fun v w'=>v=.bool (A9p c)/\w'=w:=by
 refine enter (N:=13) func167 rfl [(0,.int .u8 (c.toNat:Int))] A0I rfl ?_
 repeat' (first|refine D8 ?_|refine D6 ?_|refine O9 ?_|refine L8 ?_|refine N9 ?_|refine A0N ?_|(refine N8 (h1:=fun _=>?_) (h0:=fun _=>?_)<;>try first|contradiction|omega)|refine D9 ?_|refine A7 ?_|refine E8 ?_|refine A8 ?_|refine H8 ?_|refine J9 ?_)
 all_goals (refine⟨congrArg Value.bool ?_,rfl⟩;unfold A9p;rw[A2I];simp;omega)
theorem C6G (c:UInt8) (w:World):
  Cal prog 170 #[.int .u8 (c.toNat:Int)] w fun v w'=>v=.bool (B5m c)/\w'=w:=by
 refine enter (N:=12) func170 rfl [(0,.int .u8 (c.toNat:Int))] A0I rfl ?_
 repeat' (first|refine D8 ?_|refine D6 ?_|refine D9 ?_|refine A7 ?_|refine E8 ?_|refine A8 ?_|refine F5 ?_)
 refine U2 (fun k=> [(0,.int .u8 (c.toNat:Int)),(4,.int .i64 ((k:Nat):Int))]) (fun k w'=>w'=w/\k<=12/\∀j,j<k->Sp.B4U.getD j 0≠c) (fun k=>12-k) 0 ⟨rfl,rfl,trivial⟩ ⟨rfl,by omega,by omega⟩ ?_
 rintro k w ⟨rfl,hk,hn⟩;repeat' (first|refine D8 ?_|refine D6 ?_|refine J6 ?_|refine N9 ?_|refine P7 ?_|refine A1s ?_|refine D9 ?_|refine A7 ?_|refine G8 ?_|refine H9 ?_|refine D7 ?_|refine O1 ?_|refine H5 ?_|refine E8 ?_|refine A8 ?_|refine F5 ?_|refine G5 ?_|refine P9 ?_|refine H8 ?_|refine J9 ?_|(refine D5 (ht:=fun _=>?_) (hf:=fun _=>?_)<;>try first|contradiction|omega))
 ·refine⟨congrArg Value.bool (Eq.symm ?_),rfl⟩
  rename_i h1 h2
  have h3:Sp.B4U.getD k 0=c:=toNat_inj h2;have h4:k<Sp.B4U.length:=by simp[B4U];omega
  unfold B5m
  rw[A71];refine⟨c,?_,by simp⟩
  rw[<-h3,O4,G6 h4];exact O7 h4
 ·rename_i h1 h2
  refine L9 (k+1) ⟨rfl,rfl,trivial⟩ ⟨rfl,by omega,fun j hj=>?_⟩ (by omega)
  by_cases hjk:j=k
  ·subst hjk;exact fun e=>h2 (by rw[<-e];rfl)
  ·exact hn j (by omega)
 ·refine⟨congrArg Value.bool (Eq.symm ?_),rfl⟩
  rename_i h1
  obtain rfl:k=12:=by omega
  unfold B5m
  rw[A6A];intro x hx;obtain⟨j,hj,rfl⟩:=List.mem_iff_getElem.1 hx;have:=hn j (by simpa[B4U] using hj);rw[O4,G6 hj]at this;simpa using this
theorem C2t (c:UInt8) (w:World):
  Cal prog 168 #[.int .u8 (c.toNat:Int)] w fun v w'=>v=.bool (B5z c)/\w'=w:=by
 refine enter (N:=5) func168 rfl [(0,.int .u8 (c.toNat:Int))] A0I rfl ?_
 repeat' (first|refine D8 ?_|refine D6 ?_|refine A0y ?_|refine D9 ?_|refine A7 ?_|refine E8 ?_|refine A8 ?_|refine H8 ?_|refine J9 ?_)
 all_goals (refine⟨congrArg Value.bool ?_,rfl⟩;unfold B5z;rw[A2I];simp;omega)
theorem C2s (c:UInt8) (w:World):
  Cal prog 169 #[.int .u8 (c.toNat:Int)] w fun v w'=>v=.bool (A5X c)/\w'=w:=by
 refine enter (N:=9) func169 rfl [(0,.int .u8 (c.toNat:Int))] A0I rfl ?_
 repeat' (first|refine A0k (hc:=by exact B0z c _) (k:=?_);rintro _ _ ⟨rfl,rfl⟩|refine A0k (hc:=by exact B2o c _) (k:=?_);rintro _ _ ⟨rfl,rfl⟩|refine D8 ?_|refine D6 ?_|refine O9 ?_|refine L8 ?_|refine A0N ?_|refine B3S (h1:=fun _=>?_) (h0:=fun _=>?_)<;>fail_if_success contradiction|refine D9 ?_|refine A7 ?_|refine E8 ?_|refine A8 ?_|refine H8 ?_|refine J9 ?_)
 all_goals (refine⟨congrArg Value.bool ?_,rfl⟩;unfold A5X;simp[*])
theorem B5c (fi:FuncId) [Own prog fi] (F:UInt8->Bool) (hF:∀c w,Cal prog fi #[.int .u8 (c.toNat:Int)] w fun v w'=>v=.bool (F c)/\w'=w)
  (s:List UInt8) (hs:s≠ []) (hl:s.length<=9223372036854775807) (b:Nat) (w:World) (hb:w.heap[b]?=some (.cells (str s).cells 9 (0,0))):
  Cal prog 166 #[.func (.func fi) #[] #[],.pointer (some ⟨b,0,none⟩)] w fun v w'=>v=.int .i64 (Sp.run F s.tail:Int)/\w'=w:=by
 have hs':0<s.length:=A3S.2 hs;refine enter (N:=19) func166 rfl [(0,.func (.func fi) #[] #[]),(1,.pointer (some ⟨b,0,none⟩))] A0T rfl ?_
 repeat' (first|refine D6 ?_|refine D9 ?_|refine A7 ?_|refine E8 ?_|refine A8 ?_|refine F5 ?_)
 refine U2 (fun k=> [(0,.func (.func fi) #[] #[]),(1,.pointer (some ⟨b,0,none⟩)),(4,.int .i64 ((k:Nat):Int))])
  (fun k w'=>w'=w/\1<=k/\k<=s.length/\∀j,1<=j->j<k->F (s.getD j 0)=true) (fun k=>s.length-k) 1 ⟨rfl,rfl,rfl,trivial⟩ ⟨rfl,by omega,by omega,by omega⟩ ?_
 rintro k w ⟨rfl,hk0,hk,hn⟩;repeat' (first|refine A7s (hc:=by exact hF _ _) (k:=?_);rintro _ _ ⟨rfl,rfl⟩|refine D8 ?_|refine D6 ?_|refine O9 ?_|refine L8 ?_|refine J6 ?_|refine A0G ?_|refine P7 ?_|refine A1s ?_|refine A44 (k:=?_)|refine A0N ?_|(refine N8 (h1:=fun _=>?_) (h0:=fun _=>?_)<;>try first|contradiction|omega)|refine D9 ?_|refine A7 ?_|refine H9 ?_|refine D7 ?_|refine H5 ?_|refine E8 ?_|refine A8 ?_|refine F5 ?_|refine G5 ?_|refine P9 ?_|refine H8 ?_|refine J9 ?_|refine F7 ?_|refine A8r (ht:=fun _=>?_) (hf:=fun _=>?_))
 ·rename_i h1 h2
  refine L9 (k+1) ⟨rfl,rfl,rfl,trivial⟩ ⟨rfl,by omega,by omega,fun j h3 h4=>?_⟩ (by omega)
  by_cases hjk:j=k
  ·subst hjk;exact h2
  ·exact hn j h3 (by omega)
 ·rename_i h1 h2
  refine⟨?_,rfl⟩
  rw[C36 F s k hk0 hn hk (.inr h2)]
 ·rename_i h1
  refine⟨?_,rfl⟩
  rw[C36 F s k hk0 hn hk (.inl (by omega))]
theorem C8b (s:List UInt8) (hs:s≠ []) (hl:s.length<=9223372036854775807) (w:World):
  Cal prog 133 #[str s] w fun v w'=>v=.tuple #[.int .i64 ((Sp.one s).1:Int),.int .i64 ((Sp.one s).2:Int)]/\Kept [] w w':=by
 have hs':0<s.length:=A3S.2 hs;refine enter (N:=32) func133 rfl [(0,str s)] A0I rfl ?_
 repeat' (first|refine C3H (k:=?_);intro b w1 hbe hb hk|refine A0k (hc:=by exact B9X _ _) (k:=?_);rintro _ _ ⟨rfl,rfl⟩|refine A0k (hc:=by exact B0z _ _) (k:=?_);rintro _ _ ⟨rfl,rfl⟩|refine A0k (hc:=by exact B2o _ _) (k:=?_);rintro _ _ ⟨rfl,rfl⟩|refine A0k (hc:=by exact C6G _ _) (k:=?_);rintro _ _ ⟨rfl,rfl⟩|refine A7s (hc:=by exact B5c _ A9p B9X s hs hl _ _ (by assumption)) (k:=?_);rintro _ _ ⟨rfl,rfl⟩|refine A7s (hc:=by exact B5c _ B5z C2t s hs hl _ _ (by assumption)) (k:=?_);rintro _ _ ⟨rfl,rfl⟩|refine A7s (hc:=by exact B5c _ A5X C2s s hs hl _ _ (by assumption)) (k:=?_);rintro _ _ ⟨rfl,rfl⟩|refine A7s (hc:=by exact B5c _ A4Z B2o s hs hl _ _ (by assumption)) (k:=?_);rintro _ _ ⟨rfl,rfl⟩|refine D8 ?_|refine D6 ?_|refine N9 ?_|refine A1o ?_|refine A1s ?_|refine A44 (k:=?_)|refine D9 ?_|refine A7 ?_|refine G8 ?_|refine D7 ?_|refine O1 ?_|refine E8 ?_|refine A8 ?_|refine F5 ?_|refine G5 ?_|refine H8 ?_|refine A1T ?_|(refine D5 (ht:=fun _=>?_) (hf:=fun _=>?_)<;>try first|contradiction|omega)|refine A8r (ht:=fun _=>?_) (hf:=fun _=>?_))
 all_goals
  refine⟨?_,hk⟩
  cases s with
  |nil=>exact absurd rfl hs
  |cons c r=>
   simp only[List.getD_cons_zero,Int.toNat_zero,List.tail_cons]at *;have e:∀m:Nat,((m:Int)=35↔m=35):=fun m=>by omega
   simp_all [Sp.one]
structure TokLoop where
 at_:Nat
 out:Value
 acc:List Sp.Tok
theorem B6H (s:List UInt8) (hl:s.length<=1099511627776) (w:World):
  Cal prog 101 #[str s] w fun v w'=>w'.ownsRow w.heap.size 62 3 v (U8 s).length ((U8 s).flatMap A3G)/\Kept [] w w':=by
 refine enter (N:=36) func101 rfl [(0,str s)] A0I rfl ?_
 repeat' (first|refine D6 ?_|refine D9 ?_|refine A7 ?_|refine E8 ?_|refine A8 ?_|refine F5 ?_)
 refine U2 (fun x:TokLoop=> [(0,str s),(3,x.out),(4,.int .i64 (x.at_:Int))])
  (fun x w'=>x.at_<=s.length/\x.acc.length<=x.at_/\x.acc++A5B s x.at_=U8 s/\w'.ownsRow w.heap.size 62 3 x.out x.acc.length (x.acc.flatMap A3G)/\Kept [] w w')
  (fun x=>s.length-x.at_) ⟨0,.slice none 0 0,[]⟩ ⟨rfl,rfl,rfl,trivial⟩ ⟨by simp,by simp,by simp[A7B],World.ownsRow_nil _ _ _ _,Kept.refl _ _⟩ ?_
 rintro⟨k,out,acc⟩ w1 ⟨hk,hacc,heq,hown,hkept⟩;dsimp only at hk hacc heq hown hkept |-;have hone:=fun h:s.drop k≠ []=>A6F _ h
 have hstep:=fun h:k<s.length=>A5U s k h
 repeat' (first|refine A0k (hc:=by exact C8b (s.drop k) (by simp;omega) (by simp;omega) _) (k:=?_);rintro _ w2 ⟨rfl,hk2⟩;have h1:=hone (by simp;omega);simp only[A0r]at h1|refine A75 (hown:=by exact hk2.own hown (by simp)) (hbase:=by have:=hkept.size;have:=hk2.size;omega) (k:=?_);intro v3 w3 hown3 hk3 hb3|refine D8 ?_|refine D6 ?_|refine J6 ?_|refine A0F ?_|refine A0G ?_|refine W9 ?_|refine P7 ?_|refine B0S ?_|refine A7d ?_|refine Q3 ?_|refine D9 ?_|refine A7 ?_|refine H9 ?_|refine D7 ?_|refine H5 ?_|refine E8 ?_|refine A8 ?_|refine F5 ?_|refine G5 ?_|refine P9 ?_|refine H8 ?_|refine J9 ?_|(refine D5 (ht:=fun _=>?_) (hf:=fun _=>?_)<;>try first|contradiction|omega))
 ·rename_i h0 h2
  have hst:=hstep (by omega);rw[if_pos (by omega)]at hst;refine L9 (⟨k+(Sp.one (s.drop k)).2,v3,acc++ [⟨(Sp.one (s.drop k)).1,(s.drop k).take (Sp.one (s.drop k)).2,k⟩]⟩:TokLoop) (by exact⟨rfl,rfl,rfl,trivial⟩) ?_ ?_
  ·refine⟨by dsimp only;omega,by simp;omega,by rw[<-heq,hst];simp,?_,?_⟩
   ·have e:((k:Int)+((Sp.one (s.drop k)).2:Int)).toNat-(k:Int).toNat=(Sp.one (s.drop k)).2:=by omega
    rw[e]at hown3;simpa[A3G,X9,Value.cells] using hown3
   ·exact(hkept.step0 hk2).step hk3 (fun x hx=> .inr (by
     cases ho:out.ownBlock with
     |none=>simp[ho]at hx
     |some g=>simp[ho]at hx;subst hx;exact(hown.lt _ ho).1))
  ·dsimp only;omega
 ·rename_i h0 h2
  have hst:=hstep (by omega);rw[if_neg (by omega),P5]at hst;refine L9 (⟨k+(Sp.one (s.drop k)).2,out,acc⟩:TokLoop) (by exact⟨rfl,rfl,rfl,trivial⟩) ?_ ?_
  ·exact⟨by dsimp only;omega,by dsimp only;omega,by rw[<-heq,hst],hk2.own hown (by simp),hkept.step0 hk2⟩
  ·dsimp only;omega
 ·rename_i h0
  rw[A6Q s k (by omega),J3]at heq;rw[<-heq];exact⟨hown,hkept⟩
theorem C8c (w:World):Cal prog 82 #[] w fun v w'=>w'.ownsRow w.heap.size 9 1 v 9 (Sp.A5R.map str)/\Kept [] w w':=by
 refine enter (N:=2) func82 rfl [] C6l rfl ?_
 repeat' (first|refine A5E (by rfl) (by rfl) (by rfl) (by rfl) (by rfl) (by decide) ?_;intro b w1 hbe hb hk|refine D6 ?_|refine D9 ?_|refine A7 ?_|refine E8 ?_|refine A8 ?_|refine H8 ?_|refine J9 ?_)
 exact⟨B5I hb (by rfl) (by omega) (by decide),hk⟩
theorem C6H (s:List UInt8) (hl:s.length<=9223372036854775807) (w:World):Cal prog 83 #[str s] w fun v w'=>v=.bool (B0q s)/\w'=w:=by
 refine enter (N:=36) func83 rfl [(0,str s)] A0I rfl ?_
 repeat' (first|refine A0k (hc:=by exact B0z _ _) (k:=?_);rintro _ w ⟨rfl,rfl⟩|refine D8 ?_|refine D6 ?_|refine O9 ?_|refine L8 ?_|refine J6 ?_|refine A0F ?_|refine A0G ?_|refine Y9 ?_|refine A1s ?_|refine A0N ?_|(refine N8 (h1:=fun _=>?_) (h0:=fun _=>?_)<;>try first|contradiction|omega)|refine D9 ?_|refine A7 ?_|refine G8 ?_|refine E8 ?_|refine A8 ?_|refine F5 ?_|refine G5 ?_|refine H8 ?_|refine J9 ?_|refine H6 ?_|refine A8r (ht:=fun _=>?_) (hf:=fun _=>?_))
 ·refine⟨?_,rfl⟩;rename_i h;rw[show B0q s=false by simp[B0q];omega]
 ·refine⟨?_,rfl⟩;rename_i h h1;rw[show B0q s=false by simp[B0q];omega]
 ·refine⟨?_,rfl⟩;rename_i h h1 h2;have h2':A40 (s.getD 0 0)=false:=by simpa using h2
  rw[show B0q s=false by unfold B0q;rw[h2'];simp]
 ·rename_i h0 h1 h2
  have h2':A40 (s.getD 0 0)=true:=by simpa using h2
  refine U2 (fun k=> [(0,str s),(19,.int .i64 (s.length:Int)),(20,.int .i64 ((k:Nat):Int))]) (fun k w'=>w'=w/\k<=s.length/\∀j,j<k->A5X (s.getD j 0)=true) (fun k=>s.length-k) 0 ⟨rfl,rfl,rfl,trivial⟩ ⟨rfl,by omega,by omega⟩ ?_
  rintro k w ⟨rfl,hk,hn⟩;repeat' (first|refine A0k (hc:=by exact B0z _ _) (k:=?_);rintro _ w ⟨rfl,rfl⟩|refine A0k (hc:=by exact B2o _ _) (k:=?_);rintro _ w ⟨rfl,rfl⟩|refine D8 ?_|refine D6 ?_|refine O9 ?_|refine L8 ?_|refine J6 ?_|refine Y9 ?_|refine P7 ?_|refine A1s ?_|refine A0N ?_|refine B3S (h1:=fun _=>?_) (h0:=fun _=>?_)<;>fail_if_success contradiction|refine D9 ?_|refine A7 ?_|refine G8 ?_|refine H9 ?_|refine D7 ?_|refine O1 ?_|refine H5 ?_|refine E8 ?_|refine A8 ?_|refine F5 ?_|refine G5 ?_|refine P9 ?_|refine H8 ?_|refine J9 ?_|refine F7 ?_|(refine D5 (ht:=fun _=>?_) (hf:=fun _=>?_)<;>try first|contradiction|omega)|refine A8r (ht:=fun _=>?_) (hf:=fun _=>?_))
  ·rename_i h3 h4 h5
   refine⟨?_,rfl⟩
   rw[C6f (k:=k) (by omega) (by simp at h4 h5;simp[A5X,h4,h5])]
  ·rename_i h3 h4 h5
   refine L9 (k+1) (by exact⟨rfl,rfl,rfl,trivial⟩) ⟨rfl,by omega,fun j hj=>?_⟩ (by omega)
   by_cases hjk:j=k
   ·subst hjk;simp at h5;simp[A5X,h5]
   ·exact hn j (by omega)
  ·rename_i h3 h4
   refine L9 (k+1) (by exact⟨rfl,rfl,rfl,trivial⟩) ⟨rfl,by omega,fun j hj=>?_⟩ (by omega)
   by_cases hjk:j=k
   ·subst hjk;simp at h4;simp[A5X,h4]
   ·exact hn j (by omega)
  ·rename_i h3
   refine⟨?_,rfl⟩
   have ha:s.all A5X=true:=(B9V _ _).2 (fun j hj=>hn j (by omega));rw[show B0q s=true by unfold B0q;rw[h2',ha];simp;omega]
theorem A8N (s:List UInt8) (hl:s.length<=9223372036854775807) (w:World):Cal prog 51 #[str s] w fun v w'=>v=.bool (Sp.name s)/\Kept [] w w':=by
 refine enter (N:=17) func51 rfl [(0,str s)] A0I rfl ?_
 repeat' (first|refine A0k (hc:=by exact C8c _) (k:=?_);rintro _ w1 ⟨hown,hk1⟩;obtain⟨g,cap,cur,rfl,hbg,hg,hcap,hcur,_⟩:=B3u hown (by decide)|refine D8 ?_|refine D6 ?_|refine G7 ?_|refine D9 ?_|refine A7 ?_|refine E8 ?_|refine A8 ?_|refine F5 ?_)
 refine U2 (fun k=> [(0,str s),(5,.slice (some ⟨g,0,none⟩) 9 cap),(6,.int .i64 9),(7,.int .i64 ((k:Nat):Int))]) (fun k w'=>w'=w1/\k<=9/\∀j,j<k->s≠Sp.A5R.getD j []) (fun k=>9-k) 0 ⟨rfl,rfl,rfl,rfl,trivial⟩ ⟨rfl,by omega,by omega⟩ ?_
 rintro k w1 ⟨rfl,hk,hn⟩;have hcell:k<9->cur[0+(k:Int).toNat *1]?=some (str (Sp.A5R.getD k [])):=fun h=>hcur _ _ (by
  have h9:k<Sp.A5R.length:=h;simp[G6 h9])
 repeat' (first|refine A44 (hc:=by exact hcell (by omega)) (k:=?_)|refine A0k (hc:=by exact C6H s hl _) (k:=?_);rintro _ w ⟨rfl,rfl⟩|refine D8 ?_|refine D6 ?_|refine J6 ?_|refine V9 ?_|refine P7 ?_|refine A0L (k:=?_)|refine D9 ?_|refine A7 ?_|refine G8 ?_|refine H9 ?_|refine D7 ?_|refine O1 ?_|refine H5 ?_|refine E8 ?_|refine A8 ?_|refine F5 ?_|refine G5 ?_|refine P9 ?_|refine H8 ?_|refine J9 ?_|(refine D5 (ht:=fun _=>?_) (hf:=fun _=>?_)<;>try first|contradiction|omega))
 ·rename_i h0 h1
  refine⟨?_,hk1⟩
  have h9:k<Sp.A5R.length:=show k<9 by omega
  have:Sp.A5R.any (fun w=>decide (s=w))=true:=by
   rw[A71];exact⟨_,O7 h9,by rw[h1,O4,G6 h9];simp⟩
  simp only[Sp.name,this,Bool.not_true,Bool.false_and]
 ·rename_i h0 h1
  refine L9 (k+1) (by exact⟨rfl,rfl,rfl,rfl,trivial⟩) ⟨rfl,by omega,fun j hj=>?_⟩ (by omega)
  by_cases hjk:j=k
  ·subst hjk;exact h1
  ·exact hn j (by omega)
 ·rename_i h0
  refine⟨?_,hk1⟩
  have:Sp.A5R.any (fun w=>decide (s=w))=false:=by
   rw[A6A];intro x hx;obtain⟨j,hj,rfl⟩:=List.mem_iff_getElem.1 hx;have:=hn j (by have:j<9:=hj;omega);rw[O4,G6 hj]at this;simpa using this
  simp only[Sp.name,this,Bool.not_false,A5O]
structure CLoop where
 at_:Nat
 out:Value
 acc:List Nat
theorem C2r (s:List UInt8) (hl:s.length<=1099511627776) (w:World):
  Cal prog 70 #[str s] w fun v w'=>w'.ownsRow w.heap.size 3 1 v (Y2 s).length ((Y2 s).flatMap A1t)/\Kept [] w w':=by
 refine enter (N:=53) func70 rfl [(0,str s)] A0I rfl ?_
 repeat' (first|refine A0k (hc:=by exact B6H s hl _) (k:=?_);rintro tv w1 ⟨htv,hk1⟩;obtain⟨ta,tc,rfl⟩:=A3D htv|refine D8 ?_|refine D6 ?_|refine G7 ?_|refine D9 ?_|refine A7 ?_|refine E8 ?_|refine A8 ?_|refine F5 ?_)
 have htl:=A7C s;refine U2 (fun x:CLoop=> [(0,str s),(3,x.out),(8,.slice ta (U8 s).length tc),(9,.int .i64 ((U8 s).length:Int)),(10,.int .i64 (x.at_:Int))])
  (fun x w'=>x.at_<=(U8 s).length/\x.acc.length<=x.at_/\x.acc=((U8 s).take x.at_).foldl (A15 s) []/\w'.ownsRow w1.heap.size 3 1 x.out x.acc.length (x.acc.flatMap A1t)/\Kept [] w1 w')
  (fun x=>(U8 s).length-x.at_) ⟨0,.slice none 0 0,[]⟩ ⟨rfl,rfl,rfl,rfl,rfl,trivial⟩ ⟨by simp,by simp,by simp,World.ownsRow_nil _ _ _ _,Kept.refl _ _⟩ ?_
 rintro⟨k,out,acc⟩ w2 ⟨hk,hacc,heq,hown,hkept⟩;dsimp only at hk hacc heq hown hkept |-;by_cases hlt:k<(U8 s).length
 ·obtain⟨g,cap,cur,htve,hbg,hg,hcap,hcur,hsz⟩:=B3u htv (by omega)
  injection htve with e1 e2 e3
  subst e1;have hg2:=hkept.get0 hg;have htok:(U8 s)[k]?=some (U8 s)[k]:=G6 hlt;have hok:=A2E s _ (O7 hlt);have hfold:=C09 (A15 s) [] _ _ _ htok;have hcell:∀(j:Nat) (v:Value),(A3G (U8 s)[k])[j]?=some v->cur[0+(k:Int).toNat *3+j]?=some v:=fun j v hv=>by
   rw[show 0+(k:Int).toNat *3+j=k *3+j by omega];exact hcur _ _ (B8A _ _ _ htok j v hv)
  generalize (U8 s)[k]=t at htok hok hfold hcell;have hp1:=hok.pos;obtain⟨oa,oc,rfl⟩:=A3D hown;repeat' (first|refine B3q (vs:=A3G t) (hb:=hg2) (hc:=hcell) (k:=?_)|refine C3K (k:=?_);intro b w3 hbe hb hkb|refine A75 (hown:=by exact hkb.own hown (by simp)) (hbase:=by have:=hkept.size;have:=hkb.size;omega) (k:=?_);intro v3 w4 hown3 hk3 hb3|refine D8 ?_|refine D6 ?_|refine O9 ?_|refine L8 ?_|refine J6 ?_|refine N9 ?_|refine V9 ?_|refine G7 ?_|refine P7 ?_|refine A3i ?_|refine A1s ?_|refine C9 ?_|refine A0L (k:=?_)|refine A44 (k:=?_)|refine A0N ?_|(refine N8 (h1:=fun _=>?_) (h0:=fun _=>?_)<;>try first|contradiction|omega)|refine D9 ?_|refine A7 ?_|refine D7 ?_|refine E8 ?_|refine A8 ?_|refine F5 ?_|refine G5 ?_|refine H6 ?_|(refine D5 (ht:=fun _=>?_) (hf:=fun _=>?_)<;>try first|contradiction|omega))
  all_goals
   have e10:((t.pos:Int)-1).toNat=t.pos-1:=by omega
   rw[<-heq]at hfold
  all_goals first
   |(have hst:A97 s t=true\/acc= []:=by
      simp only[A97,U9,Bool.or_eq_true,decide_eq_true_eq, <-e10];simp only[Sp.wFn,C4x];first
       |exact .inr (A00 (by omega))
       |exact .inl ⟨⟨by omega,.inl (by assumption)⟩,by omega⟩
       |exact .inl ⟨⟨by omega,.inr (by assumption)⟩,by omega⟩
     rw[A15,if_pos hst]at hfold;refine L9 (⟨k+1,v3,acc++ [t.pos]⟩:CLoop) (by exact⟨rfl,rfl,rfl,rfl,rfl,trivial⟩) ?_ (by dsimp only;omega)
     refine⟨by dsimp only;omega,by simp;omega,hfold.symm,?_,?_⟩
     ·simpa[A1t,X9,Value.cells,A3G] using hown3
     ·exact(hkept.step0 hkb).step hk3 (fun x hx=> .inr (by
      cases oa with
      |none=>simp[Value.ownBlock]at hx
      |some a=>simp[Value.ownBlock]at hx;subst hx;exact(hown.lt _ rfl).1)))
   |(have hst:¬(A97 s t=true\/acc= []):=by
      rintro(h|h)
      ·simp only[A97,U9,Bool.or_eq_true,decide_eq_true_eq, <-e10]at h
       simp only[Sp.wFn,C4x]at h;obtain⟨⟨h1,h2⟩,h3⟩:=h;rcases h2 with h2|h2<;>first|omega|exact absurd h2 (by assumption)
      ·have h0:acc.length=0:=by rw[h];rfl
       omega
     rw[A15,if_neg hst]at hfold;refine L9 (⟨k+1,.slice oa acc.length oc,acc⟩:CLoop) (by exact⟨rfl,rfl,rfl,rfl,rfl,trivial⟩) ?_ (by dsimp only;omega)
     exact⟨by dsimp only;omega,by dsimp only;omega,hfold.symm,hkb.own hown (by simp),hkept.step0 hkb⟩)
 ·have hkk:k=(U8 s).length:=by omega
  have hcs:Y2 s=acc:=by rw[heq,hkk,V5];rfl
  repeat' (first|refine D8 ?_|refine D6 ?_|refine J6 ?_|refine D9 ?_|refine A7 ?_|refine H9 ?_|refine H5 ?_|refine E8 ?_|refine A8 ?_|refine P9 ?_|refine H8 ?_|refine J9 ?_|(refine D5 (ht:=fun _=>?_) (hf:=fun _=>?_)<;>try first|contradiction|omega))
  rw[hcs];exact⟨A32 hown hk1.size,hk1.trans hkept⟩
abbrev ToQ (pb:Nat) (la:Option Addr) (lc:Nat) (T:Sp.Src) (deep:Nat) (I:P6) (s:Sp.St) (val:Value):Value->P6->List HItem->Prop:=
 fun v I' H'=>v=val/\I=I'/\∃da dc,H'=QSt pb la lc T s deep da dc
theorem B6n (pb:Nat) (la:Option Addr) (lc:Nat) (T:Sp.Src) (s:Sp.St) (g:Sp.Dg) (deep:Nat) (da:Option Addr) (dc:Nat):
  [.obj pb (.cells [.slice la T.l.length lc,nt s.i,nt T.size,.slice da (s.ds.length+1) dc,nt deep].toArray 203 (0,0)),.row (.slice da (s.ds.length+1) dc) 85 4 (s.ds.length+1) (s.ds.flatMap A5G++A5G g)]=QSt pb la lc T ⟨s.i,s.ds++ [g]⟩ deep da dc:=by
 simp
section
variable {I:P6}{pb deep lc dc:Nat}{la da:Option Addr}{T:Sp.Src}
theorem A1h (s:Sp.St) (t:List UInt8) (_ht:t≠ []) (hr:A2Y I T la lc) (hT:Ok T) (hi:s.i<=T.l.length):
  CalM prog 102 #[ptr pb,str t] I (QSt pb la lc T s deep da dc) (ToQ pb la lc T deep I (if T.is s.i t=true then s.next else s) (.bool (T.is s.i t))):=by
 refine CalM.of fun w E hm=>enter (N:=28) func102 rfl [(0,ptr pb),(1,str t)] A0T rfl ?_
 have h2:=hT.size;have h3:=hT.len;by_cases hq:T.is s.i t=true
 ·have hlt:=A1H hq
  have hte:(T.tok s.i).text=t:=by simp only[Sp.Src.is,U9,decide_eq_true_eq]at hq;exact hq.2
  rw[if_pos hq,hq];have hpk:=A2B (pb:=pb) (deep:=deep) (da:=da) (dc:=dc) s hr;rw[hte]at hpk;repeat' (first|refine A0n ?_ hm (hc:=hpk)|refine J4 ?_ hm|refine V3 ?_ hm|refine O6 hm (k:=?_);clear hm;intro _ hm;try simp only[F9]at hm|refine D8 ?_|refine D6 ?_|refine E5 ?_|refine P7 ?_|refine C9 ?_|refine D9 ?_|refine A7 ?_|refine E8 ?_|refine A8 ?_|refine G5 ?_|refine H8 ?_|refine J9 ?_|refine U5 ?_|refine A0j ?_;intro _ hkq;replace hm:=hm.kept0 hkq;clear hkq|(refine D5 (ht:=fun _=>?_) (hf:=fun _=>?_)<;>try first|contradiction|omega)|refine X5 ?_|refine A09 ?_|refine A62 ?_|refine A1M ?_|refine V4 ?_|refine O8 ?_|refine L6 ?_|(refine Y6 (fun _=>?_) (h1:=fun _=>?_)<;>try first|contradiction|omega))
  all_goals try (exfalso;first|omega|simp_all;done)
  exact⟨I,_,⟨rfl,rfl,da,dc,rfl⟩,hm⟩
 ·rw[if_neg hq,show T.is s.i t=false by simpa using hq]
  by_cases hlt:s.i<T.l.length
  ·have hte:(T.tok s.i).text≠t:=by
    intro e;exact hq (by simp[Sp.Src.is,hlt,e])
   repeat' (first|refine A0n ?_ hm (hc:=A2B s hr)|refine D6 ?_|refine D9 ?_|refine A7 ?_|refine G8 ?_|refine E8 ?_|refine A8 ?_|refine H8 ?_|refine J9 ?_|refine U5 ?_|refine A0j ?_;intro _ hkq;replace hm:=hm.kept0 hkq;clear hkq|refine H6 ?_|refine X5 ?_|refine A0p ?_|refine A1M ?_|refine A38 ?_|(refine Y6 (fun _=>?_) (h1:=fun _=>?_)<;>try first|contradiction|omega))
   all_goals try (exfalso;first|omega|simp_all;done)
   all_goals exact⟨I,_,⟨rfl,rfl,da,dc,rfl⟩,hm⟩
  ·have hei:s.i=T.l.length:=by omega
   repeat' (first|refine A0n ?_ hm (hc:=A2B s hr)|refine V3 ?_ hm|refine D6 ?_|refine D9 ?_|refine A7 ?_|refine G8 ?_|refine E8 ?_|refine A8 ?_|refine H8 ?_|refine J9 ?_|refine U5 ?_|refine A0j ?_;intro _ hkq;replace hm:=hm.kept0 hkq;clear hkq|refine H6 ?_|(refine D5 (ht:=fun _=>?_) (hf:=fun _=>?_)<;>try first|contradiction|omega)|refine X5 ?_|refine A0p ?_|refine A09 ?_|refine A62 ?_|refine A1M ?_|refine V4 ?_|refine O8 ?_|refine L6 ?_|refine A38 ?_|(refine Y6 (fun _=>?_) (h1:=fun _=>?_)<;>try first|contradiction|omega))
   all_goals try (exfalso;first|omega|simp_all;done)
   all_goals exact⟨I,_,⟨rfl,rfl,da,dc,rfl⟩,hm⟩
theorem A4g (s:Sp.St) (e:Nat) (hr:A2Y I T la lc) (hT:Ok T) (hi:s.i<=T.l.length) (hd:s.ds.length<1099511627776):
  CalM prog 108 #[ptr pb,nt e] I (QSt pb la lc T s deep da dc) (ToQ pb la lc T deep I (s.bad T e) (.tuple #[])):=by
 refine CalM.of fun w E hm=>enter (N:=59) func108 rfl [(0,ptr pb),(1,nt e)] A0T rfl ?_
 have h1:=hT.at_ s.i;have h2:=hT.size;have h3:=hT.len;by_cases hlt:s.i<T.l.length
 ·have htk:=A37 hlt
  repeat' (first|refine Z7 ?_ (hr:=by exact hr) (he:=by intro _;rfl) (hz:=by exact htk);intro b1 o1 hp1|refine A0m (id:=3) (hm.perm pm1_1) [0,1,2,3,4,5,7,8,9] [6,10,11,12,13] 14 (h:=?_);clear hm;intro wd hR hm|refine A3p (d:=53) ?_ hR hm (hc:=A2B s hr);clear hm;intro _ hm|refine A3p (d:=49) ?_ hR hm (hc:=A1q s hr);clear hm;intro _ hm|refine Y3 ?_ hR|refine A9w ?_ hm|refine A1U (d:=56) ?_ hm;clear hm;intro a56 cp56 _ _ hm;replace hm:=hR.back hm;clear hR;try simp only[F9]at hm|refine J4 ?_ hm|refine V3 ?_ hm|refine A0q ?_ hm|refine O6 hm (k:=?_);clear hm;intro _ hm;try simp only[F9]at hm|refine D8 ?_|refine D6 ?_|refine E5 ?_|refine C9 ?_|refine D9 ?_|refine A7 ?_|refine E8 ?_|refine A8 ?_|refine X0 ?_|refine U5 ?_|refine A0j ?_;intro _ hkq;replace hm:=hm.kept0 hkq;clear hkq|(refine D5 (ht:=fun _=>?_) (hf:=fun _=>?_)<;>try first|contradiction|omega)|refine X5 ?_|refine A1X ?_|refine A2y ?_|refine C1M ?_|refine V4 ?_|refine O8 ?_|refine A9W ?_|refine L6 ?_|refine Z4 ?_|refine O5 ?_|refine J8 ?_|refine A0b ?_)
  exact⟨I,_,⟨rfl,rfl,_,_,B6n _ _ _ _ _ ⟨_,_,_,_⟩ _ _ _⟩,hm.swap⟩
 ·have he:T.tok s.i=⟨0,[],T.size⟩:=A48 (by omega)
  rw[Sp.St.bad,he];have hpk:=A2B (pb:=pb) (deep:=deep) (da:=da) (dc:=dc) s hr;have hhr:=A1q (pb:=pb) (deep:=deep) (da:=da) (dc:=dc) s hr;rw[he]at hpk hhr;repeat' (first|refine A0m (id:=3) (hm.perm pm1_1) [0,1,2,3,4,5,7,8,9] [6,10,11,12,13] 14 (h:=?_);clear hm;intro wd hR hm|refine A3p (d:=53) ?_ hR hm (hc:=hpk);clear hm;intro _ hm|refine A3p (d:=49) ?_ hR hm (hc:=hhr);clear hm;intro _ hm|refine Y3 ?_ hR|refine A9w ?_ hm|refine A1U (d:=56) ?_ hm;clear hm;intro a56 cp56 _ _ hm;replace hm:=hR.back hm;clear hR;try simp only[F9]at hm|refine J4 ?_ hm|refine V3 ?_ hm|refine O6 hm (k:=?_);clear hm;intro _ hm;try simp only[F9]at hm|refine D8 ?_|refine D6 ?_|refine E5 ?_|refine C9 ?_|refine D9 ?_|refine A7 ?_|refine E8 ?_|refine A8 ?_|refine G5 ?_|refine X0 ?_|refine U5 ?_|refine A0j ?_;intro _ hkq;replace hm:=hm.kept0 hkq;clear hkq|(refine D5 (ht:=fun _=>?_) (hf:=fun _=>?_)<;>try first|contradiction|omega)|refine X5 ?_|refine A2y ?_|refine V4 ?_|refine O8 ?_|refine L6 ?_|refine Z4 ?_|refine O5 ?_|refine J8 ?_|refine A0b ?_)
  exact⟨I,_,⟨rfl,rfl,_,_,B6n _ _ _ _ _ ⟨_,_,_,_⟩ _ _ _⟩,hm.swap⟩
end
structure QLab where
 f:Nat
 n:Nat
 s:Sp.St
 da:Option Addr
 dc:Nat
section
variable {I:P6}{pb deep lc dc:Nat}{la da:Option Addr}{T:Sp.Src}
theorem A2T (s:Sp.St) (t:List UInt8) (ht:t≠ []) (hr:A2Y I T la lc) (hT:Ok T) (hd:s.ds.length<1099511627776) (hi:s.i<=T.l.length):
  CalM prog 106 #[ptr pb,str t] I (QSt pb la lc T s deep da dc) (ToQ pb la lc T deep I (s.need T t).2 (.bool (s.need T t).1)):=by
 refine CalM.of fun w E hm=>enter (N:=10) func106 rfl [(0,ptr pb),(1,str t)] A0T rfl ?_
 have he:=A1h (pb:=pb) (deep:=deep) (da:=da) (dc:=dc) s t ht hr hT hi;rw[Sp.St.need];by_cases hq:T.is s.i t=true
 ·rw[if_pos hq,hq]at he
  rw[if_pos hq];repeat' (first|refine F6 ?_ hm (hc:=he);clear hm;rintro _ _ _ _ ⟨rfl,rfl,da1,dc1,rfl⟩ hle hm;try simp only[F9]at hm|refine D8 ?_|refine D6 ?_|refine D9 ?_|refine A7 ?_|refine G8 ?_|refine E8 ?_|refine A8 ?_|refine H8 ?_|refine J9 ?_|refine H6 ?_)
  exact⟨I,_,⟨rfl,rfl,da1,dc1,rfl⟩,hm⟩
 ·rw[if_neg hq,show T.is s.i t=false by simpa using hq]at he
  rw[if_neg hq];repeat' (first|refine F6 ?_ hm (hc:=he);clear hm;rintro _ _ _ _ ⟨rfl,rfl,da1,dc1,rfl⟩ hle hm;try simp only[F9]at hm|refine F6 ?_ hm (hc:=A4g s 2 hr hT hi hd);clear hm;rintro _ _ _ _ ⟨rfl,rfl,da2,dc2,rfl⟩ hle hm;try simp only[F9]at hm|refine D8 ?_|refine D6 ?_|refine D9 ?_|refine A7 ?_|refine E8 ?_|refine A8 ?_|refine G5 ?_|refine H8 ?_|refine J9 ?_|refine F7 ?_)
  exact⟨I,_,⟨rfl,rfl,da2,dc2,rfl⟩,hm⟩
theorem A87 (s:Sp.St) (hr:A2Y I T la lc) (hT:Ok T) (hd:s.ds.length<1099511627776) (hi:s.i<=T.l.length):
  CalM prog 105 #[ptr pb] I (QSt pb la lc T s deep da dc) (ToQ pb la lc T deep I (s.named T).2 (str (s.named T).1)):=by
 refine CalM.of fun w E hm=>enter (N:=55) func105 rfl [(0,ptr pb)] A0I rfl ?_
 have h1:=hT.at_ s.i;have h2:=hT.size;have h3:=hT.len;rw[Sp.St.named];have hn:=A8N (T.tok s.i).text (by omega);by_cases hname:Sp.name (T.tok s.i).text=true
 ·rw[if_pos hname]
  rw[hname]at hn;have hlt:=A2e (A56 hname);repeat' (first|refine S9 ?_ hm (hc:=A2B s hr);clear hm;intro _ hm|refine A0k (hc:=by exact hn _) (k:=?_);rintro _ _ ⟨rfl,hk⟩;replace hm:=hm.kept0 hk|refine J4 ?_ hm|refine O6 hm (k:=?_);clear hm;intro _ hm;try simp only[F9]at hm|refine D8 ?_|refine D6 ?_|refine Y9 ?_|refine E5 ?_|refine P7 ?_|refine C9 ?_|refine D9 ?_|refine A7 ?_|refine E8 ?_|refine A8 ?_|refine G5 ?_|refine H8 ?_|refine J9 ?_|refine F7 ?_)
  exact⟨I,_,⟨rfl,rfl,da,dc,rfl⟩,hm⟩
 ·have hname':Sp.name (T.tok s.i).text=false:=by simpa using hname
  rw[if_neg hname];rw[hname']at hn;by_cases hk:(T.tok s.i).kind=1
  ·rw[if_pos hk]
   have hlt:=B2a (T:=T) (i:=s.i) (by omega);have hbi:(s.bad T 7).i=s.i:=rfl;have htk:=A37 hlt;repeat' (first|refine S9 ?_ hm (hc:=A2B s hr);clear hm;intro _ hm|refine A0k (hc:=by exact hn _) (k:=?_);rintro _ _ ⟨rfl,hk2⟩;replace hm:=hm.kept0 hk2|refine Z7 ?_ (hr:=by exact hr) (he:=by intro _;rfl) (hz:=by exact htk);intro b1 o1 hp1|refine F6 ?_ hm (hc:=A4g s 7 hr hT hi hd);clear hm;rintro _ _ _ _ ⟨rfl,rfl,da2,dc2,rfl⟩ hle hm;try simp only[F9]at hm|refine J4 ?_ hm|refine V3 ?_ hm|refine A0q ?_ hm|refine O6 hm (k:=?_);clear hm;intro _ hm;try simp only[F9]at hm|refine D8 ?_|refine D6 ?_|refine Y9 ?_|refine E5 ?_|refine P7 ?_|refine C9 ?_|refine D9 ?_|refine A7 ?_|refine G8 ?_|refine E8 ?_|refine A8 ?_|refine H8 ?_|refine J9 ?_|refine U5 ?_|refine A0j ?_;intro _ hkq;replace hm:=hm.kept0 hkq;clear hkq|refine H6 ?_|(refine D5 (ht:=fun _=>?_) (hf:=fun _=>?_)<;>try first|contradiction|omega)|refine X5 ?_|refine A0p ?_|refine A2y ?_|refine A62 ?_|refine V4 ?_|refine O8 ?_|refine L6 ?_|(refine Y6 (fun _=>?_) (h1:=fun _=>?_)<;>try first|contradiction|omega))
   exact⟨I,_,⟨rfl,rfl,da2,dc2,rfl⟩,hm⟩
  ·rw[if_neg hk]
   by_cases hlt:s.i<T.l.length
   ·have htk:=A37 hlt
    repeat' (first|refine S9 ?_ hm (hc:=A2B s hr);clear hm;intro _ hm|refine A0k (hc:=by exact hn _) (k:=?_);rintro _ _ ⟨rfl,hk2⟩;replace hm:=hm.kept0 hk2|refine Z7 ?_ (hr:=by exact hr) (he:=by intro _;rfl) (hz:=by exact htk);intro b1 o1 hp1|refine F6 ?_ hm (hc:=A4g s 2 hr hT hi hd);clear hm;rintro _ _ _ _ ⟨rfl,rfl,da2,dc2,rfl⟩ hle hm;try simp only[F9]at hm|refine V3 ?_ hm|refine A0q ?_ hm|refine D8 ?_|refine D6 ?_|refine Y9 ?_|refine D9 ?_|refine A7 ?_|refine G8 ?_|refine E8 ?_|refine A8 ?_|refine G5 ?_|refine H8 ?_|refine J9 ?_|refine U5 ?_|refine A0j ?_;intro _ hkq;replace hm:=hm.kept0 hkq;clear hkq|refine H6 ?_|(refine D5 (ht:=fun _=>?_) (hf:=fun _=>?_)<;>try first|contradiction|omega)|refine X5 ?_|refine A0p ?_|refine A2y ?_|refine A62 ?_|refine V4 ?_|refine O8 ?_|refine L6 ?_|(refine Y6 (fun _=>?_) (h1:=fun _=>?_)<;>try first|contradiction|omega))
    exact⟨I,_,⟨rfl,rfl,da2,dc2,rfl⟩,hm⟩
   ·skip
    repeat' (first|refine S9 ?_ hm (hc:=A2B s hr);clear hm;intro _ hm|refine A0k (hc:=by exact hn _) (k:=?_);rintro _ _ ⟨rfl,hk2⟩;replace hm:=hm.kept0 hk2|refine F6 ?_ hm (hc:=A4g s 2 hr hT hi hd);clear hm;rintro _ _ _ _ ⟨rfl,rfl,da2,dc2,rfl⟩ hle hm;try simp only[F9]at hm|refine V3 ?_ hm|refine D8 ?_|refine D6 ?_|refine Y9 ?_|refine D9 ?_|refine A7 ?_|refine G8 ?_|refine E8 ?_|refine A8 ?_|refine G5 ?_|refine H8 ?_|refine J9 ?_|refine U5 ?_|refine A0j ?_;intro _ hkq;replace hm:=hm.kept0 hkq;clear hkq|refine H6 ?_|refine F7 ?_|refine X5 ?_|refine A09 ?_|refine A2y ?_|refine V4 ?_|refine O8 ?_|refine L6 ?_|refine A38 ?_|(refine Y6 (fun _=>?_) (h1:=fun _=>?_)<;>try first|contradiction|omega))
    exact⟨I,_,⟨rfl,rfl,da2,dc2,rfl⟩,hm⟩
theorem B2w (s:Sp.St) (hr:A2Y I T la lc) (hT:Ok T) (hi:s.i<=T.l.length) (hd:s.ds.length+2 *(T.l.length-s.i)+2<=1099511627776):
  CalM prog 107 #[ptr pb] I (QSt pb la lc T s deep da dc) (ToQ pb la lc T deep I (Sp.lab T s).2 (nt (Sp.lab T s).1)):=by
 refine CalM.of fun w E hm=>enter (N:=61) func107 rfl [(0,ptr pb)] A0I rfl ?_
 have h2:=hT.size;have h3:=hT.len;have hn:=A2T (pb:=pb) (deep:=deep) (da:=da) (dc:=dc) s [123] (by simp) hr hT (by omega) hi;rw[Sp.lab];rw[Sp.St.need]at hn;by_cases hq:T.is s.i [123]=true
 case neg=>
  rw[if_neg hq];rw[if_neg hq]at hn;repeat' (first|refine F6 ?_ hm (hc:=hn);clear hm;rintro _ _ _ _ ⟨rfl,rfl,da',dc',rfl⟩ hle hm;try simp only[F9]at hm|refine D8 ?_|refine D6 ?_|refine Y9 ?_|refine D9 ?_|refine A7 ?_|refine G8 ?_|refine E8 ?_|refine A8 ?_|refine H8 ?_|refine J9 ?_|refine H6 ?_)
  exact⟨I,_,⟨rfl,rfl,da',dc',rfl⟩,hm⟩
 rw[if_pos hq];rw[if_pos hq]at hn;have hlt:=A1H hq;repeat' (first|refine F6 ?_ hm (hc:=hn);clear hm;rintro _ _ _ _ ⟨rfl,rfl,da',dc',rfl⟩ hle hm;try simp only[F9]at hm|refine D8 ?_|refine D6 ?_|refine Y9 ?_|refine D9 ?_|refine A7 ?_|refine E8 ?_|refine A8 ?_|refine F5 ?_|refine G5 ?_|refine F7 ?_)
 refine U2 (fun x:QLab=> [(0,ptr pb),(3,nt x.n)])
  (fun x w'=>Mem E I (QSt pb la lc T x.s deep x.da x.dc) w'/\B2g T x.f x.n x.s=B2g T (T.l.length+1) 0 s.next/\T.l.length-x.s.i<x.f/\x.s.i<=T.l.length/\x.n<256/\x.s.ds.length+2 *(T.l.length-x.s.i)+1<=1099511627776)
  (fun x=>T.l.length-x.s.i) ⟨T.l.length+1,0,s.next,da',dc'⟩ (by exact⟨rfl,rfl,trivial⟩) ⟨hm,rfl,by dsimp only;omega,by dsimp only;rw[Q5];omega,by simp,by dsimp only;rw[Q5,A0V];omega⟩ ?_
 clear hm hn;rintro⟨f,n,s2,da2,dc2⟩ w2 ⟨hm,hL,hf,hi2,hn2,hr2⟩;dsimp only at hm hL hf hi2 hn2 hr2 |-;obtain⟨f,rfl⟩:∃f',f=f'+1:=⟨f-1,by omega⟩;rw[B2g]at hL;have hqe:=A1h (pb:=pb) (deep:=deep) (da:=da2) (dc:=dc2) s2 [125] (by simp) hr hT hi2;by_cases hend:T.is s2.i [125]=true
 ·rw[if_pos hend]at hL
  rw[<-hL];rw[if_pos hend,hend]at hqe;have hlt2:=A1H hend;repeat' (first|refine F6 ?_ hm (hc:=hqe);clear hm;rintro _ _ _ _ ⟨rfl,rfl,da3,dc3,rfl⟩ hle hm;try simp only[F9]at hm|refine D8 ?_|refine D6 ?_|refine Y9 ?_|refine D9 ?_|refine A7 ?_|refine H9 ?_|refine H5 ?_|refine E8 ?_|refine A8 ?_|refine P9 ?_|refine H8 ?_|refine J9 ?_|refine F7 ?_)
  exact⟨I,_,⟨rfl,rfl,da3,dc3,rfl⟩,hm⟩
 have hend':T.is s2.i [125]=false:=by simpa using hend
 rw[if_neg hend]at hL;rw[if_neg hend,hend']at hqe;dsimp only at hL;have h1:=hT.at_ s2.i;have htg:C1Z (T.tok s2.i).text=decide ((T.tok s2.i).text.length=1/\97<=((T.tok s2.i).text.getD (0:Int).toNat 0).toNat/\((T.tok s2.i).text.getD (0:Int).toNat 0).toNat<=104):=by
  rw[C1Z,Bool.decide_and,Bool.decide_and];rfl
 by_cases hgood:C1Z (T.tok s2.i).text=true
 case neg=>
  have hgood':C1Z (T.tok s2.i).text=false:=by simpa using hgood
  rw[hgood']at hL;simp only[Bool.not_false,if_true]at hL;rw[<-hL];rw[htg,decide_eq_false_iff_not]at hgood';repeat' (first|refine F6 ?_ hm (hc:=hqe);clear hm;rintro _ _ _ _ ⟨rfl,rfl,da4,dc4,rfl⟩ hle hm;try simp only[F9]at hm|refine S9 ?_ hm (hc:=A2B s2 hr);clear hm;intro _ hm|refine F6 ?_ hm (hc:=A4g s2 2 hr hT hi2 (by omega));clear hm;rintro _ _ _ _ ⟨rfl,rfl,da3,dc3,rfl⟩ hle hm;try simp only[F9]at hm|refine D8 ?_|refine D6 ?_|refine O9 ?_|refine L8 ?_|refine J6 ?_|refine A0F ?_|refine A0y ?_|refine A0G ?_|refine Y9 ?_|refine A1s ?_|refine A0N ?_|(refine N8 (h1:=fun _=>?_) (h0:=fun _=>?_)<;>try first|contradiction|omega)|refine D9 ?_|refine A7 ?_|refine G8 ?_|refine O1 ?_|refine E8 ?_|refine A8 ?_|refine F5 ?_|refine G5 ?_|refine H8 ?_|refine J9 ?_|refine H6 ?_|(refine D5 (ht:=fun _=>?_) (hf:=fun _=>?_)<;>try first|contradiction|omega))
  all_goals first
   |exact⟨I,_,⟨rfl,rfl,da3,dc3,rfl⟩,hm⟩
   |(exfalso;omega)
 rw[hgood]at hL;have hlt2:s2.i<T.l.length:=A2e (by intro e;rw[e]at hgood;revert hgood;decide);rw[htg,decide_eq_true_eq]at hgood;have hce:(T.tok s2.i).text.getD (0:Int).toNat 0=(T.tok s2.i).text.getD 0 0:=rfl;rw[hce]at hgood;generalize hcc:(T.tok s2.i).text.getD 0 0=c at hgood hL hce;obtain⟨q,hqq⟩:∃q,q=c.toNat-97:=⟨_,rfl⟩;rw[<-hqq]at hL;have hq8:q<8:=by omega
 obtain⟨hfd,hb1,hor,hor2⟩:=C80 n hn2 q hq8;obtain⟨hp1,hp2⟩:=C8V q hq8;have hbq:((c.toNat:Int)-97).toNat=q:=by omega
 have hdl:n / 2 ^ q<=n:=Nat.div_le_self _ _;simp only[Bool.not_true,A6y,if_false]at hL;generalize n / 2 ^ q=m at hfd hb1 hdl;obtain⟨s3,hs3⟩:∃s3,s3=(if Sp.bit n q=true then s2.bad T 7 else s2):=⟨_,rfl⟩;rw[<-hs3]at hL;have hs3i:s3.i=s2.i:=by rw[hs3];split<;>rfl
 have hs3d:s3.ds.length<=s2.ds.length+1:=by rw[hs3];split<;>simp[Sp.St.bad]
 rw[<-hor]at hL;have hni:s3.next.i=s3.i+1:=rfl;have hnd:s3.next.ds.length=s3.ds.length:=rfl;have hnn:s3.next.next.i=s3.i+1+1:=rfl;have hnnd:s3.next.next.ds.length=s3.ds.length:=rfl;have hmc:=fun da dc=>A2T (pb:=pb) (deep:=deep) (da:=da) (dc:=dc) s3.next [44] (by simp) hr hT (by omega) (by omega)
 rw[Sp.St.need]at hmc;have hpk:=fun da dc=>A2B (pb:=pb) (deep:=deep) (da:=da) (dc:=dc) s3.next hr
 have tel:=fun da dc=>A4g (pb:=pb) (deep:=deep) (da:=da) (dc:=dc) s2 7 hr hT hi2 (by omega)
 have hor':((n:Int).toNat|||(((2 ^ q:Nat):Int)).toNat)=(n|||2 ^ q):=rfl;generalize 2 ^ q=pq at hp1 hp2 hor2 hor hL hor';generalize n|||pq=n1 at hor2 hor hL hor'
 repeat' (first|refine B0p 9 (fun _:QLab=> [(0,ptr pb),(3,nt n),(4,str (T.tok s2.i).text)]) (fun x w'=>Mem E I (QSt pb la lc T s3 deep x.da x.dc) w') ?_ ?_|refine F6 ?_ hm (hc:=hqe);clear hm;rintro _ _ _ _ ⟨rfl,rfl,da4,dc4,rfl⟩ hle hm;try simp only[F9]at hm|refine S9 (d:=12) ?_ hm (hc:=A2B s2 hr);clear hm;intro _ hm|refine A1s ?_;rw[hce]|refine D8 ?_|refine D6 ?_|refine L8 ?_|refine J6 ?_|refine A0F ?_|refine A0y ?_|refine A0G ?_|refine Y9 ?_|refine A7t ?_|(refine N8 (h1:=fun _=>?_) (h0:=fun _=>?_)<;>try first|contradiction|omega)|refine D9 ?_|refine A7 ?_|refine E8 ?_|refine A8 ?_|refine F5 ?_|refine G5 ?_|refine H6 ?_|(refine D5 (ht:=fun _=>?_) (hf:=fun _=>?_)<;>try first|contradiction|omega))
 ·cases hb:Sp.bit n q with
  |true=>
   rw[hb]at hb1 hs3;rw[if_pos rfl]at hs3;subst hs3;repeat' (first|refine F6 ?_ hm (hc:=tel _ _);clear hm;rintro _ _ _ _ ⟨rfl,rfl,da3,dc3,rfl⟩ hle hm;try simp only[F9]at hm|refine B9h (k:=?_);rw[hbq,hfd]|refine B5D ?_;rw[show ((m:Int).toNat &&& (1:Int).toNat)=1 from hb1]|refine D8 ?_|refine N9 ?_|refine D9 ?_|refine A7 ?_|refine A8 ?_|refine H6 ?_)
   exact A02 (⟨0,0,s2,da3,dc3⟩:QLab) (by exact⟨rfl,rfl,rfl,trivial⟩) hm
  |false=>
   rw[hb]at hb1 hs3;rw[if_neg (by simp)]at hs3;subst hs3;repeat' (first|refine B9h (k:=?_);rw[hbq,hfd]|refine B5D ?_;rw[show ((m:Int).toNat &&& (1:Int).toNat)=0 from hb1]|refine N9 ?_|refine D9 ?_|refine A7 ?_|refine G5 ?_|refine F7 ?_)
   exact A02 (⟨0,0,s3,da4,dc4⟩:QLab) (by exact⟨rfl,rfl,rfl,trivial⟩) hm
 clear hm hqe tel;rintro⟨_,_,_,da5,dc5⟩ w3 hm;dsimp only at hm |-;by_cases e1:T.is s3.next.i [125]=true
 ·rw[if_pos e1]at hL
  have e1t:(T.tok s3.next.i).text= [125]:=by simp only[Sp.Src.is,U9,decide_eq_true_eq]at e1;exact e1.2
  have hlt5:=A1H e1;rw[e1t]at hpk;repeat' (first|refine S9 ?_ hm (hc:=hpk _ _);clear hm;intro _ hm|refine A1s ?_;rw[hce]|refine B5F (h':=by rw[hbq,hp1];omega) (k:=?_);rw[hbq,hp1]|refine B7w ?_;rw[hor']|refine J4 ?_ hm|refine O6 hm (k:=?_);clear hm;intro _ hm;try simp only[F9]at hm|refine D8 ?_|refine D6 ?_|refine L8 ?_|refine A08 ?_|refine E5 ?_|refine P7 ?_|refine A7t ?_|refine C9 ?_|refine A0N ?_|refine D9 ?_|refine A7 ?_|refine D7 ?_|refine E8 ?_|refine A8 ?_|refine G5 ?_|refine F7 ?_)
  exact L9 (⟨f,n1,s3.next,da5,dc5⟩:QLab) (by exact⟨rfl,rfl,trivial⟩) ⟨hm,hL,by dsimp only;omega,by dsimp only;omega,hor2,by dsimp only;omega⟩ (by dsimp only;omega)
 rw[if_neg e1]at hL;by_cases e2:T.is s3.next.i [44]=true
 ·rw[if_pos e2]at hL hmc
  have e1t:(T.tok s3.next.i).text= [44]:=by simp only[Sp.Src.is,U9,decide_eq_true_eq]at e2;exact e2.2
  have hlt5:=A1H e2;rw[e1t]at hpk;repeat' (first|refine S9 ?_ hm (hc:=hpk _ _);clear hm;intro _ hm|refine F6 ?_ hm (hc:=hmc _ _);clear hm;rintro _ _ _ _ ⟨rfl,rfl,da6,dc6,rfl⟩ hle hm;try simp only[F9]at hm|refine A1s ?_;rw[hce]|refine B5F (h':=by rw[hbq,hp1];omega) (k:=?_);rw[hbq,hp1]|refine B7w ?_;rw[hor']|refine J4 ?_ hm|refine O6 hm (k:=?_);clear hm;intro _ hm;try simp only[F9]at hm|refine D8 ?_|refine D6 ?_|refine O9 ?_|refine A08 ?_|refine Y9 ?_|refine E5 ?_|refine P7 ?_|refine A7t ?_|refine C9 ?_|refine D9 ?_|refine A7 ?_|refine D7 ?_|refine E8 ?_|refine A8 ?_|refine G5 ?_|refine F7 ?_)
  exact L9 (⟨f,n1,s3.next.next,da6,dc6⟩:QLab) (by exact⟨rfl,rfl,trivial⟩) ⟨hm,hL,by dsimp only;omega,by dsimp only;omega,hor2,by dsimp only;omega⟩ (by dsimp only;omega)
 rw[if_neg e2]at hL hmc;have e1t:s3.next.i<T.l.length->(T.tok s3.next.i).text≠ [125]:=fun h e=>e1 (by simp[Sp.Src.is,h,e])
 rw[<-hL];by_cases hlt6:s3.next.i<T.l.length
 ·have e1t:=e1t hlt6
  repeat' (first|refine S9 ?_ hm (hc:=hpk _ _);clear hm;intro _ hm|refine F6 ?_ hm (hc:=hmc _ _);clear hm;rintro _ _ _ _ ⟨rfl,rfl,da6,dc6,rfl⟩ hle hm;try simp only[F9]at hm|refine A1s ?_;rw[hce]|refine B5F (h':=by rw[hbq,hp1];omega) (k:=?_);rw[hbq,hp1]|refine B7w ?_;rw[hor']|refine J4 ?_ hm|refine O6 hm (k:=?_);clear hm;intro _ hm;try simp only[F9]at hm|refine D8 ?_|refine D6 ?_|refine O9 ?_|refine A08 ?_|refine Y9 ?_|refine E5 ?_|refine P7 ?_|refine A7t ?_|refine C9 ?_|(refine N8 (h1:=fun _=>?_) (h0:=fun _=>?_)<;>try first|contradiction|omega)|refine D9 ?_|refine A7 ?_|refine G8 ?_|refine O1 ?_|refine E8 ?_|refine A8 ?_|refine H8 ?_|refine J9 ?_|refine H6 ?_)
  exact⟨I,_,⟨rfl,rfl,da6,dc6,rfl⟩,hm⟩
 ·rw[A48 (by omega:T.l.length<=s3.next.i)]at hpk
  repeat' (first|refine S9 ?_ hm (hc:=hpk _ _);clear hm;intro _ hm|refine F6 ?_ hm (hc:=hmc _ _);clear hm;rintro _ _ _ _ ⟨rfl,rfl,da6,dc6,rfl⟩ hle hm;try simp only[F9]at hm|refine A1s ?_;rw[hce]|refine B5F (h':=by rw[hbq,hp1];omega) (k:=?_);rw[hbq,hp1]|refine B7w ?_;rw[hor']|refine J4 ?_ hm|refine O6 hm (k:=?_);clear hm;intro _ hm;try simp only[F9]at hm|refine D8 ?_|refine D6 ?_|refine O9 ?_|refine A08 ?_|refine Y9 ?_|refine E5 ?_|refine P7 ?_|refine A7t ?_|refine C9 ?_|refine D9 ?_|refine A7 ?_|refine G8 ?_|refine O1 ?_|refine E8 ?_|refine A8 ?_|refine H8 ?_|refine J9 ?_|refine H6 ?_)
  exact⟨I,_,⟨rfl,rfl,da6,dc6,rfl⟩,hm⟩
theorem C5x (t:List UInt8) (w:World):Cal prog 203 #[str t] w fun v w'=>v=nt (A1i t)/\w'=w:=by
 refine enter (N:=12) func203 rfl [(0,str t)] A0I rfl ?_
 rw[A1i];by_cases h1:t= [61]
 ·subst h1
  repeat' (first|refine D8 ?_|refine D6 ?_|refine V9 ?_|refine D9 ?_|refine A7 ?_|refine G8 ?_|refine O1 ?_|refine E8 ?_|refine A8 ?_|refine F5 ?_|refine G5 ?_|refine H8 ?_|refine J9 ?_|refine H6 ?_)
  exact⟨rfl,rfl⟩
 by_cases h2:t= [60]
 ·subst h2
  repeat' (first|refine D8 ?_|refine D6 ?_|refine V9 ?_|refine D9 ?_|refine A7 ?_|refine G8 ?_|refine O1 ?_|refine E8 ?_|refine A8 ?_|refine F5 ?_|refine H8 ?_|refine J9 ?_|refine H6 ?_|refine F7 ?_)
  exact⟨rfl,rfl⟩
 by_cases h3:t= [43]
 ·subst h3
  repeat' (first|refine D8 ?_|refine D6 ?_|refine V9 ?_|refine D9 ?_|refine A7 ?_|refine G8 ?_|refine O1 ?_|refine E8 ?_|refine A8 ?_|refine F5 ?_|refine G5 ?_|refine H8 ?_|refine J9 ?_|refine H6 ?_|refine F7 ?_)
  exact⟨rfl,rfl⟩
 by_cases h4:t= [45]
 ·subst h4
  repeat' (first|refine D8 ?_|refine D6 ?_|refine V9 ?_|refine D9 ?_|refine A7 ?_|refine G8 ?_|refine O1 ?_|refine E8 ?_|refine A8 ?_|refine F5 ?_|refine H8 ?_|refine J9 ?_|refine H6 ?_|refine F7 ?_)
  exact⟨rfl,rfl⟩
 by_cases h5:t= [42]
 ·subst h5
  repeat' (first|refine D8 ?_|refine D6 ?_|refine V9 ?_|refine D9 ?_|refine A7 ?_|refine G8 ?_|refine O1 ?_|refine E8 ?_|refine A8 ?_|refine F5 ?_|refine H8 ?_|refine J9 ?_|refine H6 ?_|refine F7 ?_)
  exact⟨rfl,rfl⟩
 rw[if_neg (by simp[h1,h2]),if_neg (by simp[h3,h4]),if_neg h5];repeat' (first|refine D8 ?_|refine D6 ?_|refine V9 ?_|refine D9 ?_|refine A7 ?_|refine D7 ?_|refine E8 ?_|refine A8 ?_|refine F5 ?_|refine G5 ?_|refine H8 ?_|refine J9 ?_|(refine D5 (ht:=fun _=>?_) (hf:=fun _=>?_)<;>try first|contradiction|omega))
 all_goals first|exact⟨rfl,rfl⟩|(exfalso;simp_all;done)
abbrev B2K (pb:Nat) (la:Option Addr) (lc:Nat) (T:Sp.Src) (deep:Nat) (r:Sp.Ex×Sp.St):Value->P6->List HItem->Prop:=
 fun v I' H'=>(∃ea ec xs,v=.agg [nt r.1.kind,str r.1.name,nt r.1.n,.slice ea r.1.args.length ec,nt r.1.fr,nt r.1.to].toArray/\RowI I' 109 6 (.slice ea r.1.args.length ec) r.1.args.length xs/\Y7 I' r.1.args xs)/\
  ∃da dc,H'=QSt pb la lc T r.2 deep da dc
theorem B9l (s:Sp.St) (e:Nat) (hr:A2Y I T la lc) (hT:Ok T) (hi:s.i<=T.l.length) (hd:s.ds.length<1099511627776):
  CalM prog 210 #[ptr pb,nt e] I (QSt pb la lc T s deep da dc) (B2K pb la lc T deep (A9T T s e)):=by
 refine CalM.of fun w E hm=>enter (N:=13) func210 rfl [(0,ptr pb),(1,nt e)] A0T rfl ?_
 repeat' (first|refine F6 ?_ hm (hc:=A4g s e hr hT hi hd);clear hm;rintro _ _ _ _ ⟨rfl,rfl,da',dc',rfl⟩ hle hm;try simp only[F9]at hm|refine S9 ?_ hm (hc:=A1q (s.bad T e) hr);clear hm;intro _ hm|refine U1 (d:=4) ?_ hm;clear hm;intro b4 _ hm|refine N7 ?_ hm;clear hm;intro _ hm;try simp only[F9]at hm|refine Y4 ?_ hm|refine D8 ?_|refine Q3 ?_|refine D9 ?_|refine A7 ?_|refine E8 ?_|refine A8 ?_|refine H8 ?_)
 exact⟨I,_,⟨⟨none,0,[],rfl,A0W _ _ _ _ _,.nil⟩,da',dc',rfl⟩,hm.left (H:= [_,_])⟩
end
abbrev A0z (e:Sp.Ex) (ea:Option Addr) (ec:Nat):List Value:= [nt e.kind,str e.name,nt e.n,.slice ea e.args.length ec,nt e.fr,nt e.to]
abbrev ex0:List Value:= [.int .i64 0,str [],.int .i64 0,.slice none 0 0,.int .i64 0,.int .i64 0]
theorem A6l {I:P6}{e:Sp.Ex}{ea:Option Addr}{ec:Nat}{xs:List Value} (h1:RowI I 109 6 (.slice ea e.args.length ec) e.args.length xs) (h2:Y7 I e.args xs):A67 I e (A0z e ea ec):=by
 cases e with
 |mk k nm n args f t=>exact .of h1 h2
theorem C8N {I:P6}{e1 e2:Sp.Ex}{c1 c2:List Value} (h1:A67 I e1 c1) (h2:A67 I e2 c2):Y7 I [e1,e2] (c1++(c2++ [])):=by
 rw[Y7];exact⟨c1,_,rfl,h1,by rw[Y7];exact⟨c2,[],rfl,h2,.nil⟩⟩
theorem Ok.digs {T:Sp.Src} (h:Ok T) {i:Nat} (hk:(T.tok i).kind=2):∀c∈(T.tok i).text,48<=c.toNat/\c.toNat<=57:=by
 rcases U0 i T.l.length with h1|h1
 ·rw[Sp.Src.tok,O4,G6 h1]at hk |-
  exact h.dig _ (O7 h1) hk
 ·rw[A48 h1]at hk;cases hk
theorem A2a (I:P6):RowI I 111 15 (.slice none ([]:List Sp.Stm).length 0) ([]:List Sp.Stm).length []:=A0W _ _ _ _ _
theorem B0m {I:P6}{s:Sp.Stm}{ea a1 a2:Option Addr}{ec c1 c2:Nat}{ex xs1 xs2:List Value}
  (h2:RowI I 109 6 (.slice ea s.e.args.length ec) s.e.args.length ex) (h3:Y7 I s.e.args ex)
  (h4:RowI I 111 15 (.slice a1 s.thn.length c1) s.thn.length xs1) (h5:X6 I s.thn xs1) (h6:RowI I 111 15 (.slice a2 s.els.length c2) s.els.length xs2) (h7:X6 I s.els xs2):
  A5j I s (A2K s.kind s.name s.at_ s.label s.opn s.e ea ec (.slice a1 s.thn.length c1) (.slice a2 s.els.length c2) s.fr s.to):=by
 cases s with
 |mk k nm a lb o e thn els f t=>exact .of h2 h3 h4 h5 h6 h7
abbrev B70 (n:Nat) (a:Option Addr) (cp:Nat) (xs:List Value):HItem:=.row (.slice a n cp) 111 15 n xs
abbrev B8r (n:Nat) (a:Option Addr) (cp:Nat) (xs:List Value):HItem:=.row (.slice a n cp) 109 6 n xs
abbrev A31:Value:=.slice none 0 0
abbrev B5M (l:List Sp.Par) (n:Nat) (a:Option Addr) (c:Nat):HItem:=.row (.slice a n c) 103 3 n (l.flatMap A2N)
abbrev B50 (l:List Sp.Rf) (n:Nat) (a:Option Addr) (c:Nat):HItem:=.row (.slice a n c) 106 2 n (l.flatMap A2V)
abbrev C6A (err:Nat) (its:List Sp.Itm):Value->P6->List HItem->Prop:=fun v I' H'=> ∃a cp xs,v=.tuple #[.agg [.slice a its.length cp].toArray,nt err]/\RowI I' 43 10 (.slice a its.length cp) its.length xs/\A5f I' its xs/\H'= []
abbrev B3e (k:Nat) (a:Option Addr) (cp:Nat) (xs:List Value):HItem:=.row (.slice a k cp) 43 10 k xs
structure ItX where
 I:P6
 da:Option Addr
 dc:Nat
 ap:Option Addr
 cp:Nat
 as_:Option Addr
 cs:Nat
 ab:Option Addr
 cb:Nat
 xb:List Value
abbrev itV (q:Sp.Itm) (x:ItX):List Value:=A1z q.kind q.name q.label (.slice x.ap q.params.length x.cp) (.slice x.as_ q.sends.length x.cs) (.slice x.ab q.body.length x.cb) q.at_ q.size q.mark A31
abbrev C71 (it:Sp.Itm):Value->P6->List HItem->Prop:=fun v I' H'=> ∃cs,v=.agg cs.toArray/\A5W I' it cs/\H'= []
end Go.Proofs
namespace Go.Proofs
open Go.Proofs.Tryz
open Go.Sp
open Go Go.Fw
instance :TyMap prog 116 3 3:=⟨by kernel_rfl⟩
instance :TyMap prog 159 9 43:=⟨by kernel_rfl⟩
end Go.Proofs
namespace Go.Proofs
open Go.Proofs.Tryz
open Go.Sp
open Go.Fw
theorem _root_.Go.Fw.RowI.none {I:P6}{ty:TypeId}{sz n cp:Nat}{us:List Value} (h:RowI I ty sz (.slice none n cp) n us):n=0:=by
 obtain⟨_,a,cap,e1,_,e3⟩:=h;rcases A4B n with h0|h0
 ·exact h0
 ·obtain⟨b,off,c,fr,f1,_⟩:=e3 h0
  injection e1 with e1
  rw[f1]at e1;cases e1
abbrev C2e (ty:TypeId) (sz n:Nat) (us:List Value):Value->P6->List HItem->Prop:=fun v I' H'=>H'= []/\∃a cp,v=.slice a n cp/\RowI I' ty sz (.slice a n cp) n us
theorem C3Q (I:P6) (a:Option Addr) (n cp:Nat) (us:List Value) (hr:RowI I 103 3 (.slice a n cp) n us) (h1:us.all (·.oneCell')=true) (hn:n<=1099511627776):
  CalM prog 43 #[.slice a n cp] I [] (C2e 103 3 n us):=by
 refine CalM.of fun w E hm=>enter (N:=8) func43 rfl [(0,.slice a n cp)] A0I rfl ?_
 cases a with
 |none=>
  have h0:n=0:=hr.none;subst h0;have hu:us= []:=A00 (by have:=hr.len;simpa using this);subst hu;repeat' (first|refine A1R ?_|refine D8 ?_|refine D6 ?_|refine D9 ?_|refine A7 ?_|refine G8 ?_|refine E8 ?_|refine A8 ?_|refine H8 ?_|refine J9 ?_|refine H6 ?_)
  exact⟨I,[],⟨rfl,none,0,rfl,A0W _ _ _ _ _⟩,hm⟩
 |some ad=>
  repeat' (first|refine A1R ?_|refine A2R ?_ hm;clear hm;intro bb _ hm|refine A9t ?_ hm (hr:=hr) (h1:=h1);clear hm;intro a2 cp2 _ hm;try simp only[F9]at hm|refine D8 ?_|refine D6 ?_|refine D9 ?_|refine A7 ?_|refine E8 ?_|refine A8 ?_|refine G5 ?_|refine H8 ?_|refine J9 ?_|refine F7 ?_)
  simp only[V6]at hm |-;obtain⟨I3,hle3,hm3,hrow3⟩:=(hm.front 0 rfl).freeze;exact⟨I3,[],⟨rfl,a2,cp2,rfl,hrow3⟩,hm3.left (H:= [])⟩
theorem B7E (I:P6) (a:Option Addr) (n cp:Nat) (us:List Value) (hr:RowI I 106 2 (.slice a n cp) n us) (h1:us.all (·.oneCell')=true) (hn:n<=1099511627776):
  CalM prog 44 #[.slice a n cp] I [] (C2e 106 2 n us):=by
 refine CalM.of fun w E hm=>enter (N:=8) func44 rfl [(0,.slice a n cp)] A0I rfl ?_
 cases a with
 |none=>
  have h0:n=0:=hr.none;subst h0;have hu:us= []:=A00 (by have:=hr.len;simpa using this);subst hu;repeat' (first|refine A1R ?_|refine D8 ?_|refine D6 ?_|refine D9 ?_|refine A7 ?_|refine G8 ?_|refine E8 ?_|refine A8 ?_|refine H8 ?_|refine J9 ?_|refine H6 ?_)
  exact⟨I,[],⟨rfl,none,0,rfl,A0W _ _ _ _ _⟩,hm⟩
 |some ad=>
  repeat' (first|refine A1R ?_|refine A2R ?_ hm;clear hm;intro bb _ hm|refine A9t ?_ hm (hr:=hr) (h1:=h1);clear hm;intro a2 cp2 _ hm;try simp only[F9]at hm|refine D8 ?_|refine D6 ?_|refine D9 ?_|refine A7 ?_|refine E8 ?_|refine A8 ?_|refine G5 ?_|refine H8 ?_|refine J9 ?_|refine F7 ?_)
  simp only[V6]at hm |-;obtain⟨I3,hle3,hm3,hrow3⟩:=(hm.front 0 rfl).freeze;exact⟨I3,[],⟨rfl,a2,cp2,rfl,hrow3⟩,hm3.left (H:= [])⟩
theorem B7D (I:P6) (a:Option Addr) (n cp:Nat) (us:List Value) (hr:RowI I 85 4 (.slice a n cp) n us) (h1:us.all (·.oneCell')=true) (hn:n<=1099511627776):
  CalM prog 76 #[.slice a n cp] I [] (C2e 85 4 n us):=by
 refine CalM.of fun w E hm=>enter (N:=8) func76 rfl [(0,.slice a n cp)] A0I rfl ?_
 cases a with
 |none=>
  have h0:n=0:=hr.none;subst h0;have hu:us= []:=A00 (by have:=hr.len;simpa using this);subst hu;repeat' (first|refine A1R ?_|refine D8 ?_|refine D6 ?_|refine D9 ?_|refine A7 ?_|refine G8 ?_|refine E8 ?_|refine A8 ?_|refine H8 ?_|refine J9 ?_|refine H6 ?_)
  exact⟨I,[],⟨rfl,none,0,rfl,A0W _ _ _ _ _⟩,hm⟩
 |some ad=>
  repeat' (first|refine A1R ?_|refine A2R ?_ hm;clear hm;intro bb _ hm|refine A9t ?_ hm (hr:=hr) (h1:=h1);clear hm;intro a2 cp2 _ hm;try simp only[F9]at hm|refine D8 ?_|refine D6 ?_|refine D9 ?_|refine A7 ?_|refine E8 ?_|refine A8 ?_|refine G5 ?_|refine H8 ?_|refine J9 ?_|refine F7 ?_)
  simp only[V6]at hm |-;obtain⟨I3,hle3,hm3,hrow3⟩:=(hm.front 0 rfl).freeze;exact⟨I3,[],⟨rfl,a2,cp2,rfl,hrow3⟩,hm3.left (H:= [])⟩
theorem B7I (l:List Sp.Par):(l.flatMap A2N).all (·.oneCell')=true:=by
 induction l with
 |nil=>rfl
 |cons p l ih=>rw[A0a,A5K,ih];rfl
theorem C0t (l:List Sp.Rf):(l.flatMap A2V).all (·.oneCell')=true:=by
 induction l with
 |nil=>rfl
 |cons p l ih=>rw[A0a,A5K,ih];rfl
theorem B92 (l:List Sp.Dg):(l.flatMap A5G).all (·.oneCell')=true:=by
 induction l with
 |nil=>rfl
 |cons p l ih=>rw[A0a,A5K,ih];rfl
end Go.Proofs
