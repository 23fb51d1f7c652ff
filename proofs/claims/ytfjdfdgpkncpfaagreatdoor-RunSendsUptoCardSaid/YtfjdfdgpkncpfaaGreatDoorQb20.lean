/- Own work: texts EfC, EfD, SpecEff3, EfE, Label, FlA, one behind the other. -/
import Derived.Test.YtfjdfdgpkncpfaaGreatDoorQb19
set_option maxHeartbeats 64000000
section
namespace Go.Sp
theorem B1W {its:List Itm}{l:List Nm}{j:Nat}{x:Nm} (h:l[j]?=some x):A3b its (l.take (j+1))=A3b its (l.take j)++(Q8 its 2 x).toList:=by
 rw[P9 h,A3b,List.filterMap_append,A3b]
 cases hf:Q8 its 2 x<;>simp[hf]
theorem A8W (its:List Itm) (l:List Nm):(A3b its l).length≤l.length:=List.length_filterMap_le _ _
theorem A9d (it:Itm):(A2M it).1.length+(A2M it).2.length≤N7 it.body:=by
 have:=A5U it.body ([],[])
 simpa[A2M] using this.2
theorem B7h {its:List Itm}{r rows:List (List Nm)}{i:Nat}{b:Bool} (hr:RowsE its r) (hq:RowsE its rows) (hle:LeE r rows) (hi:i<rows.length) (hb:b=true↔rows≠r):
  ((b||decide (((rows.getD i []).length:Int)<((A6T its rows i).length:Int)))=true)↔A00 its rows i≠r:=by
 obtain⟨h1,h2⟩:=hq.step i
 have hg:(A00 its rows i).getD i []=A6T its rows i:=A2Q hi
 by_cases hb1:b=true
 ·have hne:=hb.1 hb1
  simp only[hb1,Bool.true_or,true_iff]
  intro e
  rw[e] at h2
  exact hne (B2a hr hq hle h2).symm
 ·have he:rows=r:=Classical.byContradiction fun h=>hb1 (hb.2 h)
  have hb0:b=false:=by simpa using hb1
  simp only[hb0,Bool.false_or,decide_eq_true_eq]
  constructor
  ·intro h e
   rw[e, ←he] at hg
   rw[hg] at h
   exact Int.lt_irrefl _ h
  ·intro h
   have hs:∀x∈rows.getD i [],x∈A6T its rows i:=fun x hx=>(A4y hq i x).2 (.inl hx)
   have hss:Srt (A6T its rows i):=by rw[←hg];exact(h1.getD i).1
   have hl:=A43 (hq.getD i).1 hs
   rcases Nat.lt_or_ge (rows.getD i []).length (A6T its rows i).length with h3|h3
   ·exact Int.ofNat_lt.2 h3
   ·refine absurd ?_ h
    have e2:=B2K (hq.getD i).1 hss hs h3
    rw[A00, ←e2, ←he]
    exact List.ext_getElem? fun j=>by
     by_cases hij:i=j
     ·subst hij;rw[List.getElem?_set_self hi,List.getD_eq_getElem?_getD,List.getElem?_eq_getElem hi];rfl
     ·rw[List.getElem?_set_ne hij]
theorem A4V {α:Type} (f:Nat→α) (k:Nat):(List.range (k+1)).map f=(List.range k).map f++ [f k]:=by rw[List.range_succ,List.map_append];rfl
end Go.Sp
namespace Go.Proofs.YtfjdfdgpkncpfaaGreatDoor
open Go.Proofs.Tryz
open Go.Fw
theorem C0A:Zero1 prog 168 sl0:=⟨by kernel_rfl,rfl⟩
theorem C0z:Zero1 prog 33 sl0:=⟨by kernel_rfl,rfl⟩
abbrev A6t (ob n:Nat) (cs:List Value):HItem:=.row (.slice (some ⟨ob,0,none⟩) n n) 168 1 n cs
abbrev B57 (cb n:Nat) (cs:List Value):HItem:=.row (.slice (some ⟨cb,0,none⟩) n n) 33 1 n cs
abbrev B3q (l:List Nat) (a:Option Addr) (cp:Nat):HItem:=.row (.slice a l.length cp) 3 1 l.length (l.flatMap A1q)
abbrev A4G (t:Tri (List UInt8)):HItem:=A3T t.1 t.2.1 t.2.2
abbrev A9t (t:Tri Nat):HItem:=B3q t.1 t.2.1 t.2.2
theorem B9O (I:O5) (l:List (List UInt8)) (a:Option Addr) (cp:Nat) (s:List UInt8) (hs:Sp.Srt l) (hn:l.length≤1000000000) (h0:s= []∨s∈l):
  CalM prog 142 #[.slice a l.length cp,str s] I [A3T l a cp] (fun v _ H'=>v=.slice a l.length cp∧H'= [A3T l a cp]):=by
 refine CalM.of fun w E hm=>enter (N:=24) func142 rfl [(0,.slice a l.length cp),(1,str s)] A0B rfl ?_
 have hS:=B1O I l a cp s hs hn
 by_cases hm1:s∈l
 ·rw[decide_eq_true hm1] at hS
  repeat' (first|(refine L9 (d:=10) ?_ hm (hc:=hS);clear hm;intro _ hm)|refine D7 ?_|refine D5 ?_|refine J8 ?_|refine V9 ?_|refine Y1 ?_|refine D8 ?_|refine A7 ?_|refine G5 ?_|refine E5 ?_|refine A8 ?_|refine G8 ?_|refine H5 ?_|refine F9 ?_)
  all_goals try first|omega|contradiction
  exact⟨I,_,⟨rfl,rfl⟩,hm⟩
 ·rw[decide_eq_false hm1] at hS
  have hs0:s= []:=h0.resolve_right hm1
  subst hs0
  repeat' (first|(refine L9 (d:=10) ?_ hm (hc:=hS);clear hm;intro _ hm)|refine D7 ?_|refine D5 ?_|refine J3 ?_|refine U0 ?_|refine V9 ?_|refine D8 ?_|refine A7 ?_|refine G5 ?_|refine E5 ?_|refine A8 ?_|refine G8 ?_|refine H5 ?_|refine F9 ?_)
  all_goals try first|omega|contradiction
  exact⟨I,_,⟨rfl,rfl⟩,hm⟩
structure EaX where
 k:Nat
 I:O5
 T:List (Tri (List UInt8))
 U:List (Tri Nat)
theorem _root_.Go.Fw.mid1_get {L:List Value}{k:Nat}{v:Value}{r:List Value} (h:L.length=k):(L++(v::r))[k]?=some v:=by
 subst h;rw[List.getElem?_append_right (Nat.le_refl _),Nat.sub_self];rfl
theorem _root_.Go.Fw.mid1_set {L:List Value}{k:Nat}{v u:Value}{r:List Value} (h:L.length=k):(L++(v::r)).set k u=L++(u::r):=by
 subst h;rw[List.set_append,if_neg (Nat.lt_irrefl _),Nat.sub_self];rfl
structure EcX where
 k:Nat
 I:O5
 c:Tri Nat
theorem _root_.Go.Fw.flat_tri {α:Type}:∀(U:List (Tri α)),U.flatMap (fun t=> [A01 t])=U.map A01
 | []=>rfl
 |t::U=>by rw[List.flatMap_cons,flat_tri U];rfl
theorem _root_.Go.Fw.flatS_get {l:List (List UInt8)}{j:Nat}{s:List UInt8} (h:l[j]?=some s):(l.flatMap A33)[j]?=some (str s):=by
 rw[A6G,List.getElem?_map,h];rfl
theorem _root_.Go.Fw.pmEa {x y o c:HItem}{A B:List HItem}:(x::y::o::c::(A++B)).Perm (o::c::((A++ [x])++(B++ [y]))):=by
 have h1:(x::y::o::c::(A++B)).Perm ([o,c]++([x,y]++(A++B))):=(List.perm_append_comm (l₁:= [x,y]) (l₂:= [o,c])).append_right (A++B)
 have h2:([x,y]++(A++B)).Perm ((A++ [x])++(B++ [y])):=by
  rw[show [x,y]++(A++B)= [x]++([y]++(A++B)) from rfl]
  have a1:([y]++(A++B)).Perm (A++(B++ [y])):=by
   rw[←List.append_assoc A B [y]];exact List.perm_append_comm
  have a2:([x]++(A++(B++ [y]))).Perm (A++([x]++(B++ [y]))):=List.perm_append_comm_assoc _ _ _
  rw[List.append_assoc A [x]]
  exact(a1.append_left [x]).trans a2
 exact h1.trans (h2.append_left [o,c])
theorem _root_.Go.Fw.pmEc {c cl o:HItem}{A:List HItem}{B:List HItem}:(c::cl::o::(A++B)).Perm (o::cl::(A++(B++ [c]))):=by
 have h1:(c::cl::o::(A++B)).Perm ([o,cl]++(A++B)++ [c]):=by
  refine(List.perm_append_comm (l₁:= [c]) (l₂:=cl::o::(A++B))).trans ?_
  exact(List.Perm.swap _ _ _).append_right [c]
 rw[List.append_assoc,List.append_assoc] at h1
 exact h1
theorem _root_.Go.Fw.pmEb {s o cl:HItem}{A:List HItem}{B:List HItem}:(s::o::cl::(A++B)).Perm (cl::o::((A++ [s])++B)):=by
 have h1:(s::o::cl::(A++B)).Perm (cl::o::(s::(A++B))):=by
  refine(List.perm_append_comm (l₁:= [s]) (l₂:=o::cl::(A++B))).trans ?_
  refine(List.Perm.swap _ _ _).trans ?_
  exact((List.perm_append_comm (l₁:=A++B) (l₂:= [s])).cons o).cons cl
 refine h1.trans (((?_:(s::(A++B)).Perm ((A++ [s])++B)).cons o).cons cl)
 rw[List.append_assoc];exact List.perm_append_comm_assoc [s] A B
theorem B9P (I:O5) (u:Tri (List UInt8)) (s:List UInt8) (hs:Sp.Srt u.1) (hn:u.1.length≤1000000000):
  CalM prog 142 #[A01 u,str s] I [A4G u] (fun v _ H'=> ∃u':Tri (List UInt8),u'.1=Sp.A1P u.1 s∧(s= []∨s∈u.1→u'=u)∧v=A01 u'∧H'= [A4G u']):=by
 by_cases h0:s= []∨s∈u.1
 ·refine(B9O I u.1 u.2.1 u.2.2 s hs hn h0).mono (fun v J H' _ hp=>?_)
  obtain⟨rfl,rfl⟩:=hp
  exact⟨u,(Sp.A7d h0).symm,fun _=>rfl,rfl,rfl⟩
 ·refine(B6x I u.1 u.2.1 u.2.2 s hs hn).mono (fun v J H' _ hp=>?_)
  obtain⟨a,cp,rfl,rfl⟩:=hp
  exact⟨(Sp.A1P u.1 s,a,cp),rfl,fun h=>absurd h h0,rfl,rfl⟩
theorem C03 {E:Ent}{w:World}{R:List HItem}:∀(U:List (Tri Nat)) {I:O5},Mem E I (U.map A9t++R) w→∃J,Le I J∧Mem E J R w∧∀t∈U,RowI J 3 1 (A01 t) t.1.length (t.1.flatMap A1q)
 | [],I,hm=>⟨I,Le.refl _,hm,fun _ h=>by cases h⟩
 |t::U,I,hm=>by
  obtain⟨I1,l1,m1,r1⟩:=Mem.freeze (H:=U.map A9t++R) hm
  obtain⟨I2,l2,m2,h2⟩:=C03 U m1
  refine⟨I2,l1.trans l2,m2,fun x hx=>?_⟩
  rcases List.mem_cons.1 hx with rfl|hx
  ·exact r1.le l2
  ·exact h2 x hx
structure ErX where
 I:O5
 T:List (Tri (List UInt8))
 b:Bool
structure EiX where
 k:Nat
 I:O5
 T:List (Tri (List UInt8))
 b:Bool
structure EjX where
 k:Nat
 I:O5
 t:Tri (List UInt8)
theorem C0X {its:List Sp.Itm} (I:O5) (a:Option Addr) (cp:Nat) (xs:List Value) (hfe:FE I its a cp xs) (hsm:∀it∈its,it.fit∧Sp.N7 it.body≤400000000) (hN:(Sp.A1t its).length≤1000000000):
  CalM prog 113 #[.agg [.slice a its.length cp].toArray] I [] (fun v _ H'=> ∃(ob:Nat) (T:List (Tri (List UInt8))),T.map (·.1)=Sp.A3v its∧v=.slice (some ⟨ob,0,none⟩) its.length its.length∧H'=A6t ob its.length (T.map A01)::T.map A4G):=by
 refine CalM.of fun w E hm=>enter (N:=122) func113 rfl [(0,.agg [.slice a its.length cp].toArray)] Z4 rfl ?_
 have hfew:=hfe.few
 repeat' (first|refine Z5 1 ?_|(refine A0t (d:=1) ?_ hm;clear hm;intro b1 _ hm)|refine D5 ?_|refine D8 ?_|refine A7 ?_|refine E5 ?_|refine A8 ?_)
 all_goals try omega
 obtain⟨I1,hle1,hm1,hpf⟩:=hm.freezeO
 clear hm
 have hm:=hm1
 clear hm1
 have hpf1:=hpf
 refine⟨?_⟩
 repeat' (first|(refine A7Y (d:=22) sl0 C0A hm (by rfl) (by rfl) (by rfl) (by rfl) (by omega) (by rfl) ?_;clear hm;intro ob _ hm)|(refine A7Y (d:=26) sl0 C0z hm (by rfl) (by rfl) (by rfl) (by rfl) (by omega) (by rfl) ?_;clear hm;intro cb _ hm)|refine H9 ?_ hm|refine D7 ?_|refine D5 ?_|refine G7 ?_|refine C9 ?_|refine D8 ?_|refine A7 ?_|refine E5 ?_|refine A8 ?_|refine E9 ?_)
 all_goals try omega
 have hm:=hm.swap
 refine U4 (fun x:EaX=> [(1,ptr b1),(3,.slice (some ⟨ob,0,none⟩) its.length its.length),(4,.slice (some ⟨cb,0,none⟩) its.length its.length),(28,.slice a its.length cp),(29,nt its.length),(30,nt x.k)])
  (fun x w'=>Mem E x.I (A6t ob its.length (A5e (x.T.map A01) (its.length-x.k))::B57 cb its.length (A5e (x.U.map A01) (its.length-x.k))::(x.T.map A4G++x.U.map A9t)) w'∧Le I1 x.I∧
   x.T.map (·.1)=(List.range x.k).map (Sp.A1T its)∧x.U.map (·.1)=(List.range x.k).map (Sp.A0J its)∧x.k≤its.length)
  (fun x=>its.length-x.k) ⟨0,I1,[],[]⟩ (by exact⟨rfl,rfl,rfl,rfl,rfl,rfl,trivial⟩) ⟨by simpa[A5e] using hm,Le.refl _,rfl,rfl,Nat.zero_le _⟩ ?_
 clear hm hpf
 rintro⟨k,I2,T,U⟩ w2 ⟨hm,hle2,hT,hU,hk⟩
 dsimp only at hm hle2 hT hU hk ⊢
 have hTl:T.length=k:=by have:=congrArg List.length hT;simpa using this
 have hUl:U.length=k:=by have:=congrArg List.length hU;simpa using this
 have hpf2:=hpf1.le hle2
 by_cases hlt:k<its.length
 ·obtain⟨m,hmm⟩:∃m,its.length-k=m+1:=⟨its.length-k-1,by omega⟩
  have hmm2:its.length-(k+1)=m:=by omega
  rw[hmm] at hm
  have hg:its[k]?=some its[k]:=List.getElem?_eq_getElem hlt
  have hno:Sp.N9 its k=its[k]:=by rw[Sp.N9,List.getD_eq_getElem?_getD,hg];rfl
  obtain⟨hs1,hs2⟩:=hsm _ (List.getElem_mem hlt)
  obtain⟨cs,hcs,hat,hl10⟩:=((hfe.le hle1).le hle2).get hg
  have hri:=((hfe.le hle1).le hle2).row
  generalize its[k]=it at hg hno hs1 hs2 hat
  have hiE:Sp.A1T its k=if it.kind=2 then (Sp.A2M it).1 else []:=by rw[Sp.A1T,hno]
  have hcE:Sp.A0J its k=if it.kind=2 then Sp.A3b its (Sp.A2M it).2 else []:=by rw[Sp.A0J,hno]
  have hO:=C0Y it hs1 hs2 I2 cs hat
  have hol:=Sp.A9d it
  obtain⟨ap,cp',as_,cs',ab,cb',ad,cd,xb,rfl,_,_,_,_,_⟩:=hat
  have hfo:(0:Nat)+(k:Int).toNat *1=k:=by rw[Int.toNat_natCast];omega
  by_cases k2:it.kind=2
  ·rw[if_pos k2] at hiE hcE
   repeat' (first|(refine L6 (d:=33) ?_ (hr:=hri);intro bt ot hpt;rw[show ((k:Int).toNat *10)=k *10 from rfl,hcs] at hpt)|(refine U7 (d:=34) ?_ hm (hp:=hpt) (hc:=by exact hl10))|(refine F5 (d:=40) ?_ hm (hc:=hO);clear hm;rintro _ I3 _ _ ⟨sa,sp,ca,cq,rfl,rfl⟩ hle hm;have hleI3:=hle;try simp only[F7] at hm)|(refine A20 (i:=3) hm (by rfl) (by rfl) (by rfl) (by rfl) (by rfl) (by rfl) (by rfl) (by simp;omega) ?_;clear hm;intro w3 hm;rw[hfo] at hm;simp only[F7] at hm)|refine Z5 9 ?_|(refine V6 (d:=6) ?_ hm;clear hm;intro b6 _ hm)|refine H6 ?_ hm|refine U5 ?_ hm|(refine N8 ?_ hm;clear hm;intro _ hm;try simp only[F7] at hm)|refine D7 ?_|refine D5 ?_|refine J5 ?_|refine X9 ?_|refine V9 ?_|refine C9 ?_|refine Z8 (k:=?_)|refine D8 ?_|refine A7 ?_|refine E5 ?_|refine A8 ?_|refine E9 ?_|refine F8 ?_|(refine D6 (ht:=fun _=>?_) (hf:=fun _=>?_)<;>(try first|contradiction|(exfalso;omega))))
   all_goals try omega
   obtain⟨I4,hle4,hm4,hrc⟩:=hm.swap.freeze
   have hm5:=(hm4.swap.tl.perm pmEb).nil 3 1
   clear hm hm4
   rw[B7C (by rw[List.length_map,hTl])] at hm5
   obtain⟨T',hT'⟩:∃T',T'=T++ [((Sp.A2M it).1,sa,sp)]:=⟨_,rfl⟩
   have hT2:T'.map (·.1)=(List.range (k+1)).map (Sp.A1T its):=by rw[hT',List.map_append,hT,Sp.A4V,hiE];rfl
   have hm:Mem E I4 (A9t Tri.nil::B57 cb its.length (U.map A01++(A01 (α:=Nat) Tri.nil::List.replicate m sl0))::A6t ob its.length (A5e (T'.map A01) m)::(T'.map A4G++U.map A9t)) w3:=by
    rw[hT',List.map_append,List.map_append];exact hm5
   clear hm5 hT'
   have hpf3:=hpf2.le (hleI3.trans hle4)
   have hfe3:=((hfe.le hle1).le hle2).le (hleI3.trans hle4)
   generalize (Sp.A2M it).2=called at hrc hcE hol
   refine⟨?_⟩
   repeat' (first|refine D7 ?_|refine G7 ?_|refine D8 ?_|refine A7 ?_|refine A8 ?_|refine E9 ?_)
   all_goals try omega
   refine U4 (fun x:EcX=> [(1,ptr b1),(3,.slice (some ⟨ob,0,none⟩) its.length its.length),(4,.slice (some ⟨cb,0,none⟩) its.length its.length),(5,nt k),(28,.slice a its.length cp),(29,nt its.length),(30,nt k),(47,.slice ca called.length cq),(48,nt called.length),(49,nt x.k)])
    (fun x w'=>Mem E x.I (A9t x.c::B57 cb its.length (U.map A01++(A01 x.c::List.replicate m sl0))::A6t ob its.length (A5e (T'.map A01) m)::(T'.map A4G++U.map A9t)) w'∧Le I4 x.I∧x.c.1=Sp.A3b its (called.take x.k)∧x.k≤called.length)
    (fun x=>called.length-x.k) ⟨0,I4,Tri.nil⟩ (by exact⟨rfl,rfl,rfl,rfl,rfl,rfl,rfl,rfl,rfl,rfl,trivial⟩) ⟨hm,Le.refl _,by dsimp only;rw[List.take_zero];rfl,Nat.zero_le _⟩ ?_
   clear hm
   rintro⟨j,I5,c,ca5,cq5⟩ w5 ⟨hm,hle5,hc,hj⟩
   dsimp only at hm hle5 hc hj ⊢
   have hpf4:=hpf3.le hle5
   change Mem E I5 (B3q c ca5 cq5::B57 cb its.length (U.map A01++(.slice ca5 c.length cq5::List.replicate m sl0))::A6t ob its.length (A5e (T'.map A01) m)::(T'.map A4G++U.map A9t)) w5 at hm
   have hget:=fun (v:Value) (r:List Value)=>Go.Fw.mid1_get (v:=v) (r:=r) (show (U.map A01).length=k by rw[List.length_map,hUl])
   have hset:=fun (v u:Value) (r:List Value)=>Go.Fw.mid1_set (v:=v) (u:=u) (r:=r) (show (U.map A01).length=k by rw[List.length_map,hUl])
   by_cases hjl:j<called.length
   ·have hgj:called[j]?=some called[j]:=List.getElem?_eq_getElem hjl
    have hst:=Sp.B1W (its:=its) hgj
    have hcl:=Sp.A8W its (called.take j)
    rw[←hc,List.length_take] at hcl
    generalize called[j]=nm at hgj hst
    have hF:=(A2B 2 nm its I5 a cp xs (hfe3.le hle5)).read
    have hrc5:=hrc.le hle5
    cases hf:Sp.Q8 its 2 nm with
    |some i=>
     rw[show Sp.A0Y its 2 nm=(i:Int) by rw[Sp.A0Y,hf]] at hF
     repeat' (first|(refine P5 (d:=51) (enc:=A33) (z:=nm) ?_ (hr:=hrc5) (he:=fun _=>rfl) (hz:=by exact hgj);intro bz oz hpz)|(refine L9 (d:=55) ?_ hm (hc:=hF);clear hm;intro _ hm)|(refine A1j (i:=1) (d:=63) hm (by rfl) (by rfl) (by rfl) (by rfl) (by rw[hfo];exact hget _ _) ?_)|(refine A20 (i:=1) hm (by rfl) (by rfl) (by rfl) (by rfl) (by rfl) (by rfl) (by rfl) (by simp;omega) ?_;clear hm;intro _ hm;rw[hfo,hset] at hm;simp only[F7] at hm)|(refine A2b (d:=66) ?_ hm;clear hm;intro a66 cp66 _ _ hm;try simp only[F7] at hm)|refine U7 ?_ hm|refine A1s ?_ hm|refine D7 ?_|refine D5 ?_|refine J5 ?_|refine A0i ?_|refine Q4 ?_|refine Z8 (k:=?_)|refine D8 ?_|refine A7 ?_|refine D9 ?_|refine E5 ?_|refine A8 ?_|refine E9 ?_|refine F8 ?_|refine F9 ?_|(refine D6 (ht:=fun _=>?_) (hf:=fun _=>?_)<;>(try first|contradiction|(exfalso;omega))))
     all_goals try omega
     refine J9 (⟨j+1,I5,c++ [i],a66,cp66⟩:EcX) (by exact⟨rfl,rfl,rfl,rfl,rfl,rfl,rfl,rfl,rfl,rfl,trivial⟩) ⟨?_,hle5,?_,by dsimp only;omega⟩ (by dsimp only;omega)
     ·dsimp only[A9t,A01,B3q]
      rw[List.flatMap_append,List.length_append]
      exact hm
     ·dsimp only;rw[hst,hf, ←hc];rfl
    |none=>
     rw[show Sp.A0Y its 2 nm= -1 by rw[Sp.A0Y,hf]] at hF
     repeat' (first|(refine P5 (d:=51) (enc:=A33) (z:=nm) ?_ (hr:=hrc5) (he:=fun _=>rfl) (hz:=by exact hgj);intro bz oz hpz)|(refine L9 (d:=55) ?_ hm (hc:=hF);clear hm;intro _ hm)|refine U7 ?_ hm|refine A1s ?_ hm|refine D7 ?_|refine D5 ?_|refine J5 ?_|refine A0i ?_|refine Q4 ?_|refine D8 ?_|refine A7 ?_|refine D9 ?_|refine E5 ?_|refine A8 ?_|refine E9 ?_|refine F8 ?_|refine F6 ?_|(refine D6 (ht:=fun _=>?_) (hf:=fun _=>?_)<;>(try first|contradiction|(exfalso;omega))))
     all_goals try omega
     refine J9 (⟨j+1,I5,c,ca5,cq5⟩:EcX) (by exact⟨rfl,rfl,rfl,rfl,rfl,rfl,rfl,rfl,rfl,rfl,trivial⟩) ⟨hm,hle5,?_,by dsimp only;omega⟩ (by dsimp only;omega)
     dsimp only;rw[hst,hf, ←hc];simp
   ·obtain rfl:j=called.length:=by omega
    rw[List.take_length, ←hcE] at hc
    repeat' (first|refine D7 ?_|refine J5 ?_|refine Q4 ?_|refine D8 ?_|refine A7 ?_|refine G9 ?_|refine D9 ?_|refine G6 ?_|refine E5 ?_|refine A8 ?_|refine O4 ?_|(refine D6 (ht:=fun _=>?_) (hf:=fun _=>?_)<;>(try first|contradiction|(exfalso;omega))))
    all_goals try omega
    refine J9 (⟨k+1,I5,T',U++ [(c,ca5,cq5)]⟩:EaX) (by exact⟨rfl,rfl,rfl,rfl,rfl,rfl,trivial⟩) ⟨?_,(hle2.trans (hleI3.trans hle4)).trans hle5,hT2,?_,by dsimp only;omega⟩ (by dsimp only;omega)
    ·dsimp only
     rw[hmm2]
     have h:=hm.perm pmEc
     simp only[List.map_append]
     rw[show List.map (A01 (α:=Nat)) U++(A01 (c,ca5,cq5)::List.replicate m sl0)=A5e (List.map A01 U++ [A01 (c,ca5,cq5)]) m by rw[A5e,List.append_assoc];rfl] at h
     exact h
    ·dsimp only;rw[List.map_append,hU,Sp.A4V, ←hc];rfl
  ·rw[if_neg k2] at hiE hcE
   repeat' (first|(refine L6 (d:=33) ?_ (hr:=hri);intro bt ot hpt;rw[show ((k:Int).toNat *10)=k *10 from rfl,hcs] at hpt)|(refine U7 (d:=34) ?_ hm (hp:=hpt) (hc:=by exact hl10))|(refine V6 (d:=6) ?_ hm;clear hm;intro b6 _ hm)|refine H6 ?_ hm|(refine N8 ?_ hm;clear hm;intro _ hm;try simp only[F7] at hm)|refine D7 ?_|refine D5 ?_|refine J5 ?_|refine X9 ?_|refine Q4 ?_|refine C9 ?_|refine D8 ?_|refine A7 ?_|refine G9 ?_|refine G6 ?_|refine E5 ?_|refine A8 ?_|refine E9 ?_|refine F8 ?_|refine O4 ?_|(refine D6 (ht:=fun _=>?_) (hf:=fun _=>?_)<;>(try first|contradiction|(exfalso;omega))))
   all_goals try omega
   refine J9 (⟨k+1,I2,T++ [Tri.nil],U++ [Tri.nil]⟩:EaX) (by exact⟨rfl,rfl,rfl,rfl,rfl,rfl,trivial⟩) ⟨?_,hle2,?_,?_,by dsimp only;omega⟩ (by dsimp only;omega)
   ·dsimp only
    rw[hmm2]
    have h:=((hm.tl.nil 3 1).nil 9 1).perm pmEa
    rw[B0b,B0b] at h
    simp only[List.map_append]
    exact h
   ·dsimp only;rw[List.map_append,hT,Sp.A4V,hiE];rfl
   ·dsimp only;rw[List.map_append,hU,Sp.A4V,hcE];rfl
 ·obtain rfl:k=its.length:=by omega
  rw[Nat.sub_self,A5e,A5e,List.replicate_zero,List.append_nil,List.append_nil] at hm
  repeat' (first|refine D5 ?_|refine J5 ?_|refine D8 ?_|refine A7 ?_|refine G9 ?_|refine G6 ?_|refine E5 ?_|refine A8 ?_|refine E9 ?_|refine O4 ?_|(refine D6 (ht:=fun _=>?_) (hf:=fun _=>?_)<;>(try first|contradiction|(exfalso;omega))))
  all_goals try omega
  have hT0:T.map (·.1)=Sp.A1K its:=by rw[hT,Sp.A1K]
  have hmU:Mem E I2 (B57 cb its.length (U.map A01)::(U.map A9t++(A6t ob its.length (T.map A01)::T.map A4G))) w2:=hm.perm (by
   refine(List.Perm.swap _ _ _).trans (List.Perm.cons _ ?_)
   exact(List.perm_append_comm (l₁:=A6t ob its.length (T.map A01)::T.map A4G) (l₂:=U.map A9t)))
  obtain⟨I3,hle3,hm3,hcls⟩:=hmU.freeze
  obtain⟨I4,hle4,hm4,hint⟩:=C03 U hm3
  clear hm hmU hm3
  replace hcls:=hcls.le hle4
  have hmO:=hm4
  clear hm4
  have hfe4:Le I2 I4:=hle3.trans hle4
  refine U4 (fun x:ErX=> [(3,.slice (some ⟨ob,0,none⟩) its.length its.length),(4,.slice (some ⟨cb,0,none⟩) its.length its.length),(12,.bool x.b)])
   (fun x w'=>Mem E x.I (A6t ob its.length (x.T.map A01)::x.T.map A4G) w'∧Le I4 x.I∧Sp.RowsE its (x.T.map (·.1))∧Sp.A1M its (Sp.A7L its+1) (x.T.map (·.1))=Sp.A3v its∧(x.b=false→Sp.A07 its (x.T.map (·.1))=x.T.map (·.1)))
   (fun x=>if x.b then (Sp.A7L its-Sp.A4D (x.T.map (·.1)))+1 else 0) ⟨I4,T,true⟩ (by exact⟨rfl,rfl,rfl,trivial⟩) ⟨hmO,Le.refl _,by dsimp only;rw[hT0];exact Sp.A6o its,by dsimp only;rw[hT0];exact(Sp.B6f its).symm,fun h=>by cases h⟩ ?_
  clear hmO hT hT0 hTl T
  rintro⟨I5,T,b⟩ w5 ⟨hm,hle5,hR,hit,hfix⟩
  dsimp only at hm hle5 hR hit hfix ⊢
  cases b with
  |false=>
   repeat' (first|refine D7 ?_|refine D5 ?_|refine D8 ?_|refine A7 ?_|refine G9 ?_|refine G6 ?_|refine E5 ?_|refine A8 ?_|refine O4 ?_|refine G8 ?_|refine H5 ?_|refine F6 ?_)
   all_goals try omega
   refine⟨I5,_,⟨ob,T,?_,rfl,rfl⟩,hm⟩
   rw[←hit,Sp.A5N (hfix rfl)]
  |true=>
   repeat' (first|refine D7 ?_|refine D5 ?_|refine G7 ?_|refine D8 ?_|refine A7 ?_|refine E5 ?_|refine A8 ?_|refine E9 ?_|refine F8 ?_|refine F9 ?_)
   all_goals try omega
   have hclsT:RowI I4 33 1 (.slice (some ⟨cb,0,none⟩) its.length its.length) its.length (U.flatMap (fun t=> [A01 t])):=by rw[flat_tri];exact hcls
   refine U4 (fun x:EiX=> [(3,.slice (some ⟨ob,0,none⟩) its.length its.length),(4,.slice (some ⟨cb,0,none⟩) its.length its.length),(12,.bool x.b),(72,nt its.length),(73,nt x.k)])
    (fun x w'=>Mem E x.I (A6t ob its.length (x.T.map A01)::x.T.map A4G) w'∧Le I5 x.I∧x.T.map (·.1)=(List.range x.k).foldl (Sp.A00 its) (T.map (·.1))∧(x.b=true↔x.T.map (·.1)≠T.map (·.1))∧x.k≤its.length)
    (fun x=>its.length-x.k) ⟨0,I5,T,false⟩ (by exact⟨rfl,rfl,rfl,rfl,rfl,trivial⟩) ⟨hm,Le.refl _,rfl,by simp,Nat.zero_le _⟩ ?_
   clear hm
   rintro⟨i,I6,S,b⟩ w6 ⟨hm,hle6,hS,hb,hi⟩
   dsimp only at hm hle6 hS hb hi ⊢
   obtain⟨hRS,hLS⟩:Sp.RowsE its (S.map (·.1))∧Sp.LeE (T.map (·.1)) (S.map (·.1)):=by rw[hS];exact hR.folds _
   have hSl:S.length=its.length:=by have:=hRS.len;simpa using this
   by_cases hil:i<its.length
   ·have hgS:S[i]?=some S[i]:=List.getElem?_eq_getElem (by omega)
    have hset0:S.set i S[i]=S:=List.set_getElem_self _
    have hgU:U[i]?=some U[i]:=List.getElem?_eq_getElem (by omega)
    have hUi:U[i].1=Sp.A0J its i:=by
     have h:=congrArg (·[i]?) hU
     simp only[List.getElem?_map,hgU,List.getElem?_range hil,Option.map_some,Option.some.injEq] at h
     exact h
    have hUin:=hint _ (List.getElem_mem (show i<U.length by omega))
    have hcb:(Sp.A0J its i).length≤400000000:=by
     rw[Sp.A0J]
     split
     ·refine Nat.le_trans (Sp.A8W its _) ?_
      have h1:=Sp.A9d (Sp.N9 its i)
      have h2:Sp.N9 its i∈its:=Sp.B14 hil
      have h3:=(hsm _ h2).2
      omega
     ·simp
    rw[←hUi] at hcb
    generalize U[i]=q at hcb hgU hUi hUin
    generalize S[i]=t0 at hgS hset0
    obtain⟨c,ca,cq⟩:=q
    dsimp only at hUi hUin hcb
    have hrow:(S.map (·.1)).getD i []=t0.1:=by rw[List.getD_eq_getElem?_getD,List.getElem?_map,hgS];rfl
    have hfo:∀k:Nat,(0:Nat)+(k:Int).toNat *1=k:=fun k=>by rw[Int.toNat_natCast];omega
    have hcell:(S.map A01)[i]?=some (A01 t0):=by rw[List.getElem?_map,hgS];rfl
    have hcls6:=hclsT.le (hle5.trans hle6)
    have hUin6:=hUin.le (hle5.trans hle6)
    repeat' (first|(refine A1j (i:=0) (d:=79) hm (by rfl) (by rfl) (by rfl) (by rfl) (by rw[hfo];exact hcell) ?_)|(refine P5 (d:=83) (enc:=fun t=> [A01 t]) (z:=(c,ca,cq)) ?_ (hr:=hcls6) (he:=fun _=>rfl) (hz:=by exact hgU);intro bz oz hpz)|refine A1s ?_ hm|refine D7 ?_|refine D5 ?_|refine J5 ?_|refine G7 ?_|refine Z8 (k:=?_)|refine D8 ?_|refine A7 ?_|refine E5 ?_|refine A8 ?_|refine E9 ?_|refine F8 ?_|(refine D6 (ht:=fun _=>?_) (hf:=fun _=>?_)<;>(try first|contradiction|(exfalso;omega))))
    all_goals try omega
    refine U4 (fun x:EjX=> [(3,.slice (some ⟨ob,0,none⟩) its.length its.length),(4,.slice (some ⟨cb,0,none⟩) its.length its.length),(12,.bool b),(13,nt i),(14,nt t0.1.length),(72,nt its.length),(73,nt i),(84,.slice ca c.length cq),(85,nt c.length),(86,nt x.k)])
     (fun x w'=>Mem E x.I (A6t ob its.length ((S.set i x.t).map A01)::(S.set i x.t).map A4G) w'∧Le I6 x.I∧x.t.1=(c.take x.k).foldl (fun a k=>Sp.A2Y a ((S.map (·.1)).getD k [])) t0.1∧x.k≤c.length)
     (fun x=>c.length-x.k) ⟨0,I6,t0⟩ (by exact⟨rfl,rfl,rfl,rfl,rfl,rfl,rfl,rfl,rfl,rfl,trivial⟩) ⟨by dsimp only;rw[hset0];exact hm,Le.refl _,rfl,Nat.zero_le _⟩ ?_
    clear hm
    rintro⟨j,I7,t⟩ w7 ⟨hm,hle7,ht,hj⟩
    dsimp only at hm hle7 ht hj ⊢
    have hsr:=hRS.getD i
    rw[hrow] at hsr
    obtain⟨hmem,hsrt⟩:=Sp.A5R (S.map (·.1)) (c.take j) t0.1 hsr.1
    rw[←ht] at hmem hsrt
    have hnam:∀x∈t.1,x∈Sp.A1t its:=fun x hx=>by
     rcases(hmem x).1 hx with h|⟨k,_,h,_⟩
     ·exact hsr.2.1 x h
     ·exact(hRS.getD k).2.1 x h
    have hgi:(S.set i t)[i]?=some t:=List.getElem?_set_self (by omega)
    by_cases hjl:j<c.length
    ·have hgj:c[j]?=some c[j]:=List.getElem?_eq_getElem hjl
     obtain⟨hkl,_⟩:=Sp.A5I (i:=i) (k:=c[j]) (by rw[←hUi];exact List.getElem_mem hjl)
     have htk:c.take (j+1)=c.take j++ [c[j]]:=Sp.P9 hgj
     generalize c[j]=k at hgj hkl htk
     obtain⟨⟨tl,ta,tc⟩,hgk⟩:∃tk,(S.set i t)[k]?=some tk:=⟨_,List.getElem?_eq_getElem (by rw[List.length_set];omega)⟩
     have htt:i=k→(tl,ta,tc)=t:=fun e=>by
      subst e;rw[hgi] at hgk;exact(Option.some.inj hgk).symm
     have hjoin:Sp.A2Y t.1 tl=Sp.A2Y t.1 ((S.map (·.1)).getD k []):=by
      by_cases e:i=k
      ·have h:=htt e
       subst e
       rw[hrow,Sp.A6h t0.1 (fun x hx=>(hmem x).2 (.inl hx)), ←h,Sp.A6h tl (fun _ h=>h)]
      ·rw[List.getElem?_set_ne e] at hgk
       rw[List.getD_eq_getElem?_getD,List.getElem?_map,hgk];rfl
     have htlb:tl.length≤1000000000:=by
      refine Nat.le_trans (show tl.length≤(Sp.A1t its).length from Sp.A43 ?_ ?_) hN
      ·by_cases e:i=k
       ·have h:=hsrt;rw[←htt e] at h;exact h
       ·have h:=(hRS.getD k).1
        rw[List.getElem?_set_ne e] at hgk
        rw[List.getD_eq_getElem?_getD,List.getElem?_map,hgk] at h
        exact h
      ·by_cases e:i=k
       ·have h:=hnam;rw[←htt e] at h;exact h
       ·have h:=(hRS.getD k).2.1
        rw[List.getElem?_set_ne e] at hgk
        rw[List.getD_eq_getElem?_getD,List.getElem?_map,hgk] at h
        exact h
     have hcell7:((S.set i t).map A01)[k]?=some (A01 (tl,ta,tc)):=by rw[List.getElem?_map,hgk];rfl
     have hUin7:=hUin6.le hle7
     repeat' (first|(refine P5 (d:=88) (enc:=A1q) (z:=k) ?_ (hr:=hUin7) (he:=fun _=>rfl) (hz:=by exact hgj);intro bz oz hpz)|(refine A1j (i:=0) (d:=93) hm (by rfl) (by rfl) (by rfl) (by rfl) (by rw[hfo];exact hcell7) ?_)|refine A1s ?_ hm|refine D7 ?_|refine D5 ?_|refine J5 ?_|refine G7 ?_|refine Z8 (k:=?_)|refine D8 ?_|refine A7 ?_|refine E5 ?_|refine A8 ?_|refine E9 ?_|refine F8 ?_|(refine D6 (ht:=fun _=>?_) (hf:=fun _=>?_)<;>(try first|contradiction|(exfalso;omega))))
     all_goals try omega
     refine U4 (fun x:EjX=> [(3,.slice (some ⟨ob,0,none⟩) its.length its.length),(4,.slice (some ⟨cb,0,none⟩) its.length its.length),(12,.bool b),(13,nt i),(14,nt t0.1.length),(72,nt its.length),(73,nt i),(84,.slice ca c.length cq),(85,nt c.length),(86,nt j),(93,.slice ta tl.length tc),(94,nt tl.length),(95,nt x.k)])
      (fun x w'=>Mem E x.I (A6t ob its.length ((S.set i x.t).map A01)::(S.set i x.t).map A4G) w'∧Le I7 x.I∧x.t.1=Sp.A2Y t.1 (tl.take x.k)∧(i=k→x.t=t)∧x.k≤tl.length)
      (fun x=>tl.length-x.k) ⟨0,I7,t⟩ (by exact⟨rfl,rfl,rfl,rfl,rfl,rfl,rfl,rfl,rfl,rfl,rfl,rfl,rfl,trivial⟩) ⟨hm,Le.refl _,by dsimp only;rw[List.take_zero];rfl,fun _=>rfl,Nat.zero_le _⟩ ?_
     clear hm
     rintro⟨l,I8,u⟩ w8 ⟨hm,hle8,hu,hut,hl⟩
     dsimp only at hm hle8 hu hut hl ⊢
     by_cases hll:l<tl.length
     ·have hgl:tl[l]?=some tl[l]:=List.getElem?_eq_getElem hll
      have hst:=Sp.B3u (a:=t.1) hgl
      generalize tl[l]=s at hgl hst
      have hgu:(S.set i u)[i]?=some u:=List.getElem?_set_self (by omega)
      have hgk8:(S.set i u)[k]?=some (tl,ta,tc):=by
       by_cases e:i=k
       ·rw[hut e];exact hgk
       ·rw[List.getElem?_set_ne e];rw[List.getElem?_set_ne e] at hgk;exact hgk
      have hidx:(A6t ob its.length ((S.set i u).map A01)::(S.set i u).map A4G)[k+1]?=some (A4G (tl,ta,tc)):=by
       rw[List.getElem?_cons_succ,List.getElem?_map,hgk8];rfl
      obtain⟨g,rfl⟩:=(hm.front (k+1) hidx).rowAddr (by dsimp only;omega)
      have hsu:Sp.Srt u.1:=by rw[hu];exact Sp.A7u _ hsrt
      have hnu:∀x∈u.1,x∈Sp.A1t its:=fun x hx=>by
       rw[hu,Sp.A7t] at hx
       rcases hx with h|⟨h,h2⟩
       ·exact hnam x h
       ·by_cases e:i=k
        ·exact hnam x (by rw[←htt e];exact List.mem_of_mem_take h)
        ·have h3:=(hRS.getD k).2.1 x
         rw[List.getElem?_set_ne e] at hgk
         rw[List.getD_eq_getElem?_getD,List.getElem?_map,hgk] at h3
         exact h3 (List.mem_of_mem_take h)
      have hlu:u.1.length≤1000000000:=Nat.le_trans (Sp.A43 hsu hnu) hN
      have hA:=B9P I8 u s hsu hlu
      have hpm:(A6t ob its.length ((S.set i u).map A01)::(S.set i u).map A4G).Perm ([A4G u]++(A6t ob its.length ((S.set i u).map A01)::((S.set i u).eraseIdx i).map A4G)):=
       ((B2Q (g:=A4G) hgu).cons _).trans (.swap _ _ _)
      have hcell8:((S.set i u).map A01)[i]?=some (A01 u):=by rw[List.getElem?_map,hgu];rfl
      have hsc:(tl.flatMap A33)[l]?=some (str s):=flatS_get hgl
      repeat' (first|(refine A1j (i:=k+1) (d:=98) hm (by rfl) (by rfl) (by rfl) (by exact hidx) (by rw[hfo];exact hsc) ?_)|(refine A1j (i:=0) (d:=104) hm (by rfl) (by rfl) (by rfl) (by rfl) (by rw[hfo];exact hcell8) ?_)|(refine F5 (d:=106) ?_ hm (hp:=hpm) (hc:=hA);clear hm;rintro _ I9 _ _ ⟨u2,hu1,hu2,rfl,rfl⟩ hleI9 hm)|(refine A20 (i:=1) hm (by rfl) (by rfl) (by rfl) (by rfl) (by rfl) (by rfl) (by rfl) (by simp;omega) ?_;clear hm;intro _ hm;rw[hfo,B2f,List.set_set] at hm;simp only[F7] at hm)|refine D7 ?_|refine D5 ?_|refine J5 ?_|refine Q4 ?_|refine Z8 (k:=?_)|refine D8 ?_|refine A7 ?_|refine D9 ?_|refine E5 ?_|refine A8 ?_|refine E9 ?_|refine F8 ?_|(refine D6 (ht:=fun _=>?_) (hf:=fun _=>?_)<;>(try first|contradiction|(exfalso;omega))))
      all_goals try omega
      refine J9 (⟨l+1,I9,u2⟩:EjX) (by exact⟨rfl,rfl,rfl,rfl,rfl,rfl,rfl,rfl,rfl,rfl,rfl,rfl,rfl,trivial⟩) ⟨?_,hle8.trans hleI9,?_,fun e=>?_,by dsimp only;omega⟩ (by dsimp only;omega)
      ·dsimp only
       have h:=B9g (g:=A4G) (T:=S.set i u) (i:=i) (u:=u2) (by rw[List.length_set];omega)
       rw[List.set_set] at h
       exact hm.perm ((List.Perm.swap _ _ _).trans (List.Perm.cons _ (h.symm)))
      ·dsimp only;rw[hst,hu1,hu]
      ·dsimp only
       have hx:s∈u.1:=by
        rw[hut e, ←htt e];exact List.mem_of_getElem? hgl
       rw[hu2 (.inr hx)];exact hut e
     ·obtain rfl:l=tl.length:=by omega
      rw[List.take_length,hjoin] at hu
      repeat' (first|refine D7 ?_|refine J5 ?_|refine Q4 ?_|refine D8 ?_|refine A7 ?_|refine G9 ?_|refine D9 ?_|refine G6 ?_|refine E5 ?_|refine A8 ?_|refine O4 ?_|(refine D6 (ht:=fun _=>?_) (hf:=fun _=>?_)<;>(try first|contradiction|(exfalso;omega))))
      all_goals try omega
      refine J9 (⟨j+1,I8,u⟩:EjX) (by exact⟨rfl,rfl,rfl,rfl,rfl,rfl,rfl,rfl,rfl,rfl,trivial⟩) ⟨hm,hle7.trans hle8,?_,by dsimp only;omega⟩ (by dsimp only;omega)
      dsimp only
      rw[htk,List.foldl_append, ←ht,hu];rfl
    ·obtain rfl:j=c.length:=by omega
     rw[List.take_length,hUi] at ht
     have htr:Sp.A6T its (S.map (·.1)) i=t.1:=by rw[Sp.A6T,hrow,ht]
     have hcell9:((S.set i t).map A01)[i]?=some (A01 t):=by rw[List.getElem?_map,hgi];rfl
     have hbn:=Sp.B7h hR hRS hLS (i:=i) (by rw[List.length_map];omega) hb
     have hstp:(S.set i t).map (·.1)=Sp.A00 its (S.map (·.1)) i:=by rw[Sp.A00,htr,List.map_set]
     rw[hrow,htr, ←hstp] at hbn
     have hfold:(S.set i t).map (·.1)=(List.range (i+1)).foldl (Sp.A00 its) (T.map (·.1)):=by
      rw[hstp,List.range_succ,List.foldl_append, ←hS];rfl
     cases b with
     |true=>
      repeat' (first|refine D7 ?_|refine D5 ?_|refine J8 ?_|refine J5 ?_|refine Q4 ?_|refine Y1 ?_|refine D8 ?_|refine A7 ?_|refine G9 ?_|refine D9 ?_|refine G6 ?_|refine E5 ?_|refine A8 ?_|refine O4 ?_|(refine D6 (ht:=fun _=>?_) (hf:=fun _=>?_)<;>(try first|contradiction|(exfalso;omega))))
      all_goals try omega
      exact J9 (⟨i+1,I7,S.set i t,true⟩:EiX) (by exact⟨rfl,rfl,rfl,rfl,rfl,trivial⟩) ⟨hm,hle6.trans hle7,hfold,hbn,by dsimp only;omega⟩ (by dsimp only;omega)
     |false=>
      repeat' (first|(refine A1j (i:=0) (d:=115) hm (by rfl) (by rfl) (by rfl) (by rfl) (by rw[hfo];exact hcell9) ?_)|refine D7 ?_|refine D5 ?_|refine J3 ?_|refine J5 ?_|refine A2L ?_|refine G7 ?_|refine Q4 ?_|refine Z8 (k:=?_)|refine D8 ?_|refine A7 ?_|refine G9 ?_|refine D9 ?_|refine G6 ?_|refine E5 ?_|refine A8 ?_|refine O4 ?_|(refine D6 (ht:=fun _=>?_) (hf:=fun _=>?_)<;>(try first|contradiction|(exfalso;omega))))
      all_goals try omega
      exact J9 (⟨i+1,I7,S.set i t,(false||decide ((t0.1.length:Int)<(t.1.length:Int)))⟩:EiX) (by exact⟨rfl,rfl,rfl,rfl,rfl,trivial⟩) ⟨hm,hle6.trans hle7,hfold,hbn,by dsimp only;omega⟩ (by dsimp only;omega)
   ·obtain rfl:i=its.length:=by omega
    have hS2:S.map (·.1)=Sp.A07 its (T.map (·.1)):=hS
    rw[hS2] at hb hRS
    repeat' (first|refine J5 ?_|refine D8 ?_|refine A7 ?_|refine G9 ?_|refine D9 ?_|refine G6 ?_|refine E5 ?_|refine A8 ?_|refine O4 ?_|(refine D6 (ht:=fun _=>?_) (hf:=fun _=>?_)<;>(try first|contradiction|(exfalso;omega))))
    all_goals try omega
    refine J9 (⟨I6,S,b⟩:ErX) (by exact⟨rfl,rfl,rfl,trivial⟩) ⟨hm,hle5.trans hle6,by dsimp only;rw[hS2];exact hRS,?_,fun h=>?_⟩ ?_
    ·dsimp only
     rw[hS2, ←hit]
     by_cases e:Sp.A07 its (T.map (·.1))=T.map (·.1)
     ·rw[e]
     ·exact(Sp.B3t hR e).symm
    ·dsimp only at h ⊢
     have e:Sp.A07 its (T.map (·.1))=T.map (·.1):=Classical.byContradiction fun e=>by
      rw[hb.2 e] at h;cases h
     rw[hS2,e,e]
    ·dsimp only
     rw[hS2]
     cases b with
     |false=>simp
     |true=>
      have h1:=Sp.A4X hR (hb.1 rfl)
      have h2:=Sp.A61 hRS
      simp only[if_true]
      have e0:Sp.A7L its=its.length *(Sp.A1t its).length:=rfl
      omega
end Go.Proofs.YtfjdfdgpkncpfaaGreatDoor
end
section
namespace Go.Sp
theorem B5k {l:List Nm}{k:Nat}{c:Nm}{p:Nm→Bool} (h:l[k]?=some c):((l.take (k+1)).filter p).map A6C=((l.take k).filter p).map A6C++(if p c then [A6C c] else []):=by
 rw[P9 h,List.filter_append,List.map_append]
 cases hp:p c<;>simp[hp]
theorem B1u {its:List Itm} (i:Nat):(A3k its i).length≤(A1t its).length:=A43 (A8C its i) (((A4l its).2.1.getD i).2.1)
end Go.Sp
namespace Go.Proofs.YtfjdfdgpkncpfaaGreatDoor
open Go.Proofs.Tryz
open Go.Fw
theorem B8q (I:O5) (b:Nat) (c:List UInt8) (hb:PtrI I b 0 9 [str c]) (x:Sp.Rf):
  CalM prog 114 #[.agg (A1v x).toArray,ptr b] I [] (fun v _ H'=>v=.bool (decide (x.name=c))∧H'= []):=by
 refine CalM.of fun w E hm=>enter (N:=8) func114 rfl [(0,.agg (A1v x).toArray),(1,ptr b)] A0B rfl ?_
 repeat' (first|(refine A0t (d:=2) ?_ hm;clear hm;intro b2 _ hm)|refine H6 ?_ hm|refine A1s ?_ hm|refine D5 ?_|refine U0 ?_|refine C9 ?_|refine D8 ?_|refine A7 ?_|refine E5 ?_|refine A8 ?_|refine G8 ?_|refine H5 ?_)
 exact⟨I,[],⟨rfl,rfl⟩,hm.left (H:= [])⟩
theorem C0x {its:List Sp.Itm}{i:Nat}{T:List (Tri (List UInt8))} (hT:T.map (·.1)=Sp.A3v its) (hi:i<its.length):
  ∃a cp,T[i]?=some (Sp.A3k its i,a,cp)∧(T.map A01)[i]?=some (.slice a (Sp.A3k its i).length cp):=by
 have hl:T.length=its.length:=by
  have:=congrArg List.length hT
  rw[Sp.A9N] at this
  simpa using this
 have hg:T[i]?=some T[i]:=List.getElem?_eq_getElem (by omega)
 have h1:Sp.A3k its i=T[i].1:=by
  rw[Sp.A3k, ←hT,List.getD_eq_getElem?_getD,List.getElem?_map,hg];rfl
 generalize T[i]=t at hg h1
 obtain⟨l,a,cp⟩:=t
 dsimp only at h1
 subst h1
 exact⟨a,cp,hg,by rw[List.getElem?_map,hg];rfl⟩
structure EdX where
 k:Nat
 I:O5
 a:Option Addr
 cp:Nat
abbrev C0W (l:List Sp.Dg) (a:Option Addr) (cp:Nat):HItem:=.row (.slice a l.length cp) 92 4 l.length (l.flatMap A3w)
theorem B8p {its:List Sp.Itm} (i:Nat) (hi:i<its.length) (I:O5) (a:Option Addr) (cp:Nat) (xs:List Value) (hfe:FE I its a cp xs) (hsm:∀it∈its,it.fit∧Sp.N7 it.body≤400000000) (hN:(Sp.A1t its).length≤1000000000):
  CalM prog 88 #[.agg [.slice a its.length cp].toArray,nt i] I [] (fun v I' H'=>H'= []∧∃da dp,v=.slice da (Sp.A5d its i).length dp∧RowI I' 92 4 (.slice da (Sp.A5d its i).length dp) (Sp.A5d its i).length ((Sp.A5d its i).flatMap A3w)):=by
 refine CalM.of fun w E hm=>enter (N:=52) func88 rfl [(0,.agg [.slice a its.length cp].toArray),(1,nt i)] A0B rfl ?_
 have hfew:=hfe.few
 have hg:its[i]?=some its[i]:=List.getElem?_eq_getElem hi
 have hno:Sp.N9 its i=its[i]:=by rw[Sp.N9,List.getD_eq_getElem?_getD,hg];rfl
 have hss:=(hsm _ (List.getElem_mem hi)).1
 repeat' (first|refine Z5 1 ?_|(refine A0t (d:=2) ?_ hm;clear hm;intro b2 _ hm)|refine D5 ?_|refine D8 ?_|refine A7 ?_|refine E5 ?_|refine A8 ?_)
 all_goals try omega
 obtain⟨I1,hle1,hm1,hpf⟩:=hm.freezeO
 clear hm
 have hm:=hm1
 clear hm1
 have hfe1:=hfe.le hle1
 obtain⟨cs,hcs,hat,hl10⟩:=hfe1.get hg
 have hri:=hfe1.row
 have hA:=C0X (its:=its) I1 a cp xs hfe1 hsm hN
 rw[←hno] at hat hss
 have hk2:=fun h=>Sp.B5b (its:=its) (i:=i) h
 generalize hit:Sp.N9 its i=it at hat hss hk2
 obtain⟨ap,cp',as_,cs',ab,cb',ad,cd,xb,rfl,_,hsd,_,_,_⟩:=hat
 have hfo:∀k:Nat,(0:Nat)+(k:Int).toNat *1=k:=fun k=>by rw[Int.toNat_natCast];omega
 refine⟨?_⟩
 by_cases k2:it.kind=2
 ·skip
  repeat' (first|(refine L6 (d:=21) ?_ (hr:=hri);intro bt ot hpt;rw[show ((i:Int).toNat *10)=i *10 from rfl,hcs] at hpt)|refine Z5 4 ?_|refine H9 ?_ hm|refine D7 ?_|refine D5 ?_|refine J3 ?_|refine J5 ?_|refine A0i ?_|refine X9 ?_|refine G7 ?_|refine C9 ?_|(refine O0 (h1:=fun _=>?_) (h0:=fun _=>?_)<;>(try first|contradiction|(exfalso;omega)))|refine D8 ?_|refine A7 ?_|refine E5 ?_|refine A8 ?_|refine F8 ?_|(refine D6 (ht:=fun _=>?_) (hf:=fun _=>?_)<;>(try first|contradiction|(exfalso;omega))))
  all_goals try omega
  have hal:=Nat.le_trans (Sp.B1u (its:=its) i) hN
  refine⟨?_⟩
  repeat' (first|(refine F5 (d:=27) ?_ hm (hp:=pm0) (hc:=hA);clear hm;rintro _ I2 _ w2 ⟨ob,T,hT,rfl,rfl⟩ hleI2 hm;rw[List.append_nil] at hm;obtain⟨ta,tc,hti,hcell⟩:=C0x hT hi)|(refine A1j (i:=0) (d:=30) hm (by rfl) (by rfl) (by rfl) (by rfl) (by rw[hfo];exact hcell) ?_)|refine U7 ?_ hm|refine D7 ?_|refine G7 ?_|refine Z8 (k:=?_)|refine D8 ?_|refine A7 ?_|refine A8 ?_|refine E9 ?_)
  all_goals try omega
  obtain⟨I3,hle3,hm3,hrow⟩:=(hm.front (i+1) (by rw[List.getElem?_cons_succ,List.getElem?_map,hti];rfl)).freeze
  clear hm
  have hm:=(hm3.left (H:= [])).nil 92 4
  clear hm3
  have hle13:Le I1 I3:=hleI2.trans hle3
  have heD:Sp.A5d its i=((Sp.A3k its i).filter (fun c=> !Sp.A4z it c)).map Sp.A6C:=by rw[Sp.A5d,hit]
  generalize Sp.A3k its i=al at *
  refine U4 (fun x:EdX=> [(1,nt i),(2,ptr b2),(5,.slice x.a (((al.take x.k).filter (fun c=> !Sp.A4z it c)).map Sp.A6C).length x.cp),(30,.slice ta al.length tc),(31,nt al.length),(32,nt x.k)])
   (fun x w'=>Mem E x.I [C0W (((al.take x.k).filter (fun c=> !Sp.A4z it c)).map Sp.A6C) x.a x.cp] w'∧Le I3 x.I∧x.k≤al.length)
   (fun x=>al.length-x.k) ⟨0,I3,none,0⟩ (by exact⟨rfl,rfl,rfl,rfl,rfl,rfl,trivial⟩) ⟨hm,Le.refl _,Nat.zero_le _⟩ ?_
  clear hm
  rintro⟨k,I4,da,dp⟩ w4 ⟨hm,hle4,hk⟩
  dsimp only at hm hle4 hk ⊢
  by_cases hlt:k<al.length
  ·have hgk:al[k]?=some al[k]:=List.getElem?_eq_getElem hlt
   have hst:=Sp.B5k (p:=fun c=> !Sp.A4z it c) hgk
   have hdl:(((al.take k).filter (fun c=> !Sp.A4z it c)).map Sp.A6C).length≤1000000000:=by
    rw[List.length_map]
    refine Nat.le_trans (List.length_filter_le _ _) ?_
    rw[List.length_take];omega
   generalize al[k]=c at hgk hst
   generalize ((al.take k).filter (fun c=> !Sp.A4z it c)).map Sp.A6C=ds at hm hst hdl ⊢
   have hrow4:=hrow.le hle4
   have hri4:=(hri.le hle13).le hle4
   have hpf4:=(hpf.le hle13).le hle4
   repeat' (first|(refine P5 (d:=34) (enc:=A33) (z:=c) ?_ (hr:=hrow4) (he:=fun _=>rfl) (hz:=by exact hgk);intro bz oz hpz)|refine Z5 7 ?_|(refine B9Y (d:=7) ?_ hm;clear hm;intro b7 _ hm)|refine A1s ?_ hm|refine J5 ?_|refine D8 ?_|refine A7 ?_|refine E5 ?_|refine A8 ?_|refine E9 ?_|refine F8 ?_|(refine D6 (ht:=fun _=>?_) (hf:=fun _=>?_)<;>(try first|contradiction|(exfalso;omega))))
   all_goals try omega
   obtain⟨I5,hle5,hm5,hpc⟩:=hm.freezeO
   clear hm
   have hm:=hm5
   clear hm5
   have hri5:=hri4.le hle5
   have hpf5:=hpf4.le hle5
   have hsd5:=((hsd.le hle13).le hle4).le hle5
   have hE:=A88 114 [ptr b7] (fun x=>decide (x.name=c)) it.sends (by have:=hss.sends;omega) I5 as_ cs' hsd5 (fun J m x=>B8q J b7 c (hpc.le m) x)
   rw[show it.sends.any (fun x=>decide (x.name=c))=Sp.A4z it c from rfl] at hE
   refine⟨?_⟩
   cases hc:Sp.A4z it c with
   |true=>
    rw[hc] at hE hst
    repeat' (first|(refine L6 (d:=39) ?_ (hr:=hri5);intro bt ot hpt;rw[show ((i:Int).toNat *10)=i *10 from rfl,hcs] at hpt)|(refine F5 (d:=43) ?_ hm (hc:=hE);clear hm;rintro _ I6 _ _ ⟨rfl,rfl⟩ hle hm;have hleI6:=hle;try simp only[F7] at hm)|refine H9 ?_ hm|refine D7 ?_|refine U9 ?_|refine A0r ?_|refine Q4 ?_|refine C9 ?_|refine D8 ?_|refine A7 ?_|refine D9 ?_|refine A8 ?_|refine F8 ?_|refine F6 ?_)
    all_goals try omega
    refine J9 (⟨k+1,I6,da,dp⟩:EdX) (by dsimp only;rw[hst,if_neg (by simp),List.append_nil];exact⟨rfl,rfl,rfl,rfl,rfl,rfl,trivial⟩) ⟨?_,(hle4.trans hle5).trans hleI6,by dsimp only;omega⟩ (by dsimp only;omega)
    dsimp only;rw[hst,if_neg (by simp),List.append_nil];exact hm
   |false=>
    rw[hc] at hE hst
    repeat' (first|(refine L6 (d:=39) ?_ (hr:=hri5);intro bt ot hpt;rw[show ((i:Int).toNat *10)=i *10 from rfl,hcs] at hpt)|(refine F5 (d:=43) ?_ hm (hc:=hE);clear hm;rintro _ I6 _ _ ⟨rfl,rfl⟩ hle hm;have hleI6:=hle;try simp only[F7] at hm;replace hpc:=hpc.le hleI6)|(refine A2b (d:=49) ?_ hm;clear hm;intro a49 cp49 _ _ hm;try simp only[F7] at hm)|refine H9 ?_ hm|refine A1s ?_ hm|refine D7 ?_|refine D5 ?_|refine U9 ?_|refine A0r ?_|refine Q4 ?_|refine C9 ?_|refine Q9 ?_|refine D8 ?_|refine A7 ?_|refine D9 ?_|refine A8 ?_|refine F9 ?_)
    all_goals try omega
    rw[if_pos (by simp)] at hst
    refine J9 (⟨k+1,I6,a49,cp49⟩:EdX) (by dsimp only;rw[hst,List.length_append];exact⟨rfl,rfl,rfl,rfl,rfl,rfl,trivial⟩) ⟨?_,(hle4.trans hle5).trans hleI6,by dsimp only;omega⟩ (by dsimp only;omega)
    dsimp only[C0W]
    rw[hst,List.flatMap_append,List.length_append]
    exact hm
  ·obtain rfl:k=al.length:=by omega
   rw[List.take_length, ←heD] at hm
   repeat' (first|refine D7 ?_|refine D5 ?_|refine J5 ?_|refine D8 ?_|refine A7 ?_|refine G9 ?_|refine G6 ?_|refine E5 ?_|refine A8 ?_|refine O4 ?_|refine G8 ?_|refine H5 ?_|(refine D6 (ht:=fun _=>?_) (hf:=fun _=>?_)<;>(try first|contradiction|(exfalso;omega))))
   all_goals try omega
   rw[List.take_length, ←heD]
   obtain⟨I5,hle5,hm5,hr5⟩:=hm.freeze
   exact⟨I5,[],⟨rfl,da,dp,rfl,hr5⟩,hm5⟩
 ·skip
  repeat' (first|(refine L6 (d:=21) ?_ (hr:=hri);intro bt ot hpt;rw[show ((i:Int).toNat *10)=i *10 from rfl,hcs] at hpt)|refine H9 ?_ hm|refine D7 ?_|refine D5 ?_|refine J3 ?_|refine J5 ?_|refine A0i ?_|refine X9 ?_|refine G7 ?_|refine C9 ?_|(refine O0 (h1:=fun _=>?_) (h0:=fun _=>?_)<;>(try first|contradiction|(exfalso;omega)))|refine D8 ?_|refine A7 ?_|refine G5 ?_|refine E5 ?_|refine A8 ?_|refine G8 ?_|refine H5 ?_|(refine D6 (ht:=fun _=>?_) (hf:=fun _=>?_)<;>(try first|contradiction|(exfalso;omega))))
  all_goals try omega
  have he:Sp.A5d its i= []:=by rw[Sp.A5d,hk2 k2];rfl
  rw[he]
  obtain⟨I4,hle4,hm4,hrow⟩:=(hm.nil 92 4).freeze
  exact⟨I4,[],⟨rfl,none,0,rfl,hrow⟩,hm4.left (H:= [])⟩
end Go.Proofs.YtfjdfdgpkncpfaaGreatDoor
end
section
namespace Go.Sp
structure SameB (its jts:List Itm):Prop where
 len:jts.length=its.length
 kind:∀k,(N9 jts k).kind=(N9 its k).kind
 body:∀k,(N9 jts k).body=(N9 its k).body
 find:∀n,Q8 jts 2 n=Q8 its 2 n
theorem SameB.init {its jts:List Itm} (h:SameB its jts) (k:Nat):A1T jts k=A1T its k:=by
 rw[A1T,A1T,A2M,A2M,h.kind,h.body]
theorem SameB.calls {its jts:List Itm} (h:SameB its jts) (k:Nat):A0J jts k=A0J its k:=by
 have hf:A3b jts=A3b its:=by
  funext l
  rw[A3b,A3b,show Q8 jts 2=Q8 its 2 from funext h.find]
 rw[A0J,A0J,A2M,A2M,h.kind,h.body,hf]
theorem SameB.inits {its jts:List Itm} (h:SameB its jts):A1K jts=A1K its:=by
 rw[A1K,A1K,h.len,show A1T jts=A1T its from funext h.init]
theorem SameB.round {its jts:List Itm} (h:SameB its jts):A07 jts=A07 its:=by
 have hs:A00 jts=A00 its:=by
  funext r i
  rw[A00,A00,A6T,A6T,h.calls]
 funext r
 rw[A07,A07,h.len,hs]
theorem SameB.iter {its jts:List Itm} (h:SameB its jts):∀(n:Nat) (r:List (List Nm)),A1M jts n r=A1M its n r
 |0,r=>rfl
 |n+1,r=>by rw[A1M,A1M,h.round,h.iter n]
theorem SameB.alls {its jts:List Itm} (h:SameB its jts):A3v jts=A3v its:=by
 rw[A3v,A3v,A1t,A1t,h.inits,h.len,h.iter]
theorem SameB.all {its jts:List Itm} (h:SameB its jts) (i:Nat):A3k jts i=A3k its i:=by rw[A3k,A3k,h.alls]
theorem A7W {α:Type}{p:α→Bool}:∀ {l m:List α},l.map p=m.map p→l.findIdx? p=m.findIdx? p
 | [],[],_=>rfl
 | [],_::_,h=>by cases h
 |_::_,[],h=>by cases h
 |a::l,b::m,h=>by
  simp only[List.map_cons,List.cons.injEq] at h
  rw[List.findIdx?_cons,List.findIdx?_cons,h.1,A7W h.2]
theorem SameB.set {its:List Itm}{i:Nat}{it:Itm} (hg:its[i]?=some it) (l:List Rf):SameB its (its.set i { it with sends:=l}):=by
 have hi:=(List.getElem?_eq_some_iff.1 hg).1
 have key:∀k,N9 (its.set i { it with sends:=l}) k=if i=k then { it with sends:=l} else N9 its k:=fun k=>by
  by_cases e:i=k
  ·subst e
   rw[if_pos rfl,N9,List.getD_eq_getElem?_getD,List.getElem?_set_self hi];rfl
  ·rw[if_neg e,N9,N9,List.getD_eq_getElem?_getD,List.getD_eq_getElem?_getD,List.getElem?_set_ne e]
 have hit:N9 its i=it:=by rw[N9,List.getD_eq_getElem?_getD,hg];rfl
 refine⟨by rw[List.length_set],fun k=>?_,fun k=>?_,fun n=>?_⟩
 ·rw[key];split
  ·rename_i e;subst e;rw[hit]
  ·rfl
 ·rw[key];split
  ·rename_i e;subst e;rw[hit]
  ·rfl
 ·rw[Q8,Q8]
  refine A7W ?_
  apply List.ext_getElem?
  intro k
  rw[List.getElem?_map,List.getElem?_map,List.getElem?_set]
  by_cases e:i=k
  ·subst e
   rw[if_pos rfl,if_pos hi,hg];rfl
  ·rw[if_neg e]
theorem B5a {its:List Itm}{i:Nat} (hi:i<its.length) (x:Nm):x∈A3k its i↔x∈A1T its i∨∃k∈A0J its i,x∈A3k its k:=by
 constructor
 ·intro h
  obtain⟨k,hk,hx⟩:=(A5l hi x).1 h
  cases hk with
  |refl=>exact .inl hx
  |step h1 r=>exact .inr ⟨_,h1,(A5l (A5I h1).1 x).2 ⟨k,r,hx⟩⟩
 ·rintro(h|⟨k,hk,hx⟩)
  ·exact(A5l hi x).2 ⟨i,.refl i,h⟩
  ·exact A5k hk hx
theorem B1Y {α:Type}{c:Nat}:∀(L:List (List α)),(∀a∈L,a.length≤c)→L.flatten.length≤L.length *c
 | [],_=>by simp
 |a::L,h=>by
  have h1:=h a List.mem_cons_self
  have h2:=B1Y L (fun b hb=>h b (List.mem_cons_of_mem _ hb))
  rw[List.flatten_cons,List.length_append,List.length_cons,Nat.add_mul];omega
theorem B6P (s:List UInt8):(∀x∈H8 s,x.small∧N7 x.body≤32000)∧(H8 s).length≤30:=by
 by_cases h0:Y5 s=0
 ·have hl:s.length≤4000∧(U2 s).length≤30:=by
   rw[Y5] at h0
   split at h0
   ·cases h0
   ·split at h0
    ·cases h0
    ·omega
  rw[H8,if_pos h0]
  refine⟨fun x hx=>?_,by simp[A3j,hl.2]⟩
  obtain⟨j,_,rfl⟩:=List.mem_map.1 hx
  have hp:(A0y s (U2 s) j).length≤4000:=by rw[A0y,List.length_take,List.length_drop];omega
  have hc:=A84 (A0y s (U2 s) j) ((U2 s).getD j 0)
  exact⟨A4S _ _ (by omega),by rw[A1L];omega⟩
 ·rw[H8,if_neg h0]
  exact⟨fun x hx=>(by cases hx),Nat.zero_le _⟩
theorem B5G {its:List Itm} (h:∀x∈its,x.small∧N7 x.body≤32000) (h2:its.length≤30):(A1t its).length≤960000:=by
 have h3:=B1Y (c:=32000) (A1K its) (fun a ha=>by
  obtain⟨j,hj,rfl⟩:=List.mem_map.1 ha
  rw[A1T]
  split
  ·have h4:=A9d (N9 its j)
   have h5:=(h (N9 its j) (by rw[N9,List.getD_eq_getElem?_getD,List.getElem?_eq_getElem (List.mem_range.1 hj)];exact List.getElem_mem (List.mem_range.1 hj))).2
   omega
  ·exact Nat.zero_le _)
 rw[A6g] at h3
 have:its.length *32000≤30 *32000:=Nat.mul_le_mul_right _ h2
 exact Nat.le_trans h3 (by omega)
end Go.Sp
namespace Go.Proofs.YtfjdfdgpkncpfaaGreatDoor
open Go.Proofs.Tryz
open Go.Fw
end Go.Proofs.YtfjdfdgpkncpfaaGreatDoor
namespace Go.Proofs.YtfjdfdgpkncpfaaGreatDoor
open Go.Proofs.Tryz
open Go.Fw
theorem A4L (a:Int) (w:World):Cal prog 26 #[.int .i64 a] w fun v w'=>v=.bool (decide (0≤a∧a≤255))∧w'=w:=by
 refine enter (N:=9) func26 rfl [(0,.int .i64 a)] Z4 rfl ?_
 repeat' (first|refine D7 ?_|refine D5 ?_|refine J8 ?_|refine J3 ?_|refine B3C ?_|refine A0i ?_|refine Y1 ?_|(refine O0 (h1:=fun _=>?_) (h0:=fun _=>?_)<;>(try first|contradiction|(exfalso;omega)))|(refine A4H (h1:=fun _=>?_) (h0:=fun _=>?_)<;>(fail_if_success contradiction))|refine D8 ?_|refine A7 ?_|refine G5 ?_|refine E5 ?_|refine A8 ?_|refine F8 ?_|refine G8 ?_|refine H5 ?_)
 all_goals (refine⟨congrArg Value.bool ?_,rfl⟩;rw[Bool.eq_iff_iff];simp;omega)
theorem A6z (a b:Nat) (ha:a<256) (hb:b<256) (w:World):Cal prog 27 #[.int .i64 a,.int .i64 b] w fun v w'=>v=.bool (Sp.S9 a b)∧w'=w:=by
 refine enter (N:=9) func27 rfl [(0,.int .i64 a),(1,.int .i64 b)] A0B rfl ?_
 repeat' (first|refine D7 ?_|refine D5 ?_|refine L8 ?_|refine U0 ?_|refine B2n ?_|refine B2o ?_|refine A7B ?_|refine D8 ?_|refine A7 ?_|refine G5 ?_|refine E5 ?_|refine A8 ?_|refine F8 ?_|refine G8 ?_|refine H5 ?_)
 refine⟨congrArg Value.bool ?_,rfl⟩
 rw[Bool.eq_iff_iff,decide_eq_true_eq,Int.toNat_natCast,Int.toNat_natCast, ←Sp.A7N ha hb]
 omega
theorem A4K (a b:Nat) (ha:a<256) (hb:b<256) (w:World):Cal prog 74 #[.int .i64 a,.int .i64 b] w fun v w'=>v=.int .i64 ((a|||b:Nat):Int)∧w'=w:=by
 refine enter (N:=8) func74 rfl [(0,.int .i64 a),(1,.int .i64 b)] A0B rfl ?_
 repeat' (first|refine D7 ?_|refine D5 ?_|refine B2q ?_|refine D8 ?_|refine A7 ?_|refine G5 ?_|refine E5 ?_|refine A8 ?_|refine F8 ?_|refine G8 ?_|refine H5 ?_)
 exact⟨rfl,rfl⟩
theorem B6o (a b:Nat) (ha:a<256) (hb:b<256) (w:World):Cal prog 30 #[.int .i64 a,.int .i64 b] w fun v w'=>v=.int .i64 ((a &&& b:Nat):Int)∧w'=w:=by
 refine enter (N:=8) func30 rfl [(0,.int .i64 a),(1,.int .i64 b)] A0B rfl ?_
 repeat' (first|refine D7 ?_|refine D5 ?_|refine B3B ?_|refine D8 ?_|refine A7 ?_|refine G5 ?_|refine E5 ?_|refine A8 ?_|refine F8 ?_|refine G8 ?_|refine H5 ?_)
 exact⟨rfl,rfl⟩
end Go.Proofs.YtfjdfdgpkncpfaaGreatDoor
end
section
namespace Go.Sp
theorem B3i (n:List UInt8) {l:List Lc}{k:Nat}{x:Lc} (h:l[k]?=some x):A0g (l.take (k+1)) n=if x.name=n then some x else A0g (l.take k) n:=by
 rw[P9 h,A2U]
end Go.Sp
namespace Go.Proofs.YtfjdfdgpkncpfaaGreatDoor
open Go.Proofs.Tryz
open Go.Fw
abbrev A5b (l:Sp.Lc):List Value:= [str l.name,nt l.at_]
abbrev B67 (sc:List Sp.Lc) (sa:Option Addr) (sp:Nat):HItem:=.row (.slice sa sc.length sp) 219 2 sc.length (sc.flatMap A5b)
abbrev B9T (bf:Nat) (pi:Value) (sc:List Sp.Lc) (sa:Option Addr) (sp:Nat) (s:Sp.FW) (da:Option Addr) (dp:Nat) (vf:Value) (at_:Int):List Value:=
 [ptr bf,pi,.slice sa sc.length sp,.slice da s.ds.length dp,vf,.int .i64 at_,.bool s.hv.isSome,nt (s.hv.getD 0)]
abbrev C0Z (bc bf:Nat) (pi:Value) (sc:List Sp.Lc) (sa:Option Addr) (sp:Nat) (s:Sp.FW) (da:Option Addr) (dp:Nat) (vf:Value) (at_:Int):HItem:=
 .obj bc (.cells (B9T bf pi sc sa sp s da dp vf at_).toArray 190 (0,0))
abbrev FSt (bc bf:Nat) (pi:Value) (sc:List Sp.Lc) (sa:Option Addr) (sp:Nat) (s:Sp.FW) (da:Option Addr) (dp:Nat) (vf:Value) (at_:Int):List HItem:=
 [C0Z bc bf pi sc sa sp s da dp vf at_,B67 sc sa sp,A15 s.ds da dp]
abbrev ToF (bc bf:Nat) (pi:Value) (vf:Value) (at_:Int) (sc:List Sp.Lc) (s:Sp.FW) (val:Value):Value→O5→List HItem→Prop:=
 fun v _ H'=>v=val∧∃sa sp da dp,H'=FSt bc bf pi sc sa sp s da dp vf at_
structure FRd (J:O5) (bc bf:Nat) (pi:Value) (sc:List Sp.Lc) (sa:Option Addr) (sp:Nat) (v3 v4 v5 v6 v7:Value):Prop where
 ptr:PtrI J bc 0 190 [ptr bf,pi,.slice sa sc.length sp,v3,v4,v5,v6,v7]
 row:RowI J 219 2 (.slice sa sc.length sp) sc.length (sc.flatMap A5b)
theorem FRd.le {I J:O5} (m:Le I J) {bc bf:Nat}{pi:Value}{sc:List Sp.Lc}{sa:Option Addr}{sp:Nat}{v3 v4 v5 v6 v7:Value} (h:FRd I bc bf pi sc sa sp v3 v4 v5 v6 v7):FRd J bc bf pi sc sa sp v3 v4 v5 v6 v7:=⟨h.ptr.le m,h.row.le m⟩
section
variable {I:O5}{bc bf sp dp:Nat}{pi vf:Value}{sc:List Sp.Lc}{sa da:Option Addr}{s:Sp.FW}{at_:Int}
theorem CalR.flow {f:FuncId}{args:Array Value}{v:Value} (h:∀J,Le I J→FRd J bc bf pi sc sa sp (.slice da s.ds.length dp) vf (.int .i64 at_) (.bool s.hv.isSome) (nt (s.hv.getD 0))→CalR prog f args J [] v):
  CalR prog f args I (FSt bc bf pi sc sa sp s da dp vf at_) v:=
 CalR.of fun w J hm hl hH hJ=>by
  have h1:=A4t (hH (C0Z bc bf pi sc sa sp s da dp vf at_) (by simp))
  have h2:=A91 (hH (B67 sc sa sp) (by simp))
  rw[←hJ] at h1 h2
  exact(h J hl ⟨h1,h2⟩).run w hm.inv (fun _ h=>by cases h)
theorem B3g {J:O5}{v3 v4 v5 v6 v7:Value} (n:List UInt8) (hs:sc.length≤1099511627776) (h:FRd J bc bf pi sc sa sp v3 v4 v5 v6 v7):CalR prog 176 #[ptr bc,str n] J [] (nt (Sp.A3E sc n)):=by
 refine CalR.of fun w K hm hl _ _=>enter (N:=34) func176 rfl [(0,ptr bc),(1,str n)] A0B rfl ?_
 obtain⟨hp,hr⟩:=h.le hl
 repeat' (first|refine H9 ?_ hm|refine D7 ?_|refine D5 ?_|refine G7 ?_|refine E8 ?_|refine A3M ?_|refine C9 ?_|refine D8 ?_|refine A7 ?_|refine E5 ?_|refine A8 ?_|refine E9 ?_)
 refine U4 (fun k:Nat=> [(0,ptr bc),(1,str n),(5,.int .i64 ((k:Int)-1))]) (fun k w'=>Mem ⟨w,[],K⟩ K [] w'∧k≤sc.length∧Sp.A0g sc n=Sp.A0g (sc.take k) n) (fun k=>k) sc.length (by exact⟨rfl,rfl,rfl,trivial⟩) ⟨hm,Nat.le_refl _,by rw[List.take_length]⟩ ?_
 clear hm
 rintro k w1 ⟨hm,hk,hf⟩
 try dsimp only at hm hk hf ⊢
 by_cases h0:0<k
 ·have hg:sc[k-1]?=some sc[k-1]:=List.getElem?_eq_getElem (by omega)
  have hcut:=Sp.B3i n hg
  rw[show k-1+1=k by omega] at hcut
  generalize sc[k-1]=x at hg hcut
  rw[hcut] at hf
  have hi:sc[((k:Int)-1).toNat]?=some x:=by rw[show ((k:Int)-1).toNat=k-1 by omega];exact hg
  by_cases hx:x.name=n
  ·rw[if_pos hx] at hf
   repeat' (first|(refine P5 (d:=21) (enc:=A5b) (z:=x) ?_ (hr:=hr) (he:=fun _=>rfl) (hz:=hi);intro b1 o1 p1)|(refine P5 (d:=31) (enc:=A5b) (z:=x) ?_ (hr:=hr) (he:=fun _=>rfl) (hz:=hi);intro b2 o2 p2)|refine H9 ?_ hm|refine D7 ?_|refine D5 ?_|refine A0i ?_|refine U0 ?_|refine E8 ?_|refine C9 ?_|refine D8 ?_|refine A7 ?_|refine G5 ?_|refine O8 ?_|refine E5 ?_|refine A8 ?_|refine E9 ?_|refine F8 ?_|refine G8 ?_|refine H5 ?_|(refine D6 (ht:=fun _=>?_) (hf:=fun _=>?_)<;>(try first|contradiction|(exfalso;omega))))
   all_goals try first|omega|contradiction
   exact⟨by rw[Sp.A3E,hf],hm.kept⟩
  ·rw[if_neg hx] at hf
   repeat' (first|(refine P5 (d:=21) (enc:=A5b) (z:=x) ?_ (hr:=hr) (he:=fun _=>rfl) (hz:=hi);intro b1 o1 p1)|refine H9 ?_ hm|refine D7 ?_|refine D5 ?_|refine A0i ?_|refine U0 ?_|refine E8 ?_|refine A3M ?_|refine C9 ?_|refine D8 ?_|refine A7 ?_|refine D9 ?_|refine E5 ?_|refine A8 ?_|refine E9 ?_|refine F8 ?_|(refine D6 (ht:=fun _=>?_) (hf:=fun _=>?_)<;>(try first|contradiction|(exfalso;omega))))
   all_goals try first|omega|contradiction
   refine J9 (k-1:Nat) (by exact⟨rfl,rfl,by rw[show (((k-1:Nat):Int)-1)=(k:Int)-1-1 by omega];rfl,trivial⟩) ⟨hm,by omega,hf⟩ (by omega)
 ·obtain rfl:k=0:=by omega
  repeat' (first|refine D7 ?_|refine D5 ?_|refine A0i ?_|refine D8 ?_|refine A7 ?_|refine G9 ?_|refine G6 ?_|refine E5 ?_|refine A8 ?_|refine O4 ?_|refine G8 ?_|refine H5 ?_|refine F6 ?_)
  all_goals try omega
  exact⟨by rw[Sp.A3E,hf];rfl,hm.kept⟩
theorem B59 (bc bf:Nat) (pi:Value) (sc:List Sp.Lc) (sa:Option Addr) (sp:Nat) (s:Sp.FW) (f t:Nat) (n:List UInt8) (da:Option Addr) (dp:Nat) (vf:Value) (at_:Int):
  [.obj bc (.cells [ptr bf,pi,.slice sa sc.length sp,.slice da (s.ds.length+1) dp,vf,.int .i64 at_,.bool s.hv.isSome,nt (s.hv.getD 0)].toArray 190 (0,0)),B67 sc sa sp,.row (.slice da (s.ds.length+1) dp) 92 4 (s.ds.length+1) (s.ds.flatMap A3w++A3w ⟨f,t,9,n⟩)]=FSt bc bf pi sc sa sp (s.tell f t n) da dp vf at_:=by
 simp[Sp.FW.tell,List.flatMap_append]
theorem B3h (n:List UInt8) (f t:Nat) (hd:s.ds.length<1099511627776):
  CalM prog 192 #[ptr bc,nt f,nt t,str n] I (FSt bc bf pi sc sa sp s da dp vf at_) (ToF bc bf pi vf at_ sc (s.tell f t n) (.tuple #[])):=by
 refine CalM.of fun w E hm=>enter (N:=21) func192 rfl [(0,ptr bc),(1,nt f),(2,nt t),(3,str n)] A8I rfl ?_
 repeat' (first|(refine A2b (d:=18) ?_ hm;clear hm;intro a18 cp18 _ _ hm;try simp only[F7] at hm)|refine H6 ?_ hm|(refine J6 hm (k:=?_);clear hm;intro _ hm;try simp only[F7] at hm)|refine D7 ?_|refine E8 ?_|refine C9 ?_|refine Q9 ?_|refine D8 ?_|refine A8 ?_|refine X3 ?_)
 exact⟨I,_,⟨rfl,_,_,_,_,B59 _ _ _ _ _ _ s f t n _ _ _ _⟩,hm⟩
theorem C1p (x:Sp.Stm) (b o tc:Nat) (cs:List Value) (hp:PtrI I b o tc cs) (hx:A29 I x cs) (a c:Nat) (ha:a<256) (hc:c<256) (hd:s.ds.length<1099511627776):
  CalM prog 175 #[ptr bc,.pointer (some ⟨b,o,none⟩),nt a,nt c] I (FSt bc bf pi sc sa sp s da dp vf at_) (ToF bc bf pi vf at_ sc (s.ask a c x.fr x.to x.name) (.tuple #[])):=by
 refine CalM.of fun w E hm=>enter (N:=26) func175 rfl [(0,ptr bc),(1,.pointer (some ⟨b,o,none⟩)),(2,nt a),(3,nt c)] A8I rfl ?_
 obtain⟨ea,ec,ex,a1,c1,xs1,a2,c2,xs2,rfl,_⟩:=hx.out
 have hF:=fun w=>A6z a c ha hc w
 rw[Sp.FW.ask]
 cases hb:Sp.S9 a c with
 |true=>
  rw[hb] at hF
  repeat' (first|(refine Q7 (d:=10) (hc:=by exact hF _) (k:=?_);rintro _ _ ⟨rfl,rfl⟩)|refine D7 ?_|refine U9 ?_|refine D8 ?_|refine A7 ?_|refine E5 ?_|refine A8 ?_|refine F8 ?_|refine X3 ?_|refine F6 ?_)
  all_goals try first|omega|contradiction
  exact⟨I,_,⟨rfl,_,_,_,_,rfl⟩,hm⟩
 |false=>
  rw[hb] at hF
  have hT:=fun J=>B3h (I:=J) (bc:=bc) (bf:=bf) (pi:=pi) (sc:=sc) (sa:=sa) (sp:=sp) (s:=s) (da:=da) (dp:=dp) (vf:=vf) (at_:=at_) x.name x.fr x.to hd
  repeat' (first|(refine Q7 (d:=10) (hc:=by exact hF _) (k:=?_);rintro _ _ ⟨rfl,rfl⟩)|(refine Q5 (id:=1) 13 (h:=?_))|(refine F5 (d:=25) ?_ hm (hc:=hT _);clear hm;rintro _ I2 _ _ ⟨rfl,sa2,sp2,da2,dp2,rfl⟩ hle hm;have hleI2:=hle;try simp only[F7] at hm)|refine X8 ?_ hm|refine D7 ?_|refine U9 ?_|refine D8 ?_|refine A7 ?_|refine E5 ?_|refine A8 ?_|refine X3 ?_|(refine V4 ?_;intro _ hkq;replace hm:=hm.kept0 hkq;clear hkq)|refine F9 ?_|refine U3 ?_|refine J4 ?_|refine H7 ?_)
  all_goals try first|omega|contradiction
  exact⟨I2,_,⟨rfl,_,_,_,_,rfl⟩,hm⟩
end
structure FC (I:O5) (its:List Sp.Itm) (it:Sp.Itm) (bf:Nat) (a:Option Addr) (cp:Nat) (xs:List Value) (pi vf:Value):Prop where
 file:PtrI I bf 0 25 [.slice a its.length cp]
 fe:FE I its a cp xs
 item:∃bi oi tc ci,pi=.pointer (some ⟨bi,oi,none⟩)∧PtrI I bi oi tc ci∧A5g I it ci
 floors:∃fa fp,vf=.slice fa its.length fp∧RowI I 3 1 (.slice fa its.length fp) its.length ((Sp.A2y its).flatMap A1q)
 lab:Sp.A3G its
 own:it.label<256
theorem FC.le {I J:O5} (m:Le I J) {its:List Sp.Itm}{it:Sp.Itm}{bf:Nat}{a:Option Addr}{cp:Nat}{xs:List Value}{pi vf:Value} (h:FC I its it bf a cp xs pi vf):FC J its it bf a cp xs pi vf:=by
 obtain⟨h1,h2,⟨bi,oi,tc,ci,e,h3,h4⟩,⟨fa,fp,e2,h5⟩,h6,h7⟩:=h
 exact⟨h1.le m,h2.le m,⟨bi,oi,tc,ci,e,h3.le m,h4.le m⟩,⟨fa,fp,e2,h5.le m⟩,h6,h7⟩
end Go.Proofs.YtfjdfdgpkncpfaaGreatDoor
end
