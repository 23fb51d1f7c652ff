/- Own work. -/
import Derived.Test.YtbmbnippbldmfaaGreatDoorRa20
set_option maxHeartbeats 64000000
namespace Go.Sp
theorem C2F {its:List Itm}{l:List Nm}{j:Nat}{x:Nm} (h:l[j]?=some x):A9L its (l.take (j+1))=A9L its (l.take j)++(A0M its 2 x).toList:=by
 rw[U2 h,A9L,List.filterMap_append,A9L];cases hf:A0M its 2 x<;>simp[hf]
theorem B7o (its:List Itm) (l:List Nm):(A9L its l).length<=l.length:=List.length_filterMap_le _ _
theorem B7X (it:Itm):(A9Q it).1.length+(A9Q it).2.length<=U1 it.body:=by
 have:=B2Q it.body ([],[]);simpa[A9Q] using this.2
theorem D1t {its:List Itm}{r rows:List (List Nm)}{i:Nat}{b:Bool} (hr:RowsE its r) (hq:RowsE its rows) (hle:LeE r rows) (hi:i<rows.length) (hb:b=true↔rows≠r):
  ((b||decide (((rows.getD i []).length:Int)<((B4u its rows i).length:Int)))=true)↔A3T its rows i≠r:=by
 obtain⟨h1,h2⟩:=hq.step i;have hg:(A3T its rows i).getD i []=B4u its rows i:=A7O hi;by_cases hb1:b=true
 ·have hne:=hb.1 hb1
  simp only[hb1,Bool.true_or,true_iff];intro e;rw[e]at h2;exact hne (C21 hr hq hle h2).symm
 ·have he:rows=r:=Classical.byContradiction fun h=>hb1 (hb.2 h)
  have hb0:b=false:=by simpa using hb1
  simp only[hb0,Bool.false_or,decide_eq_true_eq];constructor
  ·intro h e
   rw[e, <-he]at hg;rw[hg]at h;exact Int.lt_irrefl _ h
  ·intro h
   have hs:∀x∈rows.getD i [],x∈B4u its rows i:=fun x hx=>(B0k hq i x).2 (.inl hx)
   have hss:Srt (B4u its rows i):=by rw[<-hg];exact(h1.getD i).1
   have hl:=B08 (hq.getD i).1 hs;rcases U9 (rows.getD i []).length (B4u its rows i).length with h3|h3
   ·exact Int.ofNat_lt.2 h3
   ·refine absurd ?_ h
    have e2:=C3W (hq.getD i).1 hss hs h3;rw[A3T, <-e2, <-he];exact A3B fun j=>by
     by_cases hij:i=j
     ·subst hij;rw[A7B hi,N9,F9 hi];rfl
     ·rw[A5M hij]
theorem B03 {α:Type} (f:Nat->α) (k:Nat):(List.range (k+1)).map f=(List.range k).map f++ [f k]:=by rw[A28,V5];rfl
theorem C8w {l:List Nm}{k:Nat}{c:Nm}{p:Nm->Bool} (h:l[k]?=some c):((l.take (k+1)).filter p).map B39=((l.take k).filter p).map B39++(if p c then [B39 c] else []):=by
 rw[U2 h,A8V,V5];cases hp:p c<;>simp[hp]
theorem C1P {its:List Itm} (i:Nat):(B1K its i).length<=(A4S its).length:=B08 (C1Q its i) (((A9W its).2.1.getD i).2.1)
theorem C2H {α:Type}{c:Nat}:∀(L:List (List α)),(∀a∈L,a.length<=c)->L.flatten.length<=L.length *c
 | [],_=>by simp
 |a::L,h=>by
  have h1:=h a O4;have h2:=C2H L (fun b hb=>h b (Z4 _ hb));rw[List.flatten_cons,D9,E9,A2u];omega
theorem C2z (s:List UInt8):(∀x∈G8 s,x.small/\U1 x.body<=32000)/\(G8 s).length<=30:=by
 by_cases h0:Y1 s=0
 ·have hl:s.length<=4000/\(A0l s).length<=30:=by
   rw[Y1]at h0;split at h0
   ·cases h0
   ·split at h0
    ·cases h0
    ·omega
  rw[G8,if_pos h0];refine⟨fun x hx=>?_,by simp[A3Z,hl.2]⟩
  obtain⟨j,_,rfl⟩:=Y7.1 hx;have hp:(A1v s (A0l s) j).length<=4000:=by rw[A1v,P9,A0v];omega
  have hc:=B15 (A1v s (A0l s) j) ((A0l s).getD j 0);exact⟨A6G _ _ (by omega),by rw[A1d];omega⟩
 ·rw[G8,if_neg h0]
  exact⟨fun x hx=>(by cases hx),H9 _⟩
theorem C8Z {its:List Itm} (h:∀x∈its,x.small/\U1 x.body<=32000) (h2:its.length<=30):(A4S its).length<=960000:=by
 have h3:=C2H (c:=32000) (A5u its) (fun a ha=>by
  obtain⟨j,hj,rfl⟩:=Y7.1 ha;rw[A70];split
  ·have h4:=B7X (X7 its j)
   have h5:=(h (X7 its j) (by rw[X7,N9,F9 (A1P.1 hj)];exact O1 (A1P.1 hj))).2;omega
  ·exact H9 _)
 rw[B3D]at h3;have:its.length *32000<=30 *32000:=A5a _ h2;exact A1A h3 (by omega)
theorem C4X (n:List UInt8) {l:List Lc}{k:Nat}{x:Lc} (h:l[k]?=some x):A1u (l.take (k+1)) n=if x.name=n then some x else A1u (l.take k) n:=by
 rw[U2 h,B1Y]
theorem C9j (its:List Itm) (sc:List Lc) (e:Ex):A1e its sc e=if e.kind=2 then A65 sc e.name else if e.kind=3 then A0Y its sc e.args 0 else if e.kind=4 then A21 its e.name else 0:=by
 cases e;rw[A1e];rfl
theorem A8S {its:List Itm}{k:Int}{n:List UInt8}{j:Nat} (h:A0M its k n=some j):A6d its k n=j:=by rw[A6d,h]
theorem A8R {its:List Itm}{k:Int}{n:List UInt8} (h:A0M its k n=none):A6d its k n= -1:=by rw[A6d,h]
end Go.Sp
namespace Go.Proofs
open Go.Proofs.Tryz
open Go.Sp
open Go.Fw
theorem D7r:Zero1 prog 178 sl0:=⟨by kernel_rfl,rfl⟩
theorem D7q:Zero1 prog 35 sl0:=⟨by kernel_rfl,rfl⟩
abbrev B3X (ob n:Nat) (cs:List Value):HItem:=.row (.slice (some ⟨ob,0,none⟩) n n) 178 1 n cs
abbrev C9P (cb n:Nat) (cs:List Value):HItem:=.row (.slice (some ⟨cb,0,none⟩) n n) 35 1 n cs
abbrev C48 (l:List Nat) (a:Option Addr) (cp:Nat):HItem:=.row (.slice a l.length cp) 3 1 l.length (l.flatMap A2K)
abbrev B0r (t:Tri (List UInt8)):HItem:=A9d t.1 t.2.1 t.2.2
abbrev B8r (t:Tri Nat):HItem:=C48 t.1 t.2.1 t.2.2
theorem D6f (I:P8) (l:List (List UInt8)) (a:Option Addr) (cp:Nat) (s:List UInt8) (hs:Sp.Srt l) (hn:l.length<=1000000000) (h0:s= []\/s∈l):
  CalM prog 138 #[.slice a l.length cp,str s] I [A9d l a cp] (fun v _ H'=>v=.slice a l.length cp/\H'= [A9d l a cp]):=by
 refine CalM.of fun w E hm=>enter (N:=24) func138 rfl [(0,.slice a l.length cp),(1,str s)] A1x rfl ?_
 have hS:=C2m I l a cp s hs hn;by_cases hm1:s∈l
 ·rw[decide_eq_true hm1]at hS
  repeat' (first|refine U8 (d:=10) ?_ hm (hc:=hS);clear hm;intro _ hm|refine D8 ?_|refine D6 ?_|refine O0 ?_|refine Y8 ?_|refine A0z ?_|refine E5 ?_|refine A7 ?_|refine H8 ?_|refine E8 ?_|refine A8 ?_|refine J3 ?_|refine J7 ?_|refine H5 ?_)
  exact⟨I,_,⟨rfl,rfl⟩,hm⟩
 ·rw[decide_eq_false hm1]at hS
  have hs0:s= []:=h0.resolve_right hm1;subst hs0;repeat' (first|refine U8 (d:=10) ?_ hm (hc:=hS);clear hm;intro _ hm|refine D8 ?_|refine D6 ?_|refine N7 ?_|refine A0g ?_|refine Y8 ?_|refine E5 ?_|refine A7 ?_|refine H8 ?_|refine E8 ?_|refine A8 ?_|refine J3 ?_|refine J7 ?_|refine H5 ?_)
  exact⟨I,_,⟨rfl,rfl⟩,hm⟩
structure EaX where
 k:Nat
 I:P8
 T:List (Tri (List UInt8))
 U:List (Tri Nat)
theorem _root_.Go.Fw.mid1_get {L:List Value}{k:Nat}{v:Value}{r:List Value} (h:L.length=k):(L++(v::r))[k]?=some v:=by
 subst h;rw[A2B (H7 _),A4d];rfl
theorem _root_.Go.Fw.mid1_set {L:List Value}{k:Nat}{v u:Value}{r:List Value} (h:L.length=k):(L++(v::r)).set k u=L++(u::r):=by
 subst h;rw[A5H,if_neg (Nat.lt_irrefl _),A4d];rfl
structure EcX where
 k:Nat
 I:P8
 c:Tri Nat
theorem _root_.Go.Fw.flat_tri {α:Type}:∀(U:List (Tri α)),U.flatMap (fun t=> [A3U t])=U.map A3U
 | []=>rfl
 |t::U=>by rw[A0c,flat_tri U];rfl
theorem _root_.Go.Fw.flatS_get {l:List (List UInt8)}{j:Nat}{s:List UInt8} (h:l[j]?=some s):(l.flatMap A9o)[j]?=some (str s):=by
 rw[B1Z,Y6,h];rfl
theorem _root_.Go.Fw.pmEa {x y o c:HItem}{A B:List HItem}:(x::y::o::c::(A++B)).Perm (o::c::((A++ [x])++(B++ [y]))):=by
 have h1:(x::y::o::c::(A++B)).Perm ([o,c]++([x,y]++(A++B))):=(A1o (l₁:= [x,y]) (l₂:= [o,c])).append_right (A++B);have h2:([x,y]++(A++B)).Perm ((A++ [x])++(B++ [y])):=by
  rw[show [x,y]++(A++B)= [x]++([y]++(A++B)) from rfl];have a1:([y]++(A++B)).Perm (A++(B++ [y])):=by
   rw[<-J5 A B [y]];exact A1o
  have a2:([x]++(A++(B++ [y]))).Perm (A++([x]++(B++ [y]))):=A8D _ _ _;rw[J5 A [x]];exact(a1.append_left [x]).trans a2
 exact h1.trans (h2.append_left [o,c])
theorem _root_.Go.Fw.pmEc {c cl o:HItem}{A:List HItem}{B:List HItem}:(c::cl::o::(A++B)).Perm (o::cl::(A++(B++ [c]))):=by
 have h1:(c::cl::o::(A++B)).Perm ([o,cl]++(A++B)++ [c]):=by
  refine(A1o (l₁:= [c]) (l₂:=cl::o::(A++B))).trans ?_
  exact(List.Perm.swap _ _ _).append_right [c]
 rw[J5,J5]at h1;exact h1
theorem _root_.Go.Fw.pmEb {s o cl:HItem}{A:List HItem}{B:List HItem}:(s::o::cl::(A++B)).Perm (cl::o::((A++ [s])++B)):=by
 have h1:(s::o::cl::(A++B)).Perm (cl::o::(s::(A++B))):=by
  refine(A1o (l₁:= [s]) (l₂:=o::cl::(A++B))).trans ?_
  refine(List.Perm.swap _ _ _).trans ?_
  exact((A1o (l₁:=A++B) (l₂:= [s])).cons o).cons cl
 refine h1.trans (((?_:(s::(A++B)).Perm ((A++ [s])++B)).cons o).cons cl)
 rw[J5];exact A8D [s] A B
theorem D6g (I:P8) (u:Tri (List UInt8)) (s:List UInt8) (hs:Sp.Srt u.1) (hn:u.1.length<=1000000000):
  CalM prog 138 #[A3U u,str s] I [B0r u] (fun v _ H'=> ∃u':Tri (List UInt8),u'.1=A63 u.1 s/\(s= []\/s∈u.1->u'=u)/\v=A3U u'/\H'= [B0r u']):=by
 by_cases h0:s= []\/s∈u.1
 ·refine(D6f I u.1 u.2.1 u.2.2 s hs hn h0).mono (fun v J H' _ hp=>?_)
  obtain⟨rfl,rfl⟩:=hp;exact⟨u,(B4V h0).symm,fun _=>rfl,rfl,rfl⟩
 ·refine(D0p I u.1 u.2.1 u.2.2 s hs hn).mono (fun v J H' _ hp=>?_)
  obtain⟨a,cp,rfl,rfl⟩:=hp;exact⟨(A63 u.1 s,a,cp),rfl,fun h=>absurd h h0,rfl,rfl⟩
theorem D71 {E:Ent}{w:World}{R:List HItem}:∀(U:List (Tri Nat)) {I:P8},Mem E I (U.map B8r++R) w->∃J,Le I J/\Mem E J R w/\∀t∈U,RowI J 3 1 (A3U t) t.1.length (t.1.flatMap A2K)
 | [],I,hm=>⟨I,Le.refl _,hm,fun _ h=>by cases h⟩
 |t::U,I,hm=>by
  obtain⟨I1,l1,m1,r1⟩:=Mem.freeze (H:=U.map B8r++R) hm;obtain⟨I2,l2,m2,h2⟩:=D71 U m1;refine⟨I2,l1.trans l2,m2,fun x hx=>?_⟩
  rcases W9.1 hx with rfl|hx
  ·exact r1.le l2
  ·exact h2 x hx
structure ErX where
 I:P8
 T:List (Tri (List UInt8))
 b:Bool
structure EiX where
 k:Nat
 I:P8
 T:List (Tri (List UInt8))
 b:Bool
structure EjX where
 k:Nat
 I:P8
 t:Tri (List UInt8)
theorem D7U {its:List Sp.Itm} (I:P8) (a:Option Addr) (cp:Nat) (xs:List Value) (hfe:FE I its a cp xs) (hsm:∀it∈its,it.fit/\U1 it.body<=400000000) (hN:(A4S its).length<=1000000000):
  CalM prog 110 #[.agg [.slice a its.length cp].toArray] I [] (fun v _ H'=> ∃(ob:Nat) (T:List (Tri (List UInt8))),T.map (·.1)=A9V its/\v=.slice (some ⟨ob,0,none⟩) its.length its.length/\H'=B3X ob its.length (T.map A3U)::T.map B0r):=by
 refine CalM.of fun w E hm=>enter (N:=122) func110 rfl [(0,.agg [.slice a its.length cp].toArray)] A0Z rfl ?_
 have hfew:=hfe.few;repeat' (first|refine A0U 1 ?_|refine A0T (d:=1) ?_ hm;clear hm;intro b1 _ hm|refine D6 ?_|refine E5 ?_|refine A7 ?_|refine E8 ?_|refine A8 ?_)
 obtain⟨I1,hle1,hm1,hpf⟩:=hm.freezeO;clear hm;have hm:=hm1;clear hm1;have hpf1:=hpf;refine⟨?_⟩
 repeat' (first|refine B5U (d:=22) sl0 D7r hm (by rfl) (by rfl) (by rfl) (by rfl) (by omega) (by rfl) ?_;clear hm;intro ob _ hm|refine B5U (d:=26) sl0 D7q hm (by rfl) (by rfl) (by rfl) (by rfl) (by omega) (by rfl) ?_;clear hm;intro cb _ hm|refine J9 ?_ hm|refine D8 ?_|refine D6 ?_|refine G6 ?_|refine D5 ?_|refine E5 ?_|refine A7 ?_|refine E8 ?_|refine A8 ?_|refine F6 ?_)
 have hm:=hm.swap;refine U3 (fun x:EaX=> [(1,ptr b1),(3,.slice (some ⟨ob,0,none⟩) its.length its.length),(4,.slice (some ⟨cb,0,none⟩) its.length its.length),(28,.slice a its.length cp),(29,nt its.length),(30,nt x.k)])
  (fun x w'=>Mem E x.I (B3X ob its.length (B1E (x.T.map A3U) (its.length-x.k))::C9P cb its.length (B1E (x.U.map A3U) (its.length-x.k))::(x.T.map B0r++x.U.map B8r)) w'/\Le I1 x.I/\
   x.T.map (·.1)=(List.range x.k).map (A70 its)/\x.U.map (·.1)=(List.range x.k).map (A4J its)/\x.k<=its.length)
  (fun x=>its.length-x.k) ⟨0,I1,[],[]⟩ (by exact⟨rfl,rfl,rfl,rfl,rfl,rfl,trivial⟩) ⟨by simpa[B1E] using hm,Le.refl _,rfl,rfl,H9 _⟩ ?_
 clear hm hpf;rintro⟨k,I2,T,U⟩ w2 ⟨hm,hle2,hT,hU,hk⟩;dsimp only at hm hle2 hT hU hk |-;have hTl:T.length=k:=by have:=congrArg List.length hT;simpa using this
 have hUl:U.length=k:=by have:=congrArg List.length hU;simpa using this
 have hpf2:=hpf1.le hle2;by_cases hlt:k<its.length
 ·obtain⟨m,hmm⟩:∃m,its.length-k=m+1:=⟨its.length-k-1,by omega⟩
  have hmm2:its.length-(k+1)=m:=by omega
  rw[hmm]at hm;have hg:its[k]?=some its[k]:=F9 hlt;have hno:X7 its k=its[k]:=by rw[X7,N9,hg];rfl
  obtain⟨hs1,hs2⟩:=hsm _ (O1 hlt);obtain⟨cs,hcs,hat,hl10⟩:=((hfe.le hle1).le hle2).get hg;have hri:=((hfe.le hle1).le hle2).row;generalize its[k]=it at hg hno hs1 hs2 hat
  have hiE:A70 its k=if it.kind=2 then (A9Q it).1 else []:=by rw[A70,hno]
  have hcE:A4J its k=if it.kind=2 then A9L its (A9Q it).2 else []:=by rw[A4J,hno]
  have hO:=D7V it hs1 hs2 I2 cs hat
  have hol:=B7X it;obtain⟨ap,cp',as_,cs',ab,cb',ad,cd,xb,rfl,_,_,_,_,_⟩:=hat
  have hfo:(0:Nat)+(k:Int).toNat *1=k:=by rw[A1R];omega
  by_cases k2:it.kind=2
  ·rw[if_pos k2]at hiE hcE
   repeat' (first|refine O7 (d:=33) ?_ (hr:=hri);intro bt ot hpt;rw[show ((k:Int).toNat *10)=k *10 from rfl,hcs]at hpt|refine U0 (d:=34) ?_ hm (hp:=hpt) (hc:=by exact hl10)|refine F8 (d:=40) ?_ hm (hc:=hO);clear hm;rintro _ I3 _ _ ⟨sa,sp,ca,cq,rfl,rfl⟩ hle hm;have hleI3:=hle;try simp only[G5]at hm|refine A5P (i:=3) hm (by rfl) (by rfl) (by rfl) (by rfl) (by rfl) (by rfl) (by rfl) (by simp;omega) ?_;clear hm;intro w3 hm;rw[hfo]at hm;simp only[G5]at hm|refine A0U 9 ?_|refine X8 (d:=6) ?_ hm;clear hm;intro b6 _ hm|refine J6 ?_ hm|refine Q7 ?_ hm|refine P6 ?_ hm;clear hm;intro _ hm;try simp only[G5]at hm|refine D8 ?_|refine D6 ?_|refine J8 ?_|refine A0w ?_|refine Y8 ?_|refine D5 ?_|refine Y3 (k:=?_)|refine E5 ?_|refine A7 ?_|refine E8 ?_|refine A8 ?_|refine F6 ?_|refine G7 ?_|(refine C9 (ht:=fun _=>?_) (hf:=fun _=>?_)<;>try first|contradiction|omega))
   obtain⟨I4,hle4,hm4,hrc⟩:=hm.swap.freeze;have hm5:=(hm4.swap.tl.perm pmEb).nil 3 1;clear hm hm4;rw[D1X (by rw[P7,hTl])]at hm5;obtain⟨T',hT'⟩:∃T',T'=T++ [((A9Q it).1,sa,sp)]:=⟨_,rfl⟩;have hT2:T'.map (·.1)=(List.range (k+1)).map (A70 its):=by rw[hT',V5,hT,B03,hiE];rfl
   have hm:Mem E I4 (B8r Tri.nil::C9P cb its.length (U.map A3U++(A3U (α:=Nat) Tri.nil::List.replicate m sl0))::B3X ob its.length (B1E (T'.map A3U) m)::(T'.map B0r++U.map B8r)) w3:=by
    rw[hT',V5,V5];exact hm5
   clear hm5 hT';have hpf3:=hpf2.le (hleI3.trans hle4);have hfe3:=((hfe.le hle1).le hle2).le (hleI3.trans hle4);generalize (A9Q it).2=called at hrc hcE hol;refine⟨?_⟩
   repeat' (first|refine D8 ?_|refine G6 ?_|refine E5 ?_|refine A7 ?_|refine A8 ?_|refine F6 ?_)
   refine U3 (fun x:EcX=> [(1,ptr b1),(3,.slice (some ⟨ob,0,none⟩) its.length its.length),(4,.slice (some ⟨cb,0,none⟩) its.length its.length),(5,nt k),(28,.slice a its.length cp),(29,nt its.length),(30,nt k),(47,.slice ca called.length cq),(48,nt called.length),(49,nt x.k)])
    (fun x w'=>Mem E x.I (B8r x.c::C9P cb its.length (U.map A3U++(A3U x.c::List.replicate m sl0))::B3X ob its.length (B1E (T'.map A3U) m)::(T'.map B0r++U.map B8r)) w'/\Le I4 x.I/\x.c.1=A9L its (called.take x.k)/\x.k<=called.length)
    (fun x=>called.length-x.k) ⟨0,I4,Tri.nil⟩ (by exact⟨rfl,rfl,rfl,rfl,rfl,rfl,rfl,rfl,rfl,rfl,trivial⟩) ⟨hm,Le.refl _,by dsimp only;rw[Z9];rfl,H9 _⟩ ?_
   clear hm;rintro⟨j,I5,c,ca5,cq5⟩ w5 ⟨hm,hle5,hc,hj⟩;dsimp only at hm hle5 hc hj |-;have hpf4:=hpf3.le hle5
   change Mem E I5 (C48 c ca5 cq5::C9P cb its.length (U.map A3U++(.slice ca5 c.length cq5::List.replicate m sl0))::B3X ob its.length (B1E (T'.map A3U) m)::(T'.map B0r++U.map B8r)) w5 at hm
   have hget:=fun (v:Value) (r:List Value)=>Go.Fw.mid1_get (v:=v) (r:=r) (show (U.map A3U).length=k by rw[P7,hUl])
   have hset:=fun (v u:Value) (r:List Value)=>Go.Fw.mid1_set (v:=v) (u:=u) (r:=r) (show (U.map A3U).length=k by rw[P7,hUl])
   by_cases hjl:j<called.length
   ·have hgj:called[j]?=some called[j]:=F9 hjl
    have hst:=C2F (its:=its) hgj;have hcl:=B7o its (called.take j);rw[<-hc,P9]at hcl;generalize called[j]=nm at hgj hst;have hF:=(A9N 2 nm its I5 a cp xs (hfe3.le hle5)).read;have hrc5:=hrc.le hle5;cases hf:A0M its 2 nm with
    |some i=>
     rw[show A6d its 2 nm=(i:Int) by rw[A6d,hf]]at hF;repeat' (first|refine Q4 (d:=51) (enc:=A9o) (z:=nm) ?_ (hr:=hrc5) (he:=fun _=>rfl) (hz:=by exact hgj);intro bz oz hpz|refine U8 (d:=55) ?_ hm (hc:=hF);clear hm;intro _ hm|refine A1G (i:=1) (d:=63) hm (by rfl) (by rfl) (by rfl) (by rfl) (by rw[hfo];exact hget _ _) ?_|refine A5P (i:=1) hm (by rfl) (by rfl) (by rfl) (by rfl) (by rfl) (by rfl) (by rfl) (by simp;omega) ?_;clear hm;intro _ hm;rw[hfo,hset]at hm;simp only[G5]at hm|refine A2P (d:=66) ?_ hm;clear hm;intro a66 cp66 _ _ hm;try simp only[G5]at hm|refine U0 ?_ hm|refine A0O ?_ hm|refine D8 ?_|refine D6 ?_|refine J8 ?_|refine A11 ?_|refine O9 ?_|refine Y3 (k:=?_)|refine E5 ?_|refine A7 ?_|refine D7 ?_|refine E8 ?_|refine A8 ?_|refine F6 ?_|refine G7 ?_|refine H5 ?_|(refine C9 (ht:=fun _=>?_) (hf:=fun _=>?_)<;>try first|contradiction|omega))
     refine L6 (⟨j+1,I5,c++ [i],a66,cp66⟩:EcX) (by exact⟨rfl,rfl,rfl,rfl,rfl,rfl,rfl,rfl,rfl,rfl,trivial⟩) ⟨?_,hle5,?_,by dsimp only;omega⟩ (by dsimp only;omega)
     ·dsimp only[B8r,A3U,C48]
      rw[X0,D9];exact hm
     ·dsimp only;rw[hst,hf, <-hc];rfl
    |none=>
     rw[show A6d its 2 nm= -1 by rw[A6d,hf]]at hF;repeat' (first|refine Q4 (d:=51) (enc:=A9o) (z:=nm) ?_ (hr:=hrc5) (he:=fun _=>rfl) (hz:=by exact hgj);intro bz oz hpz|refine U8 (d:=55) ?_ hm (hc:=hF);clear hm;intro _ hm|refine U0 ?_ hm|refine A0O ?_ hm|refine D8 ?_|refine D6 ?_|refine J8 ?_|refine A11 ?_|refine O9 ?_|refine E5 ?_|refine A7 ?_|refine D7 ?_|refine E8 ?_|refine A8 ?_|refine F6 ?_|refine G7 ?_|refine F7 ?_|(refine C9 (ht:=fun _=>?_) (hf:=fun _=>?_)<;>try first|contradiction|omega))
     refine L6 (⟨j+1,I5,c,ca5,cq5⟩:EcX) (by exact⟨rfl,rfl,rfl,rfl,rfl,rfl,rfl,rfl,rfl,rfl,trivial⟩) ⟨hm,hle5,?_,by dsimp only;omega⟩ (by dsimp only;omega)
     dsimp only;rw[hst,hf, <-hc];simp
   ·obtain rfl:j=called.length:=by omega
    rw[V7, <-hcE]at hc;repeat' (first|refine D8 ?_|refine J8 ?_|refine O9 ?_|refine E5 ?_|refine A7 ?_|refine H6 ?_|refine D7 ?_|refine G9 ?_|refine E8 ?_|refine A8 ?_|refine O8 ?_|(refine C9 (ht:=fun _=>?_) (hf:=fun _=>?_)<;>try first|contradiction|omega))
    refine L6 (⟨k+1,I5,T',U++ [(c,ca5,cq5)]⟩:EaX) (by exact⟨rfl,rfl,rfl,rfl,rfl,rfl,trivial⟩) ⟨?_,(hle2.trans (hleI3.trans hle4)).trans hle5,hT2,?_,by dsimp only;omega⟩ (by dsimp only;omega)
    ·dsimp only
     rw[hmm2];have h:=hm.perm pmEc;simp only[V5];rw[show List.map (A3U (α:=Nat)) U++(A3U (c,ca5,cq5)::List.replicate m sl0)=B1E (List.map A3U U++ [A3U (c,ca5,cq5)]) m by rw[B1E,J5];rfl]at h;exact h
    ·dsimp only;rw[V5,hU,B03, <-hc];rfl
  ·rw[if_neg k2]at hiE hcE
   repeat' (first|refine O7 (d:=33) ?_ (hr:=hri);intro bt ot hpt;rw[show ((k:Int).toNat *10)=k *10 from rfl,hcs]at hpt|refine U0 (d:=34) ?_ hm (hp:=hpt) (hc:=by exact hl10)|refine X8 (d:=6) ?_ hm;clear hm;intro b6 _ hm|refine J6 ?_ hm|refine P6 ?_ hm;clear hm;intro _ hm;try simp only[G5]at hm|refine D8 ?_|refine D6 ?_|refine J8 ?_|refine A0w ?_|refine O9 ?_|refine D5 ?_|refine E5 ?_|refine A7 ?_|refine H6 ?_|refine G9 ?_|refine E8 ?_|refine A8 ?_|refine F6 ?_|refine G7 ?_|refine O8 ?_|(refine C9 (ht:=fun _=>?_) (hf:=fun _=>?_)<;>try first|contradiction|omega))
   refine L6 (⟨k+1,I2,T++ [Tri.nil],U++ [Tri.nil]⟩:EaX) (by exact⟨rfl,rfl,rfl,rfl,rfl,rfl,trivial⟩) ⟨?_,hle2,?_,?_,by dsimp only;omega⟩ (by dsimp only;omega)
   ·dsimp only
    rw[hmm2];have h:=((hm.tl.nil 3 1).nil 9 1).perm pmEa;rw[B9J,B9J]at h;simp only[V5];exact h
   ·dsimp only;rw[V5,hT,B03,hiE];rfl
   ·dsimp only;rw[V5,hU,B03,hcE];rfl
 ·obtain rfl:k=its.length:=by omega
  rw[A4d,B1E,B1E,List.replicate_zero,J4,J4]at hm;repeat' (first|refine D6 ?_|refine J8 ?_|refine E5 ?_|refine A7 ?_|refine H6 ?_|refine G9 ?_|refine E8 ?_|refine A8 ?_|refine F6 ?_|refine O8 ?_|(refine C9 (ht:=fun _=>?_) (hf:=fun _=>?_)<;>try first|contradiction|omega))
  have hT0:T.map (·.1)=A5u its:=by rw[hT,A5u]
  have hmU:Mem E I2 (C9P cb its.length (U.map A3U)::(U.map B8r++(B3X ob its.length (T.map A3U)::T.map B0r))) w2:=hm.perm (by
   refine(List.Perm.swap _ _ _).trans (List.Perm.cons _ ?_)
   exact(A1o (l₁:=B3X ob its.length (T.map A3U)::T.map B0r) (l₂:=U.map B8r)))
  obtain⟨I3,hle3,hm3,hcls⟩:=hmU.freeze;obtain⟨I4,hle4,hm4,hint⟩:=D71 U hm3;clear hm hmU hm3;replace hcls:=hcls.le hle4;have hmO:=hm4;clear hm4;have hfe4:Le I2 I4:=hle3.trans hle4;refine U3 (fun x:ErX=> [(3,.slice (some ⟨ob,0,none⟩) its.length its.length),(4,.slice (some ⟨cb,0,none⟩) its.length its.length),(12,.bool x.b)])
   (fun x w'=>Mem E x.I (B3X ob its.length (x.T.map A3U)::x.T.map B0r) w'/\Le I4 x.I/\Sp.RowsE its (x.T.map (·.1))/\A5z its (B5B its+1) (x.T.map (·.1))=A9V its/\(x.b=false->A35 its (x.T.map (·.1))=x.T.map (·.1)))
   (fun x=>if x.b then (B5B its-B0p (x.T.map (·.1)))+1 else 0) ⟨I4,T,true⟩ (by exact⟨rfl,rfl,rfl,trivial⟩) ⟨hmO,Le.refl _,by dsimp only;rw[hT0];exact B3L its,by dsimp only;rw[hT0];exact(C90 its).symm,fun h=>by cases h⟩ ?_
  clear hmO hT hT0 hTl T;rintro⟨I5,T,b⟩ w5 ⟨hm,hle5,hR,hit,hfix⟩;dsimp only at hm hle5 hR hit hfix |-;cases b with
  |false=>
   repeat' (first|refine D8 ?_|refine D6 ?_|refine E5 ?_|refine A7 ?_|refine H6 ?_|refine G9 ?_|refine E8 ?_|refine A8 ?_|refine O8 ?_|refine J3 ?_|refine J7 ?_|refine F7 ?_)
   refine⟨I5,_,⟨ob,T,?_,rfl,rfl⟩,hm⟩
   rw[<-hit,B2C (hfix rfl)]
  |true=>
   repeat' (first|refine D8 ?_|refine D6 ?_|refine G6 ?_|refine E5 ?_|refine A7 ?_|refine E8 ?_|refine A8 ?_|refine F6 ?_|refine G7 ?_|refine H5 ?_)
   have hclsT:RowI I4 35 1 (.slice (some ⟨cb,0,none⟩) its.length its.length) its.length (U.flatMap (fun t=> [A3U t])):=by rw[flat_tri];exact hcls
   refine U3 (fun x:EiX=> [(3,.slice (some ⟨ob,0,none⟩) its.length its.length),(4,.slice (some ⟨cb,0,none⟩) its.length its.length),(12,.bool x.b),(72,nt its.length),(73,nt x.k)])
    (fun x w'=>Mem E x.I (B3X ob its.length (x.T.map A3U)::x.T.map B0r) w'/\Le I5 x.I/\x.T.map (·.1)=(List.range x.k).foldl (A3T its) (T.map (·.1))/\(x.b=true↔x.T.map (·.1)≠T.map (·.1))/\x.k<=its.length)
    (fun x=>its.length-x.k) ⟨0,I5,T,false⟩ (by exact⟨rfl,rfl,rfl,rfl,rfl,trivial⟩) ⟨hm,Le.refl _,rfl,by simp,H9 _⟩ ?_
   clear hm;rintro⟨i,I6,S,b⟩ w6 ⟨hm,hle6,hS,hb,hi⟩;dsimp only at hm hle6 hS hb hi |-;obtain⟨hRS,hLS⟩:Sp.RowsE its (S.map (·.1))/\Sp.LeE (T.map (·.1)) (S.map (·.1)):=by rw[hS];exact hR.folds _
   have hSl:S.length=its.length:=by have:=hRS.len;simpa using this
   by_cases hil:i<its.length
   ·have hgS:S[i]?=some S[i]:=F9 (by omega)
    have hset0:S.set i S[i]=S:=List.set_getElem_self _;have hgU:U[i]?=some U[i]:=F9 (by omega);have hUi:U[i].1=A4J its i:=by
     have h:=congrArg (·[i]?) hU;simp only[Y6,hgU,List.getElem?_range hil,A1g,X4]at h;exact h
    have hUin:=hint _ (O1 (show i<U.length by omega));have hcb:(A4J its i).length<=400000000:=by
     rw[A4J];split
     ·refine A1A (B7o its _) ?_
      have h1:=B7X (X7 its i);have h2:X7 its i∈its:=C2L hil;have h3:=(hsm _ h2).2;omega
     ·simp
    rw[<-hUi]at hcb;generalize U[i]=q at hcb hgU hUi hUin;generalize S[i]=t0 at hgS hset0;obtain⟨c,ca,cq⟩:=q;dsimp only at hUi hUin hcb;have hrow:(S.map (·.1)).getD i []=t0.1:=by rw[N9,Y6,hgS];rfl
    have hfo:∀k:Nat,(0:Nat)+(k:Int).toNat *1=k:=fun k=>by rw[A1R];omega
    have hcell:(S.map A3U)[i]?=some (A3U t0):=by rw[Y6,hgS];rfl
    have hcls6:=hclsT.le (hle5.trans hle6);have hUin6:=hUin.le (hle5.trans hle6);repeat' (first|refine A1G (i:=0) (d:=79) hm (by rfl) (by rfl) (by rfl) (by rfl) (by rw[hfo];exact hcell) ?_|refine Q4 (d:=83) (enc:=fun t=> [A3U t]) (z:=(c,ca,cq)) ?_ (hr:=hcls6) (he:=fun _=>rfl) (hz:=by exact hgU);intro bz oz hpz|refine A0O ?_ hm|refine D8 ?_|refine D6 ?_|refine J8 ?_|refine G6 ?_|refine Y3 (k:=?_)|refine E5 ?_|refine A7 ?_|refine E8 ?_|refine A8 ?_|refine F6 ?_|refine G7 ?_|(refine C9 (ht:=fun _=>?_) (hf:=fun _=>?_)<;>try first|contradiction|omega))
    refine U3 (fun x:EjX=> [(3,.slice (some ⟨ob,0,none⟩) its.length its.length),(4,.slice (some ⟨cb,0,none⟩) its.length its.length),(12,.bool b),(13,nt i),(14,nt t0.1.length),(72,nt its.length),(73,nt i),(84,.slice ca c.length cq),(85,nt c.length),(86,nt x.k)])
     (fun x w'=>Mem E x.I (B3X ob its.length ((S.set i x.t).map A3U)::(S.set i x.t).map B0r) w'/\Le I6 x.I/\x.t.1=(c.take x.k).foldl (fun a k=>A71 a ((S.map (·.1)).getD k [])) t0.1/\x.k<=c.length)
     (fun x=>c.length-x.k) ⟨0,I6,t0⟩ (by exact⟨rfl,rfl,rfl,rfl,rfl,rfl,rfl,rfl,rfl,rfl,trivial⟩) ⟨by dsimp only;rw[hset0];exact hm,Le.refl _,rfl,H9 _⟩ ?_
    clear hm;rintro⟨j,I7,t⟩ w7 ⟨hm,hle7,ht,hj⟩;dsimp only at hm hle7 ht hj |-;have hsr:=hRS.getD i;rw[hrow]at hsr;obtain⟨hmem,hsrt⟩:=B2L (S.map (·.1)) (c.take j) t0.1 hsr.1;rw[<-ht]at hmem hsrt;have hnam:∀x∈t.1,x∈A4S its:=fun x hx=>by
     rcases(hmem x).1 hx with h|⟨k,_,h,_⟩
     ·exact hsr.2.1 x h
     ·exact(hRS.getD k).2.1 x h
    have hgi:(S.set i t)[i]?=some t:=A7B (by omega);by_cases hjl:j<c.length
    ·have hgj:c[j]?=some c[j]:=F9 hjl
     obtain⟨hkl,_⟩:=B85 (i:=i) (k:=c[j]) (by rw[<-hUi];exact O1 hjl);have htk:c.take (j+1)=c.take j++ [c[j]]:=U2 hgj;generalize c[j]=k at hgj hkl htk;obtain⟨⟨tl,ta,tc⟩,hgk⟩:∃tk,(S.set i t)[k]?=some tk:=⟨_,F9 (by rw[A29];omega)⟩;have htt:i=k->(tl,ta,tc)=t:=fun e=>by
      subst e;rw[hgi]at hgk;exact(Z8 hgk).symm
     have hjoin:A71 t.1 tl=A71 t.1 ((S.map (·.1)).getD k []):=by
      by_cases e:i=k
      ·have h:=htt e
       subst e;rw[hrow,B3F t0.1 (fun x hx=>(hmem x).2 (.inl hx)), <-h,B3F tl (fun _ h=>h)]
      ·rw[A5M e]at hgk
       rw[N9,Y6,hgk];rfl
     have htlb:tl.length<=1000000000:=by
      refine A1A (show tl.length<=(A4S its).length from B08 ?_ ?_) hN
      ·by_cases e:i=k
       ·have h:=hsrt;rw[<-htt e]at h;exact h
       ·have h:=(hRS.getD k).1
        rw[A5M e]at hgk;rw[N9,Y6,hgk]at h;exact h
      ·by_cases e:i=k
       ·have h:=hnam;rw[<-htt e]at h;exact h
       ·have h:=(hRS.getD k).2.1
        rw[A5M e]at hgk;rw[N9,Y6,hgk]at h;exact h
     have hcell7:((S.set i t).map A3U)[k]?=some (A3U (tl,ta,tc)):=by rw[Y6,hgk];rfl
     have hUin7:=hUin6.le hle7;repeat' (first|refine Q4 (d:=88) (enc:=A2K) (z:=k) ?_ (hr:=hUin7) (he:=fun _=>rfl) (hz:=by exact hgj);intro bz oz hpz|refine A1G (i:=0) (d:=93) hm (by rfl) (by rfl) (by rfl) (by rfl) (by rw[hfo];exact hcell7) ?_|refine A0O ?_ hm|refine D8 ?_|refine D6 ?_|refine J8 ?_|refine G6 ?_|refine Y3 (k:=?_)|refine E5 ?_|refine A7 ?_|refine E8 ?_|refine A8 ?_|refine F6 ?_|refine G7 ?_|(refine C9 (ht:=fun _=>?_) (hf:=fun _=>?_)<;>try first|contradiction|omega))
     refine U3 (fun x:EjX=> [(3,.slice (some ⟨ob,0,none⟩) its.length its.length),(4,.slice (some ⟨cb,0,none⟩) its.length its.length),(12,.bool b),(13,nt i),(14,nt t0.1.length),(72,nt its.length),(73,nt i),(84,.slice ca c.length cq),(85,nt c.length),(86,nt j),(93,.slice ta tl.length tc),(94,nt tl.length),(95,nt x.k)])
      (fun x w'=>Mem E x.I (B3X ob its.length ((S.set i x.t).map A3U)::(S.set i x.t).map B0r) w'/\Le I7 x.I/\x.t.1=A71 t.1 (tl.take x.k)/\(i=k->x.t=t)/\x.k<=tl.length)
      (fun x=>tl.length-x.k) ⟨0,I7,t⟩ (by exact⟨rfl,rfl,rfl,rfl,rfl,rfl,rfl,rfl,rfl,rfl,rfl,rfl,rfl,trivial⟩) ⟨hm,Le.refl _,by dsimp only;rw[Z9];rfl,fun _=>rfl,H9 _⟩ ?_
     clear hm;rintro⟨l,I8,u⟩ w8 ⟨hm,hle8,hu,hut,hl⟩;dsimp only at hm hle8 hu hut hl |-;by_cases hll:l<tl.length
     ·have hgl:tl[l]?=some tl[l]:=F9 hll
      have hst:=C5e (a:=t.1) hgl;generalize tl[l]=s at hgl hst;have hgu:(S.set i u)[i]?=some u:=A7B (by omega);have hgk8:(S.set i u)[k]?=some (tl,ta,tc):=by
       by_cases e:i=k
       ·rw[hut e];exact hgk
       ·rw[A5M e];rw[A5M e]at hgk;exact hgk
      have hidx:(B3X ob its.length ((S.set i u).map A3U)::(S.set i u).map B0r)[k+1]?=some (B0r (tl,ta,tc)):=by
       rw[A02,Y6,hgk8];rfl
      obtain⟨g,rfl⟩:=(hm.front (k+1) hidx).rowAddr (by dsimp only;omega);have hsu:Sp.Srt u.1:=by rw[hu];exact B5d _ hsrt
      have hnu:∀x∈u.1,x∈A4S its:=fun x hx=>by
       rw[hu,B5c]at hx;rcases hx with h|⟨h,h2⟩
       ·exact hnam x h
       ·by_cases e:i=k
        ·exact hnam x (by rw[<-htt e];exact A7D h)
        ·have h3:=(hRS.getD k).2.1 x
         rw[A5M e]at hgk;rw[N9,Y6,hgk]at h3;exact h3 (A7D h)
      have hlu:u.1.length<=1000000000:=A1A (B08 hsu hnu) hN;have hA:=D6g I8 u s hsu hlu;have hpm:(B3X ob its.length ((S.set i u).map A3U)::(S.set i u).map B0r).Perm ([B0r u]++(B3X ob its.length ((S.set i u).map A3U)::((S.set i u).eraseIdx i).map B0r)):=
       ((C35 (g:=B0r) hgu).cons _).trans (.swap _ _ _)
      have hcell8:((S.set i u).map A3U)[i]?=some (A3U u):=by rw[Y6,hgu];rfl
      have hsc:(tl.flatMap A9o)[l]?=some (str s):=flatS_get hgl;repeat' (first|refine A1G (i:=k+1) (d:=98) hm (by rfl) (by rfl) (by rfl) (by exact hidx) (by rw[hfo];exact hsc) ?_|refine A1G (i:=0) (d:=104) hm (by rfl) (by rfl) (by rfl) (by rfl) (by rw[hfo];exact hcell8) ?_|refine F8 (d:=106) ?_ hm (hp:=hpm) (hc:=hA);clear hm;rintro _ I9 _ _ ⟨u2,hu1,hu2,rfl,rfl⟩ hleI9 hm|refine A5P (i:=1) hm (by rfl) (by rfl) (by rfl) (by rfl) (by rfl) (by rfl) (by rfl) (by simp;omega) ?_;clear hm;intro _ hm;rw[hfo,C3d,List.set_set]at hm;simp only[G5]at hm|refine D8 ?_|refine D6 ?_|refine J8 ?_|refine O9 ?_|refine Y3 (k:=?_)|refine E5 ?_|refine A7 ?_|refine D7 ?_|refine E8 ?_|refine A8 ?_|refine F6 ?_|refine G7 ?_|(refine C9 (ht:=fun _=>?_) (hf:=fun _=>?_)<;>try first|contradiction|omega))
      refine L6 (⟨l+1,I9,u2⟩:EjX) (by exact⟨rfl,rfl,rfl,rfl,rfl,rfl,rfl,rfl,rfl,rfl,rfl,rfl,rfl,trivial⟩) ⟨?_,hle8.trans hleI9,?_,fun e=>?_,by dsimp only;omega⟩ (by dsimp only;omega)
      ·dsimp only
       have h:=D5g (g:=B0r) (T:=S.set i u) (i:=i) (u:=u2) (by rw[A29];omega);rw[List.set_set]at h;exact hm.perm ((List.Perm.swap _ _ _).trans (List.Perm.cons _ (h.symm)))
      ·dsimp only;rw[hst,hu1,hu]
      ·dsimp only
       have hx:s∈u.1:=by
        rw[hut e, <-htt e];exact A03 hgl
       rw[hu2 (.inr hx)];exact hut e
     ·obtain rfl:l=tl.length:=by omega
      rw[V7,hjoin]at hu;repeat' (first|refine D8 ?_|refine J8 ?_|refine O9 ?_|refine E5 ?_|refine A7 ?_|refine H6 ?_|refine D7 ?_|refine G9 ?_|refine E8 ?_|refine A8 ?_|refine O8 ?_|(refine C9 (ht:=fun _=>?_) (hf:=fun _=>?_)<;>try first|contradiction|omega))
      refine L6 (⟨j+1,I8,u⟩:EjX) (by exact⟨rfl,rfl,rfl,rfl,rfl,rfl,rfl,rfl,rfl,rfl,trivial⟩) ⟨hm,hle7.trans hle8,?_,by dsimp only;omega⟩ (by dsimp only;omega)
      dsimp only
      rw[htk,A5c, <-ht,hu];rfl
    ·obtain rfl:j=c.length:=by omega
     rw[V7,hUi]at ht;have htr:B4u its (S.map (·.1)) i=t.1:=by rw[B4u,hrow,ht]
     have hcell9:((S.set i t).map A3U)[i]?=some (A3U t):=by rw[Y6,hgi];rfl
     have hbn:=D1t hR hRS hLS (i:=i) (by rw[P7];omega) hb;have hstp:(S.set i t).map (·.1)=A3T its (S.map (·.1)) i:=by rw[A3T,htr,List.map_set]
     rw[hrow,htr, <-hstp]at hbn;have hfold:(S.set i t).map (·.1)=(List.range (i+1)).foldl (A3T its) (T.map (·.1)):=by
      rw[hstp,A28,A5c, <-hS];rfl
     cases b with
     |true=>
      repeat' (first|refine D8 ?_|refine D6 ?_|refine O0 ?_|refine J8 ?_|refine O9 ?_|refine A0z ?_|refine E5 ?_|refine A7 ?_|refine H6 ?_|refine D7 ?_|refine G9 ?_|refine E8 ?_|refine A8 ?_|refine O8 ?_|(refine C9 (ht:=fun _=>?_) (hf:=fun _=>?_)<;>try first|contradiction|omega))
      exact L6 (⟨i+1,I7,S.set i t,true⟩:EiX) (by exact⟨rfl,rfl,rfl,rfl,rfl,trivial⟩) ⟨hm,hle6.trans hle7,hfold,hbn,by dsimp only;omega⟩ (by dsimp only;omega)
     |false=>
      repeat' (first|refine A1G (i:=0) (d:=115) hm (by rfl) (by rfl) (by rfl) (by rfl) (by rw[hfo];exact hcell9) ?_|refine D8 ?_|refine D6 ?_|refine N7 ?_|refine J8 ?_|refine A1H ?_|refine G6 ?_|refine O9 ?_|refine Y3 (k:=?_)|refine E5 ?_|refine A7 ?_|refine H6 ?_|refine D7 ?_|refine G9 ?_|refine E8 ?_|refine A8 ?_|refine O8 ?_|(refine C9 (ht:=fun _=>?_) (hf:=fun _=>?_)<;>try first|contradiction|omega))
      exact L6 (⟨i+1,I7,S.set i t,(false||decide ((t0.1.length:Int)<(t.1.length:Int)))⟩:EiX) (by exact⟨rfl,rfl,rfl,rfl,rfl,trivial⟩) ⟨hm,hle6.trans hle7,hfold,hbn,by dsimp only;omega⟩ (by dsimp only;omega)
   ·obtain rfl:i=its.length:=by omega
    have hS2:S.map (·.1)=A35 its (T.map (·.1)):=hS;rw[hS2]at hb hRS;repeat' (first|refine J8 ?_|refine E5 ?_|refine A7 ?_|refine H6 ?_|refine D7 ?_|refine G9 ?_|refine E8 ?_|refine A8 ?_|refine O8 ?_|(refine C9 (ht:=fun _=>?_) (hf:=fun _=>?_)<;>try first|contradiction|omega))
    refine L6 (⟨I6,S,b⟩:ErX) (by exact⟨rfl,rfl,rfl,trivial⟩) ⟨hm,hle5.trans hle6,by dsimp only;rw[hS2];exact hRS,?_,fun h=>?_⟩ ?_
    ·dsimp only
     rw[hS2, <-hit];by_cases e:A35 its (T.map (·.1))=T.map (·.1)
     ·rw[e]
     ·exact(C5b hR e).symm
    ·dsimp only at h |-
     have e:A35 its (T.map (·.1))=T.map (·.1):=Classical.byContradiction fun e=>by
      rw[hb.2 e]at h;cases h
     rw[hS2,e,e]
    ·dsimp only
     rw[hS2];cases b with
     |false=>simp
     |true=>
      have h1:=B05 hR (hb.1 rfl);have h2:=B4F hRS;simp only[if_true];have e0:B5B its=its.length *(A4S its).length:=rfl;omega
theorem D3K (I:P8) (b:Nat) (c:List UInt8) (hb:PtrI I b 0 9 [str c]) (x:Sp.Rf):
  CalM prog 112 #[.agg (A27 x).toArray,ptr b] I [] (fun v _ H'=>v=.bool (decide (x.name=c))/\H'= []):=by
 refine CalM.of fun w E hm=>enter (N:=8) func112 rfl [(0,.agg (A27 x).toArray),(1,ptr b)] A1x rfl ?_
 repeat' (first|refine A0T (d:=2) ?_ hm;clear hm;intro b2 _ hm|refine J6 ?_ hm|refine A0O ?_ hm|refine D6 ?_|refine A0g ?_|refine D5 ?_|refine E5 ?_|refine A7 ?_|refine E8 ?_|refine A8 ?_|refine J3 ?_|refine J7 ?_)
 exact⟨I,[],⟨rfl,rfl⟩,hm.left (H:= [])⟩
theorem D7b {its:List Sp.Itm}{i:Nat}{T:List (Tri (List UInt8))} (hT:T.map (·.1)=A9V its) (hi:i<its.length):
  ∃a cp,T[i]?=some (B1K its i,a,cp)/\(T.map A3U)[i]?=some (.slice a (B1K its i).length cp):=by
 have hl:T.length=its.length:=by
  have:=congrArg List.length hT;rw[B8V]at this;simpa using this
 have hg:T[i]?=some T[i]:=F9 (by omega);have h1:B1K its i=T[i].1:=by
  rw[B1K, <-hT,N9,Y6,hg];rfl
 generalize T[i]=t at hg h1;obtain⟨l,a,cp⟩:=t;dsimp only at h1;subst h1;exact⟨a,cp,hg,by rw[Y6,hg];rfl⟩
structure EdX where
 k:Nat
 I:P8
 a:Option Addr
 cp:Nat
abbrev D7T (l:List Sp.Dg) (a:Option Addr) (cp:Nat):HItem:=.row (.slice a l.length cp) 85 4 l.length (l.flatMap A5F)
theorem D3J {its:List Sp.Itm} (i:Nat) (hi:i<its.length) (I:P8) (a:Option Addr) (cp:Nat) (xs:List Value) (hfe:FE I its a cp xs) (hsm:∀it∈its,it.fit/\U1 it.body<=400000000) (hN:(A4S its).length<=1000000000):
  CalM prog 74 #[.agg [.slice a its.length cp].toArray,nt i] I [] (fun v I' H'=>H'= []/\∃da dp,v=.slice da (A91 its i).length dp/\RowI I' 85 4 (.slice da (A91 its i).length dp) (A91 its i).length ((A91 its i).flatMap A5F)):=by
 refine CalM.of fun w E hm=>enter (N:=52) func74 rfl [(0,.agg [.slice a its.length cp].toArray),(1,nt i)] A1x rfl ?_
 have hfew:=hfe.few;have hg:its[i]?=some its[i]:=F9 hi;have hno:X7 its i=its[i]:=by rw[X7,N9,hg];rfl
 have hss:=(hsm _ (O1 hi)).1;repeat' (first|refine A0U 1 ?_|refine A0T (d:=2) ?_ hm;clear hm;intro b2 _ hm|refine D6 ?_|refine E5 ?_|refine A7 ?_|refine E8 ?_|refine A8 ?_)
 obtain⟨I1,hle1,hm1,hpf⟩:=hm.freezeO;clear hm;have hm:=hm1;clear hm1;have hfe1:=hfe.le hle1;obtain⟨cs,hcs,hat,hl10⟩:=hfe1.get hg;have hri:=hfe1.row;have hA:=D7U (its:=its) I1 a cp xs hfe1 hsm hN;rw[<-hno]at hat hss;have hk2:=fun h=>C8c (its:=its) (i:=i) h
 generalize hit:X7 its i=it at hat hss hk2;obtain⟨ap,cp',as_,cs',ab,cb',ad,cd,xb,rfl,_,hsd,_,_,_⟩:=hat
 have hfo:∀k:Nat,(0:Nat)+(k:Int).toNat *1=k:=fun k=>by rw[A1R];omega
 refine⟨?_⟩
 by_cases k2:it.kind=2
 ·skip
  repeat' (first|refine O7 (d:=21) ?_ (hr:=hri);intro bt ot hpt;rw[show ((i:Int).toNat *10)=i *10 from rfl,hcs]at hpt|refine A0U 4 ?_|refine J9 ?_ hm|refine D8 ?_|refine D6 ?_|refine N7 ?_|refine J8 ?_|refine A11 ?_|refine A0w ?_|refine G6 ?_|refine D5 ?_|(refine O3 (h1:=fun _=>?_) (h0:=fun _=>?_)<;>try first|contradiction|omega)|refine E5 ?_|refine A7 ?_|refine E8 ?_|refine A8 ?_|refine G7 ?_|(refine C9 (ht:=fun _=>?_) (hf:=fun _=>?_)<;>try first|contradiction|omega))
  have hal:=A1A (C1P (its:=its) i) hN;refine⟨?_⟩
  repeat' (first|refine F8 (d:=27) ?_ hm (hp:=pm0) (hc:=hA);clear hm;rintro _ I2 _ w2 ⟨ob,T,hT,rfl,rfl⟩ hleI2 hm;rw[J4]at hm;obtain⟨ta,tc,hti,hcell⟩:=D7b hT hi|refine A1G (i:=0) (d:=30) hm (by rfl) (by rfl) (by rfl) (by rfl) (by rw[hfo];exact hcell) ?_|refine U0 ?_ hm|refine D8 ?_|refine G6 ?_|refine Y3 (k:=?_)|refine E5 ?_|refine A7 ?_|refine A8 ?_|refine F6 ?_)
  obtain⟨I3,hle3,hm3,hrow⟩:=(hm.front (i+1) (by rw[A02,Y6,hti];rfl)).freeze;clear hm;have hm:=(hm3.left (H:= [])).nil 85 4;clear hm3;have hle13:Le I1 I3:=hleI2.trans hle3;have heD:A91 its i=((B1K its i).filter (fun c=> !B0l it c)).map B39:=by rw[A91,hit]
  generalize B1K its i=al at *;refine U3 (fun x:EdX=> [(1,nt i),(2,ptr b2),(5,.slice x.a (((al.take x.k).filter (fun c=> !B0l it c)).map B39).length x.cp),(30,.slice ta al.length tc),(31,nt al.length),(32,nt x.k)])
   (fun x w'=>Mem E x.I [D7T (((al.take x.k).filter (fun c=> !B0l it c)).map B39) x.a x.cp] w'/\Le I3 x.I/\x.k<=al.length)
   (fun x=>al.length-x.k) ⟨0,I3,none,0⟩ (by exact⟨rfl,rfl,rfl,rfl,rfl,rfl,trivial⟩) ⟨hm,Le.refl _,H9 _⟩ ?_
  clear hm;rintro⟨k,I4,da,dp⟩ w4 ⟨hm,hle4,hk⟩;dsimp only at hm hle4 hk |-;by_cases hlt:k<al.length
  ·have hgk:al[k]?=some al[k]:=F9 hlt
   have hst:=C8w (p:=fun c=> !B0l it c) hgk;have hdl:(((al.take k).filter (fun c=> !B0l it c)).map B39).length<=1000000000:=by
    rw[P7];refine A1A (A4p _ _) ?_
    rw[P9];omega
   generalize al[k]=c at hgk hst;generalize ((al.take k).filter (fun c=> !B0l it c)).map B39=ds at hm hst hdl |-;have hrow4:=hrow.le hle4;have hri4:=(hri.le hle13).le hle4;have hpf4:=(hpf.le hle13).le hle4;repeat' (first|refine Q4 (d:=34) (enc:=A9o) (z:=c) ?_ (hr:=hrow4) (he:=fun _=>rfl) (hz:=by exact hgk);intro bz oz hpz|refine A0U 7 ?_|refine D1l (d:=7) ?_ hm;clear hm;intro b7 _ hm|refine A0O ?_ hm|refine J8 ?_|refine E5 ?_|refine A7 ?_|refine E8 ?_|refine A8 ?_|refine F6 ?_|refine G7 ?_|(refine C9 (ht:=fun _=>?_) (hf:=fun _=>?_)<;>try first|contradiction|omega))
   obtain⟨I5,hle5,hm5,hpc⟩:=hm.freezeO;clear hm;have hm:=hm5;clear hm5;have hri5:=hri4.le hle5;have hpf5:=hpf4.le hle5;have hsd5:=((hsd.le hle13).le hle4).le hle5;have hE:=B7P 112 [ptr b7] (fun x=>decide (x.name=c)) it.sends (by have:=hss.sends;omega) I5 as_ cs' hsd5 (fun J m x=>D3K J b7 c (hpc.le m) x);rw[show it.sends.any (fun x=>decide (x.name=c))=B0l it c from rfl]at hE;refine⟨?_⟩
   cases hc:B0l it c with
   |true=>
    rw[hc]at hE hst;repeat' (first|refine O7 (d:=39) ?_ (hr:=hri5);intro bt ot hpt;rw[show ((i:Int).toNat *10)=i *10 from rfl,hcs]at hpt|refine F8 (d:=43) ?_ hm (hc:=hE);clear hm;rintro _ I6 _ _ ⟨rfl,rfl⟩ hle hm;have hleI6:=hle;try simp only[G5]at hm|refine J9 ?_ hm|refine D8 ?_|refine A0h ?_|refine A2v ?_|refine O9 ?_|refine D5 ?_|refine E5 ?_|refine A7 ?_|refine D7 ?_|refine A8 ?_|refine G7 ?_|refine F7 ?_)
    refine L6 (⟨k+1,I6,da,dp⟩:EdX) (by dsimp only;rw[hst,if_neg (by simp),J4];exact⟨rfl,rfl,rfl,rfl,rfl,rfl,trivial⟩) ⟨?_,(hle4.trans hle5).trans hleI6,by dsimp only;omega⟩ (by dsimp only;omega)
    dsimp only;rw[hst,if_neg (by simp),J4];exact hm
   |false=>
    rw[hc]at hE hst;repeat' (first|refine O7 (d:=39) ?_ (hr:=hri5);intro bt ot hpt;rw[show ((i:Int).toNat *10)=i *10 from rfl,hcs]at hpt|refine F8 (d:=43) ?_ hm (hc:=hE);clear hm;rintro _ I6 _ _ ⟨rfl,rfl⟩ hle hm;have hleI6:=hle;try simp only[G5]at hm;replace hpc:=hpc.le hleI6|refine A2P (d:=49) ?_ hm;clear hm;intro a49 cp49 _ _ hm;try simp only[G5]at hm|refine J9 ?_ hm|refine A0O ?_ hm|refine D8 ?_|refine D6 ?_|refine A0h ?_|refine A2v ?_|refine O9 ?_|refine D5 ?_|refine Y0 ?_|refine E5 ?_|refine A7 ?_|refine D7 ?_|refine A8 ?_|refine H5 ?_)
    rw[if_pos (by simp)]at hst;refine L6 (⟨k+1,I6,a49,cp49⟩:EdX) (by dsimp only;rw[hst,D9];exact⟨rfl,rfl,rfl,rfl,rfl,rfl,trivial⟩) ⟨?_,(hle4.trans hle5).trans hleI6,by dsimp only;omega⟩ (by dsimp only;omega)
    dsimp only[D7T];rw[hst,X0,D9];exact hm
  ·obtain rfl:k=al.length:=by omega
   rw[V7, <-heD]at hm;repeat' (first|refine D8 ?_|refine D6 ?_|refine J8 ?_|refine E5 ?_|refine A7 ?_|refine H6 ?_|refine G9 ?_|refine E8 ?_|refine A8 ?_|refine O8 ?_|refine J3 ?_|refine J7 ?_|(refine C9 (ht:=fun _=>?_) (hf:=fun _=>?_)<;>try first|contradiction|omega))
   rw[V7, <-heD];obtain⟨I5,hle5,hm5,hr5⟩:=hm.freeze;exact⟨I5,[],⟨rfl,da,dp,rfl,hr5⟩,hm5⟩
 ·skip
  repeat' (first|refine O7 (d:=21) ?_ (hr:=hri);intro bt ot hpt;rw[show ((i:Int).toNat *10)=i *10 from rfl,hcs]at hpt|refine J9 ?_ hm|refine D8 ?_|refine D6 ?_|refine N7 ?_|refine J8 ?_|refine A11 ?_|refine A0w ?_|refine G6 ?_|refine D5 ?_|(refine O3 (h1:=fun _=>?_) (h0:=fun _=>?_)<;>try first|contradiction|omega)|refine E5 ?_|refine A7 ?_|refine H8 ?_|refine E8 ?_|refine A8 ?_|refine J3 ?_|refine J7 ?_|(refine C9 (ht:=fun _=>?_) (hf:=fun _=>?_)<;>try first|contradiction|omega))
  have he:A91 its i= []:=by rw[A91,hk2 k2];rfl
  rw[he];obtain⟨I4,hle4,hm4,hrow⟩:=(hm.nil 85 4).freeze;exact⟨I4,[],⟨rfl,none,0,rfl,hrow⟩,hm4.left (H:= [])⟩
abbrev B1w (l:Sp.Lc):List Value:= [str l.name,nt l.at_]
abbrev D1g (sc:List Sp.Lc) (sa:Option Addr) (sp:Nat):HItem:=.row (.slice sa sc.length sp) 213 2 sc.length (sc.flatMap B1w)
abbrev D6m (bf:Nat) (pi:Value) (sc:List Sp.Lc) (sa:Option Addr) (sp:Nat) (s:Sp.FW) (da:Option Addr) (dp:Nat) (vf:Value) (at_:Int):List Value:=
 [ptr bf,pi,.slice sa sc.length sp,.slice da s.ds.length dp,vf,.int .i64 at_,.bool s.hv.isSome,nt (s.hv.getD 0)]
abbrev D7X (bc bf:Nat) (pi:Value) (sc:List Sp.Lc) (sa:Option Addr) (sp:Nat) (s:Sp.FW) (da:Option Addr) (dp:Nat) (vf:Value) (at_:Int):HItem:=
 .obj bc (.cells (D6m bf pi sc sa sp s da dp vf at_).toArray 168 (0,0))
abbrev FSt (bc bf:Nat) (pi:Value) (sc:List Sp.Lc) (sa:Option Addr) (sp:Nat) (s:Sp.FW) (da:Option Addr) (dp:Nat) (vf:Value) (at_:Int):List HItem:=
 [D7X bc bf pi sc sa sp s da dp vf at_,D1g sc sa sp,A6b s.ds da dp]
abbrev ToF (bc bf:Nat) (pi:Value) (vf:Value) (at_:Int) (sc:List Sp.Lc) (s:Sp.FW) (val:Value):Value->P8->List HItem->Prop:=
 fun v _ H'=>v=val/\∃sa sp da dp,H'=FSt bc bf pi sc sa sp s da dp vf at_
structure FRd (J:P8) (bc bf:Nat) (pi:Value) (sc:List Sp.Lc) (sa:Option Addr) (sp:Nat) (v3 v4 v5 v6 v7:Value):Prop where
 ptr:PtrI J bc 0 168 [ptr bf,pi,.slice sa sc.length sp,v3,v4,v5,v6,v7]
 row:RowI J 213 2 (.slice sa sc.length sp) sc.length (sc.flatMap B1w)
theorem FRd.le {I J:P8} (m:Le I J) {bc bf:Nat}{pi:Value}{sc:List Sp.Lc}{sa:Option Addr}{sp:Nat}{v3 v4 v5 v6 v7:Value} (h:FRd I bc bf pi sc sa sp v3 v4 v5 v6 v7):FRd J bc bf pi sc sa sp v3 v4 v5 v6 v7:=⟨h.ptr.le m,h.row.le m⟩
section
variable {I:P8}{bc bf sp dp:Nat}{pi vf:Value}{sc:List Sp.Lc}{sa da:Option Addr}{s:Sp.FW}{at_:Int}
theorem CalR.flow {f:FuncId}{args:Array Value}{v:Value} (h:∀J,Le I J->FRd J bc bf pi sc sa sp (.slice da s.ds.length dp) vf (.int .i64 at_) (.bool s.hv.isSome) (nt (s.hv.getD 0))->CalR prog f args J [] v):
  CalR prog f args I (FSt bc bf pi sc sa sp s da dp vf at_) v:=
 CalR.of fun w J hm hl hH hJ=>by
  have h1:=A98 (hH (D7X bc bf pi sc sa sp s da dp vf at_) (by simp));have h2:=B9w (hH (D1g sc sa sp) (by simp));rw[<-hJ]at h1 h2;exact(h J hl ⟨h1,h2⟩).run w hm.inv (fun _ h=>by cases h)
theorem C4S {J:P8}{v3 v4 v5 v6 v7:Value} (n:List UInt8) (hs:sc.length<=1099511627776) (h:FRd J bc bf pi sc sa sp v3 v4 v5 v6 v7):CalR prog 179 #[ptr bc,str n] J [] (nt (A65 sc n)):=by
 refine CalR.of fun w K hm hl _ _=>enter (N:=34) func179 rfl [(0,ptr bc),(1,str n)] A1x rfl ?_
 obtain⟨hp,hr⟩:=h.le hl;repeat' (first|refine J9 ?_ hm|refine D8 ?_|refine D6 ?_|refine G6 ?_|refine F5 ?_|refine A5e ?_|refine D5 ?_|refine E5 ?_|refine A7 ?_|refine E8 ?_|refine A8 ?_|refine F6 ?_)
 refine U3 (fun k:Nat=> [(0,ptr bc),(1,str n),(5,.int .i64 ((k:Int)-1))]) (fun k w'=>Mem ⟨w,[],K⟩ K [] w'/\k<=sc.length/\A1u sc n=A1u (sc.take k) n) (fun k=>k) sc.length (by exact⟨rfl,rfl,rfl,trivial⟩) ⟨hm,H7 _,by rw[V7]⟩ ?_
 clear hm;rintro k w1 ⟨hm,hk,hf⟩;try dsimp only at hm hk hf |-
 by_cases h0:0<k
 ·have hg:sc[k-1]?=some sc[k-1]:=F9 (by omega)
  have hcut:=C4X n hg;rw[show k-1+1=k by omega]at hcut;generalize sc[k-1]=x at hg hcut;rw[hcut]at hf;have hi:sc[((k:Int)-1).toNat]?=some x:=by rw[show ((k:Int)-1).toNat=k-1 by omega];exact hg
  by_cases hx:x.name=n
  ·rw[if_pos hx]at hf
   repeat' (first|refine Q4 (d:=21) (enc:=B1w) (z:=x) ?_ (hr:=hr) (he:=fun _=>rfl) (hz:=hi);intro b1 o1 p1|refine Q4 (d:=31) (enc:=B1w) (z:=x) ?_ (hr:=hr) (he:=fun _=>rfl) (hz:=hi);intro b2 o2 p2|refine J9 ?_ hm|refine D8 ?_|refine D6 ?_|refine A11 ?_|refine A0g ?_|refine F5 ?_|refine D5 ?_|refine E5 ?_|refine A7 ?_|refine H8 ?_|refine O5 ?_|refine E8 ?_|refine A8 ?_|refine F6 ?_|refine G7 ?_|refine J3 ?_|refine J7 ?_|(refine C9 (ht:=fun _=>?_) (hf:=fun _=>?_)<;>try first|contradiction|omega))
   exact⟨by rw[A65,hf],hm.kept⟩
  ·rw[if_neg hx]at hf
   repeat' (first|refine Q4 (d:=21) (enc:=B1w) (z:=x) ?_ (hr:=hr) (he:=fun _=>rfl) (hz:=hi);intro b1 o1 p1|refine J9 ?_ hm|refine D8 ?_|refine D6 ?_|refine A11 ?_|refine A0g ?_|refine F5 ?_|refine A5e ?_|refine D5 ?_|refine E5 ?_|refine A7 ?_|refine D7 ?_|refine E8 ?_|refine A8 ?_|refine F6 ?_|refine G7 ?_|(refine C9 (ht:=fun _=>?_) (hf:=fun _=>?_)<;>try first|contradiction|omega))
   refine L6 (k-1:Nat) (by exact⟨rfl,rfl,by rw[show (((k-1:Nat):Int)-1)=(k:Int)-1-1 by omega];rfl,trivial⟩) ⟨hm,by omega,hf⟩ (by omega)
 ·obtain rfl:k=0:=by omega
  repeat' (first|refine D8 ?_|refine D6 ?_|refine A11 ?_|refine E5 ?_|refine A7 ?_|refine H6 ?_|refine G9 ?_|refine E8 ?_|refine A8 ?_|refine O8 ?_|refine J3 ?_|refine J7 ?_|refine F7 ?_)
  exact⟨by rw[A65,hf];rfl,hm.kept⟩
theorem C9R (bc bf:Nat) (pi:Value) (sc:List Sp.Lc) (sa:Option Addr) (sp:Nat) (s:Sp.FW) (f t:Nat) (n:List UInt8) (da:Option Addr) (dp:Nat) (vf:Value) (at_:Int):
  [.obj bc (.cells [ptr bf,pi,.slice sa sc.length sp,.slice da (s.ds.length+1) dp,vf,.int .i64 at_,.bool s.hv.isSome,nt (s.hv.getD 0)].toArray 168 (0,0)),D1g sc sa sp,.row (.slice da (s.ds.length+1) dp) 85 4 (s.ds.length+1) (s.ds.flatMap A5F++A5F ⟨f,t,9,n⟩)]=FSt bc bf pi sc sa sp (s.tell f t n) da dp vf at_:=by
 simp[Sp.FW.tell]
theorem C4T (n:List UInt8) (f t:Nat) (hd:s.ds.length<1099511627776):
  CalM prog 199 #[ptr bc,nt f,nt t,str n] I (FSt bc bf pi sc sa sp s da dp vf at_) (ToF bc bf pi vf at_ sc (s.tell f t n) (.tuple #[])):=by
 refine CalM.of fun w E hm=>enter (N:=21) func199 rfl [(0,ptr bc),(1,nt f),(2,nt t),(3,str n)] B6Y rfl ?_
 repeat' (first|refine A2P (d:=18) ?_ hm;clear hm;intro a18 cp18 _ _ hm;try simp only[G5]at hm|refine J6 ?_ hm|refine P5 hm (k:=?_);clear hm;intro _ hm;try simp only[G5]at hm|refine D8 ?_|refine F5 ?_|refine D5 ?_|refine Y0 ?_|refine E5 ?_|refine A8 ?_|refine A0p ?_)
 exact⟨I,_,⟨rfl,_,_,_,_,C9R _ _ _ _ _ _ s f t n _ _ _ _⟩,hm⟩
theorem D8B (x:Sp.Stm) (b o tc:Nat) (cs:List Value) (hp:PtrI I b o tc cs) (hx:A6n I x cs) (a c:Nat) (ha:a<256) (hc:c<256) (hd:s.ds.length<1099511627776):
  CalM prog 178 #[ptr bc,.pointer (some ⟨b,o,none⟩),nt a,nt c] I (FSt bc bf pi sc sa sp s da dp vf at_) (ToF bc bf pi vf at_ sc (s.ask a c x.fr x.to x.name) (.tuple #[])):=by
 refine CalM.of fun w E hm=>enter (N:=26) func178 rfl [(0,ptr bc),(1,.pointer (some ⟨b,o,none⟩)),(2,nt a),(3,nt c)] B6Y rfl ?_
 obtain⟨ea,ec,ex,a1,c1,xs1,a2,c2,xs2,rfl,_⟩:=hx.out;have hF:=fun w=>B34 a c ha hc w
 rw[Sp.FW.ask];cases hb:A1i a c with
 |true=>
  rw[hb]at hF;repeat' (first|refine A0r (d:=10) (hc:=by exact hF _) (k:=?_);rintro _ _ ⟨rfl,rfl⟩|refine D8 ?_|refine A0h ?_|refine E5 ?_|refine A7 ?_|refine E8 ?_|refine A8 ?_|refine G7 ?_|refine A0p ?_|refine F7 ?_)
  exact⟨I,_,⟨rfl,_,_,_,_,rfl⟩,hm⟩
 |false=>
  rw[hb]at hF;have hT:=fun J=>C4T (I:=J) (bc:=bc) (bf:=bf) (pi:=pi) (sc:=sc) (sa:=sa) (sp:=sp) (s:=s) (da:=da) (dp:=dp) (vf:=vf) (at_:=at_) x.name x.fr x.to hd
  repeat' (first|refine A0r (d:=10) (hc:=by exact hF _) (k:=?_);rintro _ _ ⟨rfl,rfl⟩|refine A0b (id:=1) 13 (h:=?_)|refine F8 (d:=25) ?_ hm (hc:=hT _);clear hm;rintro _ I2 _ _ ⟨rfl,sa2,sp2,da2,dp2,rfl⟩ hle hm;have hleI2:=hle;try simp only[G5]at hm|refine A0f ?_ hm|refine D8 ?_|refine A0h ?_|refine E5 ?_|refine A7 ?_|refine E8 ?_|refine A8 ?_|refine A0p ?_|refine V6 ?_;intro _ hkq;replace hm:=hm.kept0 hkq;clear hkq|refine H5 ?_|refine Y4 ?_|refine Q9 ?_|refine L8 ?_)
  exact⟨I2,_,⟨rfl,_,_,_,_,rfl⟩,hm⟩
end
structure FC (I:P8) (its:List Sp.Itm) (it:Sp.Itm) (bf:Nat) (a:Option Addr) (cp:Nat) (xs:List Value) (pi vf:Value):Prop where
 file:PtrI I bf 0 25 [.slice a its.length cp]
 fe:FE I its a cp xs
 item:∃bi oi tc ci,pi=.pointer (some ⟨bi,oi,none⟩)/\PtrI I bi oi tc ci/\A67 I it ci
 floors:∃fa fp,vf=.slice fa its.length fp/\RowI I 3 1 (.slice fa its.length fp) its.length ((A7b its).flatMap A2K)
 lab:A3Y its
 own:it.label<256
theorem FC.le {I J:P8} (m:Le I J) {its:List Sp.Itm}{it:Sp.Itm}{bf:Nat}{a:Option Addr}{cp:Nat}{xs:List Value}{pi vf:Value} (h:FC I its it bf a cp xs pi vf):FC J its it bf a cp xs pi vf:=by
 obtain⟨h1,h2,⟨bi,oi,tc,ci,e,h3,h4⟩,⟨fa,fp,e2,h5⟩,h6,h7⟩:=h;exact⟨h1.le m,h2.le m,⟨bi,oi,tc,ci,e,h3.le m,h4.le m⟩,⟨fa,fp,e2,h5.le m⟩,h6,h7⟩
theorem D0F {its:List Sp.Itm}{it:Sp.Itm}{bc bf sp:Nat}{a:Option Addr}{cp:Nat}{xs:List Value}{pi vf v3 v5 v6 v7:Value}{sc:List Sp.Lc}{sa:Option Addr} (hs:sc.length<=1099511627776) (hsl:A6Y sc):
  ∀(n:Nat) (e:Sp.Ex),SizeOf.sizeOf e<=n->e.small->∀(J:P8) (b o tc:Nat) (ea:Option Addr) (ec:Nat) (ys:List Value),FRd J bc bf pi sc sa sp v3 vf v5 v6 v7->FC J its it bf a cp xs pi vf->
   PtrI J b o tc (A0E e ea ec)->RowI J 109 6 (.slice ea e.args.length ec) e.args.length ys->Z7 J e.args ys->
   CalR prog 176 #[ptr bc,.pointer (some ⟨b,o,none⟩)] J [] (nt (A1e its sc e)):=by
 intro n;induction n with
 |zero=>intro e h;cases e;simp at h
 |succ n ih=>
 intro e hsz hsm J b o tc ea ec ys hR0 hC0 hp0 hr0 hx0;obtain⟨hal,hasm⟩:=A4u hsm;refine CalR.of fun w K hm hl _ _=>enter (N:=68) func176 rfl [(0,ptr bc),(1,.pointer (some ⟨b,o,none⟩))] A1x rfl ?_
 have hR:=hR0.le hl;have hC:=hC0.le hl;have hp:=hp0.le hl;have hr:=hr0.le hl;have hx:=Z7.le hl _ _ hx0;clear hR0 hC0 hp0 hr0 hx0;obtain⟨hRp,hRr⟩:=hR;have hCf:=hC.file;rw[C9j];by_cases k2:e.kind=2
 ·rw[if_pos k2]
  repeat' (first|refine U8 (d:=19) ?_ hm (hc:=C4S e.name hs ⟨hRp,hRr⟩);clear hm;intro _ hm|refine J9 ?_ hm|refine D8 ?_|refine D6 ?_|refine O6 ?_|refine F5 ?_|refine D5 ?_|refine E5 ?_|refine A7 ?_|refine D7 ?_|refine E8 ?_|refine A8 ?_|refine F6 ?_|refine J3 ?_|refine J7 ?_|(refine C9 (ht:=fun _=>?_) (hf:=fun _=>?_)<;>try first|contradiction|omega))
  exact⟨rfl,hm.kept⟩
 rw[if_neg k2];by_cases k3:e.kind=3
 ·rw[if_pos k3]
  repeat' (first|refine J9 ?_ hm|refine D8 ?_|refine D6 ?_|refine O6 ?_|refine G6 ?_|refine F5 ?_|refine D5 ?_|refine E5 ?_|refine A7 ?_|refine E8 ?_|refine A8 ?_|refine F6 ?_|(refine C9 (ht:=fun _=>?_) (hf:=fun _=>?_)<;>try first|contradiction|omega))
  refine U3 (fun k:Nat=> [(0,ptr bc),(1,.pointer (some ⟨b,o,none⟩)),(5,nt (A0Y its sc (e.args.take k) 0)),(26,nt e.args.length),(27,nt k)]) (fun k w'=>Mem ⟨w,[],K⟩ K [] w'/\k<=e.args.length) (fun k=>e.args.length-k) 0
   (by exact⟨rfl,rfl,by rw[Z9,A0Y];rfl,rfl,rfl,trivial⟩) ⟨hm,H9 _⟩ ?_
  clear hm;rintro k w1 ⟨hm,hk⟩;try dsimp only at hm hk |-
  by_cases hlt:k<e.args.length
  ·have hg:e.args[k]?=some e.args[k]:=F9 hlt
   have hsz2:=A3o (O1 hlt);have hsm2:=A2m hasm hg;obtain⟨ea2,ec2,ys2,hc2,hr2,hx2⟩:=(hx.get hg).out;generalize e.args[k]=y at hg hsz2 hsm2 hc2 hr2 hx2;have hst:=B4q its sc hg 0;have hl1:=B00 hC.lab hsl (e.args.take k) 0 (by omega);have hl2:=A6X hC.lab hsl y;repeat' (first|refine O7 (d:=37) ?_ (hr:=hr);intro bt ot hpt;rw[show ((k:Int).toNat *6)=k *6 from rfl,hc2]at hpt|refine U8 (d:=38) ?_ hm (hc:=ih y (by omega) hsm2 K _ _ _ ea2 ec2 ys2 ⟨hRp,hRr⟩ hC hpt hr2 hx2);clear hm;intro _ hm|refine A0r (d:=39) (hc:=by exact A9I _ _ hl1 hl2 _) (k:=?_);rintro _ _ ⟨rfl,rfl⟩|refine J9 ?_ hm|refine D8 ?_|refine D6 ?_|refine J8 ?_|refine F5 ?_|refine O9 ?_|refine D5 ?_|refine E5 ?_|refine A7 ?_|refine D7 ?_|refine E8 ?_|refine A8 ?_|refine F6 ?_|refine G7 ?_|(refine C9 (ht:=fun _=>?_) (hf:=fun _=>?_)<;>try first|contradiction|omega))
   refine L6 (k+1:Nat) (by exact⟨rfl,rfl,by rw[hst];rfl,rfl,rfl,trivial⟩) ⟨hm,by omega⟩ (by omega)
  ·obtain rfl:k=e.args.length:=by omega
   repeat' (first|refine D8 ?_|refine D6 ?_|refine J8 ?_|refine E5 ?_|refine A7 ?_|refine H6 ?_|refine D7 ?_|refine G9 ?_|refine E8 ?_|refine A8 ?_|refine O8 ?_|refine J3 ?_|refine J7 ?_|(refine C9 (ht:=fun _=>?_) (hf:=fun _=>?_)<;>try first|contradiction|omega))
   exact⟨by rw[V7],hm.kept⟩
 rw[if_neg k3];by_cases k4:e.kind=4
 ·rw[if_pos k4]
  have hfind:=(A9N 2 e.name its K a cp xs hC.fe).read;cases hf:A0M its 2 e.name with
  |some j=>
   obtain⟨hj,_,_,_,_⟩:=A3O hf;obtain⟨ci,hci,hat,hlc⟩:=hC.fe.get (A5j hj);obtain⟨pa,pc,sa1,sc1,ba,bc1,da,dc,xb,rfl,_⟩:=hat
   have hri:=hC.fe.row;rw[A21,hf];rw[A8S hf]at hfind;repeat' (first|refine A0P (d:=53) ?_ hm (hc:=hfind)|refine O7 (d:=64) ?_ (hr:=hri);intro bt ot hpt;rw[show ((j:Int).toNat *10)=j *10 from rfl,hci]at hpt|refine J9 ?_ hm|refine A0f ?_ hm|refine A10 ?_ hm|refine D8 ?_|refine D6 ?_|refine A11 ?_|refine O6 ?_|refine F5 ?_|refine D5 ?_|refine E5 ?_|refine A7 ?_|refine D7 ?_|refine E8 ?_|refine A8 ?_|refine F6 ?_|refine J3 ?_|refine J7 ?_|refine U6 ?_|refine A0s ?_;intro _ hkq;replace hm:=hm.kept0 hkq;clear hkq|refine H5 ?_|(refine C9 (ht:=fun _=>?_) (hf:=fun _=>?_)<;>try first|contradiction|omega)|refine Y4 ?_|refine A1a ?_|refine Q9 ?_|refine L8 ?_)
   exact⟨rfl,hm.kept⟩
  |none=>
   rw[A21,hf];rw[A8R hf]at hfind;repeat' (first|refine A0P (d:=53) ?_ hm (hc:=hfind)|refine J9 ?_ hm|refine A0f ?_ hm|refine A10 ?_ hm|refine D8 ?_|refine D6 ?_|refine A11 ?_|refine O6 ?_|refine F5 ?_|refine D5 ?_|refine E5 ?_|refine A7 ?_|refine D7 ?_|refine E8 ?_|refine A8 ?_|refine F6 ?_|refine G7 ?_|refine J3 ?_|refine J7 ?_|refine U6 ?_|refine A0s ?_;intro _ hkq;replace hm:=hm.kept0 hkq;clear hkq|refine F7 ?_|(refine C9 (ht:=fun _=>?_) (hf:=fun _=>?_)<;>try first|contradiction|omega)|refine Y4 ?_|refine A1a ?_|refine Q9 ?_|refine L8 ?_)
   exact⟨rfl,hm.kept⟩
 ·rw[if_neg k4]
  repeat' (first|refine J9 ?_ hm|refine D8 ?_|refine D6 ?_|refine O6 ?_|refine F5 ?_|refine D5 ?_|refine E5 ?_|refine A7 ?_|refine D7 ?_|refine E8 ?_|refine A8 ?_|refine F6 ?_|refine G7 ?_|refine J3 ?_|refine J7 ?_|(refine C9 (ht:=fun _=>?_) (hf:=fun _=>?_)<;>try first|contradiction|omega))
  exact⟨rfl,hm.kept⟩
end Go.Proofs
