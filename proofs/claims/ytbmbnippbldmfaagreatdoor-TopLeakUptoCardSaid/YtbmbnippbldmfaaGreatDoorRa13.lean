/- Own work. -/
import Derived.Test.YtbmbnippbldmfaaGreatDoorRa12
set_option maxHeartbeats 64000000
namespace Go.Sp
abbrev Nm:=List UInt8
theorem A80 (a:Nm):¬a<a:=List.lt_irrefl a
theorem B5n {a b c:Nm} (h:a<b) (k:b<c):a<c:=List.lt_trans h k
theorem D4j (a b:Nm):a<b\/a=b\/b<a:=by
 rcases Decidable.em (a<b) with h|h
 ·exact .inl h
 ·rcases Decidable.em (b<a) with k|k
  ·exact .inr (.inr k)
  ·exact .inr (.inl (List.le_antisymm (List.not_lt.1 k) (List.not_lt.1 h)))
theorem C81 {a b:Nm} (h:a<b):¬b<a:=fun k=>A80 a (B5n h k)
def Srt (l:List Nm):Prop:=l.Pairwise (· < ·)
theorem Srt.nil:Srt []:=List.Pairwise.nil
theorem B6E:∀ {a b:List Nm},Srt a->Srt b->(∀x,x∈a↔x∈b)->a=b
 | [],[],_,_,_=>rfl
 | [],y::b,_,_,h=>absurd ((h y).2 O4) (by simp)
 |x::a,[],_,_,h=>absurd ((h x).1 O4) (by simp)
 |x::a,y::b,ha,hb,h=>by
  obtain⟨ha1,ha2⟩:=A17.1 ha;obtain⟨hb1,hb2⟩:=A17.1 hb;have hx:=(h x).1 O4;have hy:=(h y).2 O4;have e:x=y:=by
   rcases W9.1 hx with e|hx
   ·exact e
   ·rcases W9.1 hy with e|hy
    ·exact e.symm
    ·exact absurd (ha1 y hy) (C81 (hb1 x hx))
  subst e
  congr 1
  refine B6E ha2 hb2 (fun z=>⟨fun hz=>?_,fun hz=>?_⟩)
  ·rcases W9.1 ((h z).1 (Z4 _ hz)) with e|h1
   ·subst e;exact absurd (ha1 z hz) (A80 z)
   ·exact h1
  ·rcases W9.1 ((h z).2 (Z4 _ hz)) with e|h1
   ·subst e;exact absurd (hb1 z hz) (A80 z)
   ·exact h1
def B0E (s:Nm):List Nm->List Nm
 | []=> [s]
 |x::l=>if x<s then x::B0E s l else s::x::l
def A63 (l:List Nm) (s:Nm):List Nm:=if s= []\/s∈l then l else B0E s l
theorem B4g (s x:Nm):∀(l:List Nm),x∈B0E s l↔x=s\/x∈l
 | []=>by simp[B0E]
 |y::l=>by
  rw[B0E];split
  ·rw[W9,B4g s x l,W9]
   constructor
   ·rintro(h|h|h)
    ·exact .inr (.inl h)
    ·exact .inl h
    ·exact .inr (.inr h)
   ·rintro(h|h|h)
    ·exact .inr (.inl h)
    ·exact .inl h
    ·exact .inr (.inr h)
  ·simp
theorem B7A {s:Nm}:∀ {l:List Nm},Srt l->s∉l->Srt (B0E s l)
 | [],_,_=>by rw[B0E];exact B3H _ _
 |y::l,h,hs=>by
  obtain⟨h1,h2⟩:=A17.1 h;rw[B0E];split
  ·rename_i hy
   refine A17.2 ⟨fun z hz=>?_,B7A h2 (fun hm=>hs (Z4 _ hm))⟩
   rcases(B4g s z l).1 hz with rfl|hz
   ·exact hy
   ·exact h1 z hz
  ·rename_i hy
   have hsy:s<y:=by
    rcases D4j s y with h|h|h
    ·exact h
    ·subst h;exact absurd O4 hs
    ·exact absurd h hy
   refine A17.2 ⟨fun z hz=>?_,h⟩
   rcases W9.1 hz with rfl|hz
   ·exact hsy
   ·exact B5n hsy (h1 z hz)
theorem B12 (s:Nm):∀(l:List Nm),(B0E s l).length=l.length+1
 | []=>rfl
 |y::l=>by
  rw[B0E];split
  ·rw[E9,B12 s l,E9]
  ·rfl
theorem C7b {s:Nm}:∀ {l:List Nm}{k:Nat},k<=l.length->(∀j x,j<k->l[j]?=some x->x<s)->(∀x,l[k]?=some x->¬x<s)->B0E s l=l.take k++s::l.drop k
 | [],k,hk,_,_=>by
  obtain rfl:k=0:=by simpa using hk
  rfl
 |y::l,0,_,_,h2=>by
  rw[B0E,if_neg (h2 y rfl)];rfl
 |y::l,k+1,hk,h1,h2=>by
  rw[B0E,if_pos (h1 0 y (by omega) rfl),A09,List.drop_succ_cons,Q8]
  congr 1
  refine C7b (by simpa using hk) (fun j x hj hx=>h1 (j+1) x (by omega) (by simpa using hx)) (fun x hx=>h2 x (by simpa using hx))
theorem B6T (l:List Nm) (s x:Nm):x∈A63 l s↔x∈l\/(x=s/\s≠ []):=by
 rw[A63];split
 ·rename_i h
  constructor
  ·exact .inl
  ·rintro(h1|⟨rfl,h1⟩)
   ·exact h1
   ·rcases h with h|h
    ·exact absurd h h1
    ·exact h
 ·rename_i h
  rw[B4g];constructor
  ·rintro(rfl|h1)
   ·exact .inr ⟨rfl,fun e=>h (.inl e)⟩
   ·exact .inl h1
  ·rintro(h1|⟨rfl,_⟩)
   ·exact .inr h1
   ·exact .inl rfl
theorem B1J {l:List Nm} (h:Srt l) (s:Nm):Srt (A63 l s):=by
 rw[A63];split
 ·exact h
 ·rename_i h1
  exact B7A h (fun hm=>h1 (.inr hm))
theorem B3Y (l:List Nm) (s:Nm):l.length<=(A63 l s).length/\(A63 l s).length<=l.length+1:=by
 rw[A63];split
 ·omega
 ·rw[B12];omega
theorem B4V {l:List Nm}{s:Nm} (h:s= []\/s∈l):A63 l s=l:=by rw[A63,if_pos h]
theorem C9Y {l:List Nm}{s:Nm} (h:¬(s= []\/s∈l)):A63 l s=B0E s l:=by rw[A63,if_neg h]
def A71 (a b:List Nm):List Nm:=b.foldl A63 a
theorem B5c:∀(b a:List Nm) (x:Nm),x∈A71 a b↔x∈a\/(x∈b/\x≠ [])
 | [],a,x=>by simp[A71]
 |y::b,a,x=>by
  show x∈A71 (A63 a y) b↔_
  rw[B5c b,B6T,W9];constructor
  ·rintro((h|⟨rfl,h⟩)|⟨h,k⟩)
   ·exact .inl h
   ·exact .inr ⟨.inl rfl,h⟩
   ·exact .inr ⟨.inr h,k⟩
  ·rintro(h|⟨rfl|h,k⟩)
   ·exact .inl (.inl h)
   ·exact .inl (.inr ⟨rfl,k⟩)
   ·exact .inr ⟨h,k⟩
theorem B5d:∀(b:List Nm) {a:List Nm},Srt a->Srt (A71 a b)
 | [],_,h=>h
 |y::b,_,h=>B5d b (B1J h y)
theorem B3F:∀(b:List Nm) {a:List Nm},(∀x∈b,x∈a)->A71 a b=a
 | [],_,_=>rfl
 |y::b,a,h=>by
  show A71 (A63 a y) b=a
  rw[B4V (.inr (h y O4))];exact B3F b (fun x hx=>h x (Z4 _ hx))
theorem C5e {a b:List Nm}{k:Nat}{x:Nm} (h:b[k]?=some x):A71 a (b.take (k+1))=A63 (A71 a (b.take k)) x:=by
 rw[U2 h,A71,A5c];rfl
theorem B08 {a u:List Nm} (ha:Srt a) (h:∀x∈a,x∈u):a.length<=u.length:=by
 induction a generalizing u with
 |nil=>exact H9 _
 |cons x a ih=>
  obtain⟨h1,h2⟩:=A17.1 ha;have hx:=h x O4;have:=ih (u:=u.erase x) h2 (fun y hy=>(List.mem_erase_of_ne (fun e=>A80 x (by have h2:=h1 y hy;rw[e]at h2;exact h2))).2 (h y (Z4 _ hy)));rw[List.length_erase_of_mem hx]at this;have:=List.length_pos_of_mem hx;rw[E9];omega
theorem C3W {a b:List Nm} (ha:Srt a) (hb:Srt b) (h:∀x∈a,x∈b) (hl:b.length<=a.length):a=b:=by
 refine B6E ha hb (fun x=>⟨h x,fun hx=>?_⟩)
 refine Decidable.byContradiction (fun hn=>?_)
 have h1:=B08 (a:=B0E x a) (u:=b) (B7A ha hn) (fun y hy=>by
  rcases(B4g x y a).1 hy with rfl|hy
  ·exact hx
  ·exact h y hy)
 rw[B12]at h1;omega
mutual
def exE:Ex->List Nm->List Nm
 | .mk k nm _ args _ _,c=>A64 args (if k=4 then A63 c nm else c)
def A64:List Ex->List Nm->List Nm
 | [],c=>c
 |e::es,c=>A64 es (exE e c)
 end
mutual
def B0n:Stm->List Nm×List Nm->List Nm×List Nm
 | .mk k nm _ _ _ e thn els _ _,q=>A2w els (A2w thn (if k=5 then A63 q.1 nm else q.1,exE e q.2))
def A2w:List Stm->List Nm×List Nm->List Nm×List Nm
 | [],q=>q
 |x::xs,q=>A2w xs (B0n x q)
 end
def A9Q (it:Itm):List Nm×List Nm:=A2w it.body ([],[])
theorem D6i (e:Ex) (c:List Nm):exE e c=A64 e.args (if e.kind=4 then A63 c e.name else c):=by cases e;rw[exE];rfl
theorem D4Y (x:Stm) (q:List Nm×List Nm):B0n x q=A2w x.els (A2w x.thn (if x.kind=5 then A63 q.1 x.name else q.1,exE x.e q.2)):=by cases x;rw[B0n];rfl
theorem C2r:∀(l r:List Ex) (c:List Nm),A64 (l++r) c=A64 r (A64 l c)
 | [],r,c=>by rw[L9,A64]
 |e::l,r,c=>by rw[Q8,A64,A64,C2r l r]
theorem B91:∀(l r:List Stm) (q:List Nm×List Nm),A2w (l++r) q=A2w r (A2w l q)
 | [],r,q=>by rw[L9,A2w]
 |e::l,r,q=>by rw[Q8,A2w,A2w,B91 l r]
theorem C8p {l:List Ex}{k:Nat}{e:Ex} (h:l[k]?=some e) (c:List Nm):A64 (l.take (k+1)) c=exE e (A64 (l.take k) c):=by
 rw[U2 h,C2r,A64,A64]
theorem C6a {l:List Stm}{k:Nat}{x:Stm} (h:l[k]?=some x) (q:List Nm×List Nm):A2w (l.take (k+1)) q=B0n x (A2w (l.take k) q):=by
 rw[U2 h,B91,A2w,A2w]
mutual
theorem C0w:∀(e:Ex) {c:List Nm},Srt c->Srt (exE e c)
 | .mk k nm n args f t,c,h=>by
  rw[exE];refine B7h args ?_
  split
  ·exact B1J h nm
  ·exact h
theorem B7h:∀(l:List Ex) {c:List Nm},Srt c->Srt (A64 l c)
 | [],c,h=>by rw[A64];exact h
 |e::l,c,h=>by rw[A64];exact B7h l (C0w e h)
 end
mutual
theorem D2y:∀(x:Stm) {q:List Nm×List Nm},Srt q.1/\Srt q.2->Srt (B0n x q).1/\Srt (B0n x q).2
 | .mk k nm a lb o e thn els f t,q,h=>by
  rw[B0n];refine A8E els (A8E thn ⟨?_,C0w e h.2⟩)
  dsimp only
  split
  ·exact B1J h.1 nm
  ·exact h.1
theorem A8E:∀(l:List Stm) {q:List Nm×List Nm},Srt q.1/\Srt q.2->Srt (A2w l q).1/\Srt (A2w l q).2
 | [],q,h=>by rw[A2w];exact h
 |x::l,q,h=>by rw[A2w];exact A8E l (D2y x h)
 end
mutual
theorem D0u:∀(e:Ex) (c:List Nm),c.length<=(exE e c).length/\(exE e c).length<=c.length+e.cnt
 | .mk k nm n args f t,c=>by
  rw[exE,Ex.cnt];have h1:=B3Y c nm;have h2:=C4O args (if k=4 then A63 c nm else c);split at h2<;>rename_i hk
  ·rw[if_pos hk];omega
  ·rw[if_neg hk];omega
theorem C4O:∀(l:List Ex) (c:List Nm),c.length<=(A64 l c).length/\(A64 l c).length<=c.length+A1X l
 | [],c=>by rw[A64,A1X];omega
 |e::l,c=>by
  rw[A64,A1X];have h1:=D0u e c;have h2:=C4O l (exE e c);omega
 end
mutual
theorem D60:∀(x:Stm) (q:List Nm×List Nm),q.1.length+q.2.length<=(B0n x q).1.length+(B0n x q).2.length/\(B0n x q).1.length+(B0n x q).2.length<=q.1.length+q.2.length+x.cnt
 | .mk k nm a lb o e thn els f t,q=>by
  rw[B0n,Stm.cnt];have h1:=B3Y q.1 nm;have h2:=D0u e q.2;have h3:=B2Q thn (if k=5 then A63 q.1 nm else q.1,exE e q.2);have h4:=B2Q els (A2w thn (if k=5 then A63 q.1 nm else q.1,exE e q.2));generalize A2w els (A2w thn (if k=5 then A63 q.1 nm else q.1,exE e q.2))=r4 at h4 |-;generalize A2w thn (if k=5 then A63 q.1 nm else q.1,exE e q.2)=r3 at h3 h4;split at h3
  ·dsimp only at h3;omega
  ·dsimp only at h3;omega
theorem B2Q:∀(l:List Stm) (q:List Nm×List Nm),q.1.length+q.2.length<=(A2w l q).1.length+(A2w l q).2.length/\(A2w l q).1.length+(A2w l q).2.length<=q.1.length+q.2.length+U1 l
 | [],q=>by rw[A2w,U1];omega
 |x::l,q=>by
  rw[A2w,U1];have h1:=D60 x q;have h2:=B2Q l (B0n x q);omega
 end
def A70 (its:List Itm) (i:Nat):List Nm:=if (X7 its i).kind=2 then (A9Q (X7 its i)).1 else []
def A9L (its:List Itm) (l:List Nm):List Nat:=l.filterMap (A0M its 2)
def A4J (its:List Itm) (i:Nat):List Nat:=if (X7 its i).kind=2 then A9L its (A9Q (X7 its i)).2 else []
def A5u (its:List Itm):List (List Nm):=(List.range its.length).map (A70 its)
def B4u (its:List Itm) (rows:List (List Nm)) (i:Nat):List Nm:=(A4J its i).foldl (fun a k=>A71 a (rows.getD k [])) (rows.getD i [])
def A3T (its:List Itm) (rows:List (List Nm)) (i:Nat):List (List Nm):=rows.set i (B4u its rows i)
def A35 (its:List Itm) (rows:List (List Nm)):List (List Nm):=(List.range its.length).foldl (A3T its) rows
def A5z (its:List Itm):Nat->List (List Nm)->List (List Nm)
 |0,r=>r
 |n+1,r=>if A35 its r=r then r else A5z its n (A35 its r)
def B0p (r:List (List Nm)):Nat:=(r.map List.length).sum
def A4S (its:List Itm):List Nm:=(A5u its).flatten
def A9V (its:List Itm):List (List Nm):=A5z its (its.length *(A4S its).length+1) (A5u its)
def B1K (its:List Itm) (i:Nat):List Nm:=(A9V its).getD i []
structure RowsE (its:List Itm) (r:List (List Nm)):Prop where
 len:r.length=its.length
 srt:∀a∈r,Srt a
 of:∀a∈r,∀x∈a,x∈A4S its
 ne:∀a∈r,[]∉a
def LeE (r s:List (List Nm)):Prop:=r.length=s.length/\∀i x,x∈r.getD i []->x∈s.getD i []
theorem LeE.refl (r:List (List Nm)):LeE r r:=⟨rfl,fun _ _ h=>h⟩
theorem LeE.trans {r s t:List (List Nm)} (h:LeE r s) (k:LeE s t):LeE r t:=⟨h.1.trans k.1,fun i x hx=>k.2 i x (h.2 i x hx)⟩
theorem C2L {α:Type}{l:List α}{i:Nat}{d:α} (h:i<l.length):l.getD i d∈l:=by
 rw[N9,F9 h];exact O1 h
theorem A97 {α:Type}{l:List α}{i:Nat}{d:α} (h:l.length<=i):l.getD i d=d:=by
 rw[N9,A1n h];rfl
theorem A7O {α:Type}{l:List α}{i:Nat}{d a:α} (h:i<l.length):(l.set i a).getD i d=a:=by
 rw[N9,A7B h];rfl
theorem getD_set_ne {α:Type}{l:List α}{i j:Nat}{d a:α} (h:i≠j):(l.set i a).getD j d=l.getD j d:=by
 rw[N9,A5M h,N9]
mutual
theorem D0v:∀(e:Ex) {c:List Nm},[]∉c->[]∉exE e c
 | .mk k nm n args f t,c,h=>by
  rw[exE];refine C6Y args ?_
  split
  ·rw[B6T];rintro(h1|⟨h1,h2⟩)
   ·exact h h1
   ·exact h2 h1.symm
  ·exact h
theorem C6Y:∀(l:List Ex) {c:List Nm},[]∉c->[]∉A64 l c
 | [],c,h=>by rw[A64];exact h
 |e::l,c,h=>by rw[A64];exact C6Y l (D0v e h)
 end
mutual
theorem D4Z:∀(x:Stm) {q:List Nm×List Nm},[]∉q.1/\[]∉q.2->[]∉(B0n x q).1/\[]∉(B0n x q).2
 | .mk k nm a lb o e thn els f t,q,h=>by
  rw[B0n];refine B4y els (B4y thn ⟨?_,D0v e h.2⟩)
  dsimp only
  split
  ·rw[B6T];rintro(h1|⟨h1,h2⟩)
   ·exact h.1 h1
   ·exact h2 h1.symm
  ·exact h.1
theorem B4y:∀(l:List Stm) {q:List Nm×List Nm},[]∉q.1/\[]∉q.2->[]∉(A2w l q).1/\[]∉(A2w l q).2
 | [],q,h=>by rw[A2w];exact h
 |x::l,q,h=>by rw[A2w];exact B4y l (D4Z x h)
 end
theorem D4q (it:Itm): []∉(A9Q it).1/\[]∉(A9Q it).2:=B4y _ ⟨by simp,by simp⟩
theorem D1R (it:Itm):Srt (A9Q it).1/\Srt (A9Q it).2:=A8E _ ⟨Srt.nil,Srt.nil⟩
theorem B3D (its:List Itm):(A5u its).length=its.length:=by rw[A5u,P7,List.length_range]
theorem B7z (its:List Itm) {i:Nat} (h:i<its.length):(A5u its).getD i []=A70 its i:=by
 rw[A5u,N9,Y6,List.getElem?_range h];rfl
theorem B3L (its:List Itm):RowsE its (A5u its):=by
 have key:∀a∈A5u its,∃i,a=A70 its i:=fun a ha=>by
  obtain⟨i,_,rfl⟩:=Y7.1 ha;exact⟨i,rfl⟩
 refine⟨B3D its,fun a ha=>?_,fun a ha x hx=>List.mem_flatten.2 ⟨a,ha,hx⟩,fun a ha=>?_⟩
 ·obtain⟨i,rfl⟩:=key a ha
  rw[A70];split
  ·exact(D1R _).1
  ·exact Srt.nil
 ·obtain⟨i,rfl⟩:=key a ha
  rw[A70];split
  ·exact(D4q _).1
  ·simp
theorem B2L (rows:List (List Nm)):∀(l:List Nat) (a:List Nm),Srt a->(∀x,x∈l.foldl (fun a k=>A71 a (rows.getD k [])) a↔x∈a\/∃k∈l,x∈rows.getD k []/\x≠ [])/\Srt (l.foldl (fun a k=>A71 a (rows.getD k [])) a)
 | [],a,h=>⟨fun x=>by simp,h⟩
 |k::l,a,h=>by
  rw[A07];obtain⟨h1,h2⟩:=B2L rows l (A71 a (rows.getD k [])) (B5d _ h);refine⟨fun x=>?_,h2⟩
  rw[h1,B5c];constructor
  ·rintro((h|h)|⟨j,hj,h⟩)
   ·exact .inl h
   ·exact .inr ⟨k,O4,h⟩
   ·exact .inr ⟨j,Z4 _ hj,h⟩
  ·rintro(h|⟨j,hj,h⟩)
   ·exact .inl (.inl h)
   ·rcases W9.1 hj with rfl|hj
    ·exact .inl (.inr h)
    ·exact .inr ⟨j,hj,h⟩
theorem RowsE.getD {its:List Itm}{r:List (List Nm)} (h:RowsE its r) (i:Nat):Srt (r.getD i [])/\(∀x∈r.getD i [],x∈A4S its)/\[]∉r.getD i []:=by
 rcases U9 i r.length with hi|hi
 ·have:=C2L (d:= []) hi
  exact⟨h.srt _ this,h.of _ this,h.ne _ this⟩
 ·rw[A97 hi];exact⟨Srt.nil,by simp,by simp⟩
theorem B0k {its:List Itm}{r:List (List Nm)} (h:RowsE its r) (i:Nat) (x:Nm):x∈B4u its r i↔x∈r.getD i []\/∃k∈A4J its i,x∈r.getD k []:=by
 rw[B4u,(B2L r (A4J its i) (r.getD i []) (h.getD i).1).1];constructor
 ·rintro(h1|⟨k,hk,h1,_⟩)
  ·exact .inl h1
  ·exact .inr ⟨k,hk,h1⟩
 ·rintro(h1|⟨k,hk,h1⟩)
  ·exact .inl h1
  ·exact .inr ⟨k,hk,h1,fun e=>(h.getD k).2.2 (by rw[<-e];exact h1)⟩
theorem RowsE.step {its:List Itm}{r:List (List Nm)} (h:RowsE its r) (i:Nat):RowsE its (A3T its r i)/\LeE r (A3T its r i):=by
 have hs:Srt (B4u its r i):=(B2L r (A4J its i) (r.getD i []) (h.getD i).1).2;have hm:∀a∈A3T its r i,a∈r\/a=B4u its r i:=fun a ha=>List.mem_or_eq_of_mem_set ha
 refine⟨⟨by rw[A3T,A29,h.len],fun a ha=>?_,fun a ha x hx=>?_,fun a ha hx=>?_⟩,⟨by rw[A3T,A29],fun j x hx=>?_⟩⟩
 ·rcases hm a ha with h1|rfl
  ·exact h.srt a h1
  ·exact hs
 ·rcases hm a ha with h1|rfl
  ·exact h.of a h1 x hx
  ·rcases(B0k h i x).1 hx with h1|⟨k,_,h1⟩
   ·exact(h.getD i).2.1 x h1
   ·exact(h.getD k).2.1 x h1
 ·rcases hm a ha with h1|rfl
  ·exact h.ne a h1 hx
  ·rcases(B0k h i []).1 hx with h1|⟨k,_,h1⟩
   ·exact(h.getD i).2.2 h1
   ·exact(h.getD k).2.2 h1
 ·by_cases e:i=j
  ·subst e
   rcases U9 i r.length with hi|hi
   ·rw[A3T,A7O hi];exact(B0k h i x).2 (.inl hx)
   ·rw[A97 hi]at hx;cases hx
  ·rw[A3T,getD_set_ne e];exact hx
theorem RowsE.folds {its:List Itm}:∀(l:List Nat) {r:List (List Nm)},RowsE its r->RowsE its (l.foldl (A3T its) r)/\LeE r (l.foldl (A3T its) r)
 | [],r,h=>⟨h,LeE.refl r⟩
 |i::l,r,h=>by
  obtain⟨h1,h2⟩:=h.step i;obtain⟨h3,h4⟩:=RowsE.folds l h1;exact⟨h3,h2.trans h4⟩
theorem RowsE.round {its:List Itm}{r:List (List Nm)} (h:RowsE its r):RowsE its (A35 its r)/\LeE r (A35 its r):=h.folds _
theorem C21 {its:List Itm}{r s:List (List Nm)} (hr:RowsE its r) (hs:RowsE its s) (h:LeE r s) (k:LeE s r):r=s:=by
 refine A3B (fun i=>?_)
 rcases U9 i r.length with hi|hi
 ·have h1:=B6E (hr.getD i).1 (hs.getD i).1 (fun x=>⟨h.2 i x,k.2 i x⟩)
  rw[F9 hi,F9 (by rw[<-h.1];exact hi)];rw[N9,F9 hi,N9,F9 (by rw[<-h.1];exact hi)]at h1;exact congrArg some h1
 ·rw[A1n hi,A1n (by rw[<-h.1];exact hi)]
theorem B9r {its:List Itm}:∀(l:List Nat) {r:List (List Nm)},RowsE its r->l.foldl (A3T its) r=r->∀i∈l,A3T its r i=r
 | [],_,_,_,i,hi=>by cases hi
 |j::l,r,h,e,i,hi=>by
  rw[A07]at e;obtain⟨h1,h2⟩:=h.step j;obtain⟨h3,h4⟩:=RowsE.folds l h1;rw[e]at h4;have hj:A3T its r j=r:=(C21 h h1 h2 h4).symm;rcases W9.1 hi with rfl|hi
  ·exact hj
  ·rw[hj]at e;exact B9r l h e i hi
theorem C7X:∀ {r s:List (List Nm)},(∀a∈r,Srt a)->(∀a∈s,Srt a)->LeE r s->B0p r<=B0p s/\(B0p s<=B0p r->r=s)
 | [],[],_,_,_=>⟨H7 _,fun _=>rfl⟩
 | [],b::s,_,_,h=>by have:=h.1;simp at this
 |a::r,[],_,_,h=>by have:=h.1;simp at this
 |a::r,b::s,hr,hs,h=>by
  have h1:∀x∈a,x∈b:=fun x hx=>h.2 0 x hx
  have ha:=hr a O4;have hb:=hs b O4;have h2:=B08 ha h1;obtain⟨h3,h4⟩:=C7X (r:=r) (s:=s) (fun x hx=>hr x (Z4 _ hx)) (fun x hx=>hs x (Z4 _ hx)) ⟨by simpa using h.1,fun i x hx=>h.2 (i+1) x hx⟩;have e1:B0p (a::r)=a.length+B0p r:=rfl;have e2:B0p (b::s)=b.length+B0p s:=rfl;refine⟨by omega,fun hl=>?_⟩
  rw[C3W ha hb h1 (by omega),h4 (by omega)]
theorem B4F {its:List Itm}{r:List (List Nm)} (h:RowsE its r):B0p r<=its.length *(A4S its).length:=by
 rw[<-h.len];have key:∀(l:List (List Nm)),(∀a∈l,a∈r)->B0p l<=l.length *(A4S its).length:=by
  intro l;induction l with
  |nil=>intro _;simp[B0p]
  |cons a l ih=>
   intro hl;have h1:=ih (fun x hx=>hl x (Z4 _ hx));have ha:=hl a O4;have h2:=B08 (h.srt a ha) (h.of a ha);have e1:B0p (a::l)=a.length+B0p l:=rfl;rw[e1,E9,A2u];omega
 exact key r (fun _ h=>h)
abbrev B5B (its:List Itm):Nat:=its.length *(A4S its).length
theorem B2C {its:List Itm}{r:List (List Nm)} (h:A35 its r=r):∀n,A5z its n r=r
 |0=>rfl
 |n+1=>by rw[A5z,if_pos h]
theorem B05 {its:List Itm}{r:List (List Nm)} (h:RowsE its r) (hn:A35 its r≠r):B0p r<B0p (A35 its r):=by
 obtain⟨h1,h2⟩:=h.round;obtain⟨h3,h4⟩:=C7X h.srt h1.srt h2;rcases U9 (B0p r) (B0p (A35 its r)) with h5|h5
 ·exact h5
 ·exact absurd (h4 h5).symm hn
theorem B4j {its:List Itm}:∀(d:Nat) {r:List (List Nm)},RowsE its r->B5B its-B0p r<=d->∀n m,d<n->d<m->A5z its n r=A5z its m r
 |d,r,h,hd,n,m,hn,hm=>by
  by_cases e:A35 its r=r
  ·rw[B2C e,B2C e]
  ·have h1:=B05 h e
   have h2:=B4F h.round.1;have e0:B5B its=its.length *(A4S its).length:=rfl;obtain⟨n,rfl⟩:∃k,n=k+1:=⟨n-1,by omega⟩;obtain⟨m,rfl⟩:∃k,m=k+1:=⟨m-1,by omega⟩;rw[A5z,if_neg e,A5z,if_neg e]
   match d,hd with
   |0,hd=>omega
   |d+1,hd=>exact B4j d h.round.1 (by omega) n m (by omega) (by omega)
theorem C5b {its:List Itm}{r:List (List Nm)} (h:RowsE its r) (e:A35 its r≠r):A5z its (B5B its+1) r=A5z its (B5B its+1) (A35 its r):=by
 have h1:=B05 h e;have h2:=B4F h.round.1;have e0:B5B its=its.length *(A4S its).length:=rfl;rw[A5z,if_neg e];exact B4j (B5B its-1) h.round.1 (by omega) _ _ (by omega) (by omega)
theorem B9x {its:List Itm}:∀(d:Nat) {r:List (List Nm)},RowsE its r->B5B its-B0p r<=d->∀n,d<n->A35 its (A5z its n r)=A5z its n r/\RowsE its (A5z its n r)/\LeE r (A5z its n r)
 |d,r,h,hd,n,hn=>by
  by_cases e:A35 its r=r
  ·rw[B2C e];exact⟨e,h,LeE.refl r⟩
  ·have h1:=B05 h e
   have h2:=B4F h.round.1;have e0:B5B its=its.length *(A4S its).length:=rfl;obtain⟨n,rfl⟩:∃k,n=k+1:=⟨n-1,by omega⟩;rw[A5z,if_neg e]
   match d,hd with
   |0,hd=>omega
   |d+1,hd=>
    obtain⟨h3,h4,h5⟩:=B9x d h.round.1 (by omega) n (by omega);exact⟨h3,h4,h.round.2.trans h5⟩
theorem C90 (its:List Itm):A9V its=A5z its (B5B its+1) (A5u its):=rfl
theorem A9W (its:List Itm):A35 its (A9V its)=A9V its/\RowsE its (A9V its)/\LeE (A5u its) (A9V its):=
 B9x (B5B its) (B3L its) (Nat.sub_le _ _) _ (Nat.lt_succ_self _)
inductive Rch (its:List Itm):Nat->Nat->Prop
 |refl (i:Nat):Rch its i i
 |step {i k j:Nat} (h:k∈A4J its i) (r:Rch its k j):Rch its i j
theorem B85 {its:List Itm}{i k:Nat} (h:k∈A4J its i):k<its.length/\(X7 its k).kind=2:=by
 rw[A4J]at h;split at h
 ·obtain⟨n,_,hn⟩:=A8W.1 h
  have:=A3O hn;exact⟨this.1,by omega⟩
 ·cases h
def A6e (its:List Itm) (r:List (List Nm)):Prop:= ∀i x,x∈r.getD i []->∃k,Rch its i k/\x∈A70 its k
theorem A6e.init (its:List Itm):A6e its (A5u its):=fun i x hx=>by
 rcases U9 i its.length with hi|hi
 ·rw[B7z its hi]at hx;exact⟨i,.refl i,hx⟩
 ·rw[A97 (by rw[B3D];exact hi)]at hx;cases hx
theorem A6e.step {its:List Itm}{r:List (List Nm)} (hr:RowsE its r) (h:A6e its r) (i:Nat):A6e its (A3T its r i):=fun j x hx=>by
 by_cases e:i=j
 ·subst e
  rcases U9 i r.length with hi|hi
  ·rw[A3T,A7O hi]at hx
   rcases(B0k hr i x).1 hx with h1|⟨k,hk,h1⟩
   ·exact h i x h1
   ·obtain⟨m,hm,hx⟩:=h k x h1
    exact⟨m,.step hk hm,hx⟩
  ·rw[A3T,A97 (by rw[A29];exact hi)]at hx;cases hx
 ·rw[A3T,getD_set_ne e]at hx;exact h j x hx
theorem A6e.folds {its:List Itm}:∀(l:List Nat) {r:List (List Nm)},RowsE its r->A6e its r->A6e its (l.foldl (A3T its) r)
 | [],_,_,h=>h
 |i::l,_,hr,h=>A6e.folds l (hr.step i).1 (h.step hr i)
theorem A6e.iter {its:List Itm}:∀(n:Nat) {r:List (List Nm)},RowsE its r->A6e its r->A6e its (A5z its n r)
 |0,_,_,h=>h
 |n+1,r,hr,h=>by
  rw[A5z];split
  ·exact h
  ·exact A6e.iter n hr.round.1 (A6e.folds _ hr h)
theorem C1O {its:List Itm}{i k:Nat} (h:k∈A4J its i) {x:Nm} (hx:x∈B1K its k):x∈B1K its i:=by
 obtain⟨h1,h2,_⟩:=A9W its;rcases U9 i its.length with hi|hi
 ·have h3:=B9r (List.range its.length) h2 h1 i (A1P.2 hi)
  have h4:x∈(A3T its (A9V its) i).getD i []:=by
   rw[A3T,A7O (by rw[h2.len];exact hi)];exact(B0k h2 i x).2 (.inr ⟨k,h,hx⟩)
  rw[h3]at h4;exact h4
 ·rw[A4J,X7,A97 hi]at h
  cases h
theorem C9Z {its:List Itm}{i:Nat} (hi:i<its.length) (x:Nm):x∈B1K its i↔ ∃k,Rch its i k/\x∈A70 its k:=by
 constructor
 ·exact fun h=>A6e.iter _ (B3L its) (A6e.init its) i x h
 ·rintro⟨k,hk,hx⟩
  induction hk with
  |refl i=>exact(A9W its).2.2.2 i x (by rw[B7z its hi];exact hx)
  |step h _ ih=>exact C1O h (ih (B85 h).1 hx)
theorem C1Q (its:List Itm) (i:Nat):Srt (B1K its i):=((A9W its).2.1.getD i).1
theorem B8V (its:List Itm):(A9V its).length=its.length:=(A9W its).2.1.len
theorem C8c {its:List Itm}{i:Nat} (h:(X7 its i).kind≠2):B1K its i= []:=by
 rcases U9 i its.length with hi|hi
 ·refine B6E (C1Q its i) Srt.nil (fun x=>⟨fun hx=>?_,fun hx=>by cases hx⟩)
  obtain⟨k,hk,hx⟩:=(C9Z hi x).1 hx;cases hk with
  |refl=>rw[A70,if_neg h]at hx;exact hx
  |step h1 _=>rw[A4J,if_neg h]at h1;cases h1
 ·rw[B1K,A97 (by rw[B8V];exact hi)]
def B0l (it:Itm) (c:Nm):Bool:=it.sends.any (fun x=>decide (x.name=c))
def B39 (c:Nm):Dg:=⟨0,0,10,c⟩
def A91 (its:List Itm) (i:Nat):List Dg:=((B1K its i).filter (fun c=> !B0l (X7 its i) c)).map B39
structure DI where
 fr:Int
 to:Int
 err:Nat
 name:List UInt8
 deriving DecidableEq
def A6k (b:Int) (d:Dg):DI:=⟨w64 (d.fr+b),w64 (d.to+b),d.err,d.name⟩
def B8M (its:List Itm) (i:Nat):List Dg:=(X7 its i).diags++((A3x its i).ds++(A91 its i++(A2J its i (-1)).ds))
def B38 (its:List Itm) (i:Nat):List DI:=(B8M its i).map (A6k (X7 its i).at_)
def A7s (its:List Itm) (k:Nat):List DI:=(List.range k).flatMap (B38 its)
def A3H (its:List Itm):List DI:=A7s its its.length
theorem B0v (its:List Itm) (k:Nat):A7s its (k+1)=A7s its k++B38 its k:=by
 rw[A7s,A28,X0, <-A7s];simp
theorem B30 {its:List Itm} (h:A3H its= []) {i:Nat} (hi:i<its.length):(X7 its i).diags= []/\(A3x its i).ds= []/\A91 its i= []/\(A2J its i (-1)).ds= []:=by
 rw[A3H,A7s,List.flatMap_eq_nil_iff]at h;have:=h i (A1P.2 hi);rw[B38,List.map_eq_nil_iff,B8M]at this;simpa using this
def B3M (its:List Itm) (nm:List UInt8) (args:List Int):Rn:=
 if A3H its≠ [] then ⟨[],0,13,0⟩ else
 match A0M its 2 nm with
 |none=>⟨[],0,6,0⟩
 |some j=>if args.length≠(X7 its j).params.length then ⟨[],0,5,0⟩ else
  if (A6a its 40 nm args MR0).2.err≠0 then ⟨[],0,(A6a its 40 nm args MR0).2.err,0⟩
  else ⟨(A6a its 40 nm args MR0).2.ev,(A6a its 40 nm args MR0).1,0,(A6a its 40 nm args MR0).2.steps⟩
theorem B3z (b:Nat):A1i 0 b=true:=(A2A 0 b).2 (fun k _ h=>by simp at h)
def D7J:PE:=fun _ _ _ _ _ _=>True
theorem B13 {its:List Itm}{i:Nat} (h:i<its.length):X7 its i∈its:=by
 rw[X7,N9,F9 h];exact O1 h
theorem A5j {its:List Itm}{i:Nat} (h:i<its.length):its[i]?=some (X7 its i):=by
 rw[X7,N9,F9 h];rfl
section
variable {its:List Itm}{at_:Int}
end
end Go.Sp
namespace Go.Fw
open Go.Sp
open Go
theorem C04 {w:World}{base e sz n m cp:Nat}{a:Option Addr}{xs:List Value} (ho:w.ownsRow base e sz (.slice a n cp) n xs) (hmn:m<=n):
  w.ownsRow base e sz (.slice a m cp) m (xs.take (m *sz))/\n<=cp/\(a=none\/∃g,a=some ⟨g,0,none⟩):=by
 have h0:=ho.1;have hle:m *sz<=n *sz:=A5a _ hmn;have hlen:(xs.take (m *sz)).length=m *sz:=by rw[P9];omega
 rcases ho.2 with ⟨hv,hn⟩|⟨g,cap,cur,hv,hb,hg,hc,hcm,hs,ht⟩
 ·obtain⟨rfl,rfl,rfl⟩:=Value.slice.inj hv
  obtain rfl:m=0:=by omega
  exact⟨⟨hlen,.inl ⟨rfl,rfl⟩⟩,H7 _,.inl rfl⟩
 ·obtain⟨rfl,_,rfl⟩:=Value.slice.inj hv
  refine⟨⟨hlen,.inr ⟨g,cp,cur,rfl,hb,hg,by omega,hcm,hs,?_⟩⟩,hc,.inr ⟨g,rfl⟩⟩
  rw[<-ht,A41,A1O hle]
section
variable {P:Program}{N:Nat}{ds:List Deferred}{Q:Exit->Act->World->Prop}{l:Log}{w:World}{ops:Array Oper}{os:List Oper}
variable {d:Nat}{ty:TypeId}{pos:String}{af:Array Edge}{g:Option (Nat×Bool)}{t:TypeId}{x y:Operand}{E:Ent}{I:P8}{H:List HItem}
theorem B2E {e:TypeId}{sz by_:Nat} [TySlice P t e] [Elem P e sz by_] {i n m cp:Nat}{a:Option Addr}{xs:List Value} (k:Mem E I (H.set i (.row (.slice a m cp) e sz m (xs.take (m *sz)))) w->WL P N ds ops Q os ((d,.slice a m cp)::l) w) (hm:Mem E I H w)
  (hw:X9 ops l ⟨some d,.slice t x none (some y) none,ty,pos,af,g⟩=some true:=by rfl) (hN:Nat.blt d N=true:=by rfl)
  (hx:ev l x=some (.slice a n cp):=by rfl) (hy:ev l y=some (.int .i64 (m:Int)):=by rfl) (hi:H[i]?=some (.row (.slice a n cp) e sz n xs):=by first|exact gt0|exact gt1|exact gt2|exact gt3|exact gt4|exact gt5|exact gt6) (hmn:m<=n)
   :
  WL P N ds ops Q (⟨some d,.slice t x none (some y) none,ty,pos,af,g⟩::os) l w:=by
 obtain⟨h1,h2,h3⟩:=C04 (hm.ok _ (A03 hi)) hmn;have hm':=hm.turn (h':=.row (.slice a m cp) e sz m (xs.take (m *sz))) hi (Kept.refl _ w) h1 (.inl (by rcases a with _|a<;>rfl));refine X6 (w':=w) (v:=.slice a m cp) rfl hw hN (fun c hc=>?_) (k hm')
 obtain⟨inf,z,hinf,_,hs,_,_,_⟩:=Elem.out (P:=P) (e:=e);have h6:=run_underlying (P:=P) (w:=w) (TySlice.out (P:=P) (t:=t));have h7:m<=cp:=by omega
 rcases h3 with rfl|⟨g,rfl⟩
 ·simp[execOp,Instr.sliceAt,Instr.slice,Instr.sliceBounds,Instr.sliceBound,hc.ev hx,hc.ev hy,h6,asIntOf,h7,sizeOf,typeInfo,hinf]
 ·simp[execOp,Instr.sliceAt,Instr.slice,Instr.sliceBounds,Instr.sliceBound,hc.ev hx,hc.ev hy,h6,asIntOf,h7,sizeOf,typeInfo,hinf,Addr.add_lit]
end
end Go.Fw
namespace Go.Sp
theorem C71 (F:UInt8->Bool):∀(r:List UInt8) (m:Nat),(r.takeWhile F).length<=m->(r.take m).takeWhile F=r.takeWhile F
 | [],m,_=>by simp
 |c::r,0,h=>by
  rw[A1F]at h |-;split at h
  ·simp at h
  ·rename_i hc;simp[hc]
 |c::r,m+1,h=>by
  rw[A09,A1F,A1F];rw[A1F]at h;split at h
  ·rename_i hc
   rw[if_pos hc,if_pos hc,C71 F r m (by simpa using h)]
  ·rename_i hc;rw[if_neg hc,if_neg hc]
theorem D1G (s:List UInt8) (m:Nat) (hs:s≠ []) (h:(one s).2<=m):one (s.take m)=one s:=by
 cases s with
 |nil=>exact absurd rfl hs
 |cons c r=>
  have hm:1<=m:=A1A (A6N (c::r) hs).1 h;obtain⟨m,rfl⟩:∃k,m=k+1:=⟨m-1,by omega⟩;rw[A09];have key:∀F:UInt8->Bool,run F r<=m+1->run F (r.take m)=run F r:=fun F hF=>by
   unfold run at hF |-
   rw[C71 F r m (by omega)]
  simp only[one]at h |-;by_cases h1:A0I c=true
  ·rw[if_pos h1]at h |-;rw[key _ h,if_pos h1]
  ·rw[if_neg h1]at h |-;rw[if_neg h1]
   by_cases h2:c.toNat=35
   ·rw[if_pos h2]at h |-;rw[key _ h,if_pos h2]
   ·rw[if_neg h2]at h |-;rw[if_neg h2]
    by_cases h3:A0n c=true
    ·rw[if_pos h3]at h |-;rw[key _ h,if_pos h3]
    ·rw[if_neg h3]at h |-;rw[if_neg h3]
     by_cases h4:A0C c=true
     ·rw[if_pos h4]at h |-;rw[key _ h,if_pos h4]
     ·rw[if_neg h4]at h |-;rw[if_neg h4]
theorem D67:∀(k:Nat) (s:List UInt8) (p n:Nat) (t:Tok),s.length=k->(tk s p)[n]?=some t->p<=t.pos/\tk (s.take (t.pos-p)) p=(tk s p).take n:=by
 intro k;induction k using Nat.strongRecOn with
 |_ k ih=>
  intro s p n t hk ht;by_cases hs:s= []
  ·subst hs;rw[C6p]at ht;simp at ht
  have hl:=A6N s hs;have step:=A58 s p hs;have rest:∀(n:Nat),(tk (s.drop (one s).2) (p+(one s).2))[n]?=some t->p<=t.pos/\tk (s.take (t.pos-p)) p=(if (one s).1>0 then [⟨(one s).1,s.take (one s).2,p⟩] else [])++(tk (s.drop (one s).2) (p+(one s).2)).take n:=fun n hn=>by
   obtain⟨h1,h2⟩:=ih (s.drop (one s).2).length (by simp;omega) (s.drop (one s).2) (p+(one s).2) n t rfl hn;refine⟨by omega,?_⟩
   have hm:(one s).2<=t.pos-p:=by omega
   have hne:s.take (t.pos-p)≠ []:=by
    intro e;have:=congrArg List.length e;simp at this
    rcases this with this|this
    ·omega
    ·exact hs this
   have e3:((s.drop (one s).2).take (t.pos-(p+(one s).2)))=(s.take (t.pos-p)).drop (one s).2:=by
    rw[List.drop_take];congr 1;omega
   have e4:(s.take (t.pos-p)).take (one s).2=s.take (one s).2:=by rw[A41,A1O hm]
   rw[A58 _ _ hne,D1G s _ hs hm,e4, <-e3,h2]
  rw[step]at ht |-;by_cases hp:(one s).1>0
  ·rw[if_pos hp]at ht rest |-
   cases n with
   |zero=>
    simp only[A3z,A08,X4]at ht;subst ht;exact⟨H7 _,by simp[C6p]⟩
   |succ n=>
    obtain⟨h1,h2⟩:=rest n (by simpa using ht);exact⟨h1,by rw[h2];simp⟩
  ·rw[if_neg hp]at ht rest |-
   exact rest n (by simpa using ht)
theorem C6r (s:List UInt8) (n:Nat) (t:Tok) (h:(Q5 s)[n]?=some t):Q5 (s.take t.pos)=(Q5 s).take n:=by
 have:=(D67 _ s 0 n t rfl h).2;rw[Nat.sub_zero]at this;exact this
section
variable {T T':Src}{n:Nat}
end
def bs (s:List UInt8) (l:List Tok):List Nat:=(l.filter (A7x s)).map (·.pos)
theorem C68 (s:List UInt8):∀(l:List Tok) (acc:List Nat),acc≠ []->l.foldl (A1V s) acc=acc++bs s l
 | [],acc,_=>by simp[bs]
 |t::l,acc,h=>by
  rw[A07,C68 s l _ (B7a s acc t),A1V];by_cases hb:A7x s t=true
  ·rw[if_pos (.inl hb),bs,bs,List.filter_cons_of_pos hb];simp
  ·rw[if_neg (by rintro(h1|h1);exact hb h1;exact h h1),bs,bs,List.filter_cons_of_neg hb]
theorem B7s (s:List UInt8) (p:Nat):∀(l:List Tok) (acc:List Nat) (i:Nat),acc.length<=i->(l.foldl (A1V s) acc)[i]?=some p->
  ∃n t,l[n]?=some t/\t.pos=p/\(l.take n).foldl (A1V s) acc=(l.foldl (A1V s) acc).take i/\(l.foldl (A1V s) acc).drop (i+1)=bs s (l.drop (n+1))
 | [],acc,i,h,hp=>by
  rw[List.foldl_nil,A1n h]at hp;cases hp
 |t::l,acc,i,h,hp=>by
  rw[A07]at hp |-;by_cases h2:(A1V s acc t).length<=i
  ·obtain⟨n,u,h3,h4,h5,h6⟩:=B7s s p l _ i h2 hp
   exact⟨n+1,u,by simpa using h3,h4,by rw[A09,A07];exact h5,by rw[h6];simp⟩
  ·have h3:=C2c s acc t
   have h4:i=acc.length:=by omega
   have h5:A1V s acc t=acc++ [t.pos]:=by
    rw[A1V]at h2 |-;split
    ·rfl
    ·rename_i hn
     rw[if_neg hn]at h2;omega
   rw[C68 s l _ (B7a s acc t),h5]at hp |-;refine⟨0,t,rfl,?_,?_,?_⟩
   ·rw[h4,J5,A2B (H7 _)]at hp
    simpa using hp
   ·rw[h4,J5,List.take_left];rfl
   ·rw[h4,List.drop_left' (by simp)];rfl
theorem C7Z:∀(k:Nat) (s:List UInt8) (p n:Nat) (t:Tok),s.length=k->(tk s p)[n]?=some t->p<=t.pos/\(tk s p).drop n=tk (s.drop (t.pos-p)) t.pos:=by
 intro k;induction k using Nat.strongRecOn with
 |_ k ih=>
  intro s p n t hk ht;by_cases hs:s= []
  ·subst hs;rw[C6p]at ht;simp at ht
  have hl:=A6N s hs;have step:=A58 s p hs;have rest:∀(n:Nat),(tk (s.drop (one s).2) (p+(one s).2))[n]?=some t->p<=t.pos/\(tk (s.drop (one s).2) (p+(one s).2)).drop n=tk (s.drop (t.pos-p)) t.pos:=fun n hn=>by
   obtain⟨h1,h2⟩:=ih (s.drop (one s).2).length (by simp;omega) (s.drop (one s).2) (p+(one s).2) n t rfl hn;refine⟨by omega,?_⟩
   rw[h2,A4c,show (one s).2+(t.pos-(p+(one s).2))=t.pos-p by omega]
  by_cases ho:(one s).1>0
  ·rw[if_pos ho]at step
   cases n with
   |zero=>
    rw[step]at ht;simp at ht
    subst ht;simp
   |succ n=>
    rw[step]at ht |-;simpa using rest n (by simpa using ht)
  ·rw[if_neg ho]at step
   rw[step]at ht |-;simpa using rest n (by simpa using ht)
theorem B7t {l:List Nat}{i d x:Nat} (h:l[i]?=some x):l.getD i d=x:=by rw[N9,h];rfl
theorem C2l (s:List UInt8) (n:Nat) (t:Tok) (h:(Q5 s)[n]?=some t):(Q5 s).drop n=(Q5 (s.drop t.pos)).map (shift t.pos):=by
 have h6:=(C7Z s.length s 0 n t rfl h).2;have e:Q5 s=tk s 0:=rfl;rw[e,h6,Nat.sub_zero];have:=B2o t.pos (s.drop t.pos).length (s.drop t.pos) 0;rw[V9]at this;exact this
theorem C6Q {s:List UInt8}{i c:Nat} (h:(A0l s)[i]?=some c):∃(n:Nat) (t:Tok),(Q5 s)[n]?=some t/\t.pos=c:=by
 obtain⟨n,t,h1,h2,_⟩:=B7s s c (Q5 s) [] i (H9 _) h;exact⟨n,t,h1,h2⟩
theorem C5U (s:List UInt8) {i:Nat} (hi:i<(A0l s).length):∃m n,(Q5 (A1v s (A0l s) i)).map (shift ((A0l s).getD i 0))=((Q5 s).take m).drop n:=by
 have hc:(A0l s)[i]?=some (A0l s)[i]:=F9 hi;obtain⟨n,t,h1,h2⟩:=C6Q hc;have hlt:=B0x s hi;rw[A1v,B7t hc, <-h2];rw[B7t hc, <-h2]at hlt;rcases U9 (i+1) (A0l s).length with h3|h3
 ·obtain⟨m,u,h4,h5⟩:=C6Q (F9 h3)
  have e1:(A0l s).getD (i+1) s.length=u.pos:=by rw[B7t (F9 h3),h5]
  rw[e1]at hlt |-;have h6:=C6r s m u h4;have hnm:n<m:=by
   rcases U9 n m with h|h
   ·exact h
   ·exfalso
    have hn:=A0D.1 h1;have hm:=A0D.1 h4;obtain⟨hn1,hn2⟩:=hn;obtain⟨hm1,hm2⟩:=hm;rcases U9 m n with h7|h7
    ·have:=A3y.1 (A4v s) m n hm1 hn1 h7
     rw[hn2,hm2]at this;omega
    ·obtain rfl:n=m:=by omega
     rw[hn2]at hm2;subst hm2;omega
  refine⟨m,n,?_⟩
  have h8:(Q5 (s.take u.pos))[n]?=some t:=by rw[h6,List.getElem?_take_of_lt hnm];exact h1
  rw[<-h6,C2l _ n t h8,List.drop_take]
 ·have e1:(A0l s).getD (i+1) s.length=s.length:=by rw[N9,A1n h3];rfl
  refine⟨(Q5 s).length,n,?_⟩
  rw[e1,V7,C2l s n t h1,A0W (by rw[A0v];omega)]
theorem C9h (s:List UInt8) {i:Nat} (hi:i<(A0l s).length) {t:Tok} (h:t∈Q5 (A1v s (A0l s) i)):shift ((A0l s).getD i 0) t∈Q5 s:=by
 obtain⟨m,n,h1⟩:=C5U s hi;have h2:shift ((A0l s).getD i 0) t∈((Q5 s).take m).drop n:=h1 ▸ A4r h;exact A7D (List.mem_of_mem_drop h2)
def A1j (s:List UInt8) (a:Nat) (n:List UInt8):Prop:=a+n.length<=s.length/\(s.drop a).take n.length=n/\(n≠ []->name n=true/\∃k,(⟨k,n,a⟩:Tok)∈Q5 s)
theorem B1a {s:List UInt8}{a:Nat} (h:a<=s.length):A1j s a []:=⟨by simpa using h,by simp,fun h=>absurd rfl h⟩
def stE (s:List UInt8):PE:=fun k nm _ _ f _=>(k=2\/k=4)->A1j s f nm
def stS (s:List UInt8):PS:=fun k nm a _ _ _ _=>(k=1\/k=2\/k=5)->A1j s a nm
theorem C34 (src:List UInt8) (i:Nat):((⟨Q5 src,src.length⟩:Src).tok i).pos<=src.length:=by
 rw[Src.tok];by_cases h:i<(Q5 src).length
 ·have hk:=A2C src (Q5 src)[i] (O1 h)
  simp only[N9,F9 h,Option.getD_some];exact Nat.le_of_lt hk.pos
 ·simp only[N9,A1n (Nat.le_of_not_lt h),Option.getD_none]
  exact H7 _
theorem B1l (src:List UInt8) (i:Nat) (hn:name ((⟨Q5 src,src.length⟩:Src).tok i).text=true):A1j src ((⟨Q5 src,src.length⟩:Src).tok i).pos ((⟨Q5 src,src.length⟩:Src).tok i).text:=by
 rw[Src.tok]at hn |-;by_cases h:i<(Q5 src).length
 ·have hk:=A2C src (Q5 src)[i] (O1 h)
  simp only[N9,F9 h,Option.getD_some]at hn |-;exact⟨hk.fit,hk.text.symm,fun _=>⟨hn,_,O1 h⟩⟩
 ·simp only[N9,A1n (Nat.le_of_not_lt h),Option.getD_none]
  exact B1a (H7 _)
theorem A7f (src:List UInt8) (s:St):A1j src ((⟨Q5 src,src.length⟩:Src).tok s.i).pos (s.named ⟨Q5 src,src.length⟩).1:=by
 have h0:A1j src ((⟨Q5 src,src.length⟩:Src).tok s.i).pos []:=B1a (C34 src s.i);rw[St.named];split
 ·rename_i hn
  exact B1l src s.i hn
 ·split
  ·exact h0
  ·exact h0
theorem D6Y (src:List UInt8):AtE ⟨Q5 src,src.length⟩ (stE src):=
 ⟨fun h=>(by omega),fun i h=>(by omega),fun i n _ _ h=>(by omega),fun i hn _=>B1l src i hn,fun i j m hn _ _ _=>B1l src i hn,fun i k1 n1 v1 m1 f1 t1 k2 n2 v2 m2 f2 t2 _ _ _ h=>(by omega)⟩
theorem D6Z (src:List UInt8):AtS ⟨Q5 src,src.length⟩ (stS src):=
 ⟨fun h=>(by omega),fun i s lb o j _ _=>A7f src s,fun i j hn _=>B1l src i hn,fun k i j hk h=>(by omega),fun i s j _=>A7f src s⟩
structure ItS (s:List UInt8) (p:Nat) (q:List UInt8) (it:Itm):Prop where
 at_:it.at_=p
 sub:∀a n,A1j q a n->A1j s (p+a) n
 body:A0e (stE q) (stS q) it.body
 params:∀x∈it.params,A1j q x.at_ x.name
 sends:∀x∈it.sends,A1j q x.at_ x.name
 mark:A1j q it.mark it.name
def B0u (s:List UInt8) (it:Itm):Prop:= ∃p q,ItS s p q it
theorem C1b (s:List UInt8) {i:Nat} (hi:i<(A0l s).length) {a:Nat}{n:List UInt8} (h:A1j (A1v s (A0l s) i) a n):A1j s ((A0l s).getD i 0+a) n:=by
 obtain⟨c1,c2⟩:=B0x s hi;obtain⟨h1,h2,h3⟩:=h;have h4:=fun (k:Nat) (h:(⟨k,n,a⟩:Tok)∈Q5 (A1v s (A0l s) i))=>C9h s hi h
 rw[A1v,P9,A0v]at h1;rw[A1v]at h2;refine⟨by omega,?_,fun hn=>?_⟩
 case refine_2=>
  obtain⟨hnm,k,hk⟩:=h3 hn;refine⟨hnm,k,?_⟩
  rw[A2T];exact h4 k hk
 rw[List.drop_take,A41,A4c,A1O (by omega)]at h2;exact h2
theorem C2B (s:List UInt8):∀it∈G8 s,B0u s it:=by
 intro it hit;rw[G8]at hit;split at hit
 ·rw[A3Z,Y7]at hit
  obtain⟨i,hi,rfl⟩:=hit;have hi:=A1P.1 hi;obtain⟨c1,c2⟩:=B0x s hi;have hall:=B4i (src:=A1v s (A0l s) i) ((A0l s).getD i 0:Nat) (D6Y _) (D6Z _) (r:=fun x=>A1j (A1v s (A0l s) i) x.at_ x.name) (t:=fun x=>A1j (A1v s (A0l s) i) x.at_ x.name) (fun s _ _=>A7f _ s) (fun s=>A7f _ s);refine⟨(A0l s).getD i 0,A1v s (A0l s) i,?_⟩
  rw[A1d];refine⟨B6x _ _,fun a n h=>C1b s hi h,hall.body,hall.params,hall.sends,?_⟩
  rcases hall.mark with ⟨h1,h2⟩|⟨st,h1,h2⟩
  ·rw[h1]
   rcases h2 with ⟨j,h2⟩|h2
   ·rw[h2];exact B1a (C34 (A1v s (A0l s) i) j)
   ·rw[h2];exact B1a (H9 _)
  ·rw[h1,h2];exact A7f _ st
 ·cases hit
def D5F (s:List UInt8) (u:Us):Prop:= ∃f d n,u.fr=((f:Nat):Int)/\u.to=((f+n.length:Nat):Int)/\u.df=((d:Nat):Int)/\n≠ []/\A1j s f n/\A1j s d n
def NW.ok (s:List UInt8) (w:NW):Prop:= ∀u∈w.us,D5F s u
def A8y (q:List UInt8) (sc:List Lc):Prop:= ∀l∈sc,l.name≠ []/\A1j q l.at_ l.name
theorem B9j {s:List UInt8}{its:List Itm} (h:∀x∈its,B0u s x) {k:Int}{n:List UInt8}{j:Nat} (hf:A0M its k n=some j):n≠ []/\∃d:Nat,(X7 its j).at_+(X7 its j).mark=(d:Int)/\A1j s d n:=by
 obtain⟨hj,h1,h2,h3,h4⟩:=A3O hf;obtain⟨p,q,hi⟩:=h _ h4;refine⟨h3,p+(X7 its j).mark,by rw[hi.at_];omega,?_⟩
 have:=hi.sub _ _ hi.mark;rw[h2]at this;exact this
section
variable {s q:List UInt8}{p:Nat}{its:List Itm}{sc:List Lc}
theorem B5v (h:A8y q sc) {n:List UInt8}{a:Nat} (hn:n≠ []) (hst:A1j q a n):A8y q (sc++ [⟨n,a⟩]):=fun l hl=>by
 rcases Y5.1 hl with hl|hl
 ·exact h l hl
 ·obtain rfl:=A0q.1 hl
  exact⟨hn,hst⟩
theorem C3O:A8y q []:=fun l h=>by cases h
end
end Go.Sp
namespace Go.Fw
open Go.Sp
open Go
section
variable {P:Program}{N:Nat}{ds:List Deferred}{Q:Exit->Act->World->Prop}{K:Act->World->Prop}{l l':Log}{w w':World}{ops:Array Oper}{os:List Oper}
variable {d:Nat}{ty:TypeId}{pos:String}{af:Array Edge}{g:Option (Nat×Bool)}{t t':TypeId}{x y z:Operand}
theorem B02 {e:TypeId} (hT:P.underlying t=some (.pointer e):=by kernel_rfl) {a:Option Addr}{k0:Value} (hw:X9 ops l ⟨some d,.binOp .neq t x (.const k0) t',ty,pos,af,g⟩=some true:=by rfl) (hN:Nat.blt d N=true:=by rfl)
  (hx:ev l x=some (.pointer a):=by rfl) (hk:k0=.pointer none:=by rfl) (k:WQ P N ds ops w K os ((d,.bool a.isSome)::l)):WQ P N ds ops w K (⟨some d,.binOp .neq t x (.const k0) t',ty,pos,af,g⟩::os) l:=
 A1T rfl hw hN (fun w' hkq c hc=>by
  subst hk;have h1:=run_underlying (P:=P) (w:=w') hT;have e2:c.eval (.const (.pointer none))=.pointer none:=rfl;have h2:(Op.equal t (.pointer a) (.pointer none)).run P w'=.ok a.isNone w':=by
   show (Op.equalIn (9999+1) t (.pointer a) (.pointer none)).run P w'=_
   rw[Op.equalIn];cases a<;>simp[h1]
  cases a<;>simp[execOp,hc.ev hx,e2,eqGuard,binOp,h2]) k
end
theorem RowI.take {I:P8}{e sz n m cp:Nat}{a:Option Addr}{xs:List Value} (h:RowI I e sz (.slice a n cp) n xs) (hmn:m<=n):RowI I e sz (.slice a m cp) m (xs.take (m *sz)):=by
 obtain⟨h0,a',cap,h1,h2,h3⟩:=h;obtain⟨rfl,_,rfl⟩:=Value.slice.inj h1;have hle:m *sz<=n *sz:=A5a _ hmn;refine⟨by rw[P9];omega,a,cp,rfl,by omega,fun hm=>?_⟩
 obtain⟨b,off,c,fr,e1,e2,e3⟩:=h3 (by omega);refine⟨b,off,c,fr,e1,e2,fun j u hj=>e3 j u ?_⟩
 rw[A2M]at hj;split at hj
 ·exact hj
 ·cases hj
section
variable {P:Program}{N:Nat}{ds:List Deferred}{Q:Exit->Act->World->Prop}{l:Log}{w:World}{ops:Array Oper}{os:List Oper}
variable {d:Nat}{ty:TypeId}{pos:String}{af:Array Edge}{g:Option (Nat×Bool)}{t:TypeId}{x y:Operand}{E:Ent}{I:P8}{H:List HItem}
theorem B5a {e:TypeId}{sz by_:Nat} [TySlice P t e] [Elem P e sz by_] {n m cp:Nat}{a:Option Addr}{xs:List Value} (k:RowI I e sz (.slice a m cp) m (xs.take (m *sz))->WL P N ds ops Q os ((d,.slice a m cp)::l) w) (hr:RowI I e sz (.slice a n cp) n xs)
  (hw:X9 ops l ⟨some d,.slice t x none (some y) none,ty,pos,af,g⟩=some true:=by rfl) (hN:Nat.blt d N=true:=by rfl)
  (hx:ev l x=some (.slice a n cp):=by rfl) (hy:ev l y=some (.int .i64 (m:Int)):=by rfl) (hmn:m<=n:=by omega)
   :
  WL P N ds ops Q (⟨some d,.slice t x none (some y) none,ty,pos,af,g⟩::os) l w:=by
 have h2:n<=cp:=by
  obtain⟨_,a',cap,h1,h2,_⟩:=hr;obtain⟨_,_,rfl⟩:=Value.slice.inj h1;exact h2
 refine X6 (w':=w) (v:=.slice a m cp) rfl hw hN (fun c hc=>?_) (k (hr.take hmn))
 obtain⟨inf,z,hinf,_,hs,_,_,_⟩:=Elem.out (P:=P) (e:=e);have h6:=run_underlying (P:=P) (w:=w) (TySlice.out (P:=P) (t:=t));have h7:m<=cp:=by omega
 rcases a with _|⟨b,off,o⟩
 ·simp[execOp,Instr.sliceAt,Instr.slice,Instr.sliceBounds,Instr.sliceBound,hc.ev hx,hc.ev hy,h6,asIntOf,h7,sizeOf,typeInfo,hinf]
 ·simp[execOp,Instr.sliceAt,Instr.slice,Instr.sliceBounds,Instr.sliceBound,hc.ev hx,hc.ev hy,h6,asIntOf,h7,sizeOf,typeInfo,hinf,Addr.add]
end
section
variable {P:Program}{N:Nat}{ds:List Deferred}{Q:Exit->Act->World->Prop}{l:Log}{w:World}{ops:Array Oper}{os:List Oper}
variable {d:Nat}{ty:TypeId}{pos:String}{af:Array Edge}{g:Option (Nat×Bool)}{t:TypeId}{x y:Operand}{E:Ent}{I:P8}{H:List HItem}
theorem B1B {e:TypeId}{sz by_:Nat} [TySlice P t e] [he:Elem P e sz by_] {b:Option Addr}{n c c2:Nat} (hc:n<=c) (ty:TypeId):
  (Builtin.append_ #[t,t] ty #[.slice b n c,.slice none 0 c2]).run P w=.ok (.slice b n c) w:=by
 obtain⟨i,z,hi,hz,hs,hby,hzc,hpos⟩:=he.out;have ht:=run_underlying (P:=P) (w:=w) (TySlice.out (P:=P) (t:=t));cases b<;>simp[Builtin.append_,Builtin.firstCells,Builtin.lenOf,storeCells,ht,sizeOf,typeInfo,hi,hc]
theorem B9C {e:TypeId}{sz by_:Nat} [TySlice P t e] [Elem P e sz by_] {i n m cp:Nat}{v:Value}{a:Option Addr}{xs ys:List Value} (k:∀a' cp' w',Mem E I (H.set i (.row (.slice a' (n+m) cp') e sz (n+m) (xs++ys))) w'->WL P N ds ops Q os ((d,.slice a' (n+m) cp')::l) w') (hm:Mem E I H w)
  (hw:X9 ops l ⟨some d,.call ⟨.builtin .append, #[x,y], #[t,t]⟩,ty,pos,af,g⟩=some true:=by rfl) (hN:Nat.blt d N=true:=by rfl)
  (hx:ev l x=some v:=by rfl) (hy:ev l y=some (.slice a m cp):=by rfl) (hi:H[i]?=some (.row v e sz n xs):=by first|exact gt0|exact gt1|exact gt2|exact gt3|exact gt4|exact gt5|exact gt6) (hr:RowI I e sz (.slice a m cp) m ys) (h1:∀u∈ys,u.oneCell'=true)
  (hlen:(n+m) *by_<=140737488355328:=by omega) (h63:n+m<=9223372036854775807:=by omega)
   :
  WL P N ds ops Q (⟨some d,.call ⟨.builtin .append, #[x,y], #[t,t]⟩,ty,pos,af,g⟩::os) l w:=by
 have ho:=hm.getRow hi;obtain⟨hl0,a',cap,hv,hmc,h3⟩:=hr;obtain⟨rfl,_,rfl⟩:=Value.slice.inj hv;cases a with
 |none=>
  obtain rfl:m=0:=Classical.byContradiction fun h=>by obtain⟨_,_,_,_,e1,_⟩:=h3 (by omega);cases e1
  obtain rfl:ys= []:=A05 (by simpa using hl0);obtain⟨b,c,rfl⟩:=A5f ho;have hnc:=(C04 ho (H7 _)).2.1;have hm':=hm.turn (h':=.row (.slice b (n+0) c) e sz (n+0) (xs++ [])) hi (Kept.refl _ w) (by rw[A2S,J4];exact hm.ok _ (A03 hi)) (.inl rfl);refine X6 (w':=w) (v:=.slice b n c) rfl hw hN (fun c2 hc=>?_) (k b c w hm')
  have hr:=B1B (P:=P) (t:=t) (w:=w) (e:=e) (b:=b) (c2:=cp) hnc ty;simp[execOp,resolve,invoke,builtin,hc.ev hx,hc.ev hy,hr]
 |some ad=>
  obtain⟨v',w',hr,ho',hk,hb⟩:=A85 (P:=P) (t:=t) ho ad m cp ys hl0 (fun j u hj=>by
    have hm0:0<m:=by
     rcases A6I m with h|h
     ·subst h
      rw[A05 (l:=ys) (by simpa using hl0)]at hj;cases hj
     ·exact h
    obtain⟨b,off,c,fr,e1,e2,e3⟩:=h3 hm0;obtain rfl:=Z8 e1;rw[Addr.add_lit];exact A3I (hm.inv _ _ e2) (e3 j u hj)) h1 h63 hlen (H9 _) ty
  obtain⟨a2,c2,rfl⟩:=A5f ho';refine X6 (w':=w') (v:=.slice a2 (n+m) c2) rfl hw hN (fun c3 hc=>?_) (k a2 c2 w' (hm.turn hi hk ho' (hb.imp_right fun ⟨g,h1,h2⟩=>⟨g,h1,h2⟩)))
  simp[execOp,resolve,invoke,builtin,hc.ev hx,hc.ev hy,hr]
end
end Go.Fw
namespace Go.Proofs
open Go.Proofs.Tryz
open Go.Sp
open Go.Fw
section
variable (I0:P8) (C:A5w) (br bm bf deep:Nat)
end
section
variable {I0:P8}{its:List Sp.Itm}{C:A5w}{br bm bf deep:Nat}
end
section
variable {I0:P8}{its:List Sp.Itm}{C:A5w}{br bm bf deep:Nat}
end
section
variable {I0:P8}{its:List Sp.Itm}{bm bf:Nat}{a:Option Addr}{cp:Nat}{xs:List Value}
end
theorem D1y (fi:FuncId) [Own prog fi] (ca:List Value) (F:Sp.Rf->Bool) (l:List Sp.Rf) (hl:l.length<=1000000000) (I:P8) (a:Option Addr) (cp:Nat) (hr:RowI I 106 2 (.slice a l.length cp) l.length (l.flatMap A27))
  (hF:∀I',Le I I'->∀x,CalM prog fi (.agg (A27 x).toArray::ca).toArray I' [] (fun v _ H'=>v=.bool (F x)/\H'= [])):
  CalM prog 139 #[.slice a l.length cp,.func (.func fi) #[] ca.toArray] I [] (fun v _ H'=>v=.int .i64 (match l.findIdx? F with|some j=>(j:Int)|none=> -1)/\H'= []):=by
 refine CalM.of fun w E hm=>enter (N:=19) func139 rfl [(0,.slice a l.length cp),(1,.func (.func fi) #[] ca.toArray)] A1x rfl ?_
 repeat' (first|refine D8 ?_|refine D6 ?_|refine G6 ?_|refine E5 ?_|refine A7 ?_|refine E8 ?_|refine A8 ?_|refine F6 ?_)
 refine U3 (fun x:NI=> [(0,.slice a l.length cp),(1,.func (.func fi) #[] ca.toArray),(7,nt l.length),(8,nt x.k)])
  (fun x w'=>Mem E x.I [] w'/\Le I x.I/\x.k<=l.length/\∀j it',j<x.k->l[j]?=some it'->F it'=false) (fun x=>l.length-x.k) ⟨0,I⟩ (by exact⟨rfl,rfl,rfl,rfl,trivial⟩) ⟨hm,Le.refl _,H9 _,fun j _ hj=>absurd hj (Nat.not_lt_zero j)⟩ ?_
 clear hm;rintro⟨k,I1⟩ w1 ⟨hm,hle1,hk,hno⟩;dsimp only at hm hle1 hk hno |-;by_cases hlt:k<l.length
 ·have hg:l[k]?=some l[k]:=F9 hlt
  have hri:=hr.le hle1;have hc:=hF I1 hle1 l[k];have hgk:l[((k:Nat):Int).toNat]?=some l[k]:=hg;generalize l[k]=x at hg hc hgk;cases hb:F x with
  |true=>
   rw[hb]at hc;repeat' (first|refine Q4 (d:=14) (enc:=A27) (z:=x) ?_ (hr:=hri) (he:=fun _=>rfl) (hz:=hgk);intro bt ot hpt|refine U0 (d:=15) ?_ hm (hp:=hpt)|refine B6z (d:=16) ?_ hm (hp:=pm0) (hc:=by exact hc);clear hm;rintro _ I2 _ _ ⟨rfl,rfl⟩ hle hm|refine D8 ?_|refine D6 ?_|refine J8 ?_|refine E5 ?_|refine A7 ?_|refine H8 ?_|refine O5 ?_|refine E8 ?_|refine A8 ?_|refine F6 ?_|refine G7 ?_|refine J3 ?_|refine J7 ?_|refine H5 ?_|(refine C9 (ht:=fun _=>?_) (hf:=fun _=>?_)<;>try first|contradiction|omega))
   refine⟨I2,[],⟨?_,rfl⟩,hm.left (H:= [])⟩
   have:l.findIdx? F=some k:=by
    rw[A3k];obtain⟨hk,e⟩:=A0D.1 hg;refine⟨hk,by rw[e];exact hb,fun j hj=>?_⟩
    have:=hno j l[j] hj (F9 (by omega));rw[this];simp
   rw[this]
  |false=>
   rw[hb]at hc;repeat' (first|refine Q4 (d:=14) (enc:=A27) (z:=x) ?_ (hr:=hri) (he:=fun _=>rfl) (hz:=hgk);intro bt ot hpt|refine U0 (d:=15) ?_ hm (hp:=hpt)|refine B6z (d:=16) ?_ hm (hp:=pm0) (hc:=by exact hc);clear hm;rintro _ I2 _ _ ⟨rfl,rfl⟩ hle hm|refine D8 ?_|refine D6 ?_|refine J8 ?_|refine O9 ?_|refine E5 ?_|refine A7 ?_|refine D7 ?_|refine E8 ?_|refine A8 ?_|refine F6 ?_|refine G7 ?_|refine F7 ?_|(refine C9 (ht:=fun _=>?_) (hf:=fun _=>?_)<;>try first|contradiction|omega))
   refine L6 (⟨k+1,I2⟩:NI) (by exact⟨rfl,rfl,rfl,rfl,trivial⟩) ⟨hm.left (H:= []),hle1.trans hle,by dsimp only;omega,fun j it' hj hg'=>?_⟩ (by dsimp only;omega)
   rcases U9 j k with hjk|hjk
   ·exact hno j it' hjk hg'
   ·obtain rfl:j=k:=by dsimp only at hj;omega
    rw[hg]at hg';obtain rfl:=Z8 hg';exact hb
 ·obtain rfl:k=l.length:=by omega
  repeat' (first|refine D6 ?_|refine J8 ?_|refine E5 ?_|refine A7 ?_|refine H6 ?_|refine G9 ?_|refine E8 ?_|refine A8 ?_|refine O8 ?_|refine J3 ?_|refine J7 ?_|(refine C9 (ht:=fun _=>?_) (hf:=fun _=>?_)<;>try first|contradiction|omega))
  refine⟨I1,[],⟨?_,rfl⟩,hm.left (H:= [])⟩
  have:l.findIdx? F=none:=by
   rw[A4m];intro x hx;obtain⟨j,hj,rfl⟩:=A2r hx;exact hno j _ hj (F9 hj)
  rw[this]
theorem B7P (fi:FuncId) [Own prog fi] (ca:List Value) (F:Sp.Rf->Bool) (l:List Sp.Rf) (hl:l.length<=1000000000) (I:P8) (a:Option Addr) (cp:Nat) (hr:RowI I 106 2 (.slice a l.length cp) l.length (l.flatMap A27))
  (hF:∀I',Le I I'->∀x,CalM prog fi (.agg (A27 x).toArray::ca).toArray I' [] (fun v _ H'=>v=.bool (F x)/\H'= [])):
  CalM prog 111 #[.slice a l.length cp,.func (.func fi) #[] ca.toArray] I [] (fun v _ H'=>v=.bool (l.any F)/\H'= []):=by
 refine CalM.of fun w E hm=>enter (N:=9) func111 rfl [(0,.slice a l.length cp),(1,.func (.func fi) #[] ca.toArray)] A1x rfl ?_
 have hc:=D1y fi ca F l hl I a cp hr hF;have hany:l.any F=decide (0<=(match l.findIdx? F with|some j=>(j:Int)|none=> -1)):=by
  cases h:l.findIdx? F with
  |some j=>
   obtain⟨hj,e,_⟩:=A3k.1 h;rw[A8Y.2 ⟨l[j],O1 hj,e⟩];exact(decide_eq_true (show (0:Int)<=(j:Int) by omega)).symm
  |none=>
   rw[A4m]at h;rw[B0S.2 (fun x hx=>by rw[h x hx];simp)]
   rfl
 rw[hany];generalize (match l.findIdx? F with|some j=>(j:Int)|none=> -1)=z at hc;repeat' (first|refine F8 (d:=7) ?_ hm (hc:=hc);clear hm;rintro _ I4 _ _ ⟨rfl,rfl⟩ hle hm;have hleI4:=hle;try simp only[G5]at hm|refine D8 ?_|refine D6 ?_|refine A11 ?_|refine E5 ?_|refine A7 ?_|refine E8 ?_|refine A8 ?_|refine J3 ?_|refine J7 ?_)
 exact⟨I4,[],⟨rfl,rfl⟩,hm.left (H:= [])⟩
end Go.Proofs
