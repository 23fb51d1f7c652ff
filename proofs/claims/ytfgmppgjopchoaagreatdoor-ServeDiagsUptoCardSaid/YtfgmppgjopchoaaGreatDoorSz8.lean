/- Own work. -/
import Derived.Test.YtfgmppgjopchoaaGreatDoorSz7
import Derived.Lib.SlicesCompact
set_option maxHeartbeats 64000000
namespace Go.Sp
abbrev Nm:=List UInt8
theorem A6L (a:Nm):¬a<a:=List.lt_irrefl a
theorem B1S {a b c:Nm} (h:a<b) (k:b<c):a<c:=List.lt_trans h k
theorem C6d (a b:Nm):a<b\/a=b\/b<a:=by
 rcases Decidable.em (a<b) with h|h
 ·exact .inl h
 ·rcases Decidable.em (b<a) with k|k
  ·exact .inr (.inr k)
  ·exact .inr (.inl (List.le_antisymm (List.not_lt.1 k) (List.not_lt.1 h)))
theorem C2d {a b:Nm} (h:a<b):¬b<a:=fun k=>A6L a (B1S h k)
def Srt (l:List Nm):Prop:=l.Pairwise (· < ·)
theorem Srt.nil:Srt []:=List.Pairwise.nil
theorem B2T:∀ {a b:List Nm},Srt a->Srt b->(∀x,x∈a↔x∈b)->a=b
 | [],[],_,_,_=>rfl
 | [],y::b,_,_,h=>absurd ((h y).2 Q4) (by simp)
 |x::a,[],_,_,h=>absurd ((h x).1 Q4) (by simp)
 |x::a,y::b,ha,hb,h=>by
  obtain⟨ha1,ha2⟩:=A1z.1 ha;obtain⟨hb1,hb2⟩:=A1z.1 hb;have hx:=(h x).1 Q4;have hy:=(h y).2 Q4;have e:x=y:=by
   rcases U9.1 hx with e|hx
   ·exact e
   ·rcases U9.1 hy with e|hy
    ·exact e.symm
    ·exact absurd (ha1 y hy) (C2d (hb1 x hx))
  subst e
  congr 1
  refine B2T ha2 hb2 (fun z=>⟨fun hz=>?_,fun hz=>?_⟩)
  ·rcases U9.1 ((h z).1 (A0J _ hz)) with e|h1
   ·subst e;exact absurd (ha1 z hz) (A6L z)
   ·exact h1
  ·rcases U9.1 ((h z).2 (A0J _ hz)) with e|h1
   ·subst e;exact absurd (hb1 z hz) (A6L z)
   ·exact h1
def A7W (s:Nm):List Nm->List Nm
 | []=> [s]
 |x::l=>if x<s then x::A7W s l else s::x::l
def A4U (l:List Nm) (s:Nm):List Nm:=if s= []\/s∈l then l else A7W s l
theorem B0Z (s x:Nm):∀(l:List Nm),x∈A7W s l↔x=s\/x∈l
 | []=>by simp[A7W]
 |y::l=>by
  rw[A7W];split
  ·rw[U9,B0Z s x l,U9]
   constructor
   ·rintro(h|h|h)
    ·exact .inr (.inl h)
    ·exact .inl h
    ·exact .inr (.inr h)
   ·rintro(h|h|h)
    ·exact .inr (.inl h)
    ·exact .inl h
    ·exact .inr (.inr h)
  ·simp
theorem B3y {s:Nm}:∀ {l:List Nm},Srt l->s∉l->Srt (A7W s l)
 | [],_,_=>by rw[A7W];exact B0v _ _
 |y::l,h,hs=>by
  obtain⟨h1,h2⟩:=A1z.1 h;rw[A7W];split
  ·rename_i hy
   refine A1z.2 ⟨fun z hz=>?_,B3y h2 (fun hm=>hs (A0J _ hm))⟩
   rcases(B0Z s z l).1 hz with rfl|hz
   ·exact hy
   ·exact h1 z hz
  ·rename_i hy
   have hsy:s<y:=by
    rcases C6d s y with h|h|h
    ·exact h
    ·subst h;exact absurd Q4 hs
    ·exact absurd h hy
   refine A1z.2 ⟨fun z hz=>?_,h⟩
   rcases U9.1 hz with rfl|hz
   ·exact hsy
   ·exact B1S hsy (h1 z hz)
theorem A9a (s:Nm):∀(l:List Nm),(A7W s l).length=l.length+1
 | []=>rfl
 |y::l=>by
  rw[A7W];split
  ·rw[F9,A9a s l,F9]
  ·rfl
theorem C0N {s:Nm}:∀ {l:List Nm}{k:Nat},k<=l.length->(∀j x,j<k->l[j]?=some x->x<s)->(∀x,l[k]?=some x->¬x<s)->A7W s l=l.take k++s::l.drop k
 | [],k,hk,_,_=>by
  obtain rfl:k=0:=by simpa using hk
  rfl
 |y::l,0,_,_,h2=>by
  rw[A7W,if_neg (h2 y rfl)];rfl
 |y::l,k+1,hk,h1,h2=>by
  rw[A7W,if_pos (h1 0 y (by omega) rfl),A1l,List.drop_succ_cons,X4]
  congr 1
  refine C0N (by simpa using hk) (fun j x hj hx=>h1 (j+1) x (by omega) (by simpa using hx)) (fun x hx=>h2 x (by simpa using hx))
theorem B25 (l:List Nm) (s x:Nm):x∈A4U l s↔x∈l\/(x=s/\s≠ []):=by
 rw[A4U];split
 ·rename_i h
  constructor
  ·exact .inl
  ·rintro(h1|⟨rfl,h1⟩)
   ·exact h1
   ·rcases h with h|h
    ·exact absurd h h1
    ·exact h
 ·rename_i h
  rw[B0Z];constructor
  ·rintro(rfl|h1)
   ·exact .inr ⟨rfl,fun e=>h (.inl e)⟩
   ·exact .inl h1
  ·rintro(h1|⟨rfl,_⟩)
   ·exact .inr h1
   ·exact .inl rfl
theorem A8T {l:List Nm} (h:Srt l) (s:Nm):Srt (A4U l s):=by
 rw[A4U];split
 ·exact h
 ·rename_i h1
  exact B3y h (fun hm=>h1 (.inr hm))
theorem B0J (l:List Nm) (s:Nm):l.length<=(A4U l s).length/\(A4U l s).length<=l.length+1:=by
 rw[A4U];split
 ·omega
 ·rw[A9a];omega
theorem B1u {l:List Nm}{s:Nm} (h:s= []\/s∈l):A4U l s=l:=by rw[A4U,if_pos h]
theorem C2X {l:List Nm}{s:Nm} (h:¬(s= []\/s∈l)):A4U l s=A7W s l:=by rw[A4U,if_neg h]
def A5T (a b:List Nm):List Nm:=b.foldl A4U a
theorem B1J:∀(b a:List Nm) (x:Nm),x∈A5T a b↔x∈a\/(x∈b/\x≠ [])
 | [],a,x=>by simp[A5T]
 |y::b,a,x=>by
  show x∈A5T (A4U a y) b↔_
  rw[B1J b,B25,U9];constructor
  ·rintro((h|⟨rfl,h⟩)|⟨h,k⟩)
   ·exact .inl h
   ·exact .inr ⟨.inl rfl,h⟩
   ·exact .inr ⟨.inr h,k⟩
  ·rintro(h|⟨rfl|h,k⟩)
   ·exact .inl (.inl h)
   ·exact .inl (.inr ⟨rfl,k⟩)
   ·exact .inr ⟨h,k⟩
theorem B1K:∀(b:List Nm) {a:List Nm},Srt a->Srt (A5T a b)
 | [],_,h=>h
 |y::b,_,h=>B1K b (A8T h y)
theorem B0s:∀(b:List Nm) {a:List Nm},(∀x∈b,x∈a)->A5T a b=a
 | [],_,_=>rfl
 |y::b,a,h=>by
  show A5T (A4U a y) b=a
  rw[B1u (.inr (h y Q4))];exact B0s b (fun x hx=>h x (A0J _ hx))
theorem B9u {a b:List Nm}{k:Nat}{x:Nm} (h:b[k]?=some x):A5T a (b.take (k+1))=A4U (A5T a (b.take k)) x:=by
 rw[Q9 h,A5T,A5v];rfl
theorem A8r {a u:List Nm} (ha:Srt a) (h:∀x∈a,x∈u):a.length<=u.length:=by
 induction a generalizing u with
 |nil=>exact H7 _
 |cons x a ih=>
  obtain⟨h1,h2⟩:=A1z.1 ha;have hx:=h x Q4;have:=ih (u:=u.erase x) h2 (fun y hy=>(List.mem_erase_of_ne (fun e=>A6L x (by have h2:=h1 y hy;rw[e]at h2;exact h2))).2 (h y (A0J _ hy)));rw[List.length_erase_of_mem hx]at this;have:=List.length_pos_of_mem hx;rw[F9];omega
theorem B8s {a b:List Nm} (ha:Srt a) (hb:Srt b) (h:∀x∈a,x∈b) (hl:b.length<=a.length):a=b:=by
 refine B2T ha hb (fun x=>⟨h x,fun hx=>?_⟩)
 refine Decidable.byContradiction (fun hn=>?_)
 have h1:=A8r (a:=A7W x a) (u:=b) (B3y ha hn) (fun y hy=>by
  rcases(B0Z x y a).1 hy with rfl|hy
  ·exact hx
  ·exact h y hy)
 rw[A9a]at h1;omega
mutual
def exE:Ex->List Nm->List Nm
 | .mk k nm _ args _ _,c=>A5S args (if k=4 then A4U c nm else c)
def A5S:List Ex->List Nm->List Nm
 | [],c=>c
 |e::es,c=>A5S es (exE e c)
 end
mutual
def A9T:Stm->List Nm×List Nm->List Nm×List Nm
 | .mk k nm _ _ _ e thn els _ _,q=>A1G els (A1G thn (if k=5 then A4U q.1 nm else q.1,exE e q.2))
def A1G:List Stm->List Nm×List Nm->List Nm×List Nm
 | [],q=>q
 |x::xs,q=>A1G xs (A9T x q)
 end
def A8i (it:Itm):List Nm×List Nm:=A1G it.body ([],[])
theorem C7x (e:Ex) (c:List Nm):exE e c=A5S e.args (if e.kind=4 then A4U c e.name else c):=by cases e;rw[exE];rfl
theorem C6F (x:Stm) (q:List Nm×List Nm):A9T x q=A1G x.els (A1G x.thn (if x.kind=5 then A4U q.1 x.name else q.1,exE x.e q.2)):=by cases x;rw[A9T];rfl
theorem B7m:∀(l r:List Ex) (c:List Nm),A5S (l++r) c=A5S r (A5S l c)
 | [],r,c=>by rw[P6,A5S]
 |e::l,r,c=>by rw[X4,A5S,A5S,B7m l r]
theorem B5g:∀(l r:List Stm) (q:List Nm×List Nm),A1G (l++r) q=A1G r (A1G l q)
 | [],r,q=>by rw[P6,A1G]
 |e::l,r,q=>by rw[X4,A1G,A1G,B5g l r]
theorem C1F {l:List Ex}{k:Nat}{e:Ex} (h:l[k]?=some e) (c:List Nm):A5S (l.take (k+1)) c=exE e (A5S (l.take k) c):=by
 rw[Q9 h,B7m,A5S,A5S]
theorem B98 {l:List Stm}{k:Nat}{x:Stm} (h:l[k]?=some x) (q:List Nm×List Nm):A1G (l.take (k+1)) q=A9T x (A1G (l.take k) q):=by
 rw[Q9 h,B5g,A1G,A1G]
mutual
theorem B5F:∀(e:Ex) {c:List Nm},Srt c->Srt (exE e c)
 | .mk k nm n args f t,c,h=>by
  rw[exE];refine B3l args ?_
  split
  ·exact A8T h nm
  ·exact h
theorem B3l:∀(l:List Ex) {c:List Nm},Srt c->Srt (A5S l c)
 | [],c,h=>by rw[A5S];exact h
 |e::l,c,h=>by rw[A5S];exact B3l l (B5F e h)
 end
mutual
theorem C4U:∀(x:Stm) {q:List Nm×List Nm},Srt q.1/\Srt q.2->Srt (A9T x q).1/\Srt (A9T x q).2
 | .mk k nm a lb o e thn els f t,q,h=>by
  rw[A9T];refine A6o els (A6o thn ⟨?_,B5F e h.2⟩)
  dsimp only
  split
  ·exact A8T h.1 nm
  ·exact h.1
theorem A6o:∀(l:List Stm) {q:List Nm×List Nm},Srt q.1/\Srt q.2->Srt (A1G l q).1/\Srt (A1G l q).2
 | [],q,h=>by rw[A1G];exact h
 |x::l,q,h=>by rw[A1G];exact A6o l (C4U x h)
 end
mutual
theorem C3s:∀(e:Ex) (c:List Nm),c.length<=(exE e c).length/\(exE e c).length<=c.length+e.cnt
 | .mk k nm n args f t,c=>by
  rw[exE,Ex.cnt];have h1:=B0J c nm;have h2:=B9a args (if k=4 then A4U c nm else c);split at h2<;>rename_i hk
  ·rw[if_pos hk];omega
  ·rw[if_neg hk];omega
theorem B9a:∀(l:List Ex) (c:List Nm),c.length<=(A5S l c).length/\(A5S l c).length<=c.length+A03 l
 | [],c=>by rw[A5S,A03];omega
 |e::l,c=>by
  rw[A5S,A03];have h1:=C3s e c;have h2:=B9a l (exE e c);omega
 end
mutual
theorem C8i:∀(x:Stm) (q:List Nm×List Nm),q.1.length+q.2.length<=(A9T x q).1.length+(A9T x q).2.length/\(A9T x q).1.length+(A9T x q).2.length<=q.1.length+q.2.length+x.cnt
 | .mk k nm a lb o e thn els f t,q=>by
  rw[A9T,Stm.cnt];have h1:=B0J q.1 nm;have h2:=C3s e q.2;have h3:=A9L thn (if k=5 then A4U q.1 nm else q.1,exE e q.2);have h4:=A9L els (A1G thn (if k=5 then A4U q.1 nm else q.1,exE e q.2));generalize A1G els (A1G thn (if k=5 then A4U q.1 nm else q.1,exE e q.2))=r4 at h4 |-;generalize A1G thn (if k=5 then A4U q.1 nm else q.1,exE e q.2)=r3 at h3 h4;split at h3
  ·dsimp only at h3;omega
  ·dsimp only at h3;omega
theorem A9L:∀(l:List Stm) (q:List Nm×List Nm),q.1.length+q.2.length<=(A1G l q).1.length+(A1G l q).2.length/\(A1G l q).1.length+(A1G l q).2.length<=q.1.length+q.2.length+Q5 l
 | [],q=>by rw[A1G,Q5];omega
 |x::l,q=>by
  rw[A1G,Q5];have h1:=C8i x q;have h2:=A9L l (A9T x q);omega
 end
def A7u (its:List Itm) (i:Nat):List Nm:=if (A0h its i).kind=2 then (A8i (A0h its i)).1 else []
def A86 (its:List Itm) (l:List Nm):List Nat:=l.filterMap (A00 its 2)
def A4k (its:List Itm) (i:Nat):List Nat:=if (A0h its i).kind=2 then A86 its (A8i (A0h its i)).2 else []
def A42 (its:List Itm):List (List Nm):=(List.range its.length).map (A7u its)
def B2C (its:List Itm) (rows:List (List Nm)) (i:Nat):List Nm:=(A4k its i).foldl (fun a k=>A5T a (rows.getD k [])) (rows.getD i [])
def A27 (its:List Itm) (rows:List (List Nm)) (i:Nat):List (List Nm):=rows.set i (B2C its rows i)
def A3F (its:List Itm) (rows:List (List Nm)):List (List Nm):=(List.range its.length).foldl (A27 its) rows
def A4O (its:List Itm):Nat->List (List Nm)->List (List Nm)
 |0,r=>r
 |n+1,r=>if A3F its r=r then r else A4O its n (A3F its r)
def A7J (r:List (List Nm)):Nat:=(r.map List.length).sum
def A3D (its:List Itm):List Nm:=(A42 its).flatten
def A8U (its:List Itm):List (List Nm):=A4O its (its.length *(A3D its).length+1) (A42 its)
def B0g (its:List Itm) (i:Nat):List Nm:=(A8U its).getD i []
structure RowsE (its:List Itm) (r:List (List Nm)):Prop where
 len:r.length=its.length
 srt:∀a∈r,Srt a
 of:∀a∈r,∀x∈a,x∈A3D its
 ne:∀a∈r,[]∉a
def LeE (r s:List (List Nm)):Prop:=r.length=s.length/\∀i x,x∈r.getD i []->x∈s.getD i []
theorem LeE.refl (r:List (List Nm)):LeE r r:=⟨rfl,fun _ _ h=>h⟩
theorem LeE.trans {r s t:List (List Nm)} (h:LeE r s) (k:LeE s t):LeE r t:=⟨h.1.trans k.1,fun i x hx=>k.2 i x (h.2 i x hx)⟩
theorem B7C {α:Type}{l:List α}{i:Nat}{d:α} (h:i<l.length):l.getD i d∈l:=by
 rw[O1,G6 h];exact O5 h
theorem A7s {α:Type}{l:List α}{i:Nat}{d:α} (h:l.length<=i):l.getD i d=d:=by
 rw[O1,A09 h];rfl
theorem A5K {α:Type}{l:List α}{i:Nat}{d a:α} (h:i<l.length):(l.set i a).getD i d=a:=by
 rw[O1,A5q h];rfl
theorem getD_set_ne {α:Type}{l:List α}{i j:Nat}{d a:α} (h:i≠j):(l.set i a).getD j d=l.getD j d:=by
 rw[O1,A3W h,O1]
mutual
theorem C3t:∀(e:Ex) {c:List Nm},[]∉c->[]∉exE e c
 | .mk k nm n args f t,c,h=>by
  rw[exE];refine C0I args ?_
  split
  ·rw[B25];rintro(h1|⟨h1,h2⟩)
   ·exact h h1
   ·exact h2 h1.symm
  ·exact h
theorem C0I:∀(l:List Ex) {c:List Nm},[]∉c->[]∉A5S l c
 | [],c,h=>by rw[A5S];exact h
 |e::l,c,h=>by rw[A5S];exact C0I l (C3t e h)
 end
mutual
theorem C6G:∀(x:Stm) {q:List Nm×List Nm},[]∉q.1/\[]∉q.2->[]∉(A9T x q).1/\[]∉(A9T x q).2
 | .mk k nm a lb o e thn els f t,q,h=>by
  rw[A9T];refine B1g els (B1g thn ⟨?_,C3t e h.2⟩)
  dsimp only
  split
  ·rw[B25];rintro(h1|⟨h1,h2⟩)
   ·exact h.1 h1
   ·exact h2 h1.symm
  ·exact h.1
theorem B1g:∀(l:List Stm) {q:List Nm×List Nm},[]∉q.1/\[]∉q.2->[]∉(A1G l q).1/\[]∉(A1G l q).2
 | [],q,h=>by rw[A1G];exact h
 |x::l,q,h=>by rw[A1G];exact B1g l (C6G x h)
 end
theorem C6i (it:Itm): []∉(A8i it).1/\[]∉(A8i it).2:=B1g _ ⟨by simp,by simp⟩
theorem C4s (it:Itm):Srt (A8i it).1/\Srt (A8i it).2:=A6o _ ⟨Srt.nil,Srt.nil⟩
theorem B0q (its:List Itm):(A42 its).length=its.length:=by rw[A42,A0g,List.length_range]
theorem B3x (its:List Itm) {i:Nat} (h:i<its.length):(A42 its).getD i []=A7u its i:=by
 rw[A42,O1,A0e,List.getElem?_range h];rfl
theorem B0y (its:List Itm):RowsE its (A42 its):=by
 have key:∀a∈A42 its,∃i,a=A7u its i:=fun a ha=>by
  obtain⟨i,_,rfl⟩:=A0s.1 ha;exact⟨i,rfl⟩
 refine⟨B0q its,fun a ha=>?_,fun a ha x hx=>List.mem_flatten.2 ⟨a,ha,hx⟩,fun a ha=>?_⟩
 ·obtain⟨i,rfl⟩:=key a ha
  rw[A7u];split
  ·exact(C4s _).1
  ·exact Srt.nil
 ·obtain⟨i,rfl⟩:=key a ha
  rw[A7u];split
  ·exact(C6i _).1
  ·simp
theorem A9G (rows:List (List Nm)):∀(l:List Nat) (a:List Nm),Srt a->(∀x,x∈l.foldl (fun a k=>A5T a (rows.getD k [])) a↔x∈a\/∃k∈l,x∈rows.getD k []/\x≠ [])/\Srt (l.foldl (fun a k=>A5T a (rows.getD k [])) a)
 | [],a,h=>⟨fun x=>by simp,h⟩
 |k::l,a,h=>by
  rw[A1g];obtain⟨h1,h2⟩:=A9G rows l (A5T a (rows.getD k [])) (B1K _ h);refine⟨fun x=>?_,h2⟩
  rw[h1,B1J];constructor
  ·rintro((h|h)|⟨j,hj,h⟩)
   ·exact .inl h
   ·exact .inr ⟨k,Q4,h⟩
   ·exact .inr ⟨j,A0J _ hj,h⟩
  ·rintro(h|⟨j,hj,h⟩)
   ·exact .inl (.inl h)
   ·rcases U9.1 hj with rfl|hj
    ·exact .inl (.inr h)
    ·exact .inr ⟨j,hj,h⟩
theorem RowsE.getD {its:List Itm}{r:List (List Nm)} (h:RowsE its r) (i:Nat):Srt (r.getD i [])/\(∀x∈r.getD i [],x∈A3D its)/\[]∉r.getD i []:=by
 rcases U0 i r.length with hi|hi
 ·have:=B7C (d:= []) hi
  exact⟨h.srt _ this,h.of _ this,h.ne _ this⟩
 ·rw[A7s hi];exact⟨Srt.nil,by simp,by simp⟩
theorem A7F {its:List Itm}{r:List (List Nm)} (h:RowsE its r) (i:Nat) (x:Nm):x∈B2C its r i↔x∈r.getD i []\/∃k∈A4k its i,x∈r.getD k []:=by
 rw[B2C,(A9G r (A4k its i) (r.getD i []) (h.getD i).1).1];constructor
 ·rintro(h1|⟨k,hk,h1,_⟩)
  ·exact .inl h1
  ·exact .inr ⟨k,hk,h1⟩
 ·rintro(h1|⟨k,hk,h1⟩)
  ·exact .inl h1
  ·exact .inr ⟨k,hk,h1,fun e=>(h.getD k).2.2 (by rw[<-e];exact h1)⟩
theorem RowsE.step {its:List Itm}{r:List (List Nm)} (h:RowsE its r) (i:Nat):RowsE its (A27 its r i)/\LeE r (A27 its r i):=by
 have hs:Srt (B2C its r i):=(A9G r (A4k its i) (r.getD i []) (h.getD i).1).2;have hm:∀a∈A27 its r i,a∈r\/a=B2C its r i:=fun a ha=>List.mem_or_eq_of_mem_set ha
 refine⟨⟨by rw[A27,A2n,h.len],fun a ha=>?_,fun a ha x hx=>?_,fun a ha hx=>?_⟩,⟨by rw[A27,A2n],fun j x hx=>?_⟩⟩
 ·rcases hm a ha with h1|rfl
  ·exact h.srt a h1
  ·exact hs
 ·rcases hm a ha with h1|rfl
  ·exact h.of a h1 x hx
  ·rcases(A7F h i x).1 hx with h1|⟨k,_,h1⟩
   ·exact(h.getD i).2.1 x h1
   ·exact(h.getD k).2.1 x h1
 ·rcases hm a ha with h1|rfl
  ·exact h.ne a h1 hx
  ·rcases(A7F h i []).1 hx with h1|⟨k,_,h1⟩
   ·exact(h.getD i).2.2 h1
   ·exact(h.getD k).2.2 h1
 ·by_cases e:i=j
  ·subst e
   rcases U0 i r.length with hi|hi
   ·rw[A27,A5K hi];exact(A7F h i x).2 (.inl hx)
   ·rw[A7s hi]at hx;cases hx
  ·rw[A27,getD_set_ne e];exact hx
theorem RowsE.folds {its:List Itm}:∀(l:List Nat) {r:List (List Nm)},RowsE its r->RowsE its (l.foldl (A27 its) r)/\LeE r (l.foldl (A27 its) r)
 | [],r,h=>⟨h,LeE.refl r⟩
 |i::l,r,h=>by
  obtain⟨h1,h2⟩:=h.step i;obtain⟨h3,h4⟩:=RowsE.folds l h1;exact⟨h3,h2.trans h4⟩
theorem RowsE.round {its:List Itm}{r:List (List Nm)} (h:RowsE its r):RowsE its (A3F its r)/\LeE r (A3F its r):=h.folds _
theorem B7F {its:List Itm}{r s:List (List Nm)} (hr:RowsE its r) (hs:RowsE its s) (h:LeE r s) (k:LeE s r):r=s:=by
 refine A3Y (fun i=>?_)
 rcases U0 i r.length with hi|hi
 ·have h1:=B2T (hr.getD i).1 (hs.getD i).1 (fun x=>⟨h.2 i x,k.2 i x⟩)
  rw[G6 hi,G6 (by rw[<-h.1];exact hi)];rw[O1,G6 hi,O1,G6 (by rw[<-h.1];exact hi)]at h1;exact congrArg some h1
 ·rw[A09 hi,A09 (by rw[<-h.1];exact hi)]
theorem B4P {its:List Itm}:∀(l:List Nat) {r:List (List Nm)},RowsE its r->l.foldl (A27 its) r=r->∀i∈l,A27 its r i=r
 | [],_,_,_,i,hi=>by cases hi
 |j::l,r,h,e,i,hi=>by
  rw[A1g]at e;obtain⟨h1,h2⟩:=h.step j;obtain⟨h3,h4⟩:=RowsE.folds l h1;rw[e]at h4;have hj:A27 its r j=r:=(B7F h h1 h2 h4).symm;rcases U9.1 hi with rfl|hi
  ·exact hj
  ·rw[hj]at e;exact B4P l h e i hi
theorem C1i:∀ {r s:List (List Nm)},(∀a∈r,Srt a)->(∀a∈s,Srt a)->LeE r s->A7J r<=A7J s/\(A7J s<=A7J r->r=s)
 | [],[],_,_,_=>⟨G8 _,fun _=>rfl⟩
 | [],b::s,_,_,h=>by have:=h.1;simp at this
 |a::r,[],_,_,h=>by have:=h.1;simp at this
 |a::r,b::s,hr,hs,h=>by
  have h1:∀x∈a,x∈b:=fun x hx=>h.2 0 x hx
  have ha:=hr a Q4;have hb:=hs b Q4;have h2:=A8r ha h1;obtain⟨h3,h4⟩:=C1i (r:=r) (s:=s) (fun x hx=>hr x (A0J _ hx)) (fun x hx=>hs x (A0J _ hx)) ⟨by simpa using h.1,fun i x hx=>h.2 (i+1) x hx⟩;have e1:A7J (a::r)=a.length+A7J r:=rfl;have e2:A7J (b::s)=b.length+A7J s:=rfl;refine⟨by omega,fun hl=>?_⟩
  rw[B8s ha hb h1 (by omega),h4 (by omega)]
theorem B1j {its:List Itm}{r:List (List Nm)} (h:RowsE its r):A7J r<=its.length *(A3D its).length:=by
 rw[<-h.len];have key:∀(l:List (List Nm)),(∀a∈l,a∈r)->A7J l<=l.length *(A3D its).length:=by
  intro l;induction l with
  |nil=>intro _;simp[A7J]
  |cons a l ih=>
   intro hl;have h1:=ih (fun x hx=>hl x (A0J _ hx));have ha:=hl a Q4;have h2:=A8r (h.srt a ha) (h.of a ha);have e1:A7J (a::l)=a.length+A7J l:=rfl;rw[e1,F9,A1V];omega
 exact key r (fun _ h=>h)
abbrev B13 (its:List Itm):Nat:=its.length *(A3D its).length
theorem A9B {its:List Itm}{r:List (List Nm)} (h:A3F its r=r):∀n,A4O its n r=r
 |0=>rfl
 |n+1=>by rw[A4O,if_pos h]
theorem A8n {its:List Itm}{r:List (List Nm)} (h:RowsE its r) (hn:A3F its r≠r):A7J r<A7J (A3F its r):=by
 obtain⟨h1,h2⟩:=h.round;obtain⟨h3,h4⟩:=C1i h.srt h1.srt h2;rcases U0 (A7J r) (A7J (A3F its r)) with h5|h5
 ·exact h5
 ·exact absurd (h4 h5).symm hn
theorem B03 {its:List Itm}:∀(d:Nat) {r:List (List Nm)},RowsE its r->B13 its-A7J r<=d->∀n m,d<n->d<m->A4O its n r=A4O its m r
 |d,r,h,hd,n,m,hn,hm=>by
  by_cases e:A3F its r=r
  ·rw[A9B e,A9B e]
  ·have h1:=A8n h e
   have h2:=B1j h.round.1;have e0:B13 its=its.length *(A3D its).length:=rfl;obtain⟨n,rfl⟩:∃k,n=k+1:=⟨n-1,by omega⟩;obtain⟨m,rfl⟩:∃k,m=k+1:=⟨m-1,by omega⟩;rw[A4O,if_neg e,A4O,if_neg e]
   match d,hd with
   |0,hd=>omega
   |d+1,hd=>exact B03 d h.round.1 (by omega) n m (by omega) (by omega)
theorem B9r {its:List Itm}{r:List (List Nm)} (h:RowsE its r) (e:A3F its r≠r):A4O its (B13 its+1) r=A4O its (B13 its+1) (A3F its r):=by
 have h1:=A8n h e;have h2:=B1j h.round.1;have e0:B13 its=its.length *(A3D its).length:=rfl;rw[A4O,if_neg e];exact B03 (B13 its-1) h.round.1 (by omega) _ _ (by omega) (by omega)
theorem B4W {its:List Itm}:∀(d:Nat) {r:List (List Nm)},RowsE its r->B13 its-A7J r<=d->∀n,d<n->A3F its (A4O its n r)=A4O its n r/\RowsE its (A4O its n r)/\LeE r (A4O its n r)
 |d,r,h,hd,n,hn=>by
  by_cases e:A3F its r=r
  ·rw[A9B e];exact⟨e,h,LeE.refl r⟩
  ·have h1:=A8n h e
   have h2:=B1j h.round.1;have e0:B13 its=its.length *(A3D its).length:=rfl;obtain⟨n,rfl⟩:∃k,n=k+1:=⟨n-1,by omega⟩;rw[A4O,if_neg e]
   match d,hd with
   |0,hd=>omega
   |d+1,hd=>
    obtain⟨h3,h4,h5⟩:=B4W d h.round.1 (by omega) n (by omega);exact⟨h3,h4,h.round.2.trans h5⟩
theorem C2Z (its:List Itm):A8U its=A4O its (B13 its+1) (A42 its):=rfl
theorem A7o (its:List Itm):A3F its (A8U its)=A8U its/\RowsE its (A8U its)/\LeE (A42 its) (A8U its):=
 B4W (B13 its) (B0y its) (Nat.sub_le _ _) _ (Nat.lt_succ_self _)
inductive Rch (its:List Itm):Nat->Nat->Prop
 |refl (i:Nat):Rch its i i
 |step {i k j:Nat} (h:k∈A4k its i) (r:Rch its k j):Rch its i j
theorem B4x {its:List Itm}{i k:Nat} (h:k∈A4k its i):k<its.length/\(A0h its k).kind=2:=by
 rw[A4k]at h;split at h
 ·obtain⟨n,_,hn⟩:=A6F.1 h
  have:=A2D hn;exact⟨this.1,by omega⟩
 ·cases h
def A4i (its:List Itm) (r:List (List Nm)):Prop:= ∀i x,x∈r.getD i []->∃k,Rch its i k/\x∈A7u its k
theorem A4i.init (its:List Itm):A4i its (A42 its):=fun i x hx=>by
 rcases U0 i its.length with hi|hi
 ·rw[B3x its hi]at hx;exact⟨i,.refl i,hx⟩
 ·rw[A7s (by rw[B0q];exact hi)]at hx;cases hx
theorem A4i.step {its:List Itm}{r:List (List Nm)} (hr:RowsE its r) (h:A4i its r) (i:Nat):A4i its (A27 its r i):=fun j x hx=>by
 by_cases e:i=j
 ·subst e
  rcases U0 i r.length with hi|hi
  ·rw[A27,A5K hi]at hx
   rcases(A7F hr i x).1 hx with h1|⟨k,hk,h1⟩
   ·exact h i x h1
   ·obtain⟨m,hm,hx⟩:=h k x h1
    exact⟨m,.step hk hm,hx⟩
  ·rw[A27,A7s (by rw[A2n];exact hi)]at hx;cases hx
 ·rw[A27,getD_set_ne e]at hx;exact h j x hx
theorem A4i.folds {its:List Itm}:∀(l:List Nat) {r:List (List Nm)},RowsE its r->A4i its r->A4i its (l.foldl (A27 its) r)
 | [],_,_,h=>h
 |i::l,_,hr,h=>A4i.folds l (hr.step i).1 (h.step hr i)
theorem A4i.iter {its:List Itm}:∀(n:Nat) {r:List (List Nm)},RowsE its r->A4i its r->A4i its (A4O its n r)
 |0,_,_,h=>h
 |n+1,r,hr,h=>by
  rw[A4O];split
  ·exact h
  ·exact A4i.iter n hr.round.1 (A4i.folds _ hr h)
theorem B6N {its:List Itm}{i k:Nat} (h:k∈A4k its i) {x:Nm} (hx:x∈B0g its k):x∈B0g its i:=by
 obtain⟨h1,h2,_⟩:=A7o its;rcases U0 i its.length with hi|hi
 ·have h3:=B4P (List.range its.length) h2 h1 i (A1U.2 hi)
  have h4:x∈(A27 its (A8U its) i).getD i []:=by
   rw[A27,A5K (by rw[h2.len];exact hi)];exact(A7F h2 i x).2 (.inr ⟨k,h,hx⟩)
  rw[h3]at h4;exact h4
 ·rw[A4k,A0h,A7s hi]at h
  cases h
theorem C2Y {its:List Itm}{i:Nat} (hi:i<its.length) (x:Nm):x∈B0g its i↔ ∃k,Rch its i k/\x∈A7u its k:=by
 constructor
 ·exact fun h=>A4i.iter _ (B0y its) (A4i.init its) i x h
 ·rintro⟨k,hk,hx⟩
  induction hk with
  |refl i=>exact(A7o its).2.2.2 i x (by rw[B3x its hi];exact hx)
  |step h _ ih=>exact B6N h (ih (B4x h).1 hx)
theorem B6P (its:List Itm) (i:Nat):Srt (B0g its i):=((A7o its).2.1.getD i).1
theorem B4s (its:List Itm):(A8U its).length=its.length:=(A7o its).2.1.len
theorem C1u {its:List Itm}{i:Nat} (h:(A0h its i).kind≠2):B0g its i= []:=by
 rcases U0 i its.length with hi|hi
 ·refine B2T (B6P its i) Srt.nil (fun x=>⟨fun hx=>?_,fun hx=>by cases hx⟩)
  obtain⟨k,hk,hx⟩:=(C2Y hi x).1 hx;cases hk with
  |refl=>rw[A7u,if_neg h]at hx;exact hx
  |step h1 _=>rw[A4k,if_neg h]at h1;cases h1
 ·rw[B0g,A7s (by rw[B4s];exact hi)]
def B1e (it:Itm) (c:Nm):Bool:=it.sends.any (fun x=>decide (x.name=c))
def A9W (c:Nm):Dg:=⟨0,0,10,c⟩
def B0k (its:List Itm) (i:Nat):List Dg:=((B0g its i).filter (fun c=> !B1e (A0h its i) c)).map A9W
structure DI where
 fr:Int
 to:Int
 err:Nat
 name:List UInt8
 deriving DecidableEq
def A31 (b:Int) (d:Dg):DI:=⟨w64 (d.fr+b),w64 (d.to+b),d.err,d.name⟩
def B92 (its:List Itm) (i:Nat):List Dg:=(A0h its i).diags++((A20 its i).ds++(B0k its i++(A24 its i (-1)).ds))
def B3j (its:List Itm) (i:Nat):List DI:=(B92 its i).map (A31 (A0h its i).at_)
def A6s (its:List Itm) (k:Nat):List DI:=(List.range k).flatMap (B3j its)
def A3K (its:List Itm):List DI:=A6s its its.length
theorem B26 (its:List Itm) (k:Nat):A6s its (k+1)=A6s its k++B3j its k:=by
 rw[A6s,A1C,Y1, <-A6s];simp
theorem B6M {its:List Itm} (h:A3K its= []) {i:Nat} (hi:i<its.length):(A0h its i).diags= []/\(A20 its i).ds= []/\B0k its i= []/\(A24 its i (-1)).ds= []:=by
 rw[A3K,A6s,List.flatMap_eq_nil_iff]at h;have:=h i (A1U.2 hi);rw[B3j,List.map_eq_nil_iff,B92]at this;simpa using this
def B94 (its:List Itm) (nm:List UInt8) (args:List Int):Rn:=
 if A3K its≠ [] then ⟨[],0,13,0⟩ else
 match A00 its 2 nm with
 |none=>⟨[],0,6,0⟩
 |some j=>if args.length≠(A0h its j).params.length then ⟨[],0,5,0⟩ else
  if (A59 its 40 nm args MR0).2.err≠0 then ⟨[],0,(A59 its 40 nm args MR0).2.err,0⟩
  else ⟨(A59 its 40 nm args MR0).2.ev,(A59 its 40 nm args MR0).1,0,(A59 its 40 nm args MR0).2.steps⟩
def B3R (s:List UInt8):List (List UInt8):=(List.range (Y2 s).length).map (A1e s (Y2 s))
def C5x (s t:List UInt8) (j:Nat):Bool:= !(B3R s).contains (A1e t (Y2 t) j)
def fresh (s t:List UInt8) (k:Nat):Nat:=(List.range k).countP (C5x s t)
def A3o (s t:List UInt8):Nat:=if Y3 t=0 then fresh s t (Y2 t).length else 0
theorem B9i (s t:List UInt8) (k:Nat):fresh s t (k+1)=fresh s t k+if C5x s t k then 1 else 0:=by
 rw[fresh,A1C,List.countP_append, <-fresh,List.countP_singleton]
theorem C3L (s t:List UInt8) (k:Nat):fresh s t k<=k:=by
 have:=List.countP_le_length (p:=C5x s t) (l:=List.range k)
 rwa [List.length_range]at this
theorem C3T (T:Src) (a b:Int) (n:Nat):A45 T b n=({ (A45 T a n).1 with at_:=b},(A45 T a n).2):=by
 simp only[A45];split
 ·rfl
 ·split<;>rfl
theorem B9q (src:List UInt8) (a b:Int):item src b= { item src a with at_:=b}:=by
 rw[A7Y,A7Y,C3T _ a b,B4V,B4V]
theorem C3i (s:List UInt8) (f u:Int) (x:List UInt8):(B1z s f u x).length<=4000:=by
 rw[B1z];split
 ·rename_i h
  have h1:¬(f<0\/u<f\/u>s.length):=fun h2=>by rw[A5O,if_pos h2]at h;cases h
  have h2:¬(x.length>4000\/(s.length:Int)-(u-f)+x.length>4000):=fun h2=>by rw[A5O,if_neg h1,if_pos h2]at h;cases h
  simp only[E9,P8,A0p];omega
 ·simp
inductive Well (T:Src):St->St->Prop where
 |refl (s:St):Well T s s
 |bad {s r:St} (e:Nat):Well T s r->Well T s (r.bad T e)
 |next {s r:St}:Well T s r->(r.ds≠ []\/(T.tok r.i).kind≠4)->Well T s r.next
section
variable {T:Src}
theorem C5D (f d:Nat) (s:St) (h:name (T.tok s.i).text=true):(A23 T (f+1) d s).2.ds≠ []\/s.i+1<=(A23 T (f+1) d s).2.i:=by
 have hl:=A2h (A6e h);rw[A23];dsimp only
 rw[if_neg (by omega)];split
 ·exact .inl (A2A _ _ _)
 ·split
  ·split
   ·exact .inl (A2A _ _ _)
   ·exact .inr (G8 _)
  ·split
   ·have:=(((A3x T f).2.2.1 (d+1) 1 s.next).trans (A0i T _ [41])).on
    exact .inr this
   ·split
    ·exact .inl (A2A _ _ _)
    ·split
     ·exact .inr (G8 _)
     ·have:=(((A0H T s.next).trans ((A3x T f).2.1 (d+1) [] s.next.next)).trans (A0i T _ [41])).on
      exact .inr this
theorem C8m (f d:Nat) (s:St):(stm T (f+3) d s).2.ds≠ []\/s.i+1<=(stm T (f+3) d s).2.i:=by
 have hE:=(A3x T (f+2)).2.2.1;have hB:=(A6T T (f+2)).1;rw[stm];dsimp only
 split
 ·right
  have g2:Runs T (s.next.named T).2 (if (!T.is (s.next.named T).2.i [58])=true then ((0:Nat),(s.next.named T).2) else lab T (s.next.named T).2.next).2:=by
   split
   ·exact .refl _
   ·exact(A0H T _).trans (A5b T _)
  exact(((((A2W T s.next).trans g2).trans (A0i T _ _)).trans (hE _ _ _)).trans (A0i T _ _)).on
 ·split
  ·right
   have g1:=(hE d 1 s.next).trans (hB d (A0R T (f+2) d 1 s.next).2);split
   ·exact((Runs.next g1).trans (hB d _)).on
   ·exact g1.on
  ·split
   ·exact .inr ((hE d 1 s.next).trans (hB d (A0R T (f+2) d 1 s.next).2)).on
   ·split
    ·exact .inr (((A2W T s.next).trans (hE d 1 _)).trans (A0i T _ _)).on
    ·split
     ·exact .inr ((hE d 1 s.next).trans (A0i T _ _)).on
     ·split
      ·rename_i hn
       split
       ·exact .inr (((A0H T s.next).trans (hE d 1 _)).trans (A0i T _ [59])).on
       ·have ha:=C5D (T:=T) f d s hn
        have hr:Runs T (A23 T (f+1) d s).2 ((A0R T (f+2) d 1 s).2.need T [59]).2:=by
         rw[A0R];exact((A3x T (f+1)).2.2.2 d 1 _ _).trans (A0i T _ _)
        rcases ha with ha|ha
        ·exact .inl (hr.told ha)
        ·exact .inr (A0O ha hr.on)
      ·exact .inl (A2A _ _ _)
end
def shift (n:Nat) (t:Tok):Tok:=⟨t.kind,t.text,t.pos+n⟩
def tk (s:List UInt8) (p:Nat):List Tok:=A8C s.length s p
theorem C0l (p:Nat):tk [] p= []:=rfl
theorem B6t (s:List UInt8) (p:Nat) (hs:s≠ []):tk s p=(if (one s).1>0 then [⟨(one s).1,s.take (one s).2,p⟩] else [])++tk (s.drop (one s).2) (p+(one s).2):=by
 have hl:=A6M s hs;obtain⟨f,hf⟩:∃f,s.length=f+1:=⟨s.length-1,by omega⟩;have e:A8C f (s.drop (one s).2) (p+(one s).2)=tk (s.drop (one s).2) (p+(one s).2):=B12 _ _ _ _ (by simp;omega) (by simp);unfold tk at e |-
 rw[hf];simp only[A8C,hs,if_false];rw[e];split<;>rfl
theorem B36 (n:Nat):∀(f:Nat) (s:List UInt8) (p:Nat),A8C f s (p+n)=(A8C f s p).map (shift n)
 |0,_,_=>rfl
 |f+1,s,p=>by
  simp only[A8C];split
  ·rfl
  ·split
   ·rw[X7, <-B36 n f,show p+n+(one s).2=p+(one s).2+n by omega];rfl
   ·rw[<-B36 n f,show p+n+(one s).2=p+(one s).2+n by omega]
theorem C1k (F:UInt8->Bool):∀(r:List UInt8) (m:Nat),(r.takeWhile F).length<=m->(r.take m).takeWhile F=r.takeWhile F
 | [],m,_=>by simp
 |c::r,0,h=>by
  rw[A5s]at h |-;split at h
  ·simp at h
  ·rename_i hc;simp[hc]
 |c::r,m+1,h=>by
  rw[A1l,A5s,A5s];rw[A5s]at h;split at h
  ·rename_i hc
   rw[if_pos hc,if_pos hc,C1k F r m (by simpa using h)]
  ·rename_i hc;rw[if_neg hc,if_neg hc]
theorem C4l (s:List UInt8) (m:Nat) (hs:s≠ []) (h:(one s).2<=m):one (s.take m)=one s:=by
 cases s with
 |nil=>exact absurd rfl hs
 |cons c r=>
  have hm:1<=m:=A0O (A6M (c::r) hs).1 h;obtain⟨m,rfl⟩:∃k,m=k+1:=⟨m-1,by omega⟩;rw[A1l];have key:∀F:UInt8->Bool,run F r<=m+1->run F (r.take m)=run F r:=fun F hF=>by
   unfold run at hF |-
   rw[C1k F r m (by omega)]
  simp only[one]at h |-;by_cases h1:A9z c=true
  ·rw[if_pos h1]at h |-;rw[key _ h,if_pos h1]
  ·rw[if_neg h1]at h |-;rw[if_neg h1]
   by_cases h2:c.toNat=35
   ·rw[if_pos h2]at h |-;rw[key _ h,if_pos h2]
   ·rw[if_neg h2]at h |-;rw[if_neg h2]
    by_cases h3:A44 c=true
    ·rw[if_pos h3]at h |-;rw[key _ h,if_pos h3]
    ·rw[if_neg h3]at h |-;rw[if_neg h3]
     by_cases h4:A43 c=true
     ·rw[if_pos h4]at h |-;rw[key _ h,if_pos h4]
     ·rw[if_neg h4]at h |-;rw[if_neg h4]
theorem C8o:∀(k:Nat) (s:List UInt8) (p n:Nat) (t:Tok),s.length=k->(tk s p)[n]?=some t->p<=t.pos/\tk (s.take (t.pos-p)) p=(tk s p).take n:=by
 intro k;induction k using Nat.strongRecOn with
 |_ k ih=>
  intro s p n t hk ht;by_cases hs:s= []
  ·subst hs;rw[C0l]at ht;simp at ht
  have hl:=A6M s hs;have step:=B6t s p hs;have rest:∀(n:Nat),(tk (s.drop (one s).2) (p+(one s).2))[n]?=some t->p<=t.pos/\tk (s.take (t.pos-p)) p=(if (one s).1>0 then [⟨(one s).1,s.take (one s).2,p⟩] else [])++(tk (s.drop (one s).2) (p+(one s).2)).take n:=fun n hn=>by
   obtain⟨h1,h2⟩:=ih (s.drop (one s).2).length (by simp;omega) (s.drop (one s).2) (p+(one s).2) n t rfl hn;refine⟨by omega,?_⟩
   have hm:(one s).2<=t.pos-p:=by omega
   have hne:s.take (t.pos-p)≠ []:=by
    intro e;have:=congrArg List.length e;simp at this
    rcases this with this|this
    ·omega
    ·exact hs this
   have e3:((s.drop (one s).2).take (t.pos-(p+(one s).2)))=(s.take (t.pos-p)).drop (one s).2:=by
    rw[List.drop_take];congr 1;omega
   have e4:(s.take (t.pos-p)).take (one s).2=s.take (one s).2:=by rw[A3d,A1h hm]
   rw[B6t _ _ hne,C4l s _ hs hm,e4, <-e3,h2]
  rw[step]at ht |-;by_cases hp:(one s).1>0
  ·rw[if_pos hp]at ht rest |-
   cases n with
   |zero=>
    simp only[A75,A0B,U7]at ht;subst ht;exact⟨G8 _,by simp[C0l]⟩
   |succ n=>
    obtain⟨h1,h2⟩:=rest n (by simpa using ht);exact⟨h1,by rw[h2];simp⟩
  ·rw[if_neg hp]at ht rest |-
   exact rest n (by simpa using ht)
theorem C0n (s:List UInt8) (n:Nat) (t:Tok) (h:(S9 s)[n]?=some t):S9 (s.take t.pos)=(S9 s).take n:=by
 have:=(C8o _ s 0 n t rfl h).2;rw[Nat.sub_zero]at this;exact this
section
variable {T T':Src}{n:Nat}
end
def bs (s:List UInt8) (l:List Tok):List Nat:=(l.filter (B0j s)).map (·.pos)
theorem C0L (s:List UInt8):∀(l:List Tok) (acc:List Nat),acc≠ []->l.foldl (A17 s) acc=acc++bs s l
 | [],acc,_=>by simp[bs]
 |t::l,acc,h=>by
  rw[A1g,C0L s l _ (B3i s acc t),A17];by_cases hb:B0j s t=true
  ·rw[if_pos (.inl hb),bs,bs,List.filter_cons_of_pos hb];simp
  ·rw[if_neg (by rintro(h1|h1);exact hb h1;exact h h1),bs,bs,List.filter_cons_of_neg hb]
theorem B3r (s:List UInt8) (p:Nat):∀(l:List Tok) (acc:List Nat) (i:Nat),acc.length<=i->(l.foldl (A17 s) acc)[i]?=some p->
  ∃n t,l[n]?=some t/\t.pos=p/\(l.take n).foldl (A17 s) acc=(l.foldl (A17 s) acc).take i/\(l.foldl (A17 s) acc).drop (i+1)=bs s (l.drop (n+1))
 | [],acc,i,h,hp=>by
  rw[List.foldl_nil,A09 h]at hp;cases hp
 |t::l,acc,i,h,hp=>by
  rw[A1g]at hp |-;by_cases h2:(A17 s acc t).length<=i
  ·obtain⟨n,u,h3,h4,h5,h6⟩:=B3r s p l _ i h2 hp
   exact⟨n+1,u,by simpa using h3,h4,by rw[A1l,A1g];exact h5,by rw[h6];simp⟩
  ·have h3:=B66 s acc t
   have h4:i=acc.length:=by omega
   have h5:A17 s acc t=acc++ [t.pos]:=by
    rw[A17]at h2 |-;split
    ·rfl
    ·rename_i hn
     rw[if_neg hn]at h2;omega
   rw[C0L s l _ (B3i s acc t),h5]at hp |-;refine⟨0,t,rfl,?_,?_,?_⟩
   ·rw[h4,O4,A1R (G8 _)]at hp
    simpa using hp
   ·rw[h4,O4,List.take_left];rfl
   ·rw[h4,List.drop_left' (by simp)];rfl
theorem C6Q:∀(k:Nat) (s:List UInt8) (p n:Nat) (t:Tok),s.length=k->(tk s p)[n]?=some t->p<=t.pos/\(tk s p).drop n=tk (s.drop (t.pos-p)) t.pos:=by
 intro k;induction k using Nat.strongRecOn with
 |_ k ih=>
  intro s p n t hk ht;by_cases hs:s= []
  ·subst hs;rw[C0l]at ht;simp at ht
  have hl:=A6M s hs;have step:=B6t s p hs;have rest:∀(n:Nat),(tk (s.drop (one s).2) (p+(one s).2))[n]?=some t->p<=t.pos/\(tk (s.drop (one s).2) (p+(one s).2)).drop n=tk (s.drop (t.pos-p)) t.pos:=fun n hn=>by
   obtain⟨h1,h2⟩:=ih (s.drop (one s).2).length (by simp;omega) (s.drop (one s).2) (p+(one s).2) n t rfl hn;refine⟨by omega,?_⟩
   rw[h2,A5W,show (one s).2+(t.pos-(p+(one s).2))=t.pos-p by omega]
  by_cases ho:(one s).1>0
  ·rw[if_pos ho]at step
   cases n with
   |zero=>
    rw[step]at ht;simp at ht
    subst ht;simp
   |succ n=>
    rw[step]at ht |-;simpa using rest n (by simpa using ht)
  ·rw[if_neg ho]at step
   rw[step]at ht |-;simpa using rest n (by simpa using ht)
theorem B3t {l:List Nat}{i d x:Nat} (h:l[i]?=some x):l.getD i d=x:=by rw[O1,h];rfl
theorem B7h (s:List UInt8) (n:Nat) (t:Tok) (h:(S9 s)[n]?=some t):(S9 s).drop n=(S9 (s.drop t.pos)).map (shift t.pos):=by
 have h6:=(C6Q s.length s 0 n t rfl h).2;have e:S9 s=tk s 0:=rfl;rw[e,h6,Nat.sub_zero];have:=B36 t.pos (s.drop t.pos).length (s.drop t.pos) 0;rw[W9]at this;exact this
theorem C0C {s:List UInt8}{i c:Nat} (h:(Y2 s)[i]?=some c):∃(n:Nat) (t:Tok),(S9 s)[n]?=some t/\t.pos=c:=by
 obtain⟨n,t,h1,h2,_⟩:=B3r s c (S9 s) [] i (H7 _) h;exact⟨n,t,h1,h2⟩
theorem B9W (s:List UInt8) {i:Nat} (hi:i<(Y2 s).length):∃m n,(S9 (A1e s (Y2 s) i)).map (shift ((Y2 s).getD i 0))=((S9 s).take m).drop n:=by
 have hc:(Y2 s)[i]?=some (Y2 s)[i]:=G6 hi;obtain⟨n,t,h1,h2⟩:=C0C hc;have hlt:=A7Q s hi;rw[A1e,B3t hc, <-h2];rw[B3t hc, <-h2]at hlt;rcases U0 (i+1) (Y2 s).length with h3|h3
 ·obtain⟨m,u,h4,h5⟩:=C0C (G6 h3)
  have e1:(Y2 s).getD (i+1) s.length=u.pos:=by rw[B3t (G6 h3),h5]
  rw[e1]at hlt |-;have h6:=C0n s m u h4;have hnm:n<m:=by
   rcases U0 n m with h|h
   ·exact h
   ·exfalso
    have hn:=A0w.1 h1;have hm:=A0w.1 h4;obtain⟨hn1,hn2⟩:=hn;obtain⟨hm1,hm2⟩:=hm;rcases U0 m n with h7|h7
    ·have:=A14.1 (A3B s) m n hm1 hn1 h7
     rw[hn2,hm2]at this;omega
    ·obtain rfl:n=m:=by omega
     rw[hn2]at hm2;subst hm2;omega
  refine⟨m,n,?_⟩
  have h8:(S9 (s.take u.pos))[n]?=some t:=by rw[h6,List.getElem?_take_of_lt hnm];exact h1
  rw[<-h6,B7h _ n t h8,List.drop_take]
 ·have e1:(Y2 s).getD (i+1) s.length=s.length:=by rw[O1,A09 h3];rfl
  refine⟨(S9 s).length,n,?_⟩
  rw[e1,V6,B7h s n t h1,A0u (by rw[A0p];omega)]
theorem C2p (s:List UInt8) {i:Nat} (hi:i<(Y2 s).length) {t:Tok} (h:t∈S9 (A1e s (Y2 s) i)):shift ((Y2 s).getD i 0) t∈S9 s:=by
 obtain⟨m,n,h1⟩:=B9W s hi;have h2:shift ((Y2 s).getD i 0) t∈((S9 s).take m).drop n:=h1 ▸ A5t h;exact A77 (List.mem_of_mem_drop h2)
def A0C (s:List UInt8) (a:Nat) (n:List UInt8):Prop:=a+n.length<=s.length/\(s.drop a).take n.length=n/\(n≠ []->name n=true/\∃k,(⟨k,n,a⟩:Tok)∈S9 s)
theorem A8s {s:List UInt8}{a:Nat} (h:a<=s.length):A0C s a []:=⟨by simpa using h,by simp,fun h=>absurd rfl h⟩
def stE (s:List UInt8):PE:=fun k nm _ _ f _=>(k=2\/k=4)->A0C s f nm
def stS (s:List UInt8):PS:=fun k nm a _ _ _ _=>(k=1\/k=2\/k=5)->A0C s a nm
theorem B1l (src:List UInt8) (i:Nat):((⟨S9 src,src.length⟩:Src).tok i).pos<=src.length:=by
 rw[Src.tok];by_cases h:i<(S9 src).length
 ·have hk:=A2E src (S9 src)[i] (O5 h)
  simp only[O1,G6 h,Option.getD_some];exact Nat.le_of_lt hk.pos
 ·simp only[O1,A09 (Nat.le_of_not_lt h),Option.getD_none]
  exact G8 _
theorem A8B (src:List UInt8) (i:Nat) (hn:name ((⟨S9 src,src.length⟩:Src).tok i).text=true):A0C src ((⟨S9 src,src.length⟩:Src).tok i).pos ((⟨S9 src,src.length⟩:Src).tok i).text:=by
 rw[Src.tok]at hn |-;by_cases h:i<(S9 src).length
 ·have hk:=A2E src (S9 src)[i] (O5 h)
  simp only[O1,G6 h,Option.getD_some]at hn |-;exact⟨hk.fit,hk.text.symm,fun _=>⟨hn,_,O5 h⟩⟩
 ·simp only[O1,A09 (Nat.le_of_not_lt h),Option.getD_none]
  exact A8s (G8 _)
theorem A48 (src:List UInt8) (s:St):A0C src ((⟨S9 src,src.length⟩:Src).tok s.i).pos (s.named ⟨S9 src,src.length⟩).1:=by
 have h0:A0C src ((⟨S9 src,src.length⟩:Src).tok s.i).pos []:=A8s (B1l src s.i);rw[St.named];split
 ·rename_i hn
  exact A8B src s.i hn
 ·split
  ·exact h0
  ·exact h0
theorem C8g (src:List UInt8):AtE ⟨S9 src,src.length⟩ (stE src):=
 ⟨fun h=>(by omega),fun i h=>(by omega),fun i n _ _ h=>(by omega),fun i hn _=>A8B src i hn,fun i j m hn _ _ _=>A8B src i hn,fun i k1 n1 v1 m1 f1 t1 k2 n2 v2 m2 f2 t2 _ _ _ h=>(by omega)⟩
theorem C8h (src:List UInt8):AtS ⟨S9 src,src.length⟩ (stS src):=
 ⟨fun h=>(by omega),fun i s lb o j _ _=>A48 src s,fun i j hn _=>A8B src i hn,fun k i j hk h=>(by omega),fun i s j _=>A48 src s⟩
structure ItS (s:List UInt8) (p:Nat) (q:List UInt8) (it:Itm):Prop where
 at_:it.at_=p
 sub:∀a n,A0C q a n->A0C s (p+a) n
 body:V7 (stE q) (stS q) it.body
 params:∀x∈it.params,A0C q x.at_ x.name
 sends:∀x∈it.sends,A0C q x.at_ x.name
 mark:A0C q it.mark it.name
def A8M (s:List UInt8) (it:Itm):Prop:= ∃p q,ItS s p q it
theorem B6e (s:List UInt8) {i:Nat} (hi:i<(Y2 s).length) {a:Nat}{n:List UInt8} (h:A0C (A1e s (Y2 s) i) a n):A0C s ((Y2 s).getD i 0+a) n:=by
 obtain⟨c1,c2⟩:=A7Q s hi;obtain⟨h1,h2,h3⟩:=h;have h4:=fun (k:Nat) (h:(⟨k,n,a⟩:Tok)∈S9 (A1e s (Y2 s) i))=>C2p s hi h
 rw[A1e,P8,A0p]at h1;rw[A1e]at h2;refine⟨by omega,?_,fun hn=>?_⟩
 case refine_2=>
  obtain⟨hnm,k,hk⟩:=h3 hn;refine⟨hnm,k,?_⟩
  rw[A3S];exact h4 k hk
 rw[List.drop_take,A3d,A5W,A1h (by omega)]at h2;exact h2
theorem B7u (s:List UInt8):∀it∈J5 s,A8M s it:=by
 intro it hit;rw[J5]at hit;split at hit
 ·rw[A3I,A0s]at hit
  obtain⟨i,hi,rfl⟩:=hit;have hi:=A1U.1 hi;obtain⟨c1,c2⟩:=A7Q s hi;have hall:=B01 (src:=A1e s (Y2 s) i) ((Y2 s).getD i 0:Nat) (C8g _) (C8h _) (r:=fun x=>A0C (A1e s (Y2 s) i) x.at_ x.name) (t:=fun x=>A0C (A1e s (Y2 s) i) x.at_ x.name) (fun s _ _=>A48 _ s) (fun s=>A48 _ s);refine⟨(Y2 s).getD i 0,A1e s (Y2 s) i,?_⟩
  rw[A0P];refine⟨B2N _ _,fun a n h=>B6e s hi h,hall.body,hall.params,hall.sends,?_⟩
  rcases hall.mark with ⟨h1,h2⟩|⟨st,h1,h2⟩
  ·rw[h1]
   rcases h2 with ⟨j,h2⟩|h2
   ·rw[h2];exact A8s (B1l (A1e s (Y2 s) i) j)
   ·rw[h2];exact A8s (H7 _)
  ·rw[h1,h2];exact A48 _ st
 ·cases hit
def C65 (s:List UInt8) (u:Us):Prop:= ∃f d n,u.fr=((f:Nat):Int)/\u.to=((f+n.length:Nat):Int)/\u.df=((d:Nat):Int)/\n≠ []/\A0C s f n/\A0C s d n
def NW.ok (s:List UInt8) (w:NW):Prop:= ∀u∈w.us,C65 s u
def A6i (q:List UInt8) (sc:List Lc):Prop:= ∀l∈sc,l.name≠ []/\A0C q l.at_ l.name
theorem A9Q {s:List UInt8}{w:NW} (h:w.ok s) (a e:Nat) (n:List UInt8):(w.tell a e n).ok s:=h
theorem C5d {s:List UInt8}{w:NW} (h:w.ok s) {p a d:Nat}{n:List UInt8}{b e:Int} (hb:b=p) (he:e=d) (hn:n≠ []) (h1:A0C s (p+a) n) (h2:A0C s d n):(w.use b a n e).ok s:=by
 intro u hu;rcases X6.1 hu with hu|hu
 ·exact h u hu
 ·obtain rfl:=A0v.1 hu
  exact⟨p+a,d,n,by dsimp only;omega,by dsimp only;omega,he,hn,h1,h2⟩
theorem B4J {s:List UInt8}{its:List Itm} (h:∀x∈its,A8M s x) {k:Int}{n:List UInt8}{j:Nat} (hf:A00 its k n=some j):n≠ []/\∃d:Nat,(A0h its j).at_+(A0h its j).mark=(d:Int)/\A0C s d n:=by
 obtain⟨hj,h1,h2,h3,h4⟩:=A2D hf;obtain⟨p,q,hi⟩:=h _ h4;refine⟨h3,p+(A0h its j).mark,by rw[hi.at_];omega,?_⟩
 have:=hi.sub _ _ hi.mark;rw[h2]at this;exact this
def A8S (s:List UInt8) (p:Nat) (q:List UInt8):Prop:= ∀a n,A0C q a n->A0C s (p+a) n
section
variable {s q:List UInt8}{p:Nat}{its:List Itm}{sc:List Lc}
theorem C0R (hb:A8S s p q) (hsc:A6i q sc) {a:Nat}{n:List UInt8} (hst:A0C q a n) {w:NW} (hw:w.ok s):(A7h p sc a n w).ok s:=by
 rw[A7h];split
 ·rename_i l hl
  obtain⟨hm,hn⟩:=A7S hl;obtain⟨h1,h2⟩:=hsc _ hm;rw[hn]at h1 h2;exact C5d hw rfl (d:=p+l.at_) (by omega) h1 (hb _ _ hst) (hb _ _ h2)
 ·split
  ·exact hw
  ·exact A9Q hw _ _ _
theorem B5R (hi:∀x∈its,A8M s x) (hb:A8S s p q) (k:Int) {a:Nat}{n:List UInt8} (hst:A0C q a n) {w:NW} (hw:w.ok s):(A4W its p k a n w).ok s:=by
 rw[A4W];split
 ·rename_i j hj
  obtain⟨h1,d,h2,h3⟩:=B4J hi hj;exact C5d hw rfl h2 h1 (hb _ _ hst) h3
 ·split
  ·exact hw
  ·exact A9Q hw _ _ _
theorem C3h (hi:∀x∈its,A8M s x) (hb:A8S s p q) {a:Nat}{n:List UInt8} (hst:A0C q a n) (m:Nat) {w:NW} (hw:w.ok s):(A4L its p a n m w).ok s:=by
 have h:=B5R hi hb 2 hst hw;rw[A4L];split
 ·split
  ·exact A9Q h _ _ _
  ·exact h
 ·exact h
theorem B1Y (h:A6i q sc) {n:List UInt8}{a:Nat} (hn:n≠ []) (hst:A0C q a n):A6i q (sc++ [⟨n,a⟩]):=fun l hl=>by
 rcases X6.1 hl with hl|hl
 ·exact h l hl
 ·obtain rfl:=A0v.1 hl
  exact⟨hn,hst⟩
theorem C38 (hsc:A6i q sc) {a:Nat}{n:List UInt8} (hst:A0C q a n) {w:NW} (hw:w.ok s):A6i q (mkN n a sc w).1/\(mkN n a sc w).2.ok s:=by
 rw[mkN];split
 ·exact⟨hsc,hw⟩
 ·rename_i hn
  refine⟨B1Y hsc hn hst,?_⟩
  dsimp only
  split
  ·exact A9Q hw _ _ _
  ·exact hw
mutual
theorem C3v (hi:∀x∈its,A8M s x) (hb:A8S s p q) (hsc:A6i q sc):∀(e:Ex),e.all (stE q)->∀ {w:NW},w.ok s->(exN its p sc e w).ok s
 | .mk k nm n args f t,h,w,hw=>by
  rw[Ex.all]at h;rw[exN];refine C0J hi hb hsc args h.2 ?_
  have h1:=h.1;split
  ·rename_i hk;exact C0R hb hsc (h1 (.inl hk)) hw
  ·split
   ·rename_i hk;exact C3h hi hb (h1 (.inr hk)) _ hw
   ·exact hw
theorem C0J (hi:∀x∈its,A8M s x) (hb:A8S s p q) (hsc:A6i q sc):∀(l:List Ex),A05 (stE q) l->∀ {w:NW},w.ok s->(A4C its p sc l w).ok s
 | [],_,w,hw=>by rw[A4C];exact hw
 |e::l,h,w,hw=>by
  rw[A05]at h;rw[A4C];exact C0J hi hb hsc l h.2 (C3v hi hb hsc e h.1 hw)
 end
mutual
theorem C6K (hi:∀x∈its,A8M s x) (hb:A8S s p q):∀(x:Stm),x.all (stE q) (stS q)->∀ {sc:List Lc},A6i q sc->∀ {w:NW},w.ok s->A6i q (A5G its p x sc w).1/\(A5G its p x sc w).2.ok s
 | .mk k nm a lb o e thn els f t,h,sc,hsc,w,hw=>by
  rw[Stm.all]at h;obtain⟨h1,h2,h3,h4⟩:=h;have he:=C3v hi hb hsc e h2 hw;rw[A5G];split
  ·rename_i hk;exact C38 hsc (h1 (.inl hk)) he
  ·split
   ·rename_i hk;exact⟨hsc,C0R hb hsc (h1 (.inr (.inl hk))) he⟩
   ·split
    ·rename_i hk;exact⟨hsc,B5R hi hb 1 (h1 (.inr (.inr hk))) he⟩
    ·split
     ·exact⟨hsc,(B1i hi hb els h4 hsc (B1i hi hb thn h3 hsc he).2).2⟩
     ·exact⟨hsc,he⟩
theorem B1i (hi:∀x∈its,A8M s x) (hb:A8S s p q):∀(l:List Stm),V7 (stE q) (stS q) l->∀ {sc:List Lc},A6i q sc->∀ {w:NW},w.ok s->A6i q (A06 its p l sc w).1/\(A06 its p l sc w).2.ok s
 | [],_,sc,hsc,w,hw=>by rw[A06];exact⟨hsc,hw⟩
 |x::l,h,sc,hsc,w,hw=>by
  rw[V7]at h;rw[A06];have h1:=C6K hi hb x h.1 hsc hw;exact B1i hi hb l h.2 h1.1 h1.2
 end
theorem C01:∀(l:List Par),(∀x∈l,A0C q x.at_ x.name)->∀ {sc:List Lc},A6i q sc->∀ {w:NW},w.ok s->A6i q (A3u l sc w).1/\(A3u l sc w).2.ok s
 | [],_,sc,hsc,w,hw=>by rw[A3u];exact⟨hsc,hw⟩
 |x::l,h,sc,hsc,w,hw=>by
  rw[A3u];have h1:=C38 hsc (h x Q4) hw;exact C01 l (fun y hy=>h y (A0J _ hy)) h1.1 h1.2
theorem C1a (hi:∀x∈its,A8M s x) (hb:A8S s p q):∀(l:List Rf),(∀x∈l,A0C q x.at_ x.name)->∀ {dn:List Rf}{w:NW},w.ok s->(A5F its p dn l w).ok s
 | [],_,dn,w,hw=>by rw[A5F];exact hw
 |x::l,h,dn,w,hw=>by
  rw[A5F];refine C1a hi hb l (fun y hy=>h y (A0J _ hy)) ?_
  have h1:=B5R hi hb 1 (h x Q4) hw;rw[A6j];split
  ·exact A9Q h1 _ _ _
  ·exact h1
theorem B8k:A6i q []:=fun l h=>by cases h
theorem C7F (hi:∀x∈its,A8M s x) {it:Itm} (h:ItS s p q it) {w:NW} (hw:w.ok s):(fnN its it w).ok s:=by
 have hb:A8S s p q:=h.sub;rw[fnN,h.at_];have h1:=C01 it.params h.params B8k hw;exact(B1i hi hb it.body h.body h1.1 (C1a hi hb it.sends h.sends h1.2)).2
theorem C5k (hi:∀x∈its,A8M s x) {i:Nat} (hlt:i<its.length):(A20 its i).ok s:=by
 have hm:A0h its i∈its:=by rw[A0h,O1,G6 hlt];exact O5 hlt
 obtain⟨p,q,h⟩:=hi _ hm;have h0:NW0.ok s:=fun u hu=>by cases hu
 have h1:(if B0c its i (A0h its i)=true then NW0.tell (A0h its i).mark 7 (A0h its i).name else NW0).ok s:=by
  split
  ·exact A9Q h0 _ _ _
  ·exact h0
 rw[A20];split
 ·exact C7F hi h h1
 ·exact h1
theorem B8H (hi:∀x∈its,A8M s x):∀u∈A12 its,C65 s u:=fun u hu=>by
 rw[A12,A5d,A5z]at hu;obtain⟨i,h1,h2⟩:=hu;exact C5k hi (A1U.1 h1) u h2
end
structure Pl where
 name:List UInt8
 at_:Int
mutual
def B2q (b:Int):Stm->List Pl
 | .mk k nm a _ _ _ thn els _ _=>(if k=1/\nm≠ [] then [⟨nm,b+a⟩] else [])++(A01 b thn++A01 b els)
def A01 (b:Int):List Stm->List Pl
 | []=> []
 |x::xs=>B2q b x++A01 b xs
 end
theorem C40 (b:Int) (x:Stm):B2q b x=(if x.kind=1/\x.name≠ [] then [⟨x.name,b+x.at_⟩] else [])++(A01 b x.thn++A01 b x.els):=by cases x;rw[B2q];rfl
theorem B0B (b:Int):∀(l r:List Stm),A01 b (l++r)=A01 b l++A01 b r
 | [],r=>by rw[A01];rfl
 |x::l,r=>by rw[X4,A01,A01,B0B b l r,O4]
theorem B8A (b:Int) {l:List Stm}{k:Nat}{x:Stm} (h:l[k]?=some x):A01 b (l.take (k+1))=A01 b (l.take k)++B2q b x:=by
 rw[Q9 h,B0B,A01,A01,J3]
def A6b (b:Int) (p:Par):List Pl:=if p.name≠ [] then [⟨p.name,b+p.at_⟩] else []
def B9p (it:Itm):List Pl:=if it.kind=3\/it.name= [] then [] else ⟨it.name,it.at_+it.mark⟩::(it.params.flatMap (A6b it.at_)++A01 it.at_ it.body)
def A3r (its:List Itm):List Pl:=its.flatMap B9p
theorem B9B {its:List Itm}{k:Nat}{it:Itm} (h:its[k]?=some it):A3r (its.take (k+1))=A3r (its.take k)++B9p it:=by
 rw[A3r,Q9 h,Y1, <-A3r];simp
def B9X (l:List Pl) (at_:Int):Option Pl:=l.find? (fun d=>decide (d.at_<=at_) && decide (at_<d.at_+d.name.length))
def B69 (its:List Itm) (at_:Int):Option Int:=match B2v (A12 its) at_ with
 |some u=>some u.df
 |none=>(B9X (A3r its) at_).map (·.at_)
def B53 (l:List Pl) (df:Int):List UInt8:=l.foldl (fun o d=>if d.at_=df then d.name else o) []
theorem C2g {l:List Pl}{k:Nat}{d:Pl} (h:l[k]?=some d) (df:Int):B53 (l.take (k+1)) df=if d.at_=df then d.name else B53 (l.take k) df:=by
 rw[B53,Q9 h,A5v];rfl
def A3O (us:List Us) (df:Int):List Int:=(us.filter (fun u=>decide (u.df=df))).map (·.fr)
theorem B9k {us:List Us}{k:Nat}{u:Us} (h:us[k]?=some u) (df:Int):A3O (us.take (k+1)) df=A3O (us.take k) df++(if u.df=df then [u.fr] else []):=by
 rw[A3O,Q9 h,A78,Y8, <-A3O];by_cases e:u.df=df
 ·simp[e]
 ·simp[e]
def A4a (its:List Itm) (df:Int):List Int:=Go.Lib.compact ((df::A3O (A12 its) df).mergeSort (fun x y=>decide (x<=y)))
def A6c (s nm:List UInt8) (n:Nat):List Int->List UInt8×Int->List UInt8×Int
 | [],x=>x
 |k::l,x=>A6c s nm n l (x.1++((s.drop x.2.toNat).take (k.toNat-x.2.toNat)++nm),k+n)
def C7R (s nm:List UInt8) (n:Nat) (l:List Int):List UInt8:=(A6c s nm n l ([],0)).1++s.drop (A6c s nm n l ([],0)).2.toNat
def A7d (l:List Int) (a:Int):Nat:=(l.filter (fun k=>decide (k<a))).length
theorem B6L {l:List Int}{k:Nat}{z:Int} (h:l[k]?=some z) (a:Int):A7d (l.take (k+1)) a=A7d (l.take k) a+(if z<a then 1 else 0):=by
 rw[A7d,Q9 h,A78,E9, <-A7d];by_cases e:z<a
 ·simp[e]
 ·simp[e]
def A7k (l:List Int) (more:Int) (a:Int):Int:=a+(A7d l a:Int) *more
def A5J (us vs:List Us) (l:List Int) (more:Int) (k:Nat):Bool:=(List.range k).all (fun i=>decide (A7k l more (us.getD i ⟨0,0,0⟩).fr=(vs.getD i ⟨0,0,0⟩).fr) && decide (A7k l more (us.getD i ⟨0,0,0⟩).df=(vs.getD i ⟨0,0,0⟩).df))
def B5t (us vs:List Us) (l:List Int) (more:Int):Bool:=decide (us.length=vs.length) && A5J us vs l more us.length
def toR (s:List UInt8) (at_:Int) (nm:List UInt8):List UInt8×Nat:=
 if Y3 s≠0 then ([],Y3 s) else
 if A3K (J5 s)≠ [] then ([],13) else
 match B69 (J5 s) at_ with
 |none=>([],6)
 |some df=>
  if name nm=false then ([],7) else
  let old:=B53 (A3r (J5 s)) df
  let l:=A4a (J5 s) df
  let t:=C7R s nm old.length l
  if Y3 t≠0 then ([],Y3 t) else
  if A3K (J5 t)≠ [] then ([],7) else
  if B5t (A12 (J5 s)) (A12 (J5 t)) l ((nm.length:Int)-old.length)=false then ([],7) else (t,0)
end Go.Sp
