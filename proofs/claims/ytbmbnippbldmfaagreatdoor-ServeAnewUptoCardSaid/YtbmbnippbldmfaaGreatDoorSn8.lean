/- Own work. -/
import Derived.Test.YtbmbnippbldmfaaGreatDoorSn7
import Derived.Lib.SlicesCompact
set_option maxHeartbeats 64000000
namespace Go.Sp
abbrev Nm:=List UInt8
theorem A6E (a:Nm):¬a<a:=List.lt_irrefl a
theorem B1D {a b c:Nm} (h:a<b) (k:b<c):a<c:=List.lt_trans h k
theorem C5p (a b:Nm):a<b\/a=b\/b<a:=by
 rcases Decidable.em (a<b) with h|h
 ·exact .inl h
 ·rcases Decidable.em (b<a) with k|k
  ·exact .inr (.inr k)
  ·exact .inr (.inl (List.le_antisymm (List.not_lt.1 k) (List.not_lt.1 h)))
theorem C1u {a b:Nm} (h:a<b):¬b<a:=fun k=>A6E a (B1D h k)
def Srt (l:List Nm):Prop:=l.Pairwise (· < ·)
theorem Srt.nil:Srt []:=List.Pairwise.nil
theorem B2A:∀ {a b:List Nm},Srt a->Srt b->(∀x,x∈a↔x∈b)->a=b
 | [],[],_,_,_=>rfl
 | [],y::b,_,_,h=>absurd ((h y).2 Q7) (by simp)
 |x::a,[],_,_,h=>absurd ((h x).1 Q7) (by simp)
 |x::a,y::b,ha,hb,h=>by
  obtain⟨ha1,ha2⟩:=A1u.1 ha;obtain⟨hb1,hb2⟩:=A1u.1 hb;have hx:=(h x).1 Q7;have hy:=(h y).2 Q7;have e:x=y:=by
   rcases V8.1 hx with e|hx
   ·exact e
   ·rcases V8.1 hy with e|hy
    ·exact e.symm
    ·exact absurd (ha1 y hy) (C1u (hb1 x hx))
  subst e
  congr 1
  refine B2A ha2 hb2 (fun z=>⟨fun hz=>?_,fun hz=>?_⟩)
  ·rcases V8.1 ((h z).1 (A0Q _ hz)) with e|h1
   ·subst e;exact absurd (ha1 z hz) (A6E z)
   ·exact h1
  ·rcases V8.1 ((h z).2 (A0Q _ hz)) with e|h1
   ·subst e;exact absurd (hb1 z hz) (A6E z)
   ·exact h1
def A7J (s:Nm):List Nm->List Nm
 | []=> [s]
 |x::l=>if x<s then x::A7J s l else s::x::l
def A4R (l:List Nm) (s:Nm):List Nm:=if s= []\/s∈l then l else A7J s l
theorem B0J (s x:Nm):∀(l:List Nm),x∈A7J s l↔x=s\/x∈l
 | []=>by simp[A7J]
 |y::l=>by
  rw[A7J];split
  ·rw[V8,B0J s x l,V8]
   constructor
   ·rintro(h|h|h)
    ·exact .inr (.inl h)
    ·exact .inl h
    ·exact .inr (.inr h)
   ·rintro(h|h|h)
    ·exact .inr (.inl h)
    ·exact .inl h
    ·exact .inr (.inr h)
  ·simp
theorem B3d {s:Nm}:∀ {l:List Nm},Srt l->s∉l->Srt (A7J s l)
 | [],_,_=>by rw[A7J];exact B0g _ _
 |y::l,h,hs=>by
  obtain⟨h1,h2⟩:=A1u.1 h;rw[A7J];split
  ·rename_i hy
   refine A1u.2 ⟨fun z hz=>?_,B3d h2 (fun hm=>hs (A0Q _ hm))⟩
   rcases(B0J s z l).1 hz with rfl|hz
   ·exact hy
   ·exact h1 z hz
  ·rename_i hy
   have hsy:s<y:=by
    rcases C5p s y with h|h|h
    ·exact h
    ·subst h;exact absurd Q7 hs
    ·exact absurd h hy
   refine A1u.2 ⟨fun z hz=>?_,h⟩
   rcases V8.1 hz with rfl|hz
   ·exact hsy
   ·exact B1D hsy (h1 z hz)
theorem A82 (s:Nm):∀(l:List Nm),(A7J s l).length=l.length+1
 | []=>rfl
 |y::l=>by
  rw[A7J];split
  ·rw[F8,A82 s l,F8]
  ·rfl
theorem C0d {s:Nm}:∀ {l:List Nm}{k:Nat},k<=l.length->(∀j x,j<k->l[j]?=some x->x<s)->(∀x,l[k]?=some x->¬x<s)->A7J s l=l.take k++s::l.drop k
 | [],k,hk,_,_=>by
  obtain rfl:k=0:=by simpa using hk
  rfl
 |y::l,0,_,_,h2=>by
  rw[A7J,if_neg (h2 y rfl)];rfl
 |y::l,k+1,hk,h1,h2=>by
  rw[A7J,if_pos (h1 0 y (by omega) rfl),A1l,List.drop_succ_cons,Y0]
  congr 1
  refine C0d (by simpa using hk) (fun j x hj hx=>h1 (j+1) x (by omega) (by simpa using hx)) (fun x hx=>h2 x (by simpa using hx))
theorem B2N (l:List Nm) (s x:Nm):x∈A4R l s↔x∈l\/(x=s/\s≠ []):=by
 rw[A4R];split
 ·rename_i h
  constructor
  ·exact .inl
  ·rintro(h1|⟨rfl,h1⟩)
   ·exact h1
   ·rcases h with h|h
    ·exact absurd h h1
    ·exact h
 ·rename_i h
  rw[B0J];constructor
  ·rintro(rfl|h1)
   ·exact .inr ⟨rfl,fun e=>h (.inl e)⟩
   ·exact .inl h1
  ·rintro(h1|⟨rfl,_⟩)
   ·exact .inr h1
   ·exact .inl rfl
theorem A8I {l:List Nm} (h:Srt l) (s:Nm):Srt (A4R l s):=by
 rw[A4R];split
 ·exact h
 ·rename_i h1
  exact B3d h (fun hm=>h1 (.inr hm))
theorem B0t (l:List Nm) (s:Nm):l.length<=(A4R l s).length/\(A4R l s).length<=l.length+1:=by
 rw[A4R];split
 ·omega
 ·rw[A82];omega
theorem B1f {l:List Nm}{s:Nm} (h:s= []\/s∈l):A4R l s=l:=by rw[A4R,if_pos h]
theorem C2f {l:List Nm}{s:Nm} (h:¬(s= []\/s∈l)):A4R l s=A7J s l:=by rw[A4R,if_neg h]
def A5J (a b:List Nm):List Nm:=b.foldl A4R a
theorem B1u:∀(b a:List Nm) (x:Nm),x∈A5J a b↔x∈a\/(x∈b/\x≠ [])
 | [],a,x=>by simp[A5J]
 |y::b,a,x=>by
  show x∈A5J (A4R a y) b↔_
  rw[B1u b,B2N,V8];constructor
  ·rintro((h|⟨rfl,h⟩)|⟨h,k⟩)
   ·exact .inl h
   ·exact .inr ⟨.inl rfl,h⟩
   ·exact .inr ⟨.inr h,k⟩
  ·rintro(h|⟨rfl|h,k⟩)
   ·exact .inl (.inl h)
   ·exact .inl (.inr ⟨rfl,k⟩)
   ·exact .inr ⟨h,k⟩
theorem B1v:∀(b:List Nm) {a:List Nm},Srt a->Srt (A5J a b)
 | [],_,h=>h
 |y::b,_,h=>B1v b (A8I h y)
theorem B0e:∀(b:List Nm) {a:List Nm},(∀x∈b,x∈a)->A5J a b=a
 | [],_,_=>rfl
 |y::b,a,h=>by
  show A5J (A4R a y) b=a
  rw[B1f (.inr (h y Q7))];exact B0e b (fun x hx=>h x (A0Q _ hx))
theorem B8Y {a b:List Nm}{k:Nat}{x:Nm} (h:b[k]?=some x):A5J a (b.take (k+1))=A4R (A5J a (b.take k)) x:=by
 rw[Q8 h,A5J,A5t];rfl
theorem A8e {a u:List Nm} (ha:Srt a) (h:∀x∈a,x∈u):a.length<=u.length:=by
 induction a generalizing u with
 |nil=>exact H7 _
 |cons x a ih=>
  obtain⟨h1,h2⟩:=A1u.1 ha;have hx:=h x Q7;have:=ih (u:=u.erase x) h2 (fun y hy=>(List.mem_erase_of_ne (fun e=>A6E x (by have h2:=h1 y hy;rw[e]at h2;exact h2))).2 (h y (A0Q _ hy)));rw[List.length_erase_of_mem hx]at this;have:=List.length_pos_of_mem hx;rw[F8];omega
theorem B7X {a b:List Nm} (ha:Srt a) (hb:Srt b) (h:∀x∈a,x∈b) (hl:b.length<=a.length):a=b:=by
 refine B2A ha hb (fun x=>⟨h x,fun hx=>?_⟩)
 refine Decidable.byContradiction (fun hn=>?_)
 have h1:=A8e (a:=A7J x a) (u:=b) (B3d ha hn) (fun y hy=>by
  rcases(B0J x y a).1 hy with rfl|hy
  ·exact hx
  ·exact h y hy)
 rw[A82]at h1;omega
mutual
def exE:Ex->List Nm->List Nm
 | .mk k nm _ args _ _,c=>A5I args (if k=4 then A4R c nm else c)
def A5I:List Ex->List Nm->List Nm
 | [],c=>c
 |e::es,c=>A5I es (exE e c)
 end
mutual
def A9H:Stm->List Nm×List Nm->List Nm×List Nm
 | .mk k nm _ _ _ e thn els _ _,q=>A1B els (A1B thn (if k=5 then A4R q.1 nm else q.1,exE e q.2))
def A1B:List Stm->List Nm×List Nm->List Nm×List Nm
 | [],q=>q
 |x::xs,q=>A1B xs (A9H x q)
 end
def A76 (it:Itm):List Nm×List Nm:=A1B it.body ([],[])
theorem C6L (e:Ex) (c:List Nm):exE e c=A5I e.args (if e.kind=4 then A4R c e.name else c):=by cases e;rw[exE];rfl
theorem C5V (x:Stm) (q:List Nm×List Nm):A9H x q=A1B x.els (A1B x.thn (if x.kind=5 then A4R q.1 x.name else q.1,exE x.e q.2)):=by cases x;rw[A9H];rfl
theorem B6V:∀(l r:List Ex) (c:List Nm),A5I (l++r) c=A5I r (A5I l c)
 | [],r,c=>by rw[P5,A5I]
 |e::l,r,c=>by rw[Y0,A5I,A5I,B6V l r]
theorem B4W:∀(l r:List Stm) (q:List Nm×List Nm),A1B (l++r) q=A1B r (A1B l q)
 | [],r,q=>by rw[P5,A1B]
 |e::l,r,q=>by rw[Y0,A1B,A1B,B4W l r]
theorem C0X {l:List Ex}{k:Nat}{e:Ex} (h:l[k]?=some e) (c:List Nm):A5I (l.take (k+1)) c=exE e (A5I (l.take k) c):=by
 rw[Q8 h,B6V,A5I,A5I]
theorem B9A {l:List Stm}{k:Nat}{x:Stm} (h:l[k]?=some x) (q:List Nm×List Nm):A1B (l.take (k+1)) q=A9H x (A1B (l.take k) q):=by
 rw[Q8 h,B4W,A1B,A1B]
mutual
theorem B5h:∀(e:Ex) {c:List Nm},Srt c->Srt (exE e c)
 | .mk k nm n args f t,c,h=>by
  rw[exE];refine B21 args ?_
  split
  ·exact A8I h nm
  ·exact h
theorem B21:∀(l:List Ex) {c:List Nm},Srt c->Srt (A5I l c)
 | [],c,h=>by rw[A5I];exact h
 |e::l,c,h=>by rw[A5I];exact B21 l (B5h e h)
 end
mutual
theorem C4g:∀(x:Stm) {q:List Nm×List Nm},Srt q.1/\Srt q.2->Srt (A9H x q).1/\Srt (A9H x q).2
 | .mk k nm a lb o e thn els f t,q,h=>by
  rw[A9H];refine A6f els (A6f thn ⟨?_,B5h e h.2⟩)
  dsimp only
  split
  ·exact A8I h.1 nm
  ·exact h.1
theorem A6f:∀(l:List Stm) {q:List Nm×List Nm},Srt q.1/\Srt q.2->Srt (A1B l q).1/\Srt (A1B l q).2
 | [],q,h=>by rw[A1B];exact h
 |x::l,q,h=>by rw[A1B];exact A6f l (C4g x h)
 end
mutual
theorem C2K:∀(e:Ex) (c:List Nm),c.length<=(exE e c).length/\(exE e c).length<=c.length+e.cnt
 | .mk k nm n args f t,c=>by
  rw[exE,Ex.cnt];have h1:=B0t c nm;have h2:=B8E args (if k=4 then A4R c nm else c);split at h2<;>rename_i hk
  ·rw[if_pos hk];omega
  ·rw[if_neg hk];omega
theorem B8E:∀(l:List Ex) (c:List Nm),c.length<=(A5I l c).length/\(A5I l c).length<=c.length+A03 l
 | [],c=>by rw[A5I,A03];omega
 |e::l,c=>by
  rw[A5I,A03];have h1:=C2K e c;have h2:=B8E l (exE e c);omega
 end
mutual
theorem C7x:∀(x:Stm) (q:List Nm×List Nm),q.1.length+q.2.length<=(A9H x q).1.length+(A9H x q).2.length/\(A9H x q).1.length+(A9H x q).2.length<=q.1.length+q.2.length+x.cnt
 | .mk k nm a lb o e thn els f t,q=>by
  rw[A9H,Stm.cnt];have h1:=B0t q.1 nm;have h2:=C2K e q.2;have h3:=A9D thn (if k=5 then A4R q.1 nm else q.1,exE e q.2);have h4:=A9D els (A1B thn (if k=5 then A4R q.1 nm else q.1,exE e q.2));generalize A1B els (A1B thn (if k=5 then A4R q.1 nm else q.1,exE e q.2))=r4 at h4 |-;generalize A1B thn (if k=5 then A4R q.1 nm else q.1,exE e q.2)=r3 at h3 h4;split at h3
  ·dsimp only at h3;omega
  ·dsimp only at h3;omega
theorem A9D:∀(l:List Stm) (q:List Nm×List Nm),q.1.length+q.2.length<=(A1B l q).1.length+(A1B l q).2.length/\(A1B l q).1.length+(A1B l q).2.length<=q.1.length+q.2.length+P8 l
 | [],q=>by rw[A1B,P8];omega
 |x::l,q=>by
  rw[A1B,P8];have h1:=C7x x q;have h2:=A9D l (A9H x q);omega
 end
def A7n (its:List Itm) (i:Nat):List Nm:=if (A0o its i).kind=2 then (A76 (A0o its i)).1 else []
def A8Y (its:List Itm) (l:List Nm):List Nat:=l.filterMap (A0Z its 2)
def A4f (its:List Itm) (i:Nat):List Nat:=if (A0o its i).kind=2 then A8Y its (A76 (A0o its i)).2 else []
def A4Y (its:List Itm):List (List Nm):=(List.range its.length).map (A7n its)
def B2i (its:List Itm) (rows:List (List Nm)) (i:Nat):List Nm:=(A4f its i).foldl (fun a k=>A5J a (rows.getD k [])) (rows.getD i [])
def A21 (its:List Itm) (rows:List (List Nm)) (i:Nat):List (List Nm):=rows.set i (B2i its rows i)
def A3A (its:List Itm) (rows:List (List Nm)):List (List Nm):=(List.range its.length).foldl (A21 its) rows
def A4K (its:List Itm):Nat->List (List Nm)->List (List Nm)
 |0,r=>r
 |n+1,r=>if A3A its r=r then r else A4K its n (A3A its r)
def A7A (r:List (List Nm)):Nat:=(r.map List.length).sum
def A3y (its:List Itm):List Nm:=(A4Y its).flatten
def A8J (its:List Itm):List (List Nm):=A4K its (its.length *(A3y its).length+1) (A4Y its)
def A93 (its:List Itm) (i:Nat):List Nm:=(A8J its).getD i []
structure RowsE (its:List Itm) (r:List (List Nm)):Prop where
 len:r.length=its.length
 srt:∀a∈r,Srt a
 of:∀a∈r,∀x∈a,x∈A3y its
 ne:∀a∈r,[]∉a
def LeE (r s:List (List Nm)):Prop:=r.length=s.length/\∀i x,x∈r.getD i []->x∈s.getD i []
theorem LeE.refl (r:List (List Nm)):LeE r r:=⟨rfl,fun _ _ h=>h⟩
theorem LeE.trans {r s t:List (List Nm)} (h:LeE r s) (k:LeE s t):LeE r t:=⟨h.1.trans k.1,fun i x hx=>k.2 i x (h.2 i x hx)⟩
theorem B68 {α:Type}{l:List α}{i:Nat}{d:α} (h:i<l.length):l.getD i d∈l:=by
 rw[O4,G6 h];exact O7 h
theorem A7l {α:Type}{l:List α}{i:Nat}{d:α} (h:l.length<=i):l.getD i d=d:=by
 rw[O4,A07 h];rfl
theorem A5D {α:Type}{l:List α}{i:Nat}{d a:α} (h:i<l.length):(l.set i a).getD i d=a:=by
 rw[O4,A5p h];rfl
theorem getD_set_ne {α:Type}{l:List α}{i j:Nat}{d a:α} (h:i≠j):(l.set i a).getD j d=l.getD j d:=by
 rw[O4,A3R h,O4]
mutual
theorem C2L:∀(e:Ex) {c:List Nm},[]∉c->[]∉exE e c
 | .mk k nm n args f t,c,h=>by
  rw[exE];refine B96 args ?_
  split
  ·rw[B2N];rintro(h1|⟨h1,h2⟩)
   ·exact h h1
   ·exact h2 h1.symm
  ·exact h
theorem B96:∀(l:List Ex) {c:List Nm},[]∉c->[]∉A5I l c
 | [],c,h=>by rw[A5I];exact h
 |e::l,c,h=>by rw[A5I];exact B96 l (C2L e h)
 end
mutual
theorem C5W:∀(x:Stm) {q:List Nm×List Nm},[]∉q.1/\[]∉q.2->[]∉(A9H x q).1/\[]∉(A9H x q).2
 | .mk k nm a lb o e thn els f t,q,h=>by
  rw[A9H];refine B00 els (B00 thn ⟨?_,C2L e h.2⟩)
  dsimp only
  split
  ·rw[B2N];rintro(h1|⟨h1,h2⟩)
   ·exact h.1 h1
   ·exact h2 h1.symm
  ·exact h.1
theorem B00:∀(l:List Stm) {q:List Nm×List Nm},[]∉q.1/\[]∉q.2->[]∉(A1B l q).1/\[]∉(A1B l q).2
 | [],q,h=>by rw[A1B];exact h
 |x::l,q,h=>by rw[A1B];exact B00 l (C5W x h)
 end
theorem C5v (it:Itm): []∉(A76 it).1/\[]∉(A76 it).2:=B00 _ ⟨by simp,by simp⟩
theorem C3N (it:Itm):Srt (A76 it).1/\Srt (A76 it).2:=A6f _ ⟨Srt.nil,Srt.nil⟩
theorem B0c (its:List Itm):(A4Y its).length=its.length:=by rw[A4Y,A0g,List.length_range]
theorem B3c (its:List Itm) {i:Nat} (h:i<its.length):(A4Y its).getD i []=A7n its i:=by
 rw[A4Y,O4,A0f,List.getElem?_range h];rfl
theorem B0j (its:List Itm):RowsE its (A4Y its):=by
 have key:∀a∈A4Y its,∃i,a=A7n its i:=fun a ha=>by
  obtain⟨i,_,rfl⟩:=A0x.1 ha;exact⟨i,rfl⟩
 refine⟨B0c its,fun a ha=>?_,fun a ha x hx=>List.mem_flatten.2 ⟨a,ha,hx⟩,fun a ha=>?_⟩
 ·obtain⟨i,rfl⟩:=key a ha
  rw[A7n];split
  ·exact(C3N _).1
  ·exact Srt.nil
 ·obtain⟨i,rfl⟩:=key a ha
  rw[A7n];split
  ·exact(C5v _).1
  ·simp
theorem A9y (rows:List (List Nm)):∀(l:List Nat) (a:List Nm),Srt a->(∀x,x∈l.foldl (fun a k=>A5J a (rows.getD k [])) a↔x∈a\/∃k∈l,x∈rows.getD k []/\x≠ [])/\Srt (l.foldl (fun a k=>A5J a (rows.getD k [])) a)
 | [],a,h=>⟨fun x=>by simp,h⟩
 |k::l,a,h=>by
  rw[A1f];obtain⟨h1,h2⟩:=A9y rows l (A5J a (rows.getD k [])) (B1v _ h);refine⟨fun x=>?_,h2⟩
  rw[h1,B1u];constructor
  ·rintro((h|h)|⟨j,hj,h⟩)
   ·exact .inl h
   ·exact .inr ⟨k,Q7,h⟩
   ·exact .inr ⟨j,A0Q _ hj,h⟩
  ·rintro(h|⟨j,hj,h⟩)
   ·exact .inl (.inl h)
   ·rcases V8.1 hj with rfl|hj
    ·exact .inl (.inr h)
    ·exact .inr ⟨j,hj,h⟩
theorem RowsE.getD {its:List Itm}{r:List (List Nm)} (h:RowsE its r) (i:Nat):Srt (r.getD i [])/\(∀x∈r.getD i [],x∈A3y its)/\[]∉r.getD i []:=by
 rcases U0 i r.length with hi|hi
 ·have:=B68 (d:= []) hi
  exact⟨h.srt _ this,h.of _ this,h.ne _ this⟩
 ·rw[A7l hi];exact⟨Srt.nil,by simp,by simp⟩
theorem A7v {its:List Itm}{r:List (List Nm)} (h:RowsE its r) (i:Nat) (x:Nm):x∈B2i its r i↔x∈r.getD i []\/∃k∈A4f its i,x∈r.getD k []:=by
 rw[B2i,(A9y r (A4f its i) (r.getD i []) (h.getD i).1).1];constructor
 ·rintro(h1|⟨k,hk,h1,_⟩)
  ·exact .inl h1
  ·exact .inr ⟨k,hk,h1⟩
 ·rintro(h1|⟨k,hk,h1⟩)
  ·exact .inl h1
  ·exact .inr ⟨k,hk,h1,fun e=>(h.getD k).2.2 (by rw[<-e];exact h1)⟩
theorem RowsE.step {its:List Itm}{r:List (List Nm)} (h:RowsE its r) (i:Nat):RowsE its (A21 its r i)/\LeE r (A21 its r i):=by
 have hs:Srt (B2i its r i):=(A9y r (A4f its i) (r.getD i []) (h.getD i).1).2;have hm:∀a∈A21 its r i,a∈r\/a=B2i its r i:=fun a ha=>List.mem_or_eq_of_mem_set ha
 refine⟨⟨by rw[A21,A2n,h.len],fun a ha=>?_,fun a ha x hx=>?_,fun a ha hx=>?_⟩,⟨by rw[A21,A2n],fun j x hx=>?_⟩⟩
 ·rcases hm a ha with h1|rfl
  ·exact h.srt a h1
  ·exact hs
 ·rcases hm a ha with h1|rfl
  ·exact h.of a h1 x hx
  ·rcases(A7v h i x).1 hx with h1|⟨k,_,h1⟩
   ·exact(h.getD i).2.1 x h1
   ·exact(h.getD k).2.1 x h1
 ·rcases hm a ha with h1|rfl
  ·exact h.ne a h1 hx
  ·rcases(A7v h i []).1 hx with h1|⟨k,_,h1⟩
   ·exact(h.getD i).2.2 h1
   ·exact(h.getD k).2.2 h1
 ·by_cases e:i=j
  ·subst e
   rcases U0 i r.length with hi|hi
   ·rw[A21,A5D hi];exact(A7v h i x).2 (.inl hx)
   ·rw[A7l hi]at hx;cases hx
  ·rw[A21,getD_set_ne e];exact hx
theorem RowsE.folds {its:List Itm}:∀(l:List Nat) {r:List (List Nm)},RowsE its r->RowsE its (l.foldl (A21 its) r)/\LeE r (l.foldl (A21 its) r)
 | [],r,h=>⟨h,LeE.refl r⟩
 |i::l,r,h=>by
  obtain⟨h1,h2⟩:=h.step i;obtain⟨h3,h4⟩:=RowsE.folds l h1;exact⟨h3,h2.trans h4⟩
theorem RowsE.round {its:List Itm}{r:List (List Nm)} (h:RowsE its r):RowsE its (A3A its r)/\LeE r (A3A its r):=h.folds _
theorem B7f {its:List Itm}{r s:List (List Nm)} (hr:RowsE its r) (hs:RowsE its s) (h:LeE r s) (k:LeE s r):r=s:=by
 refine A3T (fun i=>?_)
 rcases U0 i r.length with hi|hi
 ·have h1:=B2A (hr.getD i).1 (hs.getD i).1 (fun x=>⟨h.2 i x,k.2 i x⟩)
  rw[G6 hi,G6 (by rw[<-h.1];exact hi)];rw[O4,G6 hi,O4,G6 (by rw[<-h.1];exact hi)]at h1;exact congrArg some h1
 ·rw[A07 hi,A07 (by rw[<-h.1];exact hi)]
theorem B4v {its:List Itm}:∀(l:List Nat) {r:List (List Nm)},RowsE its r->l.foldl (A21 its) r=r->∀i∈l,A21 its r i=r
 | [],_,_,_,i,hi=>by cases hi
 |j::l,r,h,e,i,hi=>by
  rw[A1f]at e;obtain⟨h1,h2⟩:=h.step j;obtain⟨h3,h4⟩:=RowsE.folds l h1;rw[e]at h4;have hj:A21 its r j=r:=(B7f h h1 h2 h4).symm;rcases V8.1 hi with rfl|hi
  ·exact hj
  ·rw[hj]at e;exact B4v l h e i hi
theorem C0E:∀ {r s:List (List Nm)},(∀a∈r,Srt a)->(∀a∈s,Srt a)->LeE r s->A7A r<=A7A s/\(A7A s<=A7A r->r=s)
 | [],[],_,_,_=>⟨G9 _,fun _=>rfl⟩
 | [],b::s,_,_,h=>by have:=h.1;simp at this
 |a::r,[],_,_,h=>by have:=h.1;simp at this
 |a::r,b::s,hr,hs,h=>by
  have h1:∀x∈a,x∈b:=fun x hx=>h.2 0 x hx
  have ha:=hr a Q7;have hb:=hs b Q7;have h2:=A8e ha h1;obtain⟨h3,h4⟩:=C0E (r:=r) (s:=s) (fun x hx=>hr x (A0Q _ hx)) (fun x hx=>hs x (A0Q _ hx)) ⟨by simpa using h.1,fun i x hx=>h.2 (i+1) x hx⟩;have e1:A7A (a::r)=a.length+A7A r:=rfl;have e2:A7A (b::s)=b.length+A7A s:=rfl;refine⟨by omega,fun hl=>?_⟩
  rw[B7X ha hb h1 (by omega),h4 (by omega)]
theorem B03 {its:List Itm}{r:List (List Nm)} (h:RowsE its r):A7A r<=its.length *(A3y its).length:=by
 rw[<-h.len];have key:∀(l:List (List Nm)),(∀a∈l,a∈r)->A7A l<=l.length *(A3y its).length:=by
  intro l;induction l with
  |nil=>intro _;simp[A7A]
  |cons a l ih=>
   intro hl;have h1:=ih (fun x hx=>hl x (A0Q _ hx));have ha:=hl a Q7;have h2:=A8e (h.srt a ha) (h.of a ha);have e1:A7A (a::l)=a.length+A7A l:=rfl;rw[e1,F8,A1Q];omega
 exact key r (fun _ h=>h)
abbrev B1L (its:List Itm):Nat:=its.length *(A3y its).length
theorem A9r {its:List Itm}{r:List (List Nm)} (h:A3A its r=r):∀n,A4K its n r=r
 |0=>rfl
 |n+1=>by rw[A4K,if_pos h]
theorem A8b {its:List Itm}{r:List (List Nm)} (h:RowsE its r) (hn:A3A its r≠r):A7A r<A7A (A3A its r):=by
 obtain⟨h1,h2⟩:=h.round;obtain⟨h3,h4⟩:=C0E h.srt h1.srt h2;rcases U0 (A7A r) (A7A (A3A its r)) with h5|h5
 ·exact h5
 ·exact absurd (h4 h5).symm hn
theorem B0M {its:List Itm}:∀(d:Nat) {r:List (List Nm)},RowsE its r->B1L its-A7A r<=d->∀n m,d<n->d<m->A4K its n r=A4K its m r
 |d,r,h,hd,n,m,hn,hm=>by
  by_cases e:A3A its r=r
  ·rw[A9r e,A9r e]
  ·have h1:=A8b h e
   have h2:=B03 h.round.1;have e0:B1L its=its.length *(A3y its).length:=rfl;obtain⟨n,rfl⟩:∃k,n=k+1:=⟨n-1,by omega⟩;obtain⟨m,rfl⟩:∃k,m=k+1:=⟨m-1,by omega⟩;rw[A4K,if_neg e,A4K,if_neg e]
   match d,hd with
   |0,hd=>omega
   |d+1,hd=>exact B0M d h.round.1 (by omega) n m (by omega) (by omega)
theorem B8V {its:List Itm}{r:List (List Nm)} (h:RowsE its r) (e:A3A its r≠r):A4K its (B1L its+1) r=A4K its (B1L its+1) (A3A its r):=by
 have h1:=A8b h e;have h2:=B03 h.round.1;have e0:B1L its=its.length *(A3y its).length:=rfl;rw[A4K,if_neg e];exact B0M (B1L its-1) h.round.1 (by omega) _ _ (by omega) (by omega)
theorem B4C {its:List Itm}:∀(d:Nat) {r:List (List Nm)},RowsE its r->B1L its-A7A r<=d->∀n,d<n->A3A its (A4K its n r)=A4K its n r/\RowsE its (A4K its n r)/\LeE r (A4K its n r)
 |d,r,h,hd,n,hn=>by
  by_cases e:A3A its r=r
  ·rw[A9r e];exact⟨e,h,LeE.refl r⟩
  ·have h1:=A8b h e
   have h2:=B03 h.round.1;have e0:B1L its=its.length *(A3y its).length:=rfl;obtain⟨n,rfl⟩:∃k,n=k+1:=⟨n-1,by omega⟩;rw[A4K,if_neg e]
   match d,hd with
   |0,hd=>omega
   |d+1,hd=>
    obtain⟨h3,h4,h5⟩:=B4C d h.round.1 (by omega) n (by omega);exact⟨h3,h4,h.round.2.trans h5⟩
theorem C2h (its:List Itm):A8J its=A4K its (B1L its+1) (A4Y its):=rfl
theorem A7h (its:List Itm):A3A its (A8J its)=A8J its/\RowsE its (A8J its)/\LeE (A4Y its) (A8J its):=
 B4C (B1L its) (B0j its) (Nat.sub_le _ _) _ (Nat.lt_succ_self _)
inductive Rch (its:List Itm):Nat->Nat->Prop
 |refl (i:Nat):Rch its i i
 |step {i k j:Nat} (h:k∈A4f its i) (r:Rch its k j):Rch its i j
theorem B4d {its:List Itm}{i k:Nat} (h:k∈A4f its i):k<its.length/\(A0o its k).kind=2:=by
 rw[A4f]at h;split at h
 ·obtain⟨n,_,hn⟩:=A6x.1 h
  have:=A2D hn;exact⟨this.1,by omega⟩
 ·cases h
def A4d (its:List Itm) (r:List (List Nm)):Prop:= ∀i x,x∈r.getD i []->∃k,Rch its i k/\x∈A7n its k
theorem A4d.init (its:List Itm):A4d its (A4Y its):=fun i x hx=>by
 rcases U0 i its.length with hi|hi
 ·rw[B3c its hi]at hx;exact⟨i,.refl i,hx⟩
 ·rw[A7l (by rw[B0c];exact hi)]at hx;cases hx
theorem A4d.step {its:List Itm}{r:List (List Nm)} (hr:RowsE its r) (h:A4d its r) (i:Nat):A4d its (A21 its r i):=fun j x hx=>by
 by_cases e:i=j
 ·subst e
  rcases U0 i r.length with hi|hi
  ·rw[A21,A5D hi]at hx
   rcases(A7v hr i x).1 hx with h1|⟨k,hk,h1⟩
   ·exact h i x h1
   ·obtain⟨m,hm,hx⟩:=h k x h1
    exact⟨m,.step hk hm,hx⟩
  ·rw[A21,A7l (by rw[A2n];exact hi)]at hx;cases hx
 ·rw[A21,getD_set_ne e]at hx;exact h j x hx
theorem A4d.folds {its:List Itm}:∀(l:List Nat) {r:List (List Nm)},RowsE its r->A4d its r->A4d its (l.foldl (A21 its) r)
 | [],_,_,h=>h
 |i::l,_,hr,h=>A4d.folds l (hr.step i).1 (h.step hr i)
theorem A4d.iter {its:List Itm}:∀(n:Nat) {r:List (List Nm)},RowsE its r->A4d its r->A4d its (A4K its n r)
 |0,_,_,h=>h
 |n+1,r,hr,h=>by
  rw[A4K];split
  ·exact h
  ·exact A4d.iter n hr.round.1 (A4d.folds _ hr h)
theorem B6q {its:List Itm}{i k:Nat} (h:k∈A4f its i) {x:Nm} (hx:x∈A93 its k):x∈A93 its i:=by
 obtain⟨h1,h2,_⟩:=A7h its;rcases U0 i its.length with hi|hi
 ·have h3:=B4v (List.range its.length) h2 h1 i (A18.2 hi)
  have h4:x∈(A21 its (A8J its) i).getD i []:=by
   rw[A21,A5D (by rw[h2.len];exact hi)];exact(A7v h2 i x).2 (.inr ⟨k,h,hx⟩)
  rw[h3]at h4;exact h4
 ·rw[A4f,A0o,A7l hi]at h
  cases h
theorem C2g {its:List Itm}{i:Nat} (hi:i<its.length) (x:Nm):x∈A93 its i↔ ∃k,Rch its i k/\x∈A7n its k:=by
 constructor
 ·exact fun h=>A4d.iter _ (B0j its) (A4d.init its) i x h
 ·rintro⟨k,hk,hx⟩
  induction hk with
  |refl i=>exact(A7h its).2.2.2 i x (by rw[B3c its hi];exact hx)
  |step h _ ih=>exact B6q h (ih (B4d h).1 hx)
theorem B6s (its:List Itm) (i:Nat):Srt (A93 its i):=((A7h its).2.1.getD i).1
theorem B38 (its:List Itm):(A8J its).length=its.length:=(A7h its).2.1.len
theorem C0O {its:List Itm}{i:Nat} (h:(A0o its i).kind≠2):A93 its i= []:=by
 rcases U0 i its.length with hi|hi
 ·refine B2A (B6s its i) Srt.nil (fun x=>⟨fun hx=>?_,fun hx=>by cases hx⟩)
  obtain⟨k,hk,hx⟩:=(C2g hi x).1 hx;cases hk with
  |refl=>rw[A7n,if_neg h]at hx;exact hx
  |step h1 _=>rw[A4f,if_neg h]at h1;cases h1
 ·rw[A93,A7l (by rw[B38];exact hi)]
def B0Y (it:Itm) (c:Nm):Bool:=it.sends.any (fun x=>decide (x.name=c))
def B0C (c:Nm):Dg:=⟨0,0,10,c⟩
def B0D (its:List Itm) (i:Nat):List Dg:=((A93 its i).filter (fun c=> !B0Y (A0o its i) c)).map B0C
structure DI where
 fr:Int
 to:Int
 err:Nat
 name:List UInt8
 deriving DecidableEq
def A4i (b:Int) (d:Dg):DI:=⟨w64 (d.fr+b),w64 (d.to+b),d.err,d.name⟩
def C1O (its:List Itm) (i:Nat):List Dg:=(A0o its i).diags++((A3a its i).ds++(B0D its i++(A3c its i (-1)).ds))
def B3Y (its:List Itm) (i:Nat):List DI:=(C1O its i).map (A4i (A0o its i).at_)
def A6V (its:List Itm) (k:Nat):List DI:=(List.range k).flatMap (B3Y its)
def A5k (its:List Itm):List DI:=A6V its its.length
theorem B2O (its:List Itm) (k:Nat):A6V its (k+1)=A6V its k++B3Y its k:=by
 rw[A6V,A1O,X9, <-A6V];simp
theorem B6p {its:List Itm} (h:A5k its= []) {i:Nat} (hi:i<its.length):(A0o its i).diags= []/\(A3a its i).ds= []/\B0D its i= []/\(A3c its i (-1)).ds= []:=by
 rw[A5k,A6V,List.flatMap_eq_nil_iff]at h;have:=h i (A18.2 hi);rw[B3Y,List.map_eq_nil_iff,C1O]at this;simpa using this
def B5R (its:List Itm) (nm:List UInt8) (args:List Int):Rn:=
 if A5k its≠ [] then ⟨[],0,13,0⟩ else
 match A0Z its 2 nm with
 |none=>⟨[],0,6,0⟩
 |some j=>if args.length≠(A0o its j).params.length then ⟨[],0,5,0⟩ else
  if (A50 its 40 nm args MR0).2.err≠0 then ⟨[],0,(A50 its 40 nm args MR0).2.err,0⟩
  else ⟨(A50 its 40 nm args MR0).2.ev,(A50 its 40 nm args MR0).1,0,(A50 its 40 nm args MR0).2.steps⟩
def B3x (s:List UInt8):List (List UInt8):=(List.range (Y2 s).length).map (A1b s (Y2 s))
def C4M (s t:List UInt8) (j:Nat):Bool:= !(B3x s).contains (A1b t (Y2 t) j)
def fresh (s t:List UInt8) (k:Nat):Nat:=(List.range k).countP (C4M s t)
def A4l (s t:List UInt8):Nat:=if Z5 t=0 then fresh s t (Y2 t).length else 0
theorem B8M (s t:List UInt8) (k:Nat):fresh s t (k+1)=fresh s t k+if C4M s t k then 1 else 0:=by
 rw[fresh,A1O,List.countP_append, <-fresh,List.countP_singleton]
theorem C24 (s t:List UInt8) (k:Nat):fresh s t k<=k:=by
 have:=List.countP_le_length (p:=C4M s t) (l:=List.range k)
 rwa [List.length_range]at this
theorem C3d (T:Src) (a b:Int) (n:Nat):A41 T b n=({ (A41 T a n).1 with at_:=b},(A41 T a n).2):=by
 simp only[A41];split
 ·rfl
 ·split<;>rfl
theorem B8U (src:List UInt8) (a b:Int):item src b= { item src a with at_:=b}:=by
 rw[A7M,A7M,C3d _ a b,B4B,B4B]
theorem C2y (s:List UInt8) (f u:Int) (x:List UInt8):(B2V s f u x).length<=4000:=by
 rw[B2V];split
 ·rename_i h
  have h1:¬(f<0\/u<f\/u>s.length):=fun h2=>by rw[A6W,if_pos h2]at h;cases h
  have h2:¬(x.length>4000\/(s.length:Int)-(u-f)+x.length>4000):=fun h2=>by rw[A6W,if_neg h1,if_pos h2]at h;cases h
  simp only[E9,Q4,A0r];omega
 ·simp
inductive Well (T:Src):St->St->Prop where
 |refl (s:St):Well T s s
 |bad {s r:St} (e:Nat):Well T s r->Well T s (r.bad T e)
 |next {s r:St}:Well T s r->(r.ds≠ []\/(T.tok r.i).kind≠4)->Well T s r.next
section
variable {T:Src}
theorem C4S (f d:Nat) (s:St) (h:name (T.tok s.i).text=true):(A2Z T (f+1) d s).2.ds≠ []\/s.i+1<=(A2Z T (f+1) d s).2.i:=by
 have hl:=A2e (A56 h);rw[A2Z];dsimp only
 rw[if_neg (by omega)];split
 ·exact .inl (A2A _ _ _)
 ·split
  ·split
   ·exact .inl (A2A _ _ _)
   ·exact .inr (G9 _)
  ·split
   ·have:=(((A3t T f).2.2.1 (d+1) 1 s.next).trans (A0h T _ [41])).on
    exact .inr this
   ·split
    ·exact .inl (A2A _ _ _)
    ·split
     ·exact .inr (G9 _)
     ·have:=(((A0D T s.next).trans ((A3t T f).2.1 (d+1) [] s.next.next)).trans (A0h T _ [41])).on
      exact .inr this
theorem C7B (f d:Nat) (s:St):(stm T (f+3) d s).2.ds≠ []\/s.i+1<=(stm T (f+3) d s).2.i:=by
 have hE:=(A3t T (f+2)).2.2.1;have hB:=(A6M T (f+2)).1;rw[stm];dsimp only
 split
 ·right
  have g2:Runs T (s.next.named T).2 (if (!T.is (s.next.named T).2.i [58])=true then ((0:Nat),(s.next.named T).2) else lab T (s.next.named T).2.next).2:=by
   split
   ·exact .refl _
   ·exact(A0D T _).trans (A46 T _)
  exact(((((A2U T s.next).trans g2).trans (A0h T _ _)).trans (hE _ _ _)).trans (A0h T _ _)).on
 ·split
  ·right
   have g1:=(hE d 1 s.next).trans (hB d (A0O T (f+2) d 1 s.next).2);split
   ·exact((Runs.next g1).trans (hB d _)).on
   ·exact g1.on
  ·split
   ·exact .inr ((hE d 1 s.next).trans (hB d (A0O T (f+2) d 1 s.next).2)).on
   ·split
    ·exact .inr (((A2U T s.next).trans (hE d 1 _)).trans (A0h T _ _)).on
    ·split
     ·exact .inr ((hE d 1 s.next).trans (A0h T _ _)).on
     ·split
      ·rename_i hn
       split
       ·exact .inr (((A0D T s.next).trans (hE d 1 _)).trans (A0h T _ [59])).on
       ·have ha:=C4S (T:=T) f d s hn
        have hr:Runs T (A2Z T (f+1) d s).2 ((A0O T (f+2) d 1 s).2.need T [59]).2:=by
         rw[A0O];exact((A3t T (f+1)).2.2.2 d 1 _ _).trans (A0h T _ _)
        rcases ha with ha|ha
        ·exact .inl (hr.told ha)
        ·exact .inr (A0J ha hr.on)
      ·exact .inl (A2A _ _ _)
end
def shift (n:Nat) (t:Tok):Tok:=⟨t.kind,t.text,t.pos+n⟩
def tk (s:List UInt8) (p:Nat):List Tok:=A8q s.length s p
theorem B9M (p:Nat):tk [] p= []:=rfl
theorem B57 (s:List UInt8) (p:Nat) (hs:s≠ []):tk s p=(if (one s).1>0 then [⟨(one s).1,s.take (one s).2,p⟩] else [])++tk (s.drop (one s).2) (p+(one s).2):=by
 have hl:=A6F s hs;obtain⟨f,hf⟩:∃f,s.length=f+1:=⟨s.length-1,by omega⟩;have e:A8q f (s.drop (one s).2) (p+(one s).2)=tk (s.drop (one s).2) (p+(one s).2):=B1K _ _ _ _ (by simp;omega) (by simp);unfold tk at e |-
 rw[hf];simp only[A8q,hs,if_false];rw[e];split<;>rfl
theorem B3L (n:Nat):∀(f:Nat) (s:List UInt8) (p:Nat),A8q f s (p+n)=(A8q f s p).map (shift n)
 |0,_,_=>rfl
 |f+1,s,p=>by
  simp only[A8q];split
  ·rfl
  ·split
   ·rw[X8, <-B3L n f,show p+n+(one s).2=p+(one s).2+n by omega];rfl
   ·rw[<-B3L n f,show p+n+(one s).2=p+(one s).2+n by omega]
theorem C0G (F:UInt8->Bool):∀(r:List UInt8) (m:Nat),(r.takeWhile F).length<=m->(r.take m).takeWhile F=r.takeWhile F
 | [],m,_=>by simp
 |c::r,0,h=>by
  rw[A5r]at h |-;split at h
  ·simp at h
  ·rename_i hc;simp[hc]
 |c::r,m+1,h=>by
  rw[A1l,A5r,A5r];rw[A5r]at h;split at h
  ·rename_i hc
   rw[if_pos hc,if_pos hc,C0G F r m (by simpa using h)]
  ·rename_i hc;rw[if_neg hc,if_neg hc]
theorem C3G (s:List UInt8) (m:Nat) (hs:s≠ []) (h:(one s).2<=m):one (s.take m)=one s:=by
 cases s with
 |nil=>exact absurd rfl hs
 |cons c r=>
  have hm:1<=m:=A0J (A6F (c::r) hs).1 h;obtain⟨m,rfl⟩:∃k,m=k+1:=⟨m-1,by omega⟩;rw[A1l];have key:∀F:UInt8->Bool,run F r<=m+1->run F (r.take m)=run F r:=fun F hF=>by
   unfold run at hF |-
   rw[C0G F r m (by omega)]
  simp only[one]at h |-;by_cases h1:A9p c=true
  ·rw[if_pos h1]at h |-;rw[key _ h,if_pos h1]
  ·rw[if_neg h1]at h |-;rw[if_neg h1]
   by_cases h2:c.toNat=35
   ·rw[if_pos h2]at h |-;rw[key _ h,if_pos h2]
   ·rw[if_neg h2]at h |-;rw[if_neg h2]
    by_cases h3:A40 c=true
    ·rw[if_pos h3]at h |-;rw[key _ h,if_pos h3]
    ·rw[if_neg h3]at h |-;rw[if_neg h3]
     by_cases h4:A4Z c=true
     ·rw[if_pos h4]at h |-;rw[key _ h,if_pos h4]
     ·rw[if_neg h4]at h |-;rw[if_neg h4]
theorem C7E:∀(k:Nat) (s:List UInt8) (p n:Nat) (t:Tok),s.length=k->(tk s p)[n]?=some t->p<=t.pos/\tk (s.take (t.pos-p)) p=(tk s p).take n:=by
 intro k;induction k using Nat.strongRecOn with
 |_ k ih=>
  intro s p n t hk ht;by_cases hs:s= []
  ·subst hs;rw[B9M]at ht;simp at ht
  have hl:=A6F s hs;have step:=B57 s p hs;have rest:∀(n:Nat),(tk (s.drop (one s).2) (p+(one s).2))[n]?=some t->p<=t.pos/\tk (s.take (t.pos-p)) p=(if (one s).1>0 then [⟨(one s).1,s.take (one s).2,p⟩] else [])++(tk (s.drop (one s).2) (p+(one s).2)).take n:=fun n hn=>by
   obtain⟨h1,h2⟩:=ih (s.drop (one s).2).length (by simp;omega) (s.drop (one s).2) (p+(one s).2) n t rfl hn;refine⟨by omega,?_⟩
   have hm:(one s).2<=t.pos-p:=by omega
   have hne:s.take (t.pos-p)≠ []:=by
    intro e;have:=congrArg List.length e;simp at this
    rcases this with this|this
    ·omega
    ·exact hs this
   have e3:((s.drop (one s).2).take (t.pos-(p+(one s).2)))=(s.take (t.pos-p)).drop (one s).2:=by
    rw[List.drop_take];congr 1;omega
   have e4:(s.take (t.pos-p)).take (one s).2=s.take (one s).2:=by rw[A28,A1g hm]
   rw[B57 _ _ hne,C3G s _ hs hm,e4, <-e3,h2]
  rw[step]at ht |-;by_cases hp:(one s).1>0
  ·rw[if_pos hp]at ht rest |-
   cases n with
   |zero=>
    simp only[A7T,A0A,U3]at ht;subst ht;exact⟨G9 _,by simp[B9M]⟩
   |succ n=>
    obtain⟨h1,h2⟩:=rest n (by simpa using ht);exact⟨h1,by rw[h2];simp⟩
  ·rw[if_neg hp]at ht rest |-
   exact rest n (by simpa using ht)
theorem B9O (s:List UInt8) (n:Nat) (t:Tok) (h:(U8 s)[n]?=some t):U8 (s.take t.pos)=(U8 s).take n:=by
 have:=(C7E _ s 0 n t rfl h).2;rw[Nat.sub_zero]at this;exact this
section
variable {T T':Src}{n:Nat}
end
def bs (s:List UInt8) (l:List Tok):List Nat:=(l.filter (A97 s)).map (·.pos)
theorem C0b (s:List UInt8):∀(l:List Tok) (acc:List Nat),acc≠ []->l.foldl (A15 s) acc=acc++bs s l
 | [],acc,_=>by simp[bs]
 |t::l,acc,h=>by
  rw[A1f,C0b s l _ (B2Z s acc t),A15];by_cases hb:A97 s t=true
  ·rw[if_pos (.inl hb),bs,bs,List.filter_cons_of_pos hb];simp
  ·rw[if_neg (by rintro(h1|h1);exact hb h1;exact h h1),bs,bs,List.filter_cons_of_neg hb]
theorem B27 (s:List UInt8) (p:Nat):∀(l:List Tok) (acc:List Nat) (i:Nat),acc.length<=i->(l.foldl (A15 s) acc)[i]?=some p->
  ∃n t,l[n]?=some t/\t.pos=p/\(l.take n).foldl (A15 s) acc=(l.foldl (A15 s) acc).take i/\(l.foldl (A15 s) acc).drop (i+1)=bs s (l.drop (n+1))
 | [],acc,i,h,hp=>by
  rw[List.foldl_nil,A07 h]at hp;cases hp
 |t::l,acc,i,h,hp=>by
  rw[A1f]at hp |-;by_cases h2:(A15 s acc t).length<=i
  ·obtain⟨n,u,h3,h4,h5,h6⟩:=B27 s p l _ i h2 hp
   exact⟨n+1,u,by simpa using h3,h4,by rw[A1l,A1f];exact h5,by rw[h6];simp⟩
  ·have h3:=B6K s acc t
   have h4:i=acc.length:=by omega
   have h5:A15 s acc t=acc++ [t.pos]:=by
    rw[A15]at h2 |-;split
    ·rfl
    ·rename_i hn
     rw[if_neg hn]at h2;omega
   rw[C0b s l _ (B2Z s acc t),h5]at hp |-;refine⟨0,t,rfl,?_,?_,?_⟩
   ·rw[h4,O3,A19 (G9 _)]at hp
    simpa using hp
   ·rw[h4,O3,List.take_left];rfl
   ·rw[h4,List.drop_left' (by simp)];rfl
theorem C55:∀(k:Nat) (s:List UInt8) (p n:Nat) (t:Tok),s.length=k->(tk s p)[n]?=some t->p<=t.pos/\(tk s p).drop n=tk (s.drop (t.pos-p)) t.pos:=by
 intro k;induction k using Nat.strongRecOn with
 |_ k ih=>
  intro s p n t hk ht;by_cases hs:s= []
  ·subst hs;rw[B9M]at ht;simp at ht
  have hl:=A6F s hs;have step:=B57 s p hs;have rest:∀(n:Nat),(tk (s.drop (one s).2) (p+(one s).2))[n]?=some t->p<=t.pos/\(tk (s.drop (one s).2) (p+(one s).2)).drop n=tk (s.drop (t.pos-p)) t.pos:=fun n hn=>by
   obtain⟨h1,h2⟩:=ih (s.drop (one s).2).length (by simp;omega) (s.drop (one s).2) (p+(one s).2) n t rfl hn;refine⟨by omega,?_⟩
   rw[h2,A5M,show (one s).2+(t.pos-(p+(one s).2))=t.pos-p by omega]
  by_cases ho:(one s).1>0
  ·rw[if_pos ho]at step
   cases n with
   |zero=>
    rw[step]at ht;simp at ht
    subst ht;simp
   |succ n=>
    rw[step]at ht |-;simpa using rest n (by simpa using ht)
  ·rw[if_neg ho]at step
   rw[step]at ht |-;simpa using rest n (by simpa using ht)
theorem B28 {l:List Nat}{i d x:Nat} (h:l[i]?=some x):l.getD i d=x:=by rw[O4,h];rfl
theorem B6R (s:List UInt8) (n:Nat) (t:Tok) (h:(U8 s)[n]?=some t):(U8 s).drop n=(U8 (s.drop t.pos)).map (shift t.pos):=by
 have h6:=(C55 s.length s 0 n t rfl h).2;have e:U8 s=tk s 0:=rfl;rw[e,h6,Nat.sub_zero];have:=B3L t.pos (s.drop t.pos).length (s.drop t.pos) 0;rw[V6]at this;exact this
theorem B91 {s:List UInt8}{i c:Nat} (h:(Y2 s)[i]?=some c):∃(n:Nat) (t:Tok),(U8 s)[n]?=some t/\t.pos=c:=by
 obtain⟨n,t,h1,h2,_⟩:=B27 s c (U8 s) [] i (H7 _) h;exact⟨n,t,h1,h2⟩
theorem B9q (s:List UInt8) {i:Nat} (hi:i<(Y2 s).length):∃m n,(U8 (A1b s (Y2 s) i)).map (shift ((Y2 s).getD i 0))=((U8 s).take m).drop n:=by
 have hc:(Y2 s)[i]?=some (Y2 s)[i]:=G6 hi;obtain⟨n,t,h1,h2⟩:=B91 hc;have hlt:=A7E s hi;rw[A1b,B28 hc, <-h2];rw[B28 hc, <-h2]at hlt;rcases U0 (i+1) (Y2 s).length with h3|h3
 ·obtain⟨m,u,h4,h5⟩:=B91 (G6 h3)
  have e1:(Y2 s).getD (i+1) s.length=u.pos:=by rw[B28 (G6 h3),h5]
  rw[e1]at hlt |-;have h6:=B9O s m u h4;have hnm:n<m:=by
   rcases U0 n m with h|h
   ·exact h
   ·exfalso
    have hn:=A0t.1 h1;have hm:=A0t.1 h4;obtain⟨hn1,hn2⟩:=hn;obtain⟨hm1,hm2⟩:=hm;rcases U0 m n with h7|h7
    ·have:=A2c.1 (A4r s) m n hm1 hn1 h7
     rw[hn2,hm2]at this;omega
    ·obtain rfl:n=m:=by omega
     rw[hn2]at hm2;subst hm2;omega
  refine⟨m,n,?_⟩
  have h8:(U8 (s.take u.pos))[n]?=some t:=by rw[h6,List.getElem?_take_of_lt hnm];exact h1
  rw[<-h6,B6R _ n t h8,List.drop_take]
 ·have e1:(Y2 s).getD (i+1) s.length=s.length:=by rw[O4,A07 h3];rfl
  refine⟨(U8 s).length,n,?_⟩
  rw[e1,V5,B6R s n t h1,A0u (by rw[A0r];omega)]
theorem C1G (s:List UInt8) {i:Nat} (hi:i<(Y2 s).length) {t:Tok} (h:t∈U8 (A1b s (Y2 s) i)):shift ((Y2 s).getD i 0) t∈U8 s:=by
 obtain⟨m,n,h1⟩:=B9q s hi;have h2:shift ((Y2 s).getD i 0) t∈((U8 s).take m).drop n:=h1 ▸ A5s h;exact A7V (List.mem_of_mem_drop h2)
def A0R (s:List UInt8) (a:Nat) (n:List UInt8):Prop:=a+n.length<=s.length/\(s.drop a).take n.length=n/\(n≠ []->name n=true/\∃k,(⟨k,n,a⟩:Tok)∈U8 s)
theorem A8f {s:List UInt8}{a:Nat} (h:a<=s.length):A0R s a []:=⟨by simpa using h,by simp,fun h=>absurd rfl h⟩
def stE (s:List UInt8):PE:=fun k nm _ _ f _=>(k=2\/k=4)->A0R s f nm
def stS (s:List UInt8):PS:=fun k nm a _ _ _ _=>(k=1\/k=2\/k=5)->A0R s a nm
theorem B77 (src:List UInt8) (i:Nat):((⟨U8 src,src.length⟩:Src).tok i).pos<=src.length:=by
 rw[Src.tok];by_cases h:i<(U8 src).length
 ·have hk:=A2E src (U8 src)[i] (O7 h)
  simp only[O4,G6 h,Option.getD_some];exact Nat.le_of_lt hk.pos
 ·simp only[O4,A07 (Nat.le_of_not_lt h),Option.getD_none]
  exact G9 _
theorem A8p (src:List UInt8) (i:Nat) (hn:name ((⟨U8 src,src.length⟩:Src).tok i).text=true):A0R src ((⟨U8 src,src.length⟩:Src).tok i).pos ((⟨U8 src,src.length⟩:Src).tok i).text:=by
 rw[Src.tok]at hn |-;by_cases h:i<(U8 src).length
 ·have hk:=A2E src (U8 src)[i] (O7 h)
  simp only[O4,G6 h,Option.getD_some]at hn |-;exact⟨hk.fit,hk.text.symm,fun _=>⟨hn,_,O7 h⟩⟩
 ·simp only[O4,A07 (Nat.le_of_not_lt h),Option.getD_none]
  exact A8f (G9 _)
theorem A43 (src:List UInt8) (s:St):A0R src ((⟨U8 src,src.length⟩:Src).tok s.i).pos (s.named ⟨U8 src,src.length⟩).1:=by
 have h0:A0R src ((⟨U8 src,src.length⟩:Src).tok s.i).pos []:=A8f (B77 src s.i);rw[St.named];split
 ·rename_i hn
  exact A8p src s.i hn
 ·split
  ·exact h0
  ·exact h0
theorem C7v (src:List UInt8):AtE ⟨U8 src,src.length⟩ (stE src):=
 ⟨fun h=>(by omega),fun i h=>(by omega),fun i n _ _ h=>(by omega),fun i hn _=>A8p src i hn,fun i j m hn _ _ _=>A8p src i hn,fun i k1 n1 v1 m1 f1 t1 k2 n2 v2 m2 f2 t2 _ _ _ h=>(by omega)⟩
theorem C7w (src:List UInt8):AtS ⟨U8 src,src.length⟩ (stS src):=
 ⟨fun h=>(by omega),fun i s lb o j _ _=>A43 src s,fun i j hn _=>A8p src i hn,fun k i j hk h=>(by omega),fun i s j _=>A43 src s⟩
structure ItS (s:List UInt8) (p:Nat) (q:List UInt8) (it:Itm):Prop where
 at_:it.at_=p
 sub:∀a n,A0R q a n->A0R s (p+a) n
 body:X7 (stE q) (stS q) it.body
 params:∀x∈it.params,A0R q x.at_ x.name
 sends:∀x∈it.sends,A0R q x.at_ x.name
 mark:A0R q it.mark it.name
def A8F (s:List UInt8) (it:Itm):Prop:= ∃p q,ItS s p q it
theorem B5O (s:List UInt8) {i:Nat} (hi:i<(Y2 s).length) {a:Nat}{n:List UInt8} (h:A0R (A1b s (Y2 s) i) a n):A0R s ((Y2 s).getD i 0+a) n:=by
 obtain⟨c1,c2⟩:=A7E s hi;obtain⟨h1,h2,h3⟩:=h;have h4:=fun (k:Nat) (h:(⟨k,n,a⟩:Tok)∈U8 (A1b s (Y2 s) i))=>C1G s hi h
 rw[A1b,Q4,A0r]at h1;rw[A1b]at h2;refine⟨by omega,?_,fun hn=>?_⟩
 case refine_2=>
  obtain⟨hnm,k,hk⟩:=h3 hn;refine⟨hnm,k,?_⟩
  rw[A3M];exact h4 k hk
 rw[List.drop_take,A28,A5M,A1g (by omega)]at h2;exact h2
theorem C2X (s:List UInt8):∀it∈J7 s,A8F s it:=by
 intro it hit;rw[J7]at hit;split at hit
 ·rw[A3I,A0x]at hit
  obtain⟨i,hi,rfl⟩:=hit;have hi:=A18.1 hi;obtain⟨c1,c2⟩:=A7E s hi;have hall:=B3f (src:=A1b s (Y2 s) i) ((Y2 s).getD i 0:Nat) (C7v _) (C7w _) (r:=fun x=>A0R (A1b s (Y2 s) i) x.at_ x.name) (t:=fun x=>A0R (A1b s (Y2 s) i) x.at_ x.name) (fun s _ _=>A43 _ s) (fun s=>A43 _ s);refine⟨(Y2 s).getD i 0,A1b s (Y2 s) i,?_⟩
  rw[A0S];refine⟨B2t _ _,fun a n h=>B5O s hi h,hall.body,hall.params,hall.sends,?_⟩
  rcases hall.mark with ⟨h1,h2⟩|⟨st,h1,h2⟩
  ·rw[h1]
   rcases h2 with ⟨j,h2⟩|h2
   ·rw[h2];exact A8f (B77 (A1b s (Y2 s) i) j)
   ·rw[h2];exact A8f (H7 _)
  ·rw[h1,h2];exact A43 _ st
 ·cases hit
def C6k (s:List UInt8) (u:Us):Prop:= ∃f d n,u.fr=((f:Nat):Int)/\u.to=((f+n.length:Nat):Int)/\u.df=((d:Nat):Int)/\n≠ []/\A0R s f n/\A0R s d n
def NW.ok (s:List UInt8) (w:NW):Prop:= ∀u∈w.us,C6k s u
def A59 (q:List UInt8) (sc:List Lc):Prop:= ∀l∈sc,l.name≠ []/\A0R q l.at_ l.name
theorem A9G {s:List UInt8}{w:NW} (h:w.ok s) (a e:Nat) (n:List UInt8):(w.tell a e n).ok s:=h
theorem C4t {s:List UInt8}{w:NW} (h:w.ok s) {p a d:Nat}{n:List UInt8}{b e:Int} (hb:b=p) (he:e=d) (hn:n≠ []) (h1:A0R s (p+a) n) (h2:A0R s d n):(w.use b a n e).ok s:=by
 intro u hu;rcases A0d.1 hu with hu|hu
 ·exact h u hu
 ·obtain rfl:=A0v.1 hu
  exact⟨p+a,d,n,by dsimp only;omega,by dsimp only;omega,he,hn,h1,h2⟩
theorem B4p {s:List UInt8}{its:List Itm} (h:∀x∈its,A8F s x) {k:Int}{n:List UInt8}{j:Nat} (hf:A0Z its k n=some j):n≠ []/\∃d:Nat,(A0o its j).at_+(A0o its j).mark=(d:Int)/\A0R s d n:=by
 obtain⟨hj,h1,h2,h3,h4⟩:=A2D hf;obtain⟨p,q,hi⟩:=h _ h4;refine⟨h3,p+(A0o its j).mark,by rw[hi.at_];omega,?_⟩
 have:=hi.sub _ _ hi.mark;rw[h2]at this;exact this
def A8H (s:List UInt8) (p:Nat) (q:List UInt8):Prop:= ∀a n,A0R q a n->A0R s (p+a) n
section
variable {s q:List UInt8}{p:Nat}{its:List Itm}{sc:List Lc}
theorem C0h (hb:A8H s p q) (hsc:A59 q sc) {a:Nat}{n:List UInt8} (hst:A0R q a n) {w:NW} (hw:w.ok s):(A72 p sc a n w).ok s:=by
 rw[A72];split
 ·rename_i l hl
  obtain⟨hm,hn⟩:=A7F hl;obtain⟨h1,h2⟩:=hsc _ hm;rw[hn]at h1 h2;exact C4t hw rfl (d:=p+l.at_) (by omega) h1 (hb _ _ hst) (hb _ _ h2)
 ·split
  ·exact hw
  ·exact A9G hw _ _ _
theorem B5q (hi:∀x∈its,A8F s x) (hb:A8H s p q) (k:Int) {a:Nat}{n:List UInt8} (hst:A0R q a n) {w:NW} (hw:w.ok s):(A5e its p k a n w).ok s:=by
 rw[A5e];split
 ·rename_i j hj
  obtain⟨h1,d,h2,h3⟩:=B4p hi hj;exact C4t hw rfl h2 h1 (hb _ _ hst) h3
 ·split
  ·exact hw
  ·exact A9G hw _ _ _
theorem C2x (hi:∀x∈its,A8F s x) (hb:A8H s p q) {a:Nat}{n:List UInt8} (hst:A0R q a n) (m:Nat) {w:NW} (hw:w.ok s):(A5h its p a n m w).ok s:=by
 have h:=B5q hi hb 2 hst hw;rw[A5h];split
 ·split
  ·exact A9G h _ _ _
  ·exact h
 ·exact h
theorem B1J (h:A59 q sc) {n:List UInt8}{a:Nat} (hn:n≠ []) (hst:A0R q a n):A59 q (sc++ [⟨n,a⟩]):=fun l hl=>by
 rcases A0d.1 hl with hl|hl
 ·exact h l hl
 ·obtain rfl:=A0v.1 hl
  exact⟨hn,hst⟩
theorem C3s (hsc:A59 q sc) {a:Nat}{n:List UInt8} (hst:A0R q a n) {w:NW} (hw:w.ok s):A59 q (mkN n a sc w).1/\(mkN n a sc w).2.ok s:=by
 rw[mkN];split
 ·exact⟨hsc,hw⟩
 ·rename_i hn
  refine⟨B1J hsc hn hst,?_⟩
  dsimp only
  split
  ·exact A9G hw _ _ _
  ·exact hw
mutual
theorem C2N (hi:∀x∈its,A8F s x) (hb:A8H s p q) (hsc:A59 q sc):∀(e:Ex),e.all (stE q)->∀ {w:NW},w.ok s->(exN its p sc e w).ok s
 | .mk k nm n args f t,h,w,hw=>by
  rw[Ex.all]at h;rw[exN];refine B97 hi hb hsc args h.2 ?_
  have h1:=h.1;split
  ·rename_i hk;exact C0h hb hsc (h1 (.inl hk)) hw
  ·split
   ·rename_i hk;exact C2x hi hb (h1 (.inr hk)) _ hw
   ·exact hw
theorem B97 (hi:∀x∈its,A8F s x) (hb:A8H s p q) (hsc:A59 q sc):∀(l:List Ex),A1p (stE q) l->∀ {w:NW},w.ok s->(A5d its p sc l w).ok s
 | [],_,w,hw=>by rw[A5d];exact hw
 |e::l,h,w,hw=>by
  rw[A1p]at h;rw[A5d];exact B97 hi hb hsc l h.2 (C2N hi hb hsc e h.1 hw)
 end
mutual
theorem C50 (hi:∀x∈its,A8F s x) (hb:A8H s p q):∀(x:Stm),x.all (stE q) (stS q)->∀ {sc:List Lc},A59 q sc->∀ {w:NW},w.ok s->A59 q (A5Z its p x sc w).1/\(A5Z its p x sc w).2.ok s
 | .mk k nm a lb o e thn els f t,h,sc,hsc,w,hw=>by
  rw[Stm.all]at h;obtain⟨h1,h2,h3,h4⟩:=h;have he:=C2N hi hb hsc e h2 hw;rw[A5Z];split
  ·rename_i hk;exact C3s hsc (h1 (.inl hk)) he
  ·split
   ·rename_i hk;exact⟨hsc,C0h hb hsc (h1 (.inr (.inl hk))) he⟩
   ·split
    ·rename_i hk;exact⟨hsc,B5q hi hb 1 (h1 (.inr (.inr hk))) he⟩
    ·split
     ·exact⟨hsc,(B02 hi hb els h4 hsc (B02 hi hb thn h3 hsc he).2).2⟩
     ·exact⟨hsc,he⟩
theorem B02 (hi:∀x∈its,A8F s x) (hb:A8H s p q):∀(l:List Stm),X7 (stE q) (stS q) l->∀ {sc:List Lc},A59 q sc->∀ {w:NW},w.ok s->A59 q (A1c its p l sc w).1/\(A1c its p l sc w).2.ok s
 | [],_,sc,hsc,w,hw=>by rw[A1c];exact⟨hsc,hw⟩
 |x::l,h,sc,hsc,w,hw=>by
  rw[X7]at h;rw[A1c];have h1:=C50 hi hb x h.1 hsc hw;exact B02 hi hb l h.2 h1.1 h1.2
 end
theorem C0o:∀(l:List Par),(∀x∈l,A0R q x.at_ x.name)->∀ {sc:List Lc},A59 q sc->∀ {w:NW},w.ok s->A59 q (A3V l sc w).1/\(A3V l sc w).2.ok s
 | [],_,sc,hsc,w,hw=>by rw[A3V];exact⟨hsc,hw⟩
 |x::l,h,sc,hsc,w,hw=>by
  rw[A3V];have h1:=C3s hsc (h x Q7) hw;exact C0o l (fun y hy=>h y (A0Q _ hy)) h1.1 h1.2
theorem C0x (hi:∀x∈its,A8F s x) (hb:A8H s p q):∀(l:List Rf),(∀x∈l,A0R q x.at_ x.name)->∀ {dn:List Rf}{w:NW},w.ok s->(A6a its p dn l w).ok s
 | [],_,dn,w,hw=>by rw[A6a];exact hw
 |x::l,h,dn,w,hw=>by
  rw[A6a];refine C0x hi hb l (fun y hy=>h y (A0Q _ hy)) ?_
  have h1:=B5q hi hb 1 (h x Q7) hw;rw[A63];split
  ·exact A9G h1 _ _ _
  ·exact h1
theorem B7Q:A59 q []:=fun l h=>by cases h
theorem C6T (hi:∀x∈its,A8F s x) {it:Itm} (h:ItS s p q it) {w:NW} (hw:w.ok s):(fnN its it w).ok s:=by
 have hb:A8H s p q:=h.sub;rw[fnN,h.at_];have h1:=C0o it.params h.params B7Q hw;exact(B02 hi hb it.body h.body h1.1 (C0x hi hb it.sends h.sends h1.2)).2
theorem C4z (hi:∀x∈its,A8F s x) {i:Nat} (hlt:i<its.length):(A3a its i).ok s:=by
 have hm:A0o its i∈its:=by rw[A0o,O4,G6 hlt];exact O7 hlt
 obtain⟨p,q,h⟩:=hi _ hm;have h0:NW0.ok s:=fun u hu=>by cases hu
 have h1:(if B04 its i (A0o its i)=true then NW0.tell (A0o its i).mark 7 (A0o its i).name else NW0).ok s:=by
  split
  ·exact A9G h0 _ _ _
  ·exact h0
 rw[A3a];split
 ·exact C6T hi h h1
 ·exact h1
theorem B8b (hi:∀x∈its,A8F s x):∀u∈A1Z its,C6k s u:=fun u hu=>by
 rw[A1Z,A49,A6B]at hu;obtain⟨i,h1,h2⟩:=hu;exact C4z hi (A18.1 h1) u h2
end
structure Pl where
 name:List UInt8
 at_:Int
mutual
def B16 (b:Int):Stm->List Pl
 | .mk k nm a _ _ _ thn els _ _=>(if k=1/\nm≠ [] then [⟨nm,b+a⟩] else [])++(A01 b thn++A01 b els)
def A01 (b:Int):List Stm->List Pl
 | []=> []
 |x::xs=>B16 b x++A01 b xs
 end
theorem C4k (b:Int) (x:Stm):B16 b x=(if x.kind=1/\x.name≠ [] then [⟨x.name,b+x.at_⟩] else [])++(A01 b x.thn++A01 b x.els):=by cases x;rw[B16];rfl
theorem B0n (b:Int):∀(l r:List Stm),A01 b (l++r)=A01 b l++A01 b r
 | [],r=>by rw[A01];rfl
 |x::l,r=>by rw[Y0,A01,A01,B0n b l r,O3]
theorem B74 (b:Int) {l:List Stm}{k:Nat}{x:Stm} (h:l[k]?=some x):A01 b (l.take (k+1))=A01 b (l.take k)++B16 b x:=by
 rw[Q8 h,B0n,A01,A01,J3]
def A52 (b:Int) (p:Par):List Pl:=if p.name≠ [] then [⟨p.name,b+p.at_⟩] else []
def B8T (it:Itm):List Pl:=if it.kind=3\/it.name= [] then [] else ⟨it.name,it.at_+it.mark⟩::(it.params.flatMap (A52 it.at_)++A01 it.at_ it.body)
def A3n (its:List Itm):List Pl:=its.flatMap B8T
theorem B85 {its:List Itm}{k:Nat}{it:Itm} (h:its[k]?=some it):A3n (its.take (k+1))=A3n (its.take k)++B8T it:=by
 rw[A3n,Q8 h,X9, <-A3n];simp
def B9r (l:List Pl) (at_:Int):Option Pl:=l.find? (fun d=>decide (d.at_<=at_) && decide (at_<d.at_+d.name.length))
def B6N (its:List Itm) (at_:Int):Option Int:=match B2b (A1Z its) at_ with
 |some u=>some u.df
 |none=>(B9r (A3n its) at_).map (·.at_)
def B5C (l:List Pl) (df:Int):List UInt8:=l.foldl (fun o d=>if d.at_=df then d.name else o) []
theorem C1x {l:List Pl}{k:Nat}{d:Pl} (h:l[k]?=some d) (df:Int):B5C (l.take (k+1)) df=if d.at_=df then d.name else B5C (l.take k) df:=by
 rw[B5C,Q8 h,A5t];rfl
def A3H (us:List Us) (df:Int):List Int:=(us.filter (fun u=>decide (u.df=df))).map (·.fr)
theorem B8O {us:List Us}{k:Nat}{u:Us} (h:us[k]?=some u) (df:Int):A3H (us.take (k+1)) df=A3H (us.take k) df++(if u.df=df then [u.fr] else []):=by
 rw[A3H,Q8 h,A7W,Y8, <-A3H];by_cases e:u.df=df
 ·simp[e]
 ·simp[e]
def A35 (its:List Itm) (df:Int):List Int:=Go.Lib.compact ((df::A3H (A1Z its) df).mergeSort (fun x y=>decide (x<=y)))
def A53 (s nm:List UInt8) (n:Nat):List Int->List UInt8×Int->List UInt8×Int
 | [],x=>x
 |k::l,x=>A53 s nm n l (x.1++((s.drop x.2.toNat).take (k.toNat-x.2.toNat)++nm),k+n)
def C63 (s nm:List UInt8) (n:Nat) (l:List Int):List UInt8:=(A53 s nm n l ([],0)).1++s.drop (A53 s nm n l ([],0)).2.toNat
def A68 (l:List Int) (a:Int):Nat:=(l.filter (fun k=>decide (k<a))).length
theorem B6o {l:List Int}{k:Nat}{z:Int} (h:l[k]?=some z) (a:Int):A68 (l.take (k+1)) a=A68 (l.take k) a+(if z<a then 1 else 0):=by
 rw[A68,Q8 h,A7W,E9, <-A68];by_cases e:z<a
 ·simp[e]
 ·simp[e]
def A7e (l:List Int) (more:Int) (a:Int):Int:=a+(A68 l a:Int) *more
def A5C (us vs:List Us) (l:List Int) (more:Int) (k:Nat):Bool:=(List.range k).all (fun i=>decide (A7e l more (us.getD i ⟨0,0,0⟩).fr=(vs.getD i ⟨0,0,0⟩).fr) && decide (A7e l more (us.getD i ⟨0,0,0⟩).df=(vs.getD i ⟨0,0,0⟩).df))
def B47 (us vs:List Us) (l:List Int) (more:Int):Bool:=decide (us.length=vs.length) && A5C us vs l more us.length
def toR (s:List UInt8) (at_:Int) (nm:List UInt8):List UInt8×Nat:=
 if Z5 s≠0 then ([],Z5 s) else
 if A5k (J7 s)≠ [] then ([],13) else
 match B6N (J7 s) at_ with
 |none=>([],6)
 |some df=>
  if name nm=false then ([],7) else
  let old:=B5C (A3n (J7 s)) df
  let l:=A35 (J7 s) df
  let t:=C63 s nm old.length l
  if Z5 t≠0 then ([],Z5 t) else
  if A5k (J7 t)≠ [] then ([],7) else
  if B47 (A1Z (J7 s)) (A1Z (J7 t)) l ((nm.length:Int)-old.length)=false then ([],7) else (t,0)
end Go.Sp
