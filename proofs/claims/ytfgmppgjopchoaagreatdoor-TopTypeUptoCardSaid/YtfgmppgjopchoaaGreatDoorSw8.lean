/- Own work. -/
import Derived.Test.YtfgmppgjopchoaaGreatDoorSw7
import Derived.Lib.SlicesCompact
set_option maxHeartbeats 64000000
namespace Go.Sp
abbrev Nm:=List UInt8
theorem A6P (a:Nm):¬a<a:=List.lt_irrefl a
theorem B1X {a b c:Nm} (h:a<b) (k:b<c):a<c:=List.lt_trans h k
theorem C59 (a b:Nm):a<b\/a=b\/b<a:=by
 rcases Decidable.em (a<b) with h|h
 ·exact .inl h
 ·rcases Decidable.em (b<a) with k|k
  ·exact .inr (.inr k)
  ·exact .inr (.inl (List.le_antisymm (List.not_lt.1 k) (List.not_lt.1 h)))
theorem C16 {a b:Nm} (h:a<b):¬b<a:=fun k=>A6P a (B1X h k)
def Srt (l:List Nm):Prop:=l.Pairwise (· < ·)
theorem Srt.nil:Srt []:=List.Pairwise.nil
theorem B2T:∀ {a b:List Nm},Srt a->Srt b->(∀x,x∈a↔x∈b)->a=b
 | [],[],_,_,_=>rfl
 | [],y::b,_,_,h=>absurd ((h y).2 Q5) (by simp)
 |x::a,[],_,_,h=>absurd ((h x).1 Q5) (by simp)
 |x::a,y::b,ha,hb,h=>by
  obtain⟨ha1,ha2⟩:=A1A.1 ha;obtain⟨hb1,hb2⟩:=A1A.1 hb;have hx:=(h x).1 Q5;have hy:=(h y).2 Q5;have e:x=y:=by
   rcases U8.1 hx with e|hx
   ·exact e
   ·rcases U8.1 hy with e|hy
    ·exact e.symm
    ·exact absurd (ha1 y hy) (C16 (hb1 x hx))
  subst e
  congr 1
  refine B2T ha2 hb2 (fun z=>⟨fun hz=>?_,fun hz=>?_⟩)
  ·rcases U8.1 ((h z).1 (A0L _ hz)) with e|h1
   ·subst e;exact absurd (ha1 z hz) (A6P z)
   ·exact h1
  ·rcases U8.1 ((h z).2 (A0L _ hz)) with e|h1
   ·subst e;exact absurd (hb1 z hz) (A6P z)
   ·exact h1
def A7Y (s:Nm):List Nm->List Nm
 | []=> [s]
 |x::l=>if x<s then x::A7Y s l else s::x::l
def A4S (l:List Nm) (s:Nm):List Nm:=if s= []\/s∈l then l else A7Y s l
theorem B02 (s x:Nm):∀(l:List Nm),x∈A7Y s l↔x=s\/x∈l
 | []=>by simp[A7Y]
 |y::l=>by
  rw[A7Y];split
  ·rw[U8,B02 s x l,U8]
   constructor
   ·rintro(h|h|h)
    ·exact .inr (.inl h)
    ·exact .inl h
    ·exact .inr (.inr h)
   ·rintro(h|h|h)
    ·exact .inr (.inl h)
    ·exact .inl h
    ·exact .inr (.inr h)
  ·simp
theorem B3z {s:Nm}:∀ {l:List Nm},Srt l->s∉l->Srt (A7Y s l)
 | [],_,_=>by rw[A7Y];exact B0y _ _
 |y::l,h,hs=>by
  obtain⟨h1,h2⟩:=A1A.1 h;rw[A7Y];split
  ·rename_i hy
   refine A1A.2 ⟨fun z hz=>?_,B3z h2 (fun hm=>hs (A0L _ hm))⟩
   rcases(B02 s z l).1 hz with rfl|hz
   ·exact hy
   ·exact h1 z hz
  ·rename_i hy
   have hsy:s<y:=by
    rcases C59 s y with h|h|h
    ·exact h
    ·subst h;exact absurd Q5 hs
    ·exact absurd h hy
   refine A1A.2 ⟨fun z hz=>?_,h⟩
   rcases U8.1 hz with rfl|hz
   ·exact hsy
   ·exact B1X hsy (h1 z hz)
theorem A9g (s:Nm):∀(l:List Nm),(A7Y s l).length=l.length+1
 | []=>rfl
 |y::l=>by
  rw[A7Y];split
  ·rw[F9,A9g s l,F9]
  ·rfl
theorem C0J {s:Nm}:∀ {l:List Nm}{k:Nat},k<=l.length->(∀j x,j<k->l[j]?=some x->x<s)->(∀x,l[k]?=some x->¬x<s)->A7Y s l=l.take k++s::l.drop k
 | [],k,hk,_,_=>by
  obtain rfl:k=0:=by simpa using hk
  rfl
 |y::l,0,_,_,h2=>by
  rw[A7Y,if_neg (h2 y rfl)];rfl
 |y::l,k+1,hk,h1,h2=>by
  rw[A7Y,if_pos (h1 0 y (by omega) rfl),A1i,List.drop_succ_cons,X3]
  congr 1
  refine C0J (by simpa using hk) (fun j x hj hx=>h1 (j+1) x (by omega) (by simpa using hx)) (fun x hx=>h2 x (by simpa using hx))
theorem B26 (l:List Nm) (s x:Nm):x∈A4S l s↔x∈l\/(x=s/\s≠ []):=by
 rw[A4S];split
 ·rename_i h
  constructor
  ·exact .inl
  ·rintro(h1|⟨rfl,h1⟩)
   ·exact h1
   ·rcases h with h|h
    ·exact absurd h h1
    ·exact h
 ·rename_i h
  rw[B02];constructor
  ·rintro(rfl|h1)
   ·exact .inr ⟨rfl,fun e=>h (.inl e)⟩
   ·exact .inl h1
  ·rintro(h1|⟨rfl,_⟩)
   ·exact .inr h1
   ·exact .inl rfl
theorem A8X {l:List Nm} (h:Srt l) (s:Nm):Srt (A4S l s):=by
 rw[A4S];split
 ·exact h
 ·rename_i h1
  exact B3z h (fun hm=>h1 (.inr hm))
theorem B0L (l:List Nm) (s:Nm):l.length<=(A4S l s).length/\(A4S l s).length<=l.length+1:=by
 rw[A4S];split
 ·omega
 ·rw[A9g];omega
theorem B1w {l:List Nm}{s:Nm} (h:s= []\/s∈l):A4S l s=l:=by rw[A4S,if_pos h]
theorem C2Q {l:List Nm}{s:Nm} (h:¬(s= []\/s∈l)):A4S l s=A7Y s l:=by rw[A4S,if_neg h]
def A5T (a b:List Nm):List Nm:=b.foldl A4S a
theorem B1O:∀(b a:List Nm) (x:Nm),x∈A5T a b↔x∈a\/(x∈b/\x≠ [])
 | [],a,x=>by simp[A5T]
 |y::b,a,x=>by
  show x∈A5T (A4S a y) b↔_
  rw[B1O b,B26,U8];constructor
  ·rintro((h|⟨rfl,h⟩)|⟨h,k⟩)
   ·exact .inl h
   ·exact .inr ⟨.inl rfl,h⟩
   ·exact .inr ⟨.inr h,k⟩
  ·rintro(h|⟨rfl|h,k⟩)
   ·exact .inl (.inl h)
   ·exact .inl (.inr ⟨rfl,k⟩)
   ·exact .inr ⟨h,k⟩
theorem B1P:∀(b:List Nm) {a:List Nm},Srt a->Srt (A5T a b)
 | [],_,h=>h
 |y::b,_,h=>B1P b (A8X h y)
theorem B0w:∀(b:List Nm) {a:List Nm},(∀x∈b,x∈a)->A5T a b=a
 | [],_,_=>rfl
 |y::b,a,h=>by
  show A5T (A4S a y) b=a
  rw[B1w (.inr (h y Q5))];exact B0w b (fun x hx=>h x (A0L _ hx))
theorem B9q {a b:List Nm}{k:Nat}{x:Nm} (h:b[k]?=some x):A5T a (b.take (k+1))=A4S (A5T a (b.take k)) x:=by
 rw[Q9 h,A5T,A5w];rfl
theorem A8t {a u:List Nm} (ha:Srt a) (h:∀x∈a,x∈u):a.length<=u.length:=by
 induction a generalizing u with
 |nil=>exact H7 _
 |cons x a ih=>
  obtain⟨h1,h2⟩:=A1A.1 ha;have hx:=h x Q5;have:=ih (u:=u.erase x) h2 (fun y hy=>(List.mem_erase_of_ne (fun e=>A6P x (by have h2:=h1 y hy;rw[e]at h2;exact h2))).2 (h y (A0L _ hy)));rw[List.length_erase_of_mem hx]at this;have:=List.length_pos_of_mem hx;rw[F9];omega
theorem B8o {a b:List Nm} (ha:Srt a) (hb:Srt b) (h:∀x∈a,x∈b) (hl:b.length<=a.length):a=b:=by
 refine B2T ha hb (fun x=>⟨h x,fun hx=>?_⟩)
 refine Decidable.byContradiction (fun hn=>?_)
 have h1:=A8t (a:=A7Y x a) (u:=b) (B3z ha hn) (fun y hy=>by
  rcases(B02 x y a).1 hy with rfl|hy
  ·exact hx
  ·exact h y hy)
 rw[A9g]at h1;omega
mutual
def exE:Ex->List Nm->List Nm
 | .mk k nm _ args _ _,c=>A5S args (if k=4 then A4S c nm else c)
def A5S:List Ex->List Nm->List Nm
 | [],c=>c
 |e::es,c=>A5S es (exE e c)
 end
mutual
def A9Z:Stm->List Nm×List Nm->List Nm×List Nm
 | .mk k nm _ _ _ e thn els _ _,q=>A1I els (A1I thn (if k=5 then A4S q.1 nm else q.1,exE e q.2))
def A1I:List Stm->List Nm×List Nm->List Nm×List Nm
 | [],q=>q
 |x::xs,q=>A1I xs (A9Z x q)
 end
def A8k (it:Itm):List Nm×List Nm:=A1I it.body ([],[])
theorem C7s (e:Ex) (c:List Nm):exE e c=A5S e.args (if e.kind=4 then A4S c e.name else c):=by cases e;rw[exE];rfl
theorem C6C (x:Stm) (q:List Nm×List Nm):A9Z x q=A1I x.els (A1I x.thn (if x.kind=5 then A4S q.1 x.name else q.1,exE x.e q.2)):=by cases x;rw[A9Z];rfl
theorem B7r:∀(l r:List Ex) (c:List Nm),A5S (l++r) c=A5S r (A5S l c)
 | [],r,c=>by rw[P9,A5S]
 |e::l,r,c=>by rw[X3,A5S,A5S,B7r l r]
theorem B5q:∀(l r:List Stm) (q:List Nm×List Nm),A1I (l++r) q=A1I r (A1I l q)
 | [],r,q=>by rw[P9,A1I]
 |e::l,r,q=>by rw[X3,A1I,A1I,B5q l r]
theorem C1y {l:List Ex}{k:Nat}{e:Ex} (h:l[k]?=some e) (c:List Nm):A5S (l.take (k+1)) c=exE e (A5S (l.take k) c):=by
 rw[Q9 h,B7r,A5S,A5S]
theorem B94 {l:List Stm}{k:Nat}{x:Stm} (h:l[k]?=some x) (q:List Nm×List Nm):A1I (l.take (k+1)) q=A9Z x (A1I (l.take k) q):=by
 rw[Q9 h,B5q,A1I,A1I]
mutual
theorem B5L:∀(e:Ex) {c:List Nm},Srt c->Srt (exE e c)
 | .mk k nm n args f t,c,h=>by
  rw[exE];refine B3k args ?_
  split
  ·exact A8X h nm
  ·exact h
theorem B3k:∀(l:List Ex) {c:List Nm},Srt c->Srt (A5S l c)
 | [],c,h=>by rw[A5S];exact h
 |e::l,c,h=>by rw[A5S];exact B3k l (B5L e h)
 end
mutual
theorem C4U:∀(x:Stm) {q:List Nm×List Nm},Srt q.1/\Srt q.2->Srt (A9Z x q).1/\Srt (A9Z x q).2
 | .mk k nm a lb o e thn els f t,q,h=>by
  rw[A9Z];refine A6q els (A6q thn ⟨?_,B5L e h.2⟩)
  dsimp only
  split
  ·exact A8X h.1 nm
  ·exact h.1
theorem A6q:∀(l:List Stm) {q:List Nm×List Nm},Srt q.1/\Srt q.2->Srt (A1I l q).1/\Srt (A1I l q).2
 | [],q,h=>by rw[A1I];exact h
 |x::l,q,h=>by rw[A1I];exact A6q l (C4U x h)
 end
mutual
theorem C3p:∀(e:Ex) (c:List Nm),c.length<=(exE e c).length/\(exE e c).length<=c.length+e.cnt
 | .mk k nm n args f t,c=>by
  rw[exE,Ex.cnt];have h1:=B0L c nm;have h2:=B86 args (if k=4 then A4S c nm else c);split at h2<;>rename_i hk
  ·rw[if_pos hk];omega
  ·rw[if_neg hk];omega
theorem B86:∀(l:List Ex) (c:List Nm),c.length<=(A5S l c).length/\(A5S l c).length<=c.length+A03 l
 | [],c=>by rw[A5S,A03];omega
 |e::l,c=>by
  rw[A5S,A03];have h1:=C3p e c;have h2:=B86 l (exE e c);omega
 end
mutual
theorem C8e:∀(x:Stm) (q:List Nm×List Nm),q.1.length+q.2.length<=(A9Z x q).1.length+(A9Z x q).2.length/\(A9Z x q).1.length+(A9Z x q).2.length<=q.1.length+q.2.length+x.cnt
 | .mk k nm a lb o e thn els f t,q=>by
  rw[A9Z,Stm.cnt];have h1:=B0L q.1 nm;have h2:=C3p e q.2;have h3:=A9S thn (if k=5 then A4S q.1 nm else q.1,exE e q.2);have h4:=A9S els (A1I thn (if k=5 then A4S q.1 nm else q.1,exE e q.2));generalize A1I els (A1I thn (if k=5 then A4S q.1 nm else q.1,exE e q.2))=r4 at h4 |-;generalize A1I thn (if k=5 then A4S q.1 nm else q.1,exE e q.2)=r3 at h3 h4;split at h3
  ·dsimp only at h3;omega
  ·dsimp only at h3;omega
theorem A9S:∀(l:List Stm) (q:List Nm×List Nm),q.1.length+q.2.length<=(A1I l q).1.length+(A1I l q).2.length/\(A1I l q).1.length+(A1I l q).2.length<=q.1.length+q.2.length+Q4 l
 | [],q=>by rw[A1I,Q4];omega
 |x::l,q=>by
  rw[A1I,Q4];have h1:=C8e x q;have h2:=A9S l (A9Z x q);omega
 end
def A7A (its:List Itm) (i:Nat):List Nm:=if (A0t its i).kind=2 then (A8k (A0t its i)).1 else []
def A9c (its:List Itm) (l:List Nm):List Nat:=l.filterMap (A00 its 2)
def A4i (its:List Itm) (i:Nat):List Nat:=if (A0t its i).kind=2 then A9c its (A8k (A0t its i)).2 else []
def A40 (its:List Itm):List (List Nm):=(List.range its.length).map (A7A its)
def B2D (its:List Itm) (rows:List (List Nm)) (i:Nat):List Nm:=(A4i its i).foldl (fun a k=>A5T a (rows.getD k [])) (rows.getD i [])
def A25 (its:List Itm) (rows:List (List Nm)) (i:Nat):List (List Nm):=rows.set i (B2D its rows i)
def A3E (its:List Itm) (rows:List (List Nm)):List (List Nm):=(List.range its.length).foldl (A25 its) rows
def A4M (its:List Itm):Nat->List (List Nm)->List (List Nm)
 |0,r=>r
 |n+1,r=>if A3E its r=r then r else A4M its n (A3E its r)
def A7O (r:List (List Nm)):Nat:=(r.map List.length).sum
def A3C (its:List Itm):List Nm:=(A40 its).flatten
def A8Y (its:List Itm):List (List Nm):=A4M its (its.length *(A3C its).length+1) (A40 its)
def B0l (its:List Itm) (i:Nat):List Nm:=(A8Y its).getD i []
structure RowsE (its:List Itm) (r:List (List Nm)):Prop where
 len:r.length=its.length
 srt:∀a∈r,Srt a
 of:∀a∈r,∀x∈a,x∈A3C its
 ne:∀a∈r,[]∉a
def LeE (r s:List (List Nm)):Prop:=r.length=s.length/\∀i x,x∈r.getD i []->x∈s.getD i []
theorem LeE.refl (r:List (List Nm)):LeE r r:=⟨rfl,fun _ _ h=>h⟩
theorem LeE.trans {r s t:List (List Nm)} (h:LeE r s) (k:LeE s t):LeE r t:=⟨h.1.trans k.1,fun i x hx=>k.2 i x (h.2 i x hx)⟩
theorem B7E {α:Type}{l:List α}{i:Nat}{d:α} (h:i<l.length):l.getD i d∈l:=by
 rw[O5,G6 h];exact O6 h
theorem A7y {α:Type}{l:List α}{i:Nat}{d:α} (h:l.length<=i):l.getD i d=d:=by
 rw[O5,A08 h];rfl
theorem A5I {α:Type}{l:List α}{i:Nat}{d a:α} (h:i<l.length):(l.set i a).getD i d=a:=by
 rw[O5,A5r h];rfl
theorem getD_set_ne {α:Type}{l:List α}{i j:Nat}{d a:α} (h:i≠j):(l.set i a).getD j d=l.getD j d:=by
 rw[O5,A3V h,O5]
mutual
theorem C3q:∀(e:Ex) {c:List Nm},[]∉c->[]∉exE e c
 | .mk k nm n args f t,c,h=>by
  rw[exE];refine C0D args ?_
  split
  ·rw[B26];rintro(h1|⟨h1,h2⟩)
   ·exact h h1
   ·exact h2 h1.symm
  ·exact h
theorem C0D:∀(l:List Ex) {c:List Nm},[]∉c->[]∉A5S l c
 | [],c,h=>by rw[A5S];exact h
 |e::l,c,h=>by rw[A5S];exact C0D l (C3q e h)
 end
mutual
theorem C6D:∀(x:Stm) {q:List Nm×List Nm},[]∉q.1/\[]∉q.2->[]∉(A9Z x q).1/\[]∉(A9Z x q).2
 | .mk k nm a lb o e thn els f t,q,h=>by
  rw[A9Z];refine B1j els (B1j thn ⟨?_,C3q e h.2⟩)
  dsimp only
  split
  ·rw[B26];rintro(h1|⟨h1,h2⟩)
   ·exact h.1 h1
   ·exact h2 h1.symm
  ·exact h.1
theorem B1j:∀(l:List Stm) {q:List Nm×List Nm},[]∉q.1/\[]∉q.2->[]∉(A1I l q).1/\[]∉(A1I l q).2
 | [],q,h=>by rw[A1I];exact h
 |x::l,q,h=>by rw[A1I];exact B1j l (C6D x h)
 end
theorem C6e (it:Itm): []∉(A8k it).1/\[]∉(A8k it).2:=B1j _ ⟨by simp,by simp⟩
theorem C4r (it:Itm):Srt (A8k it).1/\Srt (A8k it).2:=A6q _ ⟨Srt.nil,Srt.nil⟩
theorem B0u (its:List Itm):(A40 its).length=its.length:=by rw[A40,A0h,List.length_range]
theorem B3y (its:List Itm) {i:Nat} (h:i<its.length):(A40 its).getD i []=A7A its i:=by
 rw[A40,O5,A0e,List.getElem?_range h];rfl
theorem B0B (its:List Itm):RowsE its (A40 its):=by
 have key:∀a∈A40 its,∃i,a=A7A its i:=fun a ha=>by
  obtain⟨i,_,rfl⟩:=A0x.1 ha;exact⟨i,rfl⟩
 refine⟨B0u its,fun a ha=>?_,fun a ha x hx=>List.mem_flatten.2 ⟨a,ha,hx⟩,fun a ha=>?_⟩
 ·obtain⟨i,rfl⟩:=key a ha
  rw[A7A];split
  ·exact(C4r _).1
  ·exact Srt.nil
 ·obtain⟨i,rfl⟩:=key a ha
  rw[A7A];split
  ·exact(C6e _).1
  ·simp
theorem A9N (rows:List (List Nm)):∀(l:List Nat) (a:List Nm),Srt a->(∀x,x∈l.foldl (fun a k=>A5T a (rows.getD k [])) a↔x∈a\/∃k∈l,x∈rows.getD k []/\x≠ [])/\Srt (l.foldl (fun a k=>A5T a (rows.getD k [])) a)
 | [],a,h=>⟨fun x=>by simp,h⟩
 |k::l,a,h=>by
  rw[A1g];obtain⟨h1,h2⟩:=A9N rows l (A5T a (rows.getD k [])) (B1P _ h);refine⟨fun x=>?_,h2⟩
  rw[h1,B1O];constructor
  ·rintro((h|h)|⟨j,hj,h⟩)
   ·exact .inl h
   ·exact .inr ⟨k,Q5,h⟩
   ·exact .inr ⟨j,A0L _ hj,h⟩
  ·rintro(h|⟨j,hj,h⟩)
   ·exact .inl (.inl h)
   ·rcases U8.1 hj with rfl|hj
    ·exact .inl (.inr h)
    ·exact .inr ⟨j,hj,h⟩
theorem RowsE.getD {its:List Itm}{r:List (List Nm)} (h:RowsE its r) (i:Nat):Srt (r.getD i [])/\(∀x∈r.getD i [],x∈A3C its)/\[]∉r.getD i []:=by
 rcases U2 i r.length with hi|hi
 ·have:=B7E (d:= []) hi
  exact⟨h.srt _ this,h.of _ this,h.ne _ this⟩
 ·rw[A7y hi];exact⟨Srt.nil,by simp,by simp⟩
theorem A7K {its:List Itm}{r:List (List Nm)} (h:RowsE its r) (i:Nat) (x:Nm):x∈B2D its r i↔x∈r.getD i []\/∃k∈A4i its i,x∈r.getD k []:=by
 rw[B2D,(A9N r (A4i its i) (r.getD i []) (h.getD i).1).1];constructor
 ·rintro(h1|⟨k,hk,h1,_⟩)
  ·exact .inl h1
  ·exact .inr ⟨k,hk,h1⟩
 ·rintro(h1|⟨k,hk,h1⟩)
  ·exact .inl h1
  ·exact .inr ⟨k,hk,h1,fun e=>(h.getD k).2.2 (by rw[<-e];exact h1)⟩
theorem RowsE.step {its:List Itm}{r:List (List Nm)} (h:RowsE its r) (i:Nat):RowsE its (A25 its r i)/\LeE r (A25 its r i):=by
 have hs:Srt (B2D its r i):=(A9N r (A4i its i) (r.getD i []) (h.getD i).1).2;have hm:∀a∈A25 its r i,a∈r\/a=B2D its r i:=fun a ha=>List.mem_or_eq_of_mem_set ha
 refine⟨⟨by rw[A25,A2n,h.len],fun a ha=>?_,fun a ha x hx=>?_,fun a ha hx=>?_⟩,⟨by rw[A25,A2n],fun j x hx=>?_⟩⟩
 ·rcases hm a ha with h1|rfl
  ·exact h.srt a h1
  ·exact hs
 ·rcases hm a ha with h1|rfl
  ·exact h.of a h1 x hx
  ·rcases(A7K h i x).1 hx with h1|⟨k,_,h1⟩
   ·exact(h.getD i).2.1 x h1
   ·exact(h.getD k).2.1 x h1
 ·rcases hm a ha with h1|rfl
  ·exact h.ne a h1 hx
  ·rcases(A7K h i []).1 hx with h1|⟨k,_,h1⟩
   ·exact(h.getD i).2.2 h1
   ·exact(h.getD k).2.2 h1
 ·by_cases e:i=j
  ·subst e
   rcases U2 i r.length with hi|hi
   ·rw[A25,A5I hi];exact(A7K h i x).2 (.inl hx)
   ·rw[A7y hi]at hx;cases hx
  ·rw[A25,getD_set_ne e];exact hx
theorem RowsE.folds {its:List Itm}:∀(l:List Nat) {r:List (List Nm)},RowsE its r->RowsE its (l.foldl (A25 its) r)/\LeE r (l.foldl (A25 its) r)
 | [],r,h=>⟨h,LeE.refl r⟩
 |i::l,r,h=>by
  obtain⟨h1,h2⟩:=h.step i;obtain⟨h3,h4⟩:=RowsE.folds l h1;exact⟨h3,h2.trans h4⟩
theorem RowsE.round {its:List Itm}{r:List (List Nm)} (h:RowsE its r):RowsE its (A3E its r)/\LeE r (A3E its r):=h.folds _
theorem B7H {its:List Itm}{r s:List (List Nm)} (hr:RowsE its r) (hs:RowsE its s) (h:LeE r s) (k:LeE s r):r=s:=by
 refine A3X (fun i=>?_)
 rcases U2 i r.length with hi|hi
 ·have h1:=B2T (hr.getD i).1 (hs.getD i).1 (fun x=>⟨h.2 i x,k.2 i x⟩)
  rw[G6 hi,G6 (by rw[<-h.1];exact hi)];rw[O5,G6 hi,O5,G6 (by rw[<-h.1];exact hi)]at h1;exact congrArg some h1
 ·rw[A08 hi,A08 (by rw[<-h.1];exact hi)]
theorem B4V {its:List Itm}:∀(l:List Nat) {r:List (List Nm)},RowsE its r->l.foldl (A25 its) r=r->∀i∈l,A25 its r i=r
 | [],_,_,_,i,hi=>by cases hi
 |j::l,r,h,e,i,hi=>by
  rw[A1g]at e;obtain⟨h1,h2⟩:=h.step j;obtain⟨h3,h4⟩:=RowsE.folds l h1;rw[e]at h4;have hj:A25 its r j=r:=(B7H h h1 h2 h4).symm;rcases U8.1 hi with rfl|hi
  ·exact hj
  ·rw[hj]at e;exact B4V l h e i hi
theorem C1e:∀ {r s:List (List Nm)},(∀a∈r,Srt a)->(∀a∈s,Srt a)->LeE r s->A7O r<=A7O s/\(A7O s<=A7O r->r=s)
 | [],[],_,_,_=>⟨H6 _,fun _=>rfl⟩
 | [],b::s,_,_,h=>by have:=h.1;simp at this
 |a::r,[],_,_,h=>by have:=h.1;simp at this
 |a::r,b::s,hr,hs,h=>by
  have h1:∀x∈a,x∈b:=fun x hx=>h.2 0 x hx
  have ha:=hr a Q5;have hb:=hs b Q5;have h2:=A8t ha h1;obtain⟨h3,h4⟩:=C1e (r:=r) (s:=s) (fun x hx=>hr x (A0L _ hx)) (fun x hx=>hs x (A0L _ hx)) ⟨by simpa using h.1,fun i x hx=>h.2 (i+1) x hx⟩;have e1:A7O (a::r)=a.length+A7O r:=rfl;have e2:A7O (b::s)=b.length+A7O s:=rfl;refine⟨by omega,fun hl=>?_⟩
  rw[B8o ha hb h1 (by omega),h4 (by omega)]
theorem B1m {its:List Itm}{r:List (List Nm)} (h:RowsE its r):A7O r<=its.length *(A3C its).length:=by
 rw[<-h.len];have key:∀(l:List (List Nm)),(∀a∈l,a∈r)->A7O l<=l.length *(A3C its).length:=by
  intro l;induction l with
  |nil=>intro _;simp[A7O]
  |cons a l ih=>
   intro hl;have h1:=ih (fun x hx=>hl x (A0L _ hx));have ha:=hl a Q5;have h2:=A8t (h.srt a ha) (h.of a ha);have e1:A7O (a::l)=a.length+A7O l:=rfl;rw[e1,F9,A1D];omega
 exact key r (fun _ h=>h)
abbrev B16 (its:List Itm):Nat:=its.length *(A3C its).length
theorem A9I {its:List Itm}{r:List (List Nm)} (h:A3E its r=r):∀n,A4M its n r=r
 |0=>rfl
 |n+1=>by rw[A4M,if_pos h]
theorem A8p {its:List Itm}{r:List (List Nm)} (h:RowsE its r) (hn:A3E its r≠r):A7O r<A7O (A3E its r):=by
 obtain⟨h1,h2⟩:=h.round;obtain⟨h3,h4⟩:=C1e h.srt h1.srt h2;rcases U2 (A7O r) (A7O (A3E its r)) with h5|h5
 ·exact h5
 ·exact absurd (h4 h5).symm hn
theorem B05 {its:List Itm}:∀(d:Nat) {r:List (List Nm)},RowsE its r->B16 its-A7O r<=d->∀n m,d<n->d<m->A4M its n r=A4M its m r
 |d,r,h,hd,n,m,hn,hm=>by
  by_cases e:A3E its r=r
  ·rw[A9I e,A9I e]
  ·have h1:=A8p h e
   have h2:=B1m h.round.1;have e0:B16 its=its.length *(A3C its).length:=rfl;obtain⟨n,rfl⟩:∃k,n=k+1:=⟨n-1,by omega⟩;obtain⟨m,rfl⟩:∃k,m=k+1:=⟨m-1,by omega⟩;rw[A4M,if_neg e,A4M,if_neg e]
   match d,hd with
   |0,hd=>omega
   |d+1,hd=>exact B05 d h.round.1 (by omega) n m (by omega) (by omega)
theorem B9n {its:List Itm}{r:List (List Nm)} (h:RowsE its r) (e:A3E its r≠r):A4M its (B16 its+1) r=A4M its (B16 its+1) (A3E its r):=by
 have h1:=A8p h e;have h2:=B1m h.round.1;have e0:B16 its=its.length *(A3C its).length:=rfl;rw[A4M,if_neg e];exact B05 (B16 its-1) h.round.1 (by omega) _ _ (by omega) (by omega)
theorem B44 {its:List Itm}:∀(d:Nat) {r:List (List Nm)},RowsE its r->B16 its-A7O r<=d->∀n,d<n->A3E its (A4M its n r)=A4M its n r/\RowsE its (A4M its n r)/\LeE r (A4M its n r)
 |d,r,h,hd,n,hn=>by
  by_cases e:A3E its r=r
  ·rw[A9I e];exact⟨e,h,LeE.refl r⟩
  ·have h1:=A8p h e
   have h2:=B1m h.round.1;have e0:B16 its=its.length *(A3C its).length:=rfl;obtain⟨n,rfl⟩:∃k,n=k+1:=⟨n-1,by omega⟩;rw[A4M,if_neg e]
   match d,hd with
   |0,hd=>omega
   |d+1,hd=>
    obtain⟨h3,h4,h5⟩:=B44 d h.round.1 (by omega) n (by omega);exact⟨h3,h4,h.round.2.trans h5⟩
theorem C2S (its:List Itm):A8Y its=A4M its (B16 its+1) (A40 its):=rfl
theorem A7s (its:List Itm):A3E its (A8Y its)=A8Y its/\RowsE its (A8Y its)/\LeE (A40 its) (A8Y its):=
 B44 (B16 its) (B0B its) (Nat.sub_le _ _) _ (Nat.lt_succ_self _)
inductive Rch (its:List Itm):Nat->Nat->Prop
 |refl (i:Nat):Rch its i i
 |step {i k j:Nat} (h:k∈A4i its i) (r:Rch its k j):Rch its i j
theorem B4C {its:List Itm}{i k:Nat} (h:k∈A4i its i):k<its.length/\(A0t its k).kind=2:=by
 rw[A4i]at h;split at h
 ·obtain⟨n,_,hn⟩:=A6J.1 h
  have:=A2F hn;exact⟨this.1,by omega⟩
 ·cases h
def A4g (its:List Itm) (r:List (List Nm)):Prop:= ∀i x,x∈r.getD i []->∃k,Rch its i k/\x∈A7A its k
theorem A4g.init (its:List Itm):A4g its (A40 its):=fun i x hx=>by
 rcases U2 i its.length with hi|hi
 ·rw[B3y its hi]at hx;exact⟨i,.refl i,hx⟩
 ·rw[A7y (by rw[B0u];exact hi)]at hx;cases hx
theorem A4g.step {its:List Itm}{r:List (List Nm)} (hr:RowsE its r) (h:A4g its r) (i:Nat):A4g its (A25 its r i):=fun j x hx=>by
 by_cases e:i=j
 ·subst e
  rcases U2 i r.length with hi|hi
  ·rw[A25,A5I hi]at hx
   rcases(A7K hr i x).1 hx with h1|⟨k,hk,h1⟩
   ·exact h i x h1
   ·obtain⟨m,hm,hx⟩:=h k x h1
    exact⟨m,.step hk hm,hx⟩
  ·rw[A25,A7y (by rw[A2n];exact hi)]at hx;cases hx
 ·rw[A25,getD_set_ne e]at hx;exact h j x hx
theorem A4g.folds {its:List Itm}:∀(l:List Nat) {r:List (List Nm)},RowsE its r->A4g its r->A4g its (l.foldl (A25 its) r)
 | [],_,_,h=>h
 |i::l,_,hr,h=>A4g.folds l (hr.step i).1 (h.step hr i)
theorem A4g.iter {its:List Itm}:∀(n:Nat) {r:List (List Nm)},RowsE its r->A4g its r->A4g its (A4M its n r)
 |0,_,_,h=>h
 |n+1,r,hr,h=>by
  rw[A4M];split
  ·exact h
  ·exact A4g.iter n hr.round.1 (A4g.folds _ hr h)
theorem B6T {its:List Itm}{i k:Nat} (h:k∈A4i its i) {x:Nm} (hx:x∈B0l its k):x∈B0l its i:=by
 obtain⟨h1,h2,_⟩:=A7s its;rcases U2 i its.length with hi|hi
 ·have h3:=B4V (List.range its.length) h2 h1 i (A19.2 hi)
  have h4:x∈(A25 its (A8Y its) i).getD i []:=by
   rw[A25,A5I (by rw[h2.len];exact hi)];exact(A7K h2 i x).2 (.inr ⟨k,h,hx⟩)
  rw[h3]at h4;exact h4
 ·rw[A4i,A0t,A7y hi]at h
  cases h
theorem C2R {its:List Itm}{i:Nat} (hi:i<its.length) (x:Nm):x∈B0l its i↔ ∃k,Rch its i k/\x∈A7A its k:=by
 constructor
 ·exact fun h=>A4g.iter _ (B0B its) (A4g.init its) i x h
 ·rintro⟨k,hk,hx⟩
  induction hk with
  |refl i=>exact(A7s its).2.2.2 i x (by rw[B3y its hi];exact hx)
  |step h _ ih=>exact B6T h (ih (B4C h).1 hx)
theorem B6V (its:List Itm) (i:Nat):Srt (B0l its i):=((A7s its).2.1.getD i).1
theorem B4w (its:List Itm):(A8Y its).length=its.length:=(A7s its).2.1.len
theorem C1q {its:List Itm}{i:Nat} (h:(A0t its i).kind≠2):B0l its i= []:=by
 rcases U2 i its.length with hi|hi
 ·refine B2T (B6V its i) Srt.nil (fun x=>⟨fun hx=>?_,fun hx=>by cases hx⟩)
  obtain⟨k,hk,hx⟩:=(C2R hi x).1 hx;cases hk with
  |refl=>rw[A7A,if_neg h]at hx;exact hx
  |step h1 _=>rw[A4i,if_neg h]at h1;cases h1
 ·rw[B0l,A7y (by rw[B4w];exact hi)]
def B1h (it:Itm) (c:Nm):Bool:=it.sends.any (fun x=>decide (x.name=c))
def B0V (c:Nm):Dg:=⟨0,0,10,c⟩
def B0W (its:List Itm) (i:Nat):List Dg:=((B0l its i).filter (fun c=> !B1h (A0t its i) c)).map B0V
structure DI where
 fr:Int
 to:Int
 err:Nat
 name:List UInt8
 deriving DecidableEq
def A4l (b:Int) (d:Dg):DI:=⟨w64 (d.fr+b),w64 (d.to+b),d.err,d.name⟩
def C2p (its:List Itm) (i:Nat):List Dg:=(A0t its i).diags++((A3e its i).ds++(B0W its i++(A3g its i (-1)).ds))
def B4m (its:List Itm) (i:Nat):List DI:=(C2p its i).map (A4l (A0t its i).at_)
def A67 (its:List Itm) (k:Nat):List DI:=(List.range k).flatMap (B4m its)
def A4T (its:List Itm):List DI:=A67 its its.length
theorem B27 (its:List Itm) (k:Nat):A67 its (k+1)=A67 its k++B4m its k:=by
 rw[A67,A1C,Y3, <-A67];simp
theorem B6S {its:List Itm} (h:A4T its= []) {i:Nat} (hi:i<its.length):(A0t its i).diags= []/\(A3e its i).ds= []/\B0W its i= []/\(A3g its i (-1)).ds= []:=by
 rw[A4T,A67,List.flatMap_eq_nil_iff]at h;have:=h i (A19.2 hi);rw[B4m,List.map_eq_nil_iff,C2p]at this;simpa using this
def A9Y (its:List Itm) (nm:List UInt8) (args:List Int):Rn:=
 if A4T its≠ [] then ⟨[],0,13,0⟩ else
 match A00 its 2 nm with
 |none=>⟨[],0,6,0⟩
 |some j=>if args.length≠(A0t its j).params.length then ⟨[],0,5,0⟩ else
  if (A6b its 40 nm args MR0).2.err≠0 then ⟨[],0,(A6b its 40 nm args MR0).2.err,0⟩
  else ⟨(A6b its 40 nm args MR0).2.ev,(A6b its 40 nm args MR0).1,0,(A6b its 40 nm args MR0).2.steps⟩
def B3S (s:List UInt8):List (List UInt8):=(List.range (Y7 s).length).map (A1d s (Y7 s))
def C5x (s t:List UInt8) (j:Nat):Bool:= !(B3S s).contains (A1d t (Y7 t) j)
def fresh (s t:List UInt8) (k:Nat):Nat:=(List.range k).countP (C5x s t)
def A3p (s t:List UInt8):Nat:=if Y4 t=0 then fresh s t (Y7 t).length else 0
theorem B9e (s t:List UInt8) (k:Nat):fresh s t (k+1)=fresh s t k+if C5x s t k then 1 else 0:=by
 rw[fresh,A1C,List.countP_append, <-fresh,List.countP_singleton]
theorem C3J (s t:List UInt8) (k:Nat):fresh s t k<=k:=by
 have:=List.countP_le_length (p:=C5x s t) (l:=List.range k)
 rwa [List.length_range]at this
theorem C3S (T:Src) (a b:Int) (n:Nat):A43 T b n=({ (A43 T a n).1 with at_:=b},(A43 T a n).2):=by
 simp only[A43];split
 ·rfl
 ·split<;>rfl
theorem B9m (src:List UInt8) (a b:Int):item src b= { item src a with at_:=b}:=by
 rw[A70,A70,C3S _ a b,B43,B43]
theorem C3c (s:List UInt8) (f u:Int) (x:List UInt8):(B1C s f u x).length<=4000:=by
 rw[B1C];split
 ·rename_i h
  have h1:¬(f<0\/u<f\/u>s.length):=fun h2=>by rw[A5P,if_pos h2]at h;cases h
  have h2:¬(x.length>4000\/(s.length:Int)-(u-f)+x.length>4000):=fun h2=>by rw[A5P,if_neg h1,if_pos h2]at h;cases h
  simp only[E9,P6,A0r];omega
 ·simp
inductive Well (T:Src):St->St->Prop where
 |refl (s:St):Well T s s
 |bad {s r:St} (e:Nat):Well T s r->Well T s (r.bad T e)
 |next {s r:St}:Well T s r->(r.ds≠ []\/(T.tok r.i).kind≠4)->Well T s r.next
section
variable {T:Src}
theorem C5C (f d:Nat) (s:St) (h:name (T.tok s.i).text=true):(A22 T (f+1) d s).2.ds≠ []\/s.i+1<=(A22 T (f+1) d s).2.i:=by
 have hl:=A2g (A6i h);rw[A22];dsimp only
 rw[if_neg (by omega)];split
 ·exact .inl (A2C _ _ _)
 ·split
  ·split
   ·exact .inl (A2C _ _ _)
   ·exact .inr (H6 _)
  ·split
   ·have:=(((A3x T f).2.2.1 (d+1) 1 s.next).trans (A0i T _ [41])).on
    exact .inr this
   ·split
    ·exact .inl (A2C _ _ _)
    ·split
     ·exact .inr (H6 _)
     ·have:=(((A0I T s.next).trans ((A3x T f).2.1 (d+1) [] s.next.next)).trans (A0i T _ [41])).on
      exact .inr this
theorem C8i (f d:Nat) (s:St):(stm T (f+3) d s).2.ds≠ []\/s.i+1<=(stm T (f+3) d s).2.i:=by
 have hE:=(A3x T (f+2)).2.2.1;have hB:=(A6Y T (f+2)).1;rw[stm];dsimp only
 split
 ·right
  have g2:Runs T (s.next.named T).2 (if (!T.is (s.next.named T).2.i [58])=true then ((0:Nat),(s.next.named T).2) else lab T (s.next.named T).2.next).2:=by
   split
   ·exact .refl _
   ·exact(A0I T _).trans (A48 T _)
  exact(((((A2X T s.next).trans g2).trans (A0i T _ _)).trans (hE _ _ _)).trans (A0i T _ _)).on
 ·split
  ·right
   have g1:=(hE d 1 s.next).trans (hB d (A0Q T (f+2) d 1 s.next).2);split
   ·exact((Runs.next g1).trans (hB d _)).on
   ·exact g1.on
  ·split
   ·exact .inr ((hE d 1 s.next).trans (hB d (A0Q T (f+2) d 1 s.next).2)).on
   ·split
    ·exact .inr (((A2X T s.next).trans (hE d 1 _)).trans (A0i T _ _)).on
    ·split
     ·exact .inr ((hE d 1 s.next).trans (A0i T _ _)).on
     ·split
      ·rename_i hn
       split
       ·exact .inr (((A0I T s.next).trans (hE d 1 _)).trans (A0i T _ [59])).on
       ·have ha:=C5C (T:=T) f d s hn
        have hr:Runs T (A22 T (f+1) d s).2 ((A0Q T (f+2) d 1 s).2.need T [59]).2:=by
         rw[A0Q];exact((A3x T (f+1)).2.2.2 d 1 _ _).trans (A0i T _ _)
        rcases ha with ha|ha
        ·exact .inl (hr.told ha)
        ·exact .inr (A0O ha hr.on)
      ·exact .inl (A2C _ _ _)
end
def shift (n:Nat) (t:Tok):Tok:=⟨t.kind,t.text,t.pos+n⟩
def tk (s:List UInt8) (p:Nat):List Tok:=A8F s.length s p
theorem C0h (p:Nat):tk [] p= []:=rfl
theorem B6A (s:List UInt8) (p:Nat) (hs:s≠ []):tk s p=(if (one s).1>0 then [⟨(one s).1,s.take (one s).2,p⟩] else [])++tk (s.drop (one s).2) (p+(one s).2):=by
 have hl:=A6Q s hs;obtain⟨f,hf⟩:∃f,s.length=f+1:=⟨s.length-1,by omega⟩;have e:A8F f (s.drop (one s).2) (p+(one s).2)=tk (s.drop (one s).2) (p+(one s).2):=B15 _ _ _ _ (by simp;omega) (by simp);unfold tk at e |-
 rw[hf];simp only[A8F,hs,if_false];rw[e];split<;>rfl
theorem B39 (n:Nat):∀(f:Nat) (s:List UInt8) (p:Nat),A8F f s (p+n)=(A8F f s p).map (shift n)
 |0,_,_=>rfl
 |f+1,s,p=>by
  simp only[A8F];split
  ·rfl
  ·split
   ·rw[X7, <-B39 n f,show p+n+(one s).2=p+(one s).2+n by omega];rfl
   ·rw[<-B39 n f,show p+n+(one s).2=p+(one s).2+n by omega]
theorem C1g (F:UInt8->Bool):∀(r:List UInt8) (m:Nat),(r.takeWhile F).length<=m->(r.take m).takeWhile F=r.takeWhile F
 | [],m,_=>by simp
 |c::r,0,h=>by
  rw[A5t]at h |-;split at h
  ·simp at h
  ·rename_i hc;simp[hc]
 |c::r,m+1,h=>by
  rw[A1i,A5t,A5t];rw[A5t]at h;split at h
  ·rename_i hc
   rw[if_pos hc,if_pos hc,C1g F r m (by simpa using h)]
  ·rename_i hc;rw[if_neg hc,if_neg hc]
theorem C4k (s:List UInt8) (m:Nat) (hs:s≠ []) (h:(one s).2<=m):one (s.take m)=one s:=by
 cases s with
 |nil=>exact absurd rfl hs
 |cons c r=>
  have hm:1<=m:=A0O (A6Q (c::r) hs).1 h;obtain⟨m,rfl⟩:∃k,m=k+1:=⟨m-1,by omega⟩;rw[A1i];have key:∀F:UInt8->Bool,run F r<=m+1->run F (r.take m)=run F r:=fun F hF=>by
   unfold run at hF |-
   rw[C1g F r m (by omega)]
  simp only[one]at h |-;by_cases h1:A9G c=true
  ·rw[if_pos h1]at h |-;rw[key _ h,if_pos h1]
  ·rw[if_neg h1]at h |-;rw[if_neg h1]
   by_cases h2:c.toNat=35
   ·rw[if_pos h2]at h |-;rw[key _ h,if_pos h2]
   ·rw[if_neg h2]at h |-;rw[if_neg h2]
    by_cases h3:A42 c=true
    ·rw[if_pos h3]at h |-;rw[key _ h,if_pos h3]
    ·rw[if_neg h3]at h |-;rw[if_neg h3]
     by_cases h4:A41 c=true
     ·rw[if_pos h4]at h |-;rw[key _ h,if_pos h4]
     ·rw[if_neg h4]at h |-;rw[if_neg h4]
theorem C8k:∀(k:Nat) (s:List UInt8) (p n:Nat) (t:Tok),s.length=k->(tk s p)[n]?=some t->p<=t.pos/\tk (s.take (t.pos-p)) p=(tk s p).take n:=by
 intro k;induction k using Nat.strongRecOn with
 |_ k ih=>
  intro s p n t hk ht;by_cases hs:s= []
  ·subst hs;rw[C0h]at ht;simp at ht
  have hl:=A6Q s hs;have step:=B6A s p hs;have rest:∀(n:Nat),(tk (s.drop (one s).2) (p+(one s).2))[n]?=some t->p<=t.pos/\tk (s.take (t.pos-p)) p=(if (one s).1>0 then [⟨(one s).1,s.take (one s).2,p⟩] else [])++(tk (s.drop (one s).2) (p+(one s).2)).take n:=fun n hn=>by
   obtain⟨h1,h2⟩:=ih (s.drop (one s).2).length (by simp;omega) (s.drop (one s).2) (p+(one s).2) n t rfl hn;refine⟨by omega,?_⟩
   have hm:(one s).2<=t.pos-p:=by omega
   have hne:s.take (t.pos-p)≠ []:=by
    intro e;have:=congrArg List.length e;simp at this
    rcases this with this|this
    ·omega
    ·exact hs this
   have e3:((s.drop (one s).2).take (t.pos-(p+(one s).2)))=(s.take (t.pos-p)).drop (one s).2:=by
    rw[List.drop_take];congr 1;omega
   have e4:(s.take (t.pos-p)).take (one s).2=s.take (one s).2:=by rw[A3c,A1h hm]
   rw[B6A _ _ hne,C4k s _ hs hm,e4, <-e3,h2]
  rw[step]at ht |-;by_cases hp:(one s).1>0
  ·rw[if_pos hp]at ht rest |-
   cases n with
   |zero=>
    simp only[A77,A0z,U4]at ht;subst ht;exact⟨H6 _,by simp[C0h]⟩
   |succ n=>
    obtain⟨h1,h2⟩:=rest n (by simpa using ht);exact⟨h1,by rw[h2];simp⟩
  ·rw[if_neg hp]at ht rest |-
   exact rest n (by simpa using ht)
theorem C0j (s:List UInt8) (n:Nat) (t:Tok) (h:(V3 s)[n]?=some t):V3 (s.take t.pos)=(V3 s).take n:=by
 have:=(C8k _ s 0 n t rfl h).2;rw[Nat.sub_zero]at this;exact this
section
variable {T T':Src}{n:Nat}
end
def bs (s:List UInt8) (l:List Tok):List Nat:=(l.filter (B0p s)).map (·.pos)
theorem C0H (s:List UInt8):∀(l:List Tok) (acc:List Nat),acc≠ []->l.foldl (A17 s) acc=acc++bs s l
 | [],acc,_=>by simp[bs]
 |t::l,acc,h=>by
  rw[A1g,C0H s l _ (B3i s acc t),A17];by_cases hb:B0p s t=true
  ·rw[if_pos (.inl hb),bs,bs,List.filter_cons_of_pos hb];simp
  ·rw[if_neg (by rintro(h1|h1);exact hb h1;exact h h1),bs,bs,List.filter_cons_of_neg hb]
theorem B3r (s:List UInt8) (p:Nat):∀(l:List Tok) (acc:List Nat) (i:Nat),acc.length<=i->(l.foldl (A17 s) acc)[i]?=some p->
  ∃n t,l[n]?=some t/\t.pos=p/\(l.take n).foldl (A17 s) acc=(l.foldl (A17 s) acc).take i/\(l.foldl (A17 s) acc).drop (i+1)=bs s (l.drop (n+1))
 | [],acc,i,h,hp=>by
  rw[List.foldl_nil,A08 h]at hp;cases hp
 |t::l,acc,i,h,hp=>by
  rw[A1g]at hp |-;by_cases h2:(A17 s acc t).length<=i
  ·obtain⟨n,u,h3,h4,h5,h6⟩:=B3r s p l _ i h2 hp
   exact⟨n+1,u,by simpa using h3,h4,by rw[A1i,A1g];exact h5,by rw[h6];simp⟩
  ·have h3:=B7f s acc t
   have h4:i=acc.length:=by omega
   have h5:A17 s acc t=acc++ [t.pos]:=by
    rw[A17]at h2 |-;split
    ·rfl
    ·rename_i hn
     rw[if_neg hn]at h2;omega
   rw[C0H s l _ (B3i s acc t),h5]at hp |-;refine⟨0,t,rfl,?_,?_,?_⟩
   ·rw[h4,O4,A16 (H6 _)]at hp
    simpa using hp
   ·rw[h4,O4,List.take_left];rfl
   ·rw[h4,List.drop_left' (by simp)];rfl
theorem C6M:∀(k:Nat) (s:List UInt8) (p n:Nat) (t:Tok),s.length=k->(tk s p)[n]?=some t->p<=t.pos/\(tk s p).drop n=tk (s.drop (t.pos-p)) t.pos:=by
 intro k;induction k using Nat.strongRecOn with
 |_ k ih=>
  intro s p n t hk ht;by_cases hs:s= []
  ·subst hs;rw[C0h]at ht;simp at ht
  have hl:=A6Q s hs;have step:=B6A s p hs;have rest:∀(n:Nat),(tk (s.drop (one s).2) (p+(one s).2))[n]?=some t->p<=t.pos/\(tk (s.drop (one s).2) (p+(one s).2)).drop n=tk (s.drop (t.pos-p)) t.pos:=fun n hn=>by
   obtain⟨h1,h2⟩:=ih (s.drop (one s).2).length (by simp;omega) (s.drop (one s).2) (p+(one s).2) n t rfl hn;refine⟨by omega,?_⟩
   rw[h2,A5W,show (one s).2+(t.pos-(p+(one s).2))=t.pos-p by omega]
  by_cases ho:(one s).1>0
  ·rw[if_pos ho]at step
   cases n with
   |zero=>
    rw[step]at ht;simp at ht
    subst ht;simp
   |succ n=>
    rw[step]at ht |-;simpa using rest n (by simpa using ht)
  ·rw[if_neg ho]at step
   rw[step]at ht |-;simpa using rest n (by simpa using ht)
theorem B3t {l:List Nat}{i d x:Nat} (h:l[i]?=some x):l.getD i d=x:=by rw[O5,h];rfl
theorem B7n (s:List UInt8) (n:Nat) (t:Tok) (h:(V3 s)[n]?=some t):(V3 s).drop n=(V3 (s.drop t.pos)).map (shift t.pos):=by
 have h6:=(C6M s.length s 0 n t rfl h).2;have e:V3 s=tk s 0:=rfl;rw[e,h6,Nat.sub_zero];have:=B39 t.pos (s.drop t.pos).length (s.drop t.pos) 0;rw[W9]at this;exact this
theorem C0y {s:List UInt8}{i c:Nat} (h:(Y7 s)[i]?=some c):∃(n:Nat) (t:Tok),(V3 s)[n]?=some t/\t.pos=c:=by
 obtain⟨n,t,h1,h2,_⟩:=B3r s c (V3 s) [] i (H7 _) h;exact⟨n,t,h1,h2⟩
theorem B9T (s:List UInt8) {i:Nat} (hi:i<(Y7 s).length):∃m n,(V3 (A1d s (Y7 s) i)).map (shift ((Y7 s).getD i 0))=((V3 s).take m).drop n:=by
 have hc:(Y7 s)[i]?=some (Y7 s)[i]:=G6 hi;obtain⟨n,t,h1,h2⟩:=C0y hc;have hlt:=A7T s hi;rw[A1d,B3t hc, <-h2];rw[B3t hc, <-h2]at hlt;rcases U2 (i+1) (Y7 s).length with h3|h3
 ·obtain⟨m,u,h4,h5⟩:=C0y (G6 h3)
  have e1:(Y7 s).getD (i+1) s.length=u.pos:=by rw[B3t (G6 h3),h5]
  rw[e1]at hlt |-;have h6:=C0j s m u h4;have hnm:n<m:=by
   rcases U2 n m with h|h
   ·exact h
   ·exfalso
    have hn:=A0y.1 h1;have hm:=A0y.1 h4;obtain⟨hn1,hn2⟩:=hn;obtain⟨hm1,hm2⟩:=hm;rcases U2 m n with h7|h7
    ·have:=A2e.1 (A4s s) m n hm1 hn1 h7
     rw[hn2,hm2]at this;omega
    ·obtain rfl:n=m:=by omega
     rw[hn2]at hm2;subst hm2;omega
  refine⟨m,n,?_⟩
  have h8:(V3 (s.take u.pos))[n]?=some t:=by rw[h6,List.getElem?_take_of_lt hnm];exact h1
  rw[<-h6,B7n _ n t h8,List.drop_take]
 ·have e1:(Y7 s).getD (i+1) s.length=s.length:=by rw[O5,A08 h3];rfl
  refine⟨(V3 s).length,n,?_⟩
  rw[e1,V7,B7n s n t h1,A0q (by rw[A0r];omega)]
theorem C2h (s:List UInt8) {i:Nat} (hi:i<(Y7 s).length) {t:Tok} (h:t∈V3 (A1d s (Y7 s) i)):shift ((Y7 s).getD i 0) t∈V3 s:=by
 obtain⟨m,n,h1⟩:=B9T s hi;have h2:shift ((Y7 s).getD i 0) t∈((V3 s).take m).drop n:=h1 ▸ A5u h;exact A6G (List.mem_of_mem_drop h2)
def A0S (s:List UInt8) (a:Nat) (n:List UInt8):Prop:=a+n.length<=s.length/\(s.drop a).take n.length=n/\(n≠ []->name n=true/\∃k,(⟨k,n,a⟩:Tok)∈V3 s)
theorem A8u {s:List UInt8}{a:Nat} (h:a<=s.length):A0S s a []:=⟨by simpa using h,by simp,fun h=>absurd rfl h⟩
def stE (s:List UInt8):PE:=fun k nm _ _ f _=>(k=2\/k=4)->A0S s f nm
def stS (s:List UInt8):PS:=fun k nm a _ _ _ _=>(k=1\/k=2\/k=5)->A0S s a nm
theorem B8y (src:List UInt8) (i:Nat):((⟨V3 src,src.length⟩:Src).tok i).pos<=src.length:=by
 rw[Src.tok];by_cases h:i<(V3 src).length
 ·have hk:=A2G src (V3 src)[i] (O6 h)
  simp only[O5,G6 h,Option.getD_some];exact Nat.le_of_lt hk.pos
 ·simp only[O5,A08 (Nat.le_of_not_lt h),Option.getD_none]
  exact H6 _
theorem A8E (src:List UInt8) (i:Nat) (hn:name ((⟨V3 src,src.length⟩:Src).tok i).text=true):A0S src ((⟨V3 src,src.length⟩:Src).tok i).pos ((⟨V3 src,src.length⟩:Src).tok i).text:=by
 rw[Src.tok]at hn |-;by_cases h:i<(V3 src).length
 ·have hk:=A2G src (V3 src)[i] (O6 h)
  simp only[O5,G6 h,Option.getD_some]at hn |-;exact⟨hk.fit,hk.text.symm,fun _=>⟨hn,_,O6 h⟩⟩
 ·simp only[O5,A08 (Nat.le_of_not_lt h),Option.getD_none]
  exact A8u (H6 _)
theorem A45 (src:List UInt8) (s:St):A0S src ((⟨V3 src,src.length⟩:Src).tok s.i).pos (s.named ⟨V3 src,src.length⟩).1:=by
 have h0:A0S src ((⟨V3 src,src.length⟩:Src).tok s.i).pos []:=A8u (B8y src s.i);rw[St.named];split
 ·rename_i hn
  exact A8E src s.i hn
 ·split
  ·exact h0
  ·exact h0
theorem C8c (src:List UInt8):AtE ⟨V3 src,src.length⟩ (stE src):=
 ⟨fun h=>(by omega),fun i h=>(by omega),fun i n _ _ h=>(by omega),fun i hn _=>A8E src i hn,fun i j m hn _ _ _=>A8E src i hn,fun i k1 n1 v1 m1 f1 t1 k2 n2 v2 m2 f2 t2 _ _ _ h=>(by omega)⟩
theorem C8d (src:List UInt8):AtS ⟨V3 src,src.length⟩ (stS src):=
 ⟨fun h=>(by omega),fun i s lb o j _ _=>A45 src s,fun i j hn _=>A8E src i hn,fun k i j hk h=>(by omega),fun i s j _=>A45 src s⟩
structure ItS (s:List UInt8) (p:Nat) (q:List UInt8) (it:Itm):Prop where
 at_:it.at_=p
 sub:∀a n,A0S q a n->A0S s (p+a) n
 body:Y0 (stE q) (stS q) it.body
 params:∀x∈it.params,A0S q x.at_ x.name
 sends:∀x∈it.sends,A0S q x.at_ x.name
 mark:A0S q it.mark it.name
def A8U (s:List UInt8) (it:Itm):Prop:= ∃p q,ItS s p q it
theorem B6h (s:List UInt8) {i:Nat} (hi:i<(Y7 s).length) {a:Nat}{n:List UInt8} (h:A0S (A1d s (Y7 s) i) a n):A0S s ((Y7 s).getD i 0+a) n:=by
 obtain⟨c1,c2⟩:=A7T s hi;obtain⟨h1,h2,h3⟩:=h;have h4:=fun (k:Nat) (h:(⟨k,n,a⟩:Tok)∈V3 (A1d s (Y7 s) i))=>C2h s hi h
 rw[A1d,P6,A0r]at h1;rw[A1d]at h2;refine⟨by omega,?_,fun hn=>?_⟩
 case refine_2=>
  obtain⟨hnm,k,hk⟩:=h3 hn;refine⟨hnm,k,?_⟩
  rw[A3Q];exact h4 k hk
 rw[List.drop_take,A3c,A5W,A1h (by omega)]at h2;exact h2
theorem C3C (s:List UInt8):∀it∈J7 s,A8U s it:=by
 intro it hit;rw[J7]at hit;split at hit
 ·rw[A3M,A0x]at hit
  obtain⟨i,hi,rfl⟩:=hit;have hi:=A19.1 hi;obtain⟨c1,c2⟩:=A7T s hi;have hall:=B3B (src:=A1d s (Y7 s) i) ((Y7 s).getD i 0:Nat) (C8c _) (C8d _) (r:=fun x=>A0S (A1d s (Y7 s) i) x.at_ x.name) (t:=fun x=>A0S (A1d s (Y7 s) i) x.at_ x.name) (fun s _ _=>A45 _ s) (fun s=>A45 _ s);refine⟨(Y7 s).getD i 0,A1d s (Y7 s) i,?_⟩
  rw[A0U];refine⟨B2N _ _,fun a n h=>B6h s hi h,hall.body,hall.params,hall.sends,?_⟩
  rcases hall.mark with ⟨h1,h2⟩|⟨st,h1,h2⟩
  ·rw[h1]
   rcases h2 with ⟨j,h2⟩|h2
   ·rw[h2];exact A8u (B8y (A1d s (Y7 s) i) j)
   ·rw[h2];exact A8u (H7 _)
  ·rw[h1,h2];exact A45 _ st
 ·cases hit
def C60 (s:List UInt8) (u:Us):Prop:= ∃f d n,u.fr=((f:Nat):Int)/\u.to=((f+n.length:Nat):Int)/\u.df=((d:Nat):Int)/\n≠ []/\A0S s f n/\A0S s d n
def NW.ok (s:List UInt8) (w:NW):Prop:= ∀u∈w.us,C60 s u
def A6l (q:List UInt8) (sc:List Lc):Prop:= ∀l∈sc,l.name≠ []/\A0S q l.at_ l.name
theorem A9V {s:List UInt8}{w:NW} (h:w.ok s) (a e:Nat) (n:List UInt8):(w.tell a e n).ok s:=h
theorem C5b {s:List UInt8}{w:NW} (h:w.ok s) {p a d:Nat}{n:List UInt8}{b e:Int} (hb:b=p) (he:e=d) (hn:n≠ []) (h1:A0S s (p+a) n) (h2:A0S s d n):(w.use b a n e).ok s:=by
 intro u hu;rcases Z9.1 hu with hu|hu
 ·exact h u hu
 ·obtain rfl:=A0B.1 hu
  exact⟨p+a,d,n,by dsimp only;omega,by dsimp only;omega,he,hn,h1,h2⟩
theorem B4P {s:List UInt8}{its:List Itm} (h:∀x∈its,A8U s x) {k:Int}{n:List UInt8}{j:Nat} (hf:A00 its k n=some j):n≠ []/\∃d:Nat,(A0t its j).at_+(A0t its j).mark=(d:Int)/\A0S s d n:=by
 obtain⟨hj,h1,h2,h3,h4⟩:=A2F hf;obtain⟨p,q,hi⟩:=h _ h4;refine⟨h3,p+(A0t its j).mark,by rw[hi.at_];omega,?_⟩
 have:=hi.sub _ _ hi.mark;rw[h2]at this;exact this
def A8W (s:List UInt8) (p:Nat) (q:List UInt8):Prop:= ∀a n,A0S q a n->A0S s (p+a) n
section
variable {s q:List UInt8}{p:Nat}{its:List Itm}{sc:List Lc}
theorem C0N (hb:A8W s p q) (hsc:A6l q sc) {a:Nat}{n:List UInt8} (hst:A0S q a n) {w:NW} (hw:w.ok s):(A8f p sc a n w).ok s:=by
 rw[A8f];split
 ·rename_i l hl
  obtain⟨hm,hn⟩:=A7U hl;obtain⟨h1,h2⟩:=hsc _ hm;rw[hn]at h1 h2;exact C5b hw rfl (d:=p+l.at_) (by omega) h1 (hb _ _ hst) (hb _ _ h2)
 ·split
  ·exact hw
  ·exact A9V hw _ _ _
theorem B5V (hi:∀x∈its,A8U s x) (hb:A8W s p q) (k:Int) {a:Nat}{n:List UInt8} (hst:A0S q a n) {w:NW} (hw:w.ok s):(A5i its p k a n w).ok s:=by
 rw[A5i];split
 ·rename_i j hj
  obtain⟨h1,d,h2,h3⟩:=B4P hi hj;exact C5b hw rfl h2 h1 (hb _ _ hst) h3
 ·split
  ·exact hw
  ·exact A9V hw _ _ _
theorem C3b (hi:∀x∈its,A8U s x) (hb:A8W s p q) {a:Nat}{n:List UInt8} (hst:A0S q a n) (m:Nat) {w:NW} (hw:w.ok s):(A5k its p a n m w).ok s:=by
 have h:=B5V hi hb 2 hst hw;rw[A5k];split
 ·split
  ·exact A9V h _ _ _
  ·exact h
 ·exact h
theorem B14 (h:A6l q sc) {n:List UInt8}{a:Nat} (hn:n≠ []) (hst:A0S q a n):A6l q (sc++ [⟨n,a⟩]):=fun l hl=>by
 rcases Z9.1 hl with hl|hl
 ·exact h l hl
 ·obtain rfl:=A0B.1 hl
  exact⟨hn,hst⟩
theorem C38 (hsc:A6l q sc) {a:Nat}{n:List UInt8} (hst:A0S q a n) {w:NW} (hw:w.ok s):A6l q (mkN n a sc w).1/\(mkN n a sc w).2.ok s:=by
 rw[mkN];split
 ·exact⟨hsc,hw⟩
 ·rename_i hn
  refine⟨B14 hsc hn hst,?_⟩
  dsimp only
  split
  ·exact A9V hw _ _ _
  ·exact hw
mutual
theorem C3s (hi:∀x∈its,A8U s x) (hb:A8W s p q) (hsc:A6l q sc):∀(e:Ex),e.all (stE q)->∀ {w:NW},w.ok s->(exN its p sc e w).ok s
 | .mk k nm n args f t,h,w,hw=>by
  rw[Ex.all]at h;rw[exN];refine C0E hi hb hsc args h.2 ?_
  have h1:=h.1;split
  ·rename_i hk;exact C0N hb hsc (h1 (.inl hk)) hw
  ·split
   ·rename_i hk;exact C3b hi hb (h1 (.inr hk)) _ hw
   ·exact hw
theorem C0E (hi:∀x∈its,A8U s x) (hb:A8W s p q) (hsc:A6l q sc):∀(l:List Ex),A1r (stE q) l->∀ {w:NW},w.ok s->(A5h its p sc l w).ok s
 | [],_,w,hw=>by rw[A5h];exact hw
 |e::l,h,w,hw=>by
  rw[A1r]at h;rw[A5h];exact C0E hi hb hsc l h.2 (C3s hi hb hsc e h.1 hw)
 end
mutual
theorem C6H (hi:∀x∈its,A8U s x) (hb:A8W s p q):∀(x:Stm),x.all (stE q) (stS q)->∀ {sc:List Lc},A6l q sc->∀ {w:NW},w.ok s->A6l q (A6a its p x sc w).1/\(A6a its p x sc w).2.ok s
 | .mk k nm a lb o e thn els f t,h,sc,hsc,w,hw=>by
  rw[Stm.all]at h;obtain⟨h1,h2,h3,h4⟩:=h;have he:=C3s hi hb hsc e h2 hw;rw[A6a];split
  ·rename_i hk;exact C38 hsc (h1 (.inl hk)) he
  ·split
   ·rename_i hk;exact⟨hsc,C0N hb hsc (h1 (.inr (.inl hk))) he⟩
   ·split
    ·rename_i hk;exact⟨hsc,B5V hi hb 1 (h1 (.inr (.inr hk))) he⟩
    ·split
     ·exact⟨hsc,(B1l hi hb els h4 hsc (B1l hi hb thn h3 hsc he).2).2⟩
     ·exact⟨hsc,he⟩
theorem B1l (hi:∀x∈its,A8U s x) (hb:A8W s p q):∀(l:List Stm),Y0 (stE q) (stS q) l->∀ {sc:List Lc},A6l q sc->∀ {w:NW},w.ok s->A6l q (A1e its p l sc w).1/\(A1e its p l sc w).2.ok s
 | [],_,sc,hsc,w,hw=>by rw[A1e];exact⟨hsc,hw⟩
 |x::l,h,sc,hsc,w,hw=>by
  rw[Y0]at h;rw[A1e];have h1:=C6H hi hb x h.1 hsc hw;exact B1l hi hb l h.2 h1.1 h1.2
 end
theorem C0W:∀(l:List Par),(∀x∈l,A0S q x.at_ x.name)->∀ {sc:List Lc},A6l q sc->∀ {w:NW},w.ok s->A6l q (A3Z l sc w).1/\(A3Z l sc w).2.ok s
 | [],_,sc,hsc,w,hw=>by rw[A3Z];exact⟨hsc,hw⟩
 |x::l,h,sc,hsc,w,hw=>by
  rw[A3Z];have h1:=C38 hsc (h x Q5) hw;exact C0W l (fun y hy=>h y (A0L _ hy)) h1.1 h1.2
theorem C07 (hi:∀x∈its,A8U s x) (hb:A8W s p q):∀(l:List Rf),(∀x∈l,A0S q x.at_ x.name)->∀ {dn:List Rf}{w:NW},w.ok s->(A6m its p dn l w).ok s
 | [],_,dn,w,hw=>by rw[A6m];exact hw
 |x::l,h,dn,w,hw=>by
  rw[A6m];refine C07 hi hb l (fun y hy=>h y (A0L _ hy)) ?_
  have h1:=B5V hi hb 1 (h x Q5) hw;rw[A7d];split
  ·exact A9V h1 _ _ _
  ·exact h1
theorem B8h:A6l q []:=fun l h=>by cases h
theorem C7A (hi:∀x∈its,A8U s x) {it:Itm} (h:ItS s p q it) {w:NW} (hw:w.ok s):(fnN its it w).ok s:=by
 have hb:A8W s p q:=h.sub;rw[fnN,h.at_];have h1:=C0W it.params h.params B8h hw;exact(B1l hi hb it.body h.body h1.1 (C07 hi hb it.sends h.sends h1.2)).2
theorem C5i (hi:∀x∈its,A8U s x) {i:Nat} (hlt:i<its.length):(A3e its i).ok s:=by
 have hm:A0t its i∈its:=by rw[A0t,O5,G6 hlt];exact O6 hlt
 obtain⟨p,q,h⟩:=hi _ hm;have h0:NW0.ok s:=fun u hu=>by cases hu
 have h1:(if B1n its i (A0t its i)=true then NW0.tell (A0t its i).mark 7 (A0t its i).name else NW0).ok s:=by
  split
  ·exact A9V h0 _ _ _
  ·exact h0
 rw[A3e];split
 ·exact C7A hi h h1
 ·exact h1
theorem B8D (hi:∀x∈its,A8U s x):∀u∈A11 its,C60 s u:=fun u hu=>by
 rw[A11,A5b,A6N]at hu;obtain⟨i,h1,h2⟩:=hu;exact C5i hi (A19.1 h1) u h2
end
structure Pl where
 name:List UInt8
 at_:Int
mutual
def B2p (b:Int):Stm->List Pl
 | .mk k nm a _ _ _ thn els _ _=>(if k=1/\nm≠ [] then [⟨nm,b+a⟩] else [])++(A01 b thn++A01 b els)
def A01 (b:Int):List Stm->List Pl
 | []=> []
 |x::xs=>B2p b x++A01 b xs
 end
theorem C4Y (b:Int) (x:Stm):B2p b x=(if x.kind=1/\x.name≠ [] then [⟨x.name,b+x.at_⟩] else [])++(A01 b x.thn++A01 b x.els):=by cases x;rw[B2p];rfl
theorem B0E (b:Int):∀(l r:List Stm),A01 b (l++r)=A01 b l++A01 b r
 | [],r=>by rw[A01];rfl
 |x::l,r=>by rw[X3,A01,A01,B0E b l r,O4]
theorem B8v (b:Int) {l:List Stm}{k:Nat}{x:Stm} (h:l[k]?=some x):A01 b (l.take (k+1))=A01 b (l.take k)++B2p b x:=by
 rw[Q9 h,B0E,A01,A01,J3]
def A6e (b:Int) (p:Par):List Pl:=if p.name≠ [] then [⟨p.name,b+p.at_⟩] else []
def B9l (it:Itm):List Pl:=if it.kind=3\/it.name= [] then [] else ⟨it.name,it.at_+it.mark⟩::(it.params.flatMap (A6e it.at_)++A01 it.at_ it.body)
def A3s (its:List Itm):List Pl:=its.flatMap B9l
theorem B9x {its:List Itm}{k:Nat}{it:Itm} (h:its[k]?=some it):A3s (its.take (k+1))=A3s (its.take k)++B9l it:=by
 rw[A3s,Q9 h,Y3, <-A3s];simp
def B9U (l:List Pl) (at_:Int):Option Pl:=l.find? (fun d=>decide (d.at_<=at_) && decide (at_<d.at_+d.name.length))
def B7j (its:List Itm) (at_:Int):Option Int:=match B2u (A11 its) at_ with
 |some u=>some u.df
 |none=>(B9U (A3s its) at_).map (·.at_)
def B56 (l:List Pl) (df:Int):List UInt8:=l.foldl (fun o d=>if d.at_=df then d.name else o) []
theorem C19 {l:List Pl}{k:Nat}{d:Pl} (h:l[k]?=some d) (df:Int):B56 (l.take (k+1)) df=if d.at_=df then d.name else B56 (l.take k) df:=by
 rw[B56,Q9 h,A5w];rfl
def A3L (us:List Us) (df:Int):List Int:=(us.filter (fun u=>decide (u.df=df))).map (·.fr)
theorem B9h {us:List Us}{k:Nat}{u:Us} (h:us[k]?=some u) (df:Int):A3L (us.take (k+1)) df=A3L (us.take k) df++(if u.df=df then [u.fr] else []):=by
 rw[A3L,Q9 h,A79,Y8, <-A3L];by_cases e:u.df=df
 ·simp[e]
 ·simp[e]
def A38 (its:List Itm) (df:Int):List Int:=Go.Lib.compact ((df::A3L (A11 its) df).mergeSort (fun x y=>decide (x<=y)))
def A6f (s nm:List UInt8) (n:Nat):List Int->List UInt8×Int->List UInt8×Int
 | [],x=>x
 |k::l,x=>A6f s nm n l (x.1++((s.drop x.2.toNat).take (k.toNat-x.2.toNat)++nm),k+n)
def C7K (s nm:List UInt8) (n:Nat) (l:List Int):List UInt8:=(A6f s nm n l ([],0)).1++s.drop (A6f s nm n l ([],0)).2.toNat
def A7j (l:List Int) (a:Int):Nat:=(l.filter (fun k=>decide (k<a))).length
theorem B6R {l:List Int}{k:Nat}{z:Int} (h:l[k]?=some z) (a:Int):A7j (l.take (k+1)) a=A7j (l.take k) a+(if z<a then 1 else 0):=by
 rw[A7j,Q9 h,A79,E9, <-A7j];by_cases e:z<a
 ·simp[e]
 ·simp[e]
def A7p (l:List Int) (more:Int) (a:Int):Int:=a+(A7j l a:Int) *more
def A5H (us vs:List Us) (l:List Int) (more:Int) (k:Nat):Bool:=(List.range k).all (fun i=>decide (A7p l more (us.getD i ⟨0,0,0⟩).fr=(vs.getD i ⟨0,0,0⟩).fr) && decide (A7p l more (us.getD i ⟨0,0,0⟩).df=(vs.getD i ⟨0,0,0⟩).df))
def B5C (us vs:List Us) (l:List Int) (more:Int):Bool:=decide (us.length=vs.length) && A5H us vs l more us.length
def toR (s:List UInt8) (at_:Int) (nm:List UInt8):List UInt8×Nat:=
 if Y4 s≠0 then ([],Y4 s) else
 if A4T (J7 s)≠ [] then ([],13) else
 match B7j (J7 s) at_ with
 |none=>([],6)
 |some df=>
  if name nm=false then ([],7) else
  let old:=B56 (A3s (J7 s)) df
  let l:=A38 (J7 s) df
  let t:=C7K s nm old.length l
  if Y4 t≠0 then ([],Y4 t) else
  if A4T (J7 t)≠ [] then ([],7) else
  if B5C (A11 (J7 s)) (A11 (J7 t)) l ((nm.length:Int)-old.length)=false then ([],7) else (t,0)
end Go.Sp
