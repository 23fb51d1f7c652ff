/- Own work. -/
import Derived.Test.YtfgmppgjopchoaaGreatDoorSy7
import Derived.Lib.SlicesCompact
set_option maxHeartbeats 64000000
namespace Go.Sp
abbrev Nm:=List UInt8
theorem A6F (a:Nm):¬a<a:=List.lt_irrefl a
theorem B1I {a b c:Nm} (h:a<b) (k:b<c):a<c:=List.lt_trans h k
theorem C5Q (a b:Nm):a<b\/a=b\/b<a:=by
 rcases Decidable.em (a<b) with h|h
 ·exact .inl h
 ·rcases Decidable.em (b<a) with k|k
  ·exact .inr (.inr k)
  ·exact .inr (.inl (List.le_antisymm (List.not_lt.1 k) (List.not_lt.1 h)))
theorem C1P {a b:Nm} (h:a<b):¬b<a:=fun k=>A6F a (B1I h k)
def Srt (l:List Nm):Prop:=l.Pairwise (· < ·)
theorem Srt.nil:Srt []:=List.Pairwise.nil
theorem B2I:∀ {a b:List Nm},Srt a->Srt b->(∀x,x∈a↔x∈b)->a=b
 | [],[],_,_,_=>rfl
 | [],y::b,_,_,h=>absurd ((h y).2 Q7) (by simp)
 |x::a,[],_,_,h=>absurd ((h x).1 Q7) (by simp)
 |x::a,y::b,ha,hb,h=>by
  obtain⟨ha1,ha2⟩:=A1u.1 ha;obtain⟨hb1,hb2⟩:=A1u.1 hb;have hx:=(h x).1 Q7;have hy:=(h y).2 Q7;have e:x=y:=by
   rcases V7.1 hx with e|hx
   ·exact e
   ·rcases V7.1 hy with e|hy
    ·exact e.symm
    ·exact absurd (ha1 y hy) (C1P (hb1 x hx))
  subst e
  congr 1
  refine B2I ha2 hb2 (fun z=>⟨fun hz=>?_,fun hz=>?_⟩)
  ·rcases V7.1 ((h z).1 (A0K _ hz)) with e|h1
   ·subst e;exact absurd (ha1 z hz) (A6F z)
   ·exact h1
  ·rcases V7.1 ((h z).2 (A0K _ hz)) with e|h1
   ·subst e;exact absurd (hb1 z hz) (A6F z)
   ·exact h1
def A7K (s:Nm):List Nm->List Nm
 | []=> [s]
 |x::l=>if x<s then x::A7K s l else s::x::l
def A4N (l:List Nm) (s:Nm):List Nm:=if s= []\/s∈l then l else A7K s l
theorem B0O (s x:Nm):∀(l:List Nm),x∈A7K s l↔x=s\/x∈l
 | []=>by simp[A7K]
 |y::l=>by
  rw[A7K];split
  ·rw[V7,B0O s x l,V7]
   constructor
   ·rintro(h|h|h)
    ·exact .inr (.inl h)
    ·exact .inl h
    ·exact .inr (.inr h)
   ·rintro(h|h|h)
    ·exact .inr (.inl h)
    ·exact .inl h
    ·exact .inr (.inr h)
  ·simp
theorem B3m {s:Nm}:∀ {l:List Nm},Srt l->s∉l->Srt (A7K s l)
 | [],_,_=>by rw[A7K];exact B0l _ _
 |y::l,h,hs=>by
  obtain⟨h1,h2⟩:=A1u.1 h;rw[A7K];split
  ·rename_i hy
   refine A1u.2 ⟨fun z hz=>?_,B3m h2 (fun hm=>hs (A0K _ hm))⟩
   rcases(B0O s z l).1 hz with rfl|hz
   ·exact hy
   ·exact h1 z hz
  ·rename_i hy
   have hsy:s<y:=by
    rcases C5Q s y with h|h|h
    ·exact h
    ·subst h;exact absurd Q7 hs
    ·exact absurd h hy
   refine A1u.2 ⟨fun z hz=>?_,h⟩
   rcases V7.1 hz with rfl|hz
   ·exact hsy
   ·exact B1I hsy (h1 z hz)
theorem A83 (s:Nm):∀(l:List Nm),(A7K s l).length=l.length+1
 | []=>rfl
 |y::l=>by
  rw[A7K];split
  ·rw[F9,A83 s l,F9]
  ·rfl
theorem C0u {s:Nm}:∀ {l:List Nm}{k:Nat},k<=l.length->(∀j x,j<k->l[j]?=some x->x<s)->(∀x,l[k]?=some x->¬x<s)->A7K s l=l.take k++s::l.drop k
 | [],k,hk,_,_=>by
  obtain rfl:k=0:=by simpa using hk
  rfl
 |y::l,0,_,_,h2=>by
  rw[A7K,if_neg (h2 y rfl)];rfl
 |y::l,k+1,hk,h1,h2=>by
  rw[A7K,if_pos (h1 0 y (by omega) rfl),A1g,List.drop_succ_cons,X8]
  congr 1
  refine C0u (by simpa using hk) (fun j x hj hx=>h1 (j+1) x (by omega) (by simpa using hx)) (fun x hx=>h2 x (by simpa using hx))
theorem B2U (l:List Nm) (s x:Nm):x∈A4N l s↔x∈l\/(x=s/\s≠ []):=by
 rw[A4N];split
 ·rename_i h
  constructor
  ·exact .inl
  ·rintro(h1|⟨rfl,h1⟩)
   ·exact h1
   ·rcases h with h|h
    ·exact absurd h h1
    ·exact h
 ·rename_i h
  rw[B0O];constructor
  ·rintro(rfl|h1)
   ·exact .inr ⟨rfl,fun e=>h (.inl e)⟩
   ·exact .inl h1
  ·rintro(h1|⟨rfl,_⟩)
   ·exact .inr h1
   ·exact .inl rfl
theorem A8L {l:List Nm} (h:Srt l) (s:Nm):Srt (A4N l s):=by
 rw[A4N];split
 ·exact h
 ·rename_i h1
  exact B3m h (fun hm=>h1 (.inr hm))
theorem B0x (l:List Nm) (s:Nm):l.length<=(A4N l s).length/\(A4N l s).length<=l.length+1:=by
 rw[A4N];split
 ·omega
 ·rw[A83];omega
theorem B1k {l:List Nm}{s:Nm} (h:s= []\/s∈l):A4N l s=l:=by rw[A4N,if_pos h]
theorem C2B {l:List Nm}{s:Nm} (h:¬(s= []\/s∈l)):A4N l s=A7K s l:=by rw[A4N,if_neg h]
def A5M (a b:List Nm):List Nm:=b.foldl A4N a
theorem B1z:∀(b a:List Nm) (x:Nm),x∈A5M a b↔x∈a\/(x∈b/\x≠ [])
 | [],a,x=>by simp[A5M]
 |y::b,a,x=>by
  show x∈A5M (A4N a y) b↔_
  rw[B1z b,B2U,V7];constructor
  ·rintro((h|⟨rfl,h⟩)|⟨h,k⟩)
   ·exact .inl h
   ·exact .inr ⟨.inl rfl,h⟩
   ·exact .inr ⟨.inr h,k⟩
  ·rintro(h|⟨rfl|h,k⟩)
   ·exact .inl (.inl h)
   ·exact .inl (.inr ⟨rfl,k⟩)
   ·exact .inr ⟨h,k⟩
theorem B1A:∀(b:List Nm) {a:List Nm},Srt a->Srt (A5M a b)
 | [],_,h=>h
 |y::b,_,h=>B1A b (A8L h y)
theorem B0j:∀(b:List Nm) {a:List Nm},(∀x∈b,x∈a)->A5M a b=a
 | [],_,_=>rfl
 |y::b,a,h=>by
  show A5M (A4N a y) b=a
  rw[B1k (.inr (h y Q7))];exact B0j b (fun x hx=>h x (A0K _ hx))
theorem B9a {a b:List Nm}{k:Nat}{x:Nm} (h:b[k]?=some x):A5M a (b.take (k+1))=A4N (A5M a (b.take k)) x:=by
 rw[Q9 h,A5M,A5t];rfl
theorem A8g {a u:List Nm} (ha:Srt a) (h:∀x∈a,x∈u):a.length<=u.length:=by
 induction a generalizing u with
 |nil=>exact H7 _
 |cons x a ih=>
  obtain⟨h1,h2⟩:=A1u.1 ha;have hx:=h x Q7;have:=ih (u:=u.erase x) h2 (fun y hy=>(List.mem_erase_of_ne (fun e=>A6F x (by have h2:=h1 y hy;rw[e]at h2;exact h2))).2 (h y (A0K _ hy)));rw[List.length_erase_of_mem hx]at this;have:=List.length_pos_of_mem hx;rw[F9];omega
theorem B78 {a b:List Nm} (ha:Srt a) (hb:Srt b) (h:∀x∈a,x∈b) (hl:b.length<=a.length):a=b:=by
 refine B2I ha hb (fun x=>⟨h x,fun hx=>?_⟩)
 refine Decidable.byContradiction (fun hn=>?_)
 have h1:=A8g (a:=A7K x a) (u:=b) (B3m ha hn) (fun y hy=>by
  rcases(B0O x y a).1 hy with rfl|hy
  ·exact hx
  ·exact h y hy)
 rw[A83]at h1;omega
mutual
def exE:Ex->List Nm->List Nm
 | .mk k nm _ args _ _,c=>A5L args (if k=4 then A4N c nm else c)
def A5L:List Ex->List Nm->List Nm
 | [],c=>c
 |e::es,c=>A5L es (exE e c)
 end
mutual
def A9L:Stm->List Nm×List Nm->List Nm×List Nm
 | .mk k nm _ _ _ e thn els _ _,q=>A1C els (A1C thn (if k=5 then A4N q.1 nm else q.1,exE e q.2))
def A1C:List Stm->List Nm×List Nm->List Nm×List Nm
 | [],q=>q
 |x::xs,q=>A1C xs (A9L x q)
 end
def A75 (it:Itm):List Nm×List Nm:=A1C it.body ([],[])
theorem C7d (e:Ex) (c:List Nm):exE e c=A5L e.args (if e.kind=4 then A4N c e.name else c):=by cases e;rw[exE];rfl
theorem C6m (x:Stm) (q:List Nm×List Nm):A9L x q=A1C x.els (A1C x.thn (if x.kind=5 then A4N q.1 x.name else q.1,exE x.e q.2)):=by cases x;rw[A9L];rfl
theorem B68:∀(l r:List Ex) (c:List Nm),A5L (l++r) c=A5L r (A5L l c)
 | [],r,c=>by rw[P7,A5L]
 |e::l,r,c=>by rw[X8,A5L,A5L,B68 l r]
theorem B5b:∀(l r:List Stm) (q:List Nm×List Nm),A1C (l++r) q=A1C r (A1C l q)
 | [],r,q=>by rw[P7,A1C]
 |e::l,r,q=>by rw[X8,A1C,A1C,B5b l r]
theorem C1j {l:List Ex}{k:Nat}{e:Ex} (h:l[k]?=some e) (c:List Nm):A5L (l.take (k+1)) c=exE e (A5L (l.take k) c):=by
 rw[Q9 h,B68,A5L,A5L]
theorem B9P {l:List Stm}{k:Nat}{x:Stm} (h:l[k]?=some x) (q:List Nm×List Nm):A1C (l.take (k+1)) q=A9L x (A1C (l.take k) q):=by
 rw[Q9 h,B5b,A1C,A1C]
mutual
theorem B5w:∀(e:Ex) {c:List Nm},Srt c->Srt (exE e c)
 | .mk k nm n args f t,c,h=>by
  rw[exE];refine B28 args ?_
  split
  ·exact A8L h nm
  ·exact h
theorem B28:∀(l:List Ex) {c:List Nm},Srt c->Srt (A5L l c)
 | [],c,h=>by rw[A5L];exact h
 |e::l,c,h=>by rw[A5L];exact B28 l (B5w e h)
 end
mutual
theorem C4D:∀(x:Stm) {q:List Nm×List Nm},Srt q.1/\Srt q.2->Srt (A9L x q).1/\Srt (A9L x q).2
 | .mk k nm a lb o e thn els f t,q,h=>by
  rw[A9L];refine A6g els (A6g thn ⟨?_,B5w e h.2⟩)
  dsimp only
  split
  ·exact A8L h.1 nm
  ·exact h.1
theorem A6g:∀(l:List Stm) {q:List Nm×List Nm},Srt q.1/\Srt q.2->Srt (A1C l q).1/\Srt (A1C l q).2
 | [],q,h=>by rw[A1C];exact h
 |x::l,q,h=>by rw[A1C];exact A6g l (C4D x h)
 end
mutual
theorem C28:∀(e:Ex) (c:List Nm),c.length<=(exE e c).length/\(exE e c).length<=c.length+e.cnt
 | .mk k nm n args f t,c=>by
  rw[exE,Ex.cnt];have h1:=B0x c nm;have h2:=B8Q args (if k=4 then A4N c nm else c);split at h2<;>rename_i hk
  ·rw[if_pos hk];omega
  ·rw[if_neg hk];omega
theorem B8Q:∀(l:List Ex) (c:List Nm),c.length<=(A5L l c).length/\(A5L l c).length<=c.length+A02 l
 | [],c=>by rw[A5L,A02];omega
 |e::l,c=>by
  rw[A5L,A02];have h1:=C28 e c;have h2:=B8Q l (exE e c);omega
 end
mutual
theorem C7Y:∀(x:Stm) (q:List Nm×List Nm),q.1.length+q.2.length<=(A9L x q).1.length+(A9L x q).2.length/\(A9L x q).1.length+(A9L x q).2.length<=q.1.length+q.2.length+x.cnt
 | .mk k nm a lb o e thn els f t,q=>by
  rw[A9L,Stm.cnt];have h1:=B0x q.1 nm;have h2:=C28 e q.2;have h3:=A9F thn (if k=5 then A4N q.1 nm else q.1,exE e q.2);have h4:=A9F els (A1C thn (if k=5 then A4N q.1 nm else q.1,exE e q.2));generalize A1C els (A1C thn (if k=5 then A4N q.1 nm else q.1,exE e q.2))=r4 at h4 |-;generalize A1C thn (if k=5 then A4N q.1 nm else q.1,exE e q.2)=r3 at h3 h4;split at h3
  ·dsimp only at h3;omega
  ·dsimp only at h3;omega
theorem A9F:∀(l:List Stm) (q:List Nm×List Nm),q.1.length+q.2.length<=(A1C l q).1.length+(A1C l q).2.length/\(A1C l q).1.length+(A1C l q).2.length<=q.1.length+q.2.length+Q3 l
 | [],q=>by rw[A1C,Q3];omega
 |x::l,q=>by
  rw[A1C,Q3];have h1:=C7Y x q;have h2:=A9F l (A9L x q);omega
 end
def A7p (its:List Itm) (i:Nat):List Nm:=if (A0q its i).kind=2 then (A75 (A0q its i)).1 else []
def A80 (its:List Itm) (l:List Nm):List Nat:=l.filterMap (A0Z its 2)
def A4d (its:List Itm) (i:Nat):List Nat:=if (A0q its i).kind=2 then A80 its (A75 (A0q its i)).2 else []
def A4T (its:List Itm):List (List Nm):=(List.range its.length).map (A7p its)
def B2p (its:List Itm) (rows:List (List Nm)) (i:Nat):List Nm:=(A4d its i).foldl (fun a k=>A5M a (rows.getD k [])) (rows.getD i [])
def A23 (its:List Itm) (rows:List (List Nm)) (i:Nat):List (List Nm):=rows.set i (B2p its rows i)
def A3z (its:List Itm) (rows:List (List Nm)):List (List Nm):=(List.range its.length).foldl (A23 its) rows
def A4H (its:List Itm):Nat->List (List Nm)->List (List Nm)
 |0,r=>r
 |n+1,r=>if A3z its r=r then r else A4H its n (A3z its r)
def A7B (r:List (List Nm)):Nat:=(r.map List.length).sum
def A3x (its:List Itm):List Nm:=(A4T its).flatten
def A8M (its:List Itm):List (List Nm):=A4H its (its.length *(A3x its).length+1) (A4T its)
def A98 (its:List Itm) (i:Nat):List Nm:=(A8M its).getD i []
structure RowsE (its:List Itm) (r:List (List Nm)):Prop where
 len:r.length=its.length
 srt:∀a∈r,Srt a
 of:∀a∈r,∀x∈a,x∈A3x its
 ne:∀a∈r,[]∉a
def LeE (r s:List (List Nm)):Prop:=r.length=s.length/\∀i x,x∈r.getD i []->x∈s.getD i []
theorem LeE.refl (r:List (List Nm)):LeE r r:=⟨rfl,fun _ _ h=>h⟩
theorem LeE.trans {r s t:List (List Nm)} (h:LeE r s) (k:LeE s t):LeE r t:=⟨h.1.trans k.1,fun i x hx=>k.2 i x (h.2 i x hx)⟩
theorem B7o {α:Type}{l:List α}{i:Nat}{d:α} (h:i<l.length):l.getD i d∈l:=by
 rw[O4,G6 h];exact O5 h
theorem A7n {α:Type}{l:List α}{i:Nat}{d:α} (h:l.length<=i):l.getD i d=d:=by
 rw[O4,A07 h];rfl
theorem A5F {α:Type}{l:List α}{i:Nat}{d a:α} (h:i<l.length):(l.set i a).getD i d=a:=by
 rw[O4,A5o h];rfl
theorem getD_set_ne {α:Type}{l:List α}{i j:Nat}{d a:α} (h:i≠j):(l.set i a).getD j d=l.getD j d:=by
 rw[O4,A3Q h,O4]
mutual
theorem C29:∀(e:Ex) {c:List Nm},[]∉c->[]∉exE e c
 | .mk k nm n args f t,c,h=>by
  rw[exE];refine C0o args ?_
  split
  ·rw[B2U];rintro(h1|⟨h1,h2⟩)
   ·exact h h1
   ·exact h2 h1.symm
  ·exact h
theorem C0o:∀(l:List Ex) {c:List Nm},[]∉c->[]∉A5L l c
 | [],c,h=>by rw[A5L];exact h
 |e::l,c,h=>by rw[A5L];exact C0o l (C29 e h)
 end
mutual
theorem C6n:∀(x:Stm) {q:List Nm×List Nm},[]∉q.1/\[]∉q.2->[]∉(A9L x q).1/\[]∉(A9L x q).2
 | .mk k nm a lb o e thn els f t,q,h=>by
  rw[A9L];refine B07 els (B07 thn ⟨?_,C29 e h.2⟩)
  dsimp only
  split
  ·rw[B2U];rintro(h1|⟨h1,h2⟩)
   ·exact h.1 h1
   ·exact h2 h1.symm
  ·exact h.1
theorem B07:∀(l:List Stm) {q:List Nm×List Nm},[]∉q.1/\[]∉q.2->[]∉(A1C l q).1/\[]∉(A1C l q).2
 | [],q,h=>by rw[A1C];exact h
 |x::l,q,h=>by rw[A1C];exact B07 l (C6n x h)
 end
theorem C5V (it:Itm): []∉(A75 it).1/\[]∉(A75 it).2:=B07 _ ⟨by simp,by simp⟩
theorem C4a (it:Itm):Srt (A75 it).1/\Srt (A75 it).2:=A6g _ ⟨Srt.nil,Srt.nil⟩
theorem B0h (its:List Itm):(A4T its).length=its.length:=by rw[A4T,A0g,List.length_range]
theorem B3l (its:List Itm) {i:Nat} (h:i<its.length):(A4T its).getD i []=A7p its i:=by
 rw[A4T,O4,A0f,List.getElem?_range h];rfl
theorem B0o (its:List Itm):RowsE its (A4T its):=by
 have key:∀a∈A4T its,∃i,a=A7p its i:=fun a ha=>by
  obtain⟨i,_,rfl⟩:=A0y.1 ha;exact⟨i,rfl⟩
 refine⟨B0h its,fun a ha=>?_,fun a ha x hx=>List.mem_flatten.2 ⟨a,ha,hx⟩,fun a ha=>?_⟩
 ·obtain⟨i,rfl⟩:=key a ha
  rw[A7p];split
  ·exact(C4a _).1
  ·exact Srt.nil
 ·obtain⟨i,rfl⟩:=key a ha
  rw[A7p];split
  ·exact(C5V _).1
  ·simp
theorem A9B (rows:List (List Nm)):∀(l:List Nat) (a:List Nm),Srt a->(∀x,x∈l.foldl (fun a k=>A5M a (rows.getD k [])) a↔x∈a\/∃k∈l,x∈rows.getD k []/\x≠ [])/\Srt (l.foldl (fun a k=>A5M a (rows.getD k [])) a)
 | [],a,h=>⟨fun x=>by simp,h⟩
 |k::l,a,h=>by
  rw[A1e];obtain⟨h1,h2⟩:=A9B rows l (A5M a (rows.getD k [])) (B1A _ h);refine⟨fun x=>?_,h2⟩
  rw[h1,B1z];constructor
  ·rintro((h|h)|⟨j,hj,h⟩)
   ·exact .inl h
   ·exact .inr ⟨k,Q7,h⟩
   ·exact .inr ⟨j,A0K _ hj,h⟩
  ·rintro(h|⟨j,hj,h⟩)
   ·exact .inl (.inl h)
   ·rcases V7.1 hj with rfl|hj
    ·exact .inl (.inr h)
    ·exact .inr ⟨j,hj,h⟩
theorem RowsE.getD {its:List Itm}{r:List (List Nm)} (h:RowsE its r) (i:Nat):Srt (r.getD i [])/\(∀x∈r.getD i [],x∈A3x its)/\[]∉r.getD i []:=by
 rcases U2 i r.length with hi|hi
 ·have:=B7o (d:= []) hi
  exact⟨h.srt _ this,h.of _ this,h.ne _ this⟩
 ·rw[A7n hi];exact⟨Srt.nil,by simp,by simp⟩
theorem A7x {its:List Itm}{r:List (List Nm)} (h:RowsE its r) (i:Nat) (x:Nm):x∈B2p its r i↔x∈r.getD i []\/∃k∈A4d its i,x∈r.getD k []:=by
 rw[B2p,(A9B r (A4d its i) (r.getD i []) (h.getD i).1).1];constructor
 ·rintro(h1|⟨k,hk,h1,_⟩)
  ·exact .inl h1
  ·exact .inr ⟨k,hk,h1⟩
 ·rintro(h1|⟨k,hk,h1⟩)
  ·exact .inl h1
  ·exact .inr ⟨k,hk,h1,fun e=>(h.getD k).2.2 (by rw[<-e];exact h1)⟩
theorem RowsE.step {its:List Itm}{r:List (List Nm)} (h:RowsE its r) (i:Nat):RowsE its (A23 its r i)/\LeE r (A23 its r i):=by
 have hs:Srt (B2p its r i):=(A9B r (A4d its i) (r.getD i []) (h.getD i).1).2;have hm:∀a∈A23 its r i,a∈r\/a=B2p its r i:=fun a ha=>List.mem_or_eq_of_mem_set ha
 refine⟨⟨by rw[A23,A2k,h.len],fun a ha=>?_,fun a ha x hx=>?_,fun a ha hx=>?_⟩,⟨by rw[A23,A2k],fun j x hx=>?_⟩⟩
 ·rcases hm a ha with h1|rfl
  ·exact h.srt a h1
  ·exact hs
 ·rcases hm a ha with h1|rfl
  ·exact h.of a h1 x hx
  ·rcases(A7x h i x).1 hx with h1|⟨k,_,h1⟩
   ·exact(h.getD i).2.1 x h1
   ·exact(h.getD k).2.1 x h1
 ·rcases hm a ha with h1|rfl
  ·exact h.ne a h1 hx
  ·rcases(A7x h i []).1 hx with h1|⟨k,_,h1⟩
   ·exact(h.getD i).2.2 h1
   ·exact(h.getD k).2.2 h1
 ·by_cases e:i=j
  ·subst e
   rcases U2 i r.length with hi|hi
   ·rw[A23,A5F hi];exact(A7x h i x).2 (.inl hx)
   ·rw[A7n hi]at hx;cases hx
  ·rw[A23,getD_set_ne e];exact hx
theorem RowsE.folds {its:List Itm}:∀(l:List Nat) {r:List (List Nm)},RowsE its r->RowsE its (l.foldl (A23 its) r)/\LeE r (l.foldl (A23 its) r)
 | [],r,h=>⟨h,LeE.refl r⟩
 |i::l,r,h=>by
  obtain⟨h1,h2⟩:=h.step i;obtain⟨h3,h4⟩:=RowsE.folds l h1;exact⟨h3,h2.trans h4⟩
theorem RowsE.round {its:List Itm}{r:List (List Nm)} (h:RowsE its r):RowsE its (A3z its r)/\LeE r (A3z its r):=h.folds _
theorem B7r {its:List Itm}{r s:List (List Nm)} (hr:RowsE its r) (hs:RowsE its s) (h:LeE r s) (k:LeE s r):r=s:=by
 refine A3S (fun i=>?_)
 rcases U2 i r.length with hi|hi
 ·have h1:=B2I (hr.getD i).1 (hs.getD i).1 (fun x=>⟨h.2 i x,k.2 i x⟩)
  rw[G6 hi,G6 (by rw[<-h.1];exact hi)];rw[O4,G6 hi,O4,G6 (by rw[<-h.1];exact hi)]at h1;exact congrArg some h1
 ·rw[A07 hi,A07 (by rw[<-h.1];exact hi)]
theorem B4G {its:List Itm}:∀(l:List Nat) {r:List (List Nm)},RowsE its r->l.foldl (A23 its) r=r->∀i∈l,A23 its r i=r
 | [],_,_,_,i,hi=>by cases hi
 |j::l,r,h,e,i,hi=>by
  rw[A1e]at e;obtain⟨h1,h2⟩:=h.step j;obtain⟨h3,h4⟩:=RowsE.folds l h1;rw[e]at h4;have hj:A23 its r j=r:=(B7r h h1 h2 h4).symm;rcases V7.1 hi with rfl|hi
  ·exact hj
  ·rw[hj]at e;exact B4G l h e i hi
theorem C0Y:∀ {r s:List (List Nm)},(∀a∈r,Srt a)->(∀a∈s,Srt a)->LeE r s->A7B r<=A7B s/\(A7B s<=A7B r->r=s)
 | [],[],_,_,_=>⟨H6 _,fun _=>rfl⟩
 | [],b::s,_,_,h=>by have:=h.1;simp at this
 |a::r,[],_,_,h=>by have:=h.1;simp at this
 |a::r,b::s,hr,hs,h=>by
  have h1:∀x∈a,x∈b:=fun x hx=>h.2 0 x hx
  have ha:=hr a Q7;have hb:=hs b Q7;have h2:=A8g ha h1;obtain⟨h3,h4⟩:=C0Y (r:=r) (s:=s) (fun x hx=>hr x (A0K _ hx)) (fun x hx=>hs x (A0K _ hx)) ⟨by simpa using h.1,fun i x hx=>h.2 (i+1) x hx⟩;have e1:A7B (a::r)=a.length+A7B r:=rfl;have e2:A7B (b::s)=b.length+A7B s:=rfl;refine⟨by omega,fun hl=>?_⟩
  rw[B78 ha hb h1 (by omega),h4 (by omega)]
theorem B1a {its:List Itm}{r:List (List Nm)} (h:RowsE its r):A7B r<=its.length *(A3x its).length:=by
 rw[<-h.len];have key:∀(l:List (List Nm)),(∀a∈l,a∈r)->A7B l<=l.length *(A3x its).length:=by
  intro l;induction l with
  |nil=>intro _;simp[A7B]
  |cons a l ih=>
   intro hl;have h1:=ih (fun x hx=>hl x (A0K _ hx));have ha:=hl a Q7;have h2:=A8g (h.srt a ha) (h.of a ha);have e1:A7B (a::l)=a.length+A7B l:=rfl;rw[e1,F9,A1x];omega
 exact key r (fun _ h=>h)
abbrev B1Q (its:List Itm):Nat:=its.length *(A3x its).length
theorem A9t {its:List Itm}{r:List (List Nm)} (h:A3z its r=r):∀n,A4H its n r=r
 |0=>rfl
 |n+1=>by rw[A4H,if_pos h]
theorem A8b {its:List Itm}{r:List (List Nm)} (h:RowsE its r) (hn:A3z its r≠r):A7B r<A7B (A3z its r):=by
 obtain⟨h1,h2⟩:=h.round;obtain⟨h3,h4⟩:=C0Y h.srt h1.srt h2;rcases U2 (A7B r) (A7B (A3z its r)) with h5|h5
 ·exact h5
 ·exact absurd (h4 h5).symm hn
theorem B0R {its:List Itm}:∀(d:Nat) {r:List (List Nm)},RowsE its r->B1Q its-A7B r<=d->∀n m,d<n->d<m->A4H its n r=A4H its m r
 |d,r,h,hd,n,m,hn,hm=>by
  by_cases e:A3z its r=r
  ·rw[A9t e,A9t e]
  ·have h1:=A8b h e
   have h2:=B1a h.round.1;have e0:B1Q its=its.length *(A3x its).length:=rfl;obtain⟨n,rfl⟩:∃k,n=k+1:=⟨n-1,by omega⟩;obtain⟨m,rfl⟩:∃k,m=k+1:=⟨m-1,by omega⟩;rw[A4H,if_neg e,A4H,if_neg e]
   match d,hd with
   |0,hd=>omega
   |d+1,hd=>exact B0R d h.round.1 (by omega) n m (by omega) (by omega)
theorem B87 {its:List Itm}{r:List (List Nm)} (h:RowsE its r) (e:A3z its r≠r):A4H its (B1Q its+1) r=A4H its (B1Q its+1) (A3z its r):=by
 have h1:=A8b h e;have h2:=B1a h.round.1;have e0:B1Q its=its.length *(A3x its).length:=rfl;rw[A4H,if_neg e];exact B0R (B1Q its-1) h.round.1 (by omega) _ _ (by omega) (by omega)
theorem B4P {its:List Itm}:∀(d:Nat) {r:List (List Nm)},RowsE its r->B1Q its-A7B r<=d->∀n,d<n->A3z its (A4H its n r)=A4H its n r/\RowsE its (A4H its n r)/\LeE r (A4H its n r)
 |d,r,h,hd,n,hn=>by
  by_cases e:A3z its r=r
  ·rw[A9t e];exact⟨e,h,LeE.refl r⟩
  ·have h1:=A8b h e
   have h2:=B1a h.round.1;have e0:B1Q its=its.length *(A3x its).length:=rfl;obtain⟨n,rfl⟩:∃k,n=k+1:=⟨n-1,by omega⟩;rw[A4H,if_neg e]
   match d,hd with
   |0,hd=>omega
   |d+1,hd=>
    obtain⟨h3,h4,h5⟩:=B4P d h.round.1 (by omega) n (by omega);exact⟨h3,h4,h.round.2.trans h5⟩
theorem C2D (its:List Itm):A8M its=A4H its (B1Q its+1) (A4T its):=rfl
theorem A7h (its:List Itm):A3z its (A8M its)=A8M its/\RowsE its (A8M its)/\LeE (A4T its) (A8M its):=
 B4P (B1Q its) (B0o its) (Nat.sub_le _ _) _ (Nat.lt_succ_self _)
inductive Rch (its:List Itm):Nat->Nat->Prop
 |refl (i:Nat):Rch its i i
 |step {i k j:Nat} (h:k∈A4d its i) (r:Rch its k j):Rch its i j
theorem B4n {its:List Itm}{i k:Nat} (h:k∈A4d its i):k<its.length/\(A0q its k).kind=2:=by
 rw[A4d]at h;split at h
 ·obtain⟨n,_,hn⟩:=A6z.1 h
  have:=A2B hn;exact⟨this.1,by omega⟩
 ·cases h
def A4b (its:List Itm) (r:List (List Nm)):Prop:= ∀i x,x∈r.getD i []->∃k,Rch its i k/\x∈A7p its k
theorem A4b.init (its:List Itm):A4b its (A4T its):=fun i x hx=>by
 rcases U2 i its.length with hi|hi
 ·rw[B3l its hi]at hx;exact⟨i,.refl i,hx⟩
 ·rw[A7n (by rw[B0h];exact hi)]at hx;cases hx
theorem A4b.step {its:List Itm}{r:List (List Nm)} (hr:RowsE its r) (h:A4b its r) (i:Nat):A4b its (A23 its r i):=fun j x hx=>by
 by_cases e:i=j
 ·subst e
  rcases U2 i r.length with hi|hi
  ·rw[A23,A5F hi]at hx
   rcases(A7x hr i x).1 hx with h1|⟨k,hk,h1⟩
   ·exact h i x h1
   ·obtain⟨m,hm,hx⟩:=h k x h1
    exact⟨m,.step hk hm,hx⟩
  ·rw[A23,A7n (by rw[A2k];exact hi)]at hx;cases hx
 ·rw[A23,getD_set_ne e]at hx;exact h j x hx
theorem A4b.folds {its:List Itm}:∀(l:List Nat) {r:List (List Nm)},RowsE its r->A4b its r->A4b its (l.foldl (A23 its) r)
 | [],_,_,h=>h
 |i::l,_,hr,h=>A4b.folds l (hr.step i).1 (h.step hr i)
theorem A4b.iter {its:List Itm}:∀(n:Nat) {r:List (List Nm)},RowsE its r->A4b its r->A4b its (A4H its n r)
 |0,_,_,h=>h
 |n+1,r,hr,h=>by
  rw[A4H];split
  ·exact h
  ·exact A4b.iter n hr.round.1 (A4b.folds _ hr h)
theorem B6D {its:List Itm}{i k:Nat} (h:k∈A4d its i) {x:Nm} (hx:x∈A98 its k):x∈A98 its i:=by
 obtain⟨h1,h2,_⟩:=A7h its;rcases U2 i its.length with hi|hi
 ·have h3:=B4G (List.range its.length) h2 h1 i (A17.2 hi)
  have h4:x∈(A23 its (A8M its) i).getD i []:=by
   rw[A23,A5F (by rw[h2.len];exact hi)];exact(A7x h2 i x).2 (.inr ⟨k,h,hx⟩)
  rw[h3]at h4;exact h4
 ·rw[A4d,A0q,A7n hi]at h
  cases h
theorem C2C {its:List Itm}{i:Nat} (hi:i<its.length) (x:Nm):x∈A98 its i↔ ∃k,Rch its i k/\x∈A7p its k:=by
 constructor
 ·exact fun h=>A4b.iter _ (B0o its) (A4b.init its) i x h
 ·rintro⟨k,hk,hx⟩
  induction hk with
  |refl i=>exact(A7h its).2.2.2 i x (by rw[B3l its hi];exact hx)
  |step h _ ih=>exact B6D h (ih (B4n h).1 hx)
theorem B6F (its:List Itm) (i:Nat):Srt (A98 its i):=((A7h its).2.1.getD i).1
theorem B4i (its:List Itm):(A8M its).length=its.length:=(A7h its).2.1.len
theorem C1a {its:List Itm}{i:Nat} (h:(A0q its i).kind≠2):A98 its i= []:=by
 rcases U2 i its.length with hi|hi
 ·refine B2I (B6F its i) Srt.nil (fun x=>⟨fun hx=>?_,fun hx=>by cases hx⟩)
  obtain⟨k,hk,hx⟩:=(C2C hi x).1 hx;cases hk with
  |refl=>rw[A7p,if_neg h]at hx;exact hx
  |step h1 _=>rw[A4d,if_neg h]at h1;cases h1
 ·rw[A98,A7n (by rw[B4i];exact hi)]
def B05 (it:Itm) (c:Nm):Bool:=it.sends.any (fun x=>decide (x.name=c))
def B0G (c:Nm):Dg:=⟨0,0,10,c⟩
def B0H (its:List Itm) (i:Nat):List Dg:=((A98 its i).filter (fun c=> !B05 (A0q its i) c)).map B0G
structure DI where
 fr:Int
 to:Int
 err:Nat
 name:List UInt8
 deriving DecidableEq
def A4g (b:Int) (d:Dg):DI:=⟨w64 (d.fr+b),w64 (d.to+b),d.err,d.name⟩
def C2a (its:List Itm) (i:Nat):List Dg:=(A0q its i).diags++((A3b its i).ds++(B0H its i++(A3d its i (-1)).ds))
def B39 (its:List Itm) (i:Nat):List DI:=(C2a its i).map (A4g (A0q its i).at_)
def A6U (its:List Itm) (k:Nat):List DI:=(List.range k).flatMap (B39 its)
def A5i (its:List Itm):List DI:=A6U its its.length
theorem B2V (its:List Itm) (k:Nat):A6U its (k+1)=A6U its k++B39 its k:=by
 rw[A6U,A1N,Y2, <-A6U];simp
theorem B6C {its:List Itm} (h:A5i its= []) {i:Nat} (hi:i<its.length):(A0q its i).diags= []/\(A3b its i).ds= []/\B0H its i= []/\(A3d its i (-1)).ds= []:=by
 rw[A5i,A6U,List.flatMap_eq_nil_iff]at h;have:=h i (A17.2 hi);rw[B39,List.map_eq_nil_iff,C2a]at this;simpa using this
def A9K (its:List Itm) (nm:List UInt8) (args:List Int):Rn:=
 if A5i its≠ [] then ⟨[],0,13,0⟩ else
 match A0Z its 2 nm with
 |none=>⟨[],0,6,0⟩
 |some j=>if args.length≠(A0q its j).params.length then ⟨[],0,5,0⟩ else
  if (A51 its 40 nm args MR0).2.err≠0 then ⟨[],0,(A51 its 40 nm args MR0).2.err,0⟩
  else ⟨(A51 its 40 nm args MR0).2.ev,(A51 its 40 nm args MR0).1,0,(A51 its 40 nm args MR0).2.steps⟩
def B3G (s:List UInt8):List (List UInt8):=(List.range (Y5 s).length).map (A1b s (Y5 s))
def C5d (s t:List UInt8) (j:Nat):Bool:= !(B3G s).contains (A1b t (Y5 t) j)
def fresh (s t:List UInt8) (k:Nat):Nat:=(List.range k).countP (C5d s t)
def A4j (s t:List UInt8):Nat:=if Y7 t=0 then fresh s t (Y5 t).length else 0
theorem B8Y (s t:List UInt8) (k:Nat):fresh s t (k+1)=fresh s t k+if C5d s t k then 1 else 0:=by
 rw[fresh,A1N,List.countP_append, <-fresh,List.countP_singleton]
theorem C3s (s t:List UInt8) (k:Nat):fresh s t k<=k:=by
 have:=List.countP_le_length (p:=C5d s t) (l:=List.range k)
 rwa [List.length_range]at this
theorem C3B (T:Src) (a b:Int) (n:Nat):A4X T b n=({ (A4X T a n).1 with at_:=b},(A4X T a n).2):=by
 simp only[A4X];split
 ·rfl
 ·split<;>rfl
theorem B86 (src:List UInt8) (a b:Int):item src b= { item src a with at_:=b}:=by
 rw[A7M,A7M,C3B _ a b,B4O,B4O]
theorem C2V (s:List UInt8) (f u:Int) (x:List UInt8):(B22 s f u x).length<=4000:=by
 rw[B22];split
 ·rename_i h
  have h1:¬(f<0\/u<f\/u>s.length):=fun h2=>by rw[A6V,if_pos h2]at h;cases h
  have h2:¬(x.length>4000\/(s.length:Int)-(u-f)+x.length>4000):=fun h2=>by rw[A6V,if_neg h1,if_pos h2]at h;cases h
  simp only[E9,P8,A0s];omega
 ·simp
inductive Well (T:Src):St->St->Prop where
 |refl (s:St):Well T s s
 |bad {s r:St} (e:Nat):Well T s r->Well T s (r.bad T e)
 |next {s r:St}:Well T s r->(r.ds≠ []\/(T.tok r.i).kind≠4)->Well T s r.next
section
variable {T:Src}
theorem C5j (f d:Nat) (s:St) (h:name (T.tok s.i).text=true):(A21 T (f+1) d s).2.ds≠ []\/s.i+1<=(A21 T (f+1) d s).2.i:=by
 have hl:=A2e (A59 h);rw[A21];dsimp only
 rw[if_neg (by omega)];split
 ·exact .inl (A2x _ _ _)
 ·split
  ·split
   ·exact .inl (A2x _ _ _)
   ·exact .inr (H6 _)
  ·split
   ·have:=(((A3s T f).2.2.1 (d+1) 1 s.next).trans (A0i T _ [41])).on
    exact .inr this
   ·split
    ·exact .inl (A2x _ _ _)
    ·split
     ·exact .inr (H6 _)
     ·have:=(((A0G T s.next).trans ((A3s T f).2.1 (d+1) [] s.next.next)).trans (A0i T _ [41])).on
      exact .inr this
theorem C72 (f d:Nat) (s:St):(stm T (f+3) d s).2.ds≠ []\/s.i+1<=(stm T (f+3) d s).2.i:=by
 have hE:=(A3s T (f+2)).2.2.1;have hB:=(A6M T (f+2)).1;rw[stm];dsimp only
 split
 ·right
  have g2:Runs T (s.next.named T).2 (if (!T.is (s.next.named T).2.i [58])=true then ((0:Nat),(s.next.named T).2) else lab T (s.next.named T).2.next).2:=by
   split
   ·exact .refl _
   ·exact(A0G T _).trans (A42 T _)
  exact(((((A2W T s.next).trans g2).trans (A0i T _ _)).trans (hE _ _ _)).trans (A0i T _ _)).on
 ·split
  ·right
   have g1:=(hE d 1 s.next).trans (hB d (A0P T (f+2) d 1 s.next).2);split
   ·exact((Runs.next g1).trans (hB d _)).on
   ·exact g1.on
  ·split
   ·exact .inr ((hE d 1 s.next).trans (hB d (A0P T (f+2) d 1 s.next).2)).on
   ·split
    ·exact .inr (((A2W T s.next).trans (hE d 1 _)).trans (A0i T _ _)).on
    ·split
     ·exact .inr ((hE d 1 s.next).trans (A0i T _ _)).on
     ·split
      ·rename_i hn
       split
       ·exact .inr (((A0G T s.next).trans (hE d 1 _)).trans (A0i T _ [59])).on
       ·have ha:=C5j (T:=T) f d s hn
        have hr:Runs T (A21 T (f+1) d s).2 ((A0P T (f+2) d 1 s).2.need T [59]).2:=by
         rw[A0P];exact((A3s T (f+1)).2.2.2 d 1 _ _).trans (A0i T _ _)
        rcases ha with ha|ha
        ·exact .inl (hr.told ha)
        ·exact .inr (A0N ha hr.on)
      ·exact .inl (A2x _ _ _)
end
def shift (n:Nat) (t:Tok):Tok:=⟨t.kind,t.text,t.pos+n⟩
def tk (s:List UInt8) (p:Nat):List Tok:=A8s s.length s p
theorem B92 (p:Nat):tk [] p= []:=rfl
theorem B6k (s:List UInt8) (p:Nat) (hs:s≠ []):tk s p=(if (one s).1>0 then [⟨(one s).1,s.take (one s).2,p⟩] else [])++tk (s.drop (one s).2) (p+(one s).2):=by
 have hl:=A6G s hs;obtain⟨f,hf⟩:∃f,s.length=f+1:=⟨s.length-1,by omega⟩;have e:A8s f (s.drop (one s).2) (p+(one s).2)=tk (s.drop (one s).2) (p+(one s).2):=B1P _ _ _ _ (by simp;omega) (by simp);unfold tk at e |-
 rw[hf];simp only[A8s,hs,if_false];rw[e];split<;>rfl
theorem B3V (n:Nat):∀(f:Nat) (s:List UInt8) (p:Nat),A8s f s (p+n)=(A8s f s p).map (shift n)
 |0,_,_=>rfl
 |f+1,s,p=>by
  simp only[A8s];split
  ·rfl
  ·split
   ·rw[X5, <-B3V n f,show p+n+(one s).2=p+(one s).2+n by omega];rfl
   ·rw[<-B3V n f,show p+n+(one s).2=p+(one s).2+n by omega]
theorem C01 (F:UInt8->Bool):∀(r:List UInt8) (m:Nat),(r.takeWhile F).length<=m->(r.take m).takeWhile F=r.takeWhile F
 | [],m,_=>by simp
 |c::r,0,h=>by
  rw[A5q]at h |-;split at h
  ·simp at h
  ·rename_i hc;simp[hc]
 |c::r,m+1,h=>by
  rw[A1g,A5q,A5q];rw[A5q]at h;split at h
  ·rename_i hc
   rw[if_pos hc,if_pos hc,C01 F r m (by simpa using h)]
  ·rename_i hc;rw[if_neg hc,if_neg hc]
theorem C34 (s:List UInt8) (m:Nat) (hs:s≠ []) (h:(one s).2<=m):one (s.take m)=one s:=by
 cases s with
 |nil=>exact absurd rfl hs
 |cons c r=>
  have hm:1<=m:=A0N (A6G (c::r) hs).1 h;obtain⟨m,rfl⟩:∃k,m=k+1:=⟨m-1,by omega⟩;rw[A1g];have key:∀F:UInt8->Bool,run F r<=m+1->run F (r.take m)=run F r:=fun F hF=>by
   unfold run at hF |-
   rw[C01 F r m (by omega)]
  simp only[one]at h |-;by_cases h1:A9r c=true
  ·rw[if_pos h1]at h |-;rw[key _ h,if_pos h1]
  ·rw[if_neg h1]at h |-;rw[if_neg h1]
   by_cases h2:c.toNat=35
   ·rw[if_pos h2]at h |-;rw[key _ h,if_pos h2]
   ·rw[if_neg h2]at h |-;rw[if_neg h2]
    by_cases h3:A4W c=true
    ·rw[if_pos h3]at h |-;rw[key _ h,if_pos h3]
    ·rw[if_neg h3]at h |-;rw[if_neg h3]
     by_cases h4:A4V c=true
     ·rw[if_pos h4]at h |-;rw[key _ h,if_pos h4]
     ·rw[if_neg h4]at h |-;rw[if_neg h4]
theorem C74:∀(k:Nat) (s:List UInt8) (p n:Nat) (t:Tok),s.length=k->(tk s p)[n]?=some t->p<=t.pos/\tk (s.take (t.pos-p)) p=(tk s p).take n:=by
 intro k;induction k using Nat.strongRecOn with
 |_ k ih=>
  intro s p n t hk ht;by_cases hs:s= []
  ·subst hs;rw[B92]at ht;simp at ht
  have hl:=A6G s hs;have step:=B6k s p hs;have rest:∀(n:Nat),(tk (s.drop (one s).2) (p+(one s).2))[n]?=some t->p<=t.pos/\tk (s.take (t.pos-p)) p=(if (one s).1>0 then [⟨(one s).1,s.take (one s).2,p⟩] else [])++(tk (s.drop (one s).2) (p+(one s).2)).take n:=fun n hn=>by
   obtain⟨h1,h2⟩:=ih (s.drop (one s).2).length (by simp;omega) (s.drop (one s).2) (p+(one s).2) n t rfl hn;refine⟨by omega,?_⟩
   have hm:(one s).2<=t.pos-p:=by omega
   have hne:s.take (t.pos-p)≠ []:=by
    intro e;have:=congrArg List.length e;simp at this
    rcases this with this|this
    ·omega
    ·exact hs this
   have e3:((s.drop (one s).2).take (t.pos-(p+(one s).2)))=(s.take (t.pos-p)).drop (one s).2:=by
    rw[List.drop_take];congr 1;omega
   have e4:(s.take (t.pos-p)).take (one s).2=s.take (one s).2:=by rw[A29,A1f hm]
   rw[B6k _ _ hne,C34 s _ hs hm,e4, <-e3,h2]
  rw[step]at ht |-;by_cases hp:(one s).1>0
  ·rw[if_pos hp]at ht rest |-
   cases n with
   |zero=>
    simp only[A7T,A0A,U3]at ht;subst ht;exact⟨H6 _,by simp[B92]⟩
   |succ n=>
    obtain⟨h1,h2⟩:=rest n (by simpa using ht);exact⟨h1,by rw[h2];simp⟩
  ·rw[if_neg hp]at ht rest |-
   exact rest n (by simpa using ht)
theorem B94 (s:List UInt8) (n:Nat) (t:Tok) (h:(U9 s)[n]?=some t):U9 (s.take t.pos)=(U9 s).take n:=by
 have:=(C74 _ s 0 n t rfl h).2;rw[Nat.sub_zero]at this;exact this
section
variable {T T':Src}{n:Nat}
end
def bs (s:List UInt8) (l:List Tok):List Nat:=(l.filter (B0c s)).map (·.pos)
theorem C0s (s:List UInt8):∀(l:List Tok) (acc:List Nat),acc≠ []->l.foldl (A14 s) acc=acc++bs s l
 | [],acc,_=>by simp[bs]
 |t::l,acc,h=>by
  rw[A1e,C0s s l _ (B26 s acc t),A14];by_cases hb:B0c s t=true
  ·rw[if_pos (.inl hb),bs,bs,List.filter_cons_of_pos hb];simp
  ·rw[if_neg (by rintro(h1|h1);exact hb h1;exact h h1),bs,bs,List.filter_cons_of_neg hb]
theorem B3f (s:List UInt8) (p:Nat):∀(l:List Tok) (acc:List Nat) (i:Nat),acc.length<=i->(l.foldl (A14 s) acc)[i]?=some p->
  ∃n t,l[n]?=some t/\t.pos=p/\(l.take n).foldl (A14 s) acc=(l.foldl (A14 s) acc).take i/\(l.foldl (A14 s) acc).drop (i+1)=bs s (l.drop (n+1))
 | [],acc,i,h,hp=>by
  rw[List.foldl_nil,A07 h]at hp;cases hp
 |t::l,acc,i,h,hp=>by
  rw[A1e]at hp |-;by_cases h2:(A14 s acc t).length<=i
  ·obtain⟨n,u,h3,h4,h5,h6⟩:=B3f s p l _ i h2 hp
   exact⟨n+1,u,by simpa using h3,h4,by rw[A1g,A1e];exact h5,by rw[h6];simp⟩
  ·have h3:=B6W s acc t
   have h4:i=acc.length:=by omega
   have h5:A14 s acc t=acc++ [t.pos]:=by
    rw[A14]at h2 |-;split
    ·rfl
    ·rename_i hn
     rw[if_neg hn]at h2;omega
   rw[C0s s l _ (B26 s acc t),h5]at hp |-;refine⟨0,t,rfl,?_,?_,?_⟩
   ·rw[h4,O8,A2C (H6 _)]at hp
    simpa using hp
   ·rw[h4,O8,List.take_left];rfl
   ·rw[h4,List.drop_left' (by simp)];rfl
theorem C6w:∀(k:Nat) (s:List UInt8) (p n:Nat) (t:Tok),s.length=k->(tk s p)[n]?=some t->p<=t.pos/\(tk s p).drop n=tk (s.drop (t.pos-p)) t.pos:=by
 intro k;induction k using Nat.strongRecOn with
 |_ k ih=>
  intro s p n t hk ht;by_cases hs:s= []
  ·subst hs;rw[B92]at ht;simp at ht
  have hl:=A6G s hs;have step:=B6k s p hs;have rest:∀(n:Nat),(tk (s.drop (one s).2) (p+(one s).2))[n]?=some t->p<=t.pos/\(tk (s.drop (one s).2) (p+(one s).2)).drop n=tk (s.drop (t.pos-p)) t.pos:=fun n hn=>by
   obtain⟨h1,h2⟩:=ih (s.drop (one s).2).length (by simp;omega) (s.drop (one s).2) (p+(one s).2) n t rfl hn;refine⟨by omega,?_⟩
   rw[h2,A5O,show (one s).2+(t.pos-(p+(one s).2))=t.pos-p by omega]
  by_cases ho:(one s).1>0
  ·rw[if_pos ho]at step
   cases n with
   |zero=>
    rw[step]at ht;simp at ht
    subst ht;simp
   |succ n=>
    rw[step]at ht |-;simpa using rest n (by simpa using ht)
  ·rw[if_neg ho]at step
   rw[step]at ht |-;simpa using rest n (by simpa using ht)
theorem B3g {l:List Nat}{i d x:Nat} (h:l[i]?=some x):l.getD i d=x:=by rw[O4,h];rfl
theorem B64 (s:List UInt8) (n:Nat) (t:Tok) (h:(U9 s)[n]?=some t):(U9 s).drop n=(U9 (s.drop t.pos)).map (shift t.pos):=by
 have h6:=(C6w s.length s 0 n t rfl h).2;have e:U9 s=tk s 0:=rfl;rw[e,h6,Nat.sub_zero];have:=B3V t.pos (s.drop t.pos).length (s.drop t.pos) 0;rw[W9]at this;exact this
theorem C0j {s:List UInt8}{i c:Nat} (h:(Y5 s)[i]?=some c):∃(n:Nat) (t:Tok),(U9 s)[n]?=some t/\t.pos=c:=by
 obtain⟨n,t,h1,h2,_⟩:=B3f s c (U9 s) [] i (H7 _) h;exact⟨n,t,h1,h2⟩
theorem B9D (s:List UInt8) {i:Nat} (hi:i<(Y5 s).length):∃m n,(U9 (A1b s (Y5 s) i)).map (shift ((Y5 s).getD i 0))=((U9 s).take m).drop n:=by
 have hc:(Y5 s)[i]?=some (Y5 s)[i]:=G6 hi;obtain⟨n,t,h1,h2⟩:=C0j hc;have hlt:=A7F s hi;rw[A1b,B3g hc, <-h2];rw[B3g hc, <-h2]at hlt;rcases U2 (i+1) (Y5 s).length with h3|h3
 ·obtain⟨m,u,h4,h5⟩:=C0j (G6 h3)
  have e1:(Y5 s).getD (i+1) s.length=u.pos:=by rw[B3g (G6 h3),h5]
  rw[e1]at hlt |-;have h6:=B94 s m u h4;have hnm:n<m:=by
   rcases U2 n m with h|h
   ·exact h
   ·exfalso
    have hn:=A0w.1 h1;have hm:=A0w.1 h4;obtain⟨hn1,hn2⟩:=hn;obtain⟨hm1,hm2⟩:=hm;rcases U2 m n with h7|h7
    ·have:=A2b.1 (A4o s) m n hm1 hn1 h7
     rw[hn2,hm2]at this;omega
    ·obtain rfl:n=m:=by omega
     rw[hn2]at hm2;subst hm2;omega
  refine⟨m,n,?_⟩
  have h8:(U9 (s.take u.pos))[n]?=some t:=by rw[h6,List.getElem?_take_of_lt hnm];exact h1
  rw[<-h6,B64 _ n t h8,List.drop_take]
 ·have e1:(Y5 s).getD (i+1) s.length=s.length:=by rw[O4,A07 h3];rfl
  refine⟨(U9 s).length,n,?_⟩
  rw[e1,V6,B64 s n t h1,A0n (by rw[A0s];omega)]
theorem C11 (s:List UInt8) {i:Nat} (hi:i<(Y5 s).length) {t:Tok} (h:t∈U9 (A1b s (Y5 s) i)):shift ((Y5 s).getD i 0) t∈U9 s:=by
 obtain⟨m,n,h1⟩:=B9D s hi;have h2:shift ((Y5 s).getD i 0) t∈((U9 s).take m).drop n:=h1 ▸ A5r h;exact A6w (List.mem_of_mem_drop h2)
def A0Q (s:List UInt8) (a:Nat) (n:List UInt8):Prop:=a+n.length<=s.length/\(s.drop a).take n.length=n/\(n≠ []->name n=true/\∃k,(⟨k,n,a⟩:Tok)∈U9 s)
theorem A8h {s:List UInt8}{a:Nat} (h:a<=s.length):A0Q s a []:=⟨by simpa using h,by simp,fun h=>absurd rfl h⟩
def stE (s:List UInt8):PE:=fun k nm _ _ f _=>(k=2\/k=4)->A0Q s f nm
def stS (s:List UInt8):PS:=fun k nm a _ _ _ _=>(k=1\/k=2\/k=5)->A0Q s a nm
theorem B8i (src:List UInt8) (i:Nat):((⟨U9 src,src.length⟩:Src).tok i).pos<=src.length:=by
 rw[Src.tok];by_cases h:i<(U9 src).length
 ·have hk:=A2D src (U9 src)[i] (O5 h)
  simp only[O4,G6 h,Option.getD_some];exact Nat.le_of_lt hk.pos
 ·simp only[O4,A07 (Nat.le_of_not_lt h),Option.getD_none]
  exact H6 _
theorem A8r (src:List UInt8) (i:Nat) (hn:name ((⟨U9 src,src.length⟩:Src).tok i).text=true):A0Q src ((⟨U9 src,src.length⟩:Src).tok i).pos ((⟨U9 src,src.length⟩:Src).tok i).text:=by
 rw[Src.tok]at hn |-;by_cases h:i<(U9 src).length
 ·have hk:=A2D src (U9 src)[i] (O5 h)
  simp only[O4,G6 h,Option.getD_some]at hn |-;exact⟨hk.fit,hk.text.symm,fun _=>⟨hn,_,O5 h⟩⟩
 ·simp only[O4,A07 (Nat.le_of_not_lt h),Option.getD_none]
  exact A8h (H6 _)
theorem A4Z (src:List UInt8) (s:St):A0Q src ((⟨U9 src,src.length⟩:Src).tok s.i).pos (s.named ⟨U9 src,src.length⟩).1:=by
 have h0:A0Q src ((⟨U9 src,src.length⟩:Src).tok s.i).pos []:=A8h (B8i src s.i);rw[St.named];split
 ·rename_i hn
  exact A8r src s.i hn
 ·split
  ·exact h0
  ·exact h0
theorem C7W (src:List UInt8):AtE ⟨U9 src,src.length⟩ (stE src):=
 ⟨fun h=>(by omega),fun i h=>(by omega),fun i n _ _ h=>(by omega),fun i hn _=>A8r src i hn,fun i j m hn _ _ _=>A8r src i hn,fun i k1 n1 v1 m1 f1 t1 k2 n2 v2 m2 f2 t2 _ _ _ h=>(by omega)⟩
theorem C7X (src:List UInt8):AtS ⟨U9 src,src.length⟩ (stS src):=
 ⟨fun h=>(by omega),fun i s lb o j _ _=>A4Z src s,fun i j hn _=>A8r src i hn,fun k i j hk h=>(by omega),fun i s j _=>A4Z src s⟩
structure ItS (s:List UInt8) (p:Nat) (q:List UInt8) (it:Itm):Prop where
 at_:it.at_=p
 sub:∀a n,A0Q q a n->A0Q s (p+a) n
 body:Y0 (stE q) (stS q) it.body
 params:∀x∈it.params,A0Q q x.at_ x.name
 sends:∀x∈it.sends,A0Q q x.at_ x.name
 mark:A0Q q it.mark it.name
def A8I (s:List UInt8) (it:Itm):Prop:= ∃p q,ItS s p q it
theorem B52 (s:List UInt8) {i:Nat} (hi:i<(Y5 s).length) {a:Nat}{n:List UInt8} (h:A0Q (A1b s (Y5 s) i) a n):A0Q s ((Y5 s).getD i 0+a) n:=by
 obtain⟨c1,c2⟩:=A7F s hi;obtain⟨h1,h2,h3⟩:=h;have h4:=fun (k:Nat) (h:(⟨k,n,a⟩:Tok)∈U9 (A1b s (Y5 s) i))=>C11 s hi h
 rw[A1b,P8,A0s]at h1;rw[A1b]at h2;refine⟨by omega,?_,fun hn=>?_⟩
 case refine_2=>
  obtain⟨hnm,k,hk⟩:=h3 hn;refine⟨hnm,k,?_⟩
  rw[A3M];exact h4 k hk
 rw[List.drop_take,A29,A5O,A1f (by omega)]at h2;exact h2
theorem C3l (s:List UInt8):∀it∈J7 s,A8I s it:=by
 intro it hit;rw[J7]at hit;split at hit
 ·rw[A3I,A0y]at hit
  obtain⟨i,hi,rfl⟩:=hit;have hi:=A17.1 hi;obtain⟨c1,c2⟩:=A7F s hi;have hall:=B3o (src:=A1b s (Y5 s) i) ((Y5 s).getD i 0:Nat) (C7W _) (C7X _) (r:=fun x=>A0Q (A1b s (Y5 s) i) x.at_ x.name) (t:=fun x=>A0Q (A1b s (Y5 s) i) x.at_ x.name) (fun s _ _=>A4Z _ s) (fun s=>A4Z _ s);refine⟨(Y5 s).getD i 0,A1b s (Y5 s) i,?_⟩
  rw[A0S];refine⟨B2B _ _,fun a n h=>B52 s hi h,hall.body,hall.params,hall.sends,?_⟩
  rcases hall.mark with ⟨h1,h2⟩|⟨st,h1,h2⟩
  ·rw[h1]
   rcases h2 with ⟨j,h2⟩|h2
   ·rw[h2];exact A8h (B8i (A1b s (Y5 s) i) j)
   ·rw[h2];exact A8h (H7 _)
  ·rw[h1,h2];exact A4Z _ st
 ·cases hit
def C6K (s:List UInt8) (u:Us):Prop:= ∃f d n,u.fr=((f:Nat):Int)/\u.to=((f+n.length:Nat):Int)/\u.df=((d:Nat):Int)/\n≠ []/\A0Q s f n/\A0Q s d n
def NW.ok (s:List UInt8) (w:NW):Prop:= ∀u∈w.us,C6K s u
def A6c (q:List UInt8) (sc:List Lc):Prop:= ∀l∈sc,l.name≠ []/\A0Q q l.at_ l.name
theorem A9I {s:List UInt8}{w:NW} (h:w.ok s) (a e:Nat) (n:List UInt8):(w.tell a e n).ok s:=h
theorem C4R {s:List UInt8}{w:NW} (h:w.ok s) {p a d:Nat}{n:List UInt8}{b e:Int} (hb:b=p) (he:e=d) (hn:n≠ []) (h1:A0Q s (p+a) n) (h2:A0Q s d n):(w.use b a n e).ok s:=by
 intro u hu;rcases A0d.1 hu with hu|hu
 ·exact h u hu
 ·obtain rfl:=A0B.1 hu
  exact⟨p+a,d,n,by dsimp only;omega,by dsimp only;omega,he,hn,h1,h2⟩
theorem B4A {s:List UInt8}{its:List Itm} (h:∀x∈its,A8I s x) {k:Int}{n:List UInt8}{j:Nat} (hf:A0Z its k n=some j):n≠ []/\∃d:Nat,(A0q its j).at_+(A0q its j).mark=(d:Int)/\A0Q s d n:=by
 obtain⟨hj,h1,h2,h3,h4⟩:=A2B hf;obtain⟨p,q,hi⟩:=h _ h4;refine⟨h3,p+(A0q its j).mark,by rw[hi.at_];omega,?_⟩
 have:=hi.sub _ _ hi.mark;rw[h2]at this;exact this
def A8K (s:List UInt8) (p:Nat) (q:List UInt8):Prop:= ∀a n,A0Q q a n->A0Q s (p+a) n
section
variable {s q:List UInt8}{p:Nat}{its:List Itm}{sc:List Lc}
theorem C0y (hb:A8K s p q) (hsc:A6c q sc) {a:Nat}{n:List UInt8} (hst:A0Q q a n) {w:NW} (hw:w.ok s):(A71 p sc a n w).ok s:=by
 rw[A71];split
 ·rename_i l hl
  obtain⟨hm,hn⟩:=A7G hl;obtain⟨h1,h2⟩:=hsc _ hm;rw[hn]at h1 h2;exact C4R hw rfl (d:=p+l.at_) (by omega) h1 (hb _ _ hst) (hb _ _ h2)
 ·split
  ·exact hw
  ·exact A9I hw _ _ _
theorem B5G (hi:∀x∈its,A8I s x) (hb:A8K s p q) (k:Int) {a:Nat}{n:List UInt8} (hst:A0Q q a n) {w:NW} (hw:w.ok s):(A5c its p k a n w).ok s:=by
 rw[A5c];split
 ·rename_i j hj
  obtain⟨h1,d,h2,h3⟩:=B4A hi hj;exact C4R hw rfl h2 h1 (hb _ _ hst) h3
 ·split
  ·exact hw
  ·exact A9I hw _ _ _
theorem C2U (hi:∀x∈its,A8I s x) (hb:A8K s p q) {a:Nat}{n:List UInt8} (hst:A0Q q a n) (m:Nat) {w:NW} (hw:w.ok s):(A5f its p a n m w).ok s:=by
 have h:=B5G hi hb 2 hst hw;rw[A5f];split
 ·split
  ·exact A9I h _ _ _
  ·exact h
 ·exact h
theorem B1O (h:A6c q sc) {n:List UInt8}{a:Nat} (hn:n≠ []) (hst:A0Q q a n):A6c q (sc++ [⟨n,a⟩]):=fun l hl=>by
 rcases A0d.1 hl with hl|hl
 ·exact h l hl
 ·obtain rfl:=A0B.1 hl
  exact⟨hn,hst⟩
theorem C3R (hsc:A6c q sc) {a:Nat}{n:List UInt8} (hst:A0Q q a n) {w:NW} (hw:w.ok s):A6c q (mkN n a sc w).1/\(mkN n a sc w).2.ok s:=by
 rw[mkN];split
 ·exact⟨hsc,hw⟩
 ·rename_i hn
  refine⟨B1O hsc hn hst,?_⟩
  dsimp only
  split
  ·exact A9I hw _ _ _
  ·exact hw
mutual
theorem C3b (hi:∀x∈its,A8I s x) (hb:A8K s p q) (hsc:A6c q sc):∀(e:Ex),e.all (stE q)->∀ {w:NW},w.ok s->(exN its p sc e w).ok s
 | .mk k nm n args f t,h,w,hw=>by
  rw[Ex.all]at h;rw[exN];refine C0p hi hb hsc args h.2 ?_
  have h1:=h.1;split
  ·rename_i hk;exact C0y hb hsc (h1 (.inl hk)) hw
  ·split
   ·rename_i hk;exact C2U hi hb (h1 (.inr hk)) _ hw
   ·exact hw
theorem C0p (hi:∀x∈its,A8I s x) (hb:A8K s p q) (hsc:A6c q sc):∀(l:List Ex),A1n (stE q) l->∀ {w:NW},w.ok s->(A5b its p sc l w).ok s
 | [],_,w,hw=>by rw[A5b];exact hw
 |e::l,h,w,hw=>by
  rw[A1n]at h;rw[A5b];exact C0p hi hb hsc l h.2 (C3b hi hb hsc e h.1 hw)
 end
mutual
theorem C6r (hi:∀x∈its,A8I s x) (hb:A8K s p q):∀(x:Stm),x.all (stE q) (stS q)->∀ {sc:List Lc},A6c q sc->∀ {w:NW},w.ok s->A6c q (A50 its p x sc w).1/\(A50 its p x sc w).2.ok s
 | .mk k nm a lb o e thn els f t,h,sc,hsc,w,hw=>by
  rw[Stm.all]at h;obtain⟨h1,h2,h3,h4⟩:=h;have he:=C3b hi hb hsc e h2 hw;rw[A50];split
  ·rename_i hk;exact C3R hsc (h1 (.inl hk)) he
  ·split
   ·rename_i hk;exact⟨hsc,C0y hb hsc (h1 (.inr (.inl hk))) he⟩
   ·split
    ·rename_i hk;exact⟨hsc,B5G hi hb 1 (h1 (.inr (.inr hk))) he⟩
    ·split
     ·exact⟨hsc,(B09 hi hb els h4 hsc (B09 hi hb thn h3 hsc he).2).2⟩
     ·exact⟨hsc,he⟩
theorem B09 (hi:∀x∈its,A8I s x) (hb:A8K s p q):∀(l:List Stm),Y0 (stE q) (stS q) l->∀ {sc:List Lc},A6c q sc->∀ {w:NW},w.ok s->A6c q (A1c its p l sc w).1/\(A1c its p l sc w).2.ok s
 | [],_,sc,hsc,w,hw=>by rw[A1c];exact⟨hsc,hw⟩
 |x::l,h,sc,hsc,w,hw=>by
  rw[Y0]at h;rw[A1c];have h1:=C6r hi hb x h.1 hsc hw;exact B09 hi hb l h.2 h1.1 h1.2
 end
theorem C0G:∀(l:List Par),(∀x∈l,A0Q q x.at_ x.name)->∀ {sc:List Lc},A6c q sc->∀ {w:NW},w.ok s->A6c q (A3U l sc w).1/\(A3U l sc w).2.ok s
 | [],_,sc,hsc,w,hw=>by rw[A3U];exact⟨hsc,hw⟩
 |x::l,h,sc,hsc,w,hw=>by
  rw[A3U];have h1:=C3R hsc (h x Q7) hw;exact C0G l (fun y hy=>h y (A0K _ hy)) h1.1 h1.2
theorem C0Q (hi:∀x∈its,A8I s x) (hb:A8K s p q):∀(l:List Rf),(∀x∈l,A0Q q x.at_ x.name)->∀ {dn:List Rf}{w:NW},w.ok s->(A6d its p dn l w).ok s
 | [],_,dn,w,hw=>by rw[A6d];exact hw
 |x::l,h,dn,w,hw=>by
  rw[A6d];refine C0Q hi hb l (fun y hy=>h y (A0K _ hy)) ?_
  have h1:=B5G hi hb 1 (h x Q7) hw;rw[A62];split
  ·exact A9I h1 _ _ _
  ·exact h1
theorem B71:A6c q []:=fun l h=>by cases h
theorem C7l (hi:∀x∈its,A8I s x) {it:Itm} (h:ItS s p q it) {w:NW} (hw:w.ok s):(fnN its it w).ok s:=by
 have hb:A8K s p q:=h.sub;rw[fnN,h.at_];have h1:=C0G it.params h.params B71 hw;exact(B09 hi hb it.body h.body h1.1 (C0Q hi hb it.sends h.sends h1.2)).2
theorem C4Y (hi:∀x∈its,A8I s x) {i:Nat} (hlt:i<its.length):(A3b its i).ok s:=by
 have hm:A0q its i∈its:=by rw[A0q,O4,G6 hlt];exact O5 hlt
 obtain⟨p,q,h⟩:=hi _ hm;have h0:NW0.ok s:=fun u hu=>by cases hu
 have h1:(if B1b its i (A0q its i)=true then NW0.tell (A0q its i).mark 7 (A0q its i).name else NW0).ok s:=by
  split
  ·exact A9I h0 _ _ _
  ·exact h0
 rw[A3b];split
 ·exact C7l hi h h1
 ·exact h1
theorem B8m (hi:∀x∈its,A8I s x):∀u∈A1X its,C6K s u:=fun u hu=>by
 rw[A1X,A45,A6D]at hu;obtain⟨i,h1,h2⟩:=hu;exact C4Y hi (A17.1 h1) u h2
end
structure Pl where
 name:List UInt8
 at_:Int
mutual
def B2b (b:Int):Stm->List Pl
 | .mk k nm a _ _ _ thn els _ _=>(if k=1/\nm≠ [] then [⟨nm,b+a⟩] else [])++(A00 b thn++A00 b els)
def A00 (b:Int):List Stm->List Pl
 | []=> []
 |x::xs=>B2b b x++A00 b xs
 end
theorem C4H (b:Int) (x:Stm):B2b b x=(if x.kind=1/\x.name≠ [] then [⟨x.name,b+x.at_⟩] else [])++(A00 b x.thn++A00 b x.els):=by cases x;rw[B2b];rfl
theorem B0r (b:Int):∀(l r:List Stm),A00 b (l++r)=A00 b l++A00 b r
 | [],r=>by rw[A00];rfl
 |x::l,r=>by rw[X8,A00,A00,B0r b l r,O8]
theorem B8f (b:Int) {l:List Stm}{k:Nat}{x:Stm} (h:l[k]?=some x):A00 b (l.take (k+1))=A00 b (l.take k)++B2b b x:=by
 rw[Q9 h,B0r,A00,A00,J3]
def A54 (b:Int) (p:Par):List Pl:=if p.name≠ [] then [⟨p.name,b+p.at_⟩] else []
def B85 (it:Itm):List Pl:=if it.kind=3\/it.name= [] then [] else ⟨it.name,it.at_+it.mark⟩::(it.params.flatMap (A54 it.at_)++A00 it.at_ it.body)
def A3n (its:List Itm):List Pl:=its.flatMap B85
theorem B9h {its:List Itm}{k:Nat}{it:Itm} (h:its[k]?=some it):A3n (its.take (k+1))=A3n (its.take k)++B85 it:=by
 rw[A3n,Q9 h,Y2, <-A3n];simp
def B9E (l:List Pl) (at_:Int):Option Pl:=l.find? (fun d=>decide (d.at_<=at_) && decide (at_<d.at_+d.name.length))
def B60 (its:List Itm) (at_:Int):Option Int:=match B2g (A1X its) at_ with
 |some u=>some u.df
 |none=>(B9E (A3n its) at_).map (·.at_)
def B5R (l:List Pl) (df:Int):List UInt8:=l.foldl (fun o d=>if d.at_=df then d.name else o) []
theorem C1S {l:List Pl}{k:Nat}{d:Pl} (h:l[k]?=some d) (df:Int):B5R (l.take (k+1)) df=if d.at_=df then d.name else B5R (l.take k) df:=by
 rw[B5R,Q9 h,A5t];rfl
def A3H (us:List Us) (df:Int):List Int:=(us.filter (fun u=>decide (u.df=df))).map (·.fr)
theorem B81 {us:List Us}{k:Nat}{u:Us} (h:us[k]?=some u) (df:Int):A3H (us.take (k+1)) df=A3H (us.take k) df++(if u.df=df then [u.fr] else []):=by
 rw[A3H,Q9 h,A7V,Z4, <-A3H];by_cases e:u.df=df
 ·simp[e]
 ·simp[e]
def A33 (its:List Itm) (df:Int):List Int:=Go.Lib.compact ((df::A3H (A1X its) df).mergeSort (fun x y=>decide (x<=y)))
def A56 (s nm:List UInt8) (n:Nat):List Int->List UInt8×Int->List UInt8×Int
 | [],x=>x
 |k::l,x=>A56 s nm n l (x.1++((s.drop x.2.toNat).take (k.toNat-x.2.toNat)++nm),k+n)
def C7v (s nm:List UInt8) (n:Nat) (l:List Int):List UInt8:=(A56 s nm n l ([],0)).1++s.drop (A56 s nm n l ([],0)).2.toNat
def A68 (l:List Int) (a:Int):Nat:=(l.filter (fun k=>decide (k<a))).length
theorem B6B {l:List Int}{k:Nat}{z:Int} (h:l[k]?=some z) (a:Int):A68 (l.take (k+1)) a=A68 (l.take k) a+(if z<a then 1 else 0):=by
 rw[A68,Q9 h,A7V,E9, <-A68];by_cases e:z<a
 ·simp[e]
 ·simp[e]
def A7f (l:List Int) (more:Int) (a:Int):Int:=a+(A68 l a:Int) *more
def A5E (us vs:List Us) (l:List Int) (more:Int) (k:Nat):Bool:=(List.range k).all (fun i=>decide (A7f l more (us.getD i ⟨0,0,0⟩).fr=(vs.getD i ⟨0,0,0⟩).fr) && decide (A7f l more (us.getD i ⟨0,0,0⟩).df=(vs.getD i ⟨0,0,0⟩).df))
def B5n (us vs:List Us) (l:List Int) (more:Int):Bool:=decide (us.length=vs.length) && A5E us vs l more us.length
def toR (s:List UInt8) (at_:Int) (nm:List UInt8):List UInt8×Nat:=
 if Y7 s≠0 then ([],Y7 s) else
 if A5i (J7 s)≠ [] then ([],13) else
 match B60 (J7 s) at_ with
 |none=>([],6)
 |some df=>
  if name nm=false then ([],7) else
  let old:=B5R (A3n (J7 s)) df
  let l:=A33 (J7 s) df
  let t:=C7v s nm old.length l
  if Y7 t≠0 then ([],Y7 t) else
  if A5i (J7 t)≠ [] then ([],7) else
  if B5n (A1X (J7 s)) (A1X (J7 t)) l ((nm.length:Int)-old.length)=false then ([],7) else (t,0)
end Go.Sp
