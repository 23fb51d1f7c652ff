/- Own work: texts SpecEff2, SpecDgs, SpecGood, SpecBad, SpecGood2, SpecGood3, SpecFlow2, SpecTop, SpecRunOk, one behind the other. -/
import Derived.Test.YtfjdfdgpkncpfaaGreatDoorQb10
set_option maxHeartbeats 64000000
section
namespace Go.Sp
theorem B4Z:∀ {r s:List (List Nm)},(∀a∈r,Srt a)→(∀a∈s,Srt a)→LeE r s→A4D r≤A4D s∧(A4D s≤A4D r→r=s)
 | [],[],_,_,_=>⟨Nat.le_refl _,fun _=>rfl⟩
 | [],b::s,_,_,h=>by have:=h.1;simp at this
 |a::r,[],_,_,h=>by have:=h.1;simp at this
 |a::r,b::s,hr,hs,h=>by
  have h1:∀x∈a,x∈b:=fun x hx=>h.2 0 x hx
  have ha:=hr a List.mem_cons_self
  have hb:=hs b List.mem_cons_self
  have h2:=A43 ha h1
  obtain⟨h3,h4⟩:=B4Z (r:=r) (s:=s) (fun x hx=>hr x (List.mem_cons_of_mem _ hx)) (fun x hx=>hs x (List.mem_cons_of_mem _ hx)) ⟨by simpa using h.1,fun i x hx=>h.2 (i+1) x hx⟩
  have e1:A4D (a::r)=a.length+A4D r:=rfl
  have e2:A4D (b::s)=b.length+A4D s:=rfl
  refine⟨by omega,fun hl=>?_⟩
  rw[B2K ha hb h1 (by omega),h4 (by omega)]
theorem A61 {its:List Itm}{r:List (List Nm)} (h:RowsE its r):A4D r≤its.length *(A1t its).length:=by
 rw[←h.len]
 have key:∀(l:List (List Nm)),(∀a∈l,a∈r)→A4D l≤l.length *(A1t its).length:=by
  intro l
  induction l with
  |nil=>intro _;simp[A4D]
  |cons a l ih=>
   intro hl
   have h1:=ih (fun x hx=>hl x (List.mem_cons_of_mem _ hx))
   have ha:=hl a List.mem_cons_self
   have h2:=A43 (h.srt a ha) (h.of a ha)
   have e1:A4D (a::l)=a.length+A4D l:=rfl
   rw[e1,List.length_cons,Nat.add_mul];omega
 exact key r (fun _ h=>h)
abbrev A7L (its:List Itm):Nat:=its.length *(A1t its).length
theorem A5N {its:List Itm}{r:List (List Nm)} (h:A07 its r=r):∀n,A1M its n r=r
 |0=>rfl
 |n+1=>by rw[A1M,if_pos h]
theorem A4X {its:List Itm}{r:List (List Nm)} (h:RowsE its r) (hn:A07 its r≠r):A4D r<A4D (A07 its r):=by
 obtain⟨h1,h2⟩:=h.round
 obtain⟨h3,h4⟩:=B4Z h.srt h1.srt h2
 rcases Nat.lt_or_ge (A4D r) (A4D (A07 its r)) with h5|h5
 ·exact h5
 ·exact absurd (h4 h5).symm hn
theorem A6M {its:List Itm}:∀(d:Nat) {r:List (List Nm)},RowsE its r→A7L its-A4D r≤d→∀n m,d<n→d<m→A1M its n r=A1M its m r
 |d,r,h,hd,n,m,hn,hm=>by
  by_cases e:A07 its r=r
  ·rw[A5N e,A5N e]
  ·have h1:=A4X h e
   have h2:=A61 h.round.1
   have e0:A7L its=its.length *(A1t its).length:=rfl
   obtain⟨n,rfl⟩:∃k,n=k+1:=⟨n-1,by omega⟩
   obtain⟨m,rfl⟩:∃k,m=k+1:=⟨m-1,by omega⟩
   rw[A1M,if_neg e,A1M,if_neg e]
   match d,hd with
   |0,hd=>omega
   |d+1,hd=>exact A6M d h.round.1 (by omega) n m (by omega) (by omega)
theorem B3t {its:List Itm}{r:List (List Nm)} (h:RowsE its r) (e:A07 its r≠r):A1M its (A7L its+1) r=A1M its (A7L its+1) (A07 its r):=by
 have h1:=A4X h e
 have h2:=A61 h.round.1
 have e0:A7L its=its.length *(A1t its).length:=rfl
 rw[A1M,if_neg e]
 exact A6M (A7L its-1) h.round.1 (by omega) _ _ (by omega) (by omega)
theorem A95 {its:List Itm}:∀(d:Nat) {r:List (List Nm)},RowsE its r→A7L its-A4D r≤d→∀n,d<n→A07 its (A1M its n r)=A1M its n r∧RowsE its (A1M its n r)∧LeE r (A1M its n r)
 |d,r,h,hd,n,hn=>by
  by_cases e:A07 its r=r
  ·rw[A5N e];exact⟨e,h,LeE.refl r⟩
  ·have h1:=A4X h e
   have h2:=A61 h.round.1
   have e0:A7L its=its.length *(A1t its).length:=rfl
   obtain⟨n,rfl⟩:∃k,n=k+1:=⟨n-1,by omega⟩
   rw[A1M,if_neg e]
   match d,hd with
   |0,hd=>omega
   |d+1,hd=>
    obtain⟨h3,h4,h5⟩:=A95 d h.round.1 (by omega) n (by omega)
    exact⟨h3,h4,h.round.2.trans h5⟩
theorem B6f (its:List Itm):A3v its=A1M its (A7L its+1) (A1K its):=rfl
theorem A4l (its:List Itm):A07 its (A3v its)=A3v its∧RowsE its (A3v its)∧LeE (A1K its) (A3v its):=
 A95 (A7L its) (A6o its) (Nat.sub_le _ _) _ (Nat.lt_succ_self _)
inductive Rch (its:List Itm):Nat→Nat→Prop
 |refl (i:Nat):Rch its i i
 |step {i k j:Nat} (h:k∈A0J its i) (r:Rch its k j):Rch its i j
theorem Rch.trans {its:List Itm}{i j k:Nat} (h:Rch its i j) (g:Rch its j k):Rch its i k:=by
 induction h with
 |refl=>exact g
 |step h1 _ ih=>exact .step h1 (ih g)
theorem Rch.one {its:List Itm}{i k:Nat} (h:k∈A0J its i):Rch its i k:=.step h (.refl k)
theorem A5I {its:List Itm}{i k:Nat} (h:k∈A0J its i):k<its.length∧(N9 its k).kind=2:=by
 rw[A0J] at h
 split at h
 ·obtain⟨n,_,hn⟩:=List.mem_filterMap.1 h
  have:=Y8 hn
  exact⟨this.1,by omega⟩
 ·cases h
def A16 (its:List Itm) (r:List (List Nm)):Prop:= ∀i x,x∈r.getD i []→∃k,Rch its i k∧x∈A1T its k
theorem A16.init (its:List Itm):A16 its (A1K its):=fun i x hx=>by
 rcases Nat.lt_or_ge i its.length with hi|hi
 ·rw[A82 its hi] at hx;exact⟨i,.refl i,hx⟩
 ·rw[A4r (by rw[A6g];exact hi)] at hx;cases hx
theorem A16.step {its:List Itm}{r:List (List Nm)} (hr:RowsE its r) (h:A16 its r) (i:Nat):A16 its (A00 its r i):=fun j x hx=>by
 by_cases e:i=j
 ·subst e
  rcases Nat.lt_or_ge i r.length with hi|hi
  ·rw[A00,A2Q hi] at hx
   rcases(A4y hr i x).1 hx with h1|⟨k,hk,h1⟩
   ·exact h i x h1
   ·obtain⟨m,hm,hx⟩:=h k x h1
    exact⟨m,.step hk hm,hx⟩
  ·rw[A00,A4r (by rw[List.length_set];exact hi)] at hx;cases hx
 ·rw[A00,getD_set_ne e] at hx;exact h j x hx
theorem A16.folds {its:List Itm}:∀(l:List Nat) {r:List (List Nm)},RowsE its r→A16 its r→A16 its (l.foldl (A00 its) r)
 | [],_,_,h=>h
 |i::l,_,hr,h=>A16.folds l (hr.step i).1 (h.step hr i)
theorem A16.iter {its:List Itm}:∀(n:Nat) {r:List (List Nm)},RowsE its r→A16 its r→A16 its (A1M its n r)
 |0,_,_,h=>h
 |n+1,r,hr,h=>by
  rw[A1M]
  split
  ·exact h
  ·exact A16.iter n hr.round.1 (A16.folds _ hr h)
theorem A5k {its:List Itm}{i k:Nat} (h:k∈A0J its i) {x:Nm} (hx:x∈A3k its k):x∈A3k its i:=by
 obtain⟨h1,h2,_⟩:=A4l its
 rcases Nat.lt_or_ge i its.length with hi|hi
 ·have h3:=A9W (List.range its.length) h2 h1 i (List.mem_range.2 hi)
  have h4:x∈(A00 its (A3v its) i).getD i []:=by
   rw[A00,A2Q (by rw[h2.len];exact hi)]
   exact(A4y h2 i x).2 (.inr ⟨k,h,hx⟩)
  rw[h3] at h4;exact h4
 ·rw[A0J,N9,A4r hi] at h
  cases h
theorem A5l {its:List Itm}{i:Nat} (hi:i<its.length) (x:Nm):x∈A3k its i↔ ∃k,Rch its i k∧x∈A1T its k:=by
 constructor
 ·exact fun h=>A16.iter _ (A6o its) (A16.init its) i x h
 ·rintro⟨k,hk,hx⟩
  induction hk with
  |refl i=>exact(A4l its).2.2.2 i x (by rw[A82 its hi];exact hx)
  |step h _ ih=>exact A5k h (ih (A5I h).1 hx)
theorem A8C (its:List Itm) (i:Nat):Srt (A3k its i):=((A4l its).2.1.getD i).1
theorem A9N (its:List Itm):(A3v its).length=its.length:=(A4l its).2.1.len
theorem B5b {its:List Itm}{i:Nat} (h:(N9 its i).kind≠2):A3k its i= []:=by
 rcases Nat.lt_or_ge i its.length with hi|hi
 ·refine A6W (A8C its i) Srt.nil (fun x=>⟨fun hx=>?_,fun hx=>by cases hx⟩)
  obtain⟨k,hk,hx⟩:=(A5l hi x).1 hx
  cases hk with
  |refl=>rw[A1T,if_neg h] at hx;exact hx
  |step h1 _=>rw[A0J,if_neg h] at h1;cases h1
 ·rw[A3k,A4r (by rw[A9N];exact hi)]
structure Bfs (its:List Itm) (i:Nat) (todo had:List Nat) (sends:List Nm):Prop where
 from_:∀k,k∈todo∨k∈had→Rch its i k∧k<its.length
 start:(N9 its i).kind=2→i∈todo∨i∈had
 fn:∀k∈had,(N9 its k).kind=2
 next:∀k∈had,∀j∈A0J its k,j∈todo∨j∈had
 srt:Srt sends
 mem:∀x,x∈sends↔ ∃k∈had,x∈A1T its k
 once:had.Nodup
theorem Bfs.init {its:List Itm}{i:Nat} (hi:i<its.length):Bfs its i [i] [] []:=
 ⟨fun k hk=>(by
  rcases hk with hk|hk
  ·obtain rfl:k=i:=by simpa using hk
   exact⟨.refl _,hi⟩
  ·cases hk),fun _=> .inl List.mem_cons_self,fun k hk=>(by cases hk),fun k hk=>(by cases hk),Srt.nil,fun x=>⟨fun h=>(by cases h),fun ⟨k,hk,_⟩=>(by cases hk)⟩,List.nodup_nil⟩
theorem Bfs.skip {its:List Itm}{i k:Nat}{todo had:List Nat}{sends:List Nm} (h:Bfs its i (k::todo) had sends) (hk:k∈had∨(N9 its k).kind≠2):Bfs its i todo had sends:=by
 have key:∀j,j∈k::todo∨j∈had→(N9 its j).kind=2→j∈todo∨j∈had:=fun j hj h2=>by
  rcases hj with hj|hj
  ·rcases List.mem_cons.1 hj with rfl|hj
   ·rcases hk with hk|hk
    ·exact .inr hk
    ·exact absurd h2 hk
   ·exact .inl hj
  ·exact .inr hj
 exact⟨fun j hj=>h.from_ j (hj.imp_left (List.mem_cons_of_mem _)),fun h2=>key i (h.start h2) h2,h.fn,fun j hj m hm=>key m (h.next j hj m hm) (A5I hm).2,h.srt,h.mem,h.once⟩
theorem Bfs.done {its:List Itm}{i:Nat}{had:List Nat}{sends:List Nm} (hi:i<its.length) (h:Bfs its i [] had sends):sends=A3k its i:=by
 refine A6W h.srt (A8C its i) (fun x=>?_)
 rw[h.mem,A5l hi]
 constructor
 ·rintro⟨k,hk,hx⟩
  exact⟨k,(h.from_ k (.inr hk)).1,hx⟩
 ·rintro⟨k,hk,hx⟩
  have key:∀ {a b:Nat},Rch its a b→a∈had→b∈had:=fun {a b} r=>by
   induction r with
   |refl=>exact id
   |step h1 _ ih=>
    intro ha
    rcases h.next _ ha _ h1 with h2|h2
    ·cases h2
    ·exact ih h2
  by_cases h2:(N9 its i).kind=2
  ·rcases h.start h2 with h3|h3
   ·cases h3
   ·exact⟨k,key hk h3,hx⟩
  ·cases hk with
   |refl=>rw[A1T,if_neg h2] at hx;cases hx
   |step h1 _=>rw[A0J,if_neg h2] at h1;cases h1
def A4z (it:Itm) (c:Nm):Bool:=it.sends.any (fun x=>decide (x.name=c))
def A6C (c:Nm):Dg:=⟨0,0,10,c⟩
def A5d (its:List Itm) (i:Nat):List Dg:=((A3k its i).filter (fun c=> !A4z (N9 its i) c)).map A6C
structure DI where
 fr:Int
 to:Int
 err:Nat
 name:List UInt8
 deriving DecidableEq
def A2e (b:Int) (d:Dg):DI:=⟨w64 (d.fr+b),w64 (d.to+b),d.err,d.name⟩
def B5S (its:List Itm) (i:Nat):List Dg:=(N9 its i).diags++((A27 its i).ds++(A5d its i++(A19 its i (-1)).ds))
def A9D (its:List Itm) (i:Nat):List DI:=(B5S its i).map (A2e (N9 its i).at_)
def A4k (its:List Itm) (k:Nat):List DI:=(List.range k).flatMap (A9D its)
def A2I (its:List Itm):List DI:=A4k its its.length
theorem A8D (its:List Itm) (k:Nat):A4k its (k+1)=A4k its k++A9D its k:=by
 rw[A4k,List.range_succ,List.flatMap_append, ←A4k];simp
theorem A5j {its:List Itm} (h:A2I its= []) {i:Nat} (hi:i<its.length):(N9 its i).diags= []∧(A27 its i).ds= []∧A5d its i= []∧(A19 its i (-1)).ds= []:=by
 rw[A2I,A4k,List.flatMap_eq_nil_iff] at h
 have:=h i (List.mem_range.2 hi)
 rw[A9D,List.map_eq_nil_iff,B5S] at this
 simpa using this
def A0U (its:List Itm) (nm:List UInt8) (args:List Int):Rn:=
 if A2I its≠ [] then ⟨[],0,13,0⟩ else
 match Q8 its 2 nm with
 |none=>⟨[],0,6,0⟩
 |some j=>if args.length≠(N9 its j).params.length then ⟨[],0,5,0⟩ else
  if (A0v its 40 nm args MR0).2.err≠0 then ⟨[],0,(A0v its 40 nm args MR0).2.err,0⟩
  else ⟨(A0v its 40 nm args MR0).2.ev,(A0v its 40 nm args MR0).1,0,(A0v its 40 nm args MR0).2.steps⟩
def A4a (its:List Itm) (n:Nat) (e:Ev):Bool:=match Q8 its 1 e.ch with
 |some j=>S9 (N9 its j).label n
 |none=>false
def U1 (its:List Itm) (l:List Ev) (n:Nat):List Ev:=l.filter (A4a its n)
mutual
def Ex.fitE:Ex→Nat→Nat→Prop
 | .mk k nm n args _ _,d,least=>d<12∧
  ((k=1∧nm= []∧n≤1000000000∧args= [])∨(k=2∧name nm=true∧n=0∧args= [])∨
   (k=4∧name nm=true∧n=0∧args.length≤5∧A1R args (d+1))∨
   (k=3∧A0l nm≠0∧n=0∧args.length=2∧A3N args (if A0l nm<least then d+1 else d) (A0l nm)))
def A1R:List Ex→Nat→Prop
 | [],_=>True
 |e::es,d=>e.fitE d 1∧A1R es d
def A3N:List Ex→Nat→Nat→Prop
 | [],_,_=>True
 |e::es,d,n=>e.fitE d n∧A3N es d (n+1)
 end
mutual
theorem Ex.fit_down:∀(e:Ex) {d l:Nat},e.fitE (d+1) l→e.fitE d l
 | .mk k nm n args _ _,d,l,h=>by
  rw[Ex.fitE] at h ⊢
  refine⟨by omega,?_⟩
  rcases h.2 with h|h|h|h
  ·exact .inl h
  ·exact .inr (.inl h)
  ·exact .inr (.inr (.inl ⟨h.1,h.2.1,h.2.2.1,h.2.2.2.1,A5q args h.2.2.2.2⟩))
  ·refine .inr (.inr (.inr ⟨h.1,h.2.1,h.2.2.1,h.2.2.2.1,?_⟩))
   have h5:=h.2.2.2.2
   split
   ·rename_i hl;rw[if_pos hl] at h5;exact A37 args h5
   ·rename_i hl;rw[if_neg hl] at h5;exact A37 args h5
theorem A5q:∀(l:List Ex) {d:Nat},A1R l (d+1)→A1R l d
 | [],d,_=>by rw[A1R];trivial
 |e::l,d,h=>by rw[A1R] at h ⊢;exact⟨e.fit_down h.1,A5q l h.2⟩
theorem A37:∀(l:List Ex) {d n:Nat},A3N l (d+1) n→A3N l d n
 | [],d,n,_=>by rw[A3N];trivial
 |e::l,d,n,h=>by rw[A3N] at h ⊢;exact⟨e.fit_down h.1,A37 l h.2⟩
 end
theorem Ex.fit_par {e:Ex}{d:Nat} (h:e.fitE (d+1) 1) (l:Nat):e.fitE d l:=by
 cases e with
 |mk k nm n args f t=>
  rw[Ex.fitE] at h ⊢
  refine⟨by omega,?_⟩
  rcases h.2 with h|h|h|h
  ·exact .inl h
  ·exact .inr (.inl h)
  ·exact .inr (.inr (.inl ⟨h.1,h.2.1,h.2.2.1,h.2.2.2.1,A5q args h.2.2.2.2⟩))
  ·refine .inr (.inr (.inr ⟨h.1,h.2.1,h.2.2.1,h.2.2.2.1,?_⟩))
   have h5:=h.2.2.2.2
   rw[if_neg (by have:=h.2.1;omega)] at h5
   split
   ·exact h5
   ·exact A37 args h5
theorem A5r:∀ {l:List Ex}{d:Nat}{e:Ex},A1R l d→e.fitE d 1→A1R (l++ [e]) d
 | [],d,e,_,he=>by rw[List.nil_append,A1R,A1R];exact⟨he,trivial⟩
 |a::l,d,e,h,he=>by rw[A1R] at h;rw[List.cons_append,A1R];exact⟨h.1,A5r h.2 he⟩
theorem B0M {T:Src}{s:St}{w:List UInt8} (h:(s.need T w).2.ds= []):T.is s.i w=true∧(s.need T w).2=s.next:=by
 rw[St.need] at h ⊢
 by_cases hw:T.is s.i w=true
 ·rw[if_pos hw];exact⟨hw,rfl⟩
 ·rw[if_neg hw] at h;exact absurd h (A05 _ _ _)
theorem A4v {T:Src}{s:St} (h:(s.named T).2.ds= []):name (T.tok s.i).text=true∧s.named T=((T.tok s.i).text,s.next):=by
 rw[St.named] at h ⊢
 by_cases hw:name (T.tok s.i).text=true
 ·rw[if_pos hw];exact⟨hw,rfl⟩
 ·rw[if_neg hw] at h
  split at h
  ·exact absurd h (A05 _ _ _)
  ·exact absurd h (A05 _ _ _)
def B9m (T:Src) (s:St) (m:Nat):Prop:=A0l (T.tok s.i).text<m∨A0l (T.tok s.i).text=0
theorem A5L (T:Src):∀f,(∀d s,3 *(T.l.length-s.i)+2≤f→(A1p T f d s).2.ds= []→(∀l,(A1p T f d s).1.fitE d l)∧s.i<(A1p T f d s).2.i)∧
  (∀d l s,3 *(T.l.length-s.i)+4≤f→(A17 T f d l s).2.ds= []→l.length≤5→A1R l d→(A17 T f d l s).1.length≤5∧A1R (A17 T f d l s).1 d)∧
  (∀d m s,3 *(T.l.length-s.i)+3≤f→(Y2 T f d m s).2.ds= []→(Y2 T f d m s).1.fitE d m∧s.i<(Y2 T f d m s).2.i∧B9m T (Y2 T f d m s).2 m)∧
  (∀d m e s,3 *(T.l.length-s.i)+1≤f→(opL T f d m e s).2.ds= []→((∀l,e.fitE d l)∨∃n1,m≤n1∧(∀l,l≤n1→e.fitE d l)∧A0l (T.tok s.i).text≤n1)→(opL T f d m e s).1.fitE d m∧B9m T (opL T f d m e s).2 m)
 |0=>⟨fun _ _ h=>by omega,fun _ _ _ h=>by omega,fun _ _ _ h=>by omega,fun _ _ _ _ h=>by omega⟩
 |f+1=>by
  obtain⟨hA,hL,hE,hO⟩:=A5L T f
  obtain⟨rA,rL,rE,rO⟩:=A1F T f
  refine⟨fun d s hf h=>?_,fun d l s hf h hl hx=>?_,fun d m s hf h=>?_,fun d m e s hf h he=>?_⟩
  ·rw[A1p] at h ⊢
   dsimp only at h ⊢
   by_cases c1:T.l.length≤s.i
   ·rw[if_pos c1] at h;exact absurd h (A05 _ _ _)
   rw[if_neg c1] at h ⊢
   by_cases c2:12≤d
   ·rw[if_pos c2] at h;exact absurd h (A05 _ _ _)
   rw[if_neg c2] at h ⊢
   by_cases c3:(T.tok s.i).kind=2
   ·rw[if_pos c3] at h ⊢
    by_cases c4:1000000000<A2l (T.tok s.i).text
    ·rw[if_pos c4] at h;exact absurd h (A05 _ _ _)
    rw[if_neg c4]
    refine⟨fun l=>?_,Nat.lt_succ_self _⟩
    rw[Ex.fitE]
    exact⟨by omega,.inl ⟨rfl,rfl,by omega,rfl⟩⟩
   rw[if_neg c3] at h ⊢
   by_cases c4:(T.tok s.i).text= [40]
   ·rw[if_pos c4] at h ⊢
    obtain⟨h1,h2⟩:=B0M h
    dsimp only at h ⊢
    rw[h2] at h ⊢
    obtain⟨g1,g2,_⟩:=hE (d+1) 1 s.next (by rw[J7];omega) h
    rw[J7] at g2
    exact⟨fun l=>Ex.fit_par g1 l,by rw[J7];omega⟩
   rw[if_neg c4] at h ⊢
   by_cases c5:name (T.tok s.i).text=true
   ·rw[if_neg (by simp[c5])] at h ⊢
    by_cases c6:T.is (s.i+1) [40]=true
    ·rw[if_neg (by simp[c6])] at h ⊢
     obtain⟨h1,h2⟩:=B0M h
     dsimp only at h ⊢
     rw[h2] at h ⊢
     have c7:=is_lt c6
     obtain⟨g1,g2⟩:=hL (d+1) [] s.next.next (by rw[J7,J7];omega) h (Nat.zero_le _) (by rw[A1R];trivial)
     have g3:=(rL (d+1) [] s.next.next).on
     rw[J7,J7] at g3
     refine⟨fun l=>?_,by rw[J7];omega⟩
     rw[Ex.fitE]
     exact⟨by omega,.inr (.inr (.inl ⟨rfl,c5,rfl,g1,g2⟩))⟩
    ·rw[if_pos (by simp[c6])]
     refine⟨fun l=>?_,Nat.lt_succ_self _⟩
     rw[Ex.fitE]
     exact⟨by omega,.inr (.inl ⟨rfl,c5,rfl,rfl⟩)⟩
   ·rw[if_pos (by simp[c5])] at h;exact absurd h (A05 _ _ _)
  ·rw[A17] at h ⊢
   by_cases c1:T.l.length≤s.i∨T.is s.i [41]=true
   ·rw[if_pos c1];exact⟨hl,hx⟩
   rw[if_neg c1] at h ⊢
   have c0:s.i<T.l.length:=by omega
   by_cases c2:l.length=5
   ·rw[if_pos c2] at h;exact absurd h (A05 _ _ _)
   rw[if_neg c2] at h ⊢
   dsimp only at h ⊢
   have hsn:∀e:Ex,(l++ [e]).length≤5:=fun e=>by rw[List.length_append,List.length_singleton];omega
   by_cases c3:T.is (Y2 T f d 1 s).2.i [44]=true
   ·rw[if_pos c3] at h ⊢
    obtain⟨g1,g2,_⟩:=hE d 1 s (by omega) (((X7 T _).trans (rL _ _ _)).clean h)
    have:=is_lt c3
    exact hL d _ _ (by rw[J7];omega) h (hsn _) (A5r hx g1)
   ·rw[if_neg c3] at h ⊢
    obtain⟨g1,g2,_⟩:=hE d 1 s (by omega) h
    exact⟨hsn _,A5r hx g1⟩
  ·rw[Y2] at h ⊢
   obtain⟨g1,g2⟩:=hA d s (by omega) ((rO _ _ _ _).clean h)
   have g3:=(rO d m (A1p T f d s).1 (A1p T f d s).2).on
   obtain⟨g4,g5⟩:=hO d m _ _ (by omega) h (.inl g1)
   exact⟨g4,by omega,g5⟩
  ·rw[opL] at h ⊢
   dsimp only at h ⊢
   by_cases c1:A0l (T.tok s.i).text<m∨A0l (T.tok s.i).text=0
   ·rw[if_pos c1] at h ⊢
    refine⟨?_,c1⟩
    rcases he with he|⟨n1,h1,h2,_⟩
    ·exact he m
    ·exact h2 m h1
   rw[if_neg c1] at h ⊢
   have c0:=A0W (A62 (fun e=>c1 (.inr e)))
   obtain⟨g1,g2,g3⟩:=hE d (A0l (T.tok s.i).text+1) s.next (by rw[J7];omega) ((rO _ _ _ _).clean h)
   rw[J7] at g2
   refine hO d m _ _ (by omega) h (.inr ⟨A0l (T.tok s.i).text,by omega,fun l hl=>?_,by rcases g3 with g3|g3<;>omega⟩)
   have ge:e.fitE d (A0l (T.tok s.i).text):=by
    rcases he with he|⟨n1,h1,h2,h3⟩
    ·exact he _
    ·exact h2 _ h3
   rw[Ex.fitE]
   have hd:d<12:=by cases e;rw[Ex.fitE] at ge;exact ge.1
   refine⟨hd,.inr (.inr (.inr ⟨rfl,fun e=>c1 (.inr e),rfl,rfl,?_⟩))⟩
   rw[if_neg (by omega),A3N,A3N,A3N]
   exact⟨ge,g1,trivial⟩
inductive Well (T:Src):St→St→Prop where
 |refl (s:St):Well T s s
 |bad {s r:St} (e:Nat):Well T s r→Well T s (r.bad T e)
 |next {s r:St}:Well T s r→(r.ds≠ []∨(T.tok r.i).kind≠4)→Well T s r.next
theorem Well.trans {T:Src}{s r q:St} (h:Well T s r) (g:Well T r q):Well T s q:=by
 induction g with
 |refl=>exact h
 |bad e _ ih=>exact .bad e ih
 |next _ k ih=>exact .next ih k
structure BadT (T:Src):Prop where
 out:∀i,(T.tok i).kind=4→∃c,(T.tok i).text= [c]∧A1U c=false∧A1Z c=false∧A7r c=false
section
variable {T:Src}
def B9X:List UInt8→Bool
 | []=>true
 |c::_=>A1U c||A1Z c||A7r c
theorem BadT.ok (h:BadT T) {i:Nat}{w:List UInt8} (hw:(T.tok i).text=w) (hf:B9X w=true):(T.tok i).kind≠4:=fun h4=>by
 obtain⟨c,h1,h2,h3,h5⟩:=h.out i h4
 rw[hw] at h1
 subst h1
 simp[B9X,h2,h3,h5] at hf
theorem BadT.is (h:BadT T) {i:Nat}{w:List UInt8} (hw:T.is i w=true) (hf:B9X w=true):(T.tok i).kind≠4:=by
 simp only[Src.is,Bool.and_eq_true,decide_eq_true_eq] at hw
 exact h.ok hw.2 hf
theorem B8l (f d:Nat) (s:St) (h:name (T.tok s.i).text=true):(A1p T (f+1) d s).2.ds≠ []∨s.i+1≤(A1p T (f+1) d s).2.i:=by
 have hl:=A0W (A3m h)
 rw[A1p]
 dsimp only
 rw[if_neg (by omega)]
 split
 ·exact .inl (A05 _ _ _)
 ·split
  ·split
   ·exact .inl (A05 _ _ _)
   ·exact .inr (Nat.le_refl _)
  ·split
   ·have:=(((A1F T f).2.2.1 (d+1) 1 s.next).trans (X0 T _ [41])).on
    exact .inr this
   ·split
    ·exact .inl (A05 _ _ _)
    ·split
     ·exact .inr (Nat.le_refl _)
     ·have:=(((X7 T s.next).trans ((A1F T f).2.1 (d+1) [] s.next.next)).trans (X0 T _ [41])).on
      exact .inr this
theorem C0u (f d:Nat) (s:St):(stm T (f+3) d s).2.ds≠ []∨s.i+1≤(stm T (f+3) d s).2.i:=by
 have hE:=(A1F T (f+2)).2.2.1
 have hB:=(A40 T (f+2)).1
 rw[stm]
 dsimp only
 split
 ·right
  have g2:Runs T (s.next.named T).2 (if (!T.is (s.next.named T).2.i [58])=true then ((0:Nat),(s.next.named T).2) else lab T (s.next.named T).2.next).2:=by
   split
   ·exact .refl _
   ·exact(X7 T _).trans (A3Q T _)
  exact(((((A1W T s.next).trans g2).trans (X0 T _ _)).trans (hE _ _ _)).trans (X0 T _ _)).on
 ·split
  ·right
   have g1:=(hE d 1 s.next).trans (hB d (Y2 T (f+2) d 1 s.next).2)
   split
   ·exact((Runs.next g1).trans (hB d _)).on
   ·exact g1.on
  ·split
   ·exact .inr ((hE d 1 s.next).trans (hB d (Y2 T (f+2) d 1 s.next).2)).on
   ·split
    ·exact .inr (((A1W T s.next).trans (hE d 1 _)).trans (X0 T _ _)).on
    ·split
     ·exact .inr ((hE d 1 s.next).trans (X0 T _ _)).on
     ·split
      ·rename_i hn
       split
       ·exact .inr (((X7 T s.next).trans (hE d 1 _)).trans (X0 T _ [59])).on
       ·have ha:=B8l (T:=T) f d s hn
        have hr:Runs T (A1p T (f+1) d s).2 ((Y2 T (f+2) d 1 s).2.need T [59]).2:=by
         rw[Y2]
         exact((A1F T (f+1)).2.2.2 d 1 _ _).trans (X0 T _ _)
        rcases ha with ha|ha
        ·exact .inl (hr.told ha)
        ·exact .inr (Nat.le_trans ha hr.on)
      ·exact .inl (A05 _ _ _)
end
mutual
def Ex.spine:Ex→Prop
 | .mk k nm _ args _ _=>k=2∨k=4∨(k=3∧B7R args nm)
def B7R:List Ex→List UInt8→Prop
 | [],_=>False
 |a::_,nm=>a.spine∧(a.kind=3→A0l nm≤A0l a.name)∧(a.kind=2→nm≠ [61])
 end
mutual
def Stm.fitS:Stm→Nat→Prop
 | .mk k nm _ lb o e thn els _ _,d=>e.fitE d 1∧
  ((k=1∧name nm=true∧lb<256∧(o=true→lb=0)∧thn= []∧els= [])∨
   (k=2∧name nm=true∧lb=0∧o=false∧thn= []∧els= [])∨
   (k=5∧name nm=true∧lb=0∧o=false∧thn= []∧els= [])∨
   (k=6∧nm= []∧lb=0∧o=false∧thn= []∧els= [])∨
   (k=7∧nm= []∧lb=0∧o=false∧thn= []∧els= []∧e.spine)∨
   ((k=3∨k=4∧els= [])∧nm= []∧lb=0∧o=false∧d<12∧thn.length≤40∧els.length≤40∧A0V thn (d+1)∧A0V els (d+1)))
def A0V:List Stm→Nat→Prop
 | [],_=>True
 |x::xs,d=>x.fitS d∧A0V xs d
 end
theorem A60:∀ {l:List Stm}{d:Nat}{x:Stm},A0V l d→x.fitS d→A0V (l++ [x]) d
 | [],d,e,_,he=>by rw[List.nil_append,A0V,A0V];exact⟨he,trivial⟩
 |a::l,d,e,h,he=>by rw[A0V] at h;rw[List.cons_append,A0V];exact⟨h.1,A60 h.2 he⟩
structure Itm.fitI (it:Itm):Prop where
 named:Sp.name it.name=true
 label:it.label<256
 kind:it.kind=2∨it.kind=1∧it.params= []∧it.sends= []∧it.body= []
 params:it.params.length≤5∧∀p∈it.params,Sp.name p.name=true∧p.label<256
 sends:it.sends.length≤5∧∀p∈it.sends,Sp.name p.name=true
 body:it.body.length≤40∧A0V it.body 1
 none:it.diags= []
def B9H (T:Src):Prop:= ∀i,(T.tok i).kind=2→name (T.tok i).text=false
theorem B2J {T:Src}:∀f d m (e:Ex) (s:St),e.spine→(e.kind=3→A0l (T.tok s.i).text≤A0l e.name)→(e.kind=2→(T.tok s.i).text≠ [61])→3 *(T.l.length-s.i)+1≤f→(opL T f d m e s).2.ds= []→(opL T f d m e s).1.spine
 |0,_,_,_,_,_,_,_,h,_=>by omega
 |f+1,d,m,e,s,h1,h2,h3,hf,h=>by
  rw[opL] at h ⊢
  dsimp only at h ⊢
  by_cases c1:A0l (T.tok s.i).text<m∨A0l (T.tok s.i).text=0
  ·rw[if_pos c1];exact h1
  rw[if_neg c1] at h ⊢
  have c0:=A0W (A62 (fun e=>c1 (.inr e)))
  obtain⟨g1,g2,g3⟩:=(A5L T f).2.2.1 d (A0l (T.tok s.i).text+1) s.next (by rw[J7];omega) (((A1F T f).2.2.2 _ _ _ _).clean h)
  rw[J7] at g2
  refine B2J f d m _ _ ?_ (fun _=>?_) (fun h=>(by cases h)) (by omega) h
  ·rw[Ex.spine]
   refine .inr (.inr ⟨rfl,?_⟩)
   rw[B7R]
   exact⟨h1,h2,h3⟩
  ·show A0l _≤A0l (T.tok s.i).text
   rcases g3 with g3|g3<;>omega
theorem B3S {T:Src} (hN:B9H T) (f d:Nat) (s:St) (hn:name (T.tok s.i).text=true) (he:T.is (s.i+1) [61]=false) (hf:3 *(T.l.length-s.i)+3≤f) (h:(Y2 T f d 1 s).2.ds= []):(Y2 T f d 1 s).1.spine:=by
 obtain⟨f,rfl⟩:∃g,f=g+1+1:=⟨f-2,by omega⟩
 rw[Y2] at h ⊢
 have ha:=((A1F T (f+1)).2.2.2 _ _ _ _).clean h
 have hlt:=A0W (A3m hn)
 have hg:=((A5L T (f+1)).1 d s (by omega) ha).2
 have key:(A1p T (f+1) d s).1.spine∧(A1p T (f+1) d s).1.kind≠3∧((A1p T (f+1) d s).1.kind=2→(T.tok (A1p T (f+1) d s).2.i).text≠ [61]):=by
  rw[A1p] at ha ⊢
  dsimp only at ha ⊢
  rw[if_neg (by omega)] at ha ⊢
  by_cases c2:12≤d
  ·rw[if_pos c2] at ha;exact absurd ha (A05 _ _ _)
  rw[if_neg c2] at ha ⊢
  rw[if_neg (fun e=>by rw[hN _ e] at hn;cases hn)] at ha ⊢
  rw[if_neg (fun e=>by rw[e] at hn;revert hn;decide),if_neg (by simp[hn])] at ha ⊢
  by_cases c6:T.is (s.i+1) [40]=true
  ·rw[if_neg (by simp[c6])]
   dsimp only
   refine⟨?_,(fun h=>(by cases h)),(fun h=>(by cases h))⟩
   rw[Ex.spine];exact .inr (.inl rfl)
  ·rw[if_pos (by simp[c6])]
   dsimp only
   refine⟨?_,(fun h=>(by cases h)),fun _ e=>?_⟩
   ·rw[Ex.spine];exact .inl rfl
   ·have:T.is (s.i+1) [61]=true:=by
     have hl:s.i+1<T.l.length:=A0W (i:=s.i+1) (by rw[show (T.tok (s.i+1)).text= [61] from e];simp)
     rw[Src.is,decide_eq_true hl,decide_eq_true (show (T.tok (s.i+1)).text= [61] from e)];rfl
    rw[he] at this;cases this
 exact B2J _ _ _ _ _ key.1 (fun h=>absurd h key.2.1) key.2.2 (by omega) h
theorem A80 {T:Src} (hN:B9H T):∀f,(∀d s,5 *(T.l.length-s.i)+2≤f→(block T f d s).2.ds= []→d<12∧(block T f d s).1.length≤40∧A0V (block T f d s).1 (d+1))∧
  (∀d l s,5 *(T.l.length-s.i)+6≤f→(A2O T f d l s).2.ds= []→l.length≤40→A0V l d→(A2O T f d l s).1.length≤40∧A0V (A2O T f d l s).1 d)∧
  (∀d s,5 *(T.l.length-s.i)+5≤f→(stm T f d s).2.ds= []→(stm T f d s).1.fitS d)
 |0=>⟨fun _ _ h=>by omega,fun _ _ _ h=>by omega,fun _ s h=>by omega⟩
 |f+1=>by
  obtain⟨hB,hL,hS⟩:=A80 hN f
  obtain⟨rB,rL,rS⟩:=A40 T f
  have rE:=(A1F T f).2.2.1
  have gE:=(A5L T f).2.2.1
  refine⟨fun d s hf h=>?_,fun d l s hf h hl hx=>?_,fun d s hf h=>?_⟩
  ·rw[block] at h ⊢
   by_cases c1:T.is s.i [123]=true
   ·rw[if_neg (by simp[c1])] at h ⊢
    have c0:=is_lt c1
    by_cases c2:12≤d
    ·rw[if_pos c2] at h;exact absurd h (A05 _ _ _)
    rw[if_neg c2] at h ⊢
    dsimp only at h ⊢
    obtain⟨g1,g2⟩:=hL (d+1) [] s.next (by rw[J7];omega) ((X0 T _ _).clean h) (Nat.zero_le _) (by rw[A0V];trivial)
    exact⟨by omega,g1,g2⟩
   ·rw[if_pos (by simp[c1])] at h;exact absurd h (A05 _ _ _)
  ·rw[A2O] at h ⊢
   by_cases c1:T.l.length≤s.i∨T.is s.i [125]=true
   ·rw[if_pos c1];exact⟨hl,hx⟩
   rw[if_neg c1] at h ⊢
   have c0:s.i<T.l.length:=by omega
   by_cases c2:40≤l.length
   ·rw[if_pos c2] at h;exact absurd h (A05 _ _ _)
   rw[if_neg c2] at h ⊢
   dsimp only at h ⊢
   have hs:=(rL _ _ _).clean h
   have hs2:(stm T f d s).2.ds= []:=by
    split at hs
    ·exact hs
    ·exact hs
   have ho:s.i+1≤(stm T f d s).2.i:=by
    obtain⟨f',rfl⟩:∃f',f=f'+3:=⟨f-3,by omega⟩
    exact(C0u f' d s).resolve_left (fun hh=>hh hs2)
   rw[if_neg (by omega)] at h ⊢
   exact hL d _ _ (by omega) h (by rw[List.length_append,List.length_singleton];omega) (A60 hx (hS d s (by omega) hs2))
  ·have lt:∀t:List UInt8,t≠ []→(T.tok s.i).text=t→s.i<T.l.length:=fun t ht e=>A0W (by rw[e];exact ht)
   have hn:s.next.i=s.i+1:=rfl
   rw[stm] at h ⊢
   dsimp only at h ⊢
   by_cases c1:(T.tok s.i).text= [108,101,116]
   ·rw[if_pos c1] at h ⊢
    have h0:=lt _ (by simp) c1
    have e2:=(X0 T _ _).clean h
    have e1:=(X0 T _ _).clean ((rE _ _ _).clean e2)
    have u2:=(X0 T (if (!T.is (s.next.named T).2.i [58])=true then ((0:Nat),(s.next.named T).2) else lab T (s.next.named T).2.next).2 [61]).on
    have g2:Runs T (s.next.named T).2 (if (!T.is (s.next.named T).2.i [58])=true then ((0:Nat),(s.next.named T).2) else lab T (s.next.named T).2.next).2:=by
     split
     ·exact .refl _
     ·exact(X7 T _).trans (A3Q T _)
    have e0:=A4v (g2.clean e1)
    have u1:=g2.on
    have u0:s.next.i+1≤(s.next.named T).2.i:=by rw[e0.2];exact Nat.le_refl _
    dsimp only at h ⊢
    obtain⟨q1,_⟩:=gE d 1 _ (by omega) e2
    rw[Stm.fitS]
    refine⟨q1,.inl ⟨rfl,by rw[e0.2];exact e0.1,?_,?_,rfl,rfl⟩⟩
    ·split
     ·exact Nat.zero_lt_succ _
     ·exact A5w _ _
    ·intro ho
     rw[if_pos ho]
   rw[if_neg c1] at h ⊢
   by_cases c2:(T.tok s.i).text= [105,102]
   ·rw[if_pos c2] at h ⊢
    have h0:=lt _ (by simp) c2
    have u1:=(rE d 1 s.next).on
    have u2:=(rB d (Y2 T f d 1 s.next).2).on
    by_cases c5:T.is (block T f d (Y2 T f d 1 s.next).2).2.i [101,108,115,101]=true
    ·rw[if_pos c5] at h ⊢
     dsimp only at h ⊢
     have e2:=((X7 T _).trans (rB _ _)).clean h
     have e1:=(rB _ _).clean e2
     obtain⟨q1,_⟩:=gE d 1 s.next (by omega) e1
     obtain⟨b1,b2,b3⟩:=hB d _ (by omega) e2
     obtain⟨b4,b5,b6⟩:=hB d _ (by rw[J7];omega) h
     rw[Stm.fitS]
     exact⟨q1,.inr (.inr (.inr (.inr (.inr ⟨.inl rfl,rfl,rfl,rfl,b1,b2,b5,b3,b6⟩))))⟩
    ·rw[if_neg c5] at h ⊢
     dsimp only at h ⊢
     have e1:=(rB _ _).clean h
     obtain⟨q1,_⟩:=gE d 1 s.next (by omega) e1
     obtain⟨b1,b2,b3⟩:=hB d _ (by omega) h
     rw[Stm.fitS]
     exact⟨q1,.inr (.inr (.inr (.inr (.inr ⟨.inl rfl,rfl,rfl,rfl,b1,b2,Nat.zero_le _,b3,by rw[A0V];trivial⟩))))⟩
   rw[if_neg c2] at h ⊢
   by_cases c3:(T.tok s.i).text= [119,104,105,108,101]
   ·rw[if_pos c3] at h ⊢
    have h0:=lt _ (by simp) c3
    have u1:=(rE d 1 s.next).on
    dsimp only at h ⊢
    have e1:=(rB _ _).clean h
    obtain⟨q1,_⟩:=gE d 1 s.next (by omega) e1
    obtain⟨b1,b2,b3⟩:=hB d _ (by omega) h
    rw[Stm.fitS]
    exact⟨q1,.inr (.inr (.inr (.inr (.inr ⟨.inr ⟨rfl,rfl⟩,rfl,rfl,rfl,b1,b2,Nat.zero_le _,b3,by rw[A0V];trivial⟩))))⟩
   rw[if_neg c3] at h ⊢
   by_cases c4:(T.tok s.i).text= [115,101,110,100]
   ·rw[if_pos c4] at h ⊢
    have h0:=lt _ (by simp) c4
    have e2:=(X0 T _ _).clean h
    have e0:=A4v ((rE _ _ _).clean e2)
    have u0:=(A1W T s.next).on
    dsimp only at h ⊢
    obtain⟨q1,_⟩:=gE d 1 _ (by omega) e2
    rw[Stm.fitS]
    exact⟨q1,.inr (.inr (.inl ⟨rfl,by rw[e0.2];exact e0.1,rfl,rfl,rfl,rfl⟩))⟩
   rw[if_neg c4] at h ⊢
   by_cases c5:(T.tok s.i).text= [114,101,116,117,114,110]
   ·rw[if_pos c5] at h ⊢
    have h0:=lt _ (by simp) c5
    have e2:=(X0 T _ _).clean h
    dsimp only at h ⊢
    obtain⟨q1,_⟩:=gE d 1 _ (by omega) e2
    rw[Stm.fitS]
    exact⟨q1,.inr (.inr (.inr (.inl ⟨rfl,rfl,rfl,rfl,rfl,rfl⟩)))⟩
   rw[if_neg c5] at h ⊢
   by_cases c6:name (T.tok s.i).text=true
   ·rw[if_pos c6] at h ⊢
    have h0:=A0W (A3m c6)
    by_cases c7:T.is (s.i+1) [61]=true
    ·rw[if_pos c7] at h ⊢
     have h1:=is_lt c7
     have e2:=(X0 T _ _).clean h
     dsimp only at h ⊢
     obtain⟨q1,_⟩:=gE d 1 s.next.next (by rw[J7,J7];omega) e2
     rw[Stm.fitS]
     exact⟨q1,.inr (.inl ⟨rfl,c6,rfl,rfl,rfl,rfl⟩)⟩
    ·rw[if_neg c7] at h ⊢
     have e2:=(X0 T _ _).clean h
     dsimp only at h ⊢
     obtain⟨q1,_⟩:=gE d 1 s (by omega) e2
     rw[Stm.fitS]
     exact⟨q1,.inr (.inr (.inr (.inr (.inl ⟨rfl,rfl,rfl,rfl,rfl,rfl,B3S hN f d s c6 (by simpa using c7) (by omega) e2⟩))))⟩
   ·rw[if_neg c6] at h
    exact absurd h (A05 _ _ _)
theorem A9Y (T:Src):∀(f:Nat) (l:List Par) (s:St),(A2v T f l s).2.ds= []→l.length≤5→(∀p∈l,name p.name=true∧p.label<256)→(A2v T f l s).1.length≤5∧∀p∈(A2v T f l s).1,name p.name=true∧p.label<256
 |0,l,s,_,h1,h2=>by rw[A2v];exact⟨h1,h2⟩
 |f+1,l,s,h,h1,h2=>by
  rw[A2v] at h ⊢
  by_cases c1:T.l.length≤s.i∨T.is s.i [41]=true
  ·rw[if_pos c1];exact⟨h1,h2⟩
  rw[if_neg c1] at h ⊢
  by_cases c2:5≤l.length
  ·rw[if_pos c2] at h;exact absurd h (A05 _ _ _)
  rw[if_neg c2] at h ⊢
  dsimp only at h ⊢
  by_cases c3:(!((s.named T).2.need T [58]).1)=true
  ·rw[if_pos c3] at h
   have:=B0M h
   rw[St.need,if_pos this.1] at c3;cases c3
  rw[if_neg c3] at h ⊢
  have hx:∀(h:(lab T ((s.named T).2.need T [58]).2).2.ds= []),∀p∈l++ [⟨(s.named T).1,(lab T ((s.named T).2.need T [58]).2).1,(T.tok s.i).pos⟩],name p.name=true∧p.label<256:=fun h p hp=>by
   have e0:=A4v ((X0 T _ _).clean ((A3Q T _).clean h))
   rcases List.mem_append.1 hp with hp|hp
   ·exact h2 p hp
   ·obtain rfl:=List.mem_singleton.1 hp
    exact⟨by rw[e0.2];exact e0.1,A5w _ _⟩
  have hl:∀p:Par,(l++ [p]).length≤5:=fun p=>by rw[List.length_append,List.length_singleton];omega
  by_cases c4:T.is (lab T ((s.named T).2.need T [58]).2).2.i [44]=true
  ·rw[if_pos c4] at h ⊢
   have:=(A7G T _ _ _).clean h
   exact A9Y T f _ _ h (hl _) (hx this)
  ·rw[if_neg c4] at h ⊢
   exact⟨hl _,hx h⟩
theorem A9Z (T:Src):∀(f:Nat) (l:List Rf) (s:St),(A2E T f l s).2.ds= []→l.length≤5→(∀p∈l,name p.name=true)→(A2E T f l s).1.length≤5∧∀p∈(A2E T f l s).1,name p.name=true
 |0,l,s,_,h1,h2=>by rw[A2E];exact⟨h1,h2⟩
 |f+1,l,s,h,h1,h2=>by
  rw[A2E] at h ⊢
  by_cases c2:5≤l.length
  ·rw[if_pos c2] at h;exact absurd h (A05 _ _ _)
  rw[if_neg c2] at h ⊢
  dsimp only at h ⊢
  have hx:∀(h:(s.named T).2.ds= []),∀p∈l++ [⟨(s.named T).1,(T.tok s.i).pos⟩],name p.name=true:=fun h p hp=>by
   have e0:=A4v h
   rcases List.mem_append.1 hp with hp|hp
   ·exact h2 p hp
   ·obtain rfl:=List.mem_singleton.1 hp
    rw[e0.2];exact e0.1
  have hl:∀p:Rf,(l++ [p]).length≤5:=fun p=>by rw[List.length_append,List.length_singleton];omega
  by_cases c4:T.is (s.named T).2.i [44]=true
  ·rw[if_pos c4] at h ⊢
   have:=((X7 T _).trans (A7H T _ _ _)).clean h
   exact A9Z T f _ _ h (hl _) (hx this)
  ·rw[if_neg c4] at h ⊢
   exact⟨hl _,hx h⟩
theorem B7Z (s:List UInt8):B9H ⟨O3 s,s.length⟩:=fun i h2=>by
 rcases Nat.lt_or_ge i (O3 s).length with h|h
 ·rw[Src.tok,List.getD_eq_getElem?_getD,List.getElem?_eq_getElem h] at h2 ⊢
  have ok:=A1u s _ (List.getElem_mem h)
  dsimp only[Option.getD_some] at h2 ⊢
  generalize (O3 s)[i]=t at ok h2 ⊢
  have o1:=ok.one.1
  have ol:=ok.len
  rw[h2] at o1
  cases hd:s.drop t.pos with
  |nil=>rw[hd] at o1;cases o1
  |cons c r=>
   have ht:=ok.text
   rw[hd] at o1 ht
   obtain⟨m,hm⟩:∃m,t.text.length=m+1:=⟨t.text.length-1,by omega⟩
   rw[hm,List.take_succ_cons] at ht
   have hc:A1U c=false:=by
    simp only[one] at o1
    split at o1
    ·cases o1
    ·split at o1
     ·cases o1
     ·split at o1
      ·cases o1
      ·rename_i h3;simpa using h3
   rw[ht,name,A7M]
   simp[hc]
 ·rw[A2S h] at h2;cases h2
theorem B6t {T:Src}{s:St} (h:(if s.i<T.l.length then s.bad T 2 else s).ds= []):s.ds= []∧T.l.length≤s.i:=by
 split at h
 ·exact absurd h (A05 _ _ _)
 ·exact⟨h,by omega⟩
theorem B5q (src:List UInt8) (at_:Int) (h:(item src at_).diags= []):(item src at_).fitI:=by
 have hN:=B7Z src
 have hI:=A6L src at_
 rw[hI] at h ⊢
 generalize (⟨O3 src,src.length⟩:Src)=T at h hN ⊢
 have hc:=B6t (T:=T) (s:=(A3H T at_ src.length).2) h
 refine { none:=h,named:=?_,label:=?_,kind:=?_,params:=?_,sends:=?_,body:=?_}<;>clear h<;>show _
 all_goals
  dsimp only[B4A]
  rw[A3H] at hc ⊢
  by_cases c1:T.is 0 [102,110]=true
  ·rw[if_pos c1] at hc ⊢
   have hc:=hc.1
   dsimp only[A4q] at hc ⊢
   have e5:=(A40 T _).1 _ _|>.clean hc
   have gB:=(A80 hN _).1 _ _ (by rw[A4P];omega) hc
   have g4:(lab T (((A2v T 6 [] ((St.named T ⟨1,[]⟩).2.need T [40]).2).2.need T [41]).2.need T [58]).2).2.ds= []∧∀r:List Rf×St,r=(if T.is (lab T (((A2v T 6 [] ((St.named T ⟨1,[]⟩).2.need T [40]).2).2.need T [41]).2.need T [58]).2).2.i [115,101,110,100,115]=true then A2E T 6 [] (lab T (((A2v T 6 [] ((St.named T ⟨1,[]⟩).2.need T [40]).2).2.need T [41]).2.need T [58]).2).2.next else ([],(lab T (((A2v T 6 [] ((St.named T ⟨1,[]⟩).2.need T [40]).2).2.need T [41]).2.need T [58]).2).2))→r.1.length≤5∧∀p∈r.1,name p.name=true:=by
    split at e5
    ·rename_i hs
     refine⟨((X7 T _).trans (A7H T _ _ _)).clean e5,fun r hr=>?_⟩
     rw[if_pos hs] at hr
     subst hr
     exact A9Z T _ _ _ e5 (Nat.zero_le _) (fun _ h=>(by cases h))
    ·rename_i hs
     refine⟨e5,fun r hr=>?_⟩
     rw[if_neg hs] at hr
     subst hr
     exact⟨Nat.zero_le _,fun _ h=>(by cases h)⟩
   have e3:=(X0 T _ _).clean ((X0 T _ _).clean ((A3Q T _).clean g4.1))
   have gP:=A9Y T _ _ _ e3 (Nat.zero_le _) (fun _ h=>(by cases h))
   have e1:=A4v ((X0 T _ _).clean ((A7G T _ _ _).clean e3))
   first
    |exact(by rw[e1.2];exact e1.1)
    |exact A5w _ _
    |exact .inl rfl
    |exact gP
    |exact g4.2 _ rfl
    |exact⟨gB.2.1,gB.2.2⟩
  ·rw[if_neg c1] at hc ⊢
   by_cases c2:T.is 0 [99,104,97,110]=true
   ·rw[if_pos c2] at hc ⊢
    have hc:=hc.1
    dsimp only[A8N] at hc ⊢
    have e1:=A4v ((X0 T _ _).clean ((A3Q T _).clean ((X0 T _ _).clean hc)))
    first
     |exact(by rw[e1.2];exact e1.1)
     |exact A5w _ _
     |exact .inr ⟨rfl,rfl,rfl,rfl⟩
     |exact⟨Nat.zero_le _,fun _ h=>(by cases h)⟩
     |exact⟨Nat.zero_le _,by rw[A0V];trivial⟩
   ·rw[if_neg c2] at hc
    exact absurd hc.1 (A05 _ _ _)
theorem B3l (b:Nat):S9 0 b=true:=(A0E 0 b).2 (fun k _ h=>by simp at h)
theorem A5v {its:List Itm}{i:Nat} (h:i<its.length):N9 its i∈its:=by
 rw[N9,List.getD_eq_getElem?_getD,List.getElem?_eq_getElem h];exact List.getElem_mem h
theorem A0K {its:List Itm}{i:Nat} (h:i<its.length):its[i]?=some (N9 its i):=by
 rw[N9,List.getD_eq_getElem?_getD,List.getElem?_eq_getElem h];rfl
structure Up (its its':List Itm):Prop where
 len:its'.length=its.length
 kind:∀j,(N9 its' j).kind=(N9 its j).kind
 name:∀j,(N9 its' j).name=(N9 its j).name
 params:∀j,(N9 its' j).params=(N9 its j).params
 sends:∀j,(N9 its' j).sends=(N9 its j).sends
 body:∀j,(N9 its' j).body=(N9 its j).body
 own:∀j,(N9 its j).kind≠1→(N9 its' j).label=(N9 its j).label
 up:∀j a,S9 a (N9 its j).label=true→S9 a (N9 its' j).label=true
theorem Up.find {its its':List Itm} (h:Up its its') (k:Int) (n:List UInt8):Q8 its' k n=Q8 its k n:=by
 have e:∀j (h1:j<its'.length) (h2:j<its.length),A9E k n its'[j]=A9E k n its[j]:=fun j h1 h2=>by
  have a1:=h.kind j
  have a2:=h.name j
  have e1:N9 its' j=its'[j]:=by have:=A0K h1;rw[List.getElem?_eq_getElem h1] at this;exact(Option.some.inj this).symm
  have e2:N9 its j=its[j]:=by have:=A0K h2;rw[List.getElem?_eq_getElem h2] at this;exact(Option.some.inj this).symm
  rw[e1,e2] at a1 a2
  rw[A9E,A9E,a1,a2]
 have hl:=h.len
 rw[Q8,Q8]
 cases hf:its.findIdx? (A9E k n) with
 |none=>
  rw[List.findIdx?_eq_none_iff] at hf ⊢
  intro x hx
  obtain⟨j,hj,rfl⟩:=List.getElem_of_mem hx
  rw[e j hj (by omega)]
  exact hf _ (List.getElem_mem _)
 |some j=>
  rw[List.findIdx?_eq_some_iff_getElem] at hf ⊢
  obtain⟨h1,h2,h3⟩:=hf
  exact⟨by omega,by rw[e j (by omega) h1];exact h2,fun i hi=>by rw[e i (by omega) (by omega)];exact h3 i hi⟩
theorem Up.callLab {its its':List Itm} (h:Up its its') (n:List UInt8):callLab its' n=callLab its n:=by
 rw[Sp.callLab,Sp.callLab,h.find]
 split
 ·rename_i j hj
  exact h.own j (by have:=(Y8 hj).2.1;omega)
 ·rfl
theorem Up.meet {its its':List Itm} (h:Up its its') (l:List Rf) (a:Nat) (hf:S9 a (A2z its l)=true):S9 a (A2z its' l)=true:=by
 have key:∀(l:List Rf) (n n':Nat),(S9 a n=true→S9 a n'=true)→S9 a (l.foldl (A1e its) n)=true→S9 a (l.foldl (A1e its') n')=true:=by
  intro l
  induction l with
  |nil=>intro n n' h1 h2;exact h1 h2
  |cons x l ih=>
   intro n n' h1 h2
   rw[List.foldl_cons] at h2 ⊢
   refine ih _ _ (fun h3=>?_) h2
   rw[A1e] at h3 ⊢
   rw[h.find]
   cases hx:Q8 its 1 x.name with
   |none=>rw[hx] at h3;exact h1 h3
   |some j=>
    rw[hx] at h3
    dsimp only at h3 ⊢
    rw[B5o,Bool.and_eq_true] at h3 ⊢
    exact⟨h1 h3.1,h.up j a h3.2⟩
 exact key l 255 255 id hf
theorem B6j {s:FW}{a b b' f t:Nat}{n:List UInt8} (h:S9 a b=true→S9 a b'=true) (h0:(s.ask a b f t n).ds= []):s.ask a b' f t n=s.ask a b f t n:=by
 rw[FW.ask] at h0 ⊢
 rw[FW.ask]
 split at h0
 ·rename_i hf;rw[if_pos (h hf),if_pos hf]
 ·simp[FW.tell] at h0
theorem A3I {α:Type}{l r:List α} (h:l.length≤r.length) (h0:r= []):l= []:=by
 rw[h0] at h;exact List.length_eq_zero_iff.1 (by simpa using h)
theorem Up.askFloor {its its':List Itm} (h:Up its its') (un:Nat) (n:List UInt8) (f t:Nat) (s:FW) (h0:(askFloor its un n f t s).ds= []):askFloor its' un n f t s=askFloor its un n f t s:=by
 rw[Sp.askFloor] at h0 ⊢
 rw[Sp.askFloor,h.find]
 split
 ·rename_i j hj
  rw[hj] at h0
  rw[h.sends]
  exact B6j (h.meet _ _) h0
 ·rfl
theorem Up.askArg {its its':List Itm} (h:Up its its') (n:List UInt8) (i a f t:Nat) (s:FW):askArg its' n i a f t s=askArg its n i a f t s:=by
 rw[Sp.askArg,Sp.askArg,h.find]
 split
 ·rw[h.params]
 ·rfl
theorem Up.askCh {its its':List Itm} (h:Up its its') (a:Nat) (n:List UInt8) (f t:Nat) (s:FW) (h0:(askCh its a n f t s).ds= []):askCh its' a n f t s=askCh its a n f t s:=by
 rw[Sp.askCh] at h0 ⊢
 rw[Sp.askCh,h.find]
 split
 ·rename_i j hj
  rw[hj] at h0
  exact B6j (h.up j a) h0
 ·rfl
mutual
theorem Up.exF {its its':List Itm} (h:Up its its') (at_:Int) (sc:List Lc) (un:Nat):∀(e:Ex) (s:FW),(Sp.exF its at_ sc un e s).2.ds= []→Sp.exF its' at_ sc un e s=Sp.exF its at_ sc un e s
 | .mk k nm n args f t,s,h0=>by
  rw[Sp.exF] at h0 ⊢
  rw[Sp.exF,h.callLab]
  split
  ·rfl
  ·rename_i hk
   rw[if_neg hk] at h0
   split
   ·rename_i hk3
    rw[if_pos hk3] at h0
    dsimp only at h0
    rw[A3F] at h0
    rw[Up.opsF h at_ sc un args 0 s h0]
   ·rename_i hk3
    rw[if_neg hk3] at h0
    split
    ·rename_i hk4
     rw[if_pos hk4] at h0
     dsimp only at h0
     rw[A3F] at h0
     have h1:=A3I (A8J its un nm f t (Sp.argsF its at_ sc un nm args 0 s)).1 h0
     rw[Up.argsF h at_ sc un nm args 0 s h1,h.askFloor un nm f t _ h0]
    ·rfl
theorem Up.opsF {its its':List Itm} (h:Up its its') (at_:Int) (sc:List Lc) (un:Nat):∀(l:List Ex) (n:Nat) (s:FW),(Sp.opsF its at_ sc un l n s).2.ds= []→Sp.opsF its' at_ sc un l n s=Sp.opsF its at_ sc un l n s
 | [],n,s,h0=>by rw[Sp.opsF,Sp.opsF]
 |e::l,n,s,h0=>by
  rw[Sp.opsF] at h0 ⊢
  rw[Sp.opsF]
  have h1:=A3I (B0R its at_ sc un l (n|||(Sp.exF its at_ sc un e s).1) (Sp.exF its at_ sc un e s).2).1 h0
  rw[Up.exF h at_ sc un e s h1]
  exact Up.opsF h at_ sc un l _ _ h0
theorem Up.argsF {its its':List Itm} (h:Up its its') (at_:Int) (sc:List Lc) (un:Nat) (nm:List UInt8):∀(l:List Ex) (i:Nat) (s:FW),(Sp.argsF its at_ sc un nm l i s).ds= []→Sp.argsF its' at_ sc un nm l i s=Sp.argsF its at_ sc un nm l i s
 | [],i,s,h0=>by rw[Sp.argsF,Sp.argsF]
 |e::l,i,s,h0=>by
  rw[Sp.argsF] at h0 ⊢
  rw[Sp.argsF]
  have h1:=A3I (A6w its at_ sc un nm l (i+1) _).1 h0
  have h2:=A3I (B1B its nm i ((Sp.exF its at_ sc un e s).1|||un) e.fr e.to (Sp.exF its at_ sc un e s).2).1 h1
  rw[Up.exF h at_ sc un e s h2,h.askArg]
  exact Up.argsF h at_ sc un nm l _ _ h0
 end
mutual
theorem Up.plainF {its its':List Itm} (h:Up its its') (sc:List Lc):∀(e:Ex),Sp.plainF its' sc e=Sp.plainF its sc e
 | .mk k nm n args f t=>by rw[Sp.plainF,Sp.plainF,h.callLab,Up.plainsF h sc args 0]
theorem Up.plainsF {its its':List Itm} (h:Up its its') (sc:List Lc):∀(l:List Ex) (n:Nat),Sp.plainsF its' sc l n=Sp.plainsF its sc l n
 | [],n=>by rw[Sp.plainsF,Sp.plainsF]
 |e::l,n=>by rw[Sp.plainsF,Sp.plainsF,Up.plainF h sc e,Up.plainsF h sc l]
 end
mutual
theorem Up.stmF {its its':List Itm} (h:Up its its') (own:Nat) (at_:Int):∀(x:Stm) (sc:List Lc) (un:Nat) (s:FW),(Sp.stmF its own at_ x sc un s).2.ds= []→Sp.stmF its' own at_ x sc un s=Sp.stmF its own at_ x sc un s
 | .mk k nm a lb o e thn els f t,sc,un,s,h0=>by
  have hu:unF its' sc k un e=unF its sc k un e:=by rw[unF,unF,h.plainF]
  rw[Sp.stmF] at h0 ⊢
  rw[Sp.stmF,hu]
  try dsimp only at h0 ⊢
  generalize unF its sc k un e=un1 at h0 ⊢
  have he:=Up.exF h at_ sc un1 e s
  have hn:=A8Q its at_ sc un1 e s
  split
  ·rename_i k1
   rw[if_pos k1] at h0
   dsimp only at h0
   rw[he (A3I (A6x _ _ _ _ _ _).1 h0)]
  ·rename_i k1
   rw[if_neg k1] at h0
   split
   ·rename_i k2
    rw[if_pos k2] at h0
    dsimp only at h0
    rw[he (A3I (A6x _ _ _ _ _ _).1 h0)]
   ·rename_i k2
    rw[if_neg k2] at h0
    split
    ·rename_i k5
     rw[if_pos k5] at h0
     dsimp only at h0
     rw[he (A3I (B4j _ _ _ _ _ _).1 h0),h.askCh _ _ _ _ _ h0]
    ·rename_i k5
     rw[if_neg k5] at h0
     split
     ·rename_i k6
      rw[if_pos k6] at h0
      dsimp only at h0
      rw[he (A3I (A6x _ _ _ _ _ _).1 h0)]
     ·rename_i k6
      rw[if_neg k6] at h0
      split
      ·rename_i k3
       rw[if_pos k3] at h0
       dsimp only at h0
       have h1:=A3I (A2R its own at_ els sc _ _).1 h0
       have h2:=A3I (A2R its own at_ thn sc _ _).1 h1
       rw[he h2,Up.stmsF h own at_ thn sc _ _ h1,Up.stmsF h own at_ els sc _ _ h0]
      ·rename_i k3
       rw[if_neg k3] at h0
       dsimp only at h0
       rw[he h0]
theorem Up.stmsF {its its':List Itm} (h:Up its its') (own:Nat) (at_:Int):∀(l:List Stm) (sc:List Lc) (un:Nat) (s:FW),(Sp.stmsF its own at_ l sc un s).2.ds= []→Sp.stmsF its' own at_ l sc un s=Sp.stmsF its own at_ l sc un s
 | [],sc,un,s,h0=>by rw[Sp.stmsF,Sp.stmsF]
 |x::l,sc,un,s,h0=>by
  rw[Sp.stmsF] at h0 ⊢
  rw[Sp.stmsF]
  have h1:=A3I (A2R its own at_ l (Sp.stmF its own at_ x sc un s).1 un (Sp.stmF its own at_ x sc un s).2).1 h0
  rw[Up.stmF h own at_ x sc un s h1]
  exact Up.stmsF h own at_ l _ _ _ h0
 end
section
variable {its:List Itm}{at_:Int}
structure ScT (sn sf:List Lc):Prop where
 top:∀l∈sf,l.at_=255
 has:∀n,n≠ []→A0g sn n≠none→A0g sf n≠none
theorem ScT.lab {sn sf:List Lc} (h:ScT sn sf):A2D sf:=fun l hl=>by rw[h.top l hl];omega
theorem ScT.get {sn sf:List Lc} (h:ScT sn sf) {n:List UInt8} (hn:n≠ []) (hf:A0g sn n≠none):A3E sf n=255:=by
 rw[A3E]
 cases hs:A0g sf n with
 |none=>exact absurd hs (h.has n hn hf)
 |some l=>exact h.top l (A4M hs).1
theorem ScT.snoc {sn sf:List Lc} (h:ScT sn sf) (n:List UInt8) (a:Nat):ScT (if n= [] then sn else sn++ [⟨n,a⟩]) (sf++ [⟨n,255⟩]):=by
 refine⟨fun l hl=>?_,fun m hm hf=>?_⟩
 ·rcases List.mem_append.1 hl with hl|hl
  ·exact h.top l hl
  ·rw[List.mem_singleton] at hl;subst hl;rfl
 ·rw[A2U]
  dsimp only
  by_cases e:n=m
  ·rw[if_pos e];simp
  ·rw[if_neg e]
   refine h.has m hm ?_
   split at hf
   ·exact hf
   ·rw[A2U] at hf
    dsimp only at hf
    rw[if_neg e] at hf
    exact hf
theorem A8u (s:NW) (a e:Nat) (n:List UInt8):(s.tell a e n).ds≠ []:=by simp[NW.tell]
theorem B0H {b:Int}{sc:List Lc}{a:Nat}{n:List UInt8}{s:NW} (h:(A5x b sc a n s).ds= []):s.ds= []∧(n≠ []→A0g sc n≠none):=by
 rw[A5x] at h
 split at h
 ·rename_i l hl
  exact⟨h,fun _=>by rw[hl];simp⟩
 ·split at h
  ·rename_i hn
   exact⟨h,fun h1=>absurd hn h1⟩
  ·exact absurd h (A8u _ _ _ _)
theorem A8n {its:List Itm}{b k:Int}{a:Nat}{n:List UInt8}{s:NW} (h:(A2X its b k a n s).ds= []):s.ds= []:=by
 rw[A2X] at h
 split at h
 ·exact h
 ·split at h
  ·exact h
  ·exact absurd h (A8u _ _ _ _)
theorem B6r {its:List Itm}{b:Int}{a:Nat}{n:List UInt8}{m:Nat}{s:NW} (h:(A3i its b a n m s).ds= []):s.ds= []:=by
 rw[A3i] at h
 split at h
 ·split at h
  ·exact absurd h (A8u _ _ _ _)
  ·exact A8n h
 ·exact A8n h
theorem B7e {n:List UInt8}{a:Nat}{sc:List Lc}{s:NW} (h:(mkN n a sc s).2.ds= []):s.ds= []:=by
 rw[mkN] at h
 split at h
 ·exact h
 ·dsimp only at h
  split at h
  ·exact absurd h (A8u _ _ _ _)
  ·exact h
mutual
theorem A7j {its:List Itm}{b:Int}{sc:List Lc}:∀(e:Ex) {s:NW},(exN its b sc e s).ds= []→s.ds= []
 | .mk k nm n args f t,s,h=>by
  rw[exN] at h
  have h1:=A8k args h
  split at h1
  ·exact(B0H h1).1
  ·split at h1
   ·exact B6r h1
   ·exact h1
theorem A8k {its:List Itm}{b:Int}{sc:List Lc}:∀(l:List Ex) {s:NW},(A3a its b sc l s).ds= []→s.ds= []
 | [],s,h=>by rw[A3a] at h;exact h
 |e::l,s,h=>by rw[A3a] at h;exact A7j e (A8k l h)
 end
mutual
theorem B9b {its:List Itm}{b:Int}:∀(x:Stm) {sc:List Lc}{s:NW},(A31 its b x sc s).2.ds= []→s.ds= []
 | .mk k nm a lb o e thn els f t,sc,s,h=>by
  rw[A31] at h
  split at h
  ·exact A7j e (B7e h)
  ·split at h
   ·exact A7j e (B0H h).1
   ·split at h
    ·exact A7j e (A8n h)
    ·split at h
     ·exact A7j e (A4C thn (A4C els h))
     ·exact A7j e h
theorem A4C {its:List Itm}{b:Int}:∀(l:List Stm) {sc:List Lc}{s:NW},(A0j its b l sc s).2.ds= []→s.ds= []
 | [],sc,s,h=>by rw[A0j] at h;exact h
 |x::l,sc,s,h=>by rw[A0j] at h;exact B9b x (A4C l h)
 end
end
def B8k:PS:=fun _ _ _ _ _ _ _=>True
def B6q (its:List Itm):PE:=fun k nm _ na _ _=>k=4→nm≠ []→∃j,Q8 its 2 nm=some j∧(N9 its j).params.length=na
theorem B2O (s:NW) (a e:Nat) (n:List UInt8):(s.tell a e n).ds≠ []:=by simp[NW.tell]
theorem B4B {its:List Itm}{b k:Int}{a:Nat}{n:List UInt8}{s:NW} (h:(A2X its b k a n s).ds= []) (hn:n≠ []):∃j,Q8 its k n=some j:=by
 rw[A2X] at h
 split at h
 ·rename_i j hj;exact⟨j,hj⟩
 ·rw[if_neg hn] at h;exact absurd h (B2O _ _ _ _)
theorem B8m {its:List Itm}{b:Int}{a:Nat}{n:List UInt8}{m:Nat}{s:NW} (h:(A3i its b a n m s).ds= []) (hn:n≠ []):∃j,Q8 its 2 n=some j∧(N9 its j).params.length=m:=by
 rw[A3i] at h
 split at h
 ·rename_i j hj
  split at h
  ·exact absurd h (B2O _ _ _ _)
  ·rename_i hl;exact⟨j,hj,by omega⟩
 ·rename_i hj
  obtain⟨j,hj2⟩:=B4B h hn
  rw[hj] at hj2;cases hj2
mutual
theorem A3y {its:List Itm}{b:Int}{sc:List Lc}:∀(e:Ex) {s:NW},(exN its b sc e s).ds= []→e.all (B6q its)
 | .mk k nm n args f t,s,h=>by
  rw[exN] at h
  rw[Ex.all]
  refine⟨fun hk hn=>?_,A9U args h⟩
  have h1:=A8k args h
  rw[if_neg (by omega),if_pos hk] at h1
  exact B8m h1 hn
theorem A9U {its:List Itm}{b:Int}{sc:List Lc}:∀(l:List Ex) {s:NW},(A3a its b sc l s).ds= []→Y4 (B6q its) l
 | [],s,h=>by rw[Y4];trivial
 |e::l,s,h=>by
  rw[A3a] at h
  rw[Y4]
  exact⟨A3y e (A8k l h),A9U l h⟩
 end
mutual
theorem A7U {its:List Itm}:∀(e:Ex) {d l:Nat},e.fitE d l→e.all (B6q its)→e.all (okE its)
 | .mk k nm n args f t,d,l,h,hc=>by
  rw[Ex.fitE] at h
  rw[Ex.all] at hc ⊢
  rcases h.2 with h|h|h|h
  ·obtain⟨h1,_,_,h4⟩:=h
   subst h4
   exact⟨.inl h1,A1B⟩
  ·obtain⟨h1,_,_,h4⟩:=h
   subst h4
   exact⟨.inr (.inl h1),A1B⟩
  ·exact⟨.inr (.inr (.inr ⟨h.1,hc.1 h.1 (A3m h.2.1)⟩)),B6M args h.2.2.2.2 hc.2⟩
  ·exact⟨.inr (.inr (.inl ⟨h.1,h.2.2.2.1⟩)),B7v args h.2.2.2.2 hc.2⟩
theorem B6M {its:List Itm}:∀(l:List Ex) {d:Nat},A1R l d→Y4 (B6q its) l→Y4 (okE its) l
 | [],d,_,_=>A1B
 |e::l,d,h,hc=>by
  rw[A1R] at h
  rw[Y4] at hc ⊢
  exact⟨A7U e h.1 hc.1,B6M l h.2 hc.2⟩
theorem B7v {its:List Itm}:∀(l:List Ex) {d n:Nat},A3N l d n→Y4 (B6q its) l→Y4 (okE its) l
 | [],d,_,_,_=>A1B
 |e::l,d,n,h,hc=>by
  rw[A3N] at h
  rw[Y4] at hc ⊢
  exact⟨A7U e h.1 hc.1,B7v l h.2 hc.2⟩
 end
def okS (its:List Itm):PS:=fun k nm _ _ _ _ _=>k=5→∃j,Q8 its 1 nm=some j
mutual
theorem C0t {its:List Itm}{b:Int}:∀(x:Stm) {d:Nat}{sc:List Lc}{s:NW},x.fitS d→(A31 its b x sc s).2.ds= []→x.all (okE its) (okS its)
 | .mk k nm a lb o e thn els f t,d,sc,s,hf,h=>by
  rw[Stm.fitS] at hf
  rw[A31] at h
  rw[Stm.all]
  obtain⟨h0,hf⟩:=hf
  rcases hf with hf|hf|hf|hf|hf|hf
  ·obtain⟨k1,_,_,_,rfl,rfl⟩:=hf
   rw[if_pos k1] at h
   exact⟨fun h5=>by omega,A7U e h0 (A3y e (B7e h)),O7,O7⟩
  ·obtain⟨k1,_,_,_,rfl,rfl⟩:=hf
   rw[if_neg (by omega),if_pos k1] at h
   exact⟨fun h5=>by omega,A7U e h0 (A3y e (B0H h).1),O7,O7⟩
  ·obtain⟨k1,hn,_,_,rfl,rfl⟩:=hf
   rw[if_neg (by omega),if_neg (by omega),if_pos k1] at h
   exact⟨fun _=>B4B h (A3m hn),A7U e h0 (A3y e (A8n h)),O7,O7⟩
  ·obtain⟨k1,_,_,_,rfl,rfl⟩:=hf
   rw[if_neg (by omega),if_neg (by omega),if_neg (by omega),if_neg (by omega)] at h
   exact⟨fun h5=>by omega,A7U e h0 (A3y e h),O7,O7⟩
  ·obtain⟨k1,_,_,_,rfl,rfl,_⟩:=hf
   rw[if_neg (by omega),if_neg (by omega),if_neg (by omega),if_neg (by omega)] at h
   exact⟨fun h5=>by omega,A7U e h0 (A3y e h),O7,O7⟩
  ·obtain⟨k1,_,_,_,_,_,_,ht,he⟩:=hf
   have k34:k=3∨k=4:=by omega
   rw[if_neg (by omega),if_neg (by omega),if_neg (by omega),if_pos k34] at h
   have hT:=A4C els h
   exact⟨fun h5=>by omega,A7U e h0 (A3y e (A4C thn hT)),A8t thn ht hT,A8t els he h⟩
theorem A8t {its:List Itm}{b:Int}:∀(l:List Stm) {d:Nat}{sc:List Lc}{s:NW},A0V l d→(A0j its b l sc s).2.ds= []→P6 (okE its) (okS its) l
 | [],d,sc,s,_,_=>O7
 |x::l,d,sc,s,hf,h=>by
  rw[A0j] at h
  rw[A0V] at hf
  rw[P6]
  exact⟨C0t x hf.1 (A4C l h),A8t l hf.2 h⟩
 end
theorem B5j {s:List UInt8} (h:A2I (H8 s)= []):∀it∈H8 s,it.fitI:=fun it hit=>by
 obtain⟨i,hi,rfl⟩:=List.getElem_of_mem hit
 have hg:=List.getElem?_eq_getElem hi
 have e:N9 (H8 s) i=(H8 s)[i]:=by rw[N9,List.getD_eq_getElem?_getD,hg];rfl
 have h1:=(A5j h hi).1
 rw[e] at h1
 have hm:=List.getElem_mem hi
 generalize (H8 s)[i]=it at h1 hm
 rw[H8] at hm
 split at hm
 ·rw[A3j] at hm
  obtain⟨j,_,rfl⟩:=List.mem_map.1 hm
  exact B5q _ _ h1
 ·cases hm
theorem A8q {s:List UInt8} (h:A2I (H8 s)= []):∀it∈H8 s,it.kind=2→P6 (okE (H8 s)) (okS (H8 s)) it.body:=fun it hit hk=>by
 have hfit:=B5j h it hit
 obtain⟨i,hi,rfl⟩:=List.getElem_of_mem hit
 have hg:=List.getElem?_eq_getElem hi
 have e:N9 (H8 s) i=(H8 s)[i]:=by rw[N9,List.getD_eq_getElem?_getD,hg];rfl
 have h1:=(A5j h hi).2.1
 rw[A27,e,if_pos hk,fnN] at h1
 exact A8t _ hfit.body.2 h1
theorem B3N {s:List UInt8} (h:A2I (H8 s)= []):∀it∈H8 s,it.kind=2→P6 (okE (H8 s)) B8k it.body:=fun it hit hk=>
 A13 (fun _ _ _ _ _ _ h=>h) (fun _ _ _ _ _ _ _ _=>trivial) _ (A8q h it hit hk)
def MR.ok3 (m:MR):Prop:=m.err=0∨m.err=11∨m.err=12
def B1n (C:A0X):Prop:= ∀(nm:List UInt8) (args:List Int) (m:MR),m.ok3→(C nm args m).2.ok3
theorem A9o {m:MR} (h:m.ok3):m.step.ok3:=by
 rw[MR.step]
 split
 ·exact h
 ·split
  ·exact h
  ·exact .inr (.inl rfl)
mutual
theorem B6H {C:A0X} (hC:B1n C) (sc:List Cl):∀(e:Ex) {m:MR},m.ok3→(exR C sc e m).2.ok3
 | .mk k nm n args f t,m,h=>by
  have h1:=A9o h
  have h2:=B6K hC sc args h1
  rw[exR]
  split
  ·exact h1
  ·split
   ·exact h1
   ·split
    ·exact h1
    ·split
     ·exact h2
     ·exact hC _ _ _ h2
theorem B6K {C:A0X} (hC:B1n C) (sc:List Cl):∀(l:List Ex) {m:MR},m.ok3→(A0e C sc l m).2.ok3
 | [],m,h=>by rw[A0e];exact h
 |e::l,m,h=>by rw[A0e];exact B6K hC sc l (B6H hC sc e h)
 end
theorem A1n (n:Nat) (r:SR×Bool):(A04 n r).m=r.1.m:=by rw[A04];split<;>rfl
theorem B4G {f:List Cl→MR→Int×MR}{b:SR→SR} (hf:∀(sc:List Cl) (m:MR),m.ok3→(f sc m).2.ok3) (hb:∀s,s.m.ok3→(b s).m.ok3):∀(k:Nat) (s:SR),s.m.ok3→(A0F f b k s).m.ok3
 |0,s,h=>by rw[A0F];exact h
 |k+1,s,h=>by
  rw[A0F]
  split
  ·exact A9o h
  ·split
   ·exact B4G hf hb k _ (hb _ (hf _ _ (A9o h)))
   ·exact hf _ _ (A9o h)
mutual
theorem C0s {C:A0X} (hC:B1n C):∀(x:Stm) (s:SR),s.m.ok3→(A3S C x s).m.ok3
 | .mk k nm a lb o e thn els f t,s,h=>by
  have h1:=A9o h
  have h2:=B6H hC s.sc e h1
  rw[A3S]
  split
  ·exact B4G (fun sc m h=>B6H hC sc e h) (fun s h=>by rw[A1n];exact B16 hC thn s h) _ s h
  ·split
   ·exact h1
   ·split
    ·exact h2
    ·split
     ·exact h2
     ·split
      ·exact h2
      ·split
       ·exact h2
       ·split
        ·exact h2
        ·split
         ·split
          ·rw[A1n];exact B16 hC thn _ h2
          ·rw[A1n];exact B16 hC els _ h2
         ·exact h2
theorem B16 {C:A0X} (hC:B1n C):∀(l:List Stm) (s:SR),s.m.ok3→(goR C l s).1.m.ok3
 | [],s,h=>by rw[goR];exact h
 |x::l,s,h=>by
  rw[goR]
  split
  ·exact h
  ·exact B16 hC l _ (C0s hC x s h)
 end
theorem B4n (its:List Itm):∀d,B1n (A0v its d)
 |0=>fun nm args m h=>by
  rw[A0v]
  split
  ·exact h
  ·exact .inr (.inr rfl)
 |d+1=>fun nm args m h=>by
  rw[A0v]
  split
  ·exact h
  ·split
   ·exact h
   ·rw[A30,A1n]
    exact B16 (B4n its d) _ _ h
theorem B82 (its:List Itm) (nm:List UInt8) (args:List Int):(A2I its≠ []→(A0U its nm args).err=13)∧
  (A2I its= []→Q8 its 2 nm=none→(A0U its nm args).err=6)∧
  (∀j,A2I its= []→Q8 its 2 nm=some j→(N9 its j).params.length≠args.length→(A0U its nm args).err=5)∧
  (∀j,A2I its= []→Q8 its 2 nm=some j→(N9 its j).params.length=args.length→(A0U its nm args).err=0∨(A0U its nm args).err=11∨(A0U its nm args).err=12):=by
 refine⟨fun h=>?_,fun h h1=>?_,fun j h h1 h2=>?_,fun j h h1 h2=>?_⟩
 ·rw[A0U,if_pos h]
 ·rw[A0U,if_neg (fun hh=>hh h),h1]
 ·rw[A0U,if_neg (fun hh=>hh h),h1]
  dsimp only
  rw[if_pos (fun e=>h2 e.symm)]
 ·rw[A0U,if_neg (fun hh=>hh h),h1]
  dsimp only
  rw[if_neg (fun hh=>hh h2.symm)]
  have:=B4n its 40 nm args (m:=MR0) (.inl rfl)
  split
  ·rename_i he;rcases this with h|h|h
   ·exact absurd h he
   ·exact .inr (.inl h)
   ·exact .inr (.inr h)
  ·exact .inl rfl
end Go.Sp
end
