/- Own work. -/
import Derived.Test.YtbmbnippbldmfaaGreatDoorSn2
import Derived.Laws.BytesString
set_option maxHeartbeats 64000000
namespace Go.Fw
open Go
theorem F9 {α:Type}:(∀(x a:α) (l:List α),(x::l).set 0 a=a::l)/\(∀(x a:α) (l:List α) (n:Nat),(x::l).set (n+1) a=x::l.set n a)/\(∀(x:α) (l:List α) (n:Nat),(x::l).take (n+1)=x::l.take n)/\
  (∀l:List α,l.take 0= [])/\(∀(x:α) (l:List α) (n:Nat),(x::l).drop (n+1)=l.drop n)/\(∀l:List α,l.drop 0=l)/\(∀(x:α) (l r:List α),(x::l)++r=x::(l++r))/\(∀l:List α,[]++l=l):=
 ⟨fun _ _ _=>rfl,fun _ _ _ _=>rfl,fun _ _ _=>rfl,fun _=>rfl,fun _ _ _=>rfl,fun _=>rfl,fun _ _ _=>rfl,fun _=>rfl⟩
inductive HItem where
 |obj (b:Nat) (o:Obj)
 |row (v:Value) (ty:TypeId) (sz n:Nat) (xs:List Value)
abbrev HItem.cell (b:Nat) (c:List Value) (ty:TypeId):HItem:=.obj b (.cells c.toArray ty (0,0))
def HItem.ok (w:World):HItem->Prop
 | .obj b o=>w.heap[b]?=some o
 | .row v ty sz n xs=>w.ownsRow 0 ty sz v n xs
def HItem.blk:HItem->Option Nat
 | .obj b _=>some b
 | .row v _ _ _ _=>v.ownBlock
def A2p (H:List HItem):List Nat:=H.filterMap HItem.blk
structure Ent where
 w0:World
 X:List Nat
 I0:P6
structure Mem (E:Ent) (I:P6) (H:List HItem) (w:World):Prop where
 kept:Kept E.X E.w0 w
 le:Le E.I0 I
 inv:Inv I w
 ok:∀h∈H,h.ok w
 free:∀h∈H,∀b,h.blk=some b->I b=none
 born:∀h∈H,∀b,h.blk=some b->b∈E.X\/E.w0.heap.size<=b
 dist:H.Pairwise (fun h k=> ∀b,h.blk=some b->k.blk≠some b)
 grow:∀b o,I b=some o->E.I0 b=some o\/b∈E.X\/E.w0.heap.size<=b
theorem C0n {w:World}{base ty sz n g:Nat}{v:Value}{xs:List Value} (h:w.ownsRow base ty sz v n xs) (hg:v.ownBlock=some g):∃c,w.heap[g]?=some (.cells c ty (0,0)):=by
 rcases h.2 with ⟨rfl,_⟩|⟨g',cap,cur,rfl,hb,hh,_⟩
 ·cases hg
 ·simp only[Value.ownBlock,U3]at hg
  subst hg;exact⟨cur,hh⟩
theorem HItem.ok.lt {w:World}{h:HItem} (ho:h.ok w) {b:Nat} (hb:h.blk=some b):b<w.heap.size:=by
 cases h with
 |obj b' o=>
  simp only[HItem.blk,U3]at hb;subst hb;exact A2v ho
 |row v ty sz n xs=>
  obtain⟨c,hc⟩:=C0n ho hb;exact A2v hc
theorem HItem.ok.kept {w w':World}{X:List Nat}{h:HItem} (ho:h.ok w) (k:Kept X w w') (hx:∀b,h.blk=some b->b∉X):h.ok w':=by
 cases h with
 |obj b o=>exact k.get ho (hx b rfl)
 |row v ty sz n xs=>exact k.own ho hx
theorem A86 {H:List HItem}{b:Nat} (h:b∈A2p H):∃x∈H,x.blk=some b:=by
 simpa[A2p,A6x] using h
section
variable {E:Ent}{I I':P6}{H H' R:List HItem}{w w':World}
theorem Mem.start (hI:Inv I w):Mem ⟨w,[],I⟩ I [] w:=
 ⟨Kept.refl _ _,Le.refl _,hI,fun _ h=>(by cases h),fun _ h=>(by cases h),fun _ h=>(by cases h),.nil,fun _ _ h=> .inl h⟩
theorem Mem.dist' (hm:Mem E I H w) {i j:Nat}{h k:HItem} (hi:H[i]?=some h) (hj:H[j]?=some k) {b:Nat} (hb:h.blk=some b) (hk:k.blk=some b):i=j:=by
 obtain⟨hi1,hi2⟩:=A0t.1 hi;obtain⟨hj1,hj2⟩:=A0t.1 hj;rcases Nat.lt_trichotomy i j with h1|h1|h1
 ·have:=A2c.1 hm.dist i j hi1 hj1 h1 b (by rw[hi2];exact hb)
  rw[hj2]at this;exact absurd hk this
 ·exact h1
 ·have:=A2c.1 hm.dist j i hj1 hi1 h1 b (by rw[hj2];exact hk)
  rw[hi2]at this;exact absurd hb this
theorem Mem.keptX (hm:Mem E I H w) {X:List Nat} (k:Kept X w w') (hX:∀x∈X,x∈E.X\/E.w0.heap.size<=x) (hI:∀x∈X,I x=none) (hH:∀h∈H,∀b,h.blk=some b->b∉X):Mem E I H w':=
 ⟨hm.kept.step k hX,hm.le,hm.inv.kept k hI,fun h hh=>(hm.ok h hh).kept k (hH h hh),hm.free,hm.born,hm.dist,hm.grow⟩
theorem Mem.kept0 (hm:Mem E I H w) (k:Kept [] w w'):Mem E I H w':=
 hm.keptX k (fun _ h=>by cases h) (fun _ h=>by cases h) (fun _ _ _ _ h=>by cases h)
theorem Mem.get (hm:Mem E I H w) {i b:Nat}{o:Obj} (h:H[i]?=some (.obj b o)):w.heap[b]?=some o:=hm.ok _ (A0B h)
theorem Mem.getRow (hm:Mem E I H w) {i ty sz n:Nat}{v:Value}{xs:List Value} (h:H[i]?=some (.row v ty sz n xs)):w.ownsRow 0 ty sz v n xs:=hm.ok _ (A0B h)
theorem Mem.add (hm:Mem E I H w) {x:HItem} (k:Kept [] w w') (ho:x.ok w') (hf:∀b,x.blk=some b->w.heap.size<=b):Mem E I (x::H) w':=by
 have hs:=hm.kept.size;refine⟨hm.kept.step0 k,hm.le,hm.inv.kept0 k,fun h hh=>?_,fun h hh b hb=>?_,fun h hh b hb=>?_,.cons (fun h hh b hb hc=>?_) hm.dist,hm.grow⟩
 ·rcases V8.1 hh with rfl|hh
  ·exact ho
  ·exact(hm.ok h hh).kept k (by simp)
 ·rcases V8.1 hh with rfl|hh
  ·exact hm.inv.fresh (hf b hb)
  ·exact hm.free h hh b hb
 ·rcases V8.1 hh with rfl|hh
  ·exact .inr (A0J hs (hf b hb))
  ·exact hm.born h hh b hb
 ·have h1:=hf b hb
  have h2:=(hm.ok h hh).lt hc;omega
theorem Mem.nil (hm:Mem E I H w) (ty:TypeId) (sz:Nat):Mem E I (.row (.slice none 0 0) ty sz 0 []::H) w:=
 hm.add (Kept.refl _ _) (World.ownsRow_nil w _ _ _) (fun _ h=>by cases h)
theorem Mem.perm (hm:Mem E I H w) (h:H.Perm H'):Mem E I H' w:=
 ⟨hm.kept,hm.le,hm.inv,fun x hx=>hm.ok x (h.mem_iff.2 hx),fun x hx=>hm.free x (h.mem_iff.2 hx),fun x hx=>hm.born x (h.mem_iff.2 hx),
  (h.pairwise_iff (fun {_ _} hxy b hb hc=>hxy b hc hb)).1 hm.dist,hm.grow⟩
theorem Mem.right (hm:Mem E I (H++R) w):Mem E I R w:=
 ⟨hm.kept,hm.le,hm.inv,fun x hx=>hm.ok x (A12 _ hx),fun x hx=>hm.free x (A12 _ hx),fun x hx=>hm.born x (A12 _ hx),
  (A2t.1 hm.dist).2.1,hm.grow⟩
theorem Mem.left (hm:Mem E I (H++R) w):Mem E I H w:=
 ⟨hm.kept,hm.le,hm.inv,fun x hx=>hm.ok x (A1J _ hx),fun x hx=>hm.free x (A1J _ hx),fun x hx=>hm.born x (A1J _ hx),
  (A2t.1 hm.dist).1,hm.grow⟩
theorem Mem.tl {x:HItem} (hm:Mem E I (x::H) w):Mem E I H w:=Mem.right (H:= [x]) hm
theorem Mem.hd {x:HItem} (hm:Mem E I (x::H) w):Mem E I [x] w:=Mem.left (H:= [x]) (R:=H) hm
theorem Mem.snd {x y:HItem} (hm:Mem E I (x::y::H) w):Mem E I (x::H) w:=(hm.perm (.swap _ _ _)).tl
theorem Mem.swap {x y:HItem} (hm:Mem E I (x::y::H) w):Mem E I (y::x::H) w:=hm.perm (.swap _ _ _)
theorem Mem.turn (hm:Mem E I H w) {i:Nat}{h h':HItem} (hi:H[i]?=some h) (k:Kept h.blk.toList w w') (ho:h'.ok w')
  (hb:h'.blk=h.blk\/∃g,h'.blk=some g/\w.heap.size<=g):Mem E I (H.set i h') w':=by
 have hs:=hm.kept.size;have hmem:h∈H:=A0B hi;have hX:∀x∈h.blk.toList,h.blk=some x:=fun x hx=>by simpa[Option.mem_toList] using hx
 have hset:∀x∈H.set i h',x=h'\/∃j,j≠i/\H[j]?=some x:=fun x hx=>by
  obtain⟨j,hj⟩:=A7S.1 hx;rw[A2d]at hj;by_cases e:i=j
  ·rw[if_pos e]at hj
   split at hj
   ·simp only[U3]at hj;exact .inl hj.symm
   ·cases hj
  ·rw[if_neg e]at hj;exact .inr ⟨j,fun e'=>e e'.symm,hj⟩
 have hother:∀j x,j≠i->H[j]?=some x->∀b,x.blk=some b->b∉h.blk.toList:=fun j x hj hx b hb hm'=>hj (hm.dist' hx hi hb (hX b hm'))
 refine⟨hm.kept.step k (fun x hx=>hm.born h hmem x (hX x hx)),hm.le,hm.inv.kept k (fun x hx=>hm.free h hmem x (hX x hx)),fun x hx=>?_,fun x hx b hb'=>?_,fun x hx b hb'=>?_,?_,hm.grow⟩
 ·rcases hset x hx with rfl|⟨j,hj,hx⟩
  ·exact ho
  ·exact(hm.ok x (A0B hx)).kept k (hother j x hj hx)
 ·rcases hset x hx with rfl|⟨j,hj,hx⟩
  ·rcases hb with hb|⟨g,hg,hge⟩
   ·exact hm.free h hmem b (hb ▸ hb')
   ·rw[hg]at hb';injection hb' with hb';subst hb';exact hm.inv.fresh hge
  ·exact hm.free x (A0B hx) b hb'
 ·rcases hset x hx with rfl|⟨j,hj,hx⟩
  ·rcases hb with hb|⟨g,hg,hge⟩
   ·exact hm.born h hmem b (hb ▸ hb')
   ·rw[hg]at hb';injection hb' with hb';subst hb';exact .inr (A0J hs hge)
  ·exact hm.born x (A0B hx) b hb'
 ·refine A2c.2 (fun j k hj hk hjk b h1 h2=>?_)
  have g1:(H.set i h')[j]?=some (H.set i h')[j]:=G6 hj;have g2:(H.set i h')[k]?=some (H.set i h')[k]:=G6 hk;generalize (H.set i h')[j]=x at g1 h1;generalize (H.set i h')[k]=y at g2 h2;have hil:i<H.length:=(A0t.1 hi).1;rw[A2d]at g1 g2;have key:∀m z,m≠i->H[m]?=some z->z.blk=some b->h'.blk=some b->False:=fun m z hmi hz hzb hb'=>by
   rcases hb with hb|⟨g,hg,hge⟩
   ·exact hmi (hm.dist' hz hi hzb (hb ▸ hb'))
   ·rw[hg]at hb';injection hb' with hb';subst hb'
    have:=(hm.ok z (A0B hz)).lt hzb;omega
  by_cases e1:i=j
  ·rw[if_pos e1,if_pos hil]at g1
   rw[if_neg (by omega)]at g2;injection g1 with g1;subst g1
   exact key k y (by omega) g2 h2 h1
  ·rw[if_neg e1]at g1
   by_cases e2:i=k
   ·rw[if_pos e2,if_pos hil]at g2
    injection g2 with g2;subst g2
    exact key j x (by omega) g1 h1 h2
   ·rw[if_neg e2]at g2
    have:=hm.dist' g1 g2 h1 h2;omega
structure RowI (I:P6) (ty:TypeId) (sz:Nat) (v:Value) (n:Nat) (xs:List Value):Prop where
 len:xs.length=n *sz
 out:∃a cap,v=.slice a n cap/\n<=cap/\(0<n->∃b off c,∃fr:TypeId×(Nat×Nat),a=some ⟨b,off,none⟩/\I b=some (.cells c fr.1 fr.2)/\∀(j:Nat) (u:Value),xs[j]?=some u->c[off+j]?=some u)
structure PtrI (I:P6) (b off:Nat) (ty:TypeId) (cs:List Value):Prop where
 out:∃c,∃fr:TypeId×(Nat×Nat),I b=some (.cells c fr.1 fr.2)/\∀(j:Nat) (u:Value),cs[j]?=some u->c[off+j]?=some u
theorem RowI.le {ty sz n:Nat}{v:Value}{xs:List Value} (h:RowI I ty sz v n xs) (hl:Le I I'):RowI I' ty sz v n xs:=by
 obtain⟨h0,a,cap,h1,h2,h3⟩:=h;exact⟨h0,a,cap,h1,h2,fun hn=>let ⟨b,off,c,fr,e1,e2,e3⟩:=h3 hn;⟨b,off,c,fr,e1,hl _ _ e2,e3⟩⟩
theorem PtrI.le {b off ty:Nat}{cs:List Value} (h:PtrI I b off ty cs) (hl:Le I I'):PtrI I' b off ty cs:=by
 obtain⟨c,fr,h1,h2⟩:=h;exact⟨c,fr,hl _ _ h1,h2⟩
theorem A0W (I:P6) (ty:TypeId) (sz cap:Nat) (a:Option Addr):RowI I ty sz (.slice a 0 cap) 0 []:=⟨by simp,a,cap,rfl,H7 _,fun h=>by omega⟩
theorem RowI.at_ {ty sz n cap:Nat}{a:Option Addr}{xs:List Value} (h:RowI I ty sz (.slice a n cap) n xs) (i:Nat) (hi:i<n):
  ∃b off,a=some ⟨b,off,none⟩/\PtrI I b (off+i *sz) ty ((xs.drop (i *sz)).take sz):=by
 obtain⟨h0,a',cap',h1,h2,h3⟩:=h;injection h1 with e1 _ e3
 subst e1;subst e3;obtain⟨b,off,c,fr,e1,e2,e3⟩:=h3 (by omega);refine⟨b,off,e1,c,fr,e2,fun j u hj=>?_⟩
 rw[A1L]at hj;split at hj
 ·rw[A14]at hj
  rw[A3K];exact e3 _ _ hj
 ·cases hj
theorem B1n {α:Type} (enc:α->List Value) (sz:Nat) (he:∀a,(enc a).length=sz):∀(l:List α) (i:Nat) (a:α),l[i]?=some a->(((l.flatMap enc).drop (i *sz)).take sz)=enc a
 | [],i,a,h=>by simp at h
 |x::l,0,a,h=>by
  simp only[A0A,U3]at h;subst h;rw[A0a,A1n,A2o,A11 (by rw[he];omega),A0u (by rw[he];omega)]
 |x::l,i+1,a,h=>by
  rw[A0E]at h;rw[A0a,A5x,A4A (by rw[he,A1Q];omega),P5,he,show (i+1) *sz-sz=i *sz by rw[A1Q];omega];exact B1n enc sz he l i a h
theorem RowI.flat {α:Type}{enc:α->List Value}{ty sz n cap:Nat}{a:Option Addr}{l:List α} (h:RowI I ty sz (.slice a n cap) n (l.flatMap enc)) (he:∀a,(enc a).length=sz) {i:Nat}{x:α} (hi:l[i]?=some x) (hn:i<n):
  ∃b off,a=some ⟨b,off,none⟩/\PtrI I b (off+i *sz) ty (enc x):=by
 have:=h.at_ i hn
 rwa [B1n enc sz he l i x hi]at this
theorem A9c {base ty sz n:Nat}{v:Value}{xs:List Value} (h:w.ownsRow base ty sz v n xs) (hG:∀g o,v.ownBlock=some g->w.heap[g]?=some o->I g=some o):RowI I ty sz v n xs:=by
 refine⟨h.1,?_⟩
 rcases h.2 with ⟨rfl,h0⟩|⟨g,cap,cur,rfl,hb,hg,hc,_,hs,ht⟩
 ·exact⟨none,0,by rw[h0],by omega,fun h=>by omega⟩
 ·refine⟨_,cap,rfl,hc,fun _=>⟨g,0,cur,(ty,(0,0)),rfl,hG g _ rfl hg,fun j u hj=>?_⟩⟩
  rw[<-ht,A1L]at hj;split at hj
  ·rw[V6];simpa using hj
  ·cases hj
theorem Mem.freezeB (hm:Mem E I H w) {b:Nat}{o:Obj} (hb:w.heap[b]?=some o) (hf:I b=none) (hn:b∈E.X\/E.w0.heap.size<=b) (hd:∀h∈H,h.blk≠some b):Mem E (I.add b o) H w:=
 ⟨hm.kept,hm.le.trans (Le.add hf),hm.inv.add hb,hm.ok,fun h hh k hk=>(by
  have hne:k≠b:=fun e=>hd h hh (by rw[<-e];exact hk)
  unfold P6.add
  rw[if_neg hne];exact hm.free h hh k hk),hm.born,hm.dist,fun k u hk=>(by
  unfold P6.add at hk
  split at hk
  ·rename_i e;subst e;exact .inr hn
  ·exact hm.grow k u hk)⟩
theorem Mem.freeze {ty sz n:Nat}{v:Value}{xs:List Value} (hm:Mem E I (.row v ty sz n xs::H) w):∃I',Le I I'/\Mem E I' H w/\RowI I' ty sz v n xs:=by
 have ho:=hm.ok _ Q7;cases hv:v.ownBlock with
 |none=>exact⟨I,Le.refl _,hm.tl,A9c ho (fun g o h=>by rw[hv]at h;cases h)⟩
 |some g=>
  obtain⟨c,hc⟩:=C0n ho hv;have hf:=hm.free _ Q7 g hv;refine⟨I.add g (.cells c ty (0,0)),Le.add hf,hm.tl.freezeB hc hf (hm.born _ Q7 g hv) (fun h hh e=>(A1u.1 hm.dist).1 h hh g hv e),A9c ho (fun g' o h h'=>?_)⟩
  rw[hv]at h;injection h with h;subst h
  rw[hc]at h';injection h' with h';subst h'
  exact P6.add_self _ _ _
theorem Mem.freezeO {b ty:Nat}{c:Array Value}{fr:Nat×Nat} (hm:Mem E I (.obj b (.cells c ty fr)::H) w):∃I',Le I I'/\Mem E I' H w/\PtrI I' b 0 ty c.toList:=by
 have hf:=hm.free _ Q7 b rfl;refine⟨I.add b (.cells c ty fr),Le.add hf,hm.tl.freezeB (hm.ok _ Q7) hf (hm.born _ Q7 b rfl) (fun h hh e=>(A1u.1 hm.dist).1 h hh b rfl e),c,(ty,fr),P6.add_self _ _ _,fun j u hj=>?_⟩
 rw[V6];simpa using hj
theorem Mem.openRow {ty sz n:Nat}{v:Value}{xs:List Value} (hm:Mem E I (.row v ty sz n xs::H) w) (hn:0<n):
  ∃g cap cur,v=.slice (some ⟨g,0,none⟩) n cap/\Mem E I (.obj g (.cells cur ty (0,0))::H) w/\n<=cap/\cap<=maxLen/\cur.size=cap *sz/\cur.toList.take (n *sz)=xs:=by
 have ho:=hm.ok _ Q7;rcases ho.2 with ⟨_,h0⟩|⟨g,cap,cur,rfl,_,hg,hc,hcm,hs,ht⟩
 ·omega
 ·refine⟨g,cap,cur,rfl,?_,hc,hcm,hs,ht⟩
  exact⟨hm.kept,hm.le,hm.inv,fun h hh=>by
    rcases V8.1 hh with rfl|hh
    ·exact hg
    ·exact hm.tl.ok h hh,fun h hh b hb=>by
    rcases V8.1 hh with rfl|hh
    ·exact hm.free _ Q7 b hb
    ·exact hm.tl.free h hh b hb,fun h hh b hb=>by
    rcases V8.1 hh with rfl|hh
    ·exact hm.born _ Q7 b hb
    ·exact hm.tl.born h hh b hb,.cons (fun h hh b hb=>(A1u.1 hm.dist).1 h hh b hb) hm.tl.dist,hm.grow⟩
theorem Mem.shutRow {ty sz n g cap:Nat}{cur:Array Value}{xs:List Value} (hm:Mem E I (.obj g (.cells cur ty (0,0))::H) w) (hc:n<=cap) (hcm:cap<=maxLen) (hs:cur.size=cap *sz) (ht:cur.toList.take (n *sz)=xs):
  Mem E I (.row (.slice (some ⟨g,0,none⟩) n cap) ty sz n xs::H) w:=
 ⟨hm.kept,hm.le,hm.inv,fun h hh=>by
    rcases V8.1 hh with rfl|hh
    ·refine⟨?_,.inr ⟨g,cap,cur,rfl,H7 _,hm.ok _ Q7,hc,hcm,hs,ht⟩⟩
     rw[<-ht,Q4,A5q,hs];exact A1g (A3Q _ hc)
    ·exact hm.tl.ok h hh,fun h hh b hb=>by
    rcases V8.1 hh with rfl|hh
    ·exact hm.free _ Q7 b hb
    ·exact hm.tl.free h hh b hb,fun h hh b hb=>by
    rcases V8.1 hh with rfl|hh
    ·exact hm.born _ Q7 b hb
    ·exact hm.tl.born h hh b hb,.cons (fun h hh b hb=>(A1u.1 hm.dist).1 h hh b hb) hm.tl.dist,hm.grow⟩
end
structure CalM (P:Program) (f:FuncId) (args:Array Value) (I:P6) (H:List HItem) (Post:Value->P6->List HItem->Prop):Prop where
 run:∀w,Mem ⟨w,A2p H,I⟩ I H w->Cal P f args w (fun v w'=> ∃I' H',Post v I' H'/\Mem ⟨w,A2p H,I⟩ I' H' w')
theorem CalM.mono {P:Program}{f:FuncId}{args:Array Value}{I:P6}{H:List HItem}{Post Post':Value->P6->List HItem->Prop} (h:CalM P f args I H Post) (hp:∀v I' H',Le I I'->Post v I' H'->Post' v I' H'):CalM P f args I H Post':=
 ⟨fun w hm=>(h.run w hm).mono (fun _ _ ⟨I',H',h1,h2⟩=>⟨I',H',hp _ _ _ h2.le h1,h2⟩)⟩
section
variable {P:Program}{N:Nat}{ds:List Deferred}{Q:Exit->Act->World->Prop}{l l':Log}{w w':World}{ops:Array Oper}{os:List Oper}{o:Oper}
variable {d:Nat}{ty:TypeId}{pos:String}{af:Array Edge}{g:Option (Nat×Bool)}{t t':TypeId}{x y:Operand}
variable {E:Ent}{I I':P6}{H H' R:List HItem}
theorem Mem.back (hm:Mem E I (H++R) w) (hc:Mem ⟨w,A2p H,I⟩ I' H' w'):Mem E I' (H'++R) w':=by
 have hs:=hm.kept.size;have hbl:∀x∈A2p H,x∈E.X\/E.w0.heap.size<=x:=fun x hx=>by
  obtain⟨h,hh,hb⟩:=A86 hx;exact hm.born h (A1J _ hh) x hb
 have hR:∀h∈R,∀b,h.blk=some b->b∉A2p H:=fun h hh b hb hx=>by
  obtain⟨k,hk,hkb⟩:=A86 hx;exact(A2t.1 hm.dist).2.2 k hk h hh b hkb hb
 have hRl:∀h∈R,∀b,h.blk=some b->b<w.heap.size:=fun h hh b hb=>(hm.ok h (A12 _ hh)).lt hb
 refine⟨hm.kept.step hc.kept hbl,hm.le.trans hc.le,hc.inv,fun h hh=>?_,fun h hh b hb=>?_,fun h hh b hb=>?_,A2t.2 ⟨hc.dist,(A2t.1 hm.dist).2.1,fun h hh k hk b hb hkb=>?_⟩,fun b o hb=>?_⟩
 ·rcases A0d.1 hh with hh|hh
  ·exact hc.ok h hh
  ·exact(hm.ok h (A12 _ hh)).kept hc.kept (hR h hh)
 ·rcases A0d.1 hh with hh|hh
  ·exact hc.free h hh b hb
  ·cases hi:I' b with
   |none=>rfl
   |some o=>
    have h1:=hR h hh b hb;have h2:=hRl h hh b hb;have h3:=hm.free h (A12 _ hh) b hb;rcases hc.grow b o hi with h4|h4|h4
    ·dsimp only at h4;rw[h3]at h4;cases h4
    ·exact absurd h4 h1
    ·dsimp only at h4;omega
 ·rcases A0d.1 hh with hh|hh
  ·rcases hc.born h hh b hb with h1|h1
   ·exact hbl b h1
   ·exact .inr (A0J hs h1)
  ·exact hm.born h (A12 _ hh) b hb
 ·rcases hc.born h hh b hb with h1|h1
  ·exact hR k hk b hkb h1
  ·have:=hRl k hk b hkb
   dsimp only at h1;omega
 ·rcases hc.grow b o hb with h1|h1|h1
  ·exact hm.grow b o h1
  ·exact .inr (hbl b h1)
  ·exact .inr (.inr (A0J hs h1))
theorem Mem.sub (hm:Mem E I (H++R) w):Mem ⟨w,A2p H,I⟩ I H w:=
 ⟨Kept.refl _ _,Le.refl _,hm.inv,hm.left.ok,hm.left.free,fun h hh b hb=> .inl (by simp only[A2p,A6x];exact⟨h,hh,hb⟩),hm.left.dist,fun _ _ h=> .inl h⟩
theorem F6 {f:FuncId} [Own P f] {xs:List Operand}{tys:Array TypeId}{vs:List Value}{G:List HItem}{Post:Value->P6->List HItem->Prop} (k:∀v I' H' w',Post v I' H'->Le I I'->Mem E I' (H'++R) w'->WL P N ds ops Q os ((d,v)::l) w') (hm:Mem E I G w)
  (hw:U4 ops l ⟨some d,.call ⟨.value (.func f),xs.toArray,tys⟩,ty,pos,af,g⟩=some true:=by rfl) (hN:Nat.blt d N=true:=by rfl)
  (hx:evs l xs=some vs:=by rfl) (hp:G.Perm (H++R):=by first|exact pm0|exact pm1_0|exact pm1_1|exact pm1_2|exact pm1_3|exact pm2_0|exact pm2_1|exact pm2_2|exact pm2_3|exact pm2_4|exact pm3_0|exact pm3_1|exact pm3_2) (hc:CalM P f vs.toArray I H Post)
   :
  WL P N ds ops Q (⟨some d,.call ⟨.value (.func f),xs.toArray,tys⟩,ty,pos,af,g⟩::os) l w:=
 A0k hw hN hx (hc.run w (hm.perm hp).sub) (fun v w' ⟨I',H',h1,h2⟩=>k v I' H' w' h1 h2.le ((hm.perm hp).back h2))
theorem J4 [TyOne P t] {i b off:Nat}{c:List Value}{e:TypeId}{fr:Nat×Nat}{v:Value} (k:WL P N ds ops Q os ((d,v)::l) w) (hm:Mem E I H w) (hw:U4 ops l ⟨some d,.load t x,ty,pos,af,g⟩=some true:=by rfl) (hN:Nat.blt d N=true:=by rfl)
  (hx:ev l x=some (.pointer (some ⟨b,off,none⟩)):=by rfl) (hb:H[i]?=some (.obj b (.cells c.toArray e fr)):=by first|exact gt0|exact gt1|exact gt2|exact gt3|exact gt4|exact gt5|exact gt6) (hc:c[off]?=some v:=by rfl)
   :WL P N ds ops Q (⟨some d,.load t x,ty,pos,af,g⟩::os) l w:=
 A44 hw hN hx (hm.get hb) (by simpa using hc) k
theorem B0R {n:Nat} [TyAgg P t n] {i b off:Nat}{c:Array Value}{e:TypeId}{fr:Nat×Nat}{vs:List Value} (hm:Mem E I H w) (hw:U4 ops l ⟨some d,.load t x,ty,pos,af,g⟩=some true) (hN:Nat.blt d N=true)
  (hx:ev l x=some (.pointer (some ⟨b,off,none⟩))) (hb:H[i]?=some (.obj b (.cells c e fr))) (hc:(c.toList.drop off).take n=vs) (hl:vs.length=n)
  (k:WL P N ds ops Q os ((d,.agg vs.toArray)::l) w):WL P N ds ops Q (⟨some d,.load t x,ty,pos,af,g⟩::os) l w:=
 B3q hw hN hx (hm.get hb) hl (fun j v hv=>by
  rw[<-hc,A1L]at hv;split at hv
  ·rw[A14]at hv;simpa using hv
  ·cases hv) k
theorem J5 [TyOne P t] {b off j tc:Nat}{cs:List Value}{v:Value} (k:WL P N ds ops Q os ((d,v)::l) w) (hm:Mem E I H w) (hw:U4 ops l ⟨some d,.load t x,ty,pos,af,g⟩=some true:=by rfl) (hN:Nat.blt d N=true:=by rfl)
  (hx:ev l x=some (.pointer (some ⟨b,off+j,none⟩)):=by rfl) (hp:PtrI I b off tc cs:=by assumption) (hc:cs[j]?=some v:=by rfl)
   :WL P N ds ops Q (⟨some d,.load t x,ty,pos,af,g⟩::os) l w:=by
 obtain⟨c,fr,h1,h2⟩:=hp;exact A44 hw hN hx (hm.inv _ _ h1) (h2 j v hc) k
theorem X3 {n:Nat} [TyAgg P t n] {b off tc:Nat}{cs:List Value} (k:WL P N ds ops Q os ((d,.agg cs.toArray)::l) w) (hm:Mem E I H w) (hw:U4 ops l ⟨some d,.load t x,ty,pos,af,g⟩=some true:=by rfl) (hN:Nat.blt d N=true:=by rfl)
  (hx:ev l x=some (.pointer (some ⟨b,off,none⟩)):=by rfl) (hp:PtrI I b off tc cs:=by assumption) (hc:cs.length=n:=by rfl)
   :WL P N ds ops Q (⟨some d,.load t x,ty,pos,af,g⟩::os) l w:=by
 obtain⟨c,fr,h1,h2⟩:=hp;exact B3q hw hN hx (hm.inv _ _ h1) hc h2 k
theorem B5s {i b off n by_:Nat} [Elem P t n by_] {c:List Value}{e:TypeId}{v:Value}{dst:Option Nat} (hm:Mem E I H w) (hd:dst=none) (hw:U4 ops l ⟨dst,.store t x y,ty,pos,af,g⟩=some true)
  (hx:ev l x=some (.pointer (some ⟨b,off,none⟩))) (hy:ev l y=some v) (hb:H[i]?=some (.obj b (.cells c.toArray e (0,0)))) (hn:v.cells.toList.length=n) (ho:Nat.ble (off+n) c.length=true)
  (h1:v.cells.toList.all (·.oneCell')=true)
  (k:∀w',Mem E I (H.set i (.obj b (.cells (c.take off++(v.cells.toList++c.drop (off+n))).toArray e (0,0)))) w'->WL P N ds ops Q os l w'):
  WL P N ds ops Q (⟨dst,.store t x y,ty,pos,af,g⟩::os) l w:=
 B7x hd hw hx hy (hm.get hb) (by simpa using hn) (by simpa using A13 ho) h1 (fun w' hb' hk=>k w' (hm.turn hb (by simpa[HItem.blk] using hk) (by
  show w'.heap[b]?=_
  rw[hb'];simp) (.inl rfl)))
theorem C6q {n by_:Nat} [Elem P t n by_] {v:Value}{ty':TypeId}{pos':String}{af':Array Edge} (hm:Mem E I H w) (hN:Nat.blt d N=true)
  (hy:ev l y=some v) (hne:A9S y d=true) (hn:v.cells.toList.length=n) (h1:v.cells.toList.all (·.oneCell')=true)
  (k:∀b w',Mem E I (.obj b (.cells v.cells.toList.toArray t (0,0))::H) w'->WL P N ds ops Q os ((d,.pointer (some ⟨b,0,none⟩))::l) w'):
  WL P N ds ops Q (⟨some d,.alloc t,ty,pos,af,none⟩::⟨none,.store t (.tmp d) y,ty',pos',af',none⟩::os) l w:=
 C3K hN hy hne (by simpa using hn) h1 (fun b w' hb hh hk=>k b w' (hm.add hk (by simpa[HItem.ok] using hh) (fun b' hb'=>by simp only[HItem.blk,U3]at hb';omega)))
theorem C5f {n by_:Nat} [Elem P t n by_] (hm:Mem E I H w) (hw:U4 ops l ⟨some d,.alloc t,ty,pos,af,g⟩=some true) (hN:Nat.blt d N=true) {z:List Value} (hz:(P.info? t).bind (·.zero)=some (.agg z.toArray))
  (k:∀b w',Mem E I (.obj b (.cells z.toArray t (0,0))::H) w'->WL P N ds ops Q os ((d,.pointer (some ⟨b,0,none⟩))::l) w'):
  WL P N ds ops Q (⟨some d,.alloc t,ty,pos,af,g⟩::os) l w:=by
 cases hi:P.info? t with
 |none=>simp[hi]at hz
 |some i=>
  simp only[hi,A1m]at hz;have hk:=Kept.alloc w (.cells z.toArray t (0,0));refine U6 (w':=w.alloc (.cells z.toArray t (0,0))) (v:=.pointer (some ⟨w.heap.size,0,none⟩)) rfl hw hN (fun a ha=>?_) (k _ _ (hm.add hk (heap_alloc_new w _) (fun b hb=>by simp only[HItem.blk,U3]at hb;omega)))
  simp[execOp,Instr.alloc,newVar,newRow,newObj,zeroValue,typeInfo,hi,hz,Value.cells];rfl
theorem C1m {e:TypeId}{sz by_:Nat} [TySlice P t e] [Elem P e sz by_] {d1 i:Nat}{s:Operand}{v u:Value}{n:Nat}{xs:List Value}
  {ty':TypeId}{pos':String}{af':Array Edge} (hm:Mem E I H w) (hN1:Nat.blt d1 N=true) (hN:Nat.blt d N=true)
  (hs:ev l s=some v) (hne:A9S s d1=true) (hx:ev l x=some u) (hi:H[i]?=some (.row v e sz n xs)) (hu:u.cells.toList.length=sz) (h1:u.cells.toList.all (·.oneCell')=true)
  (hsz:Nat.ble sz 1024=true) (hlen:(n+1) *by_<=140737488355328) (hl':n+1<=9223372036854775807)
  (k:∀v' b1 w',Mem E I (H.set i (.row v' e sz (n+1) (xs++u.cells.toList))) w'->WL P N ds ops Q os ((d,v')::(d1,.slice (some ⟨b1,0,none⟩) 1 1)::l) w'):
  WL P N ds ops Q (⟨some d1,.buildSlice t 1 #[(0,x)],ty,pos,af,none⟩::⟨some d,.call ⟨.builtin .append, #[s,.tmp d1], #[t,t]⟩,ty',pos',af',none⟩::os) l w:=
 A75 hN1 hN hs hne hx (hm.getRow hi) (by simpa using hu) h1 (A13 hsz) hlen hl' (H7 _) (fun v' w' ho hk hb=>k v' _ w' (hm.turn hi hk ho (hb.imp_right fun ⟨g,h1,h2⟩=>⟨g,h1,h2⟩)))
theorem O0 {e:TypeId}{sz by_:Nat} [TySlice P t e] [Elem P e sz by_] {a:Option Addr}{n cp:Nat}{i:Int}{xs:List Value} (k:∀b off,PtrI I b off e ((xs.drop (i.toNat *sz)).take sz)->WL P N ds ops Q os ((d,.pointer (some ⟨b,off,none⟩))::l) w) (hw:U4 ops l ⟨some d,.indexAddr t x y,ty,pos,af,g⟩=some true:=by rfl) (hN:Nat.blt d N=true:=by rfl)
  (hx:ev l x=some (.slice a n cp):=by rfl) (hy:ev l y=some (.int .i64 i):=by rfl) (hr:RowI I e sz (.slice a n cp) n xs) (h0:0<=i:=by omega) (h1:i<n:=by omega)
   :
  WL P N ds ops Q (⟨some d,.indexAddr t x y,ty,pos,af,g⟩::os) l w:=by
 obtain⟨b,off,rfl,hp⟩:=hr.at_ i.toNat (by omega);exact A0L hw hN hx hy h0 h1 (k b _ hp)
theorem Q9 {α:Type}{enc:α->List Value}{e:TypeId}{sz by_:Nat} [TySlice P t e] [Elem P e sz by_] {a:Option Addr}{n cp:Nat}{i:Int}{xs:List α}{z:α} (k:∀b off,PtrI I b off e (enc z)->WL P N ds ops Q os ((d,.pointer (some ⟨b,off,none⟩))::l) w) (hw:U4 ops l ⟨some d,.indexAddr t x y,ty,pos,af,g⟩=some true:=by rfl) (hN:Nat.blt d N=true:=by rfl)
  (hx:ev l x=some (.slice a n cp):=by rfl) (hy:ev l y=some (.int .i64 i):=by rfl) (hr:RowI I e sz (.slice a n cp) n (xs.flatMap enc)) (he:∀a,(enc a).length=sz) (h0:0<=i:=by omega) (h1:i<n:=by omega) (hz:xs[i.toNat]?=some z)
   :
  WL P N ds ops Q (⟨some d,.indexAddr t x y,ty,pos,af,g⟩::os) l w:=by
 obtain⟨b,off,rfl,hp⟩:=hr.flat he hz (by omega);exact A0L hw hN hx hy h0 h1 (k b _ hp)
end
section
variable {P:Program}{N:Nat}{ds:List Deferred}{K:Act->Prop}{X:List Nat}{l l':Log}{w w':World}{ops:Array Oper}{os:List Oper}{o:Oper}
variable {d:Nat}{ty:TypeId}{pos:String}{af:Array Edge}{g:Option (Nat×Bool)}{t t':TypeId}{x y:Operand}{ik:IntKind}
theorem Z4 {x:Operand}{v:Value} (k:WV P N ds ops X w K os ((d,v)::l)) (hw:U4 ops l ⟨some d,.move x,ty,pos,af,g⟩=some true:=by rfl) (hN:Nat.blt d N=true:=by rfl) (hx:ev l x=some v:=by rfl)
   :WV P N ds ops X w K (⟨some d,.move x,ty,pos,af,g⟩::os) l:=
 A1y rfl hw hN (fun w' hkq a ha=>by simp[execOp,ha.ev hx]) k
theorem A5V {x:Operand}{v:Value} (k:WV P N ds ops X w K os ((d,v)::l)) (hw:U4 ops l ⟨some d,.assign x,ty,pos,af,g⟩=some true:=by rfl) (hN:Nat.blt d N=true:=by rfl) (hx:ev l x=some v:=by rfl)
   :WV P N ds ops X w K (⟨some d,.assign x,ty,pos,af,g⟩::os) l:=
 A1y rfl hw hN (fun w' hkq a ha=>by simp[execOp,ha.ev hx]) k
theorem B8d {c x y:Operand}{v:Value} (k:WV P N ds ops X w K os ((d,v)::l)) (hw:U4 ops l ⟨some d,.pick c x y,ty,pos,af,g⟩=some true:=by rfl) (hN:Nat.blt d N=true:=by rfl)
  (hc:ev l c=some (.bool true):=by rfl) (hx:ev l x=some v:=by rfl)  :WV P N ds ops X w K (⟨some d,.pick c x y,ty,pos,af,g⟩::os) l:=
 A1y rfl hw hN (fun w' hkq a ha=>by simp[execOp,ha.ev hc,ha.ev hx,asBool]) k
theorem C8F {a b:Int} (k:WV P N ds ops X w K os ((d,.bool (decide (a=b)))::l)) (hw:U4 ops l ⟨some d,.binOp .eql t x y t',ty,pos,af,g⟩=some true:=by rfl) (hN:Nat.blt d N=true:=by rfl) (hx:ev l x=some (.int ik a):=by rfl) (hy:ev l y=some (.int ik b):=by rfl)
   :WV P N ds ops X w K (⟨some d,.binOp .eql t x y t',ty,pos,af,g⟩::os) l:=
 A1y rfl hw hN (fun w' hkq c hc=>by simp[execOp,hc.ev hx,hc.ev hy,eqGuard,binOp,Op.intCmp,A4s]) k
theorem C12 [TyStr P t] {s:List UInt8} (k:WV P N ds ops X w K os ((d,.int .i64 (s.length:Int))::l)) (hw:U4 ops l ⟨some d,.call ⟨.builtin .len, #[x], #[t]⟩,ty,pos,af,g⟩=some true:=by rfl) (hN:Nat.blt d N=true:=by rfl)
  (hx:ev l x=some (str s):=by rfl)  :
  WV P N ds ops X w K (⟨some d,.call ⟨.builtin .len, #[x], #[t]⟩,ty,pos,af,g⟩::os) l:=
 A1y rfl hw hN (fun w' hkq a ha=>by
  have h1:=run_underlying (P:=P) (w:=w') (TyStr.out (P:=P) (t:=t));simp[execOp,resolve,invoke,builtin,Builtin.len_,ha.ev hx,h1,goInt,A2h]) k
theorem A9j {e:TypeId} [TySlice P t e] {b:Option Addr}{n c:Nat} (k:WV P N ds ops X w K os ((d,.int .i64 (n:Int))::l)) (hw:U4 ops l ⟨some d,.call ⟨.builtin .len, #[x], #[t]⟩,ty,pos,af,g⟩=some true:=by rfl) (hN:Nat.blt d N=true:=by rfl)
  (hx:ev l x=some (.slice b n c):=by rfl)  :
  WV P N ds ops X w K (⟨some d,.call ⟨.builtin .len, #[x], #[t]⟩,ty,pos,af,g⟩::os) l:=
 A1y rfl hw hN (fun w' hkq a ha=>by
  have h1:=run_underlying (P:=P) (w:=w') (TySlice.out (P:=P) (t:=t));simp[execOp,resolve,invoke,builtin,Builtin.len_,ha.ev hx,h1,goInt]) k
theorem B8f [TyStr P t] {s:List UInt8}{z:Operand}{a b:Int} (k:WV P N ds ops X w K os ((d,str ((s.drop a.toNat).take (b.toNat-a.toNat)))::l)) (hw:U4 ops l ⟨some d,.slice t x (some y) (some z) none,ty,pos,af,g⟩=some true:=by rfl) (hN:Nat.blt d N=true:=by rfl)
  (hx:ev l x=some (str s):=by rfl) (hy:ev l y=some (.int .i64 a):=by rfl) (hz:ev l z=some (.int .i64 b):=by rfl) (h0:0<=a/\a<=b/\b<=s.length:=by omega)
   :
  WV P N ds ops X w K (⟨some d,.slice t x (some y) (some z) none,ty,pos,af,g⟩::os) l:=
 A1y rfl hw hN (fun w' hkq c hc=>by
  obtain⟨i,rfl⟩:=A5o h0.1;obtain⟨j,rfl⟩:=A5o (Int.le_trans h0.1 h0.2.1);have h2:=run_underlying (P:=P) (w:=w') (TyStr.out (P:=P) (t:=t));have h3:i<=j:=by omega
  have h4:j<=s.length:=by omega
  simp[execOp,Instr.sliceAt,Instr.slice,Instr.sliceBounds,Instr.sliceBound,hc.ev hx,hc.ev hy,hc.ev hz,h2,asIntOf,A2h,A4P,h3,h4]) k
theorem A2s {s u:List UInt8} (hw:U4 ops l ⟨some d,.binOp .add t x y t',ty,pos,af,g⟩=some true) (hN:Nat.blt d N=true)
  (hx:ev l x=some (str s)) (hy:ev l y=some (str u)) (h:s.length+u.length<=9223372036854775807) (k:WV P N ds ops X w K os ((d,str (s++u))::l)):
  WV P N ds ops X w K (⟨some d,.binOp .add t x y t',ty,pos,af,g⟩::os) l:=
 A1y rfl hw hN (fun w' hkq c hc=>by
  have h1:¬((s.length+u.length:Nat):Int)>IntKind.i64.max:=by simp[IntKind.max,IntKind.bits,IntKind.signed];omega
  simp only[execOp,hc.ev hx,hc.ev hy,eqGuard,binOp,Op.stringOp,A2h,A8n,if_neg h1];simp) k
theorem B8c {a b:Int} (k:WV P N ds ops X w K os ((d,.int .i64 (a+b))::l)) (hw:U4 ops l ⟨some d,.binOp .add t x y t',ty,pos,af,g⟩=some true:=by rfl) (hN:Nat.blt d N=true:=by rfl)
  (hx:ev l x=some (.int .i64 a):=by rfl) (hy:ev l y=some (.int .i64 b):=by rfl) (h: -9223372036854775808<=a+b/\a+b<=9223372036854775807:=by omega)
   :WV P N ds ops X w K (⟨some d,.binOp .add t x y t',ty,pos,af,g⟩::os) l:=
 A1y rfl hw hN (fun w' hkq c hc=>by simp[execOp,hc.ev hx,hc.ev hy,eqGuard,binOp,Op.intArith,IntWalk.i64_in _ h]) k
theorem C4v {a b:Int} (k:WV P N ds ops X w K os ((d,.int .i64 (a-b))::l)) (hw:U4 ops l ⟨some d,.binOp .sub t x y t',ty,pos,af,g⟩=some true:=by rfl) (hN:Nat.blt d N=true:=by rfl)
  (hx:ev l x=some (.int .i64 a):=by rfl) (hy:ev l y=some (.int .i64 b):=by rfl) (h: -9223372036854775808<=a-b/\a-b<=9223372036854775807:=by omega)
   :WV P N ds ops X w K (⟨some d,.binOp .sub t x y t',ty,pos,af,g⟩::os) l:=
 A1y rfl hw hN (fun w' hkq c hc=>by simp[execOp,hc.ev hx,hc.ev hy,eqGuard,binOp,Op.intArith,IntWalk.i64_in _ h]) k
theorem A4Q {n:Nat}{vs:List Value}{v:Value} (k:WV P N ds ops X w K os ((d,v)::l)) (hw:U4 ops l ⟨some d,.extract x n,ty,pos,af,g⟩=some true:=by rfl) (hN:Nat.blt d N=true:=by rfl)
  (hx:ev l x=some (.tuple vs.toArray):=by rfl) (hv:vs[n]?=some v:=by rfl)  :WV P N ds ops X w K (⟨some d,.extract x n,ty,pos,af,g⟩::os) l:=
 A1y rfl hw hN (fun w' hkq c hc=>by simp[execOp,hc.ev hx,Instr.extract,hv]) k
theorem C0I [TyOne P t] {b off:Nat}{c:Array Value}{e:TypeId}{fr:Nat×Nat}{v:Value} (hw:U4 ops l ⟨some d,.load t x,ty,pos,af,g⟩=some true) (hN:Nat.blt d N=true)
  (hx:ev l x=some (.pointer (some ⟨b,off,none⟩))) (hb:w.heap[b]?=some (.cells c e fr)) (hxb:b∉X) (hc:c[off]?=some v)
  (k:WV P N ds ops X w K os ((d,v)::l)):WV P N ds ops X w K (⟨some d,.load t x,ty,pos,af,g⟩::os) l:=
 A1y rfl hw hN (fun w' hkq a ha=>by
  obtain⟨dd,h1,h2⟩:=TyOne.out (P:=P) (t:=t);have h4:=A2j (hkq.get hb hxb) hc;simp[execOp,Instr.loadAt,Instr.sureAddr,loadVar,A36 h1,h2,ha.ev hx,load,Sem.run,h4]) k
theorem J8 {i off:Nat} [Fld P t i off] {b o':Nat} (k:WV P N ds ops X w K os ((d,.pointer (some ⟨b,o'+off,none⟩))::l)) (hw:U4 ops l ⟨some d,.fieldAddr t x i,ty,pos,af,g⟩=some true:=by rfl) (hN:Nat.blt d N=true:=by rfl)
  (hx:ev l x=some (.pointer (some ⟨b,o',none⟩)):=by rfl)  :
  WV P N ds ops X w K (⟨some d,.fieldAddr t x i,ty,pos,af,g⟩::os) l:=
 A1y rfl hw hN (fun w' hkq a ha=>by
  obtain⟨fs,f,inf,h1,h2,h3,h4,h5⟩:=Fld.out (P:=P) (t:=t) (i:=i);have h6:=run_underlying (P:=P) (w:=w') h1;simp[execOp,Instr.fieldAt,Instr.sureAddr,ha.ev hx,h6,h2,fieldPlace,sizeOf,typeInfo,h4,h5,h3,Addr.add_lit]) k
theorem B2d {e:TypeId}{sz by_:Nat} [TySlice P t e] [Elem P e sz by_] {b o' n cp:Nat}{i:Int} (hw:U4 ops l ⟨some d,.indexAddr t x y,ty,pos,af,g⟩=some true:=by rfl) (hN:Nat.blt d N=true:=by rfl)
  (hx:ev l x=some (.slice (some ⟨b,o',none⟩) n cp):=by rfl) (hy:ev l y=some (.int .i64 i):=by rfl) (h0:0<=i:=by omega) (h1:i<n:=by omega)
  (k:WV P N ds ops X w K os ((d,.pointer (some ⟨b,o'+i.toNat *sz,none⟩))::l)):
  WV P N ds ops X w K (⟨some d,.indexAddr t x y,ty,pos,af,g⟩::os) l:=
 A1y rfl hw hN (fun w' hkq a ha=>by
  obtain⟨inf,z,hi,_,hs,_,_,_⟩:=Elem.out (P:=P) (e:=e);have h6:=run_underlying (P:=P) (w:=w') (TySlice.out (P:=P) (t:=t));simp[execOp,Instr.indexAt,asIntOf,ha.ev hx,ha.ev hy,h6,h0,h1,sizeOf,typeInfo,hi,hs,Addr.add_lit]) k
theorem B59 {n:Nat} [TyAgg P t n] {b off:Nat}{c:Array Value}{e:TypeId}{fr:Nat×Nat}{vs:List Value} (hw:U4 ops l ⟨some d,.load t x,ty,pos,af,g⟩=some true) (hN:Nat.blt d N=true)
  (hx:ev l x=some (.pointer (some ⟨b,off,none⟩))) (hb:w.heap[b]?=some (.cells c e fr)) (hxb:b∉X) (hl:vs.length=n) (hc:∀j v,vs[j]?=some v->c[off+j]?=some v)
  (k:WV P N ds ops X w K os ((d,.agg vs.toArray)::l)):WV P N ds ops X w K (⟨some d,.load t x,ty,pos,af,g⟩::os) l:=
 A1y rfl hw hN (fun w' hkq a ha=>by
  obtain⟨dd,i,h1,h2,h3,h4⟩:=TyAgg.out (P:=P) (t:=t);have h5:=run_loadCells_list (P:=P) w' ⟨b,off,none⟩ vs (fun j v hv=>by rw[Addr.add_lit];exact A2j (hkq.get hb hxb) (hc j v hv));rw[hl]at h5;simp[execOp,Instr.loadAt,Instr.sureAddr,loadVar,A36 h1,h2,ha.ev hx,sizeOf,typeInfo,h3,h4,h5]) k
theorem A2M {places:List (Nat×Nat)}{zero:List Value} [StructT P t places zero] {ps:List (Nat×Operand)}{vs:List (Nat×Value)}{r:List Value}
  (k:WV P N ds ops X w K os ((d,.agg r.toArray)::l)) (hw:U4 ops l ⟨some d,.build t ps.toArray,ty,pos,af,g⟩=some true:=by rfl) (hN:Nat.blt d N=true:=by rfl)
  (hx:evp l ps=some vs:=by rfl) (hr:bld places zero vs=some r:=by rfl)  :
  WV P N ds ops X w K (⟨some d,.build t ps.toArray,ty,pos,af,g⟩::os) l:=
 A1y rfl hw hN (fun w' hkq a ha=>by
  have e1:=ha.evp hx;obtain⟨fs,h1,h2,h3⟩:=StructT.out (P:=P) (t:=t);have h4:=run_underlying (P:=P) (w:=w') h1;have h5:=A6L (P:=P) w' _ _ h2;have h6:=A8V places vs zero r hr;simp only[bind_pure_comp]at h5;simp only[A2O]at h6;cases hi:P.info? t with
  |none=>simp[hi]at h3
  |some i=>
   simp only[hi,A1m]at h3;simp[execOp,Instr.build,e1,zeroValue,typeInfo,hi,h3,h4,A7O,h5,Value.cells,h6]) k
theorem O5 {p:Addr} (k:WV P N ds ops X w K os ((d,.pointer (some p))::l)) (hw:U4 ops l ⟨some d,.nilCheck x,ty,pos,af,g⟩=some true:=by rfl) (hN:Nat.blt d N=true:=by rfl)
  (hx:ev l x=some (.pointer (some p)):=by rfl)  :WV P N ds ops X w K (⟨some d,.nilCheck x,ty,pos,af,g⟩::os) l:=
 A1y rfl hw hN (fun w' hkq c hc=>by simp[execOp,hc.ev hx]) k
end
structure CalR (P:Program) (f:FuncId) (args:Array Value) (I:P6) (H:List HItem) (v:Value):Prop where
 run:∀w,Inv I w->(∀h∈H,h.ok w)->Cal P f args w (fun u w'=>u=v/\Kept [] w w')
theorem CalM.of {P:Program}{f:FuncId}{args:Array Value}{I:P6}{H:List HItem}{Post:Value->P6->List HItem->Prop}
  (h:∀w E,Mem E I H w->Cal P f args w (fun v w'=> ∃I' H',Post v I' H'/\Mem E I' H' w')):CalM P f args I H Post:=⟨fun w hm=>h w _ hm⟩
def A4X (w:World):P6:=fun b=>w.heap[b]?
theorem B4z (w:World):Inv (A4X w) w:=fun _ _ h=>h
theorem C3b {I:P6}{w:World} (h:Inv I w):Le I (A4X w):=fun b o hb=>h b o hb
theorem A7m {w:World}{b ty:Nat}{c:Array Value}{fr:Nat×Nat} (h:HItem.ok w (.obj b (.cells c ty fr))):PtrI (A4X w) b 0 ty c.toList:=
 ⟨c,(ty,fr),h,fun j u hj=>by rw[V6];simpa using hj⟩
theorem B4A {w:World}{ty sz n:Nat}{v:Value}{xs:List Value} (h:HItem.ok w (.row v ty sz n xs)):RowI (A4X w) ty sz v n xs:=
 A9c h (fun _ _ _ h=>h)
theorem CalR.of {P:Program}{f:FuncId}{args:Array Value}{I:P6}{H:List HItem}{v:Value}
  (h:∀w J,Mem ⟨w,[],J⟩ J [] w->Le I J->(∀h∈H,h.ok w)->J=A4X w->Cal P f args w (fun u w'=>u=v/\Kept [] w w')):CalR P f args I H v:=
 ⟨fun w hI hH=>h w (A4X w) (Mem.start (B4z w)) (C3b hI) hH rfl⟩
theorem CalM.reader {P:Program}{f:FuncId}{args:Array Value}{I:P6}{v:Value} (h:CalM P f args I [] (fun u I' H'=>u=v/\I'=I/\H'= [])):CalR P f args I [] v:=
 ⟨fun w hI _=>(h.run w (Mem.start hI)).mono (fun _ _ ⟨_,_,⟨h1,_,_⟩,h2⟩=>⟨h1,h2.kept⟩)⟩
theorem A64 {G:List HItem}:∀h∈([]:List HItem),h∈G:=fun _ h=>by cases h
section
variable {P:Program}{N:Nat}{ds:List Deferred}{Q:Exit->Act->World->Prop}{K:Act->World->Prop}{KV:Act->Prop}{X:List Nat}{l l':Log}{w w':World}{ops:Array Oper}{os:List Oper}{o:Oper}
variable {d:Nat}{ty:TypeId}{pos:String}{af:Array Edge}{g:Option (Nat×Bool)}{t t':TypeId}{x y:Operand}
variable {E:Ent}{I I':P6}{H H' G:List HItem}
theorem CalR.now {f:FuncId}{args:Array Value}{v:Value} (hc:CalR P f args I H v) (hm:Mem E I G w) (hs:∀h∈H,h∈G):Cal P f args w (fun u w'=>u=v/\Kept [] w w'):=
 hc.run w hm.inv (fun h hh=>hm.ok h (hs h hh))
theorem S9 {f:FuncId} [Own P f] {xs:List Operand}{tys:Array TypeId}{vs:List Value}{v:Value} (k:∀w',Mem E I G w'->WL P N ds ops Q os ((d,v)::l) w') (hm:Mem E I G w)
  (hw:U4 ops l ⟨some d,.call ⟨.value (.func f),xs.toArray,tys⟩,ty,pos,af,g⟩=some true:=by rfl) (hN:Nat.blt d N=true:=by rfl)
  (hx:evs l xs=some vs:=by rfl) (hs:∀h∈H,h∈G:=by first|exact A64|exact B9H|exact B9I|exact B9J|exact B9K|exact sub2_0|exact sub2_1|exact sub2_2|exact sub2_3|exact sub2_4) (hc:CalR P f vs.toArray I H v)
   :
  WL P N ds ops Q (⟨some d,.call ⟨.value (.func f),xs.toArray,tys⟩,ty,pos,af,g⟩::os) l w:=
 A0k hw hN hx (hc.now hm hs) (fun u w' ⟨h1,h2⟩=>by subst h1;exact k w' (hm.kept0 h2))
theorem A0n {f:FuncId} [Own P f] {xs:List Operand}{tys:Array TypeId}{vs:List Value}{v:Value} (k:WQ P N ds ops w K os ((d,v)::l)) (hm:Mem E I G w)
  (hw:U4 ops l ⟨some d,.call ⟨.value (.func f),xs.toArray,tys⟩,ty,pos,af,g⟩=some true:=by rfl) (hN:Nat.blt d N=true:=by rfl)
  (hx:evs l xs=some vs:=by rfl) (hs:∀h∈H,h∈G:=by first|exact A64|exact B9H|exact B9I|exact B9J|exact B9K|exact sub2_0|exact sub2_1|exact sub2_2|exact sub2_3|exact sub2_4) (hc:CalR P f vs.toArray I H v)
   :
  WQ P N ds ops w K (⟨some d,.call ⟨.value (.func f),xs.toArray,tys⟩,ty,pos,af,g⟩::os) l:=
 B8k rfl hw hN (fun w' a ha=>by
  have:=ha.evs hx;simp[execOp,resolve,invoke,Act.eval,Deferred.ofValue,this,A2m]) (fun w' hk=>hc.now (hm.kept0 hk) hs) k
theorem V3 [TyOne P t] {i b off:Nat}{c:List Value}{e:TypeId}{fr:Nat×Nat}{v:Value} (k:WQ P N ds ops w K os ((d,v)::l)) (hm:Mem E I H w) (hw:U4 ops l ⟨some d,.load t x,ty,pos,af,g⟩=some true:=by rfl) (hN:Nat.blt d N=true:=by rfl)
  (hx:ev l x=some (.pointer (some ⟨b,off,none⟩)):=by rfl) (hb:H[i]?=some (.obj b (.cells c.toArray e fr)):=by first|exact gt0|exact gt1|exact gt2|exact gt3|exact gt4|exact gt5|exact gt6) (hc:c[off]?=some v:=by rfl)
   :WQ P N ds ops w K (⟨some d,.load t x,ty,pos,af,g⟩::os) l:=
 B2y hw hN hx (hm.get hb) (by simpa using hc) k
theorem A0q [TyOne P t] {b off j tc:Nat}{cs:List Value}{v:Value} (k:WQ P N ds ops w K os ((d,v)::l)) (hm:Mem E I H w) (hw:U4 ops l ⟨some d,.load t x,ty,pos,af,g⟩=some true:=by rfl) (hN:Nat.blt d N=true:=by rfl)
  (hx:ev l x=some (.pointer (some ⟨b,off+j,none⟩)):=by rfl) (hp:PtrI I b off tc cs:=by assumption) (hc:cs[j]?=some v:=by rfl)
   :WQ P N ds ops w K (⟨some d,.load t x,ty,pos,af,g⟩::os) l:=by
 obtain⟨c,fr,h1,h2⟩:=hp;exact B2y hw hN hx (hm.inv _ _ h1) (h2 j v hc) k
theorem A6s {n:Nat} [TyAgg P t n] {b off tc:Nat}{cs:List Value} (k:WQ P N ds ops w K os ((d,.agg cs.toArray)::l)) (hm:Mem E I H w) (hw:U4 ops l ⟨some d,.load t x,ty,pos,af,g⟩=some true:=by rfl) (hN:Nat.blt d N=true:=by rfl)
  (hx:ev l x=some (.pointer (some ⟨b,off,none⟩)):=by rfl) (hp:PtrI I b off tc cs:=by assumption) (hc:cs.length=n:=by rfl)
   :WQ P N ds ops w K (⟨some d,.load t x,ty,pos,af,g⟩::os) l:=by
 obtain⟨c,fr,h1,h2⟩:=hp;exact C5G hw hN hx (hm.inv _ _ h1) hc h2 k
theorem A7K {e:TypeId}{sz by_:Nat} [TySlice P t e] [Elem P e sz by_] {a:Option Addr}{n cp:Nat}{i:Int}{xs:List Value} (k:∀b off,PtrI I b off e ((xs.drop (i.toNat *sz)).take sz)->WQ P N ds ops w K os ((d,.pointer (some ⟨b,off,none⟩))::l)) (hw:U4 ops l ⟨some d,.indexAddr t x y,ty,pos,af,g⟩=some true:=by rfl) (hN:Nat.blt d N=true:=by rfl)
  (hx:ev l x=some (.slice a n cp):=by rfl) (hy:ev l y=some (.int .i64 i):=by rfl) (hr:RowI I e sz (.slice a n cp) n xs) (h0:0<=i:=by omega) (h1:i<n:=by omega)
   :
  WQ P N ds ops w K (⟨some d,.indexAddr t x y,ty,pos,af,g⟩::os) l:=by
 obtain⟨b,off,rfl,hp⟩:=hr.at_ i.toNat (by omega);exact B13 hw hN hx hy h0 h1 (k b _ hp)
theorem Z7 {α:Type}{enc:α->List Value}{e:TypeId}{sz by_:Nat} [TySlice P t e] [Elem P e sz by_] {a:Option Addr}{n cp:Nat}{i:Int}{xs:List α}{z:α} (k:∀b off,PtrI I b off e (enc z)->WQ P N ds ops w K os ((d,.pointer (some ⟨b,off,none⟩))::l)) (hw:U4 ops l ⟨some d,.indexAddr t x y,ty,pos,af,g⟩=some true:=by rfl) (hN:Nat.blt d N=true:=by rfl)
  (hx:ev l x=some (.slice a n cp):=by rfl) (hy:ev l y=some (.int .i64 i):=by rfl) (hr:RowI I e sz (.slice a n cp) n (xs.flatMap enc)) (he:∀a,(enc a).length=sz) (h0:0<=i:=by omega) (h1:i<n:=by omega) (hz:xs[i.toNat]?=some z)
   :
  WQ P N ds ops w K (⟨some d,.indexAddr t x y,ty,pos,af,g⟩::os) l:=by
 obtain⟨b,off,rfl,hp⟩:=hr.flat he hz (by omega);exact B13 hw hN hx hy h0 h1 (k b _ hp)
end
theorem B9H {R:List HItem}{a:HItem}:∀h∈ [a],h∈a::R:=by simp
theorem B9I {R:List HItem}{a x:HItem}:∀h∈ [a],h∈x::a::R:=by simp
theorem B9J {R:List HItem}{a x y:HItem}:∀h∈ [a],h∈x::y::a::R:=by simp
theorem B9K {R:List HItem}{a x y z:HItem}:∀h∈ [a],h∈x::y::z::a::R:=by simp
theorem pm2_4 {R:List HItem}{a b x y z u:HItem}:(x::y::z::u::a::b::R).Perm ([a,b]++(x::y::z::u::R)):=by
 simpa using (A0P (l₁:= [x,y,z,u]) (l₂:= [a,b])).append_right R
theorem pm0 {H:List HItem}:H.Perm ([]++H):=.refl _
theorem pm1_0 {R:List HItem}{a:HItem}:(a::R).Perm ([a]++R):=.refl _
theorem pm1_1 {R:List HItem}{a x:HItem}:(x::a::R).Perm ([a]++(x::R)):=.swap _ _ _
theorem pm1_2 {R:List HItem}{a x y:HItem}:(x::y::a::R).Perm ([a]++(x::y::R)):=((List.Perm.swap a y R).cons x).trans (.swap _ _ _)
theorem pm1_3 {R:List HItem}{a x y z:HItem}:(x::y::z::a::R).Perm ([a]++(x::y::z::R)):=(pm1_2.cons x).trans (.swap _ _ _)
theorem pm2_0 {R:List HItem}{a b:HItem}:(a::b::R).Perm ([a,b]++R):=.refl _
theorem pm2_1 {R:List HItem}{a b x:HItem}:(x::a::b::R).Perm ([a,b]++(x::R)):=(List.Perm.swap a x _).trans ((List.Perm.swap b x R).cons a)
theorem pm2_2 {R:List HItem}{a b x y:HItem}:(x::y::a::b::R).Perm ([a,b]++(x::y::R)):=(pm2_1.cons x).trans pm2_1
theorem pm2_3 {R:List HItem}{a b x y z:HItem}:(x::y::z::a::b::R).Perm ([a,b]++(x::y::z::R)):=(pm2_2.cons x).trans pm2_1
theorem pm3_0 {R:List HItem}{a b c:HItem}:(a::b::c::R).Perm ([a,b,c]++R):=.refl _
theorem pm3_1 {R:List HItem}{a b c x:HItem}:(x::a::b::c::R).Perm ([a,b,c]++(x::R)):=by
 simpa using (A0P (l₁:= [x]) (l₂:= [a,b,c])).append_right R
theorem gt0 {α:Type}{a:α}{l:List α}:(a::l)[0]?=some a:=rfl
theorem gt1 {α:Type}{a b:α}{l:List α}:(a::b::l)[1]?=some b:=rfl
theorem gt2 {α:Type}{a b c:α}{l:List α}:(a::b::c::l)[2]?=some c:=rfl
theorem gt3 {α:Type}{a b c d:α}{l:List α}:(a::b::c::d::l)[3]?=some d:=rfl
theorem gt4 {α:Type}{a b c d e:α}{l:List α}:(a::b::c::d::e::l)[4]?=some e:=rfl
theorem A7I {α:Type}:∀(H:List α) (k:Nat) (x:α),H[k]?=some x->H.Perm (x::H.eraseIdx k)
 | [],_,_,h=>by simp at h
 |a::H,0,x,h=>by
  simp only[A0A,U3]at h;subst h;exact .refl _
 |a::H,k+1,x,h=>((A7I H k x (by simpa using h)).cons a).trans (.swap _ _ _)
theorem Mem.front {E:Ent}{I:P6}{H:List HItem}{w:World} (hm:Mem E I H w) (k:Nat) {x:HItem} (h:H[k]?=some x):Mem E I (x::H.eraseIdx k) w:=by
 exact hm.perm (A7I H k x h)
section
variable {P:Program}{N:Nat}{ds:List Deferred}{Q:Exit->Act->World->Prop}{K:Act->World->Prop}{l l':Log}{w w':World}{ops:Array Oper}{os:List Oper}{o:Oper}
variable {d:Nat}{ty:TypeId}{pos:String}{af:Array Edge}{g:Option (Nat×Bool)}{t t':TypeId}{x y z:Operand}
variable {E:Ent}{I I':P6}{H H' R:List HItem}
theorem C0y {c:List Value}{off:Nat}{v:Value} (h:Nat.blt off c.length=true):c.take off++([v]++c.drop (off+1))=c.set off v:=by
 have h':off<c.length:=by simpa[A1x] using h
 rw[List.set_eq_take_append_cons_drop,if_pos h'];rfl
theorem O6 {i b off by_:Nat} [Elem P t 1 by_] {c:List Value}{e:TypeId}{v:Value}{dst:Option Nat} (hm:Mem E I H w) (hd:dst=none:=by rfl) (hw:U4 ops l ⟨dst,.store t x y,ty,pos,af,g⟩=some true:=by rfl)
  (hx:ev l x=some (.pointer (some ⟨b,off,none⟩)):=by rfl) (hy:ev l y=some v:=by rfl) (hb:H[i]?=some (.obj b (.cells c.toArray e (0,0))):=by first|exact gt0|exact gt1|exact gt2|exact gt3|exact gt4|exact gt5|exact gt6) (hn:v.cells.toList= [v]:=by rfl) (ho:Nat.blt off c.length=true:=by rfl)
  (h1:v.oneCell'=true:=by rfl)
  (k:∀w',Mem E I (H.set i (.obj b (.cells (c.set off v).toArray e (0,0)))) w'->WL P N ds ops Q os l w'):
  WL P N ds ops Q (⟨dst,.store t x y,ty,pos,af,g⟩::os) l w:=by
 refine B5s (n:=1) hm hd hw hx hy hb (by rw[hn];rfl) ?_ (by rw[hn];simp[h1]) (fun w' hm'=>?_)
 ·have:off<c.length:=by simpa[A1x] using ho
  simp;omega
 ·rw[hn,C0y ho]at hm'
  exact k w' hm'
theorem N7 {i b n by_:Nat} [Elem P t n by_] {c vs:List Value}{e:TypeId}{dst:Option Nat} (k:∀w',Mem E I (H.set i (.obj b (.cells vs.toArray e (0,0)))) w'->WL P N ds ops Q os l w') (hm:Mem E I H w) (hd:dst=none:=by rfl) (hw:U4 ops l ⟨dst,.store t x y,ty,pos,af,g⟩=some true:=by rfl)
  (hx:ev l x=some (.pointer (some ⟨b,0,none⟩)):=by rfl) (hy:ev l y=some (.agg vs.toArray):=by rfl) (hb:H[i]?=some (.obj b (.cells c.toArray e (0,0))):=by first|exact gt0|exact gt1|exact gt2|exact gt3|exact gt4|exact gt5|exact gt6) (hn:vs.length=n:=by rfl) (ho:c.length=n:=by rfl)
  (h1:vs.all (·.oneCell')=true:=by rfl)
   :
  WL P N ds ops Q (⟨dst,.store t x y,ty,pos,af,g⟩::os) l w:=by
 refine B5s (n:=n) hm hd hw hx hy hb (by simpa[Value.cells] using hn) (by simp[ho]) (by simpa[Value.cells] using h1) (fun w' hm'=>k w' ?_)
 have e1:c.drop (0+n)= []:=by rw[V6, <-ho];simp
 rw[e1]at hm';simpa[Value.cells] using hm'
theorem A3m {i b off n by_:Nat} [Elem P t n by_] {c vs:List Value}{e:TypeId}{dst:Option Nat} (k:∀w',Mem E I (H.set i (.obj b (.cells (c.take off++(vs++c.drop (off+n))).toArray e (0,0)))) w'->WL P N ds ops Q os l w') (hm:Mem E I H w) (hd:dst=none:=by rfl) (hw:U4 ops l ⟨dst,.store t x y,ty,pos,af,g⟩=some true:=by rfl)
  (hx:ev l x=some (.pointer (some ⟨b,off,none⟩)):=by rfl) (hy:ev l y=some (.agg vs.toArray):=by rfl) (hb:H[i]?=some (.obj b (.cells c.toArray e (0,0))):=by first|exact gt0|exact gt1|exact gt2|exact gt3|exact gt4|exact gt5|exact gt6) (hn:vs.length=n:=by rfl) (ho:Nat.ble (off+n) c.length=true:=by rfl)
  (h1:vs.all (·.oneCell')=true:=by rfl)
   :
  WL P N ds ops Q (⟨dst,.store t x y,ty,pos,af,g⟩::os) l w:=by
 refine B5s (n:=n) hm hd hw hx hy hb (by simpa[Value.cells] using hn) ho (by simpa[Value.cells] using h1) (fun w' hm'=>k w' ?_)
 simpa[Value.cells] using hm'
theorem Y1 {n:Nat} [TyAgg P t n] {i b:Nat}{c:List Value}{e:TypeId}{fr:Nat×Nat} (k:WL P N ds ops Q os ((d,.agg c.toArray)::l) w) (hm:Mem E I H w) (hw:U4 ops l ⟨some d,.load t x,ty,pos,af,g⟩=some true:=by rfl) (hN:Nat.blt d N=true:=by rfl)
  (hx:ev l x=some (.pointer (some ⟨b,0,none⟩)):=by rfl) (hb:H[i]?=some (.obj b (.cells c.toArray e fr)):=by first|exact gt0|exact gt1|exact gt2|exact gt3|exact gt4|exact gt5|exact gt6) (hl:c.length=n:=by rfl)
   :WL P N ds ops Q (⟨some d,.load t x,ty,pos,af,g⟩::os) l w:=
 B0R (vs:=c) hm hw hN hx hb (by rw[<-hl];simp) hl k
theorem U1 {pl:List (Nat×Nat)}{z:List Value} [hS:StructT P t pl z] {n by_:Nat} [Elem P t n by_] (k:∀b w',Mem E I (.obj b (.cells z.toArray t (0,0))::H) w'->WL P N ds ops Q os ((d,.pointer (some ⟨b,0,none⟩))::l) w') (hm:Mem E I H w) (hw:U4 ops l ⟨some d,.alloc t,ty,pos,af,g⟩=some true:=by rfl) (hN:Nat.blt d N=true:=by rfl)
   :
  WL P N ds ops Q (⟨some d,.alloc t,ty,pos,af,g⟩::os) l w:=by
 obtain⟨_,_,_,h3⟩:=hS.out;exact C5f hm hw hN h3 k
theorem A0K {v:Value}{vs:List Value} (k:∀b w',Mem E I (.obj b (.cells vs.toArray t (0,0))::H) w'->WL P N ds ops Q os ((d,.pointer (some ⟨b,0,none⟩))::l) w') (hm:Mem E I H w) (hw:U4 ops l ⟨some d,.box t x,ty,pos,af,g⟩=some true:=by rfl) (hN:Nat.blt d N=true:=by rfl) (hx:ev l x=some v:=by rfl) (hv:v.cells=vs.toArray:=by rfl)
   :
  WL P N ds ops Q (⟨some d,.box t x,ty,pos,af,g⟩::os) l w:=
 C3H hw hN hx (fun b w' hb hh hk=>k b w' (hm.add hk (by rw[<-hv];exact hh) (fun b' hb'=>by simp only[HItem.blk,U3]at hb';omega)))
theorem Y5 {n by_:Nat} [Elem P t n by_] {vs:List Value}{ty':TypeId}{pos':String}{af':Array Edge} (k:∀b w',Mem E I (.obj b (.cells vs.toArray t (0,0))::H) w'->WL P N ds ops Q os ((d,.pointer (some ⟨b,0,none⟩))::l) w') (hm:Mem E I H w) (hN:Nat.blt d N=true:=by rfl)
  (hy:ev l y=some (.agg vs.toArray):=by rfl) (hne:A9S y d=true:=by rfl) (hn:vs.length=n:=by rfl) (h1:vs.all (·.oneCell')=true:=by rfl)
   :
  WL P N ds ops Q (⟨some d,.alloc t,ty,pos,af,none⟩::⟨none,.store t (.tmp d) y,ty',pos',af',none⟩::os) l w:=
 C6q hm hN hy hne (by simpa[Value.cells] using hn) (by simpa[Value.cells] using h1) (fun b w' hm'=>k b w' (by simpa[Value.cells] using hm'))
theorem C6Z {by_:Nat} [Elem P t 1 by_] {v:Value}{ty':TypeId}{pos':String}{af':Array Edge} (k:∀b w',Mem E I (.obj b (.cells [v].toArray t (0,0))::H) w'->WL P N ds ops Q os ((d,.pointer (some ⟨b,0,none⟩))::l) w') (hm:Mem E I H w) (hN:Nat.blt d N=true:=by rfl)
  (hy:ev l y=some v:=by rfl) (hne:A9S y d=true:=by rfl) (hn:v.cells.toList= [v]:=by rfl) (h1:v.oneCell'=true:=by rfl)
   :
  WL P N ds ops Q (⟨some d,.alloc t,ty,pos,af,none⟩::⟨none,.store t (.tmp d) y,ty',pos',af',none⟩::os) l w:=
 C6q hm hN hy hne (by rw[hn];rfl) (by rw[hn];simp[h1]) (fun b w' hm'=>k b w' (by rw[hn]at hm';exact hm'))
theorem A2l {e:TypeId}{sz by_:Nat} [TySlice P t e] [Elem P e sz by_] {d1 i:Nat}{s:Operand}{v u:Value}{n:Nat}{xs us:List Value}
  {ty':TypeId}{pos':String}{af':Array Edge} (k:∀a cp b1 w',Mem E I (H.set i (.row (.slice a (n+1) cp) e sz (n+1) (xs++us))) w'->WL P N ds ops Q os ((d,.slice a (n+1) cp)::(d1,.slice (some ⟨b1,0,none⟩) 1 1)::l) w') (hm:Mem E I H w) (hN1:Nat.blt d1 N=true:=by rfl) (hN:Nat.blt d N=true:=by rfl)
  (hs:ev l s=some v:=by rfl) (hne:A9S s d1=true:=by rfl) (hx:ev l x=some u:=by rfl) (hi:H[i]?=some (.row v e sz n xs):=by first|exact gt0|exact gt1|exact gt2|exact gt3|exact gt4|exact gt5|exact gt6) (hus:u.cells.toList=us:=by rfl) (hu:us.length=sz:=by rfl) (h1:us.all (·.oneCell')=true:=by rfl)
  (hsz:Nat.ble sz 1024=true:=by rfl) (hlen:(n+1) *by_<=140737488355328:=by omega) (h63:n+1<=9223372036854775807:=by omega)
   :
  WL P N ds ops Q (⟨some d1,.buildSlice t 1 #[(0,x)],ty,pos,af,none⟩::⟨some d,.call ⟨.builtin .append, #[s,.tmp d1], #[t,t]⟩,ty',pos',af',none⟩::os) l w:=by
 subst hus;refine C1m hm hN1 hN hs hne hx hi hu h1 hsz hlen h63 (fun v' b1 w' hm'=>?_)
 have hlt:i<H.length:=(A0t.1 hi).1;obtain⟨a,cp,rfl⟩:=A3D (hm'.getRow (i:=i) (by rw[A2d];simp[hlt];exact⟨rfl,rfl,rfl,rfl,rfl⟩));exact k a cp b1 w' hm'
theorem A1w [TyOne P t] {b off tc:Nat}{cs:List Value}{v:Value} (k:WL P N ds ops Q os ((d,v)::l) w) (hm:Mem E I H w) (hw:U4 ops l ⟨some d,.load t x,ty,pos,af,g⟩=some true:=by rfl) (hN:Nat.blt d N=true:=by rfl)
  (hx:ev l x=some (.pointer (some ⟨b,off,none⟩)):=by rfl) (hp:PtrI I b off tc cs:=by assumption) (hc:cs[0]?=some v:=by rfl)
   :WL P N ds ops Q (⟨some d,.load t x,ty,pos,af,g⟩::os) l w:=by
 obtain⟨c,fr,h1,h2⟩:=hp;exact A44 hw hN hx (hm.inv _ _ h1) (h2 0 v hc) k
theorem B1s [TyOne P t] {b off tc:Nat}{cs:List Value}{v:Value} (k:WQ P N ds ops w K os ((d,v)::l)) (hm:Mem E I H w) (hw:U4 ops l ⟨some d,.load t x,ty,pos,af,g⟩=some true:=by rfl) (hN:Nat.blt d N=true:=by rfl)
  (hx:ev l x=some (.pointer (some ⟨b,off,none⟩)):=by rfl) (hp:PtrI I b off tc cs:=by assumption) (hc:cs[0]?=some v:=by rfl)
   :WQ P N ds ops w K (⟨some d,.load t x,ty,pos,af,g⟩::os) l:=by
 obtain⟨c,fr,h1,h2⟩:=hp;exact B2y hw hN hx (hm.inv _ _ h1) (h2 0 v hc) k
theorem gt5 {α:Type}{a b c d e f:α}{l:List α}:(a::b::c::d::e::f::l)[5]?=some f:=rfl
theorem gt6 {α:Type}{a b c d e f g:α}{l:List α}:(a::b::c::d::e::f::g::l)[6]?=some g:=rfl
theorem Y4 {fn:Func}{i tr n b:Nat}{tc:TypeId} [TyAgg P tc n] {c:List Value}{e:TypeId}{fr:Nat×Nat}{Post:Value->World->Prop} (h:Post (.agg c.toArray) w) (hm:Mem E I H w) (hr:fn.results= #[.cell tr tc]:=by rfl)
  (hx:lk l tr=some (.pointer (some ⟨b,0,none⟩)):=by rfl) (hb:H[i]?=some (.obj b (.cells c.toArray e fr)):=by first|exact gt0|exact gt1|exact gt2|exact gt3|exact gt4|exact gt5|exact gt6) (hl:c.length=n:=by rfl)
   :At N [] (bodyPost P fn (Ret Post)) .ret l w:=
 B8u hr hx (hm.get hb) hl (fun j v hv=>by simpa using hv) h
theorem A2S {fn:Func}{i tr u n b:Nat}{tc:TypeId} [TyAgg P tc n] {c:List Value}{e:TypeId}{fr:Nat×Nat}{xv:Value}{Post:Value->World->Prop} (h:Post (.tuple #[.agg c.toArray,xv]) w) (hm:Mem E I H w) (hr:fn.results= #[.cell tr tc,.tmp u]:=by rfl)
  (hx:lk l tr=some (.pointer (some ⟨b,0,none⟩)):=by rfl) (hu:lk l u=some xv:=by rfl) (hb:H[i]?=some (.obj b (.cells c.toArray e fr)):=by first|exact gt0|exact gt1|exact gt2|exact gt3|exact gt4|exact gt5|exact gt6) (hl:c.length=n:=by rfl)
   :At N [] (bodyPost P fn (Ret Post)) .ret l w:=
 B6C hr hx hu (hm.get hb) hl (fun j v hv=>by simpa using hv) h
end
section
variable {P:Program}{N:Nat}{ds:List Deferred}{Q:Exit->Act->World->Prop}{l l':Log}{w w':World}{ops:Array Oper}{os:List Oper}{o:Oper}
variable {d:Nat}{ty:TypeId}{pos:String}{af:Array Edge}{g:Option (Nat×Bool)}{t t':TypeId}{x y:Operand}{ik:IntKind}
theorem B9i {a b:Nat}{yk:IntKind} (hw:U4 ops l ⟨some d,.binOp .shr t x y t',ty,pos,af,g⟩=some true) (hN:Nat.blt d N=true)
  (hx:ev l x=some (.int .i64 (a:Int))) (hy:ev l y=some (.int yk (b:Int))) (h:b<=62)
  (k:WL P N ds ops Q os ((d,.int .i64 ((a / 2 ^ b:Nat):Int))::l) w):WL P N ds ops Q (⟨some d,.binOp .shr t x y t',ty,pos,af,g⟩::os) l w:=
 B9h hw hN hx hy (by omega) (by
  have h3:(a:Int).fdiv (2 ^ (b:Int).toNat)=((a / 2 ^ b:Nat):Int):=by
   rw[A1v,Int.fdiv_eq_ediv_of_nonneg _ (Int.le_of_lt (Int.pow_pos (by decide))),Int.natCast_ediv];rfl
  rw[h3];exact k)
theorem Kept.of_below {w w':World} (h:RowKit.Below w.heap.size w w'):Kept [] w w':=⟨h.os,h.tape,h.output,h.size,fun k hk _=>h.block k hk⟩
theorem C2v {f:FuncId}{args:Array Value}{v:Value}{R:World->Prop} (h:Calls P f args w (fun e w'=>e=.returned v/\R w')):Cal P f args w (fun u w'=>u=v/\R w'):=
 ⟨h.mono (fun e w' ⟨he,hr⟩=>by subst he;exact⟨rfl,hr⟩)⟩
theorem B5E {e:TypeId} [TySlice P t e] [TyInt P e .u8] [TyStr P t'] {b off n cp:Nat}{c:Array Value}{e':TypeId}{fr:Nat×Nat}{s:List UInt8}
  (hw:U4 ops l ⟨some d,.convert t t' x,ty,pos,af,g⟩=some true) (hN:Nat.blt d N=true)
  (hx:ev l x=some (.slice (some ⟨b,off,none⟩) n cp)) (hb:w.heap[b]?=some (.cells c e' fr)) (hl:s.length=n)
  (hc:∀j,j<n->c[off+j]?=some (.int .u8 ((s.getD j 0).toNat:Int)))
  (k:WL P N ds ops Q os ((d,str s)::l) w):WL P N ds ops Q (⟨some d,.convert t t' x,ty,pos,af,g⟩::os) l w:=
 U6 rfl hw hN (fun a ha=>by
  have h1:=run_underlying (P:=P) (w:=w) (TySlice.out (P:=P) (t:=t));have h2:=run_underlying (P:=P) (w:=w) (TyStr.out (P:=P) (t:=t'));have h3:=run_underlying (P:=P) (w:=w) (TyInt.out (P:=P) (t:=e));have h4:=run_loadCells_list (P:=P) w ⟨b,off,none⟩ (s.map (fun c=>Value.int .u8 (c.toNat:Int))) (fun j z hj=>by
   rw[A0f]at hj;cases hs:s[j]? with
   |none=>rw[hs]at hj;cases hj
   |some u=>
    rw[hs]at hj;simp only[A17,U3]at hj;have hlt:=(A0t.1 hs).1;rw[Addr.add_lit];refine A2j hb ((hc j (by omega)).trans ?_)
    rw[O4,hs];simp[hj])
  have h5:=run_bytesToString (P:=P) w ⟨b,off,none⟩ n cp (s.map (fun c=>(c.toNat:Int))) (by
   rw[<-hl];have e1:(s.map (fun c=>(c.toNat:Int))).map (Value.int .u8)=s.map (fun c=>Value.int .u8 (c.toNat:Int)):=by simp[Function.comp_def]
   rw[e1, <-h4];simp)
  have h6:∀(u:List UInt8) (r:List UInt8),(u.map (fun c=>(c.toNat:Int))).foldl (fun (r:ByteArray) n=>r.push (UInt8.ofNat n.toNat)) ⟨r.toArray⟩=⟨(r++u).toArray⟩:=by
   intro u;induction u with
   |nil=>intro r;simp
   |cons a u ih=>
    intro r;have:=ih (r++ [a]);simp only[X8,A1f,O3,A7T]at this |-;rw[<-this]
    congr 1
    apply ByteArray.ext
    simp[ByteArray.push]
  have h7:=h6 s [];simp only[P5]at h7;have h8:(ByteArray.empty)=⟨([]:List UInt8).toArray⟩:=rfl;rw[h8,h7]at h5;simp only[execOp,ha.ev hx,run_convert_bytes_string (P:=P) w t t' e _ _ _ (TySlice.out (P:=P) (t:=t)) (TyInt.out (P:=P) (t:=e)) (TyStr.out (P:=P) (t:=t')),Sem.run_bind,h5];simp) k
end
end Go.Fw
