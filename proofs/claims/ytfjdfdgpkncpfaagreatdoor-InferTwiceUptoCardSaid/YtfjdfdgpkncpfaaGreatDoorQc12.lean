/- Own work: texts InfC, FwU, TreeO, OwnA, InfD, one behind the other. -/
import Derived.Test.YtfjdfdgpkncpfaaGreatDoorQc11
set_option maxHeartbeats 64000000
namespace Go.Sp
theorem B6J {o:Lab}{f n:Nat}{l:Li} (h:l.op≠some f):l.val (upL o f n)=l.val o:=by
 rw[Li.val,Li.val];cases hop:l.op with
 |none=>rfl
 |some g=>
  show (if g=f then n else o g)=o g
  rw[if_neg (fun e=>h (by rw[hop,e]))]
theorem A88 (p:LP) (f a:Nat):(A2k p f a).1=upL p.1 f (p.1 f|||a):=by
 rw[A2k];split
 ·rename_i h
  funext g
  show p.1 g=if g=f then _ else _
  rw[h];split
  ·rename_i e;rw[e]
  ·rfl
 ·rfl
theorem B69 (y:Stm):y.lets=(if y.kind=1 then [y.fr] else [])++(A0w y.thn++A0w y.els):=by cases y;rw[Stm.lets];rfl
theorem A75 (l:Li) (sc:List Li):A4q (l::sc)=l.op.toList++A4q sc:=by
 rw[A4q,List.filterMap_cons];cases l.op<;>rfl
structure Apart (sc:List Li) (y:Stm) (D:List Nat):Prop where
 rest:(A4q sc++D).Nodup
 thn:(A4q sc++A0w y.thn).Nodup
 els:(A4q sc++A0w y.els).Nodup
 out:y.kind=1->y.fr∉A4q sc
 next:y.kind=1->∀n lb,(A4q (sc++ [⟨n,lb,A50 y.opn y.fr⟩])++D).Nodup
theorem Apart.of {sc:List Li}{y:Stm}{D:List Nat} (h:(A4q sc++(y.lets++D)).Nodup):Apart sc y D:=by
 have e:=B69 y;have sT:(A0w y.thn).Sublist y.lets:=by
  rw[e];exact(A5H _ _).trans (A5G _ _)
 have sE:(A0w y.els).Sublist y.lets:=by
  rw[e];exact(A5G _ _).trans (A5G _ _)
 refine⟨h.sublist ((A3Q _).append (A5G _ _)),h.sublist ((A3Q _).append (sT.trans (A5H _ _))),
  h.sublist ((A3Q _).append (sE.trans (A5H _ _))),fun hk=>?_,fun hk n lb=>?_⟩
 ·intro hf
  rw[e,if_pos hk]at h;exact(A4M.1 h).2.2 _ hf _ (by simp) rfl
 ·rw[A9Z]
  refine h.sublist ?_
  rw[Z9];refine(A3Q _).append (List.Sublist.append ?_ (A3Q _))
  rw[e,if_pos hk];refine List.Sublist.trans ?_ (A5H _ _)
  show ((A50 y.opn y.fr).toList).Sublist [y.fr]
  rw[A50];split
  ·exact A3Q _
  ·exact List.nil_sublist _
end Go.Sp
namespace Go.Fw
open Go.Sp
open Go
def A9x (I:U0) (b:Nat) (es:A1b):Prop:=I b=some (.map (A1Q es 0).toArray es.length)
theorem A9x.le {I I':U0}{b:Nat}{es:A1b} (h:A9x I b es) (hl:Le I I'):A9x I' b es:=hl _ _ h
theorem Mem.freezeMZ {E:Ent}{I:U0}{H:List HItem}{w:World}{b:Nat}{es:A1b} (hm:Mem E I (.mz b es::H) w):∃I',Le I I'/\Mem E I' H w/\A9x I' b es:=by
 have hf:=hm.free _ Y1 b rfl;exact⟨I.add b (.map (A1Q es 0).toArray es.length),Le.add hf,hm.tl.freezeB (hm.ok _ Y1) hf (hm.born _ Y1 b rfl) (fun h hh e=>(A3o.1 hm.dist).1 h hh b rfl e),U0.add_self _ _ _⟩
theorem CalM.lend {P:Program}{f:FuncId}{args:Array Value}{I:U0}{B H:List HItem}{Post:Value->List HItem->Prop}{QJ:U0->Prop}
  (hJ:∀E w,Mem E I (B++H) w->∃J,Le I J/\Mem E J H w/\QJ J) (hc:∀J,Le I J->QJ J->CalM P f args J H (fun v _ H'=>Post v H')):
  CalM P f args I (B++H) (fun v _ H'=> ∃H'',H'=B++H''/\Post v H''):=by
 refine CalM.of fun w E hm=>?_
 obtain⟨J,hl,hmJ,hq⟩:=hJ E w hm;have hcr:=(hc J hl hq).run w ⟨Kept.refl _ _,Le.refl _,hmJ.inv,hmJ.ok,hmJ.free,fun x hx c hc=> .inl (by simp only[A10,A5P];exact⟨x,hx,hc⟩),hmJ.dist,fun _ _ h=> .inl h⟩;refine hcr.mono fun v w' ⟨J',H',hP,h2⟩=>⟨I,B++H',⟨H',rfl,hP⟩,?_⟩
 have h3:Mem E J' H' w':=by simpa using (Mem.back (R:= []) (by simpa using hmJ) h2)
 have hl':Le I J':=hl.trans h2.le;have hBH:∀x∈B,∀b,x.blk=some b->b∉A10 H:=fun x hx b hb hbl=>by
  obtain⟨k,hk,hkb⟩:=A6u hbl;exact(A17.1 hm.dist).2.2 x hx k hk b hb hkb
 refine⟨h3.kept,hm.le,fun c o hc=>h3.inv c o (hl' c o hc),fun x hx=>?_,fun x hx c hc=>?_,fun x hx c hc=>?_,A17.2 ⟨(A17.1 hm.dist).1,h3.dist,fun x hx y hy c hc hc'=>?_⟩,hm.grow⟩
 ·rcases A0T.1 hx with hx|hx
  ·exact(hm.ok x (A1p _ hx)).kept h2.kept (hBH x hx)
  ·exact h3.ok x hx
 ·rcases A0T.1 hx with hx|hx
  ·exact hm.free x (A1p _ hx) c hc
  ·have:=h3.free x hx c hc
   cases hI:I c with
   |none=>rfl
   |some o=>rw[hl' c o hI]at this;cases this
 ·rcases A0T.1 hx with hx|hx
  ·exact hm.born x (A1p _ hx) c hc
  ·exact h3.born x hx c hc
 ·have hlt:=(hm.ok x (A1p _ hx)).lt hc
  rcases h2.born y hy c hc' with h|h
  ·exact hBH x hx c hc h
  ·exact absurd hlt (Nat.not_lt.2 h)
section
variable {P:Program}{N:Nat}{ds:List Deferred}{Q:Exit->Act->World->Prop}{K:Act->World->Prop}{KV:Act->Prop}{l:Log}{w w0:World}{ops:Array Oper}{os tail:List Oper}{X:List Nat}
variable {d:Nat}{ty:TypeId}{pos:String}{af:Array Edge}{g:Option (Nat×Bool)}{t:TypeId}{x y:Operand}{E:Ent}{I I0:U0}{H G R:List HItem}{n f:Nat}{listed:Array Bool}
theorem B05 {i off:Nat} [Fld P t i off] {b o':Nat} (hC:Kept X w0 w) (hw:O8 ops l ⟨some d,.fieldAddr t x i,ty,pos,af,g⟩=some true) (hN:Nat.blt d N=true)
  (hx:ev l x=some (.pointer (some ⟨b,o',none⟩))) (k:WA P N ds ops Q X w0 n f listed tail ((d,.pointer (some ⟨b,o'+off,none⟩))::l) w):
  WU P N ds ops Q X w0 n f listed tail ⟨some d,.fieldAddr t x i,ty,pos,af,g⟩ l w:=
 A4Z rfl hw hN (fun a ha=>by
  obtain⟨fs,f,inf,h1,h2,h3,h4,h5⟩:=Fld.out (P:=P) (t:=t) (i:=i);have h6:=run_underlying (P:=P) (w:=w) h1;simp[execOp,Instr.fieldAt,Instr.sureAddr,ha.ev hx,h6,h2,fieldPlace,sizeOf,typeInfo,h4,h5,h3,Addr.add_lit]) hC k
theorem B2F {p:Addr} (hC:Kept X w0 w) (hw:O8 ops l ⟨some d,.nilCheck x,ty,pos,af,g⟩=some true) (hN:Nat.blt d N=true)
  (hx:ev l x=some (.pointer (some p))) (k:WA P N ds ops Q X w0 n f listed tail ((d,.pointer (some p))::l) w):WU P N ds ops Q X w0 n f listed tail ⟨some d,.nilCheck x,ty,pos,af,g⟩ l w:=
 A4Z rfl hw hN (fun c hc=>by simp[execOp,hc.ev hx]) hC k
theorem B5e [TyOne P t] {a:Act} (ha:Fits N ds l a) {b off:Nat}{c:Array Value}{e:TypeId}{fr:Nat×Nat}{v:Value} (hx:ev l x=some (.pointer (some ⟨b,off,none⟩))) (hb:w.heap[b]?=some (.cells c e fr)) (hc:c[off]?=some v):
  (execOp a.eval ⟨some d,.load t x,ty,pos,af,g⟩).run P w=.ok (.value v) w:=by
 obtain⟨dd,h1,h2⟩:=TyOne.out (P:=P) (t:=t);have h4:=A2Z hb hc;simp[execOp,Instr.loadAt,Instr.sureAddr,loadVar,A23 h1,h2,ha.ev hx,load,Sem.run,h4]
theorem B3f [TyOne P t] {i b off m cp sz:Nat}{e:TypeId}{xs:List Value}{v:Value} (hm:Mem ⟨w0,X,I0⟩ I H w) (hw:O8 ops l ⟨some d,.load t x,ty,pos,af,g⟩=some true) (hN:Nat.blt d N=true)
  (hx:ev l x=some (.pointer (some ⟨b,off,none⟩))) (hb:H[i]?=some (.row (.slice (some ⟨b,0,none⟩) m cp) e sz m xs)) (hc:xs[off]?=some v)
  (k:WA P N ds ops Q X w0 n f listed tail ((d,v)::l) w):WU P N ds ops Q X w0 n f listed tail ⟨some d,.load t x,ty,pos,af,g⟩ l w:=by
 obtain⟨c,fr,h1,h2⟩:=Mem.rowCell (hm.ok _ (A0s hb)) hc;exact A4Z rfl hw hN (fun a ha=>B5e ha hx h1 h2) hm.kept k
theorem B43 {i b off by_:Nat} [Elem P t 1 by_] {c:List Value}{e:TypeId}{v:Value}{dst:Option Nat} (hm:Mem ⟨w0,X,I0⟩ I H w) (hd:dst=none) (hw:O8 ops l ⟨dst,.store t x y,ty,pos,af,g⟩=some true)
  (hx:ev l x=some (.pointer (some ⟨b,off,none⟩))) (hy:ev l y=some v) (hb:H[i]?=some (.obj b (.cells c.toArray e (0,0)))) (hn:v.cells.toList= [v]) (ho:Nat.blt off c.length=true) (h1:v.oneCell'=true)
  (k:∀w',Mem ⟨w0,X,I0⟩ I (H.set i (.obj b (.cells (c.set off v).toArray e (0,0)))) w'->WA P N ds ops Q X w0 n f listed tail l w'):
  WU P N ds ops Q X w0 n f listed tail ⟨dst,.store t x y,ty,pos,af,g⟩ l w:=by
 subst hd;have hget:=hm.get hb;have hlt:off<c.length:=by simpa[A1x] using ho
 have h2:=A56 (P:=P) (t:=t) (off:=off) (n:=1) v hget (by rw[<-A3M,hn];rfl) (by simp;omega) (by rw[hn];simp[h1]);generalize hc':(c.toArray.toList.take off++v.cells.toList++c.toArray.toList.drop (off+1)).toArray=c' at h2;have e0:c'=(c.set off v).toArray:=by
  rw[<-hc',hn, <-B4k ho,Z9]
 rw[e0]at h2;have hk:Kept [b] w (w.setRow b (c.set off v).toArray):=Kept.setRow hget _;have hm':=hm.turn (h':=.obj b (.cells (c.set off v).toArray e (0,0))) hb (by simpa[HItem.blk] using hk) (by
  show (w.setRow b (c.set off v).toArray).heap[b]?=_
  rw[setRow_heap w b c.toArray _ e (0,0) hget]) (.inl rfl)
 refine B06 rfl hw (fun a ha=>?_) hm'.kept (k _ hm')
 simp only[execOp,Instr.storeAt,Instr.sureAddr,ha.ev hx,ha.ev hy,Sem.run_bind,Sem.run_pure,Result.andThen,h2]
theorem B12 {by_:Nat} [Elem P t 1 by_] {b off m cap sz:Nat}{e:TypeId}{xs:List Value}{v:Value}{dst:Option Nat} (hm:Mem ⟨w0,X,I0⟩ I (.row (.slice (some ⟨b,0,none⟩) m cap) e sz m xs::H) w) (hd:dst=none) (hw:O8 ops l ⟨dst,.store t x y,ty,pos,af,g⟩=some true)
  (hx:ev l x=some (.pointer (some ⟨b,off,none⟩))) (hy:ev l y=some v) (hn1:v.cells.toList= [v]) (h1:v.oneCell'=true) (ho:off<xs.length)
  (k:∀w',Mem ⟨w0,X,I0⟩ I (.row (.slice (some ⟨b,0,none⟩) m cap) e sz m (xs.set off v)::H) w'->WA P N ds ops Q X w0 n f listed tail l w'):
  WU P N ds ops Q X w0 n f listed tail ⟨dst,.store t x y,ty,pos,af,g⟩ l w:=by
 have h0:=hm.rowLen;rcases A3P m with hn|hn
 ·subst hn;rw[A09]at h0;omega
 obtain⟨b',cp,cur,hv,hm2,hcp,hcm,hs,ht⟩:=hm.openRow hn;injection hv with e1 _ e3
 injection e1 with e1
 injection e1 with e1
 subst e1;subst e3;obtain⟨cL,rfl⟩:∃cL:List Value,cur=cL.toArray:=⟨cur.toList,by simp⟩;have hs':cL.length=cap *sz:=by simpa using hs
 have ht':cL.take (m *sz)=xs:=by simpa using ht
 have hle:m *sz<=cap *sz:=A3K _ hcp;refine B43 (i:=0) hm2 hd hw hx hy rfl hn1 (by rw[A1x];omega) h1 (fun w2 hm3=>k w2 ?_)
 have hm4:Mem ⟨w0,X,I0⟩ I (.obj b (.cells (cL.set off v).toArray e (0,0))::H) w2:=hm3;exact hm4.shutRow hcp hcm (by simpa using hs') (by simp only;rw[List.take_set,ht'])
theorem B27 {kt et:TypeId} [TyMap P t kt et] [TyInt P kt .i64] {b:Nat}{es:A1b}{s:Int}{zv:Value} (hm:Mem ⟨w0,X,I0⟩ I H w) (hb:A9x I b es) (hw:O8 ops l ⟨some d,.lookup t x y false,ty,pos,af,g⟩=some true) (hN:Nat.blt d N=true)
  (hx:ev l x=some (.map (some b))) (hy:ev l y=some (A5e s)) (hz:∀w,(zeroValue et).run P w=.ok zv w)
  (k:WA P N ds ops Q X w0 n f listed tail ((d,A73 es s zv)::l) w):WU P N ds ops Q X w0 n f listed tail ⟨some d,.lookup t x y false,ty,pos,af,g⟩ l w:=
 A4Z rfl hw hN (fun _ ha=>A6B ha hx hy (hm.inv _ _ hb) hz) hm.kept k
end
end Go.Fw
namespace Go.Fw
open Go.Sp
theorem pmO {x y:HItem}{A B C:List HItem}:((B++(A++ []))++(x::y::C)).Perm (x::y::(C++(A++B))):=by
 rw[A18];have h1:((B++A)++(x::y::C)).Perm ((x::y::C)++(B++A)):=A1o;have h2:((x::y::C)++(B++A)).Perm ((x::y::C)++(A++B)):=(A1o (l₁:=B) (l₂:=A)).append_left _;exact h1.trans h2
end Go.Fw
namespace Go.Sp
theorem A5l (o:Lab) (l:List Stm):A0C o l=l.map (A3e o):=by
 induction l with
 |nil=>rw[A0C];rfl
 |cons x l ih=>rw[A0C,ih];rfl
theorem A3t (o:Lab) (l:List Stm):(A0C o l).length=l.length:=by rw[A5l,A3S]
theorem B4E (o:Lab) (l r:List Stm):A0C o (l++r)=A0C o l++A0C o r:=by rw[A5l,A5l,A5l,A1I]
theorem B5J {α:Type}{l:List α}{k:Nat}{x:α} (h:l[k]?=some x):l.drop k=x::l.drop (k+1):=by
 obtain⟨hk,e⟩:=Z8.1 h;rw[<-e];exact List.drop_eq_getElem_cons hk
def B28 (o:Lab) (y:Stm):Nat:=if y.kind=1/\y.opn=true then o y.fr else y.label
def B3k (y:Stm):Bool:=if y.kind=1 then false else y.opn
theorem B5R (o:Lab) (y:Stm):A3e o y=.mk y.kind y.name y.at_ (B28 o y) (B3k y) y.e (A0C o y.thn) (A0C o y.els) y.fr y.to:=by cases y;rw[A3e];rfl
end Go.Sp
namespace Go.Proofs
open Go.Proofs.Tryz
open Go.Sp
open Go.Fw
theorem B2P {o:Sp.Lab}{f n:Nat}:∀ {sc:List Loc},f∉A4q (sc.map (·.1))->sc.flatMap (A27 (Sp.upL o f n))=sc.flatMap (A27 o)
 | [],_=>rfl
 |p::sc,h=>by
  rw[Y2,A75]at h;have h1:p.1.op≠some f:=fun e=>h (by rw[e];exact A1p _ Y1)
  rw[A0n,A0n,B2P (fun hf=>h (A1E _ hf))];show [str p.1.name,nt (p.1.val _),p.2]++_=_
  rw[B6J h1]
theorem B4B {p:Sp.LP}{op:Option Nat}{a:Nat}{sc:List Loc} (h:∀f,op=some f->f∉A4q (sc.map (·.1))):sc.flatMap (A27 (A2W p op a).1)=sc.flatMap (A27 p.1):=by
 cases op with
 |none=>rfl
 |some f=>
  show sc.flatMap (A27 (A2k p f a).1)=_
  rw[A88,B2P (h f rfl)]
theorem B31 {o:Sp.Lab}{f n:Nat}:∀ {sc:List Loc}{i:Nat}{p:Loc},sc[i]?=some p->p.1.op=some f->(A4q (sc.map (·.1))).Nodup->(sc.flatMap (A27 o)).set (i *3+1) (nt n)=sc.flatMap (A27 (Sp.upL o f n))
 | [],i,p,h,_,_=>by simp at h
 |q::sc,0,p,h,hop,hn=>by
  simp only[A0S,U5]at h;subst h;rw[Y2,A75,hop]at hn;have h1:f∉A4q (sc.map (·.1)):=(A4O.1 hn).1;rw[A0n,A0n,B2P h1];have e:q.1.val (Sp.upL o f n)=n:=by
   rw[Sp.Li.val,hop];show (if f=f then n else o f)=n
   rw[if_pos rfl]
  show _= [str q.1.name,nt (q.1.val _),q.2]++_
  rw[e];rfl
 |q::sc,i+1,p,h,hop,hn=>by
  rw[A0E]at h;rw[Y2,A75]at hn;have hf:f∈A4q (sc.map (·.1)):=B2a (A3O (f:=(·.1)) (A0s h)) hop;have h1:q.1.op≠some f:=fun e=>by
   rw[e]at hn;exact(A4O.1 hn).1 hf
  have ih:=B31 (o:=o) (n:=n) h hop (A4M.1 hn).2.1;rw[A0n,A0n, <-ih,show (i+1) *3+1=i *3+1+3 by omega];have e:A27 (Sp.upL o f n) q=A27 o q:=by
   show [str q.1.name,nt (q.1.val _),q.2]=_
   rw[B6J h1]
  rw[e];rfl
theorem B0p (o:Sp.Lab):∀(sc:List Loc),(sc.flatMap (A27 o)).length=sc.length *3
 | []=>rfl
 |p::sc=>by
  have ih:=B0p o sc;rw[A0n,Y4,ih];show 3+sc.length *3=(sc.length+1) *3
  omega
theorem B6x {I:U0}{x:Sp.Stm}{b o tc ec:Nat}{ea:Option Addr}{v1 v2:Value} (hp:PtrI I b o tc (A2M x.kind x.name x.at_ x.label x.opn x.e ea ec v1 v2 x.fr x.to)):PtrI I b (o+5) tc (A0G x.e ea ec):=
 hp.sub (cs':=A0G x.e ea ec) 5 (fun j u hj=>by
  match j,hj with
  |0,hj=>exact hj
  |1,hj=>exact hj
  |2,hj=>exact hj
  |3,hj=>exact hj
  |4,hj=>exact hj
  |5,hj=>exact hj
  |j+6,hj=>cases hj)
theorem _root_.Go.Fw.pmIc {r c f m:HItem}: [r,c,f,m].Perm [c,f,r,m]:=A1o (l₁:= [r]) (l₂:= [c,f])|>.append_right [m]
structure InX where
 k:Nat
 I:U0
 sc:List Loc
 p:Sp.LP
 sa:Option Addr
 sp:Nat
 zs:A1b
section
variable {bd bf bo:Nat}{its:List Sp.Itm}{a:Option Addr}{cp:Nat}{xs:List Value}
theorem B65 (hlab:A2o its):∀(n:Nat) (l:List Sp.Stm),SizeOf.sizeOf l<=n->l.length<=64->W9 l->V5 A7Q A7Z l->∀(I:U0) (ab:Option Addr) (cb:Nat) (xb:List Value) (sc:List Loc) (un:Nat) (p:Sp.LP) (sa:Option Addr) (sp:Nat) (zs:A1b),
  un<256->Sp.okL p->B0G (sc.map (·.1))->sc.length+P6 l<=1000000000->(A4q (sc.map (·.1))++A0w l).Nodup->(∀q∈sc,B4y I q.2 q.1.op)->OpenZ zs p.1->
  FE I its a cp xs->PtrI I bf 0 25 [.slice a its.length cp]->RowI I 109 15 (.slice ab l.length cb) l.length xb->U8 I l xb->
  CalM prog 46 #[ptr bd,.slice ab l.length cb,nt un] I (A60 bd bf sc p.1 p.2 sa sp bo zs) (fun v _ H'=>v=.tuple #[]/\∃sa' sp' zs',OpenZ zs' (A1l its l (sc.map (·.1)) un p).2.1/\
   H'=A60 bd bf sc (A1l its l (sc.map (·.1)) un p).2.1 (A1l its l (sc.map (·.1)) un p).2.2 sa' sp' bo zs'):=by
 intro n;induction n with
 |zero=>intro l h;cases l<;>simp at h
 |succ n ih=>
 intro l hsz hll hsm hall I ab cb xb sc un p sa sp zs hun hok0 hos0 hn hnd0 hat0 hz0 hfe hpf hr hx;refine CalM.of fun w E hm=>enter (N:=147) func46 rfl [(0,ptr bd),(1,.slice ab l.length cb),(2,nt un)] A6f rfl ?_
 repeat' (first|refine H8 ?_ hm|refine D8 ?_|refine D5 ?_|refine G8 ?_|refine E5 ?_|refine C9 ?_|refine D9 ?_|refine A7 ?_|refine E8 ?_|refine A8 ?_|refine F5 ?_)
 refine X7 (fun x:InX=> [(0,ptr bd),(1,.slice ab l.length cb),(2,nt un),(6,nt sc.length),(18,nt l.length),(19,nt x.k)])
  (fun x w'=>Mem E x.I (A60 bd bf x.sc x.p.1 x.p.2 x.sa x.sp bo x.zs) w'/\Le I x.I/\x.k<=l.length/\A1l its (l.take x.k) (sc.map (·.1)) un p=(x.sc.map (·.1),x.p)/\(∃r,x.sc=sc++r)/\x.sc.length<=sc.length+P6 (l.take x.k)/\
   (A4q (x.sc.map (·.1))++A0w (l.drop x.k)).Nodup/\(∀q∈x.sc,B4y x.I q.2 q.1.op)/\OpenZ x.zs x.p.1) (fun x=>l.length-x.k) ⟨0,I,sc,p,sa,sp,zs⟩
  (by exact⟨rfl,rfl,rfl,rfl,rfl,rfl,trivial⟩) ⟨hm,Le.refl _,J7 _,by dsimp only;rw[A07,A1l],⟨[],(A18 _).symm⟩,Nat.le_add_right _ _,by dsimp only;rw[A2a];exact hnd0,hat0,hz0⟩ ?_
 clear hm hnd0 hat0 hz0;rintro⟨k,I1,sc1,p1,sa1,sp1,zs1⟩ w1 ⟨hm,hle1,hk,hinv,⟨rr,hrr⟩,hscl,hnd,hats,hz⟩;dsimp only at hm hle1 hk hinv hrr hscl hnd hats hz |-;have hok:=A4V hlab (l.take k) (A59 k hall) hok0 hos0 hun;rw[hinv]at hok;obtain⟨hokp,hoks⟩:=hok;dsimp only at hokp hoks;by_cases hlt:k<l.length
 ·have hg:l[k]?=some l[k]:=G9 hlt
  have hme:=A3U (Q8 hlt);obtain⟨cs,hcs⟩:∃cs,(xb.drop (k *15)).take 15=cs:=⟨_,rfl⟩;have hat:=hx.get hg;rw[hcs]at hat
  have hsm2:=A1N hsm hg;have hal2:=A46 hall hg;rw[List.drop_eq_getElem_cons hlt,A0w]at hnd;generalize l[k]=y at hg hme hat hsm2 hal2 hnd;have hst:=B3A its hg (sc.map (·.1)) un p;have hcy:=A6l hg;rw[hinv,B7w]at hst;dsimp only at hst;have hap:=Sp.Apart.of hnd;obtain⟨s1,s2,s3,s4,s5⟩:=A15 hsm2;obtain⟨n1,n2,n3,n4⟩:=Sp.Stm.all_node hal2;obtain⟨z1,z2⟩:=A4T (s:=y);have hcnt:=Sp.Stm.cnt_eq y;have hcs1:P6 (l.take (k+1))=P6 (l.take k)+y.cnt:=by rw[X0 hg,A2q,A4c]
  obtain⟨ea,ec,ex,a1',c1,xs1,a2',c2,xs2,rfl,hr3,hx3,hr4,hx4,hr5,hx5⟩:=hat.out;have hrow:=hr.le hle1;have hfe1:=hfe.le hle1;have hpf1:=hpf.le hle1;have hsl:=A8Y hokp hoks;have hE:=fun (b3 o3:Nat) (hp3:PtrI I1 b3 o3 109 (A0G y.e ea ec))=>B8a (bd:=bd) (bf:=bf) (sc:=sc1) (o:=p1.1) (more:=p1.2) (sa:=sa1) (sp:=sp1) (bo:=bo) (zs:=zs1) hlab hsl (by omega) _ y.e (H6 _) s1 I1 b3 o3 109 ea ec ex hfe1 hpf1 hp3 (hr3.le hle1) (V7.le hle1 _ _ hx3)
  have hav0:=A3w hlab hsl y.e;generalize Sp.plainF its (A5F p1.1 (sc1.map (·.1))) y.e=a0 at hE hav0 hst;have hJ:=fun (J:U0)=>B52 J a0 un hav0 hun
  have hav:=A6W hav0 hun;generalize a0|||un=av at hJ hav hst
  repeat' (first|refine U3 (d:=24) ?_ (hr:=hrow);intro bt ot hpt;rw[show ((k:Int).toNat *15)=k *15 from rfl,hcs]at hpt|refine F6 (d:=29) ?_ hm (hp:=pm3_0) (hc:=hE bt (ot+5) (B6x hpt));clear hm;rintro _ I2 _ _ ⟨rfl,rfl⟩ hleI2 hm;try simp only[F7]at hm|refine P9 (d:=31) ?_ hm (hc:=hJ _);clear hm;intro _ hm|refine A25 6 ?_|refine D8 ?_|refine D5 ?_|refine O0 ?_|refine E5 ?_|refine C9 ?_|refine D9 ?_|refine A7 ?_|refine E8 ?_|refine A8 ?_|refine F5 ?_|refine F9 ?_|(refine D6 (ht:=fun _=>?_) (hf:=fun _=>?_)<;>try first|contradiction|omega))
  all_goals try omega
  have hpt2:=hpt.le hleI2;have hle2:=hle1.trans hleI2;refine⟨?_⟩
  by_cases k1:y.kind=1
  ·rw[if_pos k1]at hst
   have hR:=B0t (bd:=bd) (bf:=bf) (sc:=sc1) (o:=p1.1) (more:=p1.2) (sa:=sa1) (sp:=sp1) (bo:=bo) (zs:=zs1) I2 (.pointer (some ⟨bt,ot,none⟩)) (A50 y.opn y.fr) p1.1 av hav (.inr ⟨bt,ot,_,ec,y,ea,_,_,rfl,hpt2,rfl⟩) hz hokp;rw[show ((p1.1,p1.2):Sp.LP)=p1 from rfl]at hR;have henc:sc1.flatMap (A27 (A2W p1 (A50 y.opn y.fr) av).1)=sc1.flatMap (A27 p1.1):=B4B (fun f hf=>by
    rw[A50]at hf;split at hf
    ·cases hf;exact hap.out k1
    ·cases hf)
   have hnx:=hap.next k1 y.name y.label;generalize A2W p1 (A50 y.opn y.fr) av=q at hR henc hst;cases ho:y.opn with
   |true=>
    rw[ho]at hst hnx hpt2;repeat' (first|refine F6 (d:=41) ?_ hm (hp:=pm3_0) (hc:=hR);clear hm;rintro _ I3 _ _ ⟨rfl,zs3,hz3,rfl⟩ hleI3 hm;try simp only[F7]at hm;rw[<-henc]at hm;replace hpt2:=hpt2.le hleI3|refine A0K (id:=9) (hm.perm pm0) [0,1,2,3,4,5,6,7,8,9] [10] 11 (h:=?_);clear hm;intro wd hR hm|refine Q9 (id:=11) 9 (h:=?_)|refine A5Z (d:=64) hm (by rfl) (by rfl) (by rfl) (by rfl) gt3 A48 ?_;rw[hz3.get y.fr]|refine A0K (id:=12) (hm.perm pm1_2) [0,1,2,3,4,5] [6,7] 8 (h:=?_);clear hm;intro wd hR hm|refine A2V ?_ hR|refine A0g ?_ hR|refine A1u ?_ hR|refine A2j (d:=10) ?_ hm;clear hm;intro b10 _ hm|refine A2K (d:=73) ?_ hm;clear hm;intro a73 cp73 _ _ hm;replace hm:=hR.back hm;clear hR;try simp only[F7]at hm|refine A1m ?_;replace hm:=hR.back hm;clear hR;try simp only[F7]at hm|refine J4 ?_ hm|refine J8 ?_ hm|refine U1 ?_ hm|refine O4 ?_ hm;clear hm;intro _ hm;try simp only[F7]at hm|refine J6 hm (k:=?_);clear hm;intro _ hm;try simp only[F7]at hm|refine D8 ?_|refine D5 ?_|refine Q5 ?_|refine E5 ?_|refine Q4 ?_|refine C9 ?_|refine D9 ?_|refine A7 ?_|refine D7 ?_|refine E8 ?_|refine A8 ?_|refine F5 ?_|refine L9 ?_;intro _ hkq;replace hm:=hm.kept0 hkq;clear hkq|refine F8 ?_|(refine D6 (ht:=fun _=>?_) (hf:=fun _=>?_)<;>try first|contradiction|omega)|refine P5 ?_|refine J5 ?_|refine G6 ?_|refine A1V ?_|refine Z4 ?_|refine S9 ?_|refine A4X ?_|refine A08 ?_)
    all_goals try first|omega|contradiction
    refine N7 (⟨k+1,I3,sc1++ [(⟨y.name,y.label,A50 true y.fr⟩,.pointer (some ⟨bt,ot,none⟩))],q,a73,cp73,zs3⟩:InX) (by exact⟨rfl,rfl,rfl,rfl,rfl,rfl,trivial⟩)
     ⟨?_,hle2.trans hleI3,by dsimp only;omega,by dsimp only;rw[hst,A1I];rfl,⟨rr++ [_],by dsimp only;rw[hrr,Z9]⟩,by dsimp only;rw[Y4];show _+1<=_;omega,by dsimp only;rw[A1I];exact hnx,fun q' hq'=>?_,hz3⟩ (by dsimp only;omega)
    ·dsimp only[A60]
     rw[A0F,Y4];exact(hm.perm pmIc).tl
    ·rcases A0T.1 hq' with h|h
     ·exact((hats q' h).le hleI2).le hleI3
     ·obtain rfl:=A1R.1 h
      exact .inr ⟨bt,ot,_,ec,y,ea,_,_,rfl,by rw[ho];exact hpt2,by rw[ho]⟩
   |false=>
    rw[ho]at hst hnx hpt2;repeat' (first|refine F6 (d:=41) ?_ hm (hp:=pm3_0) (hc:=hR);clear hm;rintro _ I3 _ _ ⟨rfl,zs3,hz3,rfl⟩ hleI3 hm;try simp only[F7]at hm;rw[<-henc]at hm;replace hpt2:=hpt2.le hleI3|refine A0K (id:=9) (hm.perm pm0) [0,1,2,3,4,5,6,7,8,9] [10] 11 (h:=?_);clear hm;intro wd hR hm|refine A0K (id:=12) (hm.perm pm1_2) [0,1,2,3,4,5] [6,7] 8 (h:=?_);clear hm;intro wd hR hm|refine A2V ?_ hR|refine A0g ?_ hR|refine A1u ?_ hR|refine A2j (d:=10) ?_ hm;clear hm;intro b10 _ hm|refine A2K (d:=73) ?_ hm;clear hm;intro a73 cp73 _ _ hm;replace hm:=hR.back hm;clear hR;try simp only[F7]at hm|refine A1m ?_;replace hm:=hR.back hm;clear hR;try simp only[F7]at hm|refine J4 ?_ hm|refine O4 ?_ hm;clear hm;intro _ hm;try simp only[F7]at hm|refine J6 hm (k:=?_);clear hm;intro _ hm;try simp only[F7]at hm|refine D8 ?_|refine D5 ?_|refine Q5 ?_|refine E5 ?_|refine Q4 ?_|refine C9 ?_|refine D9 ?_|refine A7 ?_|refine D7 ?_|refine E8 ?_|refine A8 ?_|refine F5 ?_|refine F9 ?_|refine E9 ?_|(refine D6 (ht:=fun _=>?_) (hf:=fun _=>?_)<;>try first|contradiction|omega)|refine A1V ?_|refine Z4 ?_|refine S9 ?_|refine A4X ?_|refine A08 ?_)
    all_goals try first|omega|contradiction
    refine N7 (⟨k+1,I3,sc1++ [(⟨y.name,y.label,A50 false y.fr⟩,.pointer (some ⟨bt,ot,none⟩))],q,a73,cp73,zs3⟩:InX) (by exact⟨rfl,rfl,rfl,rfl,rfl,rfl,trivial⟩)
     ⟨?_,hle2.trans hleI3,by dsimp only;omega,by dsimp only;rw[hst,A1I];rfl,⟨rr++ [_],by dsimp only;rw[hrr,Z9]⟩,by dsimp only;rw[Y4];show _+1<=_;omega,by dsimp only;rw[A1I];exact hnx,fun q' hq'=>?_,hz3⟩ (by dsimp only;omega)
    ·dsimp only[A60]
     rw[A0F,Y4];exact(hm.perm pmIc).tl
    ·rcases A0T.1 hq' with h|h
     ·exact((hats q' h).le hleI2).le hleI3
     ·obtain rfl:=A1R.1 h
      exact .inr ⟨bt,ot,_,ec,y,ea,_,_,rfl,by rw[ho];exact hpt2,by rw[ho]⟩
  rw[if_neg k1]at hst;by_cases k2:y.kind=2
  ·rw[if_pos k2]at hst
   have hG:=B7L (bd:=bd) (bf:=bf) (sc:=sc1) (o:=p1.1) (more:=p1.2) (sa:=sa1) (sp:=sp1) (bo:=bo) (zs:=zs1) y.name I2 (by omega);repeat' (first|refine F6 (d:=83) ?_ hm (hp:=pm3_0) (hc:=hG);clear hm;rintro _ I3 _ w3 (⟨i,q,b2,hgi,hfl,hsa,rfl,rfl⟩|⟨hfl,bl,rfl,rfl⟩) hleI3 hm|refine A25 15 ?_|refine J4 ?_ hm|refine D8 ?_|refine D5 ?_|refine Q5 ?_|refine E5 ?_|refine C9 ?_|refine D9 ?_|refine A7 ?_|refine E8 ?_|refine A8 ?_|refine F5 ?_|(refine D6 (ht:=fun _=>?_) (hf:=fun _=>?_)<;>try first|contradiction|omega))
   all_goals try first|omega|contradiction
   ·subst hsa
    rw[B0V,hfl]at hst;dsimp only at hst;have hqm:=A0s hgi;have hA:=((hats q hqm).le hleI2).le hleI3;obtain⟨q1,q2,q3⟩:=A7u (o:=p1.1) hgi;have hR:=B0t (bd:=bd) (bf:=bf) (sc:=sc1) (o:=p1.1) (more:=p1.2) (sa:=some ⟨b2,0,none⟩) (sp:=sp1) (bo:=bo) (zs:=zs1) I3 q.2 q.1.op p1.1 av hav hA hz hokp;rw[show ((p1.1,p1.2):Sp.LP)=p1 from rfl]at hR;have hatn:=fun (J:U0) (m:Le I3 J) (q':Loc) (h:q'∈sc1)=>(((hats q' h).le hleI2).le hleI3).le m
    rcases hA with ⟨hv,hop⟩|⟨b9,o9,tc9,ec9,y9,ea9,v1,v2,hv,hp9,hop⟩
    ·rw[hop]at hR hst
     rw[show A2W p1 none av=p1 from rfl]at hR hst;rw[hv]at hR q3;refine⟨?_⟩
     repeat' (first|refine A1U (i:=1) (d:=88) hm (by rfl) (by rfl) (by rfl) gt1 (by exact q3) ?_|refine F6 (d:=90) ?_ hm (hp:=pm3_0) (hc:=hR);clear hm;rintro _ I4 _ _ ⟨rfl,zs4,hz4,rfl⟩ hleI4 hm;try simp only[F7]at hm|refine A1U (i:=1) (d:=94) hm (by rfl) (by rfl) (by rfl) gt1 (by exact q3) ?_|refine A3Z (e:=109) (by kernel_rfl) (by rfl) (by rfl) (by rfl) (by rfl) ?_|refine D8 ?_|refine J9 ?_|refine E5 ?_|refine Q4 ?_|refine C9 ?_|refine A0p ?_|refine D9 ?_|refine A7 ?_|refine D7 ?_|refine E8 ?_|refine A8 ?_|refine F9 ?_|refine E9 ?_)
     all_goals try first|omega|contradiction
     exact N7 (⟨k+1,I4,sc1,p1,some ⟨b2,0,none⟩,sp1,zs4⟩:InX) (by exact⟨rfl,rfl,rfl,rfl,rfl,rfl,trivial⟩)
      ⟨hm,(hle2.trans hleI3).trans hleI4,by dsimp only;omega,hst,⟨rr,hrr⟩,by dsimp only;omega,hap.rest,hatn I4 hleI4,hz4⟩ (by dsimp only;omega)
    ·rw[hv]at hR q3
     cases ho9:y9.opn with
     |false=>
      rw[ho9]at hop hp9;rw[hop]at hR hst;rw[show A2W p1 (A50 false y9.fr) av=p1 from rfl]at hR hst;refine⟨?_⟩
      repeat' (first|refine A1U (i:=1) (d:=88) hm (by rfl) (by rfl) (by rfl) gt1 (by exact q3) ?_|refine F6 (d:=90) ?_ hm (hp:=pm3_0) (hc:=hR);clear hm;rintro _ I4 _ _ ⟨rfl,zs4,hz4,rfl⟩ hleI4 hm;try simp only[F7]at hm;replace hp9:=hp9.le hleI4|refine A1U (i:=1) (d:=94) hm (by rfl) (by rfl) (by rfl) gt1 (by exact q3) ?_|refine A1U (i:=1) (d:=100) hm (by rfl) (by rfl) (by rfl) gt1 (by exact q3) ?_|refine A3Z (e:=109) (by kernel_rfl) (by rfl) (by rfl) (by rfl) (by rfl) ?_|refine J4 ?_ hm|refine D8 ?_|refine N9 ?_|refine E5 ?_|refine Q4 ?_|refine C9 ?_|refine D9 ?_|refine A7 ?_|refine D7 ?_|refine E8 ?_|refine A8 ?_|refine F9 ?_|refine E9 ?_)
      all_goals try first|omega|contradiction
      exact N7 (⟨k+1,I4,sc1,p1,some ⟨b2,0,none⟩,sp1,zs4⟩:InX) (by exact⟨rfl,rfl,rfl,rfl,rfl,rfl,trivial⟩)
       ⟨hm,(hle2.trans hleI3).trans hleI4,by dsimp only;omega,hst,⟨rr,hrr⟩,by dsimp only;omega,hap.rest,hatn I4 hleI4,hz4⟩ (by dsimp only;omega)
     |true=>
      rw[ho9]at hop hp9;rw[hop]at hR hst;rw[show A2W p1 (A50 true y9.fr) av=A2k p1 y9.fr av from rfl]at hR hst;have hset:(sc1.flatMap (A27 p1.1)).set (i *3+1) (nt ((A2k p1 y9.fr av).1 y9.fr))=sc1.flatMap (A27 (A2k p1 y9.fr av).1):=by
       rw[A88];have e:Sp.upL p1.1 y9.fr (p1.1 y9.fr|||av) y9.fr=p1.1 y9.fr|||av:=by
        show (if y9.fr=y9.fr then _ else _)=_
        rw[if_pos rfl]
       rw[e];exact B31 hgi hop (A4M.1 hap.rest).1
      have hil:i *3+1<(sc1.flatMap (A27 p1.1)).length:=by
       rw[B0p];have:=(Z8.1 hgi).1;omega
      generalize A2k p1 y9.fr av=q9 at hR hst hset;refine⟨?_⟩
      repeat' (first|refine A1U (i:=1) (d:=88) hm (by rfl) (by rfl) (by rfl) gt1 (by exact q3) ?_|refine F6 (d:=90) ?_ hm (hp:=pm3_0) (hc:=hR);clear hm;rintro _ I4 _ _ ⟨rfl,zs4,hz4,rfl⟩ hleI4 hm;try simp only[F7]at hm;replace hp9:=hp9.le hleI4|refine A1U (i:=1) (d:=94) hm (by rfl) (by rfl) (by rfl) gt1 (by exact q3) ?_|refine A1U (i:=1) (d:=100) hm (by rfl) (by rfl) (by rfl) gt1 (by exact q3) ?_|refine A3Z (e:=109) (by kernel_rfl) (by rfl) (by rfl) (by rfl) (by rfl) ?_|refine Q9 (id:=17) 13 (h:=?_)|refine B3e (i:=1) (d:=113) hm (by rfl) (by rfl) (by rfl) gt1 (by exact q3) ?_|refine A5Z (d:=117) hm (by rfl) (by rfl) (by rfl) (by rfl) gt2 A48 ?_;rw[hz4.get y9.fr]|refine B1V (i:=1) hm (by rfl) (by rfl) (by rfl) (by rfl) gt1 (by rfl) (by rfl) hil ?_;clear hm;intro _ hm;try simp only[F7]at hm;rw[hset]at hm|refine J4 ?_ hm|refine J8 ?_ hm|refine U1 ?_ hm|refine D8 ?_|refine N9 ?_|refine E5 ?_|refine Q4 ?_|refine C9 ?_|refine D9 ?_|refine A7 ?_|refine D7 ?_|refine E8 ?_|refine A8 ?_|refine L9 ?_;intro _ hkq;replace hm:=hm.kept0 hkq;clear hkq|refine F8 ?_|refine P5 ?_|refine J5 ?_|refine G6 ?_)
      all_goals try first|omega|contradiction
      exact N7 (⟨k+1,I4,sc1,q9,some ⟨b2,0,none⟩,sp1,zs4⟩:InX) (by exact⟨rfl,rfl,rfl,rfl,rfl,rfl,trivial⟩)
       ⟨hm,(hle2.trans hleI3).trans hleI4,by dsimp only;omega,hst,⟨rr,hrr⟩,by dsimp only;omega,hap.rest,hatn I4 hleI4,hz4⟩ (by dsimp only;omega)
   ·rw[B0V,hfl]at hst
    dsimp only at hst;have hR:=B0t (bd:=bd) (bf:=bf) (sc:=sc1) (o:=p1.1) (more:=p1.2) (sa:=sa1) (sp:=sp1) (bo:=bo) (zs:=zs1) I3 (.pointer none) none p1.1 av hav (.inl ⟨rfl,rfl⟩) hz hokp;rw[show ((p1.1,p1.2):Sp.LP)=p1 from rfl,show A2W p1 none av=p1 from rfl]at hR;refine⟨?_⟩
    repeat' (first|refine F6 (d:=90) ?_ hm (hp:=pm3_1) (hc:=hR);clear hm;rintro _ I4 _ _ ⟨rfl,zs4,hz4,rfl⟩ hleI4 hm;try simp only[F7]at hm|refine A3Z (e:=109) (by kernel_rfl) (by rfl) (by rfl) (by rfl) (by rfl) ?_|refine H8 ?_ hm|refine D8 ?_|refine J9 ?_|refine E5 ?_|refine Q4 ?_|refine C9 ?_|refine A0p ?_|refine D9 ?_|refine A7 ?_|refine D7 ?_|refine E8 ?_|refine A8 ?_|refine F9 ?_|refine E9 ?_)
    all_goals try first|omega|contradiction
    exact N7 (⟨k+1,I4,sc1,p1,sa1,sp1,zs4⟩:InX) (by exact⟨rfl,rfl,rfl,rfl,rfl,rfl,trivial⟩)
     ⟨hm.left (H:= [_,_,_]),(hle2.trans hleI3).trans hleI4,by dsimp only;omega,hst,⟨rr,hrr⟩,by dsimp only;omega,hap.rest,fun q' h=>(((hats q' h).le hleI2).le hleI3).le hleI4,hz4⟩ (by dsimp only;omega)
  rw[if_neg k2]at hst;by_cases k34:y.kind=3\/y.kind=4
  ·rw[if_pos k34]at hst
   have hT:=ih y.thn (by omega) s2 s3 n3 I2 a1' c1 xs1 sc1 av p1 sa1 sp1 zs1 hav hokp hoks (by omega) hap.thn (fun q' h=>(hats q' h).le hleI2) hz (hfe1.le hleI2) (hpf1.le hleI2) ((hr4.le hle1).le hleI2) (U8.le hleI2 _ _ (U8.le hle1 _ _ hx4));have hokT:=A4V hlab y.thn n3 hokp hoks hav;generalize (A1l its y.thn (sc1.map (·.1)) av p1).2=q3 at hT hokT hst;have hE2:=fun (J:U0) (m:Le I2 J) (sa:Option Addr) (sp:Nat) (zs:A1b) (hzz:OpenZ zs q3.1)=>ih y.els (by omega) s4 s5 n4 J a2' c2 xs2 sc1 av q3 sa sp zs hav hokT.1 hoks (by omega) hap.els (fun q' h=>((hats q' h).le hleI2).le m) hzz ((hfe1.le hleI2).le m) ((hpf1.le hleI2).le m) (((hr5.le hle1).le hleI2).le m) (U8.le m _ _ (U8.le hleI2 _ _ (U8.le hle1 _ _ hx5)))
   generalize (A1l its y.els (sc1.map (·.1)) av q3).2=q4 at hE2 hst;repeat' (first|refine F6 (d:=129) ?_ hm (hp:=pm3_0) (hc:=hT);clear hm;rintro _ I3 _ _ ⟨rfl,sa3,sp3,zs3,hz3,rfl⟩ hleI3 hm;try simp only[F7]at hm;replace hpt2:=hpt2.le hleI3|refine F6 (d:=136) ?_ hm (hp:=pm3_0) (hc:=hE2 I3 hleI3 sa3 sp3 zs3 hz3);clear hm;rintro _ I4 _ _ ⟨rfl,sa4,sp4,zs4,hz4,rfl⟩ hleI4 hm;try simp only[F7]at hm|refine J4 ?_ hm|refine D8 ?_|refine D5 ?_|refine Q5 ?_|refine E5 ?_|refine Q4 ?_|refine C9 ?_|refine D9 ?_|refine A7 ?_|refine D7 ?_|refine E8 ?_|refine A8 ?_|refine F5 ?_|refine F9 ?_|(refine D6 (ht:=fun _=>?_) (hf:=fun _=>?_)<;>try first|contradiction|omega))
   all_goals try first|omega|contradiction
   all_goals exact N7 (⟨k+1,I4,sc1,q4,sa4,sp4,zs4⟩:InX) (by exact⟨rfl,rfl,rfl,rfl,rfl,rfl,trivial⟩) ⟨hm,(hle2.trans hleI3).trans hleI4,by dsimp only;omega,hst,⟨rr,hrr⟩,by dsimp only;omega,hap.rest,fun q' h=>(((hats q' h).le hleI2).le hleI3).le hleI4,hz4⟩ (by dsimp only;omega)
  ·rw[if_neg k34]at hst
   repeat' (first|refine J4 ?_ hm|refine D8 ?_|refine D5 ?_|refine Q5 ?_|refine E5 ?_|refine Q4 ?_|refine C9 ?_|refine D9 ?_|refine A7 ?_|refine D7 ?_|refine E8 ?_|refine A8 ?_|refine F5 ?_|refine F9 ?_|(refine D6 (ht:=fun _=>?_) (hf:=fun _=>?_)<;>try first|contradiction|omega))
   all_goals try first|omega|contradiction
   exact N7 (⟨k+1,I2,sc1,p1,sa1,sp1,zs1⟩:InX) (by exact⟨rfl,rfl,rfl,rfl,rfl,rfl,trivial⟩)
    ⟨hm,hle2,by dsimp only;omega,hst,⟨rr,hrr⟩,by dsimp only;omega,hap.rest,fun q' h=>(hats q' h).le hleI2,hz⟩ (by dsimp only;omega)
 ·obtain rfl:k=l.length:=by omega
  rw[A0b]at hinv;rw[hinv];have hpl:sc.length<=sc1.length:=by rw[hrr,Y4];omega
  have htk:(sc1.flatMap (A27 p1.1)).take (sc.length *3)=sc.flatMap (A27 p1.1):=by
   rw[hrr,A0F, <-B0p p1.1 sc,List.take_left]
  repeat' (first|refine A71 (d:=144) ?_ hm (hmn:=hpl);clear hm;intro hm;try simp only[F7]at hm|refine H8 ?_ hm|refine J6 hm (k:=?_);clear hm;intro _ hm;try simp only[F7]at hm|refine D8 ?_|refine O0 ?_|refine E5 ?_|refine C9 ?_|refine D9 ?_|refine A7 ?_|refine G7 ?_|refine G5 ?_|refine E8 ?_|refine A8 ?_|refine O7 ?_|refine A0f ?_|(refine D6 (ht:=fun _=>?_) (hf:=fun _=>?_)<;>try first|contradiction|omega))
  all_goals try omega
  rw[htk]at hm;exact⟨I1,_,⟨rfl,sa1,sp1,zs1,hz,rfl⟩,hm⟩
end
mutual
def StO (I:U0):Sp.Stm->List Value->List HItem->Prop
 | .mk k nm a lb o e thn els f t,cs,H=> ∃ea ec ex a1 c1 a2 c2 xs1 xs2 H1 H2,cs=A2M k nm a lb o e ea ec (.slice a1 thn.length c1) (.slice a2 els.length c2) f t/\
  RowI I 107 6 (.slice ea e.args.length ec) e.args.length ex/\V7 I e.args ex/\
  H=(.row (.slice a1 thn.length c1) 109 15 thn.length xs1::H1)++(.row (.slice a2 els.length c2) 109 15 els.length xs2::H2)/\A00 I thn xs1 H1/\A00 I els xs2 H2
def A00 (I:U0):List Sp.Stm->List Value->List HItem->Prop
 | [],xs,H=>xs= []/\H= []
 |s::l,xs,H=> ∃c r H1 H2,xs=c++r/\H=H1++H2/\StO I s c H1/\A00 I l r H2
 end
def A6o (I:U0) (l:List Sp.Stm) (a:Option Addr) (c:Nat) (H:List HItem):Prop:= ∃xs Hs,H=.row (.slice a l.length c) 109 15 l.length xs::Hs/\A00 I l xs Hs
mutual
theorem StO.le {I J:U0} (m:Le I J):∀(s:Sp.Stm) (cs:List Value) (H:List HItem),StO I s cs H->StO J s cs H
 | .mk k nm a lb o e thn els f t,cs,H,h=>by
  rw[StO]at h |-;obtain⟨ea,ec,ex,a1,c1,a2,c2,xs1,xs2,H1,H2,h1,h2,h3,h4,h5,h6⟩:=h;exact⟨ea,ec,ex,a1,c1,a2,c2,xs1,xs2,H1,H2,h1,h2.le m,V7.le m _ _ h3,h4,A00.le m _ _ _ h5,A00.le m _ _ _ h6⟩
theorem A00.le {I J:U0} (m:Le I J):∀(l:List Sp.Stm) (xs:List Value) (H:List HItem),A00 I l xs H->A00 J l xs H
 | [],xs,H,h=>by rw[A00]at h |-;exact h
 |s::l,xs,H,h=>by
  rw[A00]at h |-;obtain⟨c,r,H1,H2,h1,h2,h3,h4⟩:=h;exact⟨c,r,H1,H2,h1,h2,StO.le m _ _ _ h3,A00.le m _ _ _ h4⟩
 end
theorem A6o.le {I J:U0} (m:Le I J) {l:List Sp.Stm}{a:Option Addr}{c:Nat}{H:List HItem} (h:A6o I l a c H):A6o J l a c H:=by
 obtain⟨xs,Hs,h1,h2⟩:=h;exact⟨xs,Hs,h1,A00.le m _ _ _ h2⟩
theorem StO.out {I:U0}{s:Sp.Stm}{cs:List Value}{H:List HItem} (h:StO I s cs H):∃ea ec ex a1 c1 a2 c2 H1 H2,cs=A2M s.kind s.name s.at_ s.label s.opn s.e ea ec (.slice a1 s.thn.length c1) (.slice a2 s.els.length c2) s.fr s.to/\
  RowI I 107 6 (.slice ea s.e.args.length ec) s.e.args.length ex/\V7 I s.e.args ex/\H=H1++H2/\A6o I s.thn a1 c1 H1/\A6o I s.els a2 c2 H2:=by
 cases s with
 |mk k nm a lb o e thn els f t=>
  rw[StO]at h;obtain⟨ea,ec,ex,a1,c1,a2,c2,xs1,xs2,H1,H2,h1,h2,h3,h4,h5,h6⟩:=h;exact⟨ea,ec,ex,a1,c1,a2,c2,_,_,h1,h2,h3,h4,⟨xs1,H1,rfl,h5⟩,⟨xs2,H2,rfl,h6⟩⟩
theorem StO.of {I:U0}{k a lb f t ec c1 c2:Nat}{nm:List UInt8}{o:Bool}{e:Sp.Ex}{thn els:List Sp.Stm}{ea a1 a2:Option Addr}{ex:List Value}{H1 H2:List HItem}
  (h2:RowI I 107 6 (.slice ea e.args.length ec) e.args.length ex) (h3:V7 I e.args ex) (h5:A6o I thn a1 c1 H1) (h6:A6o I els a2 c2 H2):
  StO I (.mk k nm a lb o e thn els f t) (A2M k nm a lb o e ea ec (.slice a1 thn.length c1) (.slice a2 els.length c2) f t) (H1++H2):=by
 obtain⟨xs1,G1,e1,g1⟩:=h5;obtain⟨xs2,G2,e2,g2⟩:=h6;rw[StO];exact⟨ea,ec,ex,a1,c1,a2,c2,xs1,xs2,G1,G2,rfl,h2,h3,by rw[e1,e2],g1,g2⟩
theorem B5j {I:U0}{s:Sp.Stm}{ea a1 a2:Option Addr}{ec c1 c2:Nat}{ex:List Value}{H1 H2:List HItem}
  (h2:RowI I 107 6 (.slice ea s.e.args.length ec) s.e.args.length ex) (h3:V7 I s.e.args ex) (h5:A6o I s.thn a1 c1 H1) (h6:A6o I s.els a2 c2 H2):
  StO I s (A2M s.kind s.name s.at_ s.label s.opn s.e ea ec (.slice a1 s.thn.length c1) (.slice a2 s.els.length c2) s.fr s.to) (H1++H2):=by
 cases s with
 |mk k n a l o e t x f u=>exact .of h2 h3 h5 h6
theorem StO.len {I:U0}{s:Sp.Stm}{cs:List Value}{H:List HItem} (h:StO I s cs H):cs.length=15:=by
 obtain⟨_,_,_,_,_,_,_,_,_,rfl,_⟩:=h.out;rfl
theorem A00.len {I:U0}:∀ {l:List Sp.Stm}{xs:List Value}{H:List HItem},A00 I l xs H->xs.length=l.length *15
 | [],xs,H,h=>by rw[A00]at h;simp[h.1]
 |s::l,xs,H,h=>by
  rw[A00]at h;obtain⟨c,r,H1,H2,rfl,_,h3,h4⟩:=h;rw[Y4,h3.len,h4.len,X8,A1j];omega
theorem A00.nil {I:U0}:A00 I [] [] []:=by rw[A00];exact⟨rfl,rfl⟩
theorem A00.app {I:U0}:∀ {l m:List Sp.Stm}{xs ys:List Value}{G H:List HItem},A00 I l xs G->A00 I m ys H->A00 I (l++m) (xs++ys) (G++H)
 | [],m,xs,ys,G,H,h,k=>by
  rw[A00]at h;obtain⟨rfl,rfl⟩:=h;exact k
 |s::l,m,xs,ys,G,H,h,k=>by
  rw[A00]at h;obtain⟨c,r,H1,H2,rfl,rfl,h3,h4⟩:=h;rw[A0a,A00];exact⟨c,r++ys,H1,H2++H,by rw[Z9],by rw[Z9],h3,h4.app k⟩
theorem A00.one {I:U0}{s:Sp.Stm}{c:List Value}{H:List HItem} (h:StO I s c H):A00 I [s] c H:=by
 rw[A00];exact⟨c,[],H,[],by simp,by simp,h,.nil⟩
theorem A00.part {I:U0}:∀ {l m:List Sp.Stm}{xs:List Value}{H:List HItem},A00 I (l++m) xs H->∃x1 x2 H1 H2,xs=x1++x2/\H=H1++H2/\A00 I l x1 H1/\A00 I m x2 H2
 | [],m,xs,H,h=>⟨[],xs,[],H,rfl,rfl,.nil,h⟩
 |s::l,m,xs,H,h=>by
  rw[A0a,A00]at h;obtain⟨c,r,H1,H2,rfl,rfl,h3,h4⟩:=h;obtain⟨x1,x2,G1,G2,rfl,rfl,g3,g4⟩:=h4.part;refine⟨c++x1,x2,H1++G1,G2,by rw[Z9],by rw[Z9],?_,g4⟩
  rw[A00];exact⟨c,x1,H1,G1,rfl,rfl,h3,g3⟩
theorem A00.uncons {I:U0}{s:Sp.Stm}{l:List Sp.Stm}{xs:List Value}{H:List HItem} (h:A00 I (s::l) xs H):∃c r H1 H2,xs=c++r/\H=H1++H2/\StO I s c H1/\A00 I l r H2:=by
 rw[A00]at h;exact h
mutual
theorem StO.freeze {E:Ent}{w:World}:∀(s:Sp.Stm) {I:U0}{cs:List Value}{H R:List HItem},StO I s cs H->Mem E I (H++R) w->∃J,Le I J/\Mem E J R w/\A4g J s cs
 | .mk k nm a lb o e thn els f t,I,cs,H,R,h,hm=>by
  rw[StO]at h;obtain⟨ea,ec,ex,a1,c1,a2,c2,xs1,xs2,H1,H2,rfl,h2,h3,rfl,h5,h6⟩:=h;rw[Z9,A0a,A0a]at hm;obtain⟨I1,l1,m1,r1⟩:=hm.freeze;obtain⟨I2,l2,m2,r2⟩:=A00.freeze thn (A00.le l1 _ _ _ h5) m1;obtain⟨I3,l3,m3,r3⟩:=m2.freeze;obtain⟨I4,l4,m4,r4⟩:=A00.freeze els (A00.le ((l1.trans l2).trans l3) _ _ _ h6) m3;have h14:=(l2.trans l3).trans l4;exact⟨I4,l1.trans h14,m4,.of (h2.le (l1.trans h14)) (V7.le (l1.trans h14) _ _ h3) (r1.le h14) (U8.le (l3.trans l4) _ _ r2) (r3.le l4) r4⟩
theorem A00.freeze {E:Ent}{w:World}:∀(l:List Sp.Stm) {I:U0}{xs:List Value}{H R:List HItem},A00 I l xs H->Mem E I (H++R) w->∃J,Le I J/\Mem E J R w/\U8 J l xs
 | [],I,xs,H,R,h,hm=>by
  rw[A00]at h;obtain⟨rfl,rfl⟩:=h;exact⟨I,Le.refl I,hm,.nil⟩
 |s::l,I,xs,H,R,h,hm=>by
  rw[A00]at h;obtain⟨c,r,H1,H2,rfl,rfl,h3,h4⟩:=h;rw[Z9]at hm;obtain⟨I1,l1,m1,r1⟩:=StO.freeze s h3 hm;obtain⟨I2,l2,m2,r2⟩:=A00.freeze l (A00.le l1 _ _ _ h4) m1;refine⟨I2,l1.trans l2,m2,?_⟩
  rw[U8];exact⟨c,r,rfl,A4g.le l2 _ _ r1,r2⟩
 end
theorem A6o.freeze {E:Ent}{w:World}{l:List Sp.Stm}{I:U0}{a:Option Addr}{c:Nat}{H R:List HItem} (h:A6o I l a c H) (hm:Mem E I (H++R) w):
  ∃J xs,Le I J/\Mem E J R w/\RowI J 109 15 (.slice a l.length c) l.length xs/\U8 J l xs:=by
 obtain⟨xs,Hs,rfl,hc⟩:=h;obtain⟨I1,l1,m1,r1⟩:=Mem.freeze (H:=Hs++R) hm;obtain⟨I2,l2,m2,r2⟩:=A00.freeze l (A00.le l1 _ _ _ hc) m1;exact⟨I2,xs,l1.trans l2,m2,r1.le l2,r2⟩
structure OwX where
 k:Nat
 I:U0
 a:Option Addr
 cp:Nat
 xs:List Value
 Hs:List HItem
abbrev B8Q (l:List Sp.Stm):Value->U0->List HItem->Prop:=fun v I' H'=> ∃a c,v=.slice a l.length c/\A6o I' l a c H'
theorem B3h:∀(n:Nat) (l:List Sp.Stm),SizeOf.sizeOf l<=n->l.length<=64->W9 l->∀(I:U0) (a:Option Addr) (c:Nat) (xs:List Value),RowI I 109 15 (.slice a l.length c) l.length xs->U8 I l xs->
  CalM prog 73 #[.slice a l.length c] I [] (B8Q l):=by
 intro n;induction n with
 |zero=>intro l h;cases l<;>simp at h
 |succ n ih=>
 intro l hsz hll hsm I a c xs hr hx;refine CalM.of fun w E hm=>enter (N:=30) func73 rfl [(0,.slice a l.length c)] A0v rfl ?_
 repeat' (first|refine D8 ?_|refine D5 ?_|refine G8 ?_|refine D9 ?_|refine A7 ?_|refine E8 ?_|refine A8 ?_|refine F5 ?_)
 have hm:=hm.nil 109 15;refine X7 (fun x:OwX=> [(3,.slice x.a x.k x.cp),(6,.slice a l.length c),(7,nt l.length),(8,nt x.k)])
  (fun x w'=>Mem E x.I (B2q x.k x.a x.cp x.xs::x.Hs) w'/\Le I x.I/\A00 x.I (l.take x.k) x.xs x.Hs/\x.k<=l.length)
  (fun x=>l.length-x.k) ⟨0,I,none,0,[],[]⟩ (by exact⟨rfl,rfl,rfl,rfl,trivial⟩) ⟨hm,Le.refl _,.nil,J7 _⟩ ?_
 clear hm;rintro⟨k,I1,a1,cp1,xs1,Hs1⟩ w2 ⟨hm,hle1,hxs,hk⟩;dsimp only at hm hle1 hxs hk |-;by_cases hlt:k<l.length
 ·have hg:l[k]?=some l[k]:=G9 hlt
  have hme:=A3U (Q8 hlt);obtain⟨ea2,ec2,ex2,a2,c2,xs2,a3,c3,xs3,hc2,hr2,hx2,hr3,hx3,hr4,hx4⟩:=(hx.get hg).out;have hsm2:=A1N hsm hg;generalize l[k]=y at hg hc2 hr2 hx2 hr3 hx3 hr4 hx4 hsm2 hme;obtain⟨s1,s2,s3,s4,s5⟩:=A15 hsm2;obtain⟨z1,z2⟩:=A4T (s:=y);have hce:=fun (I':U0) (m:Le I I')=>A90 (SizeOf.sizeOf y.e) y.e (H6 _) s1 I' ea2 ec2 ex2 (hr2.le m) (V7.le m _ _ hx2)
  have hct:=fun (I':U0) (m:Le I I')=>ih y.thn (by omega) s2 s3 I' a2 c2 xs2 (hr3.le m) (U8.le m _ _ hx3)
  have hcl:=fun (I':U0) (m:Le I I')=>ih y.els (by omega) s4 s5 I' a3 c3 xs3 (hr4.le m) (U8.le m _ _ hx4)
  have htk:l.take (k+1)=l.take k++ [y]:=by rw[A4J,hg];rfl
  have hri:=hr.le hle1;repeat' (first|refine A4Y (id:=5) (hm.perm pm0) [([0,1,3,4,6,7],[2]),([9],[5]),([],[8])] 10 (h:=?_);clear hm;intro wd hR hm|refine U3 ?_ (hr:=hri);intro bt ot hpt;rw[show ((k:Int).toNat *15)=k *15 from rfl,hc2]at hpt|refine A02 (d:=14) ?_ hm (hc:=hce _ hle1);clear hm;rintro _ I2 _ _ ⟨rfl,ea3,ec3,ex3,rfl,hr5,hx5⟩ hle hm;have hleI2:=hle;try simp only[F7]at hm|refine A02 (d:=17) ?_ hm (hc:=hct _ (hle1.trans hleI2));clear hm;rintro _ I3 _ _ ⟨a4,c4,rfl,ho4⟩ hle hm;have hleI3:=hle;try simp only[F7]at hm|refine A02 (d:=20) ?_ hm (hc:=hcl _ ((hle1.trans hleI2).trans hleI3));clear hm;rintro _ I4 _ _ ⟨a5,c5,rfl,ho5⟩ hle hm;have hleI4:=hle;try simp only[F7]at hm|refine A9k ?_;replace hm:=(hR.back hm).perm pmO;clear hR|refine A0g ?_ hR|refine B13 ?_ hR|refine A7N ?_|refine A7M ?_|refine A1m ?_|refine B5z ?_|refine A0j (d:=5) ?_ hm;clear hm;intro b5 _ hm|refine A3A (d:=27) ?_ hm;clear hm;intro a27 cp27 _ _ hm;try simp only[F7]at hm|refine O1 ?_ hm|refine Y8 ?_ hm|refine J6 hm (k:=?_);clear hm;intro _ hm;try simp only[F7]at hm|refine A1y ?_ hm;clear hm;intro _ hm;try simp only[F7]at hm|refine D8 ?_|refine D5 ?_|refine O0 ?_|refine Q4 ?_|refine C9 ?_|refine D9 ?_|refine A7 ?_|refine D7 ?_|refine E8 ?_|refine A8 ?_|refine F5 ?_|refine F9 ?_|(refine D6 (ht:=fun _=>?_) (hf:=fun _=>?_)<;>try first|contradiction|omega)|refine S9 ?_)
  all_goals try omega
  refine N7 (⟨k+1,I4,_,_,_,_⟩:OwX) (by exact⟨rfl,rfl,rfl,rfl,trivial⟩) ⟨hm.tl,((hle1.trans hleI2).trans hleI3).trans hleI4,?_,by dsimp only;omega⟩ (by dsimp only;omega)
  dsimp only
  rw[htk];exact(A00.le ((hleI2.trans hleI3).trans hleI4) _ _ _ hxs).app (.one (B5j (hr5.le (hleI3.trans hleI4)) (V7.le (hleI3.trans hleI4) _ _ hx5) (ho4.le hleI4) ho5))
 ·obtain rfl:k=l.length:=by omega
  rw[A0b]at hxs;repeat' (first|refine D8 ?_|refine D5 ?_|refine O0 ?_|refine D9 ?_|refine A7 ?_|refine G7 ?_|refine G5 ?_|refine E8 ?_|refine A8 ?_|refine O7 ?_|refine H7 ?_|refine H9 ?_|(refine D6 (ht:=fun _=>?_) (hf:=fun _=>?_)<;>try first|contradiction|omega))
  all_goals try omega
  exact⟨I1,_,⟨a1,cp1,rfl,xs1,Hs1,rfl,hxs⟩,hm⟩
abbrev B7Y (ty:TypeId) (sz n:Nat) (us:List Value):Value->U0->List HItem->Prop:=fun v _ H'=> ∃a cp,v=.slice a n cp/\H'= [.row (.slice a n cp) ty sz n us]
theorem B6f (I:U0) (a:Option Addr) (n cp:Nat) (us:List Value) (hr:RowI I 65 3 (.slice a n cp) n us) (h1:us.all (·.oneCell')=true) (hn:n<=1099511627776):
  CalM prog 70 #[.slice a n cp] I [] (B7Y 65 3 n us):=by
 refine CalM.of fun w E hm=>enter (N:=8) func70 rfl [(0,.slice a n cp)] A0v rfl ?_
 cases a with
 |none=>
  have h0:n=0:=hr.none;subst h0;have hu:us= []:=A1Y (by have:=hr.len;simpa using this);subst hu;repeat' (first|refine A1k ?_|refine D8 ?_|refine D5 ?_|refine D9 ?_|refine A7 ?_|refine H5 ?_|refine E8 ?_|refine A8 ?_|refine H7 ?_|refine H9 ?_|refine F8 ?_)
  exact⟨I,_,⟨none,0,rfl,rfl⟩,hm.nil 65 3⟩
 |some ad=>
  repeat' (first|refine A1k ?_|refine A5Y ?_ hm;clear hm;intro bb _ hm|refine A6M ?_ hm (hr:=hr) (h1:=h1);clear hm;intro a2 cp2 _ hm;try simp only[F7]at hm|refine D8 ?_|refine D5 ?_|refine D9 ?_|refine A7 ?_|refine E8 ?_|refine A8 ?_|refine F9 ?_|refine H7 ?_|refine H9 ?_|refine E9 ?_)
  simp only[Y6]at hm |-;exact⟨I,_,⟨a2,cp2,rfl,rfl⟩,(hm.front 0 rfl).hd⟩
abbrev B9f (it:Sp.Itm):Value->U0->List HItem->Prop:=fun v J H'=> ∃ap cp as_ cs ab cb ad cd Hb,v=.agg (A0P it.kind it.name it.label (.slice ap it.params.length cp) (.slice as_ it.sends.length cs) (.slice ab it.body.length cb) it.at_ it.size it.mark (.slice ad it.diags.length cd)).toArray/\
 H'=.row (.slice ap it.params.length cp) 65 3 it.params.length (it.params.flatMap A2r)::Hb/\A6o J it.body ab cb Hb/\
 RowI J 62 2 (.slice as_ it.sends.length cs) it.sends.length (it.sends.flatMap A2f)/\RowI J 92 4 (.slice ad it.diags.length cd) it.diags.length (it.diags.flatMap A32)
theorem B87 (it:Sp.Itm) (hs:it.small) (I:U0) (cs:List Value) (hi:A5a I it cs):CalM prog 45 #[.agg cs.toArray] I [] (B9f it):=by
 obtain⟨ap,cp,as_,cs',ab,cb,ad,cd,xb,rfl,r1,r2,r3,r4,r5⟩:=hi;have k1:=hs.params;have k2:=hs.sends;have k3:=hs.diags;have k4:=hs.body;refine CalM.of fun w E hm=>enter (N:=20) func45 rfl [(0,.agg (A0P it.kind it.name it.label (.slice ap it.params.length cp) (.slice as_ it.sends.length cs') (.slice ab it.body.length cb) it.at_ it.size it.mark (.slice ad it.diags.length cd)).toArray)] A0v rfl ?_
 have c1:=fun (I':U0) (m:Le I I')=>B6f I' ap it.params.length cp _ (r1.le m) (B2k _) (by omega)
 have c2:=fun (I':U0) (m:Le I I')=>B2f I' as_ it.sends.length cs' _ (r2.le m) (B4i _) (by omega)
 have c3:=fun (I':U0) (m:Le I I')=>B2e I' ad it.diags.length cd _ (r5.le m) (B30 _) (by omega)
 have c4:=fun (I':U0) (m:Le I I')=>B3h (SizeOf.sizeOf it.body) it.body (H6 _) (by omega) hs.stms I' ab cb xb (r3.le m) (U8.le m _ _ r4)
 repeat' (first|refine A4Y (id:=1) (hm.perm pm0) [([0,1,3,4,6,7],[2]),([9],[5]),([],[8])] 10 (h:=?_);clear hm;intro wd hR hm|refine A02 (d:=5) ?_ hm (hc:=c1 _ (Le.refl _));clear hm;rintro _ I2 _ _ ⟨a1,d1,rfl,rfl⟩ hle hm;have hleI2:=hle;try simp only[F7]at hm|refine A02 (d:=8) ?_ hm (hc:=c2 _ hleI2);clear hm;rintro _ I3 _ _ ⟨rfl,a2,d2,rfl,s2⟩ hle hm;have hleI3:=hle;try simp only[F7]at hm|refine A02 (d:=11) ?_ hm (hc:=c3 _ (hleI2.trans hleI3));clear hm;rintro _ I4 _ _ ⟨rfl,a3,d3,rfl,s3⟩ hle hm;have hleI4:=hle;try simp only[F7]at hm|refine F6 (d:=17) ?_ hm (hp:=pm0) (hc:=c4 _ ((hleI2.trans hleI3).trans hleI4));clear hm;rintro _ I5 Hb _ ⟨a4,d4,rfl,ho4⟩ hleI5 hm;replace hm:=hm.perm A1o;try simp only[F7]at hm|refine A0g ?_ hR|refine A7N ?_|refine A7M ?_|refine A1m ?_|refine B5z ?_|refine A9k ?_;replace hm:=hR.back hm;clear hR;try simp only[F7]at hm|refine A0z (d:=1) ?_ hm;clear hm;intro b1 _ hm|refine V6 (d:=2) ?_ hm;clear hm;intro b2 _ hm|refine H8 ?_ hm|refine O1 ?_ hm|refine O4 ?_ hm;clear hm;intro _ hm;try simp only[F7]at hm|refine J6 hm (k:=?_);clear hm;intro _ hm;try simp only[F7]at hm|refine V3 ?_ hm|refine C9 ?_|refine D9 ?_|refine A7 ?_|refine E8 ?_|refine A8 ?_|refine H7 ?_|refine S9 ?_)
 all_goals try omega
 refine⟨I5,_,⟨a1,d1,a2,d2,a4,d4,a3,d3,Hb,rfl,rfl,ho4,(s2.le hleI4).le hleI5,s3.le hleI5⟩,hm.snd.snd⟩
theorem A2E {x1 c x2:List Value}{n j:Nat} (h1:x1.length=n) (hj:j<c.length):(x1++(c++x2))[n+j]?=c[j]? :=by
 rw[A2G (by omega),show n+j-x1.length=j by omega,A3v hj]
theorem B4a {x1 c x2:List Value}{n j:Nat} (h1:x1.length=n) (hj:j<c.length):n+j<(x1++(c++x2)).length:=by
 rw[Y4,Y4];omega
theorem B1W {x1 c x2:List Value}{n j:Nat}{v:Value} (h1:x1.length=n) (hj:j<c.length):(x1++(c++x2)).set (n+j) v=x1++(c.set j v++x2):=by
 rw[List.set_append,if_neg (by omega),show n+j-x1.length=j by omega,List.set_append,if_pos hj]
structure FlW where
 k:Nat
 I:U0
 xs:List Value
 Hs:List HItem
abbrev B7W (o:Sp.Lab) (l:List Sp.Stm) (a:Option Addr) (c:Nat):Value->U0->List HItem->Prop:=fun v J H'=>v=.tuple #[]/\A6o J (A0C o l) a c H'
theorem _root_.Go.Fw.pmRow {x:HItem}{H:List HItem}:(x::H).Perm ([x]++H):=.refl _
theorem B8b {bd bo:Nat}{zs:A1b}{o:Sp.Lab}{f0 f1 f3:Value} (hz:OpenZ zs o):∀(n:Nat) (l:List Sp.Stm),SizeOf.sizeOf l<=n->l.length<=64->W9 l->∀(I:U0) (a:Option Addr) (c:Nat) (H:List HItem),PtrI I bd 0 116 [f0,f1,.map (some bo),f3]->A9x I bo zs->A6o I l a c H->
  CalM prog 47 #[ptr bd,.slice a l.length c] I H (B7W o l a c):=by
 intro n;induction n with
 |zero=>intro l h;cases l<;>simp at h
 |succ n ih=>
 intro l hsz hll hsm I a c H hpd hmz hO;obtain⟨xs,Hs,rfl,hC⟩:=hO;refine CalM.of fun w E hm=>enter (N:=53) func47 rfl [(0,ptr bd),(1,.slice a l.length c)] A1P rfl ?_
 repeat' (first|refine D8 ?_|refine G8 ?_|refine D9 ?_|refine A7 ?_|refine E8 ?_|refine A8 ?_|refine F5 ?_)
 refine X7 (fun x:FlW=> [(0,ptr bd),(1,.slice a l.length c),(7,nt l.length),(8,nt x.k)])
  (fun x w'=>Mem E x.I (B2q l.length a c x.xs::x.Hs) w'/\Le I x.I/\A00 x.I (A0C o (l.take x.k)++l.drop x.k) x.xs x.Hs/\x.k<=l.length)
  (fun x=>l.length-x.k) ⟨0,I,xs,Hs⟩ (by exact⟨rfl,rfl,rfl,rfl,trivial⟩) ⟨hm,Le.refl _,by dsimp only;rw[A07,A0C,Y5,A2a];exact hC,J7 _⟩ ?_
 clear hm hC;rintro⟨k,I1,xs1,Hs1⟩ w2 ⟨hm,hle1,hC,hk⟩;dsimp only at hm hle1 hC hk |-;have hpd1:=hpd.le hle1;have hmz1:=hmz.le hle1;by_cases hlt:k<l.length
 ·have hg:l[k]?=some l[k]:=G9 hlt
  have hme:=A3U (Q8 hlt);have hsm2:=A1N hsm hg;generalize l[k]=y at hg hsm2 hme;rw[B5J hg]at hC;obtain⟨s1,s2,s3,s4,s5⟩:=A15 hsm2;obtain⟨z1,z2⟩:=A4T (s:=y);obtain⟨x1,x2,G1,G2,rfl,rfl,hC1,hC2⟩:=hC.part;obtain⟨cy,x3,G3,G4,rfl,rfl,hY,hC3⟩:=hC2.uncons;have hl1:=hC1.len;rw[A3t,Y9,A19 hk]at hl1;obtain⟨ea,ec,ex,a1,c1,a2,c2,H1,H2,rfl,hr,hx,rfl,hO1,hO2⟩:=hY.out;obtain⟨gb,rfl⟩:=hm.rowAddr (by omega);have hct:=fun (J:U0) (m:Le I1 J)=>ih y.thn (by omega) s2 s3 J a1 c1 H1 (hpd1.le m) (hmz1.le m) (hO1.le m)
  have hcl:=fun (J:U0) (m:Le I1 J)=>ih y.els (by omega) s4 s5 J a2 c2 H2 (hpd1.le m) (hmz1.le m) (hO2.le m)
  have hoff:∀j:Nat,0+(k:Int).toNat *15+j=k *15+j:=fun j=>by rw[A4K];omega
  have htk:A0C o (l.take (k+1))=A0C o (l.take k)++ [A3e o y]:=by rw[X0 hg,B4E,A5l o [y]];rfl
  have hY2:∀(I3:U0) (H1' H2':List HItem),Le I1 I3->A6o I3 (A0C o y.thn) a1 c1 H1'->A6o I3 (A0C o y.els) a2 c2 H2'->
    StO I3 (A3e o y) (A2M y.kind y.name y.at_ (B28 o y) (B3k y) y.e ea ec (.slice a1 y.thn.length c1) (.slice a2 y.els.length c2) y.fr y.to) (H1'++H2'):=fun I3 H1' H2' m o1 o2=>by
   have h:=StO.of (I:=I3) (k:=y.kind) (a:=y.at_) (lb:=B28 o y) (f:=y.fr) (t:=y.to) (nm:=y.name) (o:=B3k y) (e:=y.e) (thn:=A0C o y.thn) (els:=A0C o y.els) (hr.le m) (V7.le m _ _ hx) o1 o2;rw[A3t,A3t]at h;rw[B5R];exact h
  by_cases hlet:y.kind=1/\y.opn=true
  ·have e1:B28 o y=o y.fr:=by rw[B28,if_pos hlet]
   have e2:B3k y=false:=by rw[B3k,if_pos hlet.1]
   rw[e1,e2]at hY2;have hlk:=hz.get y.fr;have hk1:=hlet.1;have ho:=hlet.2;rw[ho]at hm;repeat' (first|refine A2i (off:=k *15+0) (d:=17) hm (by rfl) (by rfl) (by rw[<-hoff];rfl) (by rw[A2E hl1 (by simp)];rfl) ?_|refine A2i (off:=k *15+4) (d:=23) hm (by rfl) (by rfl) (by rw[<-hoff];rfl) (by rw[A2E hl1 (by simp)];rfl) ?_|refine A6H (id:=5) (hm.perm pmRow) [0,1,2,3,4,5,6,7,8] 14 (h:=?_);clear hm;intro wd hR hm|refine B3f (i:=0) (off:=k *15+13) (d:=34) hm (by rfl) (by rfl) (by rw[<-hoff];rfl) gt0 (by rw[A2E hl1 (by simp)];rfl) ?_|refine B27 (d:=35) hm hmz1 (by rfl) (by rfl) (by rfl) (by rfl) A48 ?_;rw[hlk]|refine B2F (d:=36) hm.kept (by rfl) (by rfl) (by rfl) ?_|refine B05 (d:=37) hm.kept (by rfl) (by rfl) (by rfl) ?_|refine B12 (off:=k *15+4) hm (by rfl) (by rfl) (by rw[<-hoff];rfl) (by rfl) (by rfl) (by rfl) (B4a hl1 (by simp)) ?_;clear hm;intro _ hm;rw[B1W hl1 (by simp)]at hm;simp only[A5R,A5Q]at hm|refine A80 (off:=k *15+3) hm (by rfl) (by rfl) (by rw[<-hoff];rfl) (by rfl) (by rfl) (by rfl) (B4a hl1 (by simp)) ?_;clear hm;intro _ hm;rw[B1W hl1 (by simp)]at hm;simp only[A5R,A5Q]at hm|refine A4l (i:=9) ?_ (by decide+kernel)|refine A4l (i:=10) ?_ (by decide+kernel)|refine A4l (i:=11) ?_ (by decide+kernel)|refine A4l (i:=12) ?_ (by decide+kernel)|refine A4l (i:=13) ?_ (by decide+kernel)|refine B04 (by decide+kernel) ?_;replace hm:=(hR.back hm).perm pmRow.symm;clear hR|refine A2i (off:=k *15+11) (d:=44) hm (by rfl) (by rfl) (by rw[<-hoff];rfl) (by rw[A2E hl1 (by simp)];rfl) ?_|refine A2i (off:=k *15+12) (d:=50) hm (by rfl) (by rfl) (by rw[<-hoff];rfl) (by rw[A2E hl1 (by simp)];rfl) ?_|refine F6 (d:=45) ?_ hm (hp:=A9s) (hc:=hct I1 (Le.refl _));clear hm;rintro _ I2 H1' _ ⟨rfl,ho4⟩ hleI2 hm;replace hm:=hm.perm A9s.symm|refine F6 (d:=51) ?_ hm (hp:=A9s.trans B7o) (hc:=hcl I2 hleI2);clear hm;rintro _ I3 H2' _ ⟨rfl,ho5⟩ hleI3 hm;replace hm:=hm.perm B8r|refine A1u ?_ hR|refine B07 ?_|refine D8 ?_|refine D5 ?_|refine N9 ?_|refine O0 ?_|refine Q5 ?_|refine E5 ?_|refine Q4 ?_|refine C9 ?_|refine U6 (k:=?_)|(refine O5 (h1:=fun _=>?_) (h0:=fun _=>?_)<;>try first|contradiction|omega)|refine D9 ?_|refine A7 ?_|refine D7 ?_|refine E8 ?_|refine A8 ?_|refine F5 ?_|refine F9 ?_|refine F8 ?_|(refine D6 (ht:=fun _=>?_) (hf:=fun _=>?_)<;>try first|contradiction|omega)|refine A1V ?_|refine Z4 ?_|refine S9 ?_)
   all_goals try omega
   refine N7 (⟨k+1,I3,_,_⟩:FlW) (by exact⟨rfl,rfl,rfl,rfl,trivial⟩) ⟨hm,(hle1.trans hleI2).trans hleI3,?_,by dsimp only;omega⟩ (by dsimp only;omega)
   dsimp only
   rw[htk,Z9];exact(A00.le (hleI2.trans hleI3) _ _ _ hC1).app ((A00.one (hY2 I3 H1' H2' (hleI2.trans hleI3) (ho4.le hleI3) ho5)).app (A00.le (hleI2.trans hleI3) _ _ _ hC3))
  ·have e1:B28 o y=y.label:=by rw[B28,if_neg hlet]
   have e2:B3k y=y.opn:=by
    rw[B3k];split
    ·rename_i h1
     cases ho:y.opn with
     |true=>exact absurd ⟨h1,ho⟩ hlet
     |false=>rfl
    ·rfl
   rw[e1,e2]at hY2;by_cases hk1:y.kind=1
   ·have ho:y.opn=false:=by
     cases ho:y.opn with
     |true=>exact absurd ⟨hk1,ho⟩ hlet
     |false=>rfl
    rw[ho]at hm hY2;repeat' (first|refine A2i (off:=k *15+0) (d:=17) hm (by rfl) (by rfl) (by rw[<-hoff];rfl) (by rw[A2E hl1 (by simp)];rfl) ?_|refine A2i (off:=k *15+4) (d:=23) hm (by rfl) (by rfl) (by rw[<-hoff];rfl) (by rw[A2E hl1 (by simp)];rfl) ?_|refine A2i (off:=k *15+11) (d:=44) hm (by rfl) (by rfl) (by rw[<-hoff];rfl) (by rw[A2E hl1 (by simp)];rfl) ?_|refine A2i (off:=k *15+12) (d:=50) hm (by rfl) (by rfl) (by rw[<-hoff];rfl) (by rw[A2E hl1 (by simp)];rfl) ?_|refine F6 (d:=45) ?_ hm (hp:=A9s) (hc:=hct I1 (Le.refl _));clear hm;rintro _ I2 H1' _ ⟨rfl,ho4⟩ hleI2 hm;replace hm:=hm.perm A9s.symm|refine F6 (d:=51) ?_ hm (hp:=A9s.trans B7o) (hc:=hcl I2 hleI2);clear hm;rintro _ I3 H2' _ ⟨rfl,ho5⟩ hleI3 hm;replace hm:=hm.perm B8r|refine D8 ?_|refine D5 ?_|refine N9 ?_|refine O0 ?_|refine Q5 ?_|refine E5 ?_|refine Q4 ?_|refine C9 ?_|refine U6 (k:=?_)|(refine O5 (h1:=fun _=>?_) (h0:=fun _=>?_)<;>try first|contradiction|omega)|refine D9 ?_|refine A7 ?_|refine D7 ?_|refine E8 ?_|refine A8 ?_|refine F5 ?_|refine F9 ?_|refine E9 ?_|(refine D6 (ht:=fun _=>?_) (hf:=fun _=>?_)<;>try first|contradiction|omega))
    all_goals try omega
    refine N7 (⟨k+1,I3,_,_⟩:FlW) (by exact⟨rfl,rfl,rfl,rfl,trivial⟩) ⟨hm,(hle1.trans hleI2).trans hleI3,?_,by dsimp only;omega⟩ (by dsimp only;omega)
    dsimp only
    rw[htk,Z9];exact(A00.le (hleI2.trans hleI3) _ _ _ hC1).app ((A00.one (hY2 I3 H1' H2' (hleI2.trans hleI3) (ho4.le hleI3) ho5)).app (A00.le (hleI2.trans hleI3) _ _ _ hC3))
   ·skip
    repeat' (first|refine A2i (off:=k *15+0) (d:=17) hm (by rfl) (by rfl) (by rw[<-hoff];rfl) (by rw[A2E hl1 (by simp)];rfl) ?_|refine A2i (off:=k *15+11) (d:=44) hm (by rfl) (by rfl) (by rw[<-hoff];rfl) (by rw[A2E hl1 (by simp)];rfl) ?_|refine A2i (off:=k *15+12) (d:=50) hm (by rfl) (by rfl) (by rw[<-hoff];rfl) (by rw[A2E hl1 (by simp)];rfl) ?_|refine F6 (d:=45) ?_ hm (hp:=A9s) (hc:=hct I1 (Le.refl _));clear hm;rintro _ I2 H1' _ ⟨rfl,ho4⟩ hleI2 hm;replace hm:=hm.perm A9s.symm|refine F6 (d:=51) ?_ hm (hp:=A9s.trans B7o) (hc:=hcl I2 hleI2);clear hm;rintro _ I3 H2' _ ⟨rfl,ho5⟩ hleI3 hm;replace hm:=hm.perm B8r|refine D8 ?_|refine D5 ?_|refine J9 ?_|refine O0 ?_|refine Q5 ?_|refine E5 ?_|refine Q4 ?_|refine C9 ?_|refine U6 (k:=?_)|refine A0p ?_|(refine O5 (h1:=fun _=>?_) (h0:=fun _=>?_)<;>try first|contradiction|omega)|refine D9 ?_|refine A7 ?_|refine D7 ?_|refine E8 ?_|refine A8 ?_|refine F5 ?_|refine F9 ?_|refine E9 ?_|(refine D6 (ht:=fun _=>?_) (hf:=fun _=>?_)<;>try first|contradiction|omega))
    all_goals try omega
    refine N7 (⟨k+1,I3,_,_⟩:FlW) (by exact⟨rfl,rfl,rfl,rfl,trivial⟩) ⟨hm,(hle1.trans hleI2).trans hleI3,?_,by dsimp only;omega⟩ (by dsimp only;omega)
    dsimp only
    rw[htk,Z9];exact(A00.le (hleI2.trans hleI3) _ _ _ hC1).app ((A00.one (hY2 I3 H1' H2' (hleI2.trans hleI3) (ho4.le hleI3) ho5)).app (A00.le (hleI2.trans hleI3) _ _ _ hC3))
 ·obtain rfl:k=l.length:=by omega
  rw[A0b,List.drop_length,A18]at hC;repeat' (first|refine O0 ?_|refine D9 ?_|refine A7 ?_|refine G7 ?_|refine G5 ?_|refine E8 ?_|refine A8 ?_|refine O7 ?_|refine A0f ?_|(refine D6 (ht:=fun _=>?_) (hf:=fun _=>?_)<;>try first|contradiction|omega))
  all_goals try omega
  exact⟨I1,_,⟨rfl,xs1,Hs1,by rw[A3t],hC⟩,hm⟩
end Go.Proofs
