/- Own work. -/
import Derived.Test.YtbmbnippbldmfaaGreatDoorSn10
set_option maxHeartbeats 64000000
namespace Go.Sp
def C3a (F:Itm->Bool) (its:List Itm):Int:=match its.findIdx? F with
 |some j=>(j:Int)
 |none=> -1
def A4c (its:List Itm) (k:Int) (n:List UInt8):Int:=match A0Z its k n with
 |some j=>(j:Int)
 |none=> -1
theorem C49 {F:Itm->Bool}{its:List Itm}{k:Nat}{it:Itm} (h:its[k]?=some it) (hF:F it=true) (hb:∀j it',j<k->its[j]?=some it'->F it'=false):C3a F its=k:=by
 have:its.findIdx? F=some k:=by
  rw[A2q];obtain⟨hk,e⟩:=A0t.1 h;refine⟨hk,by rw[e];exact hF,fun j hj=>?_⟩
  have:=hb j its[j] hj (G6 (by omega));rw[this];simp
 rw[C3a,this]
theorem C1a {F:Itm->Bool}{its:List Itm} (hb:∀j it',j<its.length->its[j]?=some it'->F it'=false):C3a F its= -1:=by
 have:its.findIdx? F=none:=by
  rw[A3L];intro x hx;obtain⟨j,hj,rfl⟩:=A1K hx;exact hb j _ hj (G6 hj)
 rw[C3a,this]
end Go.Sp
namespace Go.Fw
open Go.Sp
open Go
section
variable {P:Program}{N:Nat}{ds:List Deferred}{Q:Exit->Act->World->Prop}{l:Log}{w:World}{ops:Array Oper}{os:List Oper}
variable {d:Nat}{ty:TypeId}{pos:String}{af:Array Edge}{g:Option (Nat×Bool)}{t:TypeId}{x y:Operand}{E:Ent}{I:P6}{H R G:List HItem}
theorem B2v {c:Operand}{f:FuncId} [Own P f] {xs:List Operand}{tys:Array TypeId}{vs ca:List Value}{Post:Value->P6->List HItem->Prop} (k:∀v I' H' w',Post v I' H'->Le I I'->Mem E I' (H'++R) w'->WL P N ds ops Q os ((d,v)::l) w') (hm:Mem E I G w)
  (hw:U4 ops l ⟨some d,.call ⟨.value c,xs.toArray,tys⟩,ty,pos,af,g⟩=some true:=by rfl) (hN:Nat.blt d N=true:=by rfl)
  (hf:ev l c=some (.func (.func f) #[] ca.toArray):=by rfl) (hx:evs l xs=some vs:=by rfl) (hp:G.Perm (H++R)) (hc:CalM P f (vs++ca).toArray I H Post)
   :
  WL P N ds ops Q (⟨some d,.call ⟨.value c,xs.toArray,tys⟩,ty,pos,af,g⟩::os) l w:=
 A7s hw hN hf hx (hc.run w (hm.perm hp).sub) (fun v w' ⟨I',H',h1,h2⟩=>k v I' H' w' h1 h2.le ((hm.perm hp).back h2))
theorem PtrI.sub {b off ty:Nat}{cs cs':List Value} (h:PtrI I b off ty cs) (k:Nat) (hs:∀j u,cs'[j]?=some u->cs[k+j]?=some u):PtrI I b (off+k) ty cs':=by
 obtain⟨c,fr,h1,h2⟩:=h;exact⟨c,fr,h1,fun j u hj=>by rw[A3K];exact h2 _ _ (hs j u hj)⟩
theorem CalM.read {f:FuncId}{args:Array Value}{v:Value} (h:CalM P f args I [] (fun u _ H'=>u=v/\H'= [])):CalR P f args I [] v:=
 ⟨fun w hI _=>(h.run w (Mem.start hI)).mono (fun _ _ ⟨_,_,⟨h1,_⟩,h2⟩=>⟨h1,h2.kept⟩)⟩
end
section
variable {P:Program}{N:Nat}{ds:List Deferred}{Q:Exit->Act->World->Prop}{X:List Nat}{l l':Log}{w w' w0:World}{ops:Array Oper}{os tail:List Oper}{o:Oper}
variable {d:Nat}{ty:TypeId}{pos:String}{af:Array Edge}{g:Option (Nat×Bool)}{t t':TypeId}{x y:Operand}{ik:IntKind}
theorem B7P {e:TypeId} [TySlice P t e] {b:Option Addr}{n c:Nat} (hC:Kept X w0 w) (hw:U4 ops l ⟨some d,.call ⟨.builtin .len, #[x], #[t]⟩,ty,pos,af,g⟩=some true) (hN:Nat.blt d N=true)
  (hx:ev l x=some (.slice b n c)) (k:WS P N ds ops Q X w0 os tail ((d,.int .i64 (n:Int))::l) w):
  WS P N ds ops Q X w0 (⟨some d,.call ⟨.builtin .len, #[x], #[t]⟩,ty,pos,af,g⟩::os) tail l w:=
 A3Z rfl hw hN (fun a ha=>by
  have h1:=run_underlying (P:=P) (w:=w) (TySlice.out (P:=P) (t:=t));simp[execOp,resolve,invoke,builtin,Builtin.len_,ha.ev hx,h1,goInt]) hC k
theorem A5A {s u:List UInt8} (hC:Kept X w0 w) (hw:U4 ops l ⟨some d,.binOp .add t x y t',ty,pos,af,g⟩=some true) (hN:Nat.blt d N=true)
  (hx:ev l x=some (str s)) (hy:ev l y=some (str u)) (h:s.length+u.length<=9223372036854775807) (k:WS P N ds ops Q X w0 os tail ((d,str (s++u))::l) w):
  WS P N ds ops Q X w0 (⟨some d,.binOp .add t x y t',ty,pos,af,g⟩::os) tail l w:=
 A3Z rfl hw hN (fun c hc=>by
  have h1:¬((s.length+u.length:Nat):Int)>IntKind.i64.max:=by simp[IntKind.max,IntKind.bits,IntKind.signed];omega
  simp only[execOp,hc.ev hx,hc.ev hy,eqGuard,binOp,Op.stringOp,A2h,A8n,if_neg h1];simp) hC k
theorem B7O {e:TypeId}{sz by_:Nat} [TySlice P t e] [Elem P e sz by_] {b o' n cp:Nat}{i:Int} (hC:Kept X w0 w) (hw:U4 ops l ⟨some d,.indexAddr t x y,ty,pos,af,g⟩=some true) (hN:Nat.blt d N=true)
  (hx:ev l x=some (.slice (some ⟨b,o',none⟩) n cp)) (hy:ev l y=some (.int .i64 i)) (h0:0<=i) (h1:i<n)
  (k:WS P N ds ops Q X w0 os tail ((d,.pointer (some ⟨b,o'+i.toNat *sz,none⟩))::l) w):
  WS P N ds ops Q X w0 (⟨some d,.indexAddr t x y,ty,pos,af,g⟩::os) tail l w:=
 A3Z rfl hw hN (fun a ha=>by
  obtain⟨inf,z,hi,_,hs,_,_,_⟩:=Elem.out (P:=P) (e:=e);have h6:=run_underlying (P:=P) (w:=w) (TySlice.out (P:=P) (t:=t));simp[execOp,Instr.indexAt,asIntOf,ha.ev hx,ha.ev hy,h6,h0,h1,sizeOf,typeInfo,hi,hs,Addr.add_lit]) hC k
theorem B5o {e:TypeId}{sz by_:Nat} [TySlice P t e] [Elem P e sz by_] {I:P6}{a:Option Addr}{m cp:Nat}{i:Int}{xs:List Value} (hC:Kept X w0 w) (hw:U4 ops l ⟨some d,.indexAddr t x y,ty,pos,af,g⟩=some true) (hN:Nat.blt d N=true)
  (hx:ev l x=some (.slice a m cp)) (hy:ev l y=some (.int .i64 i)) (hr:RowI I e sz (.slice a m cp) m xs) (h0:0<=i) (h1:i<m)
  (k:∀b off,PtrI I b off e ((xs.drop (i.toNat *sz)).take sz)->WS P N ds ops Q X w0 os tail ((d,.pointer (some ⟨b,off,none⟩))::l) w):
  WS P N ds ops Q X w0 (⟨some d,.indexAddr t x y,ty,pos,af,g⟩::os) tail l w:=by
 obtain⟨b,off,rfl,hp⟩:=hr.at_ i.toNat (by omega);exact B7O hC hw hN hx hy h0 h1 (k b _ hp)
end
section
variable {P:Program}{N:Nat}{ds:List Deferred}{Q:Exit->Act->World->Prop}{l:Log}{w:World}{ops:Array Oper}{os:List Oper}
variable {d:Nat}{ty:TypeId}{pos:String}{af:Array Edge}{g:Option (Nat×Bool)}{t t':TypeId}{x y:Operand}
theorem B07 (n:Int):IntKind.i64.wrap n=Sp.w64 n:=by rw[IntKind.wrap_i64];rfl
theorem C5q {a b:Int} (hw:U4 ops l ⟨some d,.binOp .add t x y t',ty,pos,af,g⟩=some true) (hN:Nat.blt d N=true)
  (hx:ev l x=some (.int .i64 a)) (hy:ev l y=some (.int .i64 b))
  (k:WL P N ds ops Q os ((d,.int .i64 (Sp.w64 (a+b)))::l) w):WL P N ds ops Q (⟨some d,.binOp .add t x y t',ty,pos,af,g⟩::os) l w:=
 U6 rfl hw hN (fun c hc=>by simp[execOp,hc.ev hx,hc.ev hy,eqGuard,binOp,Op.intArith,B07]) k
theorem C5s {a b:Int} (hw:U4 ops l ⟨some d,.binOp .sub t x y t',ty,pos,af,g⟩=some true) (hN:Nat.blt d N=true)
  (hx:ev l x=some (.int .i64 a)) (hy:ev l y=some (.int .i64 b))
  (k:WL P N ds ops Q os ((d,.int .i64 (Sp.w64 (a-b)))::l) w):WL P N ds ops Q (⟨some d,.binOp .sub t x y t',ty,pos,af,g⟩::os) l w:=
 U6 rfl hw hN (fun c hc=>by simp[execOp,hc.ev hx,hc.ev hy,eqGuard,binOp,Op.intArith,B07]) k
theorem C5r {a b:Int} (hw:U4 ops l ⟨some d,.binOp .mul t x y t',ty,pos,af,g⟩=some true) (hN:Nat.blt d N=true)
  (hx:ev l x=some (.int .i64 a)) (hy:ev l y=some (.int .i64 b))
  (k:WL P N ds ops Q os ((d,.int .i64 (Sp.w64 (a *b)))::l) w):WL P N ds ops Q (⟨some d,.binOp .mul t x y t',ty,pos,af,g⟩::os) l w:=
 U6 rfl hw hN (fun c hc=>by simp[execOp,hc.ev hx,hc.ev hy,eqGuard,binOp,Op.intArith,B07]) k
end
end Go.Fw
namespace Go.Sp
theorem B53 (m:MR):m.step.ev=m.ev:=by
 rw[MR.step];split
 ·rfl
 ·split<;>rfl
theorem A8W {n:List UInt8}:∀ {l:List Cl},(∀(j:Nat) (y:Cl),l[j]?=some y->y.name≠n)->A7a l n=none
 | [],_=>rfl
 |a::l,h=>by
  rw[A7a,A8W (l:=l) (fun j y hy=>h (j+1) y (by rw[A0E];exact hy))];dsimp only
  rw[if_neg (h 0 a rfl)]
theorem B4o {n:List UInt8}:∀ {l:List Cl}{i:Nat}{x:Cl},l[i]?=some x->x.name=n->(∀(j:Nat) (y:Cl),i<j->l[j]?=some y->y.name≠n)->A7a l n=some i
 | [],_,_,h,_,_=>by simp at h
 |a::l,0,x,h,hn,hno=>by
  simp only[A0A,U3]at h;subst h;rw[A7a,A8W (fun j y hy=>hno (j+1) y (by omega) (by rw[A0E];exact hy))];dsimp only
  rw[if_pos hn]
 |a::l,i+1,x,h,hn,hno=>by
  rw[A0E]at h;rw[A7a,B4o h hn (fun j y hj hy=>hno (j+1) y (by omega) (by rw[A0E];exact hy))]
structure MR.To (m m':MR):Prop where
 top:m'.steps<=3000
 up:m.steps<=m'.steps
 ev:m.steps+m'.ev.length<=m'.steps+m.ev.length
theorem MR.To.refl {m:MR} (h:m.steps<=3000):m.To m:=⟨h,G9 _,G9 _⟩
theorem MR.To.trans {a b c:MR} (h:a.To b) (g:b.To c):a.To c:=⟨g.top,A0J h.up g.up,by have:=h.ev;have:=g.ev;omega⟩
theorem A9C {m:MR} (h:m.steps<=3000):m.To m.step:=by
 rw[MR.step];split
 ·exact .refl h
 ·split
  ·exact⟨by dsimp only;omega,by dsimp only;omega,by dsimp only;omega⟩
  ·exact⟨h,G9 _,G9 _⟩
theorem B54 {m:MR} (h:m.go=true):m.step= { m with steps:=m.steps+1}/\m.err=0/\m.steps<3000:=by
 simp only[MR.go,U9,decide_eq_true_eq]at h;rw[MR.step,if_neg (by omega),if_pos h.2];exact⟨rfl,h⟩
def A6g (C:A6h):Prop:= ∀(nm:List UInt8) (args:List Int) (m:MR),m.steps<=3000->m.To (C nm args m).2
section
variable {C:A6h}
theorem C6N (C:A6h) (sc:List Cl) (e:Ex) (m:MR):exR C sc e m=if m.go=false then (0,m.step) else if e.kind=1 then ((e.n:Int),m.step) else if e.kind=2 then (C6U sc e.name,m.step) else
  if e.kind=3 then (opR e.name ((A2X C sc e.args m.step).1.getD 0 0) ((A2X C sc e.args m.step).1.getD 1 0),(A2X C sc e.args m.step).2) else C e.name (A2X C sc e.args m.step).1 (A2X C sc e.args m.step).2:=by
 cases e;rw[exR];rfl
mutual
theorem B1m (hC:A6g C) (sc:List Cl):∀(e:Ex) (m:MR),m.steps<=3000->m.To (exR C sc e m).2
 | .mk k nm n args f t,m,h=>by
  have h1:=A9C h;have h2:=B2r hC sc args m.step h1.top;rw[exR];split
  ·exact h1
  ·split
   ·exact h1
   ·split
    ·exact h1
    ·split
     ·exact h1.trans h2
     ·exact(h1.trans h2).trans (hC _ _ _ h2.top)
theorem B2r (hC:A6g C) (sc:List Cl):∀(l:List Ex) (m:MR),m.steps<=3000->m.To (A2X C sc l m).2
 | [],m,h=>by rw[A2X];exact .refl h
 |e::l,m,h=>by
  rw[A2X];have h1:=B1m hC sc e m h;exact h1.trans (B2r hC sc l _ h1.top)
 end
theorem B6X (sc:List Cl):∀(l r:List Ex) (m:MR),A2X C sc (l++r) m=((A2X C sc l m).1++(A2X C sc r (A2X C sc l m).2).1,(A2X C sc r (A2X C sc l m).2).2)
 | [],r,m=>by rw[P5,A2X];rfl
 |e::l,r,m=>by rw[Y0,A2X,A2X,B6X sc l r];rfl
theorem C0Z (sc:List Cl) {l:List Ex}{k:Nat}{e:Ex} (h:l[k]?=some e) (m:MR):
  A2X C sc (l.take (k+1)) m=((A2X C sc (l.take k) m).1++ [(exR C sc e (A2X C sc (l.take k) m).2).1],(exR C sc e (A2X C sc (l.take k) m).2).2):=by
 rw[Q8 h,B6X,A2X,A2X]
theorem B23 (sc:List Cl):∀(l:List Ex) (m:MR),(A2X C sc l m).1.length=l.length
 | [],m=>by rw[A2X];rfl
 |e::l,m=>by rw[A2X,F8,B23 sc l,F8]
theorem C2O {sc:List Cl}{l:List Ex}{e1 e2:Ex} (h:l.length=2) (h1:l[0]?=some e1) (h2:l[1]?=some e2) (m:MR):
  A2X C sc l m=([(exR C sc e1 m).1,(exR C sc e2 (exR C sc e1 m).2).1],(exR C sc e2 (exR C sc e1 m).2).2):=by
 match l,h,h1,h2 with
 | [a,b],_,h1,h2=>
  obtain rfl:=A0Y h1;obtain rfl:=A0Y h2;rw[A2X,A2X,A2X]
structure SR.To (c:Nat) (s s':SR):Prop where
 m:s.m.To s'.m
 lo:s.sc.length<=s'.sc.length
 hi:s'.sc.length<=s.sc.length+c
theorem SR.To.mono {c c':Nat}{s s':SR} (h:SR.To c s s') (hc:c<=c'):SR.To c' s s':=⟨h.m,h.lo,by have:=h.hi;omega⟩
theorem SR.To.same {s:SR}{m:MR} (h:s.m.To m) (c:Nat):SR.To c s { s with m:=m}:=⟨h,G9 _,by dsimp only;omega⟩
def B9T (c:Nat) (b:SR->SR):Prop:= ∀s,s.m.steps<=3000->SR.To c s (b s)/\((b s).m.err=0->(b s).sc.length=s.sc.length)
theorem B7i {c:Nat}{f:List Cl->MR->Int×MR}{b:SR->SR} (hf:∀(sc:List Cl) (m:MR),m.steps<=3000->m.To (f sc m).2) (hb:B9T c b):∀(k:Nat) (s:SR),s.m.steps<=3000->SR.To c s (A8w f b k s)
 |0,s,h=>by rw[A8w];exact⟨.refl h,G9 _,by omega⟩
 |k+1,s,h=>by
  rw[A8w];have h1:=A9C h;have h2:=hf s.sc s.m.step h1.top;split
  ·exact .same h1 c
  ·split
   ·have h3:=hb { s with m:=(f s.sc s.m.step).2} h2.top
    have h4:=B7i hf hb k _ h3.1.m.top;by_cases he:(b { s with m:=(f s.sc s.m.step).2}).m.err=0
    ·have h5:=h3.2 he
     refine⟨((h1.trans h2).trans h3.1.m).trans h4.m,?_,?_⟩
     ·have:=h4.lo;dsimp only at h5;omega
     ·have:=h4.hi;dsimp only at h5;omega
    ·have key:∀k (s:SR),s.m.err≠0->A8w f b k s=s:=by
      intro k s hs;cases k with
      |zero=>rw[A8w]
      |succ k=>
       rw[A8w,if_pos (by rw[MR.go,decide_eq_false hs];rfl),MR.step,if_pos hs]
     rw[key _ _ he];exact⟨(h1.trans h2).trans h3.1.m,h3.1.lo,h3.1.hi⟩
   ·exact .same (h1.trans h2) c
theorem B7T (sc:List Cl) (n:List UInt8) (v:Int):(C39 sc n v).length=sc.length:=by
 rw[C39];split
 ·rw[A2n]
 ·rfl
theorem B3F {c:Nat}{s:SR}{r:SR×Bool} (h:SR.To c s r.1) (he:r.2=false->r.1.m.err≠0):SR.To c s (A8z s.sc.length r)/\((A8z s.sc.length r).m.err=0->(A8z s.sc.length r).sc.length=s.sc.length):=by
 rw[A8z];have:=h.lo;have:=h.hi;split
 ·have hl:(r.1.sc.take s.sc.length).length=s.sc.length:=by rw[Q4];omega
  exact⟨⟨h.m,by dsimp only;omega,by dsimp only;omega⟩,fun _=>hl⟩
 ·rename_i hr
  exact⟨h,fun h0=>absurd h0 (he (by simpa using hr))⟩
mutual
theorem C0D (hC:A6g C):∀(x:Stm) (s:SR),s.m.steps<=3000->SR.To x.cnt s (B71 C x s)
 | .mk k nm a lb o e thn els f t,s,h=>by
  have h1:=A9C h;have h2:=B1m hC s.sc e s.m.step h1.top;have h3:=h1.trans h2;have hT:B9T (P8 thn) (fun s=>A8z s.sc.length (goR C thn s)):=fun s h=>B3F (B0b hC thn s h).1 (B0b hC thn s h).2
  have hE:B9T (P8 els) (fun s=>A8z s.sc.length (goR C els s)):=fun s h=>B3F (B0b hC els s h).1 (B0b hC els s h).2
  rw[B71,Stm.cnt];split
  ·exact(B7i (fun sc m h=>B1m hC sc e m h) hT 3001 s h).mono (by omega)
  ·split
   ·exact .same h1 _
   ·split
    ·exact .same h3 _
    ·split
     ·exact⟨h3,by dsimp only;rw[E9];omega,by dsimp only;rw[E9,A1I];omega⟩
     ·split
      ·exact⟨h3,by dsimp only;rw[B7T];omega,by dsimp only;rw[B7T];omega⟩
      ·rename_i hg _ _ _
       have hg:=B54 (by simpa using hg);split
       ·refine⟨⟨h3.top,h3.up,?_⟩,G9 _,by dsimp only;omega⟩
        dsimp only
        rw[E9,A1I];have:=h2.ev;rw[hg.1]at this |-;dsimp only at this |-;omega
       ·split
        ·exact⟨h3,G9 _,by dsimp only;omega⟩
        ·split
         ·split
          ·have:=(hT { s with m:=(exR C s.sc e s.m.step).2} h3.top).1
           exact⟨h3.trans this.m,this.lo,by have:=this.hi;dsimp only at this |-;omega⟩
          ·have:=(hE { s with m:=(exR C s.sc e s.m.step).2} h3.top).1
           exact⟨h3.trans this.m,this.lo,by have:=this.hi;dsimp only at this |-;omega⟩
         ·exact .same h3 _
theorem B0b (hC:A6g C):∀(l:List Stm) (s:SR),s.m.steps<=3000->SR.To (P8 l) s (goR C l s).1/\((goR C l s).2=false->(goR C l s).1.m.err≠0)
 | [],s,h=>by rw[goR];exact⟨⟨.refl h,G9 _,by dsimp only;omega⟩,fun h=>(by cases h)⟩
 |x::l,s,h=>by
  rw[goR,P8];split
  ·rename_i he
   exact⟨⟨.refl h,G9 _,by dsimp only;omega⟩,fun _=>he⟩
  ·have h1:=C0D hC x s h
   obtain⟨h2,h3⟩:=B0b hC l _ h1.m.top;exact⟨⟨h1.m.trans h2.m,by have:=h1.lo;have:=h2.lo;omega,by have:=h1.hi;have:=h2.hi;omega⟩,h3⟩
 end
theorem B5a (hC:A6g C) (l:List Stm) (s:SR) (h:s.m.steps<=3000):SR.To (P8 l) s (A8C C l s)/\((A8C C l s).m.err=0->(A8C C l s).sc.length=s.sc.length):=
 B3F (B0b hC l s h).1 (B0b hC l s h).2
end
theorem A8O (its:List Itm):∀d,A6g (A50 its d)
 |0=>fun nm args m h=>by
  rw[A50];split
  ·exact .refl h
  ·exact⟨h,G9 _,G9 _⟩
 |d+1=>fun nm args m h=>by
  rw[A50];split
  ·exact .refl h
  ·split
   ·exact .refl h
   ·exact(B5a (A8O its d) _ ⟨_,0,m⟩ h).1.m
def okE (its:List Itm):PE:=fun k nm _ na _ _=>k=1\/k=2\/(k=3/\na=2)\/(k=4/\∃j,A0Z its 2 nm=some j/\(A0o its j).params.length=na)
mutual
def Ex.fitE:Ex->Nat->Nat->Prop
 | .mk k nm n args _ _,d,least=>d<12/\
  ((k=1/\nm= []/\n<=1000000000/\args= [])\/(k=2/\name nm=true/\n=0/\args= [])\/
   (k=4/\name nm=true/\n=0/\args.length<=5/\A2k args (d+1))\/
   (k=3/\A1i nm≠0/\n=0/\args.length=2/\A3z args (if A1i nm<least then d+1 else d) (A1i nm)))
def A2k:List Ex->Nat->Prop
 | [],_=>True
 |e::es,d=>e.fitE d 1/\A2k es d
def A3z:List Ex->Nat->Nat->Prop
 | [],_,_=>True
 |e::es,d,n=>e.fitE d n/\A3z es d (n+1)
 end
mutual
theorem Ex.fit_down:∀(e:Ex) {d l:Nat},e.fitE (d+1) l->e.fitE d l
 | .mk k nm n args _ _,d,l,h=>by
  rw[Ex.fitE]at h |-;refine⟨by omega,?_⟩
  rcases h.2 with h|h|h|h
  ·exact .inl h
  ·exact .inr (.inl h)
  ·exact .inr (.inr (.inl ⟨h.1,h.2.1,h.2.2.1,h.2.2.2.1,A8S args h.2.2.2.2⟩))
  ·refine .inr (.inr (.inr ⟨h.1,h.2.1,h.2.2.1,h.2.2.2.1,?_⟩))
   have h5:=h.2.2.2.2;split
   ·rename_i hl;rw[if_pos hl]at h5;exact A60 args h5
   ·rename_i hl;rw[if_neg hl]at h5;exact A60 args h5
theorem A8S:∀(l:List Ex) {d:Nat},A2k l (d+1)->A2k l d
 | [],d,_=>by rw[A2k];trivial
 |e::l,d,h=>by rw[A2k]at h |-;exact⟨e.fit_down h.1,A8S l h.2⟩
theorem A60:∀(l:List Ex) {d n:Nat},A3z l (d+1) n->A3z l d n
 | [],d,n,_=>by rw[A3z];trivial
 |e::l,d,n,h=>by rw[A3z]at h |-;exact⟨e.fit_down h.1,A60 l h.2⟩
 end
theorem Ex.fit_par {e:Ex}{d:Nat} (h:e.fitE (d+1) 1) (l:Nat):e.fitE d l:=by
 cases e with
 |mk k nm n args f t=>
  rw[Ex.fitE]at h |-;refine⟨by omega,?_⟩
  rcases h.2 with h|h|h|h
  ·exact .inl h
  ·exact .inr (.inl h)
  ·exact .inr (.inr (.inl ⟨h.1,h.2.1,h.2.2.1,h.2.2.2.1,A8S args h.2.2.2.2⟩))
  ·refine .inr (.inr (.inr ⟨h.1,h.2.1,h.2.2.1,h.2.2.2.1,?_⟩))
   have h5:=h.2.2.2.2;rw[if_neg (by have:=h.2.1;omega)]at h5;split
   ·exact h5
   ·exact A60 args h5
theorem A8T:∀ {l:List Ex}{d:Nat}{e:Ex},A2k l d->e.fitE d 1->A2k (l++ [e]) d
 | [],d,e,_,he=>by rw[P5,A2k,A2k];exact⟨he,trivial⟩
 |a::l,d,e,h,he=>by rw[A2k]at h;rw[Y0,A2k];exact⟨h.1,A8T h.2 he⟩
theorem B5y {T:Src}{s:St}{w:List UInt8} (h:(s.need T w).2.ds= []):T.is s.i w=true/\(s.need T w).2=s.next:=by
 rw[St.need]at h |-;by_cases hw:T.is s.i w=true
 ·rw[if_pos hw];exact⟨hw,rfl⟩
 ·rw[if_neg hw]at h;exact absurd h (A2A _ _ _)
theorem A7q {T:Src}{s:St} (h:(s.named T).2.ds= []):name (T.tok s.i).text=true/\s.named T=((T.tok s.i).text,s.next):=by
 rw[St.named]at h |-;by_cases hw:name (T.tok s.i).text=true
 ·rw[if_pos hw];exact⟨hw,rfl⟩
 ·rw[if_neg hw]at h
  split at h
  ·exact absurd h (A2A _ _ _)
  ·exact absurd h (A2A _ _ _)
def C6h (T:Src) (s:St) (m:Nat):Prop:=A1i (T.tok s.i).text<m\/A1i (T.tok s.i).text=0
theorem A9o (T:Src):∀f,(∀d s,3 *(T.l.length-s.i)+2<=f->(A2Z T f d s).2.ds= []->(∀l,(A2Z T f d s).1.fitE d l)/\s.i<(A2Z T f d s).2.i)/\
  (∀d l s,3 *(T.l.length-s.i)+4<=f->(A4e T f d l s).2.ds= []->l.length<=5->A2k l d->(A4e T f d l s).1.length<=5/\A2k (A4e T f d l s).1 d)/\
  (∀d m s,3 *(T.l.length-s.i)+3<=f->(A0O T f d m s).2.ds= []->(A0O T f d m s).1.fitE d m/\s.i<(A0O T f d m s).2.i/\C6h T (A0O T f d m s).2 m)/\
  (∀d m e s,3 *(T.l.length-s.i)+1<=f->(opL T f d m e s).2.ds= []->((∀l,e.fitE d l)\/∃n1,m<=n1/\(∀l,l<=n1->e.fitE d l)/\A1i (T.tok s.i).text<=n1)->(opL T f d m e s).1.fitE d m/\C6h T (opL T f d m e s).2 m)
 |0=>⟨fun _ _ h=>by omega,fun _ _ _ h=>by omega,fun _ _ _ h=>by omega,fun _ _ _ _ h=>by omega⟩
 |f+1=>by
  obtain⟨hA,hL,hE,hO⟩:=A9o T f;obtain⟨rA,rL,rE,rO⟩:=A3t T f;refine⟨fun d s hf h=>?_,fun d l s hf h hl hx=>?_,fun d m s hf h=>?_,fun d m e s hf h he=>?_⟩
  ·rw[A2Z]at h |-
   dsimp only at h |-;by_cases c1:T.l.length<=s.i
   ·rw[if_pos c1]at h;exact absurd h (A2A _ _ _)
   rw[if_neg c1]at h |-;by_cases c2:12<=d
   ·rw[if_pos c2]at h;exact absurd h (A2A _ _ _)
   rw[if_neg c2]at h |-;by_cases c3:(T.tok s.i).kind=2
   ·rw[if_pos c3]at h |-
    by_cases c4:1000000000<A4v (T.tok s.i).text
    ·rw[if_pos c4]at h;exact absurd h (A2A _ _ _)
    rw[if_neg c4];refine⟨fun l=>?_,Nat.lt_succ_self _⟩
    rw[Ex.fitE];exact⟨by omega,.inl ⟨rfl,rfl,by omega,rfl⟩⟩
   rw[if_neg c3]at h |-;by_cases c4:(T.tok s.i).text= [40]
   ·rw[if_pos c4]at h |-
    obtain⟨h1,h2⟩:=B5y h;dsimp only at h |-;rw[h2]at h |-;obtain⟨g1,g2,_⟩:=hE (d+1) 1 s.next (by rw[Q5];omega) h;rw[Q5]at g2;exact⟨fun l=>Ex.fit_par g1 l,by rw[Q5];omega⟩
   rw[if_neg c4]at h |-;by_cases c5:name (T.tok s.i).text=true
   ·rw[if_neg (by simp[c5])]at h |-
    by_cases c6:T.is (s.i+1) [40]=true
    ·rw[if_neg (by simp[c6])]at h |-
     obtain⟨h1,h2⟩:=B5y h;dsimp only at h |-;rw[h2]at h |-;have c7:=A1H c6;obtain⟨g1,g2⟩:=hL (d+1) [] s.next.next (by rw[Q5,Q5];omega) h (H7 _) (by rw[A2k];trivial);have g3:=(rL (d+1) [] s.next.next).on;rw[Q5,Q5]at g3;refine⟨fun l=>?_,by rw[Q5];omega⟩
     rw[Ex.fitE];exact⟨by omega,.inr (.inr (.inl ⟨rfl,c5,rfl,g1,g2⟩))⟩
    ·rw[if_pos (by simp[c6])]
     refine⟨fun l=>?_,Nat.lt_succ_self _⟩
     rw[Ex.fitE];exact⟨by omega,.inr (.inl ⟨rfl,c5,rfl,rfl⟩)⟩
   ·rw[if_pos (by simp[c5])]at h;exact absurd h (A2A _ _ _)
  ·rw[A4e]at h |-
   by_cases c1:T.l.length<=s.i\/T.is s.i [41]=true
   ·rw[if_pos c1];exact⟨hl,hx⟩
   rw[if_neg c1]at h |-;have c0:s.i<T.l.length:=by omega
   by_cases c2:l.length=5
   ·rw[if_pos c2]at h;exact absurd h (A2A _ _ _)
   rw[if_neg c2]at h |-;dsimp only at h |-;have hsn:∀e:Ex,(l++ [e]).length<=5:=fun e=>by rw[E9,A1I];omega
   by_cases c3:T.is (A0O T f d 1 s).2.i [44]=true
   ·rw[if_pos c3]at h |-
    obtain⟨g1,g2,_⟩:=hE d 1 s (by omega) (((A0D T _).trans (rL _ _ _)).clean h);have:=A1H c3;exact hL d _ _ (by rw[Q5];omega) h (hsn _) (A8T hx g1)
   ·rw[if_neg c3]at h |-
    obtain⟨g1,g2,_⟩:=hE d 1 s (by omega) h;exact⟨hsn _,A8T hx g1⟩
  ·rw[A0O]at h |-
   obtain⟨g1,g2⟩:=hA d s (by omega) ((rO _ _ _ _).clean h);have g3:=(rO d m (A2Z T f d s).1 (A2Z T f d s).2).on;obtain⟨g4,g5⟩:=hO d m _ _ (by omega) h (.inl g1);exact⟨g4,by omega,g5⟩
  ·rw[opL]at h |-
   dsimp only at h |-;by_cases c1:A1i (T.tok s.i).text<m\/A1i (T.tok s.i).text=0
   ·rw[if_pos c1]at h |-
    refine⟨?_,c1⟩
    rcases he with he|⟨n1,h1,h2,_⟩
    ·exact he m
    ·exact h2 m h1
   rw[if_neg c1]at h |-;have c0:=A2e (B05 (fun e=>c1 (.inr e)));obtain⟨g1,g2,g3⟩:=hE d (A1i (T.tok s.i).text+1) s.next (by rw[Q5];omega) ((rO _ _ _ _).clean h);rw[Q5]at g2;refine hO d m _ _ (by omega) h (.inr ⟨A1i (T.tok s.i).text,by omega,fun l hl=>?_,by rcases g3 with g3|g3<;>omega⟩)
   have ge:e.fitE d (A1i (T.tok s.i).text):=by
    rcases he with he|⟨n1,h1,h2,h3⟩
    ·exact he _
    ·exact h2 _ h3
   rw[Ex.fitE];have hd:d<12:=by cases e;rw[Ex.fitE]at ge;exact ge.1
   refine⟨hd,.inr (.inr (.inr ⟨rfl,fun e=>c1 (.inr e),rfl,rfl,?_⟩))⟩
   rw[if_neg (by omega),A3z,A3z,A3z];exact⟨ge,g1,trivial⟩
end Go.Sp
namespace Go.Proofs
open Go.Proofs.Tryz
open Go.Sp
open Go.Fw
structure CpX where
 k:Nat
 I:P6
 a:Option Addr
 cp:Nat
 xs:List Value
abbrev C7Y (e:Sp.Ex):Value->P6->List HItem->Prop:=fun v I' H'=>H'= []/\∃ea ec xs,v=.agg (A0z e ea ec).toArray/\RowI I' 109 6 (.slice ea e.args.length ec) e.args.length xs/\Y7 I' e.args xs
theorem B4I:∀(n:Nat) (e:Sp.Ex),SizeOf.sizeOf e<=n->e.small->∀(I:P6) (ea:Option Addr) (ec:Nat) (xs:List Value),RowI I 109 6 (.slice ea e.args.length ec) e.args.length xs->Y7 I e.args xs->
  CalM prog 115 #[.agg (A0z e ea ec).toArray] I [] (C7Y e):=by
 intro n;induction n with
 |zero=>intro e h;cases e;simp at h
 |succ n ih=>
 intro e hsz hsm I ea ec xs hr hx;obtain⟨hal,hasm⟩:=A3X hsm;refine CalM.of fun w E hm=>enter (N:=22) func115 rfl [(0,.agg (A0z e ea ec).toArray)] A0I rfl ?_
 repeat' (first|refine A0K (d:=1) ?_ hm;clear hm;intro b1 _ hm|refine U1 (d:=2) ?_ hm;clear hm;intro b2 _ hm|refine J4 ?_ hm|refine D8 ?_|refine D6 ?_|refine G7 ?_|refine C9 ?_|refine D9 ?_|refine A7 ?_|refine E8 ?_|refine A8 ?_|refine F5 ?_)
 have hm:=hm.nil 109 6;refine U2 (fun x:CpX=> [(1,ptr b1),(2,ptr b2),(3,.slice x.a x.k x.cp),(7,.slice ea e.args.length ec),(8,nt e.args.length),(9,nt x.k)])
  (fun x w'=>Mem E x.I [B8r x.k x.a x.cp x.xs,.cell b2 ex0 109,.cell b1 (A0z e ea ec) 109] w'/\Le I x.I/\Y7 x.I (e.args.take x.k) x.xs/\x.k<=e.args.length)
  (fun x=>e.args.length-x.k) ⟨0,I,none,0,[]⟩ (by exact⟨rfl,rfl,rfl,rfl,rfl,rfl,trivial⟩) ⟨hm,Le.refl _,.nil,H7 _⟩ ?_
 clear hm;rintro⟨k,I1,a1,cp1,xs1⟩ w2 ⟨hm,hle1,hxs,hk⟩;dsimp only at hm hle1 hxs hk |-;by_cases hlt:k<e.args.length
 ·have hg:e.args[k]?=some e.args[k]:=G6 hlt
  have hme:e.args[k]∈e.args:=O7 hlt;obtain⟨ea2,ec2,xs2,hc2,hr2,hx2⟩:=(hx.get hg).out;have hsm2:=A1G hasm hg;have hsz2:=A2r hme;generalize e.args[k]=y at hg hc2 hr2 hx2 hsm2 hsz2;have hcall:=fun (I':P6) (m:Le I I')=>ih y (by omega) hsm2 I' ea2 ec2 xs2 (hr2.le m) (Y7.le m _ _ hx2)
  have htk:e.args.take (k+1)=e.args.take k++ [y]:=by rw[A3f,hg];rfl
  have hri:=hr.le hle1;repeat' (first|refine O0 ?_ (hr:=hri);intro bt ot hpt;rw[show ((k:Int).toNat *6)=k *6 from rfl,hc2]at hpt|refine F6 ?_ hm (hc:=hcall _ hle1);clear hm;rintro _ I2 _ _ ⟨rfl,ea3,ec3,xs3,rfl,hr3,hx3⟩ hle hm;have hleI2:=hle;try simp only[F9]at hm|refine Y5 (d:=5) ?_ hm;clear hm;intro b5 _ hm|refine A2l (d:=17) ?_ hm;clear hm;intro a17 cp17 _ _ hm;try simp only[F9]at hm|refine Y1 ?_ hm|refine X3 ?_ hm|refine D8 ?_|refine D6 ?_|refine J6 ?_|refine P7 ?_|refine D9 ?_|refine A7 ?_|refine D7 ?_|refine E8 ?_|refine A8 ?_|refine F5 ?_|refine G5 ?_|(refine D5 (ht:=fun _=>?_) (hf:=fun _=>?_)<;>try first|contradiction|omega))
  refine L9 (⟨k+1,I2,_,_,_⟩:CpX) (by exact⟨rfl,rfl,rfl,rfl,rfl,rfl,trivial⟩) ⟨hm.tl,hle1.trans hleI2,?_,by dsimp only;omega⟩ (by dsimp only;omega)
  dsimp only
  rw[htk];exact(Y7.le hleI2 _ _ hxs).snoc (A6l hr3 hx3)
 ·obtain rfl:k=e.args.length:=by omega
  rw[V5]at hxs;repeat' (first|refine Y1 ?_ hm|refine N7 ?_ hm;clear hm;intro _ hm;try simp only[F9]at hm|refine O6 hm (k:=?_);clear hm;intro _ hm;try simp only[F9]at hm|refine Y4 ?_ hm|refine D8 ?_|refine J6 ?_|refine C9 ?_|refine D9 ?_|refine A7 ?_|refine H9 ?_|refine H5 ?_|refine E8 ?_|refine A8 ?_|refine P9 ?_|refine H8 ?_|(refine D5 (ht:=fun _=>?_) (hf:=fun _=>?_)<;>try first|contradiction|omega))
  obtain⟨I3,hle3,hm3,hrow3⟩:=(hm.front 0 rfl).freeze;exact⟨I3,[],⟨rfl,a1,cp1,xs1,rfl,hrow3,Y7.le hle3 _ _ hxs⟩,hm3.left (H:= [])⟩
abbrev C7Z (l:List Sp.Stm):Value->P6->List HItem->Prop:=fun v I' H'=>H'= []/\∃a c xs,v=.slice a l.length c/\RowI I' 111 15 (.slice a l.length c) l.length xs/\X6 I' l xs
theorem B9m:∀(n:Nat) (l:List Sp.Stm),SizeOf.sizeOf l<=n->l.length<=64->A0i l->∀(I:P6) (a:Option Addr) (c:Nat) (xs:List Value),RowI I 111 15 (.slice a l.length c) l.length xs->X6 I l xs->
  CalM prog 77 #[.slice a l.length c] I [] (C7Z l):=by
 intro n;induction n with
 |zero=>intro l h;cases l<;>simp at h
 |succ n ih=>
 intro l hsz hll hsm I a c xs hr hx;refine CalM.of fun w E hm=>enter (N:=30) func77 rfl [(0,.slice a l.length c)] A0I rfl ?_
 repeat' (first|refine D8 ?_|refine D6 ?_|refine G7 ?_|refine D9 ?_|refine A7 ?_|refine E8 ?_|refine A8 ?_|refine F5 ?_)
 have hm:=hm.nil 111 15;refine U2 (fun x:CpX=> [(3,.slice x.a x.k x.cp),(6,.slice a l.length c),(7,nt l.length),(8,nt x.k)])
  (fun x w'=>Mem E x.I [B70 x.k x.a x.cp x.xs] w'/\Le I x.I/\X6 x.I (l.take x.k) x.xs/\x.k<=l.length)
  (fun x=>l.length-x.k) ⟨0,I,none,0,[]⟩ (by exact⟨rfl,rfl,rfl,rfl,trivial⟩) ⟨hm,Le.refl _,.nil,H7 _⟩ ?_
 clear hm;rintro⟨k,I1,a1,cp1,xs1⟩ w2 ⟨hm,hle1,hxs,hk⟩;dsimp only at hm hle1 hxs hk |-;by_cases hlt:k<l.length
 ·have hg:l[k]?=some l[k]:=G6 hlt
  have hme:=A3w (O7 hlt);obtain⟨ea2,ec2,ex2,a2,c2,xs2,a3,c3,xs3,hc2,hr2,hx2,hr3,hx3,hr4,hx4⟩:=(hx.get hg).out;have hsm2:=A1D hsm hg;generalize l[k]=y at hg hc2 hr2 hx2 hr3 hx3 hr4 hx4 hsm2 hme;obtain⟨s1,s2,s3,s4,s5⟩:=A1S hsm2;obtain⟨z1,z2⟩:=A5T (s:=y);have hce:=fun (I':P6) (m:Le I I')=>B4I (SizeOf.sizeOf y.e) y.e (G9 _) s1 I' ea2 ec2 ex2 (hr2.le m) (Y7.le m _ _ hx2)
  have hct:=fun (I':P6) (m:Le I I')=>ih y.thn (by omega) s2 s3 I' a2 c2 xs2 (hr3.le m) (X6.le m _ _ hx3)
  have hcl:=fun (I':P6) (m:Le I I')=>ih y.els (by omega) s4 s5 I' a3 c3 xs3 (hr4.le m) (X6.le m _ _ hx4)
  have htk:l.take (k+1)=l.take k++ [y]:=by rw[A3f,hg];rfl
  have hri:=hr.le hle1;repeat' (first|refine A8s (id:=5) (hm.perm pm0) [([0,1,3,4,6,7],[2]),([9],[5]),([],[8])] 10 (h:=?_);clear hm;intro wd hR hm|refine O0 ?_ (hr:=hri);intro bt ot hpt;rw[show ((k:Int).toNat *15)=k *15 from rfl,hc2]at hpt|refine U7 (d:=14) ?_ hm (hc:=hce _ hle1);clear hm;rintro _ I2 _ _ ⟨rfl,ea3,ec3,ex3,rfl,hr5,hx5⟩ hle hm;have hleI2:=hle;try simp only[F9]at hm|refine U7 (d:=17) ?_ hm (hc:=hct _ (hle1.trans hleI2));clear hm;rintro _ I3 _ _ ⟨rfl,a4,c4,xs4,rfl,hr6,hx6⟩ hle hm;have hleI3:=hle;try simp only[F9]at hm|refine U7 (d:=20) ?_ hm (hc:=hcl _ ((hle1.trans hleI2).trans hleI3));clear hm;rintro _ I4 _ _ ⟨rfl,a5,c5,xs5,rfl,hr7,hx7⟩ hle hm;have hleI4:=hle;try simp only[F9]at hm|refine Y3 ?_ hR|refine A4o ?_ hR|refine B2F ?_|refine B2E ?_|refine A0w ?_|refine C4R ?_|refine B6d ?_;replace hm:=hR.back hm;clear hR;try simp only[F9]at hm|refine Y5 (d:=5) ?_ hm;clear hm;intro b5 _ hm|refine A2l (d:=27) ?_ hm;clear hm;intro a27 cp27 _ _ hm;try simp only[F9]at hm|refine Y1 ?_ hm|refine X3 ?_ hm|refine O6 hm (k:=?_);clear hm;intro _ hm;try simp only[F9]at hm|refine A3m ?_ hm;clear hm;intro _ hm;try simp only[F9]at hm|refine D8 ?_|refine D6 ?_|refine J6 ?_|refine P7 ?_|refine C9 ?_|refine D9 ?_|refine A7 ?_|refine D7 ?_|refine E8 ?_|refine A8 ?_|refine F5 ?_|refine G5 ?_|(refine D5 (ht:=fun _=>?_) (hf:=fun _=>?_)<;>try first|contradiction|omega)|refine J8 ?_)
  refine L9 (⟨k+1,I4,_,_,_⟩:CpX) (by exact⟨rfl,rfl,rfl,rfl,trivial⟩) ⟨hm.tl,((hle1.trans hleI2).trans hleI3).trans hleI4,?_,by dsimp only;omega⟩ (by dsimp only;omega)
  dsimp only
  rw[htk];exact(X6.le ((hleI2.trans hleI3).trans hleI4) _ _ hxs).snoc (B0m (hr5.le (hleI3.trans hleI4)) (Y7.le (hleI3.trans hleI4) _ _ hx5) (hr6.le hleI4) (X6.le hleI4 _ _ hx6) hr7 hx7)
 ·obtain rfl:k=l.length:=by omega
  rw[V5]at hxs;repeat' (first|refine D8 ?_|refine D6 ?_|refine J6 ?_|refine D9 ?_|refine A7 ?_|refine H9 ?_|refine H5 ?_|refine E8 ?_|refine A8 ?_|refine P9 ?_|refine H8 ?_|refine J9 ?_|(refine D5 (ht:=fun _=>?_) (hf:=fun _=>?_)<;>try first|contradiction|omega))
  obtain⟨I3,hle3,hm3,hrow3⟩:=(hm.front 0 rfl).freeze;exact⟨I3,[],⟨rfl,a1,cp1,xs1,rfl,hrow3,X6.le hle3 _ _ hxs⟩,hm3.left (H:= [])⟩
structure NI where
 k:Nat
 I:P6
structure FE (I:P6) (its:List Sp.Itm) (a:Option Addr) (cp:Nat) (xs:List Value):Prop where
 row:RowI I 43 10 (.slice a its.length cp) its.length xs
 ats:A5f I its xs
 few:its.length<=64
theorem B99 {I:P6}{its:List Sp.Itm}{a:Option Addr}{cp:Nat}{xs:List Value} (h1:RowI I 43 10 (.slice a its.length cp) its.length xs) (h2:A5f I its xs) (h3:its.length<=30):FE I its a cp xs:=⟨h1,h2,by omega⟩
theorem FE.le {I I':P6}{its:List Sp.Itm}{a:Option Addr}{cp:Nat}{xs:List Value} (h:FE I its a cp xs) (m:Le I I'):FE I' its a cp xs:=⟨h.row.le m,h.ats.le m,h.few⟩
theorem FE.get {I:P6}{its:List Sp.Itm}{a:Option Addr}{cp:Nat}{xs:List Value} (h:FE I its a cp xs) {k:Nat}{it:Sp.Itm} (hg:its[k]?=some it):∃cs,(xs.drop (k *10)).take 10=cs/\A5W I it cs/\cs.length=10:=
 ⟨_,rfl,h.ats.get hg,(h.ats.get hg).len⟩
theorem C5l (I:P6) (k:Int) (n:List UInt8) (bk bn:Nat) (hk:PtrI I bk 0 3 [.int .i64 k]) (hn:PtrI I bn 0 9 [str n]) (it:Sp.Itm) (cs:List Value) (hi:A5W I it cs):
  CalM prog 91 #[.agg cs.toArray,ptr bk,ptr bn] I [] (fun v _ H'=>v=.bool (C3c k n it)/\H'= []):=by
 obtain⟨ap,cp,as_,cs',ab,cb,ad,cd,xb,rfl,r1,r2,r3,r4,r5⟩:=hi;refine CalM.of fun w E hm=>enter (N:=19) func91 rfl [(0,.agg (A1z it.kind it.name it.label (.slice ap it.params.length cp) (.slice as_ it.sends.length cs') (.slice ab it.body.length cb) it.at_ it.size it.mark (.slice ad it.diags.length cd)).toArray),(1,ptr bk),(2,ptr bn)] A3C rfl ?_
 repeat' (first|refine A0K (d:=3) ?_ hm;clear hm;intro b3 _ hm|refine J4 ?_ hm|refine A1w ?_ hm|refine D8 ?_|refine D6 ?_|refine O9 ?_|refine L8 ?_|refine N9 ?_|refine V9 ?_|refine A08 ?_|refine C9 ?_|refine A0N ?_|(refine N8 (h1:=fun _=>?_) (h0:=fun _=>?_)<;>try first|contradiction|omega)|refine D9 ?_|refine A7 ?_|refine E8 ?_|refine A8 ?_|refine H8 ?_|refine J9 ?_)
 all_goals (refine⟨I,[],⟨congrArg Value.bool ?_,rfl⟩,hm.left (H:= [])⟩;simp_all [C3c])
theorem C5m (fi:FuncId) [Own prog fi] (ca:List Value) (F:Sp.Itm->Bool) (its:List Sp.Itm) (I:P6) (a:Option Addr) (cp:Nat) (xs:List Value) (h:FE I its a cp xs)
  (hF:∀I',Le I I'->∀it cs,A5W I' it cs->CalM prog fi (.agg cs.toArray::ca).toArray I' [] (fun v _ H'=>v=.bool (F it)/\H'= [])):
  CalM prog 90 #[.slice a its.length cp,.func (.func fi) #[] ca.toArray] I [] (fun v _ H'=>v=.int .i64 (C3a F its)/\H'= []):=by
 refine CalM.of fun w E hm=>enter (N:=19) func90 rfl [(0,.slice a its.length cp),(1,.func (.func fi) #[] ca.toArray)] A0T rfl ?_
 have hfew:=h.few;repeat' (first|refine D8 ?_|refine D6 ?_|refine G7 ?_|refine D9 ?_|refine A7 ?_|refine E8 ?_|refine A8 ?_|refine F5 ?_)
 refine U2 (fun x:NI=> [(0,.slice a its.length cp),(1,.func (.func fi) #[] ca.toArray),(7,nt its.length),(8,nt x.k)])
  (fun x w'=>Mem E x.I [] w'/\Le I x.I/\x.k<=its.length/\∀j it',j<x.k->its[j]?=some it'->F it'=false) (fun x=>its.length-x.k) ⟨0,I⟩ (by exact⟨rfl,rfl,rfl,rfl,trivial⟩) ⟨hm,Le.refl _,H7 _,fun j _ hj=>absurd hj (Nat.not_lt_zero j)⟩ ?_
 clear hm;rintro⟨k,I1⟩ w1 ⟨hm,hle1,hk,hno⟩;dsimp only at hm hle1 hk hno |-;by_cases hlt:k<its.length
 ·have hg:its[k]?=some its[k]:=G6 hlt
  obtain⟨cs,hcs,hat,hl10⟩:=(h.le hle1).get hg;have hri:=(h.le hle1).row;have hc:=hF I1 hle1 _ cs hat
  generalize its[k]=it at hg hat hc;cases hb:F it with
  |true=>
   rw[hb]at hc;repeat' (first|refine O0 (d:=14) ?_ (hr:=hri);intro bt ot hpt;rw[show ((k:Int).toNat *10)=k *10 from rfl,hcs]at hpt|refine X3 (d:=15) ?_ hm (hp:=hpt) (hc:=by exact hl10)|refine B2v (d:=16) ?_ hm (hp:=pm0) (hc:=by exact hc);clear hm;rintro _ I2 _ _ ⟨rfl,rfl⟩ hle hm|refine D8 ?_|refine D6 ?_|refine J6 ?_|refine D9 ?_|refine A7 ?_|refine G8 ?_|refine O1 ?_|refine E8 ?_|refine A8 ?_|refine F5 ?_|refine G5 ?_|refine H8 ?_|refine J9 ?_|refine H6 ?_|(refine D5 (ht:=fun _=>?_) (hf:=fun _=>?_)<;>try first|contradiction|omega))
   exact⟨I2,[],⟨by rw[C49 hg hb hno],rfl⟩,hm.left (H:= [])⟩
  |false=>
   rw[hb]at hc;repeat' (first|refine O0 (d:=14) ?_ (hr:=hri);intro bt ot hpt;rw[show ((k:Int).toNat *10)=k *10 from rfl,hcs]at hpt|refine X3 (d:=15) ?_ hm (hp:=hpt) (hc:=by exact hl10)|refine B2v (d:=16) ?_ hm (hp:=pm0) (hc:=by exact hc);clear hm;rintro _ I2 _ _ ⟨rfl,rfl⟩ hle hm|refine D8 ?_|refine D6 ?_|refine J6 ?_|refine P7 ?_|refine D9 ?_|refine A7 ?_|refine D7 ?_|refine E8 ?_|refine A8 ?_|refine F5 ?_|refine G5 ?_|refine F7 ?_|(refine D5 (ht:=fun _=>?_) (hf:=fun _=>?_)<;>try first|contradiction|omega))
   refine L9 (⟨k+1,I2⟩:NI) (by exact⟨rfl,rfl,rfl,rfl,trivial⟩) ⟨hm.left (H:= []),hle1.trans hle,by dsimp only;omega,fun j it' hj hg'=>?_⟩ (by dsimp only;omega)
   rcases U0 j k with hjk|hjk
   ·exact hno j it' hjk hg'
   ·obtain rfl:j=k:=by dsimp only at hj;omega
    rw[hg]at hg';obtain rfl:=A0Y hg';exact hb
 ·obtain rfl:k=its.length:=by omega
  repeat' (first|refine D6 ?_|refine J6 ?_|refine D9 ?_|refine A7 ?_|refine H9 ?_|refine H5 ?_|refine E8 ?_|refine A8 ?_|refine P9 ?_|refine H8 ?_|refine J9 ?_|(refine D5 (ht:=fun _=>?_) (hf:=fun _=>?_)<;>try first|contradiction|omega))
  exact⟨I1,[],⟨by rw[C1a hno],rfl⟩,hm.left (H:= [])⟩
theorem A7b (k:Int) (n:List UInt8) (its:List Sp.Itm) (I:P6) (a:Option Addr) (cp:Nat) (xs:List Value) (h:FE I its a cp xs):
  CalM prog 61 #[.agg [.slice a its.length cp].toArray,.int .i64 k,str n] I [] (fun v _ H'=>v=.int .i64 (A4c its k n)/\H'= []):=by
 refine CalM.of fun w E hm=>enter (N:=11) func61 rfl [(0,.agg [.slice a its.length cp].toArray),(1,.int .i64 k),(2,str n)] A3C rfl ?_
 repeat' (first|refine A0K (d:=3) ?_ hm;clear hm;intro b3 _ hm|refine A0K (d:=4) ?_ hm;clear hm;intro b4 _ hm|refine A0K (d:=5) ?_ hm;clear hm;intro b5 _ hm|refine J4 ?_ hm|refine D6 ?_|refine A1o ?_|refine C9 ?_|refine D9 ?_|refine A7 ?_|refine E8 ?_|refine A8 ?_)
 obtain⟨I2,hle2,hm2,hpn⟩:=hm.freezeO;obtain⟨I3,hle3,hm3,hpk⟩:=hm2.freezeO;clear hm hm2;have hm:=hm3;clear hm3;have hc:=C5m 91 [ptr b4,ptr b5] (C3c k n) its I3 a cp xs ((h.le hle2).le hle3) (fun I' m it cs hi=>C5l I' k n b4 b5 (hpk.le m) ((hpn.le hle3).le m) it cs hi);repeat' (first|refine F6 (d:=10) ?_ hm (hc:=hc);clear hm;rintro _ I4 _ _ ⟨rfl,rfl⟩ hle hm;have hleI4:=hle;try simp only[F9]at hm|refine D6 ?_|refine D9 ?_|refine A7 ?_|refine H8 ?_|refine J9 ?_)
 exact⟨I4,[],⟨rfl,rfl⟩,hm.left (H:= [])⟩
abbrev A8t (e:Sp.Ev):List Value:= [str e.ch,.int .i64 e.n]
abbrev A8Q (c:Sp.Cl):List Value:= [str c.name,.int .i64 c.n]
theorem B20:∀ {sc:List Sp.Cl}{i:Nat}{p:Sp.Cl},sc[i]?=some p->(sc.flatMap A8Q)[i *2]?=some (str p.name)/\(sc.flatMap A8Q)[i *2+1]?=some (.int .i64 p.n)
 | [],i,p,h=>by simp at h
 |a::sc,0,p,h=>by
  simp only[A0A,U3]at h;subst h;exact⟨rfl,rfl⟩
 |a::sc,i+1,p,h=>by
  rw[A0E]at h;obtain⟨h1,h2⟩:=B20 h;rw[show (i+1) *2=i *2+2 by omega];exact⟨h1,h2⟩
theorem B4j:∀ {sc:List Sp.Cl}{i:Nat}{p:Sp.Cl} (v:Int),sc[i]?=some p->(sc.flatMap A8Q).set (i *2+1) (.int .i64 v)=(sc.set i ⟨p.name,v⟩).flatMap A8Q
 | [],i,p,v,h=>by simp at h
 |a::sc,0,p,v,h=>by
  simp only[A0A,U3]at h;subst h;rfl
 |a::sc,i+1,p,v,h=>by
  rw[A0E]at h;have:=B4j v h;rw[show (i+1) *2+1=(i *2+1)+2 by omega,A7X,A0a,A0a, <-this];rfl
theorem C0U (sc:List Sp.Cl):(sc.flatMap A8Q).length=sc.length *2:=by
 induction sc with
 |nil=>rfl
 |cons a sc ih=>
  rw[A0a,E9,ih];show 2+sc.length *2=(sc.length+1) *2
  omega
abbrev B3l (bm bf:Nat) (m:Sp.MR) (ea:Option Addr) (ep deep:Nat):HItem:=.cell bm [ptr bf,.slice ea m.ev.length ep,nt m.steps,nt deep,nt m.err] 143
abbrev A6Y (m:Sp.MR) (ea:Option Addr) (ep:Nat):HItem:=.row (.slice ea m.ev.length ep) 186 2 m.ev.length (m.ev.flatMap A8t)
abbrev A9M (br bm:Nat) (sc:List Sp.Cl) (sa:Option Addr) (sp:Nat) (back:Int):HItem:=.cell br [ptr bm,.slice sa sc.length sp,.int .i64 back] 192
abbrev A9Y (sc:List Sp.Cl) (sa:Option Addr) (sp:Nat):HItem:=.row (.slice sa sc.length sp) 194 2 sc.length (sc.flatMap A8Q)
theorem B9v {bm bf:Nat}{m:Sp.MR}{ea:Option Addr}{ep deep:Nat} (hs:m.steps<=3000) (I:P6):
  CalM prog 156 #[ptr bm] I [B3l bm bf m ea ep deep] (fun v _ H'=>v=.bool m.go/\H'= [B3l bm bf m.step ea ep deep]):=by
 refine CalM.of fun w E hm=>enter (N:=23) func156 rfl [(0,ptr bm)] A0I rfl ?_
 by_cases h1:m.err=0
 ·by_cases h2:m.steps=3000
  ·have hg:m.go=false:=by rw[Sp.MR.go,decide_eq_true h1,decide_eq_false (by omega)];rfl
   have hst:m.step= { m with err:=11}:=by rw[Sp.MR.step,if_neg (by omega),if_neg (by omega)]
   rw[hg,hst];repeat' (first|refine J4 ?_ hm|refine O6 hm (k:=?_);clear hm;intro _ hm;try simp only[F9]at hm|refine D8 ?_|refine D6 ?_|refine N9 ?_|refine A0y ?_|refine E5 ?_|refine C9 ?_|refine D9 ?_|refine A7 ?_|refine G8 ?_|refine E8 ?_|refine A8 ?_|refine G5 ?_|refine H8 ?_|refine J9 ?_|(refine D5 (ht:=fun _=>?_) (hf:=fun _=>?_)<;>try first|contradiction|omega))
   exact⟨I,_,⟨rfl,rfl⟩,hm⟩
  ·have hg:m.go=true:=by rw[Sp.MR.go,decide_eq_true h1,decide_eq_true (by omega)];rfl
   have hst:m.step= { m with steps:=m.steps+1}:=by rw[Sp.MR.step,if_neg (by omega),if_pos (by omega)]
   rw[hg,hst];repeat' (first|refine J4 ?_ hm|refine O6 hm (k:=?_);clear hm;intro _ hm;try simp only[F9]at hm|refine D8 ?_|refine D6 ?_|refine N9 ?_|refine A0y ?_|refine E5 ?_|refine P7 ?_|refine C9 ?_|refine D9 ?_|refine A7 ?_|refine E8 ?_|refine A8 ?_|refine G5 ?_|refine H8 ?_|refine J9 ?_|(refine D5 (ht:=fun _=>?_) (hf:=fun _=>?_)<;>try first|contradiction|omega))
   exact⟨I,_,⟨rfl,rfl⟩,hm⟩
 ·have hg:m.go=false:=by rw[Sp.MR.go,decide_eq_false h1];rfl
  have hst:m.step=m:=by rw[Sp.MR.step,if_pos h1]
  rw[hg,hst];repeat' (first|refine J4 ?_ hm|refine D8 ?_|refine D6 ?_|refine A0y ?_|refine E5 ?_|refine C9 ?_|refine D9 ?_|refine A7 ?_|refine G8 ?_|refine E8 ?_|refine A8 ?_|refine H8 ?_|refine J9 ?_|(refine D5 (ht:=fun _=>?_) (hf:=fun _=>?_)<;>try first|contradiction|omega))
  exact⟨I,_,⟨rfl,rfl⟩,hm⟩
theorem C6u {br bm:Nat}{sc:List Sp.Cl}{sa:Option Addr}{sp:Nat}{back:Int} (nm:List UInt8) (I:P6) (hl:sc.length<=1000000000):
  CalM prog 158 #[ptr br,str nm] I [A9M br bm sc sa sp back,A9Y sc sa sp] (fun v _ H'=>
   (∃i p b,sc[i]?=some p/\A7a sc nm=some i/\sa=some ⟨b,0,none⟩/\v=.pointer (some ⟨b,i *2,none⟩)/\H'= [A9M br bm sc sa sp back,A9Y sc sa sp])\/
   (A7a sc nm=none/\∃bl,v=ptr bl/\H'= [.cell bl [str [],.int .i64 0] 194,A9M br bm sc sa sp back,A9Y sc sa sp])):=by
 refine CalM.of fun w E hm=>enter (N:=34) func158 rfl [(0,ptr br),(1,str nm)] A0T rfl ?_
 repeat' (first|refine J4 ?_ hm|refine D8 ?_|refine D6 ?_|refine G7 ?_|refine E5 ?_|refine A3i ?_|refine C9 ?_|refine D9 ?_|refine A7 ?_|refine E8 ?_|refine A8 ?_|refine F5 ?_)
 refine U2 (fun x:Nat=> [(0,ptr br),(1,str nm),(5,.int .i64 ((x:Int)-1))])
  (fun x w'=>Mem E I [A9M br bm sc sa sp back,A9Y sc sa sp] w'/\x<=sc.length/\∀m y,x<=m->sc[m]?=some y->y.name≠nm) (fun x=>x) sc.length (by exact⟨rfl,rfl,rfl,trivial⟩)
  ⟨hm,G9 _,fun m y hm hy=>by rw[A07 hm]at hy;cases hy⟩ ?_
 clear hm;rintro x w1 ⟨hm,hx,hno⟩;try dsimp only at hm hx hno |-
 cases x with
 |zero=>
  repeat' (first|refine A0K (d:=33) ?_ hm;clear hm;intro b33 _ hm|refine D8 ?_|refine D6 ?_|refine A04 ?_|refine Q3 ?_|refine D9 ?_|refine A7 ?_|refine H9 ?_|refine H5 ?_|refine E8 ?_|refine A8 ?_|refine P9 ?_|refine H8 ?_|refine J9 ?_|refine F7 ?_)
  exact⟨I,_,.inr ⟨A8W (fun j y hy=>hno j y (H7 _) hy),b33,rfl,rfl⟩,hm⟩
 |succ i=>
  have hg:sc[i]?=some sc[i]:=G6 hx;generalize sc[i]=p at hg;rw[show ((i+1:Nat):Int)-1=(i:Int) by omega];obtain⟨b,rfl⟩:=(hm.front 1 gt1).rowAddr (by omega);obtain⟨q1,q2⟩:=B20 hg;by_cases hn:p.name=nm
  ·skip
   repeat' (first|refine A0U (i:=1) (d:=23) hm (by rfl) (by rfl) (by rfl) gt1 (by rw[V6,A1P];exact q1) ?_|refine J4 ?_ hm|refine D8 ?_|refine D6 ?_|refine A04 ?_|refine V9 ?_|refine E5 ?_|refine C9 ?_|refine A0L (k:=?_)|refine D9 ?_|refine A7 ?_|refine G8 ?_|refine O1 ?_|refine E8 ?_|refine A8 ?_|refine F5 ?_|refine G5 ?_|refine H8 ?_|refine J9 ?_|refine H6 ?_|(refine D5 (ht:=fun _=>?_) (hf:=fun _=>?_)<;>try first|contradiction|omega))
   exact⟨I,_,.inl ⟨i,p,b,hg,B4o hg hn (fun j y hj hy=>hno j y (by omega) hy),rfl,by rw[V6,A1v],rfl⟩,hm⟩
  ·skip
   repeat' (first|refine A0U (i:=1) (d:=23) hm (by rfl) (by rfl) (by rfl) gt1 (by rw[V6,A1P];exact q1) ?_|refine J4 ?_ hm|refine D8 ?_|refine D6 ?_|refine A04 ?_|refine V9 ?_|refine E5 ?_|refine A3i ?_|refine C9 ?_|refine A0L (k:=?_)|refine D9 ?_|refine A7 ?_|refine D7 ?_|refine E8 ?_|refine A8 ?_|refine F5 ?_|refine G5 ?_|refine H6 ?_|(refine D5 (ht:=fun _=>?_) (hf:=fun _=>?_)<;>try first|contradiction|omega))
   refine L9 (i:Nat) (by exact⟨rfl,rfl,rfl,trivial⟩) ⟨hm,by omega,fun m y hm hy=>?_⟩ (by omega)
   rcases U0 i m with h|h
   ·exact hno m y h hy
   ·obtain rfl:m=i:=by omega
    rw[hg]at hy;obtain rfl:=A0Y hy;exact hn
theorem C8W (nm:List UInt8) (a b:Int) (I:P6):CalM prog 188 #[str nm,.int .i64 a,.int .i64 b] I [] (fun v _ H'=>v=.int .i64 (Sp.opR nm a b)/\H'= []):=by
 refine CalM.of fun w E hm=>enter (N:=33) func188 rfl [(0,str nm),(1,.int .i64 a),(2,.int .i64 b)] A3C rfl ?_
 rw[Sp.opR];by_cases h1:nm= [43]
 ·rw[if_pos h1]
  repeat' (first|refine C5q (by rfl) (by rfl) (by rfl) (by rfl) ?_|refine D8 ?_|refine D6 ?_|refine V9 ?_|refine D9 ?_|refine A7 ?_|refine G8 ?_|refine O1 ?_|refine E8 ?_|refine A8 ?_|refine F5 ?_|refine H8 ?_|refine J9 ?_|(refine D5 (ht:=fun _=>?_) (hf:=fun _=>?_)<;>try first|contradiction|omega))
  exact⟨I,_,⟨rfl,rfl⟩,hm⟩
 rw[if_neg h1];by_cases h2:nm= [45]
 ·rw[if_pos h2]
  repeat' (first|refine C5s (by rfl) (by rfl) (by rfl) (by rfl) ?_|refine D8 ?_|refine D6 ?_|refine V9 ?_|refine D9 ?_|refine A7 ?_|refine G8 ?_|refine O1 ?_|refine E8 ?_|refine A8 ?_|refine F5 ?_|refine H8 ?_|refine J9 ?_|(refine D5 (ht:=fun _=>?_) (hf:=fun _=>?_)<;>try first|contradiction|omega))
  exact⟨I,_,⟨rfl,rfl⟩,hm⟩
 rw[if_neg h2];by_cases h3:nm= [42]
 ·rw[if_pos h3]
  repeat' (first|refine C5r (by rfl) (by rfl) (by rfl) (by rfl) ?_|refine D8 ?_|refine D6 ?_|refine V9 ?_|refine D9 ?_|refine A7 ?_|refine G8 ?_|refine O1 ?_|refine E8 ?_|refine A8 ?_|refine F5 ?_|refine H8 ?_|refine J9 ?_|(refine D5 (ht:=fun _=>?_) (hf:=fun _=>?_)<;>try first|contradiction|omega))
  exact⟨I,_,⟨rfl,rfl⟩,hm⟩
 rw[if_neg h3];by_cases h4:nm= [60]
 ·rw[if_pos h4]
  by_cases h5:a<b
  ·rw[if_pos h5]
   repeat' (first|refine D8 ?_|refine D6 ?_|refine J6 ?_|refine V9 ?_|refine D9 ?_|refine A7 ?_|refine G8 ?_|refine D7 ?_|refine E8 ?_|refine A8 ?_|refine F5 ?_|refine H8 ?_|refine J9 ?_|(refine D5 (ht:=fun _=>?_) (hf:=fun _=>?_)<;>try first|contradiction|omega))
   exact⟨I,_,⟨rfl,rfl⟩,hm⟩
  ·rw[if_neg h5]
   repeat' (first|refine D8 ?_|refine D6 ?_|refine J6 ?_|refine V9 ?_|refine D9 ?_|refine A7 ?_|refine D7 ?_|refine E8 ?_|refine A8 ?_|refine F5 ?_|refine G5 ?_|refine H8 ?_|refine J9 ?_|(refine D5 (ht:=fun _=>?_) (hf:=fun _=>?_)<;>try first|contradiction|omega))
   exact⟨I,_,⟨rfl,rfl⟩,hm⟩
 rw[if_neg h4];by_cases h5:a=b
 ·rw[if_pos h5]
  repeat' (first|refine D8 ?_|refine D6 ?_|refine N9 ?_|refine V9 ?_|refine D9 ?_|refine A7 ?_|refine G8 ?_|refine D7 ?_|refine E8 ?_|refine A8 ?_|refine F5 ?_|refine H8 ?_|refine J9 ?_|(refine D5 (ht:=fun _=>?_) (hf:=fun _=>?_)<;>try first|contradiction|omega))
  exact⟨I,_,⟨rfl,rfl⟩,hm⟩
 ·rw[if_neg h5]
  repeat' (first|refine D8 ?_|refine D6 ?_|refine N9 ?_|refine V9 ?_|refine D9 ?_|refine A7 ?_|refine D7 ?_|refine E8 ?_|refine A8 ?_|refine F5 ?_|refine G5 ?_|refine H8 ?_|refine J9 ?_|(refine D5 (ht:=fun _=>?_) (hf:=fun _=>?_)<;>try first|contradiction|omega))
  exact⟨I,_,⟨rfl,rfl⟩,hm⟩
theorem _root_.Go.Fw.pmR4 {a b c d:HItem}{R:List HItem}:(a::b::c::d::R).Perm ([a,b,c,d]++R):=.refl _
theorem _root_.Go.Fw.pmR41 {x a b c d:HItem}{R:List HItem}:(x::a::b::c::d::R).Perm ([a,b,c,d]++(x::R)):=
 (List.Perm.swap a x _).trans (((List.Perm.swap b x _).trans (((List.Perm.swap c x _).trans ((List.Perm.swap d x R).cons c)).cons b)).cons a)
theorem _root_.Go.Fw.pmRL {x:HItem}{A:List HItem}:(A++ [x]).Perm (x::A):=A0P
abbrev RSt (br bm bf:Nat) (sc:List Sp.Cl) (back:Int) (m:Sp.MR) (sa:Option Addr) (sp:Nat) (va:Option Addr) (vp deep:Nat):List HItem:=
 [A9M br bm sc sa sp back,A9Y sc sa sp,B3l bm bf m va vp deep,A6Y m va vp]
abbrev B8S (l:List Int):List Value:=l.map (fun n=> .int .i64 n)
def B6i (I:P6) (its:List Sp.Itm) (C:A6h) (bm bf deep:Nat):Prop:=
 ∀(J:P6) (nm:List UInt8) (args:List Int) (m:Sp.MR) (va:Option Addr) (vp:Nat) (aa:Option Addr) (ac:Nat),Le I J->(∃j,A0Z its 2 nm=some j/\(A0o its j).params.length=args.length)->
  RowI J 3 1 (.slice aa args.length ac) args.length (B8S args)->m.steps<=3000->m.ev.length<=m.steps->
  CalM prog 62 #[ptr bm,str nm,.slice aa args.length ac] J [B3l bm bf m va vp deep,A6Y m va vp]
   (fun v _ H'=>v=.int .i64 (C nm args m).1/\∃va' vp',H'= [B3l bm bf (C nm args m).2 va' vp' deep,A6Y (C nm args m).2 va' vp'])
structure RunX where
 k:Nat
 I:P6
 va:Option Addr
 vp:Nat
 aa:Option Addr
 ac:Nat
section
variable {I0:P6}{its:List Sp.Itm}{C:A6h}{br bm bf deep:Nat}
theorem C3Z (hW:B6i I0 its C bm bf deep) (hC:A6g C):∀(n:Nat) (e:Sp.Ex),SizeOf.sizeOf e<=n->e.small->e.all (Sp.okE its)->
  ∀(I:P6) (b o tc:Nat) (ea:Option Addr) (ec:Nat) (ys:List Value) (sc:List Sp.Cl) (back:Int) (m:Sp.MR) (sa:Option Addr) (sp:Nat) (va:Option Addr) (vp:Nat),Le I0 I->m.steps<=3000->m.ev.length<=m.steps->sc.length<=1000000000->
  PtrI I b o tc (A0z e ea ec)->RowI I 109 6 (.slice ea e.args.length ec) e.args.length ys->Y7 I e.args ys->
  CalM prog 157 #[ptr br,.pointer (some ⟨b,o,none⟩)] I (RSt br bm bf sc back m sa sp va vp deep)
   (fun v _ H'=>v=.int .i64 (Sp.exR C sc e m).1/\∃va' vp',H'=RSt br bm bf sc back (Sp.exR C sc e m).2 sa sp va' vp' deep):=by
 intro n;induction n with
 |zero=>intro e h;cases e;simp at h
 |succ n ih=>
 intro e hsz hsm hok I b o tc ea ec ys sc back m sa sp va vp hle0 hst hev hsc hp hr hx;obtain⟨hal,hasm⟩:=A3X hsm;obtain⟨hnode,hargs⟩:=Sp.Ex.all_node hok;refine CalM.of fun w E hm=>enter (N:=89) func157 rfl [(0,ptr br),(1,.pointer (some ⟨b,o,none⟩))] A0T rfl ?_
 have hS:=fun (J:P6)=>B9v (bm:=bm) (bf:=bf) (m:=m) (ea:=va) (ep:=vp) (deep:=deep) hst J
 have hto:=A9C hst;have hse:=B53 m;have heq:=C6N C sc e m;have hexs:=B2r hC sc e.args m.step hto.top;obtain⟨r,hr0⟩:∃r,r=Sp.exR C sc e m:=⟨_,rfl⟩;rw[<-hr0]at heq |-;clear hr0;generalize hm1:m.step=m1 at hS hto hse heq hexs;have hevr:A6Y m1 va vp=A6Y m va vp:=by unfold A6Y;rw[hse]
 have hev1:m1.ev.length<=m1.steps:=by have:=hto.ev;have:=hto.up;omega
 cases hgo:m.go with
 |false=>
  rw[hgo,if_pos rfl]at heq;subst heq;rw[hgo]at hS;repeat' (first|refine F6 (d:=13) ?_ hm (hp:=pm1_2) (hc:=hS _);clear hm;rintro _ I2 _ _ ⟨rfl,rfl⟩ hleI2 hm;try simp only[F9]at hm;rw[<-hevr]at hm|refine J4 ?_ hm|refine D8 ?_|refine D6 ?_|refine Y9 ?_|refine E5 ?_|refine C9 ?_|refine D9 ?_|refine A7 ?_|refine G8 ?_|refine E8 ?_|refine A8 ?_|refine H8 ?_|refine J9 ?_|refine H6 ?_)
  exact⟨I2,_,⟨rfl,va,vp,rfl⟩,hm.perm pm2_1⟩
 |true=>
 rw[hgo,if_neg (by simp)]at heq;rw[hgo]at hS;by_cases k1:e.kind=1
 ·rw[if_pos k1]at heq
  subst heq;repeat' (first|refine F6 (d:=13) ?_ hm (hp:=pm1_2) (hc:=hS _);clear hm;rintro _ I2 _ _ ⟨rfl,rfl⟩ hleI2 hm;try simp only[F9]at hm;rw[<-hevr]at hm;have hp2:=hp.le hleI2|refine J4 ?_ hm|refine J5 ?_ hm|refine D8 ?_|refine D6 ?_|refine N9 ?_|refine Y9 ?_|refine E5 ?_|refine C9 ?_|refine D9 ?_|refine A7 ?_|refine G8 ?_|refine O1 ?_|refine E8 ?_|refine A8 ?_|refine F5 ?_|refine G5 ?_|refine H8 ?_|refine J9 ?_|refine F7 ?_|(refine D5 (ht:=fun _=>?_) (hf:=fun _=>?_)<;>try first|contradiction|omega))
  exact⟨I2,_,⟨rfl,va,vp,rfl⟩,hm.perm pm2_1⟩
 rw[if_neg k1]at heq;by_cases k2:e.kind=2
 ·rw[if_pos k2]at heq
  have hG:=fun (J:P6)=>C6u (br:=br) (bm:=bm) (sc:=sc) (sa:=sa) (sp:=sp) (back:=back) e.name J hsc
  rw[C6U]at heq;repeat' (first|refine F6 (d:=13) ?_ hm (hp:=pm1_2) (hc:=hS _);clear hm;rintro _ I2 _ _ ⟨rfl,rfl⟩ hleI2 hm;try simp only[F9]at hm;rw[<-hevr]at hm;have hp2:=hp.le hleI2|refine F6 (d:=32) ?_ hm (hp:=pm2_1) (hc:=hG _);clear hm;rintro _ I3 _ _ (⟨i,p,b2,hgi,hfl,rfl,rfl,rfl⟩|⟨hfl,bl,rfl,rfl⟩) hleI3 hm<;>try simp only[F9]at hm|refine A0U (i:=1) (d:=35) hm (by rfl) (by rfl) (by rfl) gt1 (by exact(B20 hgi).2) ?_|refine J4 ?_ hm|refine J5 ?_ hm|refine D8 ?_|refine D6 ?_|refine N9 ?_|refine Y9 ?_|refine E5 ?_|refine C9 ?_|refine D9 ?_|refine A7 ?_|refine G8 ?_|refine O1 ?_|refine E8 ?_|refine A8 ?_|refine F5 ?_|refine G5 ?_|refine H8 ?_|refine J9 ?_|refine F7 ?_|(refine D5 (ht:=fun _=>?_) (hf:=fun _=>?_)<;>try first|contradiction|omega))
  ·rw[hfl]at heq
   have hd:sc.getD i ⟨[],0⟩=p:=by rw[O4,hgi];rfl
   dsimp only at heq;rw[hd]at heq;subst heq;exact⟨I3,_,⟨rfl,va,vp,rfl⟩,hm⟩
  ·rw[hfl]at heq
   subst heq;exact⟨I3,_,⟨rfl,va,vp,rfl⟩,hm.tl⟩
 rw[if_neg k2]at heq;by_cases k3:e.kind=3
 ·rw[if_pos k3]at heq
  have h2:e.args.length=2:=by
   rcases hnode with h|h|h|h
   ·exact absurd h k1
   ·exact absurd h k2
   ·exact h.2
   ·omega
  have g0:e.args[0]?=some e.args[0]:=G6 (by omega);have g1:e.args[1]?=some e.args[1]:=G6 (by omega);have z0:=A2r (O7 (l:=e.args) (n:=0) (by omega));have z1:=A2r (O7 (l:=e.args) (n:=1) (by omega));have w0:=A1G hasm g0;have w1:=A1G hasm g1;have a0:=A6n hargs g0;have a1:=A6n hargs g1;obtain⟨ea0,ec0,ys0,hc0,hr0,hx0⟩:=(hx.get g0).out;obtain⟨ea1,ec1,ys1,hc1,hr1,hx1⟩:=(hx.get g1).out;have hexs2:=C2O (C:=C) (sc:=sc) h2 g0 g1 m1;rw[hexs2]at heq;generalize e.args[0]=e0 at g0 z0 w0 a0 hc0 hr0 hx0 heq hexs2;generalize e.args[1]=e1 at g1 z1 w1 a1 hc1 hr1 hx1 heq hexs2;have hE0:=fun (J:P6) (mm:Le I J) (b o tc:Nat) (hpt:PtrI J b o tc (A0z e0 ea0 ec0))=>ih e0 (by omega) w0 a0 J b o tc ea0 ec0 ys0 sc back m1 sa sp va vp (hle0.trans mm) hto.top hev1 hsc hpt (hr0.le mm) (Y7.le mm _ _ hx0)
  have t0:=B1m hC sc e0 m1 hto.top;generalize Sp.exR C sc e0 m1=r0 at hE0 t0 heq;have hE1:=fun (J:P6) (mm:Le I J) (va:Option Addr) (vp b o tc:Nat) (hpt:PtrI J b o tc (A0z e1 ea1 ec1))=>ih e1 (by omega) w1 a1 J b o tc ea1 ec1 ys1 sc back r0.2 sa sp va vp (hle0.trans mm) t0.top (by have:=t0.ev;omega) hsc hpt (hr1.le mm) (Y7.le mm _ _ hx1)
  generalize Sp.exR C sc e1 r0.2=r1 at hE1 heq;have hop:=fun (J:P6)=>C8W e.name r0.1 r1.1 J
  have hrl:∀J,Le I J->RowI J 109 6 (.slice ea e.args.length ec) e.args.length ys:=fun J mm=>hr.le mm
  rw[h2]at hrl;have hp':PtrI I b o tc [nt e.kind,str e.name,nt e.n,.slice ea 2 ec,nt e.fr,nt e.to]:=by rw[<-h2];exact hp
  replace heq:r=(Sp.opR e.name r0.1 r1.1,r1.2):=heq;subst heq;repeat' (first|refine F6 (d:=13) ?_ hm (hp:=pm1_2) (hc:=hS _);clear hm;rintro _ I2 _ _ ⟨rfl,rfl⟩ hleI2 hm;try simp only[F9]at hm;rw[<-hevr]at hm;replace hm:=hm.perm pm2_1;have hp2:=hp'.le hleI2|refine A0m (id:=9) (hm.perm pmR4) [0,1,2,3,4,5,7,8,9,10,11,12] [6,13] 14 (h:=?_);clear hm;intro wd hR hm|refine A05 (d:=43) ?_ (hr:=hrl _ hleI2);intro b0 o0 hp0;rw[show ((0:Int).toNat *6)=0 *6 from rfl,hc0]at hp0|refine A05 (d:=50) ?_ (hr:=hrl _ hleI2);intro b1 o1 hp1;rw[show ((1:Int).toNat *6)=1 *6 from rfl,hc1]at hp1|refine U7 (d:=44) ?_ hm (hp:=pmR4) (hc:=hE0 I2 hleI2 _ _ _ hp0);clear hm;rintro _ I3 _ _ ⟨rfl,va3,vp3,rfl⟩ hleI3 hm;try simp only[F9]at hm|refine U7 (d:=51) ?_ hm (hp:=pmR4) (hc:=hE1 I3 (hleI2.trans hleI3) va3 vp3 _ _ _ (hp1.le hleI3));clear hm;rintro _ I4 _ _ ⟨rfl,va4,vp4,rfl⟩ hleI4 hm;try simp only[F9]at hm;have hp4:=(hp2.le hleI3).le hleI4|refine F6 (d:=58) ?_ hm (hp:=pm0) (hc:=hop _);clear hm;rintro _ I5 _ _ ⟨rfl,rfl⟩ hleI5 hm;try simp only[F9]at hm|refine A0c ?_ hR|refine A0w ?_;replace hm:=hR.back hm;clear hR;try simp only[F9]at hm|refine J4 ?_ hm|refine J5 ?_ hm|refine D8 ?_|refine D6 ?_|refine N9 ?_|refine Y9 ?_|refine E5 ?_|refine C9 ?_|refine D9 ?_|refine A7 ?_|refine G8 ?_|refine O1 ?_|refine E8 ?_|refine A8 ?_|refine F5 ?_|refine G5 ?_|refine H8 ?_|refine J9 ?_|refine F7 ?_|(refine D5 (ht:=fun _=>?_) (hf:=fun _=>?_)<;>try first|contradiction|omega)|refine Z4 ?_|refine O5 ?_|refine J8 ?_|refine A0b ?_)
  exact⟨I5,_,⟨rfl,va4,vp4,rfl⟩,hm⟩
 rw[if_neg k3]at heq;have h4:e.kind=4/\∃j,A0Z its 2 e.name=some j/\(A0o its j).params.length=e.args.length:=by
  rcases hnode with h|h|h|h
  ·exact absurd h k1
  ·exact absurd h k2
  ·exact absurd h.1 k3
  ·exact h
 obtain⟨k4,hfound⟩:=h4;have hal2:e.args.length<=64:=hal;repeat' (first|refine F6 (d:=13) ?_ hm (hp:=pm1_2) (hc:=hS _);clear hm;rintro _ I2 _ _ ⟨rfl,rfl⟩ hleI2 hm;try simp only[F9]at hm;rw[<-hevr]at hm;replace hm:=hm.perm pm2_1;have hp2:=hp.le hleI2|refine A0H 11 ?_|refine J4 ?_ hm|refine J5 ?_ hm|refine D8 ?_|refine D6 ?_|refine N9 ?_|refine Y9 ?_|refine E5 ?_|refine C9 ?_|refine D9 ?_|refine A7 ?_|refine D7 ?_|refine E8 ?_|refine A8 ?_|refine F5 ?_|refine G5 ?_|refine F7 ?_|(refine D5 (ht:=fun _=>?_) (hf:=fun _=>?_)<;>try first|contradiction|omega))
 refine⟨?_⟩
 repeat' (first|refine J5 ?_ hm|refine D8 ?_|refine D6 ?_|refine G7 ?_|refine E5 ?_|refine C9 ?_|refine D9 ?_|refine A7 ?_|refine E8 ?_|refine A8 ?_|refine F5 ?_)
 have hm:=hm.nil 3 1;refine U2 (fun x:RunX=> [(0,ptr br),(1,.pointer (some ⟨b,o,none⟩)),(7,.slice x.aa x.k x.ac),(63,nt e.args.length),(64,nt x.k)])
  (fun x w'=>Mem E x.I (.row (.slice x.aa x.k x.ac) 3 1 x.k (B8S (A2X C sc (e.args.take x.k) m1).1)::RSt br bm bf sc back (A2X C sc (e.args.take x.k) m1).2 sa sp x.va x.vp deep) w'/\Le I2 x.I/\x.k<=e.args.length) (fun x=>e.args.length-x.k) ⟨0,I2,va,vp,none,0⟩
  (by exact⟨rfl,rfl,rfl,rfl,rfl,trivial⟩) ⟨by dsimp only;rw[Z9,A2X];exact hm,Le.refl _,H7 _⟩ ?_
 clear hm;rintro⟨k,I3,va3,vp3,aa3,ac3⟩ w3 ⟨hm,hle3,hk⟩;dsimp only at hm hle3 hk |-;have hp3:=hp2.le hle3;have hle13:=hleI2.trans hle3;have hrow:=hr.le hle13;by_cases hlt:k<e.args.length
 ·have hg:e.args[k]?=some e.args[k]:=G6 hlt
  have hsz2:=A2r (O7 hlt);have hsm2:=A1G hasm hg;have hok2:=A6n hargs hg;obtain⟨ea2,ec2,ys2,hc2,hr2,hx2⟩:=(hx.get hg).out;generalize e.args[k]=y at hg hsz2 hsm2 hok2 hc2 hr2 hx2;have hstp:=C0Z (C:=C) sc hg m1;have htk:=B2r hC sc (e.args.take k) m1 hto.top;have hln:=B23 (C:=C) sc (e.args.take k) m1;rw[Q4,A1g hk]at hln;generalize A2X C sc (e.args.take k) m1=q at hm hstp htk hln;have hE:=fun (b o tc:Nat) (hpt:PtrI I3 b o tc (A0z y ea2 ec2))=>ih y (by omega) hsm2 hok2 I3 b o tc ea2 ec2 ys2 sc back q.2 sa sp va3 vp3 (hle0.trans hle13) htk.top (by have:=htk.ev;omega) hsc hpt (hr2.le hle13) (Y7.le hle13 _ _ hx2)
  generalize Sp.exR C sc y q.2=r2 at hE hstp;repeat' (first|refine O0 (d:=74) ?_ (hr:=hrow);intro bt ot hpt;rw[show ((k:Int).toNat *6)=k *6 from rfl,hc2]at hpt|refine F6 (d:=75) ?_ hm (hp:=pmR41) (hc:=hE _ _ _ hpt);clear hm;rintro _ I4 _ _ ⟨rfl,va4,vp4,rfl⟩ hleI4 hm;try simp only[F9]at hm|refine A2l (d:=77) ?_ hm;clear hm;intro a77 cp77 _ _ hm;try simp only[F9]at hm|refine J5 ?_ hm|refine D8 ?_|refine D6 ?_|refine J6 ?_|refine E5 ?_|refine P7 ?_|refine C9 ?_|refine D9 ?_|refine A7 ?_|refine D7 ?_|refine E8 ?_|refine A8 ?_|refine F5 ?_|refine G5 ?_|(refine D5 (ht:=fun _=>?_) (hf:=fun _=>?_)<;>try first|contradiction|omega))
  refine L9 (⟨k+1,I4,va4,vp4,a77,cp77⟩:RunX) (by exact⟨rfl,rfl,rfl,rfl,rfl,trivial⟩) ⟨?_,hle3.trans hleI4,by dsimp only;omega⟩ (by dsimp only;omega)
  dsimp only
  rw[hstp,B8S,Y8];exact hm.perm (pmRL (A:= [_,_,_,_]))
 ·obtain rfl:k=e.args.length:=by omega
  rw[V5]at hm;have hln:=B23 (C:=C) sc e.args m1;generalize A2X C sc e.args m1=q at hm hexs heq hln;subst heq;repeat' (first|refine A0H 17 ?_|refine J6 ?_|refine D9 ?_|refine A7 ?_|refine H9 ?_|refine H5 ?_|refine E8 ?_|refine A8 ?_|refine P9 ?_|(refine D5 (ht:=fun _=>?_) (hf:=fun _=>?_)<;>try first|contradiction|omega))
  obtain⟨I4,hle4,hm4,hra⟩:=hm.freeze;clear hm;have hm:=hm4;clear hm4;have hp4:=hp3.le hle4;rw[<-hln]at hra;rw[<-hln]at hfound;have hCall:=hW I4 e.name q.1 q.2 va3 vp3 aa3 ac3 ((hle0.trans hle13).trans hle4) hfound hra hexs.top (by have:=hexs.ev;omega);rw[hln]at hCall;refine⟨?_⟩
  repeat' (first|refine A0m (id:=17) (hm.perm pm2_2) [0,1,2,3,4,5,6,7,8] [9] 10 (h:=?_);clear hm;intro wd hR hm|refine U7 (d:=88) ?_ hm (hp:=pm2_0) (hc:=hCall);clear hm;rintro _ I5 _ _ ⟨rfl,va5,vp5,rfl⟩ hleI5 hm;try simp only[F9]at hm|refine Y3 ?_ hR|refine A0c ?_ hR|refine A0w ?_;replace hm:=hR.back hm;clear hR;try simp only[F9]at hm|refine D6 ?_|refine D9 ?_|refine A7 ?_|refine H8 ?_|refine J9 ?_|refine Z4 ?_|refine O5 ?_|refine J8 ?_|refine A0b ?_)
  exact⟨I5,_,⟨rfl,va5,vp5,rfl⟩,hm.perm pm2_2.symm⟩
end
end Go.Proofs
