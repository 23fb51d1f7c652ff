/- Own work: the law WriteSame. -/
import Derived.Test.YtbmbnippbldmfaaGreatDoorRa23
set_option maxHeartbeats 64000000
namespace Go.Fw
open Go.Sp
open Go
section
variable {P:Program}{N:Nat}{ds:List Deferred}{K:Act->Prop}{X:List Nat}{l l':Log}{w w':World}{ops:Array Oper}{os:List Oper}{o:Oper}
variable {d:Nat}{ty:TypeId}{pos:String}{af:Array Edge}{g:Option (Nat×Bool)}{t t':TypeId}{x y:Operand}{ik:IntKind}
theorem D8m {a b:Int} (k:WV P N ds ops X w K os ((d,.bool (decide (a=b)))::l)) (hw:X9 ops l ⟨some d,.binOp .eql t x y t',ty,pos,af,g⟩=some true:=by rfl) (hN:Nat.blt d N=true:=by rfl) (hx:ev l x=some (.int ik a):=by rfl) (hy:ev l y=some (.int ik b):=by rfl)
   :WV P N ds ops X w K (⟨some d,.binOp .eql t x y t',ty,pos,af,g⟩::os) l:=
 A2p rfl hw hN (fun w' hkq c hc=>by simp[execOp,hc.ev hx,hc.ev hy,eqGuard,binOp,Op.intCmp,A4F]) k
theorem C6w [TyBool P t] {a b:Bool} (k:WV P N ds ops X w K os ((d,.bool (decide (a=b)))::l)) (hw:X9 ops l ⟨some d,.binOp .eql t x y t',ty,pos,af,g⟩=some true:=by rfl) (hN:Nat.blt d N=true:=by rfl)
  (hx:ev l x=some (.bool a):=by rfl) (hy:ev l y=some (.bool b):=by rfl)  :
  WV P N ds ops X w K (⟨some d,.binOp .eql t x y t',ty,pos,af,g⟩::os) l:=
 A2p rfl hw hN (fun w' hkq c hc=>by
  have h1:=run_equalIn_bool' (P:=P) w' 9999 t a b (TyBool.out (P:=P) (t:=t));simp only[execOp,hc.ev hx,hc.ev hy,eqGuard,binOp,Op.equal,Op.maxDepth];simp[h1,A4F]) k
end
section
variable {P:Program}{N:Nat}{ds:List Deferred}{Q:Exit->Act->World->Prop}{X:List Nat}{l l':Log}{w w' w0:World}{ops:Array Oper}{os tail:List Oper}{o:Oper}
variable {d:Nat}{ty:TypeId}{pos:String}{af:Array Edge}{g:Option (Nat×Bool)}{t t':TypeId}{x y:Operand}{ik:IntKind}
theorem C3M {e:TypeId}{sz by_:Nat} [TySlice P t e] [Elem P e sz by_] {b o' n cp:Nat}{i:Int} (hC:Kept X w0 w) (hw:X9 ops l ⟨some d,.indexAddr t x y,ty,pos,af,g⟩=some true) (hN:Nat.blt d N=true)
  (hx:ev l x=some (.slice (some ⟨b,o',none⟩) n cp)) (hy:ev l y=some (.int .i64 i)) (h0:0<=i) (h1:i<n)
  (k:WS P N ds ops Q X w0 os tail ((d,.pointer (some ⟨b,o'+i.toNat *sz,none⟩))::l) w):
  WS P N ds ops Q X w0 (⟨some d,.indexAddr t x y,ty,pos,af,g⟩::os) tail l w:=
 A5W rfl hw hN (fun a ha=>by
  obtain⟨inf,z,hi,_,hs,_,_,_⟩:=Elem.out (P:=P) (e:=e);have h6:=run_underlying (P:=P) (w:=w) (TySlice.out (P:=P) (t:=t));simp[execOp,Instr.indexAt,asIntOf,ha.ev hx,ha.ev hy,h6,h0,h1,sizeOf,typeInfo,hi,hs,Addr.add_lit]) hC k
theorem C0I {e:TypeId}{sz by_:Nat} [TySlice P t e] [Elem P e sz by_] {I:P8}{a:Option Addr}{m cp:Nat}{i:Int}{xs:List Value} (hC:Kept X w0 w) (hw:X9 ops l ⟨some d,.indexAddr t x y,ty,pos,af,g⟩=some true) (hN:Nat.blt d N=true)
  (hx:ev l x=some (.slice a m cp)) (hy:ev l y=some (.int .i64 i)) (hr:RowI I e sz (.slice a m cp) m xs) (h0:0<=i) (h1:i<m)
  (k:∀b off,PtrI I b off e ((xs.drop (i.toNat *sz)).take sz)->WS P N ds ops Q X w0 os tail ((d,.pointer (some ⟨b,off,none⟩))::l) w):
  WS P N ds ops Q X w0 (⟨some d,.indexAddr t x y,ty,pos,af,g⟩::os) tail l w:=by
 obtain⟨b,off,rfl,hp⟩:=hr.at_ i.toNat (by omega);exact C3M hC hw hN hx hy h0 h1 (k b _ hp)
end
section
variable {P:Program}{N:Nat}{ds:List Deferred}{Q:Exit->Act->World->Prop}{l:Log}{w:World}{ops:Array Oper}{os:List Oper}
variable {d:Nat}{ty:TypeId}{pos:String}{af:Array Edge}{g:Option (Nat×Bool)}{t t':TypeId}{x y:Operand}
theorem D4m {a b:Int} (hw:X9 ops l ⟨some d,.binOp .add t x y t',ty,pos,af,g⟩=some true) (hN:Nat.blt d N=true)
  (hx:ev l x=some (.int .i64 a)) (hy:ev l y=some (.int .i64 b))
  (k:WL P N ds ops Q os ((d,.int .i64 (Sp.w64 (a+b)))::l) w):WL P N ds ops Q (⟨some d,.binOp .add t x y t',ty,pos,af,g⟩::os) l w:=
 X6 rfl hw hN (fun c hc=>by simp[execOp,hc.ev hx,hc.ev hy,eqGuard,binOp,Op.intArith,B4Q]) k
theorem D4o {a b:Int} (hw:X9 ops l ⟨some d,.binOp .sub t x y t',ty,pos,af,g⟩=some true) (hN:Nat.blt d N=true)
  (hx:ev l x=some (.int .i64 a)) (hy:ev l y=some (.int .i64 b))
  (k:WL P N ds ops Q os ((d,.int .i64 (Sp.w64 (a-b)))::l) w):WL P N ds ops Q (⟨some d,.binOp .sub t x y t',ty,pos,af,g⟩::os) l w:=
 X6 rfl hw hN (fun c hc=>by simp[execOp,hc.ev hx,hc.ev hy,eqGuard,binOp,Op.intArith,B4Q]) k
theorem D4n {a b:Int} (hw:X9 ops l ⟨some d,.binOp .mul t x y t',ty,pos,af,g⟩=some true) (hN:Nat.blt d N=true)
  (hx:ev l x=some (.int .i64 a)) (hy:ev l y=some (.int .i64 b))
  (k:WL P N ds ops Q os ((d,.int .i64 (Sp.w64 (a *b)))::l) w):WL P N ds ops Q (⟨some d,.binOp .mul t x y t',ty,pos,af,g⟩::os) l w:=
 X6 rfl hw hN (fun c hc=>by simp[execOp,hc.ev hx,hc.ev hy,eqGuard,binOp,Op.intArith,B4Q]) k
end
end Go.Fw
namespace Go.Sp
theorem C1o (m:MR):m.step.ev=m.ev:=by
 rw[MR.step];split
 ·rfl
 ·split<;>rfl
theorem B1X {n:List UInt8}:∀ {l:List Cl},(∀(j:Nat) (y:Cl),l[j]?=some y->y.name≠n)->A9K l n=none
 | [],_=>rfl
 |a::l,h=>by
  rw[A9K,B1X (l:=l) (fun j y hy=>h (j+1) y (by rw[A02];exact hy))];dsimp only
  rw[if_neg (h 0 a rfl)]
theorem B9i {n:List UInt8}:∀ {l:List Cl}{i:Nat}{x:Cl},l[i]?=some x->x.name=n->(∀(j:Nat) (y:Cl),i<j->l[j]?=some y->y.name≠n)->A9K l n=some i
 | [],_,_,h,_,_=>by simp at h
 |a::l,0,x,h,hn,hno=>by
  simp only[A08,X4]at h;subst h;rw[A9K,B1X (fun j y hy=>hno (j+1) y (by omega) (by rw[A02];exact hy))];dsimp only
  rw[if_pos hn]
 |a::l,i+1,x,h,hn,hno=>by
  rw[A02]at h;rw[A9K,B9i h hn (fun j y hj hy=>hno (j+1) y (by omega) (by rw[A02];exact hy))]
theorem B2P {m:MR} (h:m.steps<=3000):m.To m.step:=by
 rw[MR.step];split
 ·exact .refl h
 ·split
  ·exact⟨by dsimp only;omega,by dsimp only;omega,by dsimp only;omega⟩
  ·exact⟨h,H7 _,H7 _⟩
theorem C1p {m:MR} (h:m.go=true):m.step= { m with steps:=m.steps+1}/\m.err=0/\m.steps<3000:=by
 simp only[MR.go,Q3,decide_eq_true_eq]at h;rw[MR.step,if_neg (by omega),if_pos h.2];exact⟨rfl,h⟩
def A8G (C:A5w):Prop:= ∀(nm:List UInt8) (args:List Int) (m:MR),m.steps<=3000->m.To (C nm args m).2
section
variable {C:A5w}
theorem D6k (C:A5w) (sc:List Cl) (e:Ex) (m:MR):exR C sc e m=if m.go=false then (0,m.step) else if e.kind=1 then ((e.n:Int),m.step) else if e.kind=2 then (D6s sc e.name,m.step) else
  if e.kind=3 then (opR e.name ((A3X C sc e.args m.step).1.getD 0 0) ((A3X C sc e.args m.step).1.getD 1 0),(A3X C sc e.args m.step).2) else C e.name (A3X C sc e.args m.step).1 (A3X C sc e.args m.step).2:=by
 cases e;rw[exR];rfl
mutual
theorem B45 (hC:A8G C) (sc:List Cl):∀(e:Ex) (m:MR),m.steps<=3000->m.To (exR C sc e m).2
 | .mk k nm n args f t,m,h=>by
  have h1:=B2P h;have h2:=B6u hC sc args m.step h1.top;rw[exR];split
  ·exact h1
  ·split
   ·exact h1
   ·split
    ·exact h1
    ·split
     ·exact h1.trans h2
     ·exact(h1.trans h2).trans (hC _ _ _ h2.top)
theorem B6u (hC:A8G C) (sc:List Cl):∀(l:List Ex) (m:MR),m.steps<=3000->m.To (A3X C sc l m).2
 | [],m,h=>by rw[A3X];exact .refl h
 |e::l,m,h=>by
  rw[A3X];have h1:=B45 hC sc e m h;exact h1.trans (B6u hC sc l _ h1.top)
 end
theorem C2w (sc:List Cl):∀(l r:List Ex) (m:MR),A3X C sc (l++r) m=((A3X C sc l m).1++(A3X C sc r (A3X C sc l m).2).1,(A3X C sc r (A3X C sc l m).2).2)
 | [],r,m=>by rw[L9,A3X];rfl
 |e::l,r,m=>by rw[Q8,A3X,A3X,C2w sc l r];rfl
theorem C8r (sc:List Cl) {l:List Ex}{k:Nat}{e:Ex} (h:l[k]?=some e) (m:MR):
  A3X C sc (l.take (k+1)) m=((A3X C sc (l.take k) m).1++ [(exR C sc e (A3X C sc (l.take k) m).2).1],(exR C sc e (A3X C sc (l.take k) m).2).2):=by
 rw[U2 h,C2w,A3X,A3X]
theorem B7k (sc:List Cl):∀(l:List Ex) (m:MR),(A3X C sc l m).1.length=l.length
 | [],m=>by rw[A3X];rfl
 |e::l,m=>by rw[A3X,E9,B7k sc l,E9]
theorem D0C {sc:List Cl}{l:List Ex}{e1 e2:Ex} (h:l.length=2) (h1:l[0]?=some e1) (h2:l[1]?=some e2) (m:MR):
  A3X C sc l m=([(exR C sc e1 m).1,(exR C sc e2 (exR C sc e1 m).2).1],(exR C sc e2 (exR C sc e1 m).2).2):=by
 match l,h,h1,h2 with
 | [a,b],_,h1,h2=>
  obtain rfl:=Z8 h1;obtain rfl:=Z8 h2;rw[A3X,A3X,A3X]
def C6D (c:Nat) (b:SR->SR):Prop:= ∀s,s.m.steps<=3000->SR.To c s (b s)/\((b s).m.err=0->(b s).sc.length=s.sc.length)
theorem C3a {c:Nat}{f:List Cl->MR->Int×MR}{b:SR->SR} (hf:∀(sc:List Cl) (m:MR),m.steps<=3000->m.To (f sc m).2) (hb:C6D c b):∀(k:Nat) (s:SR),s.m.steps<=3000->SR.To c s (B1z f b k s)
 |0,s,h=>by rw[B1z];exact⟨.refl h,H7 _,by omega⟩
 |k+1,s,h=>by
  rw[B1z];have h1:=B2P h;have h2:=hf s.sc s.m.step h1.top;split
  ·exact .same h1 c
  ·split
   ·have h3:=hb { s with m:=(f s.sc s.m.step).2} h2.top
    have h4:=C3a hf hb k _ h3.1.m.top;by_cases he:(b { s with m:=(f s.sc s.m.step).2}).m.err=0
    ·have h5:=h3.2 he
     refine⟨((h1.trans h2).trans h3.1.m).trans h4.m,?_,?_⟩
     ·have:=h4.lo;dsimp only at h5;omega
     ·have:=h4.hi;dsimp only at h5;omega
    ·have key:∀k (s:SR),s.m.err≠0->B1z f b k s=s:=by
      intro k s hs;cases k with
      |zero=>rw[B1z]
      |succ k=>
       rw[B1z,if_pos (by rw[MR.go,decide_eq_false hs];rfl),MR.step,if_pos hs]
     rw[key _ _ he];exact⟨(h1.trans h2).trans h3.1.m,h3.1.lo,h3.1.hi⟩
   ·exact .same (h1.trans h2) c
theorem C3Q (sc:List Cl) (n:List UInt8) (v:Int):(D2s sc n v).length=sc.length:=by
 rw[D2s];split
 ·rw[A29]
 ·rfl
theorem B8g {c:Nat}{s:SR}{r:SR×Bool} (h:SR.To c s r.1) (he:r.2=false->r.1.m.err≠0):SR.To c s (A88 s.sc.length r)/\((A88 s.sc.length r).m.err=0->(A88 s.sc.length r).sc.length=s.sc.length):=by
 rw[A88];have:=h.lo;have:=h.hi;split
 ·have hl:(r.1.sc.take s.sc.length).length=s.sc.length:=by rw[P9];omega
  exact⟨⟨h.m,by dsimp only;omega,by dsimp only;omega⟩,fun _=>hl⟩
 ·rename_i hr
  exact⟨h,fun h0=>absurd h0 (he (by simpa using hr))⟩
mutual
theorem C7W (hC:A8G C):∀(x:Stm) (s:SR),s.m.steps<=3000->SR.To x.cnt s (B6k C x s)
 | .mk k nm a lb o e thn els f t,s,h=>by
  have h1:=B2P h;have h2:=B45 hC s.sc e s.m.step h1.top;have h3:=h1.trans h2;have hT:C6D (U1 thn) (fun s=>A88 s.sc.length (goR C thn s)):=fun s h=>B8g (B3A hC thn s h).1 (B3A hC thn s h).2
  have hE:C6D (U1 els) (fun s=>A88 s.sc.length (goR C els s)):=fun s h=>B8g (B3A hC els s h).1 (B3A hC els s h).2
  rw[B6k,Stm.cnt];split
  ·exact(C3a (fun sc m h=>B45 hC sc e m h) hT 3001 s h).mono (by omega)
  ·split
   ·exact .same h1 _
   ·split
    ·exact .same h3 _
    ·split
     ·exact⟨h3,by dsimp only;rw[D9];omega,by dsimp only;rw[D9,A0X];omega⟩
     ·split
      ·exact⟨h3,by dsimp only;rw[C3Q];omega,by dsimp only;rw[C3Q];omega⟩
      ·rename_i hg _ _ _
       have hg:=C1p (by simpa using hg);split
       ·refine⟨⟨h3.top,h3.up,?_⟩,H7 _,by dsimp only;omega⟩
        dsimp only
        rw[D9,A0X];have:=h2.ev;rw[hg.1]at this |-;dsimp only at this |-;omega
       ·split
        ·exact⟨h3,H7 _,by dsimp only;omega⟩
        ·split
         ·split
          ·have:=(hT { s with m:=(exR C s.sc e s.m.step).2} h3.top).1
           exact⟨h3.trans this.m,this.lo,by have:=this.hi;dsimp only at this |-;omega⟩
          ·have:=(hE { s with m:=(exR C s.sc e s.m.step).2} h3.top).1
           exact⟨h3.trans this.m,this.lo,by have:=this.hi;dsimp only at this |-;omega⟩
         ·exact .same h3 _
theorem B3A (hC:A8G C):∀(l:List Stm) (s:SR),s.m.steps<=3000->SR.To (U1 l) s (goR C l s).1/\((goR C l s).2=false->(goR C l s).1.m.err≠0)
 | [],s,h=>by rw[goR];exact⟨⟨.refl h,H7 _,by dsimp only;omega⟩,fun h=>(by cases h)⟩
 |x::l,s,h=>by
  rw[goR,U1];split
  ·rename_i he
   exact⟨⟨.refl h,H7 _,by dsimp only;omega⟩,fun _=>he⟩
  ·have h1:=C7W hC x s h
   obtain⟨h2,h3⟩:=B3A hC l _ h1.m.top;exact⟨⟨h1.m.trans h2.m,by have:=h1.lo;have:=h2.lo;omega,by have:=h1.hi;have:=h2.hi;omega⟩,h3⟩
 end
theorem C0p (hC:A8G C) (l:List Stm) (s:SR) (h:s.m.steps<=3000):SR.To (U1 l) s (A9h C l s)/\((A9h C l s).m.err=0->(A9h C l s).sc.length=s.sc.length):=
 B8g (B3A hC l s h).1 (B3A hC l s h).2
end
theorem B1P (its:List Itm):∀d,A8G (A6a its d)
 |0=>fun nm args m h=>by
  rw[A6a];split
  ·exact .refl h
  ·exact⟨h,H7 _,H7 _⟩
 |d+1=>fun nm args m h=>by
  rw[A6a];split
  ·exact .refl h
  ·split
   ·exact .refl h
   ·exact(C0p (B1P its d) _ ⟨_,0,m⟩ h).1.m
def okE (its:List Itm):PE:=fun k nm _ na _ _=>k=1\/k=2\/(k=3/\na=2)\/(k=4/\∃j,A0M its 2 nm=some j/\(X7 its j).params.length=na)
section
variable {its:List Itm}{at_:Int}
theorem B6H (s:NW) (a e:Nat) (n:List UInt8):(s.tell a e n).ds≠ []:=by simp[NW.tell]
theorem C0R {b:Int}{sc:List Lc}{a:Nat}{n:List UInt8}{s:NW} (h:(A8i b sc a n s).ds= []):s.ds= []/\(n≠ []->A1u sc n≠none):=by
 rw[A8i]at h;split at h
 ·rename_i l hl
  exact⟨h,fun _=>by rw[hl];simp⟩
 ·split at h
  ·rename_i hn
   exact⟨h,fun h1=>absurd hn h1⟩
  ·exact absurd h (B6H _ _ _ _)
theorem B6y {its:List Itm}{b k:Int}{a:Nat}{n:List UInt8}{s:NW} (h:(A5Y its b k a n s).ds= []):s.ds= []:=by
 rw[A5Y]at h;split at h
 ·exact h
 ·split at h
  ·exact h
  ·exact absurd h (B6H _ _ _ _)
theorem D0d {its:List Itm}{b:Int}{a:Nat}{n:List UInt8}{m:Nat}{s:NW} (h:(A5x its b a n m s).ds= []):s.ds= []:=by
 rw[A5x]at h;split at h
 ·split at h
  ·exact absurd h (B6H _ _ _ _)
  ·exact B6y h
 ·exact B6y h
theorem D1o {n:List UInt8}{a:Nat}{sc:List Lc}{s:NW} (h:(mkN n a sc s).2.ds= []):s.ds= []:=by
 rw[mkN]at h;split at h
 ·exact h
 ·dsimp only at h
  split at h
  ·exact absurd h (B6H _ _ _ _)
  ·exact h
mutual
theorem B44 {its:List Itm}{b:Int}{sc:List Lc}:∀(e:Ex) {s:NW},(exN its b sc e s).ds= []->s.ds= []
 | .mk k nm n args f t,s,h=>by
  rw[exN]at h;have h1:=B6t args h;split at h1
  ·exact(C0R h1).1
  ·split at h1
   ·exact D0d h1
   ·exact h1
theorem B6t {its:List Itm}{b:Int}{sc:List Lc}:∀(l:List Ex) {s:NW},(A5t its b sc l s).ds= []->s.ds= []
 | [],s,h=>by rw[A5t]at h;exact h
 |e::l,s,h=>by rw[A5t]at h;exact B44 e (B6t l h)
 end
mutual
theorem D44 {its:List Itm}{b:Int}:∀(x:Stm) {sc:List Lc}{s:NW},(A57 its b x sc s).2.ds= []->s.ds= []
 | .mk k nm a lb o e thn els f t,sc,s,h=>by
  rw[A57]at h;split at h
  ·exact B44 e (D1o h)
  ·split at h
   ·exact B44 e (C0R h).1
   ·split at h
    ·exact B44 e (B6y h)
    ·split at h
     ·exact B44 e (B0o thn (B0o els h))
     ·exact B44 e h
theorem B0o {its:List Itm}{b:Int}:∀(l:List Stm) {sc:List Lc}{s:NW},(A1w its b l sc s).2.ds= []->s.ds= []
 | [],sc,s,h=>by rw[A1w]at h;exact h
 |x::l,sc,s,h=>by rw[A1w]at h;exact D44 x (B0o l h)
 end
end
def D3w:PS:=fun _ _ _ _ _ _ _=>True
def D0b (its:List Itm):PE:=fun k nm _ na _ _=>k=4->nm≠ []->∃j,A0M its 2 nm=some j/\(X7 its j).params.length=na
theorem C33 (s:NW) (a e:Nat) (n:List UInt8):(s.tell a e n).ds≠ []:=by simp[NW.tell]
theorem C7e {its:List Itm}{b k:Int}{a:Nat}{n:List UInt8}{s:NW} (h:(A5Y its b k a n s).ds= []) (hn:n≠ []):∃j,A0M its k n=some j:=by
 rw[A5Y]at h;split at h
 ·rename_i j hj;exact⟨j,hj⟩
 ·rw[if_neg hn]at h;exact absurd h (C33 _ _ _ _)
theorem D3E {its:List Itm}{b:Int}{a:Nat}{n:List UInt8}{m:Nat}{s:NW} (h:(A5x its b a n m s).ds= []) (hn:n≠ []):∃j,A0M its 2 n=some j/\(X7 its j).params.length=m:=by
 rw[A5x]at h;split at h
 ·rename_i j hj
  split at h
  ·exact absurd h (C33 _ _ _ _)
  ·rename_i hl;exact⟨j,hj,by omega⟩
 ·rename_i hj
  obtain⟨j,hj2⟩:=C7e h hn;rw[hj]at hj2;cases hj2
mutual
theorem A8L {its:List Itm}{b:Int}{sc:List Lc}:∀(e:Ex) {s:NW},(exN its b sc e s).ds= []->e.all (D0b its)
 | .mk k nm n args f t,s,h=>by
  rw[exN]at h;rw[Ex.all];refine⟨fun hk hn=>?_,B9g args h⟩
  have h1:=B6t args h;rw[if_neg (by omega),if_pos hk]at h1;exact D3E h1 hn
theorem B9g {its:List Itm}{b:Int}{sc:List Lc}:∀(l:List Ex) {s:NW},(A5t its b sc l s).ds= []->A2D (D0b its) l
 | [],s,h=>by rw[A2D];trivial
 |e::l,s,h=>by
  rw[A5t]at h;rw[A2D];exact⟨A8L e (B6t l h),B9g l h⟩
 end
mutual
theorem B5L {its:List Itm}:∀(e:Ex) {d l:Nat},e.fitE d l->e.all (D0b its)->e.all (okE its)
 | .mk k nm n args f t,d,l,h,hc=>by
  rw[Ex.fitE]at h;rw[Ex.all]at hc |-;rcases h.2 with h|h|h|h
  ·obtain⟨h1,_,_,h4⟩:=h
   subst h4;exact⟨.inl h1,A6D⟩
  ·obtain⟨h1,_,_,h4⟩:=h
   subst h4;exact⟨.inr (.inl h1),A6D⟩
  ·exact⟨.inr (.inr (.inr ⟨h.1,hc.1 h.1 (A7e h.2.1)⟩)),D0D args h.2.2.2.2 hc.2⟩
  ·exact⟨.inr (.inr (.inl ⟨h.1,h.2.2.2.1⟩)),D1P args h.2.2.2.2 hc.2⟩
theorem D0D {its:List Itm}:∀(l:List Ex) {d:Nat},A2f l d->A2D (D0b its) l->A2D (okE its) l
 | [],d,_,_=>A6D
 |e::l,d,h,hc=>by
  rw[A2f]at h;rw[A2D]at hc |-;exact⟨B5L e h.1 hc.1,D0D l h.2 hc.2⟩
theorem D1P {its:List Itm}:∀(l:List Ex) {d n:Nat},A2Q l d n->A2D (D0b its) l->A2D (okE its) l
 | [],d,_,_,_=>A6D
 |e::l,d,n,h,hc=>by
  rw[A2Q]at h;rw[A2D]at hc |-;exact⟨B5L e h.1 hc.1,D1P l h.2 hc.2⟩
 end
def okS (its:List Itm):PS:=fun k nm _ _ _ _ _=>k=5->∃j,A0M its 1 nm=some j
mutual
theorem D64 {its:List Itm}{b:Int}:∀(x:Stm) {d:Nat}{sc:List Lc}{s:NW},x.fitS d->(A57 its b x sc s).2.ds= []->x.all (okE its) (okS its)
 | .mk k nm a lb o e thn els f t,d,sc,s,hf,h=>by
  rw[Stm.fitS]at hf;rw[A57]at h;rw[Stm.all];obtain⟨h0,hf⟩:=hf;rcases hf with hf|hf|hf|hf|hf|hf
  ·obtain⟨k1,_,_,_,rfl,rfl⟩:=hf
   rw[if_pos k1]at h;exact⟨fun h5=>by omega,B5L e h0 (A8L e (D1o h)),A0o,A0o⟩
  ·obtain⟨k1,_,_,_,rfl,rfl⟩:=hf
   rw[if_neg (by omega),if_pos k1]at h;exact⟨fun h5=>by omega,B5L e h0 (A8L e (C0R h).1),A0o,A0o⟩
  ·obtain⟨k1,hn,_,_,rfl,rfl⟩:=hf
   rw[if_neg (by omega),if_neg (by omega),if_pos k1]at h;exact⟨fun _=>C7e h (A7e hn),B5L e h0 (A8L e (B6y h)),A0o,A0o⟩
  ·obtain⟨k1,_,_,_,rfl,rfl⟩:=hf
   rw[if_neg (by omega),if_neg (by omega),if_neg (by omega),if_neg (by omega)]at h;exact⟨fun h5=>by omega,B5L e h0 (A8L e h),A0o,A0o⟩
  ·obtain⟨k1,_,_,_,rfl,rfl,_⟩:=hf
   rw[if_neg (by omega),if_neg (by omega),if_neg (by omega),if_neg (by omega)]at h;exact⟨fun h5=>by omega,B5L e h0 (A8L e h),A0o,A0o⟩
  ·obtain⟨k1,_,_,_,_,_,_,ht,he⟩:=hf
   have k34:k=3\/k=4:=by omega
   rw[if_neg (by omega),if_neg (by omega),if_neg (by omega),if_pos k34]at h;have hT:=B0o els h;exact⟨fun h5=>by omega,B5L e h0 (A8L e (B0o thn hT)),B6G thn ht hT,B6G els he h⟩
theorem B6G {its:List Itm}{b:Int}:∀(l:List Stm) {d:Nat}{sc:List Lc}{s:NW},A0J l d->(A1w its b l sc s).2.ds= []->A0e (okE its) (okS its) l
 | [],d,sc,s,_,_=>A0o
 |x::l,d,sc,s,hf,h=>by
  rw[A1w]at h;rw[A0J]at hf;rw[A0e];exact⟨D64 x hf.1 (B0o l h),B6G l hf.2 h⟩
 end
theorem C8s {s:List UInt8} (h:A3H (G8 s)= []):∀it∈G8 s,it.fitI:=fun it hit=>by
 obtain⟨i,hi,rfl⟩:=A2r hit;have hg:=F9 hi;have e:X7 (G8 s) i=(G8 s)[i]:=by rw[X7,N9,hg];rfl
 have h1:=(B30 h hi).1;rw[e]at h1;have hm:=O1 hi;generalize (G8 s)[i]=it at h1 hm;rw[G8]at hm;split at hm
 ·rw[A3Z]at hm
  obtain⟨j,_,rfl⟩:=Y7.1 hm;exact B49 _ _ h1
 ·cases hm
theorem D4Q {s:List UInt8} (h:A3H (G8 s)= []):∀it∈G8 s,it.kind=2->A0e (okE (G8 s)) (okS (G8 s)) it.body:=fun it hit hk=>by
 have hfit:=C8s h it hit;obtain⟨i,hi,rfl⟩:=A2r hit;have hg:=F9 hi;have e:X7 (G8 s) i=(G8 s)[i]:=by rw[X7,N9,hg];rfl
 have h1:=(B30 h hi).2.1;rw[A3x,e,if_pos hk,fnN]at h1;exact B6G _ hfit.body.2 h1
theorem D2l {s:List UInt8} (h:A3H (G8 s)= []):∀it∈G8 s,it.kind=2->A0e (okE (G8 s)) D3w it.body:=fun it hit hk=>
 A7l (fun _ _ _ _ _ _ h=>h) (fun _ _ _ _ _ _ _ _=>trivial) _ (D4Q h it hit hk)
theorem C7V (C:A5w) (x:Stm) (s:SR):B6k C x s=if x.kind=4 then B1z (fun sc m=>exR C sc x.e m) (A9h C x.thn) 3001 s else
  if s.m.go=false then { s with m:=s.m.step} else
  if (exR C s.sc x.e s.m.step).2.err≠0 then { s with m:=(exR C s.sc x.e s.m.step).2} else
  if x.kind=1 then { s with sc:=s.sc++ [⟨x.name,(exR C s.sc x.e s.m.step).1⟩],m:=(exR C s.sc x.e s.m.step).2} else
  if x.kind=2 then { s with sc:=D2s s.sc x.name (exR C s.sc x.e s.m.step).1,m:=(exR C s.sc x.e s.m.step).2} else
  if x.kind=5 then { s with m:= { (exR C s.sc x.e s.m.step).2 with ev:=(exR C s.sc x.e s.m.step).2.ev++ [⟨x.name,(exR C s.sc x.e s.m.step).1⟩]}} else
  if x.kind=6 then { s with back:=(exR C s.sc x.e s.m.step).1,m:=(exR C s.sc x.e s.m.step).2} else
  if x.kind=3 then if (exR C s.sc x.e s.m.step).1≠0 then A9h C x.thn { s with m:=(exR C s.sc x.e s.m.step).2} else A9h C x.els { s with m:=(exR C s.sc x.e s.m.step).2}
  else { s with m:=(exR C s.sc x.e s.m.step).2}:=by
 cases x;rw[B6k];rfl
theorem C5S {l:List Par}{k:Nat}{p:Par}{args:List Int}{n:Int} (h:l[k]?=some p) (ha:args[k]?=some n):A7i (l.take (k+1)) args=A7i (l.take k) args++ [⟨p.name,n⟩]:=by
 induction l generalizing k args with
 |nil=>simp at h
 |cons a l ih=>
  cases args with
  |nil=>simp at ha
  |cons b args=>
   cases k with
   |zero=>
    simp only[A08,X4]at h ha;subst h;subst ha;simp[A7i]
   |succ k=>
    rw[A02]at h ha;have:=ih h ha;simp only[A7i,A09,List.zipWith_cons_cons,Q8]at this |-;rw[this]
theorem C9f {l:List Par}{k:Nat}{args:List Int} (hk:k<=l.length) (ha:l.length=args.length):(A7i (l.take k) args).length=k:=by
 rw[A7i,List.length_zipWith,P9];omega
section
variable (its:List Itm)
mutual
theorem C4N (C:A5w) (sc:List Cl):∀(e:Ex) (m:MR),exR C sc e.pl m=exR C sc e m
 | .mk k nm n args f t,m=>by rw[Ex.pl,exR,exR,C62 C sc args]
theorem C62 (C:A5w) (sc:List Cl):∀(l:List Ex) (m:MR),A3X C sc (A1q l) m=A3X C sc l m
 | [],m=>by rw[A1q]
 |e::l,m=>by rw[A1q,A3X,A3X,C4N C sc e,C62 C sc l]
end
mutual
theorem D48 (C:A5w):∀(x:Stm) (s:SR),B6k C x.pl s=B6k C x s
 | .mk k nm a lb o e thn els f t,s=>by
  have h1:(fun sc m=>exR C sc e.pl m)=fun sc m=>exR C sc e m:=by funext sc m;exact C4N C sc e m
  have h2:(fun s:SR=>A88 s.sc.length (goR C (plL thn) s))=fun s=>A88 s.sc.length (goR C thn s):=by funext s;rw[B7v C thn]
  rw[Stm.pl,B6k,B6k,h1,h2,C4N,B7v C thn,B7v C els]
theorem B7v (C:A5w):∀(l:List Stm) (s:SR),goR C (plL l) s=goR C l s
 | [],s=>by rw[plL]
 |x::l,s=>by rw[plL,goR,goR,D48 C x,B7v C l]
end
theorem D10 (l:List Par) (args:List Int):A7i (l.map Par.pl) args=A7i l args:=by
 rw[A7i,A7i,List.zipWith_map_left];rfl
theorem C18:∀(d:Nat),A6a (plI its) d=A6a its d
 |0=>rfl
 |d+1=>by
  funext nm args m
  rw[A6a,A6a,C18 d,A7U];split
  ·rfl
  ·cases A0M its 2 nm with
   |none=>rfl
   |some j=>
    dsimp only
    rw[A9v];have e1:A7i (X7 its j).pl.params args=A7i (X7 its j).params args:=D10 _ _;have e2:∀s,A9h (A6a its d) (X7 its j).pl.body s=A9h (A6a its d) (X7 its j).body s:=fun s=>by
     rw[A9h,A9h];show A88 _ (goR _ (plL (X7 its j).body) s)=_
     rw[B7v]
    rw[e1,e2]
theorem C0l (h:∀it∈its,it.diags= []):(A3H (plI its)).length=(A3H its).length:=by
 rw[A3H,A3H,P7];have key:∀k,k<=its.length->(A7s (plI its) k).length=(A7s its k).length:=by
  intro k;induction k with
  |zero=>intro _;rfl
  |succ k ih=>
   intro hk;rw[B0v,B0v];refine A7z (ih (by omega)) ?_
   rw[B38,B38,P7,P7,B8M,B8M,C6U,A9v];have hd:(X7 its k).diags= []:=by
    have:X7 its k∈its:=by rw[X7,N9,F9 (by omega)];exact O1 (by omega)
    exact h _ this
   rw[hd];show ([]++_).length=_
   exact A7z rfl (A7z (C0d its k) (A7z rfl (B63 its k _ _)))
 exact key _ (H7 _)
theorem C7K (h:∀it∈its,it.diags= []) (nm:List UInt8) (args:List Int):B3M (plI its) nm args=B3M its nm args:=by
 have h0:(A3H (plI its)≠ [])=(A3H its≠ []):=by
  have:=C0l its h;rw[ne_eq,ne_eq, <-List.length_eq_zero_iff, <-List.length_eq_zero_iff,this]
 rw[B3M,B3M,C18,A7U];simp only[h0];split
 ·rfl
 ·split
  ·rfl
  ·rename_i j _
   rw[A9v];show (if args.length≠((X7 its j).params.map Par.pl).length then _ else _)=_
   rw[P7]
end
theorem D2o {f g:List Itm} (h:f.map Itm.pl=g.map Itm.pl) (hf:∀it∈f,it.diags= []) (hg:∀it∈g,it.diags= []) (nm:List UInt8) (args:List Int):
  (A3H f).length=(A3H g).length/\(A8k f↔A8k g)/\B3M f nm args=B3M g nm args:=by
 refine⟨?_,?_,?_⟩
 ·rw[<-C0l f hf, <-C0l g hg,plI,plI,h]
 ·rw[<-B5y f, <-B5y g,plI,plI,h]
 ·rw[<-C7K f hf, <-C7K g hg,plI,plI,h]
theorem D4I (its:List Itm) (nm:List UInt8) (args:List Int):(B3M its nm args).ev.length<=1000000000:=by
 rw[B3M];split
 ·exact H9 _
 ·split
  ·exact H9 _
  ·split
   ·exact H9 _
   ·split
    ·exact H9 _
    ·have h1:=B1P its 40 nm args MR0 (H9 _)
     have h2:=h1.ev;have h3:=h1.top;have h4:MR0.ev.length=0:=rfl;have h5:MR0.steps=0:=rfl;dsimp only
     omega
end Go.Sp
namespace Go.Proofs
open Go.Proofs.Tryz
open Go.Sp
open Go.Fw
abbrev B1S (c:Sp.Cl):List Value:= [str c.name,.int .i64 c.n]
theorem B7e:∀ {sc:List Sp.Cl}{i:Nat}{p:Sp.Cl},sc[i]?=some p->(sc.flatMap B1S)[i *2]?=some (str p.name)/\(sc.flatMap B1S)[i *2+1]?=some (.int .i64 p.n)
 | [],i,p,h=>by simp at h
 |a::sc,0,p,h=>by
  simp only[A08,X4]at h;subst h;exact⟨rfl,rfl⟩
 |a::sc,i+1,p,h=>by
  rw[A02]at h;obtain⟨h1,h2⟩:=B7e h;rw[show (i+1) *2=i *2+2 by omega];exact⟨h1,h2⟩
theorem B9d:∀ {sc:List Sp.Cl}{i:Nat}{p:Sp.Cl} (v:Int),sc[i]?=some p->(sc.flatMap B1S).set (i *2+1) (.int .i64 v)=(sc.set i ⟨p.name,v⟩).flatMap B1S
 | [],i,p,v,h=>by simp at h
 |a::sc,0,p,v,h=>by
  simp only[A08,X4]at h;subst h;rfl
 |a::sc,i+1,p,v,h=>by
  rw[A02]at h;have:=B9d v h;rw[show (i+1) *2+1=(i *2+1)+2 by omega,B0P,A0c,A0c, <-this];rfl
theorem C8m (sc:List Sp.Cl):(sc.flatMap B1S).length=sc.length *2:=by
 induction sc with
 |nil=>rfl
 |cons a sc ih=>
  rw[A0c,D9,ih];show 2+sc.length *2=(sc.length+1) *2
  omega
abbrev B7J (bm bf:Nat) (m:Sp.MR) (ea:Option Addr) (ep deep:Nat):HItem:=.cell bm [ptr bf,.slice ea m.ev.length ep,nt m.steps,nt deep,nt m.err] 143
abbrev A9p (m:Sp.MR) (ea:Option Addr) (ep:Nat):HItem:=.row (.slice ea m.ev.length ep) 186 2 m.ev.length (m.ev.flatMap B1v)
abbrev B3c (br bm:Nat) (sc:List Sp.Cl) (sa:Option Addr) (sp:Nat) (back:Int):HItem:=.cell br [ptr bm,.slice sa sc.length sp,.int .i64 back] 192
abbrev B3i (sc:List Sp.Cl) (sa:Option Addr) (sp:Nat):HItem:=.row (.slice sa sc.length sp) 194 2 sc.length (sc.flatMap B1S)
theorem C5X {bm bf:Nat}{m:Sp.MR}{ea:Option Addr}{ep deep:Nat} (hs:m.steps<=3000) (I:P8):
  CalM prog 156 #[ptr bm] I [B7J bm bf m ea ep deep] (fun v _ H'=>v=.bool m.go/\H'= [B7J bm bf m.step ea ep deep]):=by
 refine CalM.of fun w E hm=>enter (N:=23) func156 rfl [(0,ptr bm)] A0Z rfl ?_
 by_cases h1:m.err=0
 ·by_cases h2:m.steps=3000
  ·have hg:m.go=false:=by rw[Sp.MR.go,decide_eq_true h1,decide_eq_false (by omega)];rfl
   have hst:m.step= { m with err:=11}:=by rw[Sp.MR.step,if_neg (by omega),if_neg (by omega)]
   rw[hg,hst];repeat' (first|refine J6 ?_ hm|refine P5 hm (k:=?_);clear hm;intro _ hm;try simp only[G5]at hm|refine D8 ?_|refine D6 ?_|refine O6 ?_|refine A0w ?_|refine F5 ?_|refine D5 ?_|refine E5 ?_|refine A7 ?_|refine H8 ?_|refine E8 ?_|refine A8 ?_|refine G7 ?_|refine J3 ?_|refine J7 ?_|(refine C9 (ht:=fun _=>?_) (hf:=fun _=>?_)<;>try first|contradiction|omega))
   exact⟨I,_,⟨rfl,rfl⟩,hm⟩
  ·have hg:m.go=true:=by rw[Sp.MR.go,decide_eq_true h1,decide_eq_true (by omega)];rfl
   have hst:m.step= { m with steps:=m.steps+1}:=by rw[Sp.MR.step,if_neg (by omega),if_pos (by omega)]
   rw[hg,hst];repeat' (first|refine J6 ?_ hm|refine P5 hm (k:=?_);clear hm;intro _ hm;try simp only[G5]at hm|refine D8 ?_|refine D6 ?_|refine O6 ?_|refine A0w ?_|refine F5 ?_|refine O9 ?_|refine D5 ?_|refine E5 ?_|refine A7 ?_|refine E8 ?_|refine A8 ?_|refine G7 ?_|refine J3 ?_|refine J7 ?_|(refine C9 (ht:=fun _=>?_) (hf:=fun _=>?_)<;>try first|contradiction|omega))
   exact⟨I,_,⟨rfl,rfl⟩,hm⟩
 ·have hg:m.go=false:=by rw[Sp.MR.go,decide_eq_false h1];rfl
  have hst:m.step=m:=by rw[Sp.MR.step,if_pos h1]
  rw[hg,hst];repeat' (first|refine J6 ?_ hm|refine D8 ?_|refine D6 ?_|refine A0w ?_|refine F5 ?_|refine D5 ?_|refine E5 ?_|refine A7 ?_|refine H8 ?_|refine E8 ?_|refine A8 ?_|refine J3 ?_|refine J7 ?_|(refine C9 (ht:=fun _=>?_) (hf:=fun _=>?_)<;>try first|contradiction|omega))
  exact⟨I,_,⟨rfl,rfl⟩,hm⟩
theorem D5Q {br bm:Nat}{sc:List Sp.Cl}{sa:Option Addr}{sp:Nat}{back:Int} (nm:List UInt8) (I:P8) (hl:sc.length<=1000000000):
  CalM prog 158 #[ptr br,str nm] I [B3c br bm sc sa sp back,B3i sc sa sp] (fun v _ H'=>
   (∃i p b,sc[i]?=some p/\A9K sc nm=some i/\sa=some ⟨b,0,none⟩/\v=.pointer (some ⟨b,i *2,none⟩)/\H'= [B3c br bm sc sa sp back,B3i sc sa sp])\/
   (A9K sc nm=none/\∃bl,v=ptr bl/\H'= [.cell bl [str [],.int .i64 0] 194,B3c br bm sc sa sp back,B3i sc sa sp])):=by
 refine CalM.of fun w E hm=>enter (N:=34) func158 rfl [(0,ptr br),(1,str nm)] A1x rfl ?_
 repeat' (first|refine J6 ?_ hm|refine D8 ?_|refine D6 ?_|refine G6 ?_|refine F5 ?_|refine A5e ?_|refine D5 ?_|refine E5 ?_|refine A7 ?_|refine E8 ?_|refine A8 ?_|refine F6 ?_)
 refine U3 (fun x:Nat=> [(0,ptr br),(1,str nm),(5,.int .i64 ((x:Int)-1))])
  (fun x w'=>Mem E I [B3c br bm sc sa sp back,B3i sc sa sp] w'/\x<=sc.length/\∀m y,x<=m->sc[m]?=some y->y.name≠nm) (fun x=>x) sc.length (by exact⟨rfl,rfl,rfl,trivial⟩)
  ⟨hm,H7 _,fun m y hm hy=>by rw[A1n hm]at hy;cases hy⟩ ?_
 clear hm;rintro x w1 ⟨hm,hx,hno⟩;try dsimp only at hm hx hno |-
 cases x with
 |zero=>
  repeat' (first|refine A0T (d:=33) ?_ hm;clear hm;intro b33 _ hm|refine D8 ?_|refine D6 ?_|refine A11 ?_|refine Y0 ?_|refine E5 ?_|refine A7 ?_|refine H6 ?_|refine G9 ?_|refine E8 ?_|refine A8 ?_|refine O8 ?_|refine J3 ?_|refine J7 ?_|refine F7 ?_)
  exact⟨I,_,.inr ⟨B1X (fun j y hy=>hno j y (H9 _) hy),b33,rfl,rfl⟩,hm⟩
 |succ i=>
  have hg:sc[i]?=some sc[i]:=F9 hx;generalize sc[i]=p at hg;rw[show ((i+1:Nat):Int)-1=(i:Int) by omega];obtain⟨b,rfl⟩:=(hm.front 1 gt1).rowAddr (by omega);obtain⟨q1,q2⟩:=B7e hg;by_cases hn:p.name=nm
  ·skip
   repeat' (first|refine A1G (i:=1) (d:=23) hm (by rfl) (by rfl) (by rfl) gt1 (by rw[V9,A2S];exact q1) ?_|refine J6 ?_ hm|refine D8 ?_|refine D6 ?_|refine A11 ?_|refine A0g ?_|refine F5 ?_|refine D5 ?_|refine Y3 (k:=?_)|refine E5 ?_|refine A7 ?_|refine H8 ?_|refine O5 ?_|refine E8 ?_|refine A8 ?_|refine F6 ?_|refine G7 ?_|refine J3 ?_|refine J7 ?_|refine H5 ?_|(refine C9 (ht:=fun _=>?_) (hf:=fun _=>?_)<;>try first|contradiction|omega))
   exact⟨I,_,.inl ⟨i,p,b,hg,B9i hg hn (fun j y hj hy=>hno j y (by omega) hy),rfl,by rw[V9,A1R],rfl⟩,hm⟩
  ·skip
   repeat' (first|refine A1G (i:=1) (d:=23) hm (by rfl) (by rfl) (by rfl) gt1 (by rw[V9,A2S];exact q1) ?_|refine J6 ?_ hm|refine D8 ?_|refine D6 ?_|refine A11 ?_|refine A0g ?_|refine F5 ?_|refine A5e ?_|refine D5 ?_|refine Y3 (k:=?_)|refine E5 ?_|refine A7 ?_|refine D7 ?_|refine E8 ?_|refine A8 ?_|refine F6 ?_|refine G7 ?_|refine H5 ?_|(refine C9 (ht:=fun _=>?_) (hf:=fun _=>?_)<;>try first|contradiction|omega))
   refine L6 (i:Nat) (by exact⟨rfl,rfl,rfl,trivial⟩) ⟨hm,by omega,fun m y hm hy=>?_⟩ (by omega)
   rcases U9 i m with h|h
   ·exact hno m y h hy
   ·obtain rfl:m=i:=by omega
    rw[hg]at hy;obtain rfl:=Z8 hy;exact hn
theorem D8O (nm:List UInt8) (a b:Int) (I:P8):CalM prog 188 #[str nm,.int .i64 a,.int .i64 b] I [] (fun v _ H'=>v=.int .i64 (Sp.opR nm a b)/\H'= []):=by
 refine CalM.of fun w E hm=>enter (N:=33) func188 rfl [(0,str nm),(1,.int .i64 a),(2,.int .i64 b)] A4x rfl ?_
 rw[Sp.opR];by_cases h1:nm= [43]
 ·rw[if_pos h1]
  repeat' (first|refine D4m (by rfl) (by rfl) (by rfl) (by rfl) ?_|refine D8 ?_|refine D6 ?_|refine A0g ?_|refine E5 ?_|refine A7 ?_|refine H8 ?_|refine O5 ?_|refine E8 ?_|refine A8 ?_|refine F6 ?_|refine J3 ?_|refine J7 ?_|(refine C9 (ht:=fun _=>?_) (hf:=fun _=>?_)<;>try first|contradiction|omega))
  exact⟨I,_,⟨rfl,rfl⟩,hm⟩
 rw[if_neg h1];by_cases h2:nm= [45]
 ·rw[if_pos h2]
  repeat' (first|refine D4o (by rfl) (by rfl) (by rfl) (by rfl) ?_|refine D8 ?_|refine D6 ?_|refine A0g ?_|refine E5 ?_|refine A7 ?_|refine H8 ?_|refine O5 ?_|refine E8 ?_|refine A8 ?_|refine F6 ?_|refine J3 ?_|refine J7 ?_|(refine C9 (ht:=fun _=>?_) (hf:=fun _=>?_)<;>try first|contradiction|omega))
  exact⟨I,_,⟨rfl,rfl⟩,hm⟩
 rw[if_neg h2];by_cases h3:nm= [42]
 ·rw[if_pos h3]
  repeat' (first|refine D4n (by rfl) (by rfl) (by rfl) (by rfl) ?_|refine D8 ?_|refine D6 ?_|refine A0g ?_|refine E5 ?_|refine A7 ?_|refine H8 ?_|refine O5 ?_|refine E8 ?_|refine A8 ?_|refine F6 ?_|refine J3 ?_|refine J7 ?_|(refine C9 (ht:=fun _=>?_) (hf:=fun _=>?_)<;>try first|contradiction|omega))
  exact⟨I,_,⟨rfl,rfl⟩,hm⟩
 rw[if_neg h3];by_cases h4:nm= [60]
 ·rw[if_pos h4]
  by_cases h5:a<b
  ·rw[if_pos h5]
   repeat' (first|refine D8 ?_|refine D6 ?_|refine J8 ?_|refine A0g ?_|refine E5 ?_|refine A7 ?_|refine H8 ?_|refine D7 ?_|refine E8 ?_|refine A8 ?_|refine F6 ?_|refine J3 ?_|refine J7 ?_|(refine C9 (ht:=fun _=>?_) (hf:=fun _=>?_)<;>try first|contradiction|omega))
   exact⟨I,_,⟨rfl,rfl⟩,hm⟩
  ·rw[if_neg h5]
   repeat' (first|refine D8 ?_|refine D6 ?_|refine J8 ?_|refine A0g ?_|refine E5 ?_|refine A7 ?_|refine D7 ?_|refine E8 ?_|refine A8 ?_|refine F6 ?_|refine G7 ?_|refine J3 ?_|refine J7 ?_|(refine C9 (ht:=fun _=>?_) (hf:=fun _=>?_)<;>try first|contradiction|omega))
   exact⟨I,_,⟨rfl,rfl⟩,hm⟩
 rw[if_neg h4];by_cases h5:a=b
 ·rw[if_pos h5]
  repeat' (first|refine D8 ?_|refine D6 ?_|refine O6 ?_|refine A0g ?_|refine E5 ?_|refine A7 ?_|refine H8 ?_|refine D7 ?_|refine E8 ?_|refine A8 ?_|refine F6 ?_|refine J3 ?_|refine J7 ?_|(refine C9 (ht:=fun _=>?_) (hf:=fun _=>?_)<;>try first|contradiction|omega))
  exact⟨I,_,⟨rfl,rfl⟩,hm⟩
 ·rw[if_neg h5]
  repeat' (first|refine D8 ?_|refine D6 ?_|refine O6 ?_|refine A0g ?_|refine E5 ?_|refine A7 ?_|refine D7 ?_|refine E8 ?_|refine A8 ?_|refine F6 ?_|refine G7 ?_|refine J3 ?_|refine J7 ?_|(refine C9 (ht:=fun _=>?_) (hf:=fun _=>?_)<;>try first|contradiction|omega))
  exact⟨I,_,⟨rfl,rfl⟩,hm⟩
theorem _root_.Go.Fw.pmR4 {a b c d:HItem}{R:List HItem}:(a::b::c::d::R).Perm ([a,b,c,d]++R):=.refl _
theorem _root_.Go.Fw.pmR41 {x a b c d:HItem}{R:List HItem}:(x::a::b::c::d::R).Perm ([a,b,c,d]++(x::R)):=
 (List.Perm.swap a x _).trans (((List.Perm.swap b x _).trans (((List.Perm.swap c x _).trans ((List.Perm.swap d x R).cons c)).cons b)).cons a)
theorem _root_.Go.Fw.pmRL {x:HItem}{A:List HItem}:(A++ [x]).Perm (x::A):=A1o
abbrev RSt (br bm bf:Nat) (sc:List Sp.Cl) (back:Int) (m:Sp.MR) (sa:Option Addr) (sp:Nat) (va:Option Addr) (vp deep:Nat):List HItem:=
 [B3c br bm sc sa sp back,B3i sc sa sp,B7J bm bf m va vp deep,A9p m va vp]
def C1H (I:P8) (its:List Sp.Itm) (C:A5w) (bm bf deep:Nat):Prop:=
 ∀(J:P8) (nm:List UInt8) (args:List Int) (m:Sp.MR) (va:Option Addr) (vp:Nat) (aa:Option Addr) (ac:Nat),Le I J->(∃j,A0M its 2 nm=some j/\(X7 its j).params.length=args.length)->
  RowI J 3 1 (.slice aa args.length ac) args.length (C49 args)->m.steps<=3000->m.ev.length<=m.steps->
  CalM prog 62 #[ptr bm,str nm,.slice aa args.length ac] J [B7J bm bf m va vp deep,A9p m va vp]
   (fun v _ H'=>v=.int .i64 (C nm args m).1/\∃va' vp',H'= [B7J bm bf (C nm args m).2 va' vp' deep,A9p (C nm args m).2 va' vp'])
structure RunX where
 k:Nat
 I:P8
 va:Option Addr
 vp:Nat
 aa:Option Addr
 ac:Nat
section
variable {I0:P8}{its:List Sp.Itm}{C:A5w}{br bm bf deep:Nat}
theorem D17 (hW:C1H I0 its C bm bf deep) (hC:A8G C):∀(n:Nat) (e:Sp.Ex),SizeOf.sizeOf e<=n->e.small->e.all (Sp.okE its)->
  ∀(I:P8) (b o tc:Nat) (ea:Option Addr) (ec:Nat) (ys:List Value) (sc:List Sp.Cl) (back:Int) (m:Sp.MR) (sa:Option Addr) (sp:Nat) (va:Option Addr) (vp:Nat),Le I0 I->m.steps<=3000->m.ev.length<=m.steps->sc.length<=1000000000->
  PtrI I b o tc (A0E e ea ec)->RowI I 109 6 (.slice ea e.args.length ec) e.args.length ys->Z7 I e.args ys->
  CalM prog 157 #[ptr br,.pointer (some ⟨b,o,none⟩)] I (RSt br bm bf sc back m sa sp va vp deep)
   (fun v _ H'=>v=.int .i64 (Sp.exR C sc e m).1/\∃va' vp',H'=RSt br bm bf sc back (Sp.exR C sc e m).2 sa sp va' vp' deep):=by
 intro n;induction n with
 |zero=>intro e h;cases e;simp at h
 |succ n ih=>
 intro e hsz hsm hok I b o tc ea ec ys sc back m sa sp va vp hle0 hst hev hsc hp hr hx;obtain⟨hal,hasm⟩:=A4u hsm;obtain⟨hnode,hargs⟩:=Sp.Ex.all_node hok;refine CalM.of fun w E hm=>enter (N:=89) func157 rfl [(0,ptr br),(1,.pointer (some ⟨b,o,none⟩))] A1x rfl ?_
 have hS:=fun (J:P8)=>C5X (bm:=bm) (bf:=bf) (m:=m) (ea:=va) (ep:=vp) (deep:=deep) hst J
 have hto:=B2P hst;have hse:=C1o m;have heq:=D6k C sc e m;have hexs:=B6u hC sc e.args m.step hto.top;obtain⟨r,hr0⟩:∃r,r=Sp.exR C sc e m:=⟨_,rfl⟩;rw[<-hr0]at heq |-;clear hr0;generalize hm1:m.step=m1 at hS hto hse heq hexs;have hevr:A9p m1 va vp=A9p m va vp:=by unfold A9p;rw[hse]
 have hev1:m1.ev.length<=m1.steps:=by have:=hto.ev;have:=hto.up;omega
 cases hgo:m.go with
 |false=>
  rw[hgo,if_pos rfl]at heq;subst heq;rw[hgo]at hS;repeat' (first|refine F8 (d:=13) ?_ hm (hp:=pm1_2) (hc:=hS _);clear hm;rintro _ I2 _ _ ⟨rfl,rfl⟩ hleI2 hm;try simp only[G5]at hm;rw[<-hevr]at hm|refine J6 ?_ hm|refine D8 ?_|refine D6 ?_|refine A0h ?_|refine F5 ?_|refine D5 ?_|refine E5 ?_|refine A7 ?_|refine H8 ?_|refine E8 ?_|refine A8 ?_|refine J3 ?_|refine J7 ?_|refine H5 ?_)
  exact⟨I2,_,⟨rfl,va,vp,rfl⟩,hm.perm pm2_1⟩
 |true=>
 rw[hgo,if_neg (by simp)]at heq;rw[hgo]at hS;by_cases k1:e.kind=1
 ·rw[if_pos k1]at heq
  subst heq;repeat' (first|refine F8 (d:=13) ?_ hm (hp:=pm1_2) (hc:=hS _);clear hm;rintro _ I2 _ _ ⟨rfl,rfl⟩ hleI2 hm;try simp only[G5]at hm;rw[<-hevr]at hm;have hp2:=hp.le hleI2|refine J6 ?_ hm|refine J9 ?_ hm|refine D8 ?_|refine D6 ?_|refine O6 ?_|refine A0h ?_|refine F5 ?_|refine D5 ?_|refine E5 ?_|refine A7 ?_|refine H8 ?_|refine O5 ?_|refine E8 ?_|refine A8 ?_|refine F6 ?_|refine G7 ?_|refine J3 ?_|refine J7 ?_|refine F7 ?_|(refine C9 (ht:=fun _=>?_) (hf:=fun _=>?_)<;>try first|contradiction|omega))
  exact⟨I2,_,⟨rfl,va,vp,rfl⟩,hm.perm pm2_1⟩
 rw[if_neg k1]at heq;by_cases k2:e.kind=2
 ·rw[if_pos k2]at heq
  have hG:=fun (J:P8)=>D5Q (br:=br) (bm:=bm) (sc:=sc) (sa:=sa) (sp:=sp) (back:=back) e.name J hsc
  rw[D6s]at heq;repeat' (first|refine F8 (d:=13) ?_ hm (hp:=pm1_2) (hc:=hS _);clear hm;rintro _ I2 _ _ ⟨rfl,rfl⟩ hleI2 hm;try simp only[G5]at hm;rw[<-hevr]at hm;have hp2:=hp.le hleI2|refine F8 (d:=32) ?_ hm (hp:=pm2_1) (hc:=hG _);clear hm;rintro _ I3 _ _ (⟨i,p,b2,hgi,hfl,rfl,rfl,rfl⟩|⟨hfl,bl,rfl,rfl⟩) hleI3 hm<;>try simp only[G5]at hm|refine A1G (i:=1) (d:=35) hm (by rfl) (by rfl) (by rfl) gt1 (by exact(B7e hgi).2) ?_|refine J6 ?_ hm|refine J9 ?_ hm|refine D8 ?_|refine D6 ?_|refine O6 ?_|refine A0h ?_|refine F5 ?_|refine D5 ?_|refine E5 ?_|refine A7 ?_|refine H8 ?_|refine O5 ?_|refine E8 ?_|refine A8 ?_|refine F6 ?_|refine G7 ?_|refine J3 ?_|refine J7 ?_|refine F7 ?_|(refine C9 (ht:=fun _=>?_) (hf:=fun _=>?_)<;>try first|contradiction|omega))
  ·rw[hfl]at heq
   have hd:sc.getD i ⟨[],0⟩=p:=by rw[N9,hgi];rfl
   dsimp only at heq;rw[hd]at heq;subst heq;exact⟨I3,_,⟨rfl,va,vp,rfl⟩,hm⟩
  ·rw[hfl]at heq
   subst heq;exact⟨I3,_,⟨rfl,va,vp,rfl⟩,hm.tl⟩
 rw[if_neg k2]at heq;by_cases k3:e.kind=3
 ·rw[if_pos k3]at heq
  have h2:e.args.length=2:=by
   rcases hnode with h|h|h|h
   ·exact absurd h k1
   ·exact absurd h k2
   ·exact h.2
   ·omega
  have g0:e.args[0]?=some e.args[0]:=F9 (by omega);have g1:e.args[1]?=some e.args[1]:=F9 (by omega);have z0:=A3o (O1 (l:=e.args) (n:=0) (by omega));have z1:=A3o (O1 (l:=e.args) (n:=1) (by omega));have w0:=A2m hasm g0;have w1:=A2m hasm g1;have a0:=A8M hargs g0;have a1:=A8M hargs g1;obtain⟨ea0,ec0,ys0,hc0,hr0,hx0⟩:=(hx.get g0).out;obtain⟨ea1,ec1,ys1,hc1,hr1,hx1⟩:=(hx.get g1).out;have hexs2:=D0C (C:=C) (sc:=sc) h2 g0 g1 m1;rw[hexs2]at heq;generalize e.args[0]=e0 at g0 z0 w0 a0 hc0 hr0 hx0 heq hexs2;generalize e.args[1]=e1 at g1 z1 w1 a1 hc1 hr1 hx1 heq hexs2;have hE0:=fun (J:P8) (mm:Le I J) (b o tc:Nat) (hpt:PtrI J b o tc (A0E e0 ea0 ec0))=>ih e0 (by omega) w0 a0 J b o tc ea0 ec0 ys0 sc back m1 sa sp va vp (hle0.trans mm) hto.top hev1 hsc hpt (hr0.le mm) (Z7.le mm _ _ hx0)
  have t0:=B45 hC sc e0 m1 hto.top;generalize Sp.exR C sc e0 m1=r0 at hE0 t0 heq;have hE1:=fun (J:P8) (mm:Le I J) (va:Option Addr) (vp b o tc:Nat) (hpt:PtrI J b o tc (A0E e1 ea1 ec1))=>ih e1 (by omega) w1 a1 J b o tc ea1 ec1 ys1 sc back r0.2 sa sp va vp (hle0.trans mm) t0.top (by have:=t0.ev;omega) hsc hpt (hr1.le mm) (Z7.le mm _ _ hx1)
  generalize Sp.exR C sc e1 r0.2=r1 at hE1 heq;have hop:=fun (J:P8)=>D8O e.name r0.1 r1.1 J
  have hrl:∀J,Le I J->RowI J 109 6 (.slice ea e.args.length ec) e.args.length ys:=fun J mm=>hr.le mm
  rw[h2]at hrl;have hp':PtrI I b o tc [nt e.kind,str e.name,nt e.n,.slice ea 2 ec,nt e.fr,nt e.to]:=by rw[<-h2];exact hp
  replace heq:r=(Sp.opR e.name r0.1 r1.1,r1.2):=heq;subst heq;repeat' (first|refine F8 (d:=13) ?_ hm (hp:=pm1_2) (hc:=hS _);clear hm;rintro _ I2 _ _ ⟨rfl,rfl⟩ hleI2 hm;try simp only[G5]at hm;rw[<-hevr]at hm;replace hm:=hm.perm pm2_1;have hp2:=hp'.le hleI2|refine A0S (id:=9) (hm.perm pmR4) [0,1,2,3,4,5,7,8,9,10,11,12] [6,13] 14 (h:=?_);clear hm;intro wd hR hm|refine A04 (d:=43) ?_ (hr:=hrl _ hleI2);intro b0 o0 hp0;rw[show ((0:Int).toNat *6)=0 *6 from rfl,hc0]at hp0|refine A04 (d:=50) ?_ (hr:=hrl _ hleI2);intro b1 o1 hp1;rw[show ((1:Int).toNat *6)=1 *6 from rfl,hc1]at hp1|refine V8 (d:=44) ?_ hm (hp:=pmR4) (hc:=hE0 I2 hleI2 _ _ _ hp0);clear hm;rintro _ I3 _ _ ⟨rfl,va3,vp3,rfl⟩ hleI3 hm;try simp only[G5]at hm|refine V8 (d:=51) ?_ hm (hp:=pmR4) (hc:=hE1 I3 (hleI2.trans hleI3) va3 vp3 _ _ _ (hp1.le hleI3));clear hm;rintro _ I4 _ _ ⟨rfl,va4,vp4,rfl⟩ hleI4 hm;try simp only[G5]at hm;have hp4:=(hp2.le hleI3).le hleI4|refine F8 (d:=58) ?_ hm (hp:=pm0) (hc:=hop _);clear hm;rintro _ I5 _ _ ⟨rfl,rfl⟩ hleI5 hm;try simp only[G5]at hm|refine A0G ?_ hR|refine A0K ?_;replace hm:=hR.back hm;clear hR;try simp only[G5]at hm|refine J6 ?_ hm|refine J9 ?_ hm|refine D8 ?_|refine D6 ?_|refine O6 ?_|refine A0h ?_|refine F5 ?_|refine D5 ?_|refine E5 ?_|refine A7 ?_|refine H8 ?_|refine O5 ?_|refine E8 ?_|refine A8 ?_|refine F6 ?_|refine G7 ?_|refine J3 ?_|refine J7 ?_|refine F7 ?_|(refine C9 (ht:=fun _=>?_) (hf:=fun _=>?_)<;>try first|contradiction|omega)|refine A0x ?_|refine U5 ?_|refine N8 ?_|refine A0y ?_)
  exact⟨I5,_,⟨rfl,va4,vp4,rfl⟩,hm⟩
 rw[if_neg k3]at heq;have h4:e.kind=4/\∃j,A0M its 2 e.name=some j/\(X7 its j).params.length=e.args.length:=by
  rcases hnode with h|h|h|h
  ·exact absurd h k1
  ·exact absurd h k2
  ·exact absurd h.1 k3
  ·exact h
 obtain⟨k4,hfound⟩:=h4;have hal2:e.args.length<=64:=hal;repeat' (first|refine F8 (d:=13) ?_ hm (hp:=pm1_2) (hc:=hS _);clear hm;rintro _ I2 _ _ ⟨rfl,rfl⟩ hleI2 hm;try simp only[G5]at hm;rw[<-hevr]at hm;replace hm:=hm.perm pm2_1;have hp2:=hp.le hleI2|refine A0U 11 ?_|refine J6 ?_ hm|refine J9 ?_ hm|refine D8 ?_|refine D6 ?_|refine O6 ?_|refine A0h ?_|refine F5 ?_|refine D5 ?_|refine E5 ?_|refine A7 ?_|refine D7 ?_|refine E8 ?_|refine A8 ?_|refine F6 ?_|refine G7 ?_|refine F7 ?_|(refine C9 (ht:=fun _=>?_) (hf:=fun _=>?_)<;>try first|contradiction|omega))
 refine⟨?_⟩
 repeat' (first|refine J9 ?_ hm|refine D8 ?_|refine D6 ?_|refine G6 ?_|refine F5 ?_|refine D5 ?_|refine E5 ?_|refine A7 ?_|refine E8 ?_|refine A8 ?_|refine F6 ?_)
 have hm:=hm.nil 3 1;refine U3 (fun x:RunX=> [(0,ptr br),(1,.pointer (some ⟨b,o,none⟩)),(7,.slice x.aa x.k x.ac),(63,nt e.args.length),(64,nt x.k)])
  (fun x w'=>Mem E x.I (.row (.slice x.aa x.k x.ac) 3 1 x.k (C49 (A3X C sc (e.args.take x.k) m1).1)::RSt br bm bf sc back (A3X C sc (e.args.take x.k) m1).2 sa sp x.va x.vp deep) w'/\Le I2 x.I/\x.k<=e.args.length) (fun x=>e.args.length-x.k) ⟨0,I2,va,vp,none,0⟩
  (by exact⟨rfl,rfl,rfl,rfl,rfl,trivial⟩) ⟨by dsimp only;rw[Z9,A3X];exact hm,Le.refl _,H9 _⟩ ?_
 clear hm;rintro⟨k,I3,va3,vp3,aa3,ac3⟩ w3 ⟨hm,hle3,hk⟩;dsimp only at hm hle3 hk |-;have hp3:=hp2.le hle3;have hle13:=hleI2.trans hle3;have hrow:=hr.le hle13;by_cases hlt:k<e.args.length
 ·have hg:e.args[k]?=some e.args[k]:=F9 hlt
  have hsz2:=A3o (O1 hlt);have hsm2:=A2m hasm hg;have hok2:=A8M hargs hg;obtain⟨ea2,ec2,ys2,hc2,hr2,hx2⟩:=(hx.get hg).out;generalize e.args[k]=y at hg hsz2 hsm2 hok2 hc2 hr2 hx2;have hstp:=C8r (C:=C) sc hg m1;have htk:=B6u hC sc (e.args.take k) m1 hto.top;have hln:=B7k (C:=C) sc (e.args.take k) m1;rw[P9,A1O hk]at hln;generalize A3X C sc (e.args.take k) m1=q at hm hstp htk hln;have hE:=fun (b o tc:Nat) (hpt:PtrI I3 b o tc (A0E y ea2 ec2))=>ih y (by omega) hsm2 hok2 I3 b o tc ea2 ec2 ys2 sc back q.2 sa sp va3 vp3 (hle0.trans hle13) htk.top (by have:=htk.ev;omega) hsc hpt (hr2.le hle13) (Z7.le hle13 _ _ hx2)
  generalize Sp.exR C sc y q.2=r2 at hE hstp;repeat' (first|refine O7 (d:=74) ?_ (hr:=hrow);intro bt ot hpt;rw[show ((k:Int).toNat *6)=k *6 from rfl,hc2]at hpt|refine F8 (d:=75) ?_ hm (hp:=pmR41) (hc:=hE _ _ _ hpt);clear hm;rintro _ I4 _ _ ⟨rfl,va4,vp4,rfl⟩ hleI4 hm;try simp only[G5]at hm|refine A2P (d:=77) ?_ hm;clear hm;intro a77 cp77 _ _ hm;try simp only[G5]at hm|refine J9 ?_ hm|refine D8 ?_|refine D6 ?_|refine J8 ?_|refine F5 ?_|refine O9 ?_|refine D5 ?_|refine E5 ?_|refine A7 ?_|refine D7 ?_|refine E8 ?_|refine A8 ?_|refine F6 ?_|refine G7 ?_|(refine C9 (ht:=fun _=>?_) (hf:=fun _=>?_)<;>try first|contradiction|omega))
  refine L6 (⟨k+1,I4,va4,vp4,a77,cp77⟩:RunX) (by exact⟨rfl,rfl,rfl,rfl,rfl,trivial⟩) ⟨?_,hle3.trans hleI4,by dsimp only;omega⟩ (by dsimp only;omega)
  dsimp only
  rw[hstp,C49,V5];exact hm.perm (pmRL (A:= [_,_,_,_]))
 ·obtain rfl:k=e.args.length:=by omega
  rw[V7]at hm;have hln:=B7k (C:=C) sc e.args m1;generalize A3X C sc e.args m1=q at hm hexs heq hln;subst heq;repeat' (first|refine A0U 17 ?_|refine J8 ?_|refine E5 ?_|refine A7 ?_|refine H6 ?_|refine G9 ?_|refine E8 ?_|refine A8 ?_|refine O8 ?_|(refine C9 (ht:=fun _=>?_) (hf:=fun _=>?_)<;>try first|contradiction|omega))
  obtain⟨I4,hle4,hm4,hra⟩:=hm.freeze;clear hm;have hm:=hm4;clear hm4;have hp4:=hp3.le hle4;rw[<-hln]at hra;rw[<-hln]at hfound;have hCall:=hW I4 e.name q.1 q.2 va3 vp3 aa3 ac3 ((hle0.trans hle13).trans hle4) hfound hra hexs.top (by have:=hexs.ev;omega);rw[hln]at hCall;refine⟨?_⟩
  repeat' (first|refine A0S (id:=17) (hm.perm pm2_2) [0,1,2,3,4,5,6,7,8] [9] 10 (h:=?_);clear hm;intro wd hR hm|refine V8 (d:=88) ?_ hm (hp:=pm2_0) (hc:=hCall);clear hm;rintro _ I5 _ _ ⟨rfl,va5,vp5,rfl⟩ hleI5 hm;try simp only[G5]at hm|refine A0k ?_ hR|refine A0G ?_ hR|refine A0K ?_;replace hm:=hR.back hm;clear hR;try simp only[G5]at hm|refine D6 ?_|refine E5 ?_|refine A7 ?_|refine J3 ?_|refine J7 ?_|refine A0x ?_|refine U5 ?_|refine N8 ?_|refine A0y ?_)
  exact⟨I5,_,⟨rfl,va5,vp5,rfl⟩,hm.perm pm2_2.symm⟩
end
theorem C3X {I:P8}{x:Sp.Stm}{b o tc ec:Nat}{ea:Option Addr}{v1 v2:Value} (hp:PtrI I b o tc (A2H x.kind x.name x.at_ x.label x.opn x.e ea ec v1 v2 x.fr x.to)):PtrI I b (o+5) tc (A0E x.e ea ec):=
 hp.sub (cs':=A0E x.e ea ec) 5 (fun j u hj=>by
  match j,hj with
  |0,hj=>exact hj
  |1,hj=>exact hj
  |2,hj=>exact hj
  |3,hj=>exact hj
  |4,hj=>exact hj
  |5,hj=>exact hj
  |j+6,hj=>cases hj)
structure RsX where
 k:Nat
 I:P8
 s:Sp.SR
 sa:Option Addr
 sp:Nat
 va:Option Addr
 vp:Nat
abbrev ToR (br bm bf:Nat) (s:Sp.SR) (deep:Nat):Value->P8->List HItem->Prop:=fun v _ H'=>v=.tuple #[]/\∃sa sp va vp,H'=RSt br bm bf s.sc s.back s.m sa sp va vp deep
section
variable (I0:P8) (C:A5w) (br bm bf deep:Nat)
def C4s (x:Sp.Stm):Prop:=
 ∀(I:P8) (b o tc:Nat) (cs:List Value) (s:Sp.SR) (sa:Option Addr) (sp:Nat) (va:Option Addr) (vp:Nat),Le I0 I->s.m.steps<=3000->s.m.ev.length<=s.m.steps->s.sc.length+x.cnt<=1000000000->
  PtrI I b o tc cs->A6n I x cs->
  CalM prog 124 #[ptr br,.pointer (some ⟨b,o,none⟩)] I (RSt br bm bf s.sc s.back s.m sa sp va vp deep) (ToR br bm bf (B6k C x s) deep)
def B6N (l:List Sp.Stm):Prop:=
 ∀(I:P8) (ab:Option Addr) (cb:Nat) (xb:List Value) (s:Sp.SR) (sa:Option Addr) (sp:Nat) (va:Option Addr) (vp:Nat),Le I0 I->s.m.steps<=3000->s.m.ev.length<=s.m.steps->s.sc.length+U1 l<=1000000000->
  RowI I 111 15 (.slice ab l.length cb) l.length xb->V4 I l xb->
  CalM prog 92 #[ptr br,.slice ab l.length cb] I (RSt br bm bf s.sc s.back s.m sa sp va vp deep) (ToR br bm bf (A9h C l s) deep)
end
section
variable {I0:P8}{its:List Sp.Itm}{C:A5w}{br bm bf deep:Nat}
theorem D4E (hC:A8G C) (l:List Sp.Stm) (hl:l.length<=64) (hS:∀y∈l,C4s I0 C br bm bf deep y):B6N I0 C br bm bf deep l:=by
 intro I ab cb xb s sa sp va vp hle0 hst hev hsc hr hx;refine CalM.of fun w E hm=>enter (N:=39) func92 rfl [(0,ptr br),(1,.slice ab l.length cb)] A1x rfl ?_
 repeat' (first|refine J6 ?_ hm|refine D8 ?_|refine D6 ?_|refine G6 ?_|refine F5 ?_|refine D5 ?_|refine E5 ?_|refine A7 ?_|refine E8 ?_|refine A8 ?_|refine F6 ?_)
 refine U3 (fun x:RsX=> [(0,ptr br),(1,.slice ab l.length cb),(4,nt s.sc.length),(12,nt l.length),(13,nt x.k)])
  (fun x w'=>Mem E x.I (RSt br bm bf x.s.sc x.s.back x.s.m x.sa x.sp x.va x.vp deep) w'/\Le I x.I/\x.k<=l.length/\Sp.goR C l s=Sp.goR C (l.drop x.k) x.s/\Sp.SR.To (U1 (l.take x.k)) s x.s) (fun x=>l.length-x.k) ⟨0,I,s,sa,sp,va,vp⟩
  (by exact⟨rfl,rfl,rfl,rfl,rfl,trivial⟩) ⟨hm,Le.refl _,H9 _,rfl,.refl hst,H7 _,A73 _ _⟩ ?_
 clear hm;rintro⟨k,I1,s1,sa1,sp1,va1,vp1⟩ w1 ⟨hm,hle1,hk,hgo,hto⟩;dsimp only at hm hle1 hk hgo hto |-;have hrow:=hr.le hle1;have hm1:=hto.m;have hev1:s1.m.ev.length<=s1.m.steps:=by have:=hm1.ev;omega
 by_cases hlt:k<l.length
 ·have hg:l[k]?=some l[k]:=F9 hlt
  rw[A3Q hlt,Sp.goR]at hgo;have hmem:=O1 hlt;obtain⟨cs,hcs⟩:∃cs,cs=(xb.drop (k *15)).take 15:=⟨_,rfl⟩;have hat:=hx.get hg;rw[<-hcs]at hat
  have hSk:=hS _ hmem;generalize l[k]=y at hg hgo hat hSk;have hcy:=A6z hg;have hhi:=hto.hi;by_cases he:s1.m.err≠0
  ·rw[if_pos he]at hgo
   have hfin:A9h C l s=s1:=by rw[A9h,hgo,A88,if_neg (by simp)]
   rw[hfin];repeat' (first|refine J6 ?_ hm|refine D8 ?_|refine D6 ?_|refine J8 ?_|refine A0w ?_|refine F5 ?_|refine D5 ?_|refine E5 ?_|refine A7 ?_|refine H8 ?_|refine O5 ?_|refine E8 ?_|refine A8 ?_|refine F6 ?_|refine G7 ?_|refine J3 ?_|refine A69 ?_|(refine C9 (ht:=fun _=>?_) (hf:=fun _=>?_)<;>try first|contradiction|omega))
   exact⟨I1,_,⟨rfl,sa1,sp1,va1,vp1,rfl⟩,hm⟩
  ·rw[if_neg he]at hgo
   have he0:s1.m.err=0:=by omega
   have hcl:=fun b o (hpt:PtrI I1 b o 111 cs)=>hSk I1 b o 111 cs s1 sa1 sp1 va1 vp1 (hle0.trans hle1) hm1.top hev1 (by omega) hpt (A6n.le hle1 _ _ hat)
   have hty:=C7W hC y s1 hm1.top;have hcs1:U1 (l.take (k+1))=U1 (l.take k)+y.cnt:=by rw[U2 hg,A4g,A61]
   generalize B6k C y s1=s2 at hcl hgo hty;repeat' (first|refine O7 (d:=27) ?_ (hr:=hrow);intro bt ot hpt;rw[show ((k:Int).toNat *15)=k *15 from rfl, <-hcs]at hpt|refine F8 (d:=28) ?_ hm (hp:=pmR4) (hc:=hcl _ _ hpt);clear hm;rintro _ I2 _ _ ⟨rfl,sa2,sp2,va2,vp2,rfl⟩ hleI2 hm;try simp only[G5]at hm|refine J6 ?_ hm|refine D8 ?_|refine D6 ?_|refine J8 ?_|refine A0w ?_|refine F5 ?_|refine O9 ?_|refine D5 ?_|refine E5 ?_|refine A7 ?_|refine D7 ?_|refine E8 ?_|refine A8 ?_|refine F6 ?_|refine G7 ?_|(refine C9 (ht:=fun _=>?_) (hf:=fun _=>?_)<;>try first|contradiction|omega))
   exact L6 (⟨k+1,I2,s2,sa2,sp2,va2,vp2⟩:RsX) (by exact⟨rfl,rfl,rfl,rfl,rfl,trivial⟩)
    ⟨hm,hle1.trans hleI2,by dsimp only;omega,hgo,⟨hm1.trans hty.m,by have:=hto.lo;have:=hty.lo;dsimp only;omega,by have:=hty.hi;dsimp only;omega⟩⟩ (by dsimp only;omega)
 ·obtain rfl:k=l.length:=by omega
  rw[A40,Sp.goR]at hgo;have hlo:=hto.lo;have hfin:A9h C l s= { s1 with sc:=s1.sc.take s.sc.length}:=by rw[A9h,hgo,A88,if_pos rfl]
  rw[hfin];have htl:(s1.sc.take s.sc.length).length=s.sc.length:=by rw[P9];omega
  repeat' (first|refine B2E (d:=36) ?_ hm (hmn:=hlo);clear hm;intro hm;try simp only[G5]at hm|refine J6 ?_ hm|refine P5 hm (k:=?_);clear hm;intro _ hm;try simp only[G5]at hm|refine D8 ?_|refine J8 ?_|refine F5 ?_|refine D5 ?_|refine E5 ?_|refine A7 ?_|refine H6 ?_|refine G9 ?_|refine E8 ?_|refine A8 ?_|refine O8 ?_|refine A0p ?_|(refine C9 (ht:=fun _=>?_) (hf:=fun _=>?_)<;>try first|contradiction|omega))
  refine⟨I1,_,⟨rfl,sa1,sp1,va1,vp1,?_⟩,hm⟩
  have e:(s1.sc.flatMap B1S).take (s.sc.length *2)=(s1.sc.take s.sc.length).flatMap B1S:=by
   have key:∀(l:List Sp.Cl) (n:Nat),(l.flatMap B1S).take (n *2)=(l.take n).flatMap B1S:=by
    intro l;induction l with
    |nil=>intro n;simp
    |cons x l ih=>
     intro n;cases n with
     |zero=>simp
     |succ n=>
      rw[A0c,A09,A0c,show (n+1) *2=2+n *2 by omega,A8X,A0W (by show 2<=2+n *2;omega),show 2+n *2-(B1S x).length=n *2 by (show 2+n *2-2=n *2;omega),ih]
   exact key _ _
  dsimp only[RSt,B3c,B3i];rw[e,htl]
theorem D4H (hW:C1H I0 its C bm bf deep) (hC:A8G C) (x:Sp.Stm) (hsm:x.small) (hok:x.e.all (Sp.okE its)) (hT:B6N I0 C br bm bf deep x.thn) (k4:x.kind=4):C4s I0 C br bm bf deep x:=by
 intro I b o tc cs s sa sp va vp hle0 hst hev hsc hp hx;refine CalM.of fun w E hm=>enter (N:=135) func124 rfl [(0,ptr br),(1,.pointer (some ⟨b,o,none⟩))] A1x rfl ?_
 obtain⟨s1,s2,s3,s4,s5⟩:=A15 hsm;have hcn:=Sp.Stm.cnt_eq x;obtain⟨ea,ec,ex,a1',c1,xs1,a2',c2,xs2,rfl,hr3,hx3,hr4,hx4,hr5,hx5⟩:=hx.out;rw[C7V,if_pos k4];generalize hfin:B1z (fun sc m=>Sp.exR C sc x.e m) (A9h C x.thn) 3001 s=fin;have hbt:C6D (U1 x.thn) (A9h C x.thn):=fun s h=>C0p hC x.thn s h
 repeat' (first|refine J9 ?_ hm|refine D8 ?_|refine O6 ?_|refine F5 ?_|refine D5 ?_|refine E5 ?_|refine A7 ?_|refine E8 ?_|refine A8 ?_|refine F6 ?_|(refine C9 (ht:=fun _=>?_) (hf:=fun _=>?_)<;>try first|contradiction|omega))
 refine U3 (fun _:RsX=> [(0,ptr br),(1,.pointer (some ⟨b,o,none⟩))])
  (fun y w'=>Mem E y.I (RSt br bm bf y.s.sc y.s.back y.s.m y.sa y.sp y.va y.vp deep) w'/\Le I y.I/\3000<y.k+y.s.m.steps/\fin=B1z (fun sc m=>Sp.exR C sc x.e m) (A9h C x.thn) y.k y.s/\
   s.m.To y.s.m/\(y.s.m.err=0->y.s.sc.length=s.sc.length)) (fun y=>3001-y.s.m.steps) ⟨3001,I,s,sa,sp,va,vp⟩
  (by exact⟨rfl,rfl,trivial⟩) ⟨hm,Le.refl _,by dsimp only;omega,hfin.symm,.refl hst,fun _=>rfl⟩ ?_
 clear hm;rintro⟨j,I1,y,sa1,sp1,va1,vp1⟩ w1 ⟨hm,hle1,hj,hlp,hto,hln⟩;dsimp only at hm hle1 hj hlp hto hln |-;have hst1:=hto.top;have hev1:y.m.ev.length<=y.m.steps:=by have:=hto.ev;omega
 obtain⟨j,rfl⟩:∃i,j=i+1:=⟨j-1,by omega⟩;have hp1:=hp.le hle1;have hS:=fun (J:P8)=>C5X (bm:=bm) (bf:=bf) (m:=y.m) (ea:=va1) (ep:=vp1) (deep:=deep) hst1 J
 have hstt:=B2P hst1;have hse:=C1o y.m;have hgg:= @C1p y.m;rw[B1z]at hlp;obtain⟨sc,back,m⟩:=y;dsimp only at hm hj hlp hto hln hst1 hev1 hS hstt hse hgg;generalize hm1:m.step=m1 at hS hstt hse hlp hgg;have hevr:A9p m1 va1 vp1=A9p m va1 vp1:=by unfold A9p;rw[hse]
 have hev2:m1.ev.length<=m1.steps:=by have:=hstt.ev;omega
 cases hgo:m.go with
 |false=>
  rw[hgo,if_pos rfl]at hlp;rw[hgo]at hS;rw[hlp];repeat' (first|refine F8 (d:=14) ?_ hm (hp:=pm1_2) (hc:=hS _);clear hm;rintro _ I2 _ _ ⟨rfl,rfl⟩ hleI2 hm;try simp only[G5]at hm;rw[<-hevr]at hm|refine J6 ?_ hm|refine D8 ?_|refine N7 ?_|refine F5 ?_|refine D5 ?_|refine A0z ?_|refine E5 ?_|refine A7 ?_|refine H8 ?_|refine H6 ?_|refine G9 ?_|refine E8 ?_|refine A8 ?_|refine O8 ?_|refine J3 ?_|refine A69 ?_|refine F7 ?_)
  exact⟨I2,_,⟨rfl,sa1,sp1,va1,vp1,rfl⟩,hm.perm pm2_1⟩
 |true=>
 rw[hgo,if_neg (by simp)]at hlp;rw[hgo]at hS;obtain⟨hg1,hg2,hg3⟩:=hgg hgo;have hsl:=hln hg2;have hE:=fun (J:P8) (mm:Le I1 J) (b o tc:Nat) (hpt:PtrI J b o tc (A0E x.e ea ec))=>D17 (br:=br) hW hC _ x.e (H7 _) s1 hok J b o tc ea ec ex sc back m1 sa1 sp1 va1 vp1 ((hle0.trans hle1).trans mm) hstt.top hev2 (by omega) hpt ((hr3.le hle1).le mm) (Z7.le mm _ _ (Z7.le hle1 _ _ hx3))
 have hte:=B45 hC sc x.e m1 hstt.top;generalize Sp.exR C sc x.e m1=r at hE hlp hte;have hev3:r.2.ev.length<=r.2.steps:=by have:=hte.ev;omega
 have hpe:=fun (J:P8) (mm:Le I1 J)=>C3X (hp1.le mm)
 by_cases hn:r.1=0
 ·rw[if_neg (fun h=>h.1 hn)]at hlp
  rw[hlp];rw[hn]at hE;repeat' (first|refine F8 (d:=14) ?_ hm (hp:=pm1_2) (hc:=hS _);clear hm;rintro _ I2 _ _ ⟨rfl,rfl⟩ hleI2 hm;try simp only[G5]at hm;rw[<-hevr]at hm;replace hm:=hm.perm pm2_1;have hp2:=hp1.le hleI2|refine F8 (d:=20) ?_ hm (hp:=pmR4) (hc:=hE I2 hleI2 _ _ _ (hpe _ hleI2));clear hm;rintro _ I3 _ _ ⟨rfl,va3,vp3,rfl⟩ hleI3 hm;try simp only[G5]at hm|refine J6 ?_ hm|refine D8 ?_|refine O0 ?_|refine N7 ?_|refine A0w ?_|refine F5 ?_|refine D5 ?_|refine A0z ?_|refine E5 ?_|refine A7 ?_|refine H8 ?_|refine H6 ?_|refine G9 ?_|refine E8 ?_|refine A8 ?_|refine O8 ?_|refine J3 ?_|refine A69 ?_|refine F7 ?_)
  exact⟨I3,_,⟨rfl,sa1,sp1,va3,vp3,rfl⟩,hm⟩
 by_cases he:r.2.err=0
 ·rw[if_pos ⟨hn,he⟩]at hlp
  have hB:=fun (J:P8) (mm:Le I1 J) (va:Option Addr) (vp:Nat)=>hT J a1' c1 xs1 ⟨sc,back,r.2⟩ sa1 sp1 va vp ((hle0.trans hle1).trans mm) hte.top hev3 (by dsimp only;omega) ((hr4.le hle1).le mm) (V4.le mm _ _ (V4.le hle1 _ _ hx4))
  dsimp only at hB;have htb:=hbt ⟨sc,back,r.2⟩ hte.top;generalize A9h C x.thn ⟨sc,back,r.2⟩=s9 at hB hlp htb;dsimp only at htb;repeat' (first|refine F8 (d:=14) ?_ hm (hp:=pm1_2) (hc:=hS _);clear hm;rintro _ I2 _ _ ⟨rfl,rfl⟩ hleI2 hm;try simp only[G5]at hm;rw[<-hevr]at hm;replace hm:=hm.perm pm2_1;have hp2:=hp1.le hleI2|refine F8 (d:=20) ?_ hm (hp:=pmR4) (hc:=hE I2 hleI2 _ _ _ (hpe _ hleI2));clear hm;rintro _ I3 _ _ ⟨rfl,va3,vp3,rfl⟩ hleI3 hm;try simp only[G5]at hm;have hp3:=hp2.le hleI3|refine F8 (d:=38) ?_ hm (hp:=pmR4) (hc:=hB I3 (hleI2.trans hleI3) va3 vp3);clear hm;rintro _ I4 _ _ ⟨rfl,sa4,sp4,va4,vp4,rfl⟩ hleI4 hm;try simp only[G5]at hm|refine J6 ?_ hm|refine J9 ?_ hm|refine D8 ?_|refine O0 ?_|refine O6 ?_|refine A0w ?_|refine F5 ?_|refine D5 ?_|(refine O3 (h1:=fun _=>?_) (h0:=fun _=>?_)<;>try first|contradiction|omega)|refine E5 ?_|refine A7 ?_|refine D7 ?_|refine E8 ?_|refine A8 ?_|refine F6 ?_|refine G7 ?_|(refine C9 (ht:=fun _=>?_) (hf:=fun _=>?_)<;>try first|contradiction|omega))
  have hup:=hte.up;have hup2:=htb.1.m.up;have hup3:m1.steps=m.steps+1:=by rw[hg1]
  exact L6 (⟨j,I4,s9,sa4,sp4,va4,vp4⟩:RsX) (by exact⟨rfl,rfl,trivial⟩)
   ⟨hm,((hle1.trans hleI2).trans hleI3).trans hleI4,by dsimp only at hup2 |-;omega,hlp,((hto.trans hstt).trans hte).trans htb.1.m,fun h=>by have:=htb.2 h;dsimp only at this |-;omega⟩ (by dsimp only at hup2 |-;omega)
 ·rw[if_neg (fun h=>he h.2)]at hlp
  rw[hlp];repeat' (first|refine F8 (d:=14) ?_ hm (hp:=pm1_2) (hc:=hS _);clear hm;rintro _ I2 _ _ ⟨rfl,rfl⟩ hleI2 hm;try simp only[G5]at hm;rw[<-hevr]at hm;replace hm:=hm.perm pm2_1;have hp2:=hp1.le hleI2|refine F8 (d:=20) ?_ hm (hp:=pmR4) (hc:=hE I2 hleI2 _ _ _ (hpe _ hleI2));clear hm;rintro _ I3 _ _ ⟨rfl,va3,vp3,rfl⟩ hleI3 hm;try simp only[G5]at hm|refine J6 ?_ hm|refine D8 ?_|refine O0 ?_|refine O6 ?_|refine A0w ?_|refine F5 ?_|refine D5 ?_|(refine O3 (h1:=fun _=>?_) (h0:=fun _=>?_)<;>try first|contradiction|omega)|refine E5 ?_|refine A7 ?_|refine H8 ?_|refine H6 ?_|refine G9 ?_|refine E8 ?_|refine A8 ?_|refine O8 ?_|refine J3 ?_|refine A69 ?_|(refine C9 (ht:=fun _=>?_) (hf:=fun _=>?_)<;>try first|contradiction|omega))
  exact⟨I3,_,⟨rfl,sa1,sp1,va3,vp3,rfl⟩,hm⟩
end
section
variable {I0:P8}{its:List Sp.Itm}{C:A5w}{br bm bf deep:Nat}
theorem D6Q (hW:C1H I0 its C bm bf deep) (hC:A8G C) (x:Sp.Stm) (hsm:x.small) (hok:x.e.all (Sp.okE its)) (hT:B6N I0 C br bm bf deep x.thn) (hL:B6N I0 C br bm bf deep x.els):C4s I0 C br bm bf deep x:=by
 by_cases k4:x.kind=4
 ·exact D4H hW hC x hsm hok hT k4
 intro I b o tc cs s sa sp va vp hle0 hst hev hsc hp hx;refine CalM.of fun w E hm=>enter (N:=135) func124 rfl [(0,ptr br),(1,.pointer (some ⟨b,o,none⟩))] A1x rfl ?_
 obtain⟨s1,s2,s3,s4,s5⟩:=A15 hsm;have hcn:=Sp.Stm.cnt_eq x;obtain⟨ea,ec,ex,a1',c1,xs1,a2',c2,xs2,rfl,hr3,hx3,hr4,hx4,hr5,hx5⟩:=hx.out;have hS:=fun (J:P8)=>C5X (bm:=bm) (bf:=bf) (m:=s.m) (ea:=va) (ep:=vp) (deep:=deep) hst J
 have hstt:=B2P hst;have hse:=C1o s.m;have hgg:= @C1p s.m;have heq:=C7V C x s;rw[if_neg k4]at heq;obtain⟨fin,hfin⟩:∃fin,fin=B6k C x s:=⟨_,rfl⟩;rw[<-hfin]at heq |-;clear hfin;obtain⟨sc,back,m⟩:=s;dsimp only at hm hst hev hsc hS hstt hse hgg heq;generalize hm1:m.step=m1 at hS hstt hse heq hgg;have hevr:A9p m1 va vp=A9p m va vp:=by unfold A9p;rw[hse]
 have hev2:m1.ev.length<=m1.steps:=by have:=hstt.ev;omega
 cases hgo:m.go with
 |false=>
  rw[hgo,if_pos rfl]at heq;rw[hgo]at hS;subst heq;repeat' (first|refine F8 (d:=43) ?_ hm (hp:=pm1_2) (hc:=hS _);clear hm;rintro _ I2 _ _ ⟨rfl,rfl⟩ hleI2 hm;try simp only[G5]at hm;rw[<-hevr]at hm|refine J6 ?_ hm|refine J9 ?_ hm|refine D8 ?_|refine O6 ?_|refine A0h ?_|refine F5 ?_|refine D5 ?_|refine E5 ?_|refine A7 ?_|refine H8 ?_|refine E8 ?_|refine A8 ?_|refine G7 ?_|refine J3 ?_|refine A69 ?_|refine H5 ?_|(refine C9 (ht:=fun _=>?_) (hf:=fun _=>?_)<;>try first|contradiction|omega))
  exact⟨I2,_,⟨rfl,sa,sp,va,vp,rfl⟩,hm.perm pm2_1⟩
 |true=>
 rw[hgo,if_neg (by simp)]at heq;rw[hgo]at hS;obtain⟨hg1,hg2,hg3⟩:=hgg hgo;have hE:=fun (J:P8) (mm:Le I J) (b o tc:Nat) (hpt:PtrI J b o tc (A0E x.e ea ec))=>D17 (br:=br) hW hC _ x.e (H7 _) s1 hok J b o tc ea ec ex sc back m1 sa sp va vp (hle0.trans mm) hstt.top hev2 (by omega) hpt (hr3.le mm) (Z7.le mm _ _ hx3)
 have hte:=B45 hC sc x.e m1 hstt.top;generalize Sp.exR C sc x.e m1=r at hE heq hte;have hte2:=hte.ev;have hst4:=hte.top;have hst3:m1.steps=m.steps+1:=by rw[hg1]
 have hev3:r.2.ev.length<=r.2.steps:=by omega
 have hpe:=fun (J:P8) (mm:Le I J)=>C3X (hp.le mm)
 by_cases he:r.2.err≠0
 ·rw[if_pos he]at heq
  subst heq;repeat' (first|refine F8 (d:=43) ?_ hm (hp:=pm1_2) (hc:=hS _);clear hm;rintro _ I2 _ _ ⟨rfl,rfl⟩ hleI2 hm;try simp only[G5]at hm;rw[<-hevr]at hm;replace hm:=hm.perm pm2_1;have hp2:=hp.le hleI2|refine F8 (d:=49) ?_ hm (hp:=pmR4) (hc:=hE I2 hleI2 _ _ _ (hpe _ hleI2));clear hm;rintro _ I3 _ _ ⟨rfl,va3,vp3,rfl⟩ hleI3 hm;try simp only[G5]at hm|refine J6 ?_ hm|refine J9 ?_ hm|refine D8 ?_|refine D6 ?_|refine O6 ?_|refine A0w ?_|refine A0h ?_|refine F5 ?_|refine D5 ?_|refine E5 ?_|refine A7 ?_|refine H8 ?_|refine E8 ?_|refine A8 ?_|refine G7 ?_|refine J3 ?_|refine A69 ?_|refine F7 ?_|(refine C9 (ht:=fun _=>?_) (hf:=fun _=>?_)<;>try first|contradiction|omega))
  exact⟨I3,_,⟨rfl,sa,sp,va3,vp3,rfl⟩,hm⟩
 rw[if_neg he]at heq;have he0:r.2.err=0:=by omega
 repeat' (first|refine F8 (d:=43) ?_ hm (hp:=pm1_2) (hc:=hS _);clear hm;rintro _ I2 _ _ ⟨rfl,rfl⟩ hleI2 hm;try simp only[G5]at hm;rw[<-hevr]at hm;replace hm:=hm.perm pm2_1;have hp2:=hp.le hleI2|refine F8 (d:=49) ?_ hm (hp:=pmR4) (hc:=hE I2 hleI2 _ _ _ (hpe _ hleI2));clear hm;rintro _ I3 _ _ ⟨rfl,va3,vp3,rfl⟩ hleI3 hm;try simp only[G5]at hm;have hp3:=hp2.le hleI3|refine A0U 6 ?_|refine J6 ?_ hm|refine J9 ?_ hm|refine D8 ?_|refine D6 ?_|refine O6 ?_|refine A0w ?_|refine A0h ?_|refine F5 ?_|refine D5 ?_|refine E5 ?_|refine A7 ?_|refine E8 ?_|refine A8 ?_|refine G7 ?_|refine F7 ?_|(refine C9 (ht:=fun _=>?_) (hf:=fun _=>?_)<;>try first|contradiction|omega))
 refine⟨?_⟩
 have hle3:=hleI2.trans hleI3;by_cases k1:x.kind=1
 ·rw[if_pos k1]at heq
  subst heq;repeat' (first|refine A0R (id:=8) (hm.perm pm1_1) 11 13 (h:=?_);clear hm;intro wd hR hm|refine A0k ?_ hR|refine A0G ?_ hR|refine A3b (d:=76) ?_ hm;clear hm;intro a76 cp76 _ _ hm;replace hm:=hR.back hm;clear hR;try simp only[G5]at hm|refine J9 ?_ hm|refine P5 hm (k:=?_);clear hm;intro _ hm;try simp only[G5]at hm|refine D8 ?_|refine D6 ?_|refine O6 ?_|refine F5 ?_|refine D5 ?_|refine E5 ?_|refine A7 ?_|refine D7 ?_|refine E8 ?_|refine A8 ?_|refine F6 ?_|refine A0p ?_|(refine C9 (ht:=fun _=>?_) (hf:=fun _=>?_)<;>try first|contradiction|omega)|refine A0x ?_|refine U5 ?_|refine N8 ?_|refine A4U ?_|refine A0y ?_)
  refine⟨I3,_,⟨rfl,a76,cp76,va3,vp3,?_⟩,hm.swap⟩
  dsimp only[RSt,B3c,B3i];rw[X0,D9];rfl
 rw[if_neg k1]at heq;by_cases k2:x.kind=2
 ·rw[if_pos k2]at heq
  have hG:=fun (J:P8)=>D5Q (br:=br) (bm:=bm) (sc:=sc) (sa:=sa) (sp:=sp) (back:=back) x.name J (by omega)
  rw[D2s]at heq;repeat' (first|refine F8 (d:=86) ?_ hm (hp:=pm2_0) (hc:=hG _);clear hm;rintro _ I4 _ _ (⟨i,p,b2,hgi,hfl,rfl,rfl,rfl⟩|⟨hfl,bl,rfl,rfl⟩) hleI4 hm<;>try simp only[G5]at hm|refine A5P (i:=1) hm (by rfl) (by rfl) (by rfl) (by rfl) gt1 (by rfl) (by rfl) (by rw[C8m];have:=(A0D.1 hgi).1;omega) ?_;clear hm;intro _ hm;try simp only[G5]at hm|refine J9 ?_ hm|refine P5 hm (k:=?_);clear hm;intro _ hm;try simp only[G5]at hm|refine D8 ?_|refine D6 ?_|refine O6 ?_|refine F5 ?_|refine D5 ?_|refine E5 ?_|refine A7 ?_|refine D7 ?_|refine E8 ?_|refine A8 ?_|refine F6 ?_|refine A0p ?_|(refine C9 (ht:=fun _=>?_) (hf:=fun _=>?_)<;>try first|contradiction|omega))
  ·rw[hfl]at heq
   have hd:sc.getD i ⟨[],0⟩=p:=by rw[N9,hgi];rfl
   dsimp only at heq;rw[hd]at heq;subst heq;refine⟨I4,_,⟨rfl,some ⟨b2,0,none⟩,sp,va3,vp3,?_⟩,hm⟩
   dsimp only[RSt,B3c,B3i];rw[<-B9d r.1 hgi,A29]
  ·rw[hfl]at heq
   subst heq;exact⟨I4,_,⟨rfl,sa,sp,va3,vp3,rfl⟩,hm.tl⟩
 rw[if_neg k2]at heq;by_cases k5:x.kind=5
 ·rw[if_pos k5]at heq
  subst heq;repeat' (first|refine A0R (id:=12) (hm.perm pm1_3) 17 19 (h:=?_);clear hm;intro wd hR hm|refine A0k ?_ hR|refine A0G ?_ hR|refine A3b (d:=110) ?_ hm;clear hm;intro a110 cp110 _ _ hm;replace hm:=hR.back hm;clear hR;try simp only[G5]at hm|refine J9 ?_ hm|refine P5 hm (k:=?_);clear hm;intro _ hm;try simp only[G5]at hm|refine D8 ?_|refine D6 ?_|refine O6 ?_|refine F5 ?_|refine D5 ?_|refine E5 ?_|refine A7 ?_|refine D7 ?_|refine E8 ?_|refine A8 ?_|refine F6 ?_|refine A0p ?_|(refine C9 (ht:=fun _=>?_) (hf:=fun _=>?_)<;>try first|contradiction|omega)|refine A0x ?_|refine U5 ?_|refine N8 ?_|refine A4U ?_|refine A0y ?_)
  refine⟨I3,_,⟨rfl,sa,sp,a110,cp110,?_⟩,hm.perm pm1_3.symm⟩
  dsimp only[RSt,B7J,A9p];rw[X0,D9];rfl
 rw[if_neg k5]at heq;by_cases k6:x.kind=6
 ·rw[if_pos k6]at heq
  subst heq;repeat' (first|refine J9 ?_ hm|refine P5 hm (k:=?_);clear hm;intro _ hm;try simp only[G5]at hm|refine D8 ?_|refine D6 ?_|refine O6 ?_|refine F5 ?_|refine D5 ?_|refine E5 ?_|refine A7 ?_|refine D7 ?_|refine E8 ?_|refine A8 ?_|refine F6 ?_|refine A0p ?_|(refine C9 (ht:=fun _=>?_) (hf:=fun _=>?_)<;>try first|contradiction|omega))
  exact⟨I3,_,⟨rfl,sa,sp,va3,vp3,rfl⟩,hm⟩
 rw[if_neg k6]at heq;by_cases k3:x.kind=3
 ·rw[if_pos k3]at heq
  by_cases hn:r.1≠0
  ·rw[if_pos hn]at heq
   have hB:=hT I3 a1' c1 xs1 ⟨sc,back,r.2⟩ sa sp va3 vp3 (hle0.trans hle3) hte.top hev3 (by dsimp only;omega) (hr4.le hle3) (V4.le hle3 _ _ hx4);dsimp only at hB;rw[<-heq]at hB;repeat' (first|refine F8 (d:=128) ?_ hm (hp:=pmR4) (hc:=hB);clear hm;rintro _ I4 _ _ ⟨rfl,sa4,sp4,va4,vp4,rfl⟩ hleI4 hm;try simp only[G5]at hm|refine J9 ?_ hm|refine D8 ?_|refine D6 ?_|refine O6 ?_|refine A0w ?_|refine F5 ?_|refine D5 ?_|refine E5 ?_|refine A7 ?_|refine D7 ?_|refine E8 ?_|refine A8 ?_|refine F6 ?_|refine A0p ?_|(refine C9 (ht:=fun _=>?_) (hf:=fun _=>?_)<;>try first|contradiction|omega))
   exact⟨I4,_,⟨rfl,sa4,sp4,va4,vp4,rfl⟩,hm⟩
  ·rw[if_neg hn]at heq
   have hn0:r.1=0:=by omega
   have hB:=hL I3 a2' c2 xs2 ⟨sc,back,r.2⟩ sa sp va3 vp3 (hle0.trans hle3) hte.top hev3 (by dsimp only;omega) (hr5.le hle3) (V4.le hle3 _ _ hx5);dsimp only at hB;rw[<-heq]at hB;repeat' (first|refine F8 (d:=134) ?_ hm (hp:=pmR4) (hc:=hB);clear hm;rintro _ I4 _ _ ⟨rfl,sa4,sp4,va4,vp4,rfl⟩ hleI4 hm;try simp only[G5]at hm|refine J9 ?_ hm|refine D8 ?_|refine D6 ?_|refine O6 ?_|refine A0w ?_|refine F5 ?_|refine D5 ?_|refine E5 ?_|refine A7 ?_|refine D7 ?_|refine E8 ?_|refine A8 ?_|refine F6 ?_|refine A0p ?_|(refine C9 (ht:=fun _=>?_) (hf:=fun _=>?_)<;>try first|contradiction|omega))
   exact⟨I4,_,⟨rfl,sa4,sp4,va4,vp4,rfl⟩,hm⟩
 rw[if_neg k3]at heq;subst heq;repeat' (first|refine J9 ?_ hm|refine D8 ?_|refine D6 ?_|refine O6 ?_|refine F5 ?_|refine D5 ?_|refine E5 ?_|refine A7 ?_|refine D7 ?_|refine E8 ?_|refine A8 ?_|refine F6 ?_|refine G7 ?_|refine A0p ?_|(refine C9 (ht:=fun _=>?_) (hf:=fun _=>?_)<;>try first|contradiction|omega))
 exact⟨I3,_,⟨rfl,sa,sp,va3,vp3,rfl⟩,hm⟩
theorem D8h (hW:C1H I0 its C bm bf deep) (hC:A8G C):∀(n:Nat) (l:List Sp.Stm),SizeOf.sizeOf l<=n->l.length<=64->A0j l->A0e (Sp.okE its) D3w l->B6N I0 C br bm bf deep l:=by
 intro n;induction n with
 |zero=>intro l h;cases l<;>simp at h
 |succ n ih=>
 intro l hsz hll hsm hal;refine D4E hC l hll (fun y hy=>?_)
 obtain⟨j,hj,rfl⟩:=A2r hy;have hg:=F9 hj;have h1:=A1W hsm hg;have h2:=Sp.Stm.all_node (A60 hal hg);have h3:=A3v (O1 hj);generalize l[j]=y at h1 h2 h3;obtain⟨s1,s2,s3,s4,s5⟩:=A15 h1;obtain⟨z1,z2⟩:=A5n (s:=y);exact D6Q hW hC y h1 h2.2.1 (ih y.thn (by omega) s2 s3 h2.2.2.1) (ih y.els (by omega) s4 s5 h2.2.2.2)
end
theorem C8F (l:List Int):C49 l=l.flatMap (fun n=> [.int .i64 n]):=by
 induction l with
 |nil=>rfl
 |cons a l ih=>
  rw[A0c, <-ih];rfl
structure RFile (I:P8) (its:List Sp.Itm) (bf:Nat) (a:Option Addr) (cp:Nat) (xs:List Value):Prop where
 file:PtrI I bf 0 25 [.slice a its.length cp]
 fe:FE I its a cp xs
 ok:∀it∈its,it.small/\U1 it.body<=400000000/\(it.kind=2->A0e (Sp.okE its) D3w it.body)
structure RcX where
 k:Nat
 sa:Option Addr
 sp:Nat
section
variable {I0:P8}{its:List Sp.Itm}{bm bf:Nat}{a:Option Addr}{cp:Nat}{xs:List Value}
theorem D4F (hF:RFile I0 its bf a cp xs):∀d,d<=40->C1H I0 its (A6a its d) bm bf (40-d):=by
 intro d;induction d with
 |zero=>
  intro _ J nm args m va vp aa ac hle hfd hra hst hev;refine CalM.of fun w E hm=>enter (N:=94) func62 rfl [(0,ptr bm),(1,str nm),(2,.slice aa args.length ac)] A4x rfl ?_
  rw[A6a];by_cases he:m.err≠0
  ·rw[if_pos he]
   repeat' (first|refine J6 ?_ hm|refine D8 ?_|refine D6 ?_|refine A0w ?_|refine F5 ?_|refine D5 ?_|refine E5 ?_|refine A7 ?_|refine H8 ?_|refine E8 ?_|refine A8 ?_|refine J3 ?_|refine J7 ?_|(refine C9 (ht:=fun _=>?_) (hf:=fun _=>?_)<;>try first|contradiction|omega))
   exact⟨J,_,⟨rfl,va,vp,rfl⟩,hm⟩
  ·rw[if_neg he]
   have he0:m.err=0:=by omega
   repeat' (first|refine J6 ?_ hm|refine P5 hm (k:=?_);clear hm;intro _ hm;try simp only[G5]at hm|refine D8 ?_|refine D6 ?_|refine O6 ?_|refine A0w ?_|refine F5 ?_|refine D5 ?_|refine E5 ?_|refine A7 ?_|refine H8 ?_|refine E8 ?_|refine A8 ?_|refine G7 ?_|refine J3 ?_|refine J7 ?_|refine H5 ?_|(refine C9 (ht:=fun _=>?_) (hf:=fun _=>?_)<;>try first|contradiction|omega))
   exact⟨J,_,⟨rfl,va,vp,rfl⟩,hm⟩
 |succ d ihd=>
  intro hd J nm args m va vp aa ac hle hfd hra hst hev;have ih:=ihd (by omega);refine CalM.of fun w E hm=>enter (N:=94) func62 rfl [(0,ptr bm),(1,str nm),(2,.slice aa args.length ac)] A4x rfl ?_
  have heq:∃fin,fin=A6a its (d+1) nm args m:=⟨_,rfl⟩;obtain⟨fin,heq⟩:=heq;rw[<-heq];rw[A6a]at heq;by_cases he:m.err≠0
  ·rw[if_pos he]at heq
   subst heq;repeat' (first|refine J6 ?_ hm|refine D8 ?_|refine D6 ?_|refine A0w ?_|refine F5 ?_|refine D5 ?_|refine E5 ?_|refine A7 ?_|refine H8 ?_|refine E8 ?_|refine A8 ?_|refine J3 ?_|refine J7 ?_|(refine C9 (ht:=fun _=>?_) (hf:=fun _=>?_)<;>try first|contradiction|omega))
   exact⟨J,_,⟨rfl,va,vp,rfl⟩,hm⟩
  rw[if_neg he]at heq;have he0:m.err=0:=by omega
  obtain⟨j,hf,hpl⟩:=hfd;rw[hf]at heq;dsimp only at heq;obtain⟨hjl,hjk,_,_,hmem⟩:=A3O hf;have hfind:=(A9N 2 nm its J a cp xs (hF.fe.le hle)).read;rw[show A6d its 2 nm=(j:Int) by rw[A6d,hf]]at hfind;have hfile:=hF.file.le hle;have hri:=(hF.fe.le hle).row;have hfew:=hF.fe.few;obtain⟨ci,hci,hat,_⟩:=(hF.fe.le hle).get (A5j hjl);obtain⟨hsm,hcnt,hokk⟩:=hF.ok _ hmem;have hok:=hokk (by omega);have hto:=C0p (B1P its d) (X7 its j).body ⟨A7i (X7 its j).params args,0,m⟩ hst;generalize X7 its j=it at heq hpl hat hsm hcnt hok hto;obtain⟨pa,pc,sa9,sc9,ba,bc9,da9,dc9,xb,rfl,hpar,_,hrb,hbs,_⟩:=hat
  have hsp:=hsm.params;have hsb:=hsm.body;have hBk:=fun (br:Nat)=>D8h (br:=br) ih (B1P its d) _ it.body (H7 _) (by omega) hsm.stms hok
  have hra2:=hra;rw[C8F]at hra2;repeat' (first|refine A0S (id:=6) (hm.perm pm0) [0,1,2,3,4,5,6,7,8,9,10,11,12,13] [14,15] 16 (h:=?_);clear hm;intro wd hR hm|refine A0G (j:=0) (d:=30) ?_ hR (hp:=hfile)|refine A1y (d:=36) ?_ hR (hp:=hfile)|refine A5m (d:=38) ?_ hR hm (hc:=hfind);clear hm;intro _ hm|refine C0I (d:=39) hm.kept (by rfl) (by rfl) (by rfl) (by rfl) hri (by omega) (by omega) ?_;intro bt ot hpt;rw[show ((j:Int).toNat *10)=j *10 from rfl,hci]at hpt|refine A0U 8 ?_|refine A0k ?_ hR|refine A0K ?_;replace hm:=hR.back hm;clear hR;try simp only[G5]at hm|refine A0T (d:=42) ?_ hm;clear hm;intro b42 _ hm|refine J6 ?_ hm|refine D8 ?_|refine D6 ?_|refine O6 ?_|refine A0w ?_|refine F5 ?_|refine D5 ?_|refine Y0 ?_|refine E5 ?_|refine A7 ?_|refine E8 ?_|refine A8 ?_|refine G7 ?_|(refine C9 (ht:=fun _=>?_) (hf:=fun _=>?_)<;>try first|contradiction|omega)|refine A0x ?_|refine U5 ?_|refine N8 ?_|refine A0y ?_)
  have hm:=(hm.nil 194 2).swap;refine⟨?_⟩
  repeat' (first|refine J9 ?_ hm|refine D8 ?_|refine G6 ?_|refine F5 ?_|refine D5 ?_|refine E5 ?_|refine A7 ?_|refine A8 ?_|refine F6 ?_)
  refine U3 (fun x:RcX=> [(0,ptr bm),(2,.slice aa args.length ac),(7,.pointer (some ⟨bt,ot,none⟩)),(8,ptr b42),(46,.slice pa it.params.length pc),(47,nt it.params.length),(48,nt x.k)])
   (fun x w'=>Mem E J [B3c b42 bm (A7i (it.params.take x.k) args) x.sa x.sp 0,B3i (A7i (it.params.take x.k) args) x.sa x.sp,B7J bm bf m va vp (40-(d+1)),A9p m va vp] w'/\x.k<=it.params.length) (fun x=>it.params.length-x.k) ⟨0,none,0⟩
   (by exact⟨rfl,rfl,rfl,rfl,rfl,rfl,rfl,trivial⟩) ⟨hm,H9 _⟩ ?_
  clear hm;rintro⟨k,sa,sp⟩ w1 ⟨hm,hk⟩;dsimp only at hm hk |-;have hpln:=C9f hk hpl;by_cases hlt:k<it.params.length
  ·have hg:it.params[k]?=some it.params[k]:=F9 hlt
   have hga:args[k]?=some args[k]:=F9 (by omega);generalize it.params[k]=p at hg;generalize args[k]=n at hga;have hstp:=C5S hg hga;generalize A7i (it.params.take k) args=sc at hm hpln hstp;repeat' (first|refine Q4 (d:=51) (enc:=A2L) (z:=p) ?_ (hr:=hpar) (he:=fun _=>rfl) (hz:=by exact hg);intro bz oz hpz|refine A0R (id:=11) (hm.perm pm1_2) 12 14 (h:=?_);clear hm;intro wd hR hm|refine A39 (d:=62) (enc:=fun n=> [.int .i64 n]) (z:=n) ?_ (hr:=hra2) (he:=fun _=>rfl) (hz:=by exact hga);intro by_ oy hpy|refine A0G (j:=0) (d:=63) ?_ hR (hp:=hpy)|refine A0k ?_ hR|refine A3b (d:=66) ?_ hm;clear hm;intro a66 cp66 _ _ hm;replace hm:=hR.back hm;clear hR;try simp only[G5]at hm|refine X8 (d:=10) ?_ hm;clear hm;intro b10 _ hm|refine U0 ?_ hm|refine P6 ?_ hm;clear hm;intro _ hm;try simp only[G5]at hm|refine P5 hm (k:=?_);clear hm;intro _ hm;try simp only[G5]at hm|refine D8 ?_|refine D6 ?_|refine J8 ?_|refine F5 ?_|refine O9 ?_|refine D5 ?_|refine E5 ?_|refine A7 ?_|refine D7 ?_|refine E8 ?_|refine A8 ?_|refine F6 ?_|refine G7 ?_|(refine C9 (ht:=fun _=>?_) (hf:=fun _=>?_)<;>try first|contradiction|omega)|refine A0x ?_|refine U5 ?_|refine N8 ?_|refine A4U ?_|refine A0y ?_)
   refine L6 (⟨k+1,a66,cp66⟩:RcX) (by exact⟨rfl,rfl,rfl,rfl,rfl,rfl,rfl,trivial⟩) ⟨?_,by dsimp only;omega⟩ (by dsimp only;omega)
   dsimp only[B3c,B3i];rw[hstp,X0,D9];exact hm.snd.swap
  obtain rfl:k=it.params.length:=by omega
  rw[V7]at hm hpln;generalize A7i it.params args=sc at hm hpln heq hto;have hB:=hBk b42 J ba bc9 xb ⟨sc,0,m⟩ sa sp va vp hle hst hev (by dsimp only;omega) hrb hbs;dsimp only at hB;generalize A9h (A6a its d) it.body ⟨sc,0,m⟩=s9 at hB heq hto;subst heq;have e1:(((40-(d+1):Nat):Int)+1)=((40-d:Nat):Int):=by omega
  have e2:(((40-d:Nat):Int)-1)=((40-(d+1):Nat):Int):=by omega
  repeat' (first|refine A0U 14 ?_|refine J6 ?_ hm|refine P5 hm (k:=?_);clear hm;intro _ hm;try simp only[G5]at hm|refine D8 ?_|refine J8 ?_|refine F5 ?_|refine O9 ?_|refine D5 ?_|refine E5 ?_|refine A7 ?_|refine H6 ?_|refine G9 ?_|refine E8 ?_|refine A8 ?_|refine O8 ?_|(refine C9 (ht:=fun _=>?_) (hf:=fun _=>?_)<;>try first|contradiction|omega))
  rw[e1]at hm;refine⟨?_⟩
  repeat' (first|refine F8 (d:=82) ?_ hm (hp:=pmR4) (hc:=hB);clear hm;rintro _ I4 _ _ ⟨rfl,sa4,sp4,va4,vp4,rfl⟩ hleI4 hm;try simp only[G5]at hm|refine A0U 16 ?_|refine J6 ?_ hm|refine J9 ?_ hm|refine P5 hm (k:=?_);clear hm;intro _ hm;try simp only[G5]at hm|refine D8 ?_|refine F5 ?_|refine A5e ?_|refine D5 ?_|refine E5 ?_|refine A7 ?_|refine E8 ?_|refine A8 ?_)
  rw[e2]at hm;refine⟨?_⟩
  repeat' (first|refine J6 ?_ hm|refine D8 ?_|refine D6 ?_|refine F5 ?_|refine D5 ?_|refine E5 ?_|refine A7 ?_|refine A8 ?_|refine J3 ?_|refine J7 ?_)
  exact⟨I4,_,⟨rfl,va4,vp4,rfl⟩,hm.right (H:= [_,_])⟩
end
section
variable {src:List UInt8}{its:List Sp.Itm}{a:Option Addr}{cp:Nat}{xs:List Value}
abbrev D18 (ea:Option Addr) (ep:Nat) (r:Sp.Rn):Value:=.agg [.slice ea r.ev.length ep,.int .i64 r.n,nt r.err,nt r.steps].toArray
abbrev D5D (r:Sp.Rn):Value->P8->List HItem->Prop:=fun v I' H'=>H'= []/\∃ea ep,v=D18 ea ep r/\RowI I' 186 2 (.slice ea r.ev.length ep) r.ev.length (r.ev.flatMap B1v)
theorem D5R (nm:List UInt8) (args:List Int) (I:P8) (h:FE I its a cp xs) (hA:Sp.AllOk src its) (hok:A3H its= []->∀it∈its,it.kind=2->A0e (Sp.okE its) D3w it.body) (aa:Option Addr) (ac:Nat)
  (hra:RowI I 3 1 (.slice aa args.length ac) args.length (C49 args)):
  CalM prog 30 #[.agg [.slice a its.length cp].toArray,str nm,.slice aa args.length ac] I [] (D5D (B3M its nm args)):=by
 refine CalM.of fun w E hm=>enter (N:=61) func30 rfl [(0,.agg [.slice a its.length cp].toArray),(1,str nm),(2,.slice aa args.length ac)] A4x rfl ?_
 have hfew:=hA.few;obtain⟨fin,hfin⟩:∃fin,fin=B3M its nm args:=⟨_,rfl⟩;rw[<-hfin];rw[B3M]at hfin;have hfind:=fun (J:P8) (m:Le I J)=>(A9N 2 nm its J a cp xs (h.le m)).read
 have hAll:=fun (J:P8) (m:Le I J)=>B5Z J (h.le m) hA
 have hmore:∀(J:P8),RowI J 186 2 (.slice none 0 0) 0 (([]:List Sp.Ev).flatMap B1v):=fun J=>A1L _ _ _ _ _
 by_cases hbad:A3H its≠ []
 ·rw[if_pos hbad]at hfin
  subst hfin;have hl0:0<(A3H its).length:=A24.2 hbad;generalize A3H its=all at hAll hl0;repeat' (first|refine A0U 1 ?_|refine A0T (d:=3) ?_ hm;clear hm;intro b3 _ hm|refine X8 (d:=6) ?_ hm;clear hm;intro b6 _ hm|refine E5 ?_|refine A7 ?_|refine E8 ?_|refine A8 ?_)
  obtain⟨I2,hle2,hm2,hpf⟩:=Mem.freezeO hm.swap;clear hm;have hm:=hm2;clear hm2;refine⟨?_⟩
  repeat' (first|refine U0 (d:=10) ?_ hm (hp:=hpf)|refine U8 (d:=12) ?_ hm (hc:=hfind I2 hle2);clear hm;intro _ hm|refine U0 (d:=14) ?_ hm (hp:=hpf)|refine F8 (d:=15) ?_ hm (hp:=pm0) (hc:=hAll I2 hle2);clear hm;rintro _ I3 _ _ ⟨rfl,da,dp,rfl,hrd⟩ hleI3 hm;try simp only[G5]at hm|refine P6 ?_ hm;clear hm;intro _ hm;try simp only[G5]at hm|refine A0a ?_ hm|refine D8 ?_|refine D6 ?_|refine A1H ?_|refine G6 ?_|refine Y0 ?_|refine E5 ?_|refine A7 ?_|refine H8 ?_|refine O5 ?_|refine E8 ?_|refine A8 ?_|refine F6 ?_|refine J3 ?_|(refine C9 (ht:=fun _=>?_) (hf:=fun _=>?_)<;>try first|contradiction|omega))
  exact⟨I3,[],⟨rfl,none,0,rfl,hmore _⟩,hm.left (H:= [])⟩
 rw[if_neg hbad]at hfin;have hb0:A3H its= []:=Classical.not_not.1 hbad;have hok2:=hok hb0;rw[hb0]at hAll;cases hf:A0M its 2 nm with
 |none=>
  rw[hf]at hfin;dsimp only at hfin;subst hfin;rw[show A6d its 2 nm= -1 by rw[A6d,hf]]at hfind;repeat' (first|refine A0U 1 ?_|refine A0T (d:=3) ?_ hm;clear hm;intro b3 _ hm|refine X8 (d:=6) ?_ hm;clear hm;intro b6 _ hm|refine E5 ?_|refine A7 ?_|refine E8 ?_|refine A8 ?_)
  obtain⟨I2,hle2,hm2,hpf⟩:=Mem.freezeO hm.swap;clear hm;have hm:=hm2;clear hm2;refine⟨?_⟩
  repeat' (first|refine U0 (d:=10) ?_ hm (hp:=hpf)|refine U8 (d:=12) ?_ hm (hc:=hfind I2 hle2);clear hm;intro _ hm|refine U0 (d:=14) ?_ hm (hp:=hpf)|refine F8 (d:=15) ?_ hm (hp:=pm0) (hc:=hAll I2 hle2);clear hm;rintro _ I3 _ _ ⟨rfl,da,dp,rfl,hrd⟩ hleI3 hm;try simp only[G5]at hm|refine P6 ?_ hm;clear hm;intro _ hm;try simp only[G5]at hm|refine A0a ?_ hm|refine D8 ?_|refine D6 ?_|refine J8 ?_|refine A1H ?_|refine G6 ?_|refine Y0 ?_|refine E5 ?_|refine A7 ?_|refine H8 ?_|refine O5 ?_|refine E8 ?_|refine A8 ?_|refine F6 ?_|refine J3 ?_|refine H5 ?_|refine F7 ?_)
  exact⟨I3,[],⟨rfl,none,0,rfl,hmore _⟩,hm.left (H:= [])⟩
 |some j=>
 rw[hf]at hfin;dsimp only at hfin;rw[show A6d its 2 nm=(j:Int) by rw[A6d,hf]]at hfind;obtain⟨hjl,hjk,_,_,hmem⟩:=A3O hf;have hri:=h.row;obtain⟨ci,hci,hat,_⟩:=h.get (A5j hjl);have hsm:=(hA.fl _ hmem).small;have hcall:=fun (J:P8) (m:Le I J) (bf bm:Nat) (hp:PtrI J bf 0 25 [.slice a its.length cp]) (hpl:args.length=(X7 its j).params.length)=>
  D4F (bm:=bm) (⟨hp,h.le m,fun it hit=>⟨(hA.fl it hit).small,(hA.fl it hit).cnt,hok2 it hit⟩⟩:RFile J its bf a cp xs) 40 (H7 _) J nm args Sp.MR0 none 0 aa ac (Le.refl _) ⟨j,hf,hpl.symm⟩ (hra.le m) (H9 _) (H9 _)
 have hto:=B1P its 40 nm args Sp.MR0 (H9 _);generalize X7 its j=it at hfin hat hsm hcall;obtain⟨pa,pc,sa9,sc9,ba,bc9,da9,dc9,xb,rfl,hpar,_,_,_,_⟩:=hat
 by_cases hpl:args.length=it.params.length
 case neg=>
  rw[if_pos hpl]at hfin;subst hfin;repeat' (first|refine A0U 1 ?_|refine A0T (d:=3) ?_ hm;clear hm;intro b3 _ hm|refine X8 (d:=6) ?_ hm;clear hm;intro b6 _ hm|refine E5 ?_|refine A7 ?_|refine E8 ?_|refine A8 ?_)
  obtain⟨I2,hle2,hm2,hpf⟩:=Mem.freezeO hm.swap;clear hm;have hm:=hm2;clear hm2;have hri2:=hri.le hle2;refine⟨?_⟩
  repeat' (first|refine U0 (d:=10) ?_ hm (hp:=hpf)|refine U8 (d:=12) ?_ hm (hc:=hfind I2 hle2);clear hm;intro _ hm|refine U0 (d:=14) ?_ hm (hp:=hpf)|refine F8 (d:=15) ?_ hm (hp:=pm0) (hc:=hAll I2 hle2);clear hm;rintro _ I3 _ _ ⟨rfl,da,dp,rfl,hrd⟩ hleI3 hm;try simp only[G5]at hm;have hpf3:=hpf.le hleI3;have hri3:=hri2.le hleI3|refine O7 (d:=29) ?_ (hr:=hri3);intro bt ot hpt;rw[show ((j:Int).toNat *10)=j *10 from rfl,hci]at hpt|refine J9 ?_ hm|refine P6 ?_ hm;clear hm;intro _ hm;try simp only[G5]at hm|refine A0a ?_ hm|refine D8 ?_|refine D6 ?_|refine J8 ?_|refine A1H ?_|refine A0w ?_|refine G6 ?_|refine D5 ?_|refine Y0 ?_|refine E5 ?_|refine A7 ?_|refine H8 ?_|refine O5 ?_|refine E8 ?_|refine A8 ?_|refine F6 ?_|refine J3 ?_|refine F7 ?_|(refine C9 (ht:=fun _=>?_) (hf:=fun _=>?_)<;>try first|contradiction|omega))
  exact⟨I3,[],⟨rfl,none,0,rfl,hmore _⟩,hm.left (H:= [])⟩
 rw[if_neg (fun hh=>hh hpl)]at hfin;have hcall2:=fun (J:P8) (m:Le I J) (bf bm:Nat) (hp:PtrI J bf 0 25 [.slice a its.length cp])=>hcall J m bf bm hp hpl
 clear hcall;generalize A6a its 40 nm args Sp.MR0=r at hfin hcall2 hto;repeat' (first|refine A0U 1 ?_|refine A0T (d:=3) ?_ hm;clear hm;intro b3 _ hm|refine X8 (d:=6) ?_ hm;clear hm;intro b6 _ hm|refine E5 ?_|refine A7 ?_|refine E8 ?_|refine A8 ?_)
 obtain⟨I2,hle2,hm2,hpf⟩:=Mem.freezeO hm.swap;clear hm;have hm:=hm2;clear hm2;have hri2:=hri.le hle2;refine⟨?_⟩
 repeat' (first|refine U0 (d:=10) ?_ hm (hp:=hpf)|refine U8 (d:=12) ?_ hm (hc:=hfind I2 hle2);clear hm;intro _ hm|refine U0 (d:=14) ?_ hm (hp:=hpf)|refine F8 (d:=15) ?_ hm (hp:=pm0) (hc:=hAll I2 hle2);clear hm;rintro _ I3 _ _ ⟨rfl,da,dp,rfl,hrd⟩ hleI3 hm;try simp only[G5]at hm;have hpf3:=hpf.le hleI3;have hri3:=hri2.le hleI3|refine O7 (d:=29) ?_ (hr:=hri3);intro bt ot hpt;rw[show ((j:Int).toNat *10)=j *10 from rfl,hci]at hpt|refine A0U 9 ?_|refine A0T (d:=36) ?_ hm;clear hm;intro b36 _ hm|refine J9 ?_ hm|refine D8 ?_|refine D6 ?_|refine J8 ?_|refine A1H ?_|refine A0w ?_|refine G6 ?_|refine D5 ?_|refine Y0 ?_|refine E5 ?_|refine A7 ?_|refine D7 ?_|refine E8 ?_|refine A8 ?_|refine F6 ?_|refine G7 ?_|refine F7 ?_|(refine C9 (ht:=fun _=>?_) (hf:=fun _=>?_)<;>try first|contradiction|omega))
 have hm:=(hm.nil 186 2).swap;have hC:=hcall2 I3 (hle2.trans hleI3) b3 b36 hpf3;refine⟨?_⟩
 by_cases he:r.2.err≠0
 ·rw[if_pos he]at hfin
  subst hfin;repeat' (first|refine F8 (d:=40) ?_ hm (hp:=pm2_0) (hc:=hC);clear hm;rintro _ I4 _ _ ⟨rfl,va4,vp4,rfl⟩ hleI4 hm;try simp only[G5]at hm|refine J6 ?_ hm|refine P6 ?_ hm;clear hm;intro _ hm;try simp only[G5]at hm|refine A0a ?_ hm|refine D8 ?_|refine D6 ?_|refine A0w ?_|refine F5 ?_|refine D5 ?_|refine Y0 ?_|refine E5 ?_|refine A7 ?_|refine H8 ?_|refine E8 ?_|refine A8 ?_|refine J3 ?_|(refine C9 (ht:=fun _=>?_) (hf:=fun _=>?_)<;>try first|contradiction|omega))
  exact⟨I4,[],⟨rfl,none,0,rfl,hmore _⟩,hm.left (H:= [])⟩
 ·rw[if_neg he]at hfin
  have he0:r.2.err=0:=by omega
  subst hfin;repeat' (first|refine F8 (d:=40) ?_ hm (hp:=pm2_0) (hc:=hC);clear hm;rintro _ I4 _ _ ⟨rfl,va4,vp4,rfl⟩ hleI4 hm;try simp only[G5]at hm|refine A0b (id:=12) 10 (h:=?_)|refine J6 ?_ hm|refine V3 ?_ hm|refine P6 ?_ hm;clear hm;intro _ hm;try simp only[G5]at hm|refine A0a ?_ hm|refine D8 ?_|refine D6 ?_|refine A0w ?_|refine F5 ?_|refine D5 ?_|refine E5 ?_|refine A7 ?_|refine E8 ?_|refine A8 ?_|refine G7 ?_|refine J3 ?_|refine V6 ?_;intro _ hkq;replace hm:=hm.kept0 hkq;clear hkq|(refine C9 (ht:=fun _=>?_) (hf:=fun _=>?_)<;>try first|contradiction|omega)|refine Y4 ?_|refine Q9 ?_|refine L8 ?_|refine C3H ?_)
  obtain⟨I5,hle5,hm5,hrow⟩:=Mem.freeze (hm.perm (pm1_1.trans (.refl _)));exact⟨I5,[],⟨rfl,va4,vp4,rfl,hrow⟩,hm5.left (H:= [])⟩
end
theorem D0t (d:Sp.Ev):A5X (B1v d) (B1v d)=true:=by simp[A5X,A9J]
theorem D8j (l:List Sp.Ev) (hl:l.length<=1000000000) (I:P8) (a b:Option Addr) (c d:Nat) (ha:RowI I 186 2 (.slice a l.length c) l.length (l.flatMap B1v)) (hb:RowI I 186 2 (.slice b l.length d) l.length (l.flatMap B1v)):
  CalM prog 60 #[.slice a l.length c,.slice b l.length d] I [] (fun v _ H'=>v=.bool true/\H'= []):=by
 refine CalM.of fun w E hm=>enter (N:=26) func60 rfl [(0,.slice a l.length c),(1,.slice b l.length d)] A1x rfl ?_
 repeat' (first|refine D8 ?_|refine D6 ?_|refine A0w ?_|refine G6 ?_|refine E5 ?_|refine A7 ?_|refine E8 ?_|refine A8 ?_|refine F6 ?_|refine G7 ?_|(refine C9 (ht:=fun _=>?_) (hf:=fun _=>?_)<;>try first|contradiction|omega))
 refine U3 (fun k:Nat=> [(0,.slice a l.length c),(1,.slice b l.length d),(12,nt l.length),(13,nt k)])
  (fun k w'=>Mem E I [] w'/\k<=l.length) (fun k=>l.length-k) 0 (by exact⟨rfl,rfl,rfl,rfl,trivial⟩) ⟨hm,H9 _⟩ ?_
 clear hm;rintro k w1 ⟨hm,hk⟩;try dsimp only at hm hk |-
 by_cases hlt:k<l.length
 ·have hg:l[k]?=some l[k]:=F9 hlt
  generalize l[k]=s at hg;repeat' (first|refine A0i (d:=18) (enc:=B1v) (z:=s) ?_ (hr:=ha) (he:=fun _=>rfl) (hz:=by exact hg);intro b1 o1 p1|refine A0i (d:=22) (enc:=B1v) (z:=s) ?_ (hr:=hb) (he:=fun _=>rfl) (hz:=by exact hg);intro b2 o2 p2|refine A10 ?_ hm|refine D8 ?_|refine D6 ?_|refine J8 ?_|refine O9 ?_|refine E5 ?_|refine A7 ?_|refine H8 ?_|refine D7 ?_|refine O5 ?_|refine E8 ?_|refine A8 ?_|refine F6 ?_|refine G7 ?_|refine J3 ?_|refine J7 ?_|refine U6 ?_|refine A0s ?_;intro _ hkq;replace hm:=hm.kept0 hkq;clear hkq|(refine C9 (ht:=fun _=>?_) (hf:=fun _=>?_)<;>try first|contradiction|omega)|refine A2e (ht:=fun _=>?_) (hf:=fun _=>?_)|refine Y4 ?_|refine A1S ?_)
  all_goals try (exfalso;rename_i hx;rw[D0t]at hx;exact absurd hx (by decide))
  exact L6 (k+1:Nat) (by exact⟨rfl,rfl,rfl,rfl,trivial⟩) ⟨hm,by omega⟩ (by omega)
 ·obtain rfl:k=l.length:=by omega
  repeat' (first|refine D6 ?_|refine J8 ?_|refine E5 ?_|refine A7 ?_|refine H6 ?_|refine G9 ?_|refine E8 ?_|refine A8 ?_|refine O8 ?_|refine J3 ?_|refine J7 ?_|(refine C9 (ht:=fun _=>?_) (hf:=fun _=>?_)<;>try first|contradiction|omega))
  exact⟨I,[],⟨rfl,rfl⟩,hm⟩
theorem D8k (r:Sp.Rn) (hl:r.ev.length<=1000000000) (I:P8) (a b:Option Addr) (c d:Nat) (ha:RowI I 186 2 (.slice a r.ev.length c) r.ev.length (r.ev.flatMap B1v)) (hb:RowI I 186 2 (.slice b r.ev.length d) r.ev.length (r.ev.flatMap B1v)):
  CalM prog 29 #[D18 a c r,D18 b d r] I [] (fun v _ H'=>v=.bool true/\H'= []):=by
 refine CalM.of fun w E hm=>enter (N:=31) func29 rfl [(0,D18 a c r),(1,D18 b d r)] A1x rfl ?_
 have hE:=D8j r.ev hl I a b c d ha hb;repeat' (first|refine F8 (d:=9) ?_ hm (hp:=pm0) (hc:=hE);clear hm;rintro _ I2 _ _ ⟨rfl,rfl⟩ hleI2 hm;try simp only[G5]at hm|refine A0T (d:=2) ?_ hm;clear hm;intro b2 _ hm|refine A0T (d:=3) ?_ hm;clear hm;intro b3 _ hm|refine J6 ?_ hm|refine D8 ?_|refine D6 ?_|refine O0 ?_|refine O6 ?_|refine D5 ?_|(refine O3 (h1:=fun _=>?_) (h0:=fun _=>?_)<;>try first|contradiction|omega)|refine E5 ?_|refine A7 ?_|refine E8 ?_|refine A8 ?_|refine J3 ?_|refine J7 ?_)
 all_goals exact⟨I2,[],⟨by simp,rfl⟩,hm.left (H:= [])⟩
theorem sp_wsame (s nm:List UInt8) (args:List Int) (aa:Option Addr) (ac:Nat) (I:P8) (hs:s.length<=9223372036854775807) (_:nm.length<=9223372036854775807) (_:args.length<=9223372036854775807) (hra:RowI I 3 1 (.slice aa args.length ac) args.length (C49 args)) (hC:Conv I) (hT:B1I I):
  CalM prog 6 #[str s,str nm,.slice aa args.length ac] I [] (fun v _ H'=>v=.bool true/\H'= []):=by
 refine CalM.of fun w E hm=>enter (N:=53) func6 rfl [(0,str s),(1,str nm),(2,.slice aa args.length ac)] A4x rfl ?_
 have hAl:=C4m I hC hT;have hG:=fun (J:P8) (m:Le I J)=>C79 s hs J (hC.le m)
 by_cases hb:B6c s=false
 ·rw[hb]at hG
  generalize G8 s=its at hG;repeat' (first|refine F8 (d:=11) ?_ hm (hp:=pm0) (hc:=hAl);clear hm;rintro _ I1 _ _ ⟨rfl,rfl⟩ hleI1 hm;try simp only[G5]at hm|refine F8 (d:=15) ?_ hm (hp:=pm0) (hc:=hG I1 hleI1);clear hm;rintro _ I2 _ _ ⟨rfl,a,cp,xs,rfl,hrow,hits⟩ hleI2 hm;try simp only[G5]at hm|refine Y2 (d:=7) ?_ hm;clear hm;intro b7 _ hm|refine D8 ?_|refine D6 ?_|refine A0h ?_|refine Y8 ?_|refine E5 ?_|refine A7 ?_|refine H8 ?_|refine E8 ?_|refine A8 ?_|refine G7 ?_|refine J3 ?_|refine J7 ?_|refine H5 ?_|refine F7 ?_)
  all_goals exact⟨I2,[],⟨rfl,rfl⟩,hm.left (H:= [])⟩
 have hb1:B6c s=true:=by simpa using hb
 rw[hb1]at hG;obtain⟨e0,hd⟩:=C0f hb1;have hfit:=A93 s hd;have hlen:=B2x s hd;have few:=A7a s;obtain⟨_,t2⟩:=B7l hfit few;have few2:=A7a (A0F (G8 s));have hF2:=fun (J:P8) (m:Le I J)=>A9R (A0F (G8 s)) J (hC.le m) (by omega)
 have hA1:=A8q e0;have hA2:= @A8q (A0F (G8 s));have hok1:=fun h=>D2l (s:=s) h
 have hok2:=fun h=>D2l (s:=A0F (G8 s)) h
 generalize Y1 (A0F (G8 s))=er at hF2 t2 hA2;generalize G8 (A0F (G8 s))=g at hF2 t2 few2 hA2 hok2;generalize G8 s=its at hG hfit hlen few hd t2 hF2 hA1 hok1 hA2;have hW:=fun (J:P8) (m:Le I J) (a cp xs) (h:FE J its a cp xs)=>C1y (hT.le m) h hfit hlen
 generalize A0F its=t at hF2 hW hlen hA2;repeat' (first|refine F8 (d:=11) ?_ hm (hp:=pm0) (hc:=hAl);clear hm;rintro _ I1 _ _ ⟨rfl,rfl⟩ hleI1 hm;try simp only[G5]at hm|refine F8 (d:=15) ?_ hm (hp:=pm0) (hc:=hG I1 hleI1);clear hm;rintro _ I2 _ _ ⟨rfl,a,cp,xs,rfl,hrow,hits⟩ hleI2 hm;try simp only[G5]at hm|refine A0U 6 ?_|refine Y2 (d:=7) ?_ hm;clear hm;intro b7 _ hm|refine D8 ?_|refine D6 ?_|refine A0h ?_|refine Y8 ?_|refine E5 ?_|refine A7 ?_|refine E8 ?_|refine A8 ?_|refine G7 ?_|refine F7 ?_)
 have q1:FE I2 its a cp xs:=A7Y hrow hits few;obtain⟨I3,hle3,hm3,hpf⟩:=hm.freezeO;clear hm;have hm:=hm3;clear hm3;have q3:=q1.le hle3;have l3:=(hleI1.trans hleI2).trans hle3;refine⟨?_⟩
 by_cases h0:er≠0
 ·skip
  repeat' (first|refine U0 (d:=21) ?_ hm (hp:=hpf)|refine F8 (d:=22) ?_ hm (hp:=pm0) (hc:=hW I3 l3 _ _ _ q3);clear hm;rintro _ I4 _ _ ⟨rfl,rfl⟩ hleI4 hm;try simp only[G5]at hm|refine F8 (d:=23) ?_ hm (hp:=pm0) (hc:=hF2 I4 (l3.trans hleI4));clear hm;rintro _ I5 _ _ ⟨a2,cp2,xs2,rfl,hrow2,hits2,rfl⟩ hleI5 hm;try simp only[G5]at hm|refine Y2 (d:=9) ?_ hm;clear hm;intro b9 _ hm|refine D8 ?_|refine D6 ?_|refine A0w ?_|refine Y8 ?_|refine E5 ?_|refine A7 ?_|refine H8 ?_|refine E8 ?_|refine A8 ?_|refine J3 ?_|refine J7 ?_|(refine C9 (ht:=fun _=>?_) (hf:=fun _=>?_)<;>try first|contradiction|omega))
  all_goals exact⟨I5,[],⟨rfl,rfl⟩,hm.left (H:= [])⟩
 obtain rfl:er=0:=by omega
 obtain⟨u1,u2⟩:=t2 rfl;have hAg:=hA2 rfl;obtain⟨v1,v2,v3⟩:=D2o u1 u2 hd nm args;repeat' (first|refine U0 (d:=21) ?_ hm (hp:=hpf)|refine F8 (d:=22) ?_ hm (hp:=pm0) (hc:=hW I3 l3 _ _ _ q3);clear hm;rintro _ I4 _ _ ⟨rfl,rfl⟩ hleI4 hm;try simp only[G5]at hm|refine F8 (d:=23) ?_ hm (hp:=pm0) (hc:=hF2 I4 (l3.trans hleI4));clear hm;rintro _ I5 _ _ ⟨a2,cp2,xs2,rfl,hrow2,hits2,rfl⟩ hleI5 hm;try simp only[G5]at hm|refine A0U 9 ?_|refine Y2 (d:=9) ?_ hm;clear hm;intro b9 _ hm|refine D8 ?_|refine D6 ?_|refine A0w ?_|refine Y8 ?_|refine E5 ?_|refine A7 ?_|refine E8 ?_|refine A8 ?_|refine G7 ?_|refine F7 ?_)
 have q5:FE I5 g a2 cp2 xs2:=A7Y hrow2 hits2 few2;obtain⟨I6,hle6,hm6,hpg⟩:=hm.freezeO;clear hm;have hm:=hm6;clear hm6;have hpf6:=((hpf.le hleI4).le hleI5).le hle6;have q6:=((q3.le hleI4).le hleI5).le hle6;have qg:=q5.le hle6;have l6:=((l3.trans hleI4).trans hleI5).trans hle6;have hD1:=fun (J:P8) (m:Le I6 J)=>B5Z J (q6.le m) hA1
 have hD2:=fun (J:P8) (m:Le I6 J)=>B5Z J (qg.le m) hAg
 have hS1:=fun (J:P8) (m:Le I6 J)=>B2w J (q6.le m) hA1.lab hA1.fl
 have hS2:=fun (J:P8) (m:Le I6 J)=>B2w J (qg.le m) hAg.lab hAg.fl
 have hR1:=fun (J:P8) (m:Le I6 J)=>D5R nm args J (q6.le m) hA1 hok1 aa ac (hra.le (l6.trans m))
 have hR2:=fun (J:P8) (m:Le I6 J)=>D5R nm args J (qg.le m) hAg hok2 aa ac (hra.le (l6.trans m))
 rw[v3]at hR2;have hevl:=D4I its nm args;generalize B3M its nm args=r at hR1 hR2 hevl;unfold D5D at hR1 hR2
 rw[v1]at hD2;generalize A3H its=ds at hD1 hD2;refine⟨?_⟩
 repeat' (first|refine A6T (id:=9) (hm.perm pm0) [([0,3],[1]),([2],[4]),([5,6,7,8,10],[9,11]),([12,13,14,15,16,17,19,20,21],[18,22,23]),([24],[])] 25 (h:=?_);clear hm;intro wd hR hm|refine D8m (d:=34) ?_;rw[decide_eq_true (show (ds.length:Int)=(ds.length:Int) from rfl)]|refine A1y (d:=28) ?_ hR (hp:=hpf6)|refine A1y (d:=31) ?_ hR (hp:=hpg)|refine V8 (d:=29) ?_ hm (hp:=pm0) (hc:=hD1 I6 (Le.refl _));clear hm;rintro _ I7 _ _ ⟨rfl,da,dp,rfl,_⟩ hleI7 hm;try simp only[G5]at hm|refine V8 (d:=32) ?_ hm (hp:=pm0) (hc:=hD2 I7 hleI7);clear hm;rintro _ I8 _ _ ⟨rfl,db,dq,rfl,_⟩ hleI8 hm;try simp only[G5]at hm;have hle8:=hleI7.trans hleI8|refine V8 (d:=37) ?_ hm (hp:=pm0) (hc:=hS1 I8 hle8);clear hm;rintro _ I9 _ _ ⟨rfl,sb1,rfl,hsb1⟩ hleI9 hm;try simp only[G5]at hm|refine V8 (d:=39) ?_ hm (hp:=pm0) (hc:=hS2 I9 (hle8.trans hleI9));clear hm;rintro _ I10 _ _ ⟨rfl,sb2,rfl,hsb2⟩ hleI10 hm;try simp only[G5]at hm;obtain rfl:sb1=sb2:=A06.2 (hsb1.trans (v2.symm.trans hsb2.symm));have hle10:=(hle8.trans hleI9).trans hleI10;cases sb1|refine V8 (d:=46) ?_ hm (hp:=pm0) (hc:=hR1 I10 hle10);clear hm;rintro _ I11 _ _ ⟨rfl,ea,ep,rfl,hre⟩ hleI11 hm;try simp only[G5]at hm|refine V8 (d:=50) ?_ hm (hp:=pm0) (hc:=hR2 I11 (hle10.trans hleI11));clear hm;rintro _ I12 _ _ ⟨rfl,eb,eq,rfl,hre2⟩ hleI12 hm;try simp only[G5]at hm|refine V8 (d:=51) ?_ hm (hp:=pm0) (hc:=D8k r hevl I12 _ _ _ _ (hre.le hleI12) hre2);clear hm;rintro _ I13 _ _ ⟨rfl,rfl⟩ hleI13 hm;try simp only[G5]at hm|refine A1y ?_ hR|refine B1s ?_|refine B1r ?_|refine A0K ?_|refine C4y ?_|refine B3U ?_;replace hm:=hR.back hm;clear hR;try simp only[G5]at hm|refine D6 ?_|refine E5 ?_|refine A7 ?_|refine J3 ?_|refine J7 ?_|refine A0x ?_|refine A9D ?_|refine C6w ?_|refine A62 ?_)
 all_goals exact⟨_,[],⟨by first|rfl|simp,rfl⟩,hm.left (H:= [])⟩
end Go.Proofs
