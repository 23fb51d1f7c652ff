/- Own work: texts SpecParse, SpecParse2, SpecParse3, SpecFile, SpecTree, TreeM, LexE, TokM, FwInt2, FwM4, FwMap, FwM5, FwD, FwS2, one behind the other. -/
import Derived.Test.YtfjdfdgpkncpfaaGreatDoorQc5
import Derived.Laws.BytesString
import Derived.Lib.ConvBytes
import Derived.Laws.AppendOwn
import Derived.MapKept
import Derived.Defers
set_option maxHeartbeats 64000000
namespace Go.Sp
inductive Ex where
 |mk (kind:Nat) (name:List UInt8) (n:Nat) (args:List Ex) (fr to:Nat)
inductive Stm where
 |mk (kind:Nat) (name:List UInt8) (at_ label:Nat) (opn:Bool) (e:Ex) (thn els:List Stm) (fr to:Nat)
structure Par where
 name:List UInt8
 label:Nat
 at_:Nat
structure Rf where
 name:List UInt8
 at_:Nat
structure Dg where
 fr:Nat
 to:Nat
 err:Nat
 name:List UInt8
structure Itm where
 kind:Nat
 name:List UInt8
 label:Nat
 params:List Par
 sends:List Rf
 body:List Stm
 at_:Int
 size:Nat
 mark:Nat
 diags:List Dg
instance :Inhabited Ex:=⟨.mk 0 [] 0 [] 0 0⟩
instance :Inhabited Stm:=⟨.mk 0 [] 0 0 false default [] [] 0 0⟩
def Ex.fr:Ex->Nat
 | .mk _ _ _ _ f _=>f
def Ex.to:Ex->Nat
 | .mk _ _ _ _ _ t=>t
structure Src where
 l:List Tok
 size:Nat
structure St where
 i:Nat
 ds:List Dg
def Src.tok (T:Src) (i:Nat):Tok:=T.l.getD i ⟨0,[],T.size⟩
def Src.is (T:Src) (i:Nat) (w:List UInt8):Bool:=decide (i<T.l.length) && decide ((T.tok i).text=w)
def Src.endOf (T:Src) (i:Nat):Nat:=if i=0 then 0 else (T.tok (i-1)).pos+(T.tok (i-1)).text.length
def St.bad (T:Src) (s:St) (e:Nat):St:= { s with ds:=s.ds++ [⟨(T.tok s.i).pos,(T.tok s.i).pos+(T.tok s.i).text.length,e,(T.tok s.i).text⟩]}
def St.next (s:St):St:= { s with i:=s.i+1}
def St.need (T:Src) (s:St) (w:List UInt8):Bool×St:=if T.is s.i w then (true,s.next) else (false,s.bad T 2)
def St.named (T:Src) (s:St):List UInt8×St:=
 if name (T.tok s.i).text then ((T.tok s.i).text,s.next) else
 if (T.tok s.i).kind=1 then ([],(s.bad T 7).next) else ([],s.bad T 2)
def B5m (t:List UInt8):Bool:=decide (t.length=1) && (decide (97<=(t.getD 0 0).toNat) && decide ((t.getD 0 0).toNat<=104))
def A9q (T:Src):Nat->Nat->St->Nat×St
 |0,n,s=>(n,s)
 |f+1,n,s=>
  if T.is s.i [125] then (n,s.next) else
  let t:=(T.tok s.i).text
  if !B5m t then (n,s.bad T 2) else
  let q:=(t.getD 0 0).toNat-97
  let s1:=if bit n q then s.bad T 7 else s
  let n1:=if bit n q then n else n+2 ^ q
  let s2:=s1.next
  if T.is s2.i [125] then A9q T f n1 s2 else
  if T.is s2.i [44] then A9q T f n1 s2.next else (n1,s2.bad T 2)
def lab (T:Src) (s:St):Nat×St:=
 if T.is s.i [123] then A9q T (T.l.length+1) 0 s.next else (0,s.bad T 2)
def A2X (t:List UInt8):Nat:=
 if t= [61]\/t= [60] then 1 else if t= [43]\/t= [45] then 2 else if t= [42] then 3 else 0
def A6V (T:Src) (s:St) (e:Nat):Ex×St:=(.mk 5 [] 0 [] (T.tok s.i).pos (T.tok s.i).pos,s.bad T e)
def A3y (t:List UInt8):Nat:=t.foldl (fun n c=>if n<=1000000000 then 10 *n+(c.toNat-48) else n) 0
mutual
def A4z (T:Src):Nat->Nat->St->Ex×St
 |0,_,s=>(default,s)
 |f+1,d,s=>
  let t:=T.tok s.i
  if T.l.length<=s.i then A6V T s 2 else
  if 12<=d then A6V T s 12 else
  if t.kind=2 then
   if 1000000000<A3y t.text then (.mk 1 [] 0 [] t.pos (t.pos+t.text.length),(s.bad T 3).next)
   else (.mk 1 [] (A3y t.text) [] t.pos (t.pos+t.text.length),s.next) else
  if t.text= [40] then
   let r:=A0Q T f (d+1) 1 s.next
   (r.1,(r.2.need T [41]).2) else
  if !name t.text then A6V T s 2 else
  if !T.is (s.i+1) [40] then (.mk 2 t.text 0 [] t.pos (t.pos+t.text.length),s.next) else
  let r:=A31 T f (d+1) [] s.next.next
  let s2:=(r.2.need T [41]).2
  (.mk 4 t.text 0 r.1 t.pos (T.endOf s2.i),s2)
def A31 (T:Src):Nat->Nat->List Ex->St->List Ex×St
 |0,_,l,s=>(l,s)
 |f+1,d,l,s=>
  if T.l.length<=s.i\/T.is s.i [41] then (l,s) else
  if l.length=5 then (l,s.bad T 5) else
  let r:=A0Q T f d 1 s
  if T.is r.2.i [44] then A31 T f d (l++ [r.1]) r.2.next else (l++ [r.1],r.2)
def A0Q (T:Src):Nat->Nat->Nat->St->Ex×St
 |0,_,_,s=>(default,s)
 |f+1,d,least,s=>
  let r:=A4z T f d s
  opL T f d least r.1 r.2
def opL (T:Src):Nat->Nat->Nat->Ex->St->Ex×St
 |0,_,_,e,s=>(e,s)
 |f+1,d,least,e,s=>
  let op:=(T.tok s.i).text
  if A2X op<least\/A2X op=0 then (e,s) else
  let r:=A0Q T f d (A2X op+1) s.next
  opL T f d least (.mk 3 op 0 [e,r.1] e.fr (max r.1.to e.to)) r.2
 end
mutual
def block (T:Src):Nat->Nat->St->List Stm×St
 |0,_,s=>([],s)
 |f+1,d,s=>
  if !T.is s.i [123] then ([],s.bad T 2) else
  if 12<=d then ([],s.next.bad T 12) else
  let r:=A4j T f (d+1) [] s.next
  (r.1,(r.2.need T [125]).2)
def A4j (T:Src):Nat->Nat->List Stm->St->List Stm×St
 |0,_,l,s=>(l,s)
 |f+1,d,l,s=>
  if T.l.length<=s.i\/T.is s.i [125] then (l,s) else
  if 40<=l.length then (l,s.bad T 5) else
  let r:=stm T f d s
  A4j T f d (l++ [r.1]) (if r.2.i=s.i then r.2.next else r.2)
def stm (T:Src):Nat->Nat->St->Stm×St
 |0,_,s=>(default,s)
 |f+1,d,s=>
  let t:=T.tok s.i
  let fr:=t.pos
  let fin (s:St):Nat:=max (T.endOf s.i) fr
  if t.text= [108,101,116] then
   let a:=(T.tok (s.i+1)).pos
   let r:=s.next.named T
   let opn:= !T.is r.2.i [58]
   let r1:=if opn then (0,r.2) else lab T r.2.next
   let s2:=(r1.2.need T [61]).2
   let r2:=A0Q T f d 1 s2
   let s3:=(r2.2.need T [59]).2
   (.mk 1 r.1 a r1.1 opn r2.1 [] [] fr (fin s3),s3) else
  if t.text= [105,102] then
   let r:=A0Q T f d 1 s.next
   let r1:=block T f d r.2
   if T.is r1.2.i [101,108,115,101] then
    let r2:=block T f d r1.2.next
    (.mk 3 [] 0 0 false r.1 r1.1 r2.1 fr (fin r2.2),r2.2)
   else (.mk 3 [] 0 0 false r.1 r1.1 [] fr (fin r1.2),r1.2) else
  if t.text= [119,104,105,108,101] then
   let r:=A0Q T f d 1 s.next
   let r1:=block T f d r.2
   (.mk 4 [] 0 0 false r.1 r1.1 [] fr (fin r1.2),r1.2) else
  if t.text= [115,101,110,100] then
   let a:=(T.tok (s.i+1)).pos
   let r:=s.next.named T
   let r2:=A0Q T f d 1 r.2
   let s3:=(r2.2.need T [59]).2
   (.mk 5 r.1 a 0 false r2.1 [] [] fr (fin s3),s3) else
  if t.text= [114,101,116,117,114,110] then
   let r2:=A0Q T f d 1 s.next
   let s3:=(r2.2.need T [59]).2
   (.mk 6 [] 0 0 false r2.1 [] [] fr (fin s3),s3) else
  if name t.text then
   if T.is (s.i+1) [61] then
    let r2:=A0Q T f d 1 s.next.next
    let s3:=(r2.2.need T [59]).2
    (.mk 2 t.text fr 0 false r2.1 [] [] fr (fin s3),s3)
   else
    let r2:=A0Q T f d 1 s
    let s3:=(r2.2.need T [59]).2
    (.mk 7 [] 0 0 false r2.1 [] [] fr (fin s3),s3) else
  (.mk 8 [] 0 0 false default [] [] fr (fin (s.bad T 2)),s.bad T 2)
 end
def A5v (T:Src):Nat->List Par->St->List Par×St
 |0,l,s=>(l,s)
 |f+1,l,s=>
  if T.l.length<=s.i\/T.is s.i [41] then (l,s) else
  if 5<=l.length then (l,s.bad T 5) else
  let a:=(T.tok s.i).pos
  let r:=s.named T
  let r1:=r.2.need T [58]
  if !r1.1 then (l,r1.2) else
  let r2:=lab T r1.2
  if T.is r2.2.i [44] then A5v T f (l++ [⟨r.1,r2.1,a⟩]) r2.2.next else (l++ [⟨r.1,r2.1,a⟩],r2.2)
def A40 (T:Src):Nat->List Rf->St->List Rf×St
 |0,l,s=>(l,s)
 |f+1,l,s=>
  if 5<=l.length then (l,s.bad T 5) else
  let a:=(T.tok s.i).pos
  let r:=s.named T
  if T.is r.2.i [44] then A40 T f (l++ [⟨r.1,a⟩]) r.2.next else (l++ [⟨r.1,a⟩],r.2)
def A68 (T:Src):Nat:=8 *T.l.length+64
def A5m (T:Src) (at_:Int) (size:Nat) (s:St):Itm×St:=
 let r:=s.named T
 let s1:=(r.2.need T [40]).2
 let r2:=A5v T 6 [] s1
 let s3:=(r2.2.need T [41]).2
 let s4:=(s3.need T [58]).2
 let r5:=lab T s4
 let r6:=if T.is r5.2.i [115,101,110,100,115] then A40 T 6 [] r5.2.next else ([],r5.2)
 let r7:=block T (A68 T) 0 r6.2
 (⟨2,r.1,r5.1,r2.1,r6.1,r7.1,at_,size,(T.tok s.i).pos,[]⟩,r7.2)
def A9E (T:Src) (at_:Int) (size:Nat) (s:St):Itm×St:=
 let r:=s.named T
 let s1:=(r.2.need T [58]).2
 let r2:=lab T s1
 let s3:=(r2.2.need T [59]).2
 (⟨1,r.1,r2.1,[],[],[],at_,size,(T.tok s.i).pos,[]⟩,s3)
def item (src:List UInt8) (at_:Int):Itm:=
 let T:Src:=⟨O6 src,src.length⟩
 let q:=if T.is 0 [102,110] then A5m T at_ src.length ⟨1,[]⟩ else if T.is 0 [99,104,97,110] then A9E T at_ src.length ⟨1,[]⟩ else
  (⟨3,[],0,[],[],[],at_,src.length,0,[]⟩, { ((⟨0,[]⟩:St).bad T 2) with i:=T.l.length})
 let s:=if q.2.i<T.l.length then q.2.bad T 2 else q.2
 { q.1 with diags:=s.ds}
structure Goes (T:Src) (k:Nat) (s r:St):Prop where
 le:s.i<=r.i
 top:s.i<=T.l.length->r.i<=T.l.length
 ds:r.ds.length+2 *s.i<=s.ds.length+2 *r.i+k
theorem Goes.refl (T:Src) (k:Nat) (s:St):Goes T k s s:=⟨H6 _,id,by omega⟩
theorem Goes.mono {T:Src}{k k':Nat}{s r:St} (h:Goes T k s r) (hk:k<=k'):Goes T k' s r:=⟨h.le,h.top,by have:=h.ds;omega⟩
theorem Goes.trans {T:Src}{k k':Nat}{s r t:St} (h:Goes T k s r) (g:Goes T k' r t):Goes T (k+k') s t:=
 ⟨A1v h.le g.le,fun x=>g.top (h.top x),by have:=h.ds;have:=g.ds;omega⟩
theorem A3g (T:Src) (s:St) (e:Nat):Goes T 1 s (s.bad T e):=⟨H6 _,id,by simp[St.bad];omega⟩
theorem is_lt {T:Src}{i:Nat}{w:List UInt8} (h:T.is i w=true):i<T.l.length:=by
 simp only[Src.is,Q7,decide_eq_true_eq]at h;exact h.1
theorem A4v {T:Src}{i:Nat} (h:T.l.length<=i):T.tok i=⟨0,[],T.size⟩:=by
 rw[Src.tok,U2,A1F h];rfl
theorem A8B {t:List UInt8} (h:name t=true):t≠ []:=by rintro rfl;revert h;decide
theorem A2J {T:Src}{i:Nat} (h:(T.tok i).text≠ []):i<T.l.length:=by
 rcases X3 i T.l.length with h1|h1
 ·exact h1
 ·rw[A4v h1]at h;exact absurd rfl h
theorem A8n {T:Src}{i:Nat} (h:(T.tok i).kind≠0):i<T.l.length:=by
 rcases X3 i T.l.length with h1|h1
 ·exact h1
 ·rw[A4v h1]at h;exact absurd rfl h
theorem Z5 (T:Src) (s:St) (w:List UInt8):Goes T 1 s (s.need T w).2:=by
 rw[St.need];split
 ·rename_i h
  have:=is_lt h;exact⟨by simp[St.next],fun _=>by simp[St.next];omega,by simp[St.next];omega⟩
 ·exact A3g T s 2
theorem A0R (T:Src) (s:St):Goes T 1 s (s.named T).2:=by
 rw[St.named];split
 ·rename_i h
  have:=A2J (A8B h);exact⟨by simp[St.next],fun _=>by simp[St.next];omega,by simp[St.next];omega⟩
 ·split
  ·rename_i h
   have:=A8n (T:=T) (i:=s.i) (by omega);exact⟨by simp[St.next,St.bad],fun _=>by simp[St.next,St.bad];omega,by simp[St.next,St.bad];omega⟩
  ·exact A3g T s 2
theorem A7V (T:Src):∀(f n:Nat) (s:St),Goes T 1 s (A9q T f n s).2
 |0,n,s=>Goes.refl _ _ _
 |f+1,n,s=>by
  rw[A9q];split
  ·rename_i h
   have:=is_lt h;exact⟨by simp[St.next],fun _=>by simp[St.next];omega,by simp[St.next];omega⟩
  ·dsimp only
   split
   ·exact A3g T s 2
   ·rename_i h1 h2
    have hlt:s.i<T.l.length:=A2J (by intro e;rw[e]at h2;revert h2;decide);have g1:∀s1:St,(s1=s\/s1=s.bad T 7)->s1.next.i=s.i+1/\s1.next.ds.length<=s.ds.length+1:=by
     rintro s1 (rfl|rfl)<;>simp[St.next,St.bad]
    have g2:=g1 (if bit n ((T.tok s.i).text.getD 0 0|>.toNat|>(· -97))=true then s.bad T 7 else s) (by split<;>simp);generalize (if bit n ((T.tok s.i).text.getD 0 0|>.toNat|>(· -97))=true then s.bad T 7 else s).next=s2 at g2;generalize (if bit n ((T.tok s.i).text.getD 0 0|>.toNat|>(· -97))=true then n else n+2 ^ ((T.tok s.i).text.getD 0 0|>.toNat|>(· -97)))=n1;split
    ·have ih:=A7V T f n1 s2
     exact⟨by have:=ih.le;omega,fun _=>ih.top (by omega),by have:=ih.ds;omega⟩
    ·split
     ·rename_i h5
      have h6:=is_lt h5;have ih:=A7V T f n1 s2.next;have e1:s2.next.i=s2.i+1:=rfl;have e2:s2.next.ds=s2.ds:=rfl;exact⟨by have:=ih.le;omega,fun _=>ih.top (by omega),by have:=ih.ds;rw[e2]at this;omega⟩
     ·have ih:=A3g T s2 2
      exact⟨by have:=ih.le;dsimp only;omega,fun _=>ih.top (by omega),by have:=ih.ds;dsimp only;omega⟩
theorem A2D (T:Src) (s:St):Goes T 1 s (lab T s).2:=by
 rw[lab];split
 ·rename_i h
  have:=is_lt h;have ih:=A7V T (T.l.length+1) 0 s.next;have e1:s.next.i=s.i+1:=rfl;have e2:s.next.ds=s.ds:=rfl;exact⟨by have:=ih.le;omega,fun _=>ih.top (by omega),by have:=ih.ds;rw[e2]at this;omega⟩
 ·exact A3g T s 2
theorem N8 (s:St):s.next.i=s.i+1:=rfl
theorem A0o (s:St):s.next.ds=s.ds:=rfl
theorem B2t {t:List UInt8} (h:A2X t≠0):t≠ []:=by rintro rfl;exact h (by decide)
theorem A0B (T:Src):∀f,(∀d s,Goes T 1 s (A4z T f d s).2)/\(∀d l s,Goes T 1 s (A31 T f d l s).2)/\(∀d m s,Goes T 1 s (A0Q T f d m s).2)/\(∀d m e s,Goes T 0 s (opL T f d m e s).2)
 |0=>⟨fun _ _=>by rw[A4z];exact Goes.refl _ _ _,fun _ _ _=>by rw[A31];exact Goes.refl _ _ _,fun _ _ _=>by rw[A0Q];exact Goes.refl _ _ _,fun _ _ _ _=>by rw[opL];exact Goes.refl _ _ _⟩
 |f+1=>by
  obtain⟨hA,hL,hE,hO⟩:=A0B T f;refine⟨fun d s=>?_,fun d l s=>?_,fun d m s=>?_,fun d m e s=>?_⟩
  ·rw[A4z]
   dsimp only
   split
   ·exact A3g T s 2
   ·rename_i hlt
    split
    ·exact A3g T s 12
    ·split
     ·split
      ·exact⟨by simp[St.next,St.bad],fun _=>by simp[St.next,St.bad];omega,by simp[St.next,St.bad];omega⟩
      ·exact⟨by simp[St.next],fun _=>by simp[St.next];omega,by simp[St.next];omega⟩
     ·split
      ·have g:=(hE (d+1) 1 s.next).trans (Z5 T (A0Q T f (d+1) 1 s.next).2 [41])
       have h1:=g.le;have h2:=g.top;have h3:=g.ds;rw[N8]at h1 h2 h3;rw[A0o]at h3;exact⟨by dsimp only;omega,fun _=>h2 (by omega),by dsimp only;omega⟩
      ·split
       ·exact A3g T s 2
       ·split
        ·exact⟨by simp[St.next],fun _=>by simp[St.next];omega,by simp[St.next];omega⟩
        ·rename_i h5
         have h6:=is_lt (by simpa using h5:T.is (s.i+1) [40]=true);have g:=(hL (d+1) [] s.next.next).trans (Z5 T (A31 T f (d+1) [] s.next.next).2 [41]);have h1:=g.le;have h2:=g.top;have h3:=g.ds;rw[N8,N8]at h1 h2 h3;rw[A0o,A0o]at h3;exact⟨by dsimp only;omega,fun _=>h2 (by omega),by dsimp only;omega⟩
  ·rw[A31]
   split
   ·exact Goes.refl _ _ _
   ·split
    ·exact A3g T s 5
    ·try dsimp only
     split
     ·rename_i h5
      have h6:=is_lt h5;have g:=hE d 1 s;have g2:=hL d (l++ [(A0Q T f d 1 s).1]) (A0Q T f d 1 s).2.next;have h1:=g2.le;have h2:=g2.top;have h3:=g2.ds;have:=g.le;have:=g.ds;rw[N8]at h1 h2 h3;rw[A0o]at h3;exact⟨by omega,fun _=>h2 (by omega),by omega⟩
     ·exact hE d 1 s
  ·rw[A0Q]
   try dsimp only
   exact(hA d s).trans (hO d m (A4z T f d s).1 (A4z T f d s).2)
  ·rw[opL]
   try dsimp only
   split
   ·exact Goes.refl _ _ _
   ·rename_i h5
    have h6:s.i<T.l.length:=A2J (B2t (by omega));have g:=hE d (A2X (T.tok s.i).text+1) s.next;have g2:=hO d m (.mk 3 (T.tok s.i).text 0 [e,(A0Q T f d (A2X (T.tok s.i).text+1) s.next).1] e.fr (max (A0Q T f d (A2X (T.tok s.i).text+1) s.next).1.to e.to)) (A0Q T f d (A2X (T.tok s.i).text+1) s.next).2;have g3:=g.trans g2;have h1:=g3.le;have h2:=g3.top;have h3:=g3.ds;rw[N8]at h1 h2 h3;rw[A0o]at h3;exact⟨by omega,fun _=>h2 (by omega),by omega⟩
structure Goes8 (T:Src) (k:Nat) (s r:St):Prop where
 le:s.i<=r.i
 top:s.i<=T.l.length->r.i<=T.l.length
 ds:r.ds.length+8 *s.i<=s.ds.length+8 *r.i+k
theorem Goes.g8 {T:Src}{k:Nat}{s r:St} (h:Goes T k s r):Goes8 T k s r:=⟨h.le,h.top,by have:=h.ds;have:=h.le;omega⟩
theorem Goes8.trans {T:Src}{k k':Nat}{s r t:St} (h:Goes8 T k s r) (g:Goes8 T k' r t):Goes8 T (k+k') s t:=
 ⟨A1v h.le g.le,fun x=>g.top (h.top x),by have:=h.ds;have:=g.ds;omega⟩
theorem Goes8.mono {T:Src}{k k':Nat}{s r:St} (h:Goes8 T k s r) (hk:k<=k'):Goes8 T k' s r:=⟨h.le,h.top,by have:=h.ds;omega⟩
theorem Goes8.refl (T:Src) (k:Nat) (s:St):Goes8 T k s s:=⟨H6 _,id,by omega⟩
theorem A7y {T:Src}{k:Nat}{s r:St} (hi:s.i<T.l.length) (h:Goes8 T (k+8) s.next r):Goes8 T k s r:=by
 obtain⟨h1,h2,h3⟩:=h;rw[N8]at h1 h2 h3;rw[A0o]at h3;exact⟨by omega,fun _=>h2 (by omega),by omega⟩
theorem A7T (T:Src) (f d m:Nat) (s:St):Goes8 T 1 s (A0Q T f d m s).2:=((A0B T f).2.2.1 d m s).g8
theorem A7U (T:Src) (s:St) (w:List UInt8):Goes8 T 1 s (s.need T w).2:=(Z5 T s w).g8
theorem B35 (T:Src) (s:St):Goes8 T 1 s (s.named T).2:=(A0R T s).g8
theorem B81 (T:Src) (s:St):Goes8 T 1 s (lab T s).2:=(A2D T s).g8
theorem B5W (T:Src) (s:St) (e:Nat):Goes8 T 1 s (s.bad T e):=(A3g T s e).g8
structure StG (T:Src) (s r:St):Prop where
 le:s.i<=r.i
 top:s.i<=T.l.length->r.i<=T.l.length
 ds0:r.i=s.i->r.ds.length<=s.ds.length+2
 ds1:s.i<r.i->r.ds.length+8 *s.i<=s.ds.length+8 *r.i
theorem A4U {T:Src}{k:Nat}{s r:St} (hi:s.i<T.l.length) (h:Goes8 T k s.next r) (hk:k<=8):StG T s r:=by
 obtain⟨h1,h2,h3⟩:=h;rw[N8]at h1 h2 h3;rw[A0o]at h3;exact⟨by omega,fun _=>h2 (by omega),fun _=>by omega,fun _=>by omega⟩
theorem A1n (T:Src):∀f,(∀d s,Goes8 T 1 s (block T f d s).2)/\(∀d l s,Goes8 T 1 s (A4j T f d l s).2)/\(∀d s,StG T s (stm T f d s).2)
 |0=>⟨fun _ _=>by rw[block];exact Goes8.refl _ _ _,fun _ _ _=>by rw[A4j];exact Goes8.refl _ _ _,fun _ s=>by rw[stm];exact⟨H6 _,id,fun _=>by simp,fun _=>by simp⟩⟩
 |f+1=>by
  obtain⟨hB,hL,hS⟩:=A1n T f;refine⟨fun d s=>?_,fun d l s=>?_,fun d s=>?_⟩
  ·rw[block]
   split
   ·exact(B5W T s 2).mono (by omega)
   ·rename_i h
    have hi:=is_lt (by simpa using h:T.is s.i [123]=true);split
    ·exact A7y hi ((B5W T s.next 12).mono (by omega))
    ·dsimp only
     exact A7y hi (((hL (d+1) [] s.next).trans (A7U T _ [125])).mono (by omega))
  ·rw[A4j]
   split
   ·exact Goes8.refl _ _ _
   ·rename_i h
    have hi:s.i<T.l.length:=by omega
    split
    ·exact B5W T s 5
    ·dsimp only
     have g:=hS d s;have h1:=g.le;have h2:=g.top;have h3:=g.ds0;have h4:=g.ds1;split
     ·rename_i he
      have g2:=hL d (l++ [(stm T f d s).1]) (stm T f d s).2.next;have k1:=g2.le;have k2:=g2.top;have k3:=g2.ds;rw[N8]at k1 k2 k3;rw[A0o]at k3;have h5:=h3 he;exact⟨by omega,fun _=>k2 (by omega),by omega⟩
     ·rename_i he
      have g2:=hL d (l++ [(stm T f d s).1]) (stm T f d s).2;have k1:=g2.le;have k2:=g2.top;have k3:=g2.ds;have h5:=h4 (by omega);exact⟨by omega,fun _=>k2 (by omega),by omega⟩
  ·rw[stm]
   dsimp only
   have hlt:∀t:List UInt8,t≠ []->(T.tok s.i).text=t->s.i<T.l.length:=fun t ht e=>A2J (by rw[e];exact ht)
   split
   ·rename_i h
    refine A4U (hlt _ (by simp) h) (k:=5) ?_ (by omega)
    have g1:=B35 T s.next;have g2:Goes8 T 1 (s.next.named T).2 (if (!T.is (s.next.named T).2.i [58])=true then ((0:Nat),(s.next.named T).2) else lab T (s.next.named T).2.next).2:=by
     split
     ·exact Goes8.refl _ _ _
     ·rename_i h5
      exact A7y (is_lt (by simpa using h5:T.is (s.next.named T).2.i [58]=true)) ((B81 T _).mono (by omega))
    exact(((g1.trans g2).trans (A7U T _ _)).trans (A7T T f d 1 _)).trans (A7U T _ _)
   ·split
    ·rename_i h
     have g1:=(A7T T f d 1 s.next).trans (hB d (A0Q T f d 1 s.next).2);split
     ·rename_i h5
      refine A4U (hlt _ (by simp) h) (k:=3) ?_ (by omega)
      exact g1.trans (A7y (k:=1) (is_lt h5) ((hB d _).mono (by omega)))
     ·exact A4U (hlt _ (by simp) h) g1 (by omega)
    ·split
     ·rename_i h
      exact A4U (hlt _ (by simp) h) ((A7T T f d 1 s.next).trans (hB d (A0Q T f d 1 s.next).2)) (by omega)
     ·split
      ·rename_i h
       exact A4U (hlt _ (by simp) h) (((B35 T s.next).trans (A7T T f d 1 _)).trans (A7U T _ _)) (by omega)
      ·split
       ·rename_i h
        exact A4U (hlt _ (by simp) h) ((A7T T f d 1 s.next).trans (A7U T _ _)) (by omega)
       ·split
        ·rename_i h
         have hi:=A2J (A8B h);split
         ·rename_i h5
          have h6:=is_lt h5;exact A4U hi (A7y (k:=0) h6 (((A7T T f d 1 s.next.next).trans (A7U T _ [59])).mono (by omega))) (by omega)
         ·have g:=((A0B T f).2.2.1 d 1 s).trans (Z5 T (A0Q T f d 1 s).2 [59])
          have h1:=g.le;have h2:=g.top;have h3:=g.ds;refine⟨h1,h2,fun h=>?_,fun h=>?_⟩<;>dsimp only at h |- <;>omega
        ·exact⟨H6 _,id,fun _=>by simp[St.bad],fun h=>by simp[St.bad]at h⟩
def A1s (s:List UInt8) (cs:List Nat) (i:Nat):List UInt8:=(s.drop (cs.getD i 0)).take (cs.getD (i+1) s.length-cs.getD i 0)
def A2Q (s:List UInt8) (cs:List Nat) (i:Nat):Itm:=item (A1s s cs i) (cs.getD i 0)
def A4G (s:List UInt8) (cs:List Nat):List Itm:=(List.range cs.length).map (A2Q s cs)
def A1d (s:List UInt8):Nat:=if s.length>4000 then 4 else if (U9 s).length>30 then 5 else 0
def P8 (s:List UInt8):List Itm:=if A1d s=0 then A4G s (U9 s) else []
theorem A7t (s:List UInt8):∀(l:List Tok) (acc:List Nat),∃r,l.foldl (A01 s) acc=acc++r/\r.Sublist (l.map (·.pos))
 | [],acc=>⟨[],by simp,by simp⟩
 |t::l,acc=>by
  rw[A1q,A01];split
  ·obtain⟨r,h1,h2⟩:=A7t s l (acc++ [t.pos])
   exact⟨t.pos::r,by rw[h1];simp,by rw[Y2];exact h2.cons_cons _⟩
  ·obtain⟨r,h1,h2⟩:=A7t s l acc
   exact⟨r,h1,by rw[Y2];exact h2.cons _⟩
theorem A8e (s:List UInt8):(U9 s).Pairwise (· < ·)/\∀x∈U9 s,x<s.length:=by
 obtain⟨r,h1,h2⟩:=A7t s (O6 s) [];have e:U9 s=r:=by rw[U9,h1];simp
 rw[e];refine⟨List.Pairwise.sublist h2 ?_,fun x hx=>?_⟩
 ·rw[List.pairwise_map]
  have h3:=A3k s;rw[A2u]at h3 |-;intro i j hi hj hij;have h4:=h3 i j hi hj hij;have h5:=(A2l s _ (Q8 hi)).len;omega
 ·have:=h2.subset hx
  obtain⟨t,ht,rfl⟩:=A1w.1 this;exact(A2l s t ht).pos
theorem A41 (s:List UInt8) {i:Nat} (h:i<(U9 s).length):(U9 s).getD i 0<(U9 s).getD (i+1) s.length/\(U9 s).getD (i+1) s.length<=s.length:=by
 obtain⟨h1,h2⟩:=A8e s;have e1:(U9 s).getD i 0=(U9 s)[i]:=by rw[U2,G9 h];rfl
 have h3:=h2 _ (Q8 h);rw[e1];rcases X3 (i+1) (U9 s).length with h4|h4
 ·have e2:(U9 s).getD (i+1) s.length=(U9 s)[i+1]:=by rw[U2,G9 h4];rfl
  rw[e2];exact⟨A2u.1 h1 i (i+1) h h4 (by omega),Nat.le_of_lt (h2 _ (Q8 h4))⟩
 ·have e2:(U9 s).getD (i+1) s.length=s.length:=by rw[U2,A1F h4];rfl
  rw[e2];exact⟨h3,H6 _⟩
theorem B26 (s:List UInt8) (cs:List Nat) (k:Nat):(List.range (k+1)).map (A2Q s cs)=(List.range k).map (A2Q s cs)++ [A2Q s cs k]:=by
 rw[List.range_succ,A1I];rfl
def Ex.kind:Ex->Nat
 | .mk k _ _ _ _ _=>k
def Ex.name:Ex->List UInt8
 | .mk _ n _ _ _ _=>n
def Ex.n:Ex->Nat
 | .mk _ _ n _ _ _=>n
def Ex.args:Ex->List Ex
 | .mk _ _ _ a _ _=>a
def Stm.kind:Stm->Nat
 | .mk k _ _ _ _ _ _ _ _ _=>k
def Stm.name:Stm->List UInt8
 | .mk _ n _ _ _ _ _ _ _ _=>n
def Stm.at_:Stm->Nat
 | .mk _ _ a _ _ _ _ _ _ _=>a
def Stm.label:Stm->Nat
 | .mk _ _ _ l _ _ _ _ _ _=>l
def Stm.opn:Stm->Bool
 | .mk _ _ _ _ o _ _ _ _ _=>o
def Stm.e:Stm->Ex
 | .mk _ _ _ _ _ e _ _ _ _=>e
def Stm.thn:Stm->List Stm
 | .mk _ _ _ _ _ _ t _ _ _=>t
def Stm.els:Stm->List Stm
 | .mk _ _ _ _ _ _ _ e _ _=>e
def Stm.fr:Stm->Nat
 | .mk _ _ _ _ _ _ _ _ f _=>f
def Stm.to:Stm->Nat
 | .mk _ _ _ _ _ _ _ _ _ t=>t
def A5o (T:Src) (at_:Int) (size:Nat):Itm×St:=
 if T.is 0 [102,110]=true then A5m T at_ size ⟨1,[]⟩ else if T.is 0 [99,104,97,110]=true then A9E T at_ size ⟨1,[]⟩ else
  (⟨3,[],0,[],[],[],at_,size,0,[]⟩, { ((⟨0,[]⟩:St).bad T 2) with i:=T.l.length})
def B50 (T:Src) (q:Itm×St):Itm:= { q.1 with diags:=(if q.2.i<T.l.length then q.2.bad T 2 else q.2).ds}
theorem A8z (src:List UInt8) (at_:Int):item src at_=B50 ⟨O6 src,src.length⟩ (A5o ⟨O6 src,src.length⟩ at_ src.length):=rfl
theorem A6U {F:UInt8->Bool}:∀ {l:List UInt8}{c:UInt8},c∈l.takeWhile F->F c=true
 | [],_,h=>by simp at h
 |a::l,c,h=>by
  rw[A3N]at h;split at h
  ·rename_i ha
   rcases A0D.1 h with rfl|h
   ·exact ha
   ·exact A6U h
  ·simp at h
theorem B4o (F:UInt8->Bool):∀r:List UInt8,r.take (r.takeWhile F).length=r.takeWhile F
 | []=>rfl
 |a::r=>by
  rw[A3N];split
  ·rw[X8,A1G,B4o F r]
  ·rfl
theorem B3O {s:List UInt8}{t:Tok} (h:TokOk s t) (hk:t.kind=2):∀c∈t.text,48<=c.toNat/\c.toNat<=57:=by
 have h1:=h.one.1;have h2:=h.one.2;have h3:=h.text;rw[hk]at h1;rw[h2]at h3;intro c hc;rw[h3]at hc;generalize s.drop t.pos=r at h1 hc;cases r with
 |nil=>simp[one]at h1
 |cons a r=>
  simp only[one]at h1 hc;split at h1
  ·simp at h1
  ·split at h1
   ·simp at h1
   ·split at h1
    ·simp at h1
    ·split at h1
     ·rename_i n1 n2 n3 n4
      rw[if_neg n1,if_neg n2,if_neg n3,if_pos n4]at hc;have e:(run A20 r)=1+(r.takeWhile A20).length:=rfl;rw[e,A14,A1G,B4o]at hc;have:A20 c=true:=by
       rcases A0D.1 hc with rfl|hc
       ·exact n4
       ·exact A6U hc
      simpa[A20] using this
     ·split at h1<;>simp at h1
end Go.Sp
namespace Go.Fw
open Go.Sp
open Go
section
variable {P:Program}{N:Nat}{ds:List Deferred}{Q:Exit->Act->World->Prop}{l l':Log}{w w':World}{ops:Array Oper}{os:List Oper}{o:Oper}
variable {d:Nat}{ty:TypeId}{pos:String}{af:Array Edge}{g:Option (Nat×Bool)}{t t':TypeId}{x y:Operand}{ik:IntKind}
theorem Kept.of_below {w w':World} (h:RowKit.Below w.heap.size w w'):Kept [] w w':=⟨h.os,h.tape,h.output,h.size,fun k hk _=>h.block k hk⟩
end
section
variable {P:Program}{N:Nat}{ds:List Deferred}{Q:Exit->Act->World->Prop}{K:Act->World->Prop}{l l':Log}{w w':World}{ops:Array Oper}{os:List Oper}{o:Oper}
variable {d:Nat}{ty:TypeId}{pos:String}{af:Array Edge}{g:Option (Nat×Bool)}{t t':TypeId}{x y z:Operand}
variable {E:Ent}{I I':U0}{H H' R:List HItem}
theorem A7L {α:Type}{c:Code} (id:Nat) (L:α->Log) (J:α->World->Prop)
  (h:WC P N ds c (Exit.inBlock id (Exit.then (fun a w=> ∃x,Fits N ds (L x) a/\J x w) Q)) l w) (k:∀x w,J x w->At N ds Q .normal (L x) w):WC P N ds (.block id c) Q l w:=
 ⟨fun a ha=>wp_mono ((F5 h).run a ha) (fun e a w q=>by
  cases e<;>first|exact q|(obtain⟨x,hx,hj⟩:=q;exact(k x w hj).run a hx))⟩
theorem Mem.take {ty sz n:Nat}{v:Value}{xs:List Value} (hm:Mem E I H w) (k:Kept [] w w') (ho:w'.ownsRow w.heap.size ty sz v n xs):∃I',Le I I'/\Mem E I' H w'/\RowI I' ty sz v n xs:=
 (hm.add (x:=.row v ty sz n xs) k (A4s ho (J7 _)) (fun b hb=>(ho.lt b hb).1)).freeze
theorem Mem.fresh (hm:Mem E I H w) (k:Kept [] w w') {b:Nat}{o:Obj} (hb:w.heap.size<=b) (ho:w'.heap[b]?=some o):Le I (I.add b o)/\Mem E (I.add b o) H w':=by
 have hf:=hm.inv.fresh hb;refine⟨Le.add hf,(hm.kept0 k).freezeB ho hf (.inr (A1v hm.kept.size hb)) (fun h hh e=>?_)⟩
 have:=(hm.ok h hh).lt e;omega
theorem B2L (w:World) (e:TypeId) (s:ByteArray):Kept [] w (Lib.bytesWorld w e s):=
 ⟨rfl,rfl,rfl,by rw[Lib.bytesWorld_size];omega,fun k hk _=>Lib.bytesWorld_at_old w e s k hk⟩
theorem B0s {e:TypeId}{sz by_ n:Nat} [TySlice P t e] [Elem P e sz by_] {ps:List (Nat×Operand)}{vs:List (Nat×Value)}{xs:List Value} (k:∀I' a w',Le I I'->Mem E I' H w'->RowI I' e sz (.slice a n n) n xs->WL P N ds ops Q os ((d,.slice a n n)::l) w') (hm:Mem E I H w)
  (hw:O8 ops l ⟨some d,.buildSlice t n ps.toArray,ty,pos,af,g⟩=some true:=by rfl) (hN:Nat.blt d N=true:=by rfl) (hx:evp l ps=some vs:=by rfl)
  (hi:vs.map (·.1)=List.range' 0 n:=by rfl) (hs:vs.all (fun p=>Nat.beq p.2.cells.toList.length sz)=true:=by rfl) (hn:Nat.ble (n *sz) 16777216=true:=by rfl) (hxs:vs.flatMap (·.2.cells.toList)=xs:=by rfl)
   :
  WL P N ds ops Q (⟨some d,.buildSlice t n ps.toArray,ty,pos,af,g⟩::os) l w:=by
 subst hxs;refine A5f hw hN hx hi hs (A3J hn) (fun b w' hb hh hk=>?_)
 obtain⟨h1,h2⟩:=hm.fresh hk (Nat.le_of_eq hb.symm) hh;refine k _ _ w' h1 h2 ⟨?_,_,_,rfl,H6 _,fun _=>⟨b,0,_,(_,_),rfl,U0.add_self _ _ _,fun j u hj=>by rw[Y6];simpa using hj⟩⟩
 have hlen:vs.length=n:=by have:=congrArg List.length hi;simpa using this
 have key:∀(vs:List (Nat×Value)),vs.all (fun p=>Nat.beq p.2.cells.toList.length sz)=true->(vs.flatMap (·.2.cells.toList)).length=vs.length *sz:=by
  intro vs;induction vs with
  |nil=>intro _;simp
  |cons p vs ih=>
   intro h;rw[List.all_cons,Q7]at h;rw[A0n,Y4,ih h.2,A3m h.1,X8,A1j];omega
 rw[key vs hs,hlen]
end
abbrev A3G:=List (List UInt8×Value)
def A7R (es:A3G) (n:Nat):List MapEntry:=(es.zipIdx n).map (fun p=> { key:=str p.1.1,val:=p.1.2,born:=p.2})
class TyMap (P:Program) (t:TypeId) (k e:outParam TypeId):Prop where out:P.underlying t=some (.map k e)
structure MapAt (w:World) (b:Nat) (es:A3G):Prop where
 out:w.heap[b]?=some (.map (A7R es 0).toArray es.length)
 nodup:(es.map (·.1)).Nodup
theorem A8f (s:List UInt8):∀(es:A3G) (n m:Nat),Instr.findNow .string (str s) (A7R es n) m=some ((es.findIdx? (fun p=>decide (p.1=s))).bind (fun i=>(es[i]?).map (fun p=>(m+i,p.2))))
 | [],n,m=>rfl
 |(u,v)::es,n,m=>by
  have ih:=A8f s es (n+1) (m+1);simp only[A7R,List.zipIdx_cons,Y2,Instr.findNow,Instr.sameNow]at ih |-;have e1:((⟨s.toArray⟩:ByteArray)==⟨u.toArray⟩)=decide (u=s):=by
   rw[show ((⟨s.toArray⟩:ByteArray)==⟨u.toArray⟩)=(s.toArray==u.toArray) from rfl,A2x];constructor
   ·intro h
    have h2:s=u:=by simpa using h
    exact decide_eq_true h2.symm
   ·intro h
    rw[of_decide_eq_true h];simp
  rw[e1,A3n];cases hd:decide (u=s) with
  |true=>simp
  |false=>
   simp only
   rw[ih]
   congr 1
   cases hf:es.findIdx? (fun p=>decide (p.1=s)) with
   |none=>simp
   |some i=>simp[A14,Nat.add_left_comm]
section
variable {P:Program}{N:Nat}{ds:List Deferred}{Q:Exit->Act->World->Prop}{l l':Log}{w w':World}{ops:Array Oper}{os:List Oper}{o:Oper}
variable {d:Nat}{ty:TypeId}{pos:String}{af:Array Edge}{g:Option (Nat×Bool)}{t t':TypeId}{x y z:Operand}
theorem B3j (hw:O8 ops l ⟨some d,.makeMap t none,ty,pos,af,g⟩=some true) (hN:Nat.blt d N=true)
  (k:∀b w',b=w.heap.size->MapAt w' b []->Kept [] w w'->WL P N ds ops Q os ((d,.map (some b))::l) w'):
  WL P N ds ops Q (⟨some d,.makeMap t none,ty,pos,af,g⟩::os) l w:=
 O9 (w':=w.alloc (.map #[] 0)) rfl hw hN (fun a ha=>by
  simp[execOp,Instr.makeMap,newObj];rfl) (k w.heap.size _ rfl ⟨heap_alloc_new w _,by simp⟩ (Kept.alloc w _))
def B7N (es:A3G) (s:List UInt8) (z:Value):Value:=((es.find? (fun p=>decide (p.1=s))).map (·.2)).getD z
theorem B5S (es:A3G) (s:List UInt8):(es.findIdx? (fun p=>decide (p.1=s))).bind (fun i=>(es[i]?).map (·.2))=(es.find? (fun p=>decide (p.1=s))).map (·.2):=by
 induction es with
 |nil=>rfl
 |cons p es ih=>
  rw[A3n,A2y];cases hd:decide (p.1=s) with
  |true=>simp
  |false=>
   simp only[A4I,if_false];rw[<-ih];cases es.findIdx? (fun p=>decide (p.1=s))<;>simp
theorem B2n {kt:TypeId} (hk:P.underlying kt=some .string) (s:List UInt8) (es:A3G) (n:Nat):
  (Instr.findKey kt (str s) (A7R es n)).run P w=.ok ((es.findIdx? (fun p=>decide (p.1=s))).bind (fun i=>(es[i]?).map (fun p=>(0+i,p.2)))) w:=by
 have h1:=run_underlying (P:=P) (w:=w) hk;simp only[Instr.findKey,Sem.run_bind,h1,Result.andThen_ok,A8f];simp
theorem B0S {kt:TypeId} (hk:P.underlying kt=some .string) (s:List UInt8) (b:Bool):(Instr.checkKey b 10000 kt (str s)).run P w=.ok () w:=by
 have h1:=run_underlying (P:=P) (w:=w) hk;show (Instr.checkKey b (9999+1) kt (str s)).run P w=.ok () w
 rw[Instr.checkKey];simp[h1]
end
abbrev HItem.mp (b:Nat) (es:A3G):HItem:=.obj b (.map (A7R es 0).toArray es.length)
section
variable {P:Program}{N:Nat}{ds:List Deferred}{Q:Exit->Act->World->Prop}{K:Act->World->Prop}{l l':Log}{w w':World}{ops:Array Oper}{os:List Oper}{o:Oper}
variable {d:Nat}{ty:TypeId}{pos:String}{af:Array Edge}{g:Option (Nat×Bool)}{t t':TypeId}{x y z:Operand}
variable {E:Ent}{I I':U0}{H H' R:List HItem}
theorem A9V (k:∀b w',Mem E I (.mp b []::H) w'->WL P N ds ops Q os ((d,.map (some b))::l) w') (hm:Mem E I H w) (hw:O8 ops l ⟨some d,.makeMap t none,ty,pos,af,g⟩=some true:=by rfl) (hN:Nat.blt d N=true:=by rfl)
   :
  WL P N ds ops Q (⟨some d,.makeMap t none,ty,pos,af,g⟩::os) l w:=
 B3j hw hN (fun b w' hb hmp hk=>k b w' (hm.add hk (by exact hmp.out) (fun b' hb'=>by simp only[HItem.blk,U5]at hb';omega)))
end
section
variable {P:Program}{N:Nat}{ds:List Deferred}{Q:Exit->Act->World->Prop}{K:Act->World->Prop}{l l':Log}{w w':World}{ops:Array Oper}{os:List Oper}{o:Oper}
variable {d:Nat}{ty:TypeId}{pos:String}{af:Array Edge}{g:Option (Nat×Bool)}{t t':TypeId}{x y z:Operand}
variable {E:Ent}{I I':U0}{H H' R:List HItem}
structure CalD (P:Program) (f:FuncId) (args:Array Value) (w:World) (Post:World->Prop):Prop where
 run:CallsD P f args .returning w (fun e u' w'=>u'=.returning/\Ret (fun _ w'=>Post w') e w')
theorem B5K {f:FuncId}{fn:Func}{c:Code}{args:Array Value}{Post:World->Prop} (hf:P.funcs[f]?=some fn) (hb:fn.body=some c)
  (l:Log) (hl:∀t v,lk l t=some v->args[t]?=some v) (hN:N=args.size+(fn.ntmps-args.size))
  (h:WC P N [] c (bodyPost P fn (Ret (fun _ w=>Post w))) l w):CalD P f args w Post:=
 ⟨callsD_of_wp hf hb (h.run _ (by rw[hN];exact A65 _ _ _ hl))⟩
theorem A11 {f:FuncId}{fn:Func}{c:Code}{args:Array Value}{Post:Value->World->Prop} (hf:P.funcs[f]?=some fn) (hb:fn.body=some c)
  (l:Log) (hl:∀t v,lk l t=some v->args[t]?=some v) (hN:N=args.size+(fn.ntmps-args.size))
  (h:WC P N [] c (bodyPostD P fn (Ret Post)) l w):Cal P f args w Post:=
 ⟨calls_of_wp_defers hf hb (h.run _ (by rw[hN];exact A65 _ _ _ hl))⟩
theorem A4S {f:FuncId}{caps:Array Value}{dst:Option Nat} (k:WL P N (⟨.fn (.func f) caps, #[]⟩::ds) ops Q os l w) (hd:dst=none:=by rfl) (hw:O8 ops l ⟨dst,.defer ⟨.value x, #[], #[]⟩,ty,pos,af,g⟩=some true:=by rfl)
  (hx:ev l x=some (.func (.func f) #[] caps):=by rfl)  :WL P N ds ops Q (⟨dst,.defer ⟨.value x, #[], #[]⟩,ty,pos,af,g⟩::os) l w:=
 B4w hw fun a ha=>by
  subst hd;have h1:=ha.ev hx;simp only[Oper.wp,execOp,resolve,Deferred.ofValue,h1,Sem.run_bind,Sem.run_pure,Result.andThen_ok,Oper.upon_defer,Act.put];refine k.run _ ⟨ha.size,?_,ha.vals⟩
  simp[ha.defs]
theorem B0k {fn:Func}{tr n b:Nat}{tc:TypeId} [TyAgg P tc n] {f:FuncId} [Own P f] {caps:Array Value}{Post:Value->World->Prop} (hr:fn.results= #[.cell tr tc])
  (hx:lk l tr=some (.pointer (some ⟨b,0,none⟩))) {Pd:World->Prop} (hc:CalD P f caps w Pd)
  (hp:∀w',Pd w'->∃(c:List Value) (e:TypeId) (fr:Nat×Nat),w'.heap[b]?=some (.cells c.toArray e fr)/\c.length=n/\Post (.agg c.toArray) w'):At N [⟨.fn (.func f) caps, #[]⟩] (bodyPostD P fn (Ret Post)) .ret l w:=
 ⟨fun a ha=>by
  show Leaves P fn a.tmps (Ret Post) a.defers .returning w
  rw[ha.defs];refine leaves_cons (by simp) (f:=f) (args:=caps) (by simp[invoke,A2B]) (hc.run.mono (fun e u' w' ⟨h1,h2⟩=>?_))
  subst h1;cases e with
  |returned v=>
   obtain⟨c,e,fr,h3,h4,h5⟩:=hp w' h2;exact⟨_,A53 hr a.tmps w' (ha.vals tr _ hx) (A4a h3 h4 (fun j v hv=>by simpa using hv)),h5⟩
  |panicked c=>exact h2.elim
  |outgrown=>exact h2.elim⟩
theorem B1o {fn:Func}{tr:Nat}{v:Value}{f:FuncId} [Own P f] {caps:Array Value}{Post:Value->World->Prop} (hr:fn.results= #[.tmp tr])
  (hx:lk l tr=some v) {Pd:World->Prop} (hc:CalD P f caps w Pd) (hp:∀w',Pd w'->Post v w'):At N [⟨.fn (.func f) caps, #[]⟩] (bodyPostD P fn (Ret Post)) .ret l w:=
 ⟨fun a ha=>by
  show Leaves P fn a.tmps (Ret Post) a.defers .returning w
  rw[ha.defs];refine leaves_cons (by simp) (f:=f) (args:=caps) (by simp[invoke,A2B]) (hc.run.mono (fun e u' w' ⟨h1,h2⟩=>?_))
  subst h1;cases e with
  |returned _=>exact⟨v,by rw[results_tmp hr];simp[A5q,ha.vals tr _ hx],hp w' h2⟩
  |panicked c=>exact h2.elim
  |outgrown=>exact h2.elim⟩
theorem A7r {fn:Func}{tr:Nat}{v:Value}{Post:Value->World->Prop} (h:Post v w) (hr:fn.results= #[.tmp tr]:=by rfl) (hx:lk l tr=some v:=by rfl)  :
  At N [] (bodyPostD P fn (Ret Post)) .ret l w:=
 ⟨fun a ha=>by
  show Leaves P fn a.tmps (Ret Post) a.defers .returning w
  rw[ha.defs];exact⟨v,by rw[results_tmp hr];simp[A5q,ha.vals tr _ hx],h⟩⟩
theorem A6Q {fn:Func}{i tr n b:Nat}{tc:TypeId} [TyAgg P tc n] {c:List Value}{e:TypeId}{fr:Nat×Nat}{Post:Value->World->Prop} (h:Post (.agg c.toArray) w) (hm:Mem E I H w) (hr:fn.results= #[.cell tr tc]:=by rfl)
  (hx:lk l tr=some (.pointer (some ⟨b,0,none⟩)):=by rfl) (hb:H[i]?=some (.obj b (.cells c.toArray e fr)):=by first|exact gt0|exact gt1|exact gt2|exact gt3|exact gt4|exact gt5|exact gt6) (hl:c.length=n:=by rfl)
   :At N [] (bodyPostD P fn (Ret Post)) .ret l w:=
 ⟨fun a ha=>by
  show Leaves P fn a.tmps (Ret Post) a.defers .returning w
  rw[ha.defs];exact⟨_,A53 hr a.tmps w (ha.vals tr _ hx) (A4a (hm.get hb) hl (fun j v hv=>by simpa using hv)),h⟩⟩
theorem B1R {fn:Func}{i tr n b:Nat}{tc:TypeId} [TyAgg P tc n] {c:List Value}{e:TypeId}{fr:Nat×Nat}{f:FuncId} [Own P f] {caps:Array Value}{Post:Value->World->Prop} (hr:fn.results= #[.cell tr tc])
  (hx:lk l tr=some (.pointer (some ⟨b,0,none⟩))) (hc:CalD P f caps w (fun w'=>Mem E I H' w')) (hb:H'[i]?=some (.obj b (.cells c.toArray e fr))) (hl:c.length=n)
  (h:∀w',Mem E I H' w'->Post (.agg c.toArray) w'):At N [⟨.fn (.func f) caps, #[]⟩] (bodyPostD P fn (Ret Post)) .ret l w:=
 B0k hr hx hc (fun w' hm=>⟨c,e,fr,hm.get hb,hl,h w' hm⟩)
end
section
variable {P:Program}{N:Nat}{ds:List Deferred}{Q:Exit->Act->World->Prop}{K:Act->World->Prop}{KV:Act->Prop}{l l':Log}{w w' w0 wd:World}{ops:Array Oper}{os os' tail:List Oper}{o:Oper}
variable {d:Nat}{ty:TypeId}{pos:String}{af:Array Edge}{g:Option (Nat×Bool)}{t t':TypeId}{x y z:Operand}
variable {E:Ent}{I I' I0:U0}{H H' R G:List HItem}{X:List Nat}
theorem A0r [Mixed P] {id:Nat} (hm:Mem E I (G++R) w) (q n:Nat) (hB:B4j os.toArray q n=true:=by kernel_rfl)
  (h:∀wd,Mem E I (G++R) wd->Mem ⟨wd,A10 G,I⟩ I G wd->WV P N ds os.toArray (A10 G) wd (fun a'=>A3C P os.toArray (fun w'=>Kept (A10 G) wd w') (fun a' w'=>wpList P os.toArray Q (os.drop n) a' w') ((os.drop q).take (n-q)) a' wd) (os.take q) l):
  WC P N ds (.region id os.toArray true) Q l w:=
 B7F q n (A10 G) hB (fun wd hk=>h wd (hm.kept0 hk) (hm.kept0 hk).sub)
theorem Mem.notG (hR:Mem E I (G++R) w) {i:Nat}{h:HItem} (hi:R[i]?=some h) {b:Nat} (hb:h.blk=some b):b∉A10 G:=fun hx=>by
 obtain⟨k,hk,hkb⟩:=A6u hx;exact(A17.1 hR.dist).2.2 k hk h (A0s hi) b hkb hb
theorem Mem.notGI (hR:Mem E I (G++R) w) {b:Nat}{o:Obj} (hb:I b=some o):b∉A10 G:=fun hx=>by
 obtain⟨k,hk,hkb⟩:=A6u hx;have:=hR.free k (A1p _ hk) b hkb;rw[hb]at this;cases this
theorem A0g [TyOne P t] {i b off:Nat}{c:List Value}{e:TypeId}{fr:Nat×Nat}{v:Value} (k:WV P N ds ops (A10 G) w KV os ((d,v)::l)) (hR:Mem E I (G++R) w) (hw:O8 ops l ⟨some d,.load t x,ty,pos,af,g⟩=some true:=by rfl) (hN:Nat.blt d N=true:=by rfl)
  (hx:ev l x=some (.pointer (some ⟨b,off,none⟩)):=by rfl) (hb:R[i]?=some (.obj b (.cells c.toArray e fr)):=by first|exact gt0|exact gt1|exact gt2|exact gt3|exact gt4|exact gt5|exact gt6) (hc:c[off]?=some v:=by rfl)
   :WV P N ds ops (A10 G) w KV (⟨some d,.load t x,ty,pos,af,g⟩::os) l:=
 A7J hw hN hx (hR.right.get hb) (hR.notG hb rfl) (by simpa using hc) k
theorem A2V {n:Nat} [TyAgg P t n] {i b:Nat}{c:List Value}{e:TypeId}{fr:Nat×Nat} (k:WV P N ds ops (A10 G) w KV os ((d,.agg c.toArray)::l)) (hR:Mem E I (G++R) w) (hw:O8 ops l ⟨some d,.load t x,ty,pos,af,g⟩=some true:=by rfl) (hN:Nat.blt d N=true:=by rfl)
  (hx:ev l x=some (.pointer (some ⟨b,0,none⟩)):=by rfl) (hb:R[i]?=some (.obj b (.cells c.toArray e fr)):=by first|exact gt0|exact gt1|exact gt2|exact gt3|exact gt4|exact gt5|exact gt6) (hl:c.length=n:=by rfl)
   :WV P N ds ops (A10 G) w KV (⟨some d,.load t x,ty,pos,af,g⟩::os) l:=
 B03 hw hN hx (hR.right.get hb) (hR.notG hb rfl) hl (fun j v hv=>by simpa using hv) k
theorem A1u [TyOne P t] {b off j tc:Nat}{cs:List Value}{v:Value} (k:WV P N ds ops (A10 G) w KV os ((d,v)::l)) (hR:Mem E I (G++R) w) (hw:O8 ops l ⟨some d,.load t x,ty,pos,af,g⟩=some true:=by rfl) (hN:Nat.blt d N=true:=by rfl)
  (hx:ev l x=some (.pointer (some ⟨b,off+j,none⟩)):=by rfl) (hp:PtrI I b off tc cs:=by assumption) (hc:cs[j]?=some v:=by rfl)
   :WV P N ds ops (A10 G) w KV (⟨some d,.load t x,ty,pos,af,g⟩::os) l:=by
 obtain⟨c,fr,h1,h2⟩:=hp;exact A7J hw hN hx (hR.inv _ _ h1) (hR.notGI h1) (h2 j v hc) k
theorem A02 {f:FuncId} [Own P f] {xs:List Operand}{tys:Array TypeId}{vs:List Value}{Post:Value->U0->List HItem->Prop} (k:∀v I' H' w',Post v I' H'->Le I I'->Mem ⟨w0,X,I0⟩ I' (H'++R) w'->WS P N ds ops Q X w0 os' tail ((d,v)::l) w') (hm:Mem ⟨w0,X,I0⟩ I G w)
  (hw:O8 ops l ⟨some d,.call ⟨.value (.func f),xs.toArray,tys⟩,ty,pos,af,g⟩=some true:=by rfl) (hN:Nat.blt d N=true:=by rfl)
  (hx:evs l xs=some vs:=by rfl) (hp:G.Perm (H++R):=by first|exact pm0|exact pm1_0|exact pm1_1|exact pm1_2|exact pm1_3|exact pm2_0|exact pm2_1|exact pm2_2|exact pm2_3|exact pm2_4|exact pm3_0|exact pm3_1|exact pm3_2) (hc:CalM P f vs.toArray I H Post)
   :
  WS P N ds ops Q X w0 (⟨some d,.call ⟨.value (.func f),xs.toArray,tys⟩,ty,pos,af,g⟩::os') tail l w:=
 B2E rfl hw hN (fun a ha=>by
  have:=ha.evs hx;simp[execOp,resolve,invoke,Act.eval,Deferred.ofValue,this,A2B]) (hc.run w (hm.perm hp).sub) (fun v w' ⟨I',H',h1,h2⟩=>
   have hm':=(hm.perm hp).back h2
   ⟨hm'.kept,k v I' H' w' h1 h2.le hm'⟩)
theorem A2K {e:TypeId}{sz by_:Nat} [TySlice P t e] [Elem P e sz by_] {d1 i:Nat}{s:Operand}{v u:Value}{n:Nat}{xs us:List Value}
  {ty':TypeId}{pos':String}{af':Array Edge} (k:∀a cp b1 w',Mem ⟨w0,X,I0⟩ I (H.set i (.row (.slice a (n+1) cp) e sz (n+1) (xs++us))) w'->WL P N ds ops Q tail ((d,.slice a (n+1) cp)::(d1,.slice (some ⟨b1,0,none⟩) 1 1)::l) w') (hm:Mem ⟨w0,X,I0⟩ I H w) (hN1:Nat.blt d1 N=true:=by rfl) (hN:Nat.blt d N=true:=by rfl)
  (hs:ev l s=some v:=by rfl) (hne:A7C s d1=true:=by rfl) (hx:ev l x=some u:=by rfl) (hi:H[i]?=some (.row v e sz n xs):=by first|exact gt0|exact gt1|exact gt2|exact gt3|exact gt4|exact gt5|exact gt6) (hus:u.cells.toList=us:=by rfl) (hu:us.length=sz:=by rfl) (h1:us.all (·.oneCell')=true:=by rfl)
  (hsz:Nat.ble sz 1024=true:=by rfl) (hlen:(n+1) *by_<=140737488355328:=by omega) (h63:n+1<=9223372036854775807:=by omega)
   :
  WS P N ds ops Q X w0 [⟨some d1,.buildSlice t 1 #[(0,x)],ty,pos,af,none⟩,⟨some d,.call ⟨.builtin .append, #[s,.tmp d1], #[t,t]⟩,ty',pos',af',none⟩] tail l w:=by
 subst hus;obtain⟨i',z,hi',hz,hs',hby,hzc,hpos⟩:=Elem.out (P:=P) (e:=e);have h6:=fun w=>run_underlying (P:=P) (w:=w) (TySlice.out (P:=P) (t:=t))
 have hs2:ev ((d1,.slice (some ⟨w.heap.size,0,none⟩) 1 1)::l) s=some v:=B5L hne hs;have hown:=hm.getRow hi;have hu':u.cells.size=sz:=by simpa using hu
 have hown2:(w.alloc (.cells u.cells e (0,0))).ownsRow 0 e sz v n xs:=hown.alloc _;obtain⟨v',w',hr,ho,hk,hb⟩:=A54 (P:=P) (t:=t) hown2 ⟨w.heap.size,0,none⟩ 1 1 u.cells.toList (by simp[hu']) (fun j r hj=>by
   rw[Addr.add_lit];exact A2Z (heap_alloc_new w _) (by simpa using hj)) (fun r hr=>A3p.1 h1 r hr) h63 hlen (by simp) ty'
 have hk2:Kept v.ownBlock.toList w w':=((Kept.alloc w _).mono (fun _ h=>by cases h)).trans hk;have hb2:v'.ownBlock=v.ownBlock\/∃g,v'.ownBlock=some g/\w.heap.size<=g:=hb.imp_right fun ⟨g,h1,h2⟩=>⟨g,h1,by simp at h2;omega⟩
 have hm':=hm.turn (h':=.row v' e sz (n+1) (xs++u.cells.toList)) hi hk2 ho hb2;refine A5z (w':=w.alloc (.cells u.cells e (0,0))) (v:=.slice (some ⟨w.heap.size,0,none⟩) 1 1) rfl rfl hN1 (fun a ha=>?_) (hm.kept.step0 (Kept.alloc w _)) ?_
 ·have hz0:¬(2 ^ 24<sz):=by have:=A3J hsz;omega
  have hz1:¬(sz=0):=by omega
  have hf:=B1C hu' ((Array.range sz).map (z.cells[· % z.cells.size]!)) (by simp);simp[execOp,Instr.buildSlice,h6,sizeOf,typeInfo,hi',hs',zeroValue,hz,ha.ev hx,hz0,hz1,hf,newRow,newObj]
  rfl
 ·refine A5z (w':=w') (v:=v') rfl rfl hN (fun a ha=>?_) hm'.kept (A1m ?_)
  ·have e1:=ha.ev hs2
   have e2:a.eval (.tmp d1)=.slice (some ⟨w.heap.size,0,none⟩) 1 1:=ha.ev (by simp[ev,lk]);simp[execOp,resolve,invoke,builtin,e1,e2,hr]
  ·have hlt:i<H.length:=(Z8.1 hi).1
   obtain⟨a,cp,rfl⟩:=A4r (hm'.getRow (i:=i) (by rw[A2w];simp[hlt];exact⟨rfl,rfl,rfl,rfl,rfl⟩));exact k a cp _ w' hm'
end
end Go.Fw
namespace Go.Proofs
open Go.Sp
open Go.Fw
abbrev ptr (b:Nat):Value:=.pointer (some ⟨b,0,none⟩)
abbrev nt (n:Nat):Value:=.int .i64 (n:Int)
mutual
def A49 (I:U0):Sp.Ex->List Value->Prop
 | .mk k nm n args f t,cs=> ∃a cap xs,cs= [nt k,str nm,nt n,.slice a args.length cap,nt f,nt t]/\RowI I 107 6 (.slice a args.length cap) args.length xs/\V7 I args xs
def V7 (I:U0):List Sp.Ex->List Value->Prop
 | [],xs=>xs= []
 |e::es,xs=> ∃c r,xs=c++r/\A49 I e c/\V7 I es r
 end
mutual
theorem A49.le {I I':U0} (m:Le I I'):∀(e:Sp.Ex) (cs:List Value),A49 I e cs->A49 I' e cs
 | .mk k nm n args f t,cs,h=>by
  rw[A49]at h |-;obtain⟨a,cap,xs,h1,h2,h3⟩:=h;exact⟨a,cap,xs,h1,h2.le m,V7.le m _ _ h3⟩
theorem V7.le {I I':U0} (m:Le I I'):∀(es:List Sp.Ex) (xs:List Value),V7 I es xs->V7 I' es xs
 | [],xs,h=>by rw[V7]at h |-;exact h
 |e::es,xs,h=>by
  rw[V7]at h |-;obtain⟨c,r,h1,h2,h3⟩:=h;exact⟨c,r,h1,A49.le m _ _ h2,V7.le m _ _ h3⟩
 end
theorem A49.out {I:U0}{e:Sp.Ex}{cs:List Value} (h:A49 I e cs):
  ∃a cap xs,cs= [nt e.kind,str e.name,nt e.n,.slice a e.args.length cap,nt e.fr,nt e.to]/\RowI I 107 6 (.slice a e.args.length cap) e.args.length xs/\V7 I e.args xs:=by
 cases e with
 |mk k nm n args f t=>rw[A49]at h;exact h
theorem A49.of {I:U0}{k n f t cap:Nat}{nm:List UInt8}{a:Option Addr}{args:List Sp.Ex}{xs:List Value} (h2:RowI I 107 6 (.slice a args.length cap) args.length xs) (h3:V7 I args xs):
  A49 I (.mk k nm n args f t) [nt k,str nm,nt n,.slice a args.length cap,nt f,nt t]:=by
 rw[A49];exact⟨a,cap,xs,rfl,h2,h3⟩
theorem A49.len {I:U0}{e:Sp.Ex}{cs:List Value} (h:A49 I e cs):cs.length=6:=by
 obtain⟨_,_,_,rfl,_⟩:=h.out;rfl
theorem V7.len {I:U0}:∀ {es:List Sp.Ex}{xs:List Value},V7 I es xs->xs.length=es.length *6
 | [],xs,h=>by rw[V7]at h;simp[h]
 |e::es,xs,h=>by
  rw[V7]at h;obtain⟨c,r,rfl,h2,h3⟩:=h;rw[Y4,h2.len,h3.len,X8,A1j];omega
theorem V7.nil {I:U0}:V7 I [] []:=by rw[V7]
theorem V7.snoc {I:U0}:∀ {es:List Sp.Ex}{xs c:List Value}{e:Sp.Ex},V7 I es xs->A49 I e c->V7 I (es++ [e]) (xs++c)
 | [],xs,c,e,h,he=>by
  rw[V7]at h;subst h;rw[Y5,Y5,V7];exact⟨c,[],by simp,he,by rw[V7]⟩
 |a::es,xs,c,e,h,he=>by
  rw[V7]at h;obtain⟨c1,r,rfl,h2,h3⟩:=h;rw[A0a,V7];exact⟨c1,r++c,by rw[Z9],h2,h3.snoc he⟩
theorem V7.get {I:U0}:∀ {es:List Sp.Ex}{xs:List Value}{i:Nat}{e:Sp.Ex},V7 I es xs->es[i]?=some e->A49 I e ((xs.drop (i *6)).take 6)
 | [],_,_,_,_,he=>by simp at he
 |a::es,xs,0,e,h,he=>by
  rw[V7]at h;obtain⟨c,r,rfl,h2,h3⟩:=h;simp only[A0S,U5]at he;subst he;rw[A09,A2a,A4x (by rw[h2.len];omega),A1D (by rw[h2.len];omega)];exact h2
 |a::es,xs,i+1,e,h,he=>by
  rw[V7]at h;obtain⟨c,r,rfl,h2,h3⟩:=h;rw[A0E]at he;have:=h3.get he;rw[A5V,A5J (by rw[h2.len];omega),Y5,h2.len,show (i+1) *6-6=i *6 by omega];exact this
abbrev A2M (k:Nat) (nm:List UInt8) (a lb:Nat) (o:Bool) (e:Sp.Ex) (ea:Option Addr) (ec:Nat) (v1 v2:Value) (f t:Nat):List Value:=
 [nt k,str nm,nt a,nt lb,.bool o,nt e.kind,str e.name,nt e.n,.slice ea e.args.length ec,nt e.fr,nt e.to,v1,v2,nt f,nt t]
mutual
def A4g (I:U0):Sp.Stm->List Value->Prop
 | .mk k nm a lb o e thn els f t,cs=> ∃ea ec ex a1 c1 xs1 a2 c2 xs2,cs=A2M k nm a lb o e ea ec (.slice a1 thn.length c1) (.slice a2 els.length c2) f t/\
  RowI I 107 6 (.slice ea e.args.length ec) e.args.length ex/\V7 I e.args ex/\
  RowI I 109 15 (.slice a1 thn.length c1) thn.length xs1/\U8 I thn xs1/\RowI I 109 15 (.slice a2 els.length c2) els.length xs2/\U8 I els xs2
def U8 (I:U0):List Sp.Stm->List Value->Prop
 | [],xs=>xs= []
 |e::es,xs=> ∃c r,xs=c++r/\A4g I e c/\U8 I es r
 end
mutual
theorem A4g.le {I I':U0} (m:Le I I'):∀(e:Sp.Stm) (cs:List Value),A4g I e cs->A4g I' e cs
 | .mk k nm a lb o e thn els f t,cs,h=>by
  rw[A4g]at h |-;obtain⟨ea,ec,ex,a1,c1,xs1,a2,c2,xs2,h1,h2,h3,h4,h5,h6,h7⟩:=h;exact⟨ea,ec,ex,a1,c1,xs1,a2,c2,xs2,h1,h2.le m,V7.le m _ _ h3,h4.le m,U8.le m _ _ h5,h6.le m,U8.le m _ _ h7⟩
theorem U8.le {I I':U0} (m:Le I I'):∀(es:List Sp.Stm) (xs:List Value),U8 I es xs->U8 I' es xs
 | [],xs,h=>by rw[U8]at h |-;exact h
 |e::es,xs,h=>by
  rw[U8]at h |-;obtain⟨c,r,h1,h2,h3⟩:=h;exact⟨c,r,h1,A4g.le m _ _ h2,U8.le m _ _ h3⟩
 end
theorem A4g.out {I:U0}{s:Sp.Stm}{cs:List Value} (h:A4g I s cs):∃ea ec ex a1 c1 xs1 a2 c2 xs2,cs=A2M s.kind s.name s.at_ s.label s.opn s.e ea ec (.slice a1 s.thn.length c1) (.slice a2 s.els.length c2) s.fr s.to/\
  RowI I 107 6 (.slice ea s.e.args.length ec) s.e.args.length ex/\V7 I s.e.args ex/\
  RowI I 109 15 (.slice a1 s.thn.length c1) s.thn.length xs1/\U8 I s.thn xs1/\RowI I 109 15 (.slice a2 s.els.length c2) s.els.length xs2/\U8 I s.els xs2:=by
 cases s with
 |mk k nm a lb o e thn els f t=>rw[A4g]at h;exact h
theorem A4g.of {I:U0}{k a lb f t ec c1 c2:Nat}{nm:List UInt8}{o:Bool}{e:Sp.Ex}{thn els:List Sp.Stm}{ea a1 a2:Option Addr}{ex xs1 xs2:List Value}
  (h2:RowI I 107 6 (.slice ea e.args.length ec) e.args.length ex) (h3:V7 I e.args ex)
  (h4:RowI I 109 15 (.slice a1 thn.length c1) thn.length xs1) (h5:U8 I thn xs1) (h6:RowI I 109 15 (.slice a2 els.length c2) els.length xs2) (h7:U8 I els xs2):
  A4g I (.mk k nm a lb o e thn els f t) (A2M k nm a lb o e ea ec (.slice a1 thn.length c1) (.slice a2 els.length c2) f t):=by
 rw[A4g];exact⟨ea,ec,ex,a1,c1,xs1,a2,c2,xs2,rfl,h2,h3,h4,h5,h6,h7⟩
theorem A4g.len {I:U0}{e:Sp.Stm}{cs:List Value} (h:A4g I e cs):cs.length=15:=by
 obtain⟨_,_,_,_,_,_,_,_,_,rfl,_⟩:=h.out;rfl
theorem U8.len {I:U0}:∀ {es:List Sp.Stm}{xs:List Value},U8 I es xs->xs.length=es.length *15
 | [],xs,h=>by rw[U8]at h;simp[h]
 |e::es,xs,h=>by
  rw[U8]at h;obtain⟨c,r,rfl,h2,h3⟩:=h;rw[Y4,h2.len,h3.len,X8,A1j];omega
theorem U8.nil {I:U0}:U8 I [] []:=by rw[U8]
theorem U8.snoc {I:U0}:∀ {es:List Sp.Stm}{xs c:List Value}{e:Sp.Stm},U8 I es xs->A4g I e c->U8 I (es++ [e]) (xs++c)
 | [],xs,c,e,h,he=>by
  rw[U8]at h;subst h;rw[Y5,Y5,U8];exact⟨c,[],by simp,he,by rw[U8]⟩
 |a::es,xs,c,e,h,he=>by
  rw[U8]at h;obtain⟨c1,r,rfl,h2,h3⟩:=h;rw[A0a,U8];exact⟨c1,r++c,by rw[Z9],h2,h3.snoc he⟩
theorem U8.get {I:U0}:∀ {es:List Sp.Stm}{xs:List Value}{i:Nat}{e:Sp.Stm},U8 I es xs->es[i]?=some e->A4g I e ((xs.drop (i *15)).take 15)
 | [],_,_,_,_,he=>by simp at he
 |a::es,xs,0,e,h,he=>by
  rw[U8]at h;obtain⟨c,r,rfl,h2,h3⟩:=h;simp only[A0S,U5]at he;subst he;rw[A09,A2a,A4x (by rw[h2.len];omega),A1D (by rw[h2.len];omega)];exact h2
 |a::es,xs,i+1,e,h,he=>by
  rw[U8]at h;obtain⟨c,r,rfl,h2,h3⟩:=h;rw[A0E]at he;have:=h3.get he;rw[A5V,A5J (by rw[h2.len];omega),Y5,h2.len,show (i+1) *15-15=i *15 by omega];exact this
abbrev A32 (d:Sp.Dg):List Value:= [nt d.fr,nt d.to,nt d.err,str d.name]
abbrev A2r (p:Sp.Par):List Value:= [str p.name,nt p.label,nt p.at_]
abbrev A2f (p:Sp.Rf):List Value:= [str p.name,nt p.at_]
abbrev A0P (k:Nat) (nm:List UInt8) (lb:Nat) (vp vs vb:Value) (a:Int) (sz mk:Nat) (vd:Value):List Value:= [nt k,str nm,nt lb,vp,vs,vb,.int .i64 a,nt sz,nt mk,vd]
def A5a (I:U0) (it:Sp.Itm) (cs:List Value):Prop:= ∃ap cp as_ cs' ab cb ad cd xb,cs=A0P it.kind it.name it.label (.slice ap it.params.length cp) (.slice as_ it.sends.length cs') (.slice ab it.body.length cb) it.at_ it.size it.mark (.slice ad it.diags.length cd)/\
 RowI I 65 3 (.slice ap it.params.length cp) it.params.length (it.params.flatMap A2r)/\RowI I 62 2 (.slice as_ it.sends.length cs') it.sends.length (it.sends.flatMap A2f)/\
 RowI I 109 15 (.slice ab it.body.length cb) it.body.length xb/\U8 I it.body xb/\RowI I 92 4 (.slice ad it.diags.length cd) it.diags.length (it.diags.flatMap A32)
theorem A5a.le {I I':U0} (m:Le I I') {it:Sp.Itm}{cs:List Value} (h:A5a I it cs):A5a I' it cs:=by
 obtain⟨ap,cp,as_,cs',ab,cb,ad,cd,xb,h1,h2,h3,h4,h5,h6⟩:=h;exact⟨ap,cp,as_,cs',ab,cb,ad,cd,xb,h1,h2.le m,h3.le m,h4.le m,h5.le m,h6.le m⟩
theorem A5a.len {I:U0}{it:Sp.Itm}{cs:List Value} (h:A5a I it cs):cs.length=10:=by
 obtain⟨_,_,_,_,_,_,_,_,_,rfl,_⟩:=h;rfl
def A3c (I:U0):List Sp.Itm->List Value->Prop
 | [],xs=>xs= []
 |e::es,xs=> ∃c r,xs=c++r/\A5a I e c/\A3c I es r
theorem A3c.le {I I':U0} (m:Le I I'):∀ {es:List Sp.Itm}{xs:List Value},A3c I es xs->A3c I' es xs
 | [],_,h=>h
 |_::_,_,⟨c,r,h1,h2,h3⟩=>⟨c,r,h1,h2.le m,h3.le m⟩
theorem A3c.snoc {I:U0}:∀ {es:List Sp.Itm}{xs c:List Value}{e:Sp.Itm},A3c I es xs->A5a I e c->A3c I (es++ [e]) (xs++c)
 | [],xs,c,e,h,he=>by
  obtain rfl:xs= []:=h;exact⟨c,[],by simp,he,rfl⟩
 |a::es,xs,c,e,⟨c1,r,e1,h2,h3⟩,he=>⟨c1,r++c,by rw[e1,Z9],h2,h3.snoc he⟩
theorem A3c.get {I:U0}:∀ {es:List Sp.Itm}{xs:List Value}{i:Nat}{e:Sp.Itm},A3c I es xs->es[i]?=some e->A5a I e ((xs.drop (i *10)).take 10)
 | [],_,_,_,_,he=>by simp at he
 |a::es,xs,0,e,h,he=>by
  obtain⟨c,r,rfl,h2,h3⟩:=h;simp only[A0S,U5]at he;subst he;rw[A09,A2a,A4x (by rw[h2.len];omega),A1D (by rw[h2.len];omega)];exact h2
 |a::es,xs,i+1,e,h,he=>by
  obtain⟨c,r,rfl,h2,h3⟩:=h;rw[A0E]at he;have:=h3.get he;rw[A5V,A5J (by rw[h2.len];omega),Y5,h2.len,show (i+1) *10-10=i *10 by omega];exact this
theorem A3c.len {I:U0}:∀ {es:List Sp.Itm}{xs:List Value},A3c I es xs->xs.length=es.length *10
 | [],xs,h=>by obtain rfl:xs= []:=h;rfl
 |e::es,xs,⟨c,r,e1,h2,h3⟩=>by
  rw[e1,Y4,h2.len,h3.len,X8,A1j];omega
theorem toNat_inj {a b:UInt8} (h:(a.toNat:Int)=b.toNat):a=b:=UInt8.toNat_inj.1 (by omega)
def A2O (t:Sp.Tok):List Value:= [.int .i64 (t.kind:Int),str t.text,.int .i64 (t.pos:Int)]
theorem B7G {s:List UInt8}{k:Nat} (h:k<s.length) (hf:A4h (s.getD k 0)=false):A8v s=false:=by
 have:s.all A4h=false:=by
  rw[Bool.eq_false_iff];intro h1;have:=(B3T _ _).1 h1 k h;rw[hf]at this;cases this
 simp[A8v,this]
def A2N (n:Nat):List Value:= [.int .i64 (n:Int)]
theorem B2O (l:List Sp.Tok) (k:Nat) (t:Sp.Tok) (h:l[k]?=some t) (j:Nat) (v:Value) (hv:(A2O t)[j]?=some v):(l.flatMap A2O)[k *3+j]?=some v:=by
 induction l generalizing k with
 |nil=>simp at h
 |cons a l ih=>
  have hj:j<3:=by
   have:=(Z8.1 hv).1;simpa[A2O] using this
  cases k with
  |zero=>
   simp at h
   subst h;rw[A0n,A3v (by simp[A2O];omega)];simpa using hv
  |succ k=>
   rw[A0n,A2G (by simp[A2O];omega)];have:=ih k (by simpa using h);rw[<-this]
   congr 1
   simp[A2O];omega
theorem A5y (s:List UInt8):(O6 s).length<=s.length:=by
 have key:∀(n k:Nat),s.length-k=n->(A3X s k).length<=n:=by
  intro n;induction n using Nat.strongRecOn with
  |_ n ih=>
   intro k hn;by_cases h:k<s.length
   ·have hl:=A4R (s.drop k) (by simp;omega)
    simp only[A06]at hl;have:=ih (s.length-(k+(Sp.one (s.drop k)).2)) (by omega) _ rfl;rw[A4e s k h,Y4];split
    ·simp;omega
    ·simp;omega
   ·rw[A4W s k (by omega)];simp
 have:=key _ 0 rfl;rw[A5x];simpa using this
structure Ok (T:Sp.Src):Prop where
 size:T.size<=1048576
 len:T.l.length<=T.size
 tok:∀t∈T.l,t.pos+t.text.length<=T.size
 len1:∀t∈T.l,1<=t.text.length
 dig:∀t∈T.l,t.kind=2->∀c∈t.text,48<=c.toNat/\c.toNat<=57
theorem Ok.at_ {T:Sp.Src} (h:Ok T) (i:Nat):(T.tok i).pos+(T.tok i).text.length<=T.size:=by
 rcases X3 i T.l.length with h1|h1
 ·rw[Sp.Src.tok,U2,G9 h1]
  exact h.tok _ (Q8 h1)
 ·rw[A4v h1];simp
theorem A24 {T:Sp.Src}{i:Nat} (h:i<T.l.length):T.l[i]?=some (T.tok i):=by
 rw[Sp.Src.tok,U2,G9 h];rfl
abbrev A2e (I:U0) (T:Sp.Src) (la:Option Addr) (lc:Nat):Prop:=RowI I 81 3 (.slice la T.l.length lc) T.l.length (T.l.flatMap A2O)
abbrev A26 (ds:List Sp.Dg) (da:Option Addr) (dc:Nat):HItem:=.row (.slice da ds.length dc) 92 4 ds.length (ds.flatMap A32)
theorem B44 (s:List UInt8) (h:s.length<=1048576):Ok ⟨O6 s,s.length⟩:=
 ⟨h,A5y s,fun t ht=>(A2l s t ht).fit,fun t ht=>(A2l s t ht).len,fun t ht hk=>B3O (A2l s t ht) hk⟩
end Go.Proofs
