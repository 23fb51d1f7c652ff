/- Own work: texts SpecCuts, SpecParse, SpecParse2, SpecParse3, SpecFile, SpecTree, TreeM, FwInt2, FwM4, FwMap, FwM5, FwD, FwS2, one behind the other. -/
import Derived.Test.YtfjdfdgpkncpfaaGreatDoorQb5
import Derived.Laws.BytesString
import Derived.Lib.ConvBytes
import Derived.Laws.AppendOwn
import Derived.MapKept
import Derived.Defers
set_option maxHeartbeats 64000000
section
namespace Go.Sp
theorem B7q (s:List UInt8):(one s).1≤4:=by
 cases s with
 |nil=>simp[one]
 |cons c r=>
  simp only[one]
  repeat' split
  all_goals simp
structure TokOk (s:List UInt8) (t:Tok):Prop where
 pos:t.pos<s.length
 len:1≤t.text.length
 fit:t.pos+t.text.length≤s.length
 text:t.text=(s.drop t.pos).take t.text.length
 one:t.kind=(one (s.drop t.pos)).1∧t.text.length=(one (s.drop t.pos)).2
 kind:1≤t.kind∧t.kind≤4
theorem A9s (s:List UInt8):∀(n k:Nat),s.length-k=n→∀t∈A2P s k,k≤t.pos∧TokOk s t:=by
 intro n
 induction n using Nat.strongRecOn with
 |_ n ih=>
  intro k hn t ht
  by_cases h:k<s.length
  ·rw[A26 s k h] at ht
   have hne:s.drop k≠ []:=by simp;omega
   have hl:=A3K _ hne
   simp only[List.length_drop] at hl
   rcases List.mem_append.1 ht with h1|h1
   ·split at h1
    ·rename_i hk
     simp at h1
     subst h1
     have hlen:((s.drop k).take (one (s.drop k)).2).length=(one (s.drop k)).2:=by simp;omega
     exact⟨Nat.le_refl _,⟨h,by rw[hlen];omega,by rw[hlen];dsimp only;omega,by rw[hlen],⟨rfl,hlen⟩,⟨hk,B7q _⟩⟩⟩
    ·simp at h1
   ·obtain⟨h2,h3⟩:=ih (s.length-(k+(one (s.drop k)).2)) (by omega) _ rfl t h1
    exact⟨by omega,h3⟩
  ·rw[A3U s k (by omega)] at ht
   simp at ht
theorem A1u (s:List UInt8) (t:Tok) (ht:t∈O3 s):TokOk s t:=by
 rw[A4E] at ht
 exact(A9s s _ 0 rfl t ht).2
theorem A9H (s:List UInt8):∀(n k:Nat),s.length-k=n→(A2P s k).Pairwise (fun a b=>a.pos+a.text.length≤b.pos):=by
 intro n
 induction n using Nat.strongRecOn with
 |_ n ih=>
  intro k hn
  by_cases h:k<s.length
  ·have hne:s.drop k≠ []:=by simp;omega
   have hl:=A3K _ hne
   simp only[List.length_drop] at hl
   have h1:=ih (s.length-(k+(one (s.drop k)).2)) (by omega) _ rfl
   rw[A26 s k h]
   split
   ·rw[List.singleton_append,List.pairwise_cons]
    refine⟨fun t ht=>?_,h1⟩
    have:=(A9s s _ _ rfl t ht).1
    simp;omega
   ·exact h1
  ·rw[A3U s k (by omega)];exact List.Pairwise.nil
theorem A2T (s:List UInt8):(O3 s).Pairwise (fun a b=>a.pos+a.text.length≤b.pos):=by rw[A4E];exact A9H s _ 0 rfl
def wFn:List UInt8:= [102,110]
def B73:List UInt8:= [99,104,97,110]
def A18 (s:List UInt8) (t:Tok):Bool:=decide (t.kind=1) && (decide (t.text=wFn)||decide (t.text=B73)) && (decide (t.pos=0)||decide ((s.getD (t.pos-1) 0).toNat=10))
def A0m (s:List UInt8) (acc:List Nat) (t:Tok):List Nat:=if A18 s t=true∨acc= [] then acc++ [t.pos] else acc
def U2 (s:List UInt8):List Nat:=(O3 s).foldl (A0m s) []
theorem A8O (s:List UInt8) (acc:List Nat) (t:Tok):A0m s acc t≠ []:=by
 unfold A0m
 split
 ·simp
 ·rename_i h;exact fun e=>h (.inr e)
theorem B1K (s:List UInt8) (acc:List Nat) (t:Tok):acc.length≤(A0m s acc t).length∧(A0m s acc t).length≤acc.length+1:=by
 unfold A0m
 split<;>simp
theorem B5p {α β:Type} (f:β→α→β) (b:β) (l:List α) (k:Nat) (a:α) (h:l[k]?=some a):(l.take (k+1)).foldl f b=f ((l.take k).foldl f b) a:=by
 rw[List.take_add_one,h]
 simp
theorem A4F (s:List UInt8):(O3 s).length≤s.length:=by
 have key:∀(n k:Nat),s.length-k=n→(A2P s k).length≤n:=by
  intro n
  induction n using Nat.strongRecOn with
  |_ n ih=>
   intro k hn
   by_cases h:k<s.length
   ·have hl:=A3K (s.drop k) (by simp;omega)
    simp only[List.length_drop] at hl
    have:=ih (s.length-(k+(one (s.drop k)).2)) (by omega) _ rfl
    rw[A26 s k h,List.length_append]
    split
    ·simp;omega
    ·simp;omega
   ·rw[A3U s k (by omega)];simp
 have:=key _ 0 rfl
 rw[A4E];simpa using this
inductive Ex where
 |mk (kind:Nat) (name:List UInt8) (n:Nat) (args:List Ex) (fr to:Nat)
inductive Stm where
 |mk (kind:Nat) (name:List UInt8) (at_ label:Nat) (opn:Bool) (e:Ex) (thn els:List Stm) (fr to:Nat)
structure Par where
 name:List UInt8
 label:Nat
 at_:Nat
structure Rf where
 name:List UInt8
 at_:Nat
structure Dg where
 fr:Nat
 to:Nat
 err:Nat
 name:List UInt8
structure Itm where
 kind:Nat
 name:List UInt8
 label:Nat
 params:List Par
 sends:List Rf
 body:List Stm
 at_:Int
 size:Nat
 mark:Nat
 diags:List Dg
instance :Inhabited Ex:=⟨.mk 0 [] 0 [] 0 0⟩
instance :Inhabited Stm:=⟨.mk 0 [] 0 0 false default [] [] 0 0⟩
def Ex.fr:Ex→Nat
 | .mk _ _ _ _ f _=>f
def Ex.to:Ex→Nat
 | .mk _ _ _ _ _ t=>t
structure Src where
 l:List Tok
 size:Nat
structure St where
 i:Nat
 ds:List Dg
def Src.tok (T:Src) (i:Nat):Tok:=T.l.getD i ⟨0,[],T.size⟩
def Src.is (T:Src) (i:Nat) (w:List UInt8):Bool:=decide (i<T.l.length) && decide ((T.tok i).text=w)
def Src.endOf (T:Src) (i:Nat):Nat:=if i=0 then 0 else (T.tok (i-1)).pos+(T.tok (i-1)).text.length
def St.bad (T:Src) (s:St) (e:Nat):St:= { s with ds:=s.ds++ [⟨(T.tok s.i).pos,(T.tok s.i).pos+(T.tok s.i).text.length,e,(T.tok s.i).text⟩]}
def St.next (s:St):St:= { s with i:=s.i+1}
def St.need (T:Src) (s:St) (w:List UInt8):Bool×St:=if T.is s.i w then (true,s.next) else (false,s.bad T 2)
def St.named (T:Src) (s:St):List UInt8×St:=
 if name (T.tok s.i).text then ((T.tok s.i).text,s.next) else
 if (T.tok s.i).kind=1 then ([],(s.bad T 7).next) else ([],s.bad T 2)
def B52 (t:List UInt8):Bool:=decide (t.length=1) && (decide (97≤(t.getD 0 0).toNat) && decide ((t.getD 0 0).toNat≤104))
def A8c (T:Src):Nat→Nat→St→Nat×St
 |0,n,s=>(n,s)
 |f+1,n,s=>
  if T.is s.i [125] then (n,s.next) else
  let t:=(T.tok s.i).text
  if !B52 t then (n,s.bad T 2) else
  let q:=(t.getD 0 0).toNat-97
  let s1:=if bit n q then s.bad T 7 else s
  let n1:=if bit n q then n else n+2 ^ q
  let s2:=s1.next
  if T.is s2.i [125] then A8c T f n1 s2 else
  if T.is s2.i [44] then A8c T f n1 s2.next else (n1,s2.bad T 2)
def lab (T:Src) (s:St):Nat×St:=
 if T.is s.i [123] then A8c T (T.l.length+1) 0 s.next else (0,s.bad T 2)
def A0l (t:List UInt8):Nat:=
 if t= [61]∨t= [60] then 1 else if t= [43]∨t= [45] then 2 else if t= [42] then 3 else 0
def A52 (T:Src) (s:St) (e:Nat):Ex×St:=(.mk 5 [] 0 [] (T.tok s.i).pos (T.tok s.i).pos,s.bad T e)
def A2l (t:List UInt8):Nat:=t.foldl (fun n c=>if n≤1000000000 then 10 *n+(c.toNat-48) else n) 0
mutual
def A1p (T:Src):Nat→Nat→St→Ex×St
 |0,_,s=>(default,s)
 |f+1,d,s=>
  let t:=T.tok s.i
  if T.l.length≤s.i then A52 T s 2 else
  if 12≤d then A52 T s 12 else
  if t.kind=2 then
   if 1000000000<A2l t.text then (.mk 1 [] 0 [] t.pos (t.pos+t.text.length),(s.bad T 3).next)
   else (.mk 1 [] (A2l t.text) [] t.pos (t.pos+t.text.length),s.next) else
  if t.text= [40] then
   let r:=Y2 T f (d+1) 1 s.next
   (r.1,(r.2.need T [41]).2) else
  if !name t.text then A52 T s 2 else
  if !T.is (s.i+1) [40] then (.mk 2 t.text 0 [] t.pos (t.pos+t.text.length),s.next) else
  let r:=A17 T f (d+1) [] s.next.next
  let s2:=(r.2.need T [41]).2
  (.mk 4 t.text 0 r.1 t.pos (T.endOf s2.i),s2)
def A17 (T:Src):Nat→Nat→List Ex→St→List Ex×St
 |0,_,l,s=>(l,s)
 |f+1,d,l,s=>
  if T.l.length≤s.i∨T.is s.i [41] then (l,s) else
  if l.length=5 then (l,s.bad T 5) else
  let r:=Y2 T f d 1 s
  if T.is r.2.i [44] then A17 T f d (l++ [r.1]) r.2.next else (l++ [r.1],r.2)
def Y2 (T:Src):Nat→Nat→Nat→St→Ex×St
 |0,_,_,s=>(default,s)
 |f+1,d,least,s=>
  let r:=A1p T f d s
  opL T f d least r.1 r.2
def opL (T:Src):Nat→Nat→Nat→Ex→St→Ex×St
 |0,_,_,e,s=>(e,s)
 |f+1,d,least,e,s=>
  let op:=(T.tok s.i).text
  if A0l op<least∨A0l op=0 then (e,s) else
  let r:=Y2 T f d (A0l op+1) s.next
  opL T f d least (.mk 3 op 0 [e,r.1] e.fr (max r.1.to e.to)) r.2
 end
mutual
def block (T:Src):Nat→Nat→St→List Stm×St
 |0,_,s=>([],s)
 |f+1,d,s=>
  if !T.is s.i [123] then ([],s.bad T 2) else
  if 12≤d then ([],s.next.bad T 12) else
  let r:=A2O T f (d+1) [] s.next
  (r.1,(r.2.need T [125]).2)
def A2O (T:Src):Nat→Nat→List Stm→St→List Stm×St
 |0,_,l,s=>(l,s)
 |f+1,d,l,s=>
  if T.l.length≤s.i∨T.is s.i [125] then (l,s) else
  if 40≤l.length then (l,s.bad T 5) else
  let r:=stm T f d s
  A2O T f d (l++ [r.1]) (if r.2.i=s.i then r.2.next else r.2)
def stm (T:Src):Nat→Nat→St→Stm×St
 |0,_,s=>(default,s)
 |f+1,d,s=>
  let t:=T.tok s.i
  let fr:=t.pos
  let fin (s:St):Nat:=max (T.endOf s.i) fr
  if t.text= [108,101,116] then
   let a:=(T.tok (s.i+1)).pos
   let r:=s.next.named T
   let opn:= !T.is r.2.i [58]
   let r1:=if opn then (0,r.2) else lab T r.2.next
   let s2:=(r1.2.need T [61]).2
   let r2:=Y2 T f d 1 s2
   let s3:=(r2.2.need T [59]).2
   (.mk 1 r.1 a r1.1 opn r2.1 [] [] fr (fin s3),s3) else
  if t.text= [105,102] then
   let r:=Y2 T f d 1 s.next
   let r1:=block T f d r.2
   if T.is r1.2.i [101,108,115,101] then
    let r2:=block T f d r1.2.next
    (.mk 3 [] 0 0 false r.1 r1.1 r2.1 fr (fin r2.2),r2.2)
   else (.mk 3 [] 0 0 false r.1 r1.1 [] fr (fin r1.2),r1.2) else
  if t.text= [119,104,105,108,101] then
   let r:=Y2 T f d 1 s.next
   let r1:=block T f d r.2
   (.mk 4 [] 0 0 false r.1 r1.1 [] fr (fin r1.2),r1.2) else
  if t.text= [115,101,110,100] then
   let a:=(T.tok (s.i+1)).pos
   let r:=s.next.named T
   let r2:=Y2 T f d 1 r.2
   let s3:=(r2.2.need T [59]).2
   (.mk 5 r.1 a 0 false r2.1 [] [] fr (fin s3),s3) else
  if t.text= [114,101,116,117,114,110] then
   let r2:=Y2 T f d 1 s.next
   let s3:=(r2.2.need T [59]).2
   (.mk 6 [] 0 0 false r2.1 [] [] fr (fin s3),s3) else
  if name t.text then
   if T.is (s.i+1) [61] then
    let r2:=Y2 T f d 1 s.next.next
    let s3:=(r2.2.need T [59]).2
    (.mk 2 t.text fr 0 false r2.1 [] [] fr (fin s3),s3)
   else
    let r2:=Y2 T f d 1 s
    let s3:=(r2.2.need T [59]).2
    (.mk 7 [] 0 0 false r2.1 [] [] fr (fin s3),s3) else
  (.mk 8 [] 0 0 false default [] [] fr (fin (s.bad T 2)),s.bad T 2)
 end
def A2v (T:Src):Nat→List Par→St→List Par×St
 |0,l,s=>(l,s)
 |f+1,l,s=>
  if T.l.length≤s.i∨T.is s.i [41] then (l,s) else
  if 5≤l.length then (l,s.bad T 5) else
  let a:=(T.tok s.i).pos
  let r:=s.named T
  let r1:=r.2.need T [58]
  if !r1.1 then (l,r1.2) else
  let r2:=lab T r1.2
  if T.is r2.2.i [44] then A2v T f (l++ [⟨r.1,r2.1,a⟩]) r2.2.next else (l++ [⟨r.1,r2.1,a⟩],r2.2)
def A2E (T:Src):Nat→List Rf→St→List Rf×St
 |0,l,s=>(l,s)
 |f+1,l,s=>
  if 5≤l.length then (l,s.bad T 5) else
  let a:=(T.tok s.i).pos
  let r:=s.named T
  if T.is r.2.i [44] then A2E T f (l++ [⟨r.1,a⟩]) r.2.next else (l++ [⟨r.1,a⟩],r.2)
def A4P (T:Src):Nat:=8 *T.l.length+64
def A4q (T:Src) (at_:Int) (size:Nat) (s:St):Itm×St:=
 let r:=s.named T
 let s1:=(r.2.need T [40]).2
 let r2:=A2v T 6 [] s1
 let s3:=(r2.2.need T [41]).2
 let s4:=(s3.need T [58]).2
 let r5:=lab T s4
 let r6:=if T.is r5.2.i [115,101,110,100,115] then A2E T 6 [] r5.2.next else ([],r5.2)
 let r7:=block T (A4P T) 0 r6.2
 (⟨2,r.1,r5.1,r2.1,r6.1,r7.1,at_,size,(T.tok s.i).pos,[]⟩,r7.2)
def A8N (T:Src) (at_:Int) (size:Nat) (s:St):Itm×St:=
 let r:=s.named T
 let s1:=(r.2.need T [58]).2
 let r2:=lab T s1
 let s3:=(r2.2.need T [59]).2
 (⟨1,r.1,r2.1,[],[],[],at_,size,(T.tok s.i).pos,[]⟩,s3)
def item (src:List UInt8) (at_:Int):Itm:=
 let T:Src:=⟨O3 src,src.length⟩
 let q:=if T.is 0 [102,110] then A4q T at_ src.length ⟨1,[]⟩ else if T.is 0 [99,104,97,110] then A8N T at_ src.length ⟨1,[]⟩ else
  (⟨3,[],0,[],[],[],at_,src.length,0,[]⟩, { ((⟨0,[]⟩:St).bad T 2) with i:=T.l.length})
 let s:=if q.2.i<T.l.length then q.2.bad T 2 else q.2
 { q.1 with diags:=s.ds}
structure Goes (T:Src) (k:Nat) (s r:St):Prop where
 le:s.i≤r.i
 top:s.i≤T.l.length→r.i≤T.l.length
 ds:r.ds.length+2 *s.i≤s.ds.length+2 *r.i+k
theorem Goes.refl (T:Src) (k:Nat) (s:St):Goes T k s s:=⟨Nat.le_refl _,id,by omega⟩
theorem Goes.mono {T:Src}{k k':Nat}{s r:St} (h:Goes T k s r) (hk:k≤k'):Goes T k' s r:=⟨h.le,h.top,by have:=h.ds;omega⟩
theorem Goes.trans {T:Src}{k k':Nat}{s r t:St} (h:Goes T k s r) (g:Goes T k' r t):Goes T (k+k') s t:=
 ⟨Nat.le_trans h.le g.le,fun x=>g.top (h.top x),by have:=h.ds;have:=g.ds;omega⟩
theorem A2h (T:Src) (s:St) (e:Nat):Goes T 1 s (s.bad T e):=⟨Nat.le_refl _,id,by simp[St.bad];omega⟩
theorem is_lt {T:Src}{i:Nat}{w:List UInt8} (h:T.is i w=true):i<T.l.length:=by
 simp only[Src.is,Bool.and_eq_true,decide_eq_true_eq] at h;exact h.1
theorem A2S {T:Src}{i:Nat} (h:T.l.length≤i):T.tok i=⟨0,[],T.size⟩:=by
 rw[Src.tok,List.getD_eq_getElem?_getD,List.getElem?_eq_none h];rfl
theorem A3m {t:List UInt8} (h:name t=true):t≠ []:=by rintro rfl;revert h;decide
theorem A0W {T:Src}{i:Nat} (h:(T.tok i).text≠ []):i<T.l.length:=by
 rcases Nat.lt_or_ge i T.l.length with h1|h1
 ·exact h1
 ·rw[A2S h1] at h;exact absurd rfl h
theorem A76 {T:Src}{i:Nat} (h:(T.tok i).kind≠0):i<T.l.length:=by
 rcases Nat.lt_or_ge i T.l.length with h1|h1
 ·exact h1
 ·rw[A2S h1] at h;exact absurd rfl h
theorem X6 (T:Src) (s:St) (w:List UInt8):Goes T 1 s (s.need T w).2:=by
 rw[St.need]
 split
 ·rename_i h
  have:=is_lt h
  exact⟨by simp[St.next],fun _=>by simp[St.next];omega,by simp[St.next];omega⟩
 ·exact A2h T s 2
theorem A0q (T:Src) (s:St):Goes T 1 s (s.named T).2:=by
 rw[St.named]
 split
 ·rename_i h
  have:=A0W (A3m h)
  exact⟨by simp[St.next],fun _=>by simp[St.next];omega,by simp[St.next];omega⟩
 ·split
  ·rename_i h
   have:=A76 (T:=T) (i:=s.i) (by omega)
   exact⟨by simp[St.next,St.bad],fun _=>by simp[St.next,St.bad];omega,by simp[St.next,St.bad];omega⟩
  ·exact A2h T s 2
theorem A7p (T:Src):∀(f n:Nat) (s:St),Goes T 1 s (A8c T f n s).2
 |0,n,s=>Goes.refl _ _ _
 |f+1,n,s=>by
  rw[A8c]
  split
  ·rename_i h
   have:=is_lt h
   exact⟨by simp[St.next],fun _=>by simp[St.next];omega,by simp[St.next];omega⟩
  ·dsimp only
   split
   ·exact A2h T s 2
   ·rename_i h1 h2
    have hlt:s.i<T.l.length:=A0W (by intro e;rw[e] at h2;revert h2;decide)
    have g1:∀s1:St,(s1=s∨s1=s.bad T 7)→s1.next.i=s.i+1∧s1.next.ds.length≤s.ds.length+1:=by
     rintro s1 (rfl|rfl)<;>simp[St.next,St.bad]
    have g2:=g1 (if bit n ((T.tok s.i).text.getD 0 0|>.toNat|>(· -97))=true then s.bad T 7 else s) (by split<;>simp)
    generalize (if bit n ((T.tok s.i).text.getD 0 0|>.toNat|>(· -97))=true then s.bad T 7 else s).next=s2 at g2
    generalize (if bit n ((T.tok s.i).text.getD 0 0|>.toNat|>(· -97))=true then n else n+2 ^ ((T.tok s.i).text.getD 0 0|>.toNat|>(· -97)))=n1
    split
    ·have ih:=A7p T f n1 s2
     exact⟨by have:=ih.le;omega,fun _=>ih.top (by omega),by have:=ih.ds;omega⟩
    ·split
     ·rename_i h5
      have h6:=is_lt h5
      have ih:=A7p T f n1 s2.next
      have e1:s2.next.i=s2.i+1:=rfl
      have e2:s2.next.ds=s2.ds:=rfl
      exact⟨by have:=ih.le;omega,fun _=>ih.top (by omega),by have:=ih.ds;rw[e2] at this;omega⟩
     ·have ih:=A2h T s2 2
      exact⟨by have:=ih.le;dsimp only;omega,fun _=>ih.top (by omega),by have:=ih.ds;dsimp only;omega⟩
theorem A2i (T:Src) (s:St):Goes T 1 s (lab T s).2:=by
 rw[lab]
 split
 ·rename_i h
  have:=is_lt h
  have ih:=A7p T (T.l.length+1) 0 s.next
  have e1:s.next.i=s.i+1:=rfl
  have e2:s.next.ds=s.ds:=rfl
  exact⟨by have:=ih.le;omega,fun _=>ih.top (by omega),by have:=ih.ds;rw[e2] at this;omega⟩
 ·exact A2h T s 2
theorem J7 (s:St):s.next.i=s.i+1:=rfl
theorem Y3 (s:St):s.next.ds=s.ds:=rfl
theorem A62 {t:List UInt8} (h:A0l t≠0):t≠ []:=by rintro rfl;exact h (by decide)
theorem A0c (T:Src):∀f,(∀d s,Goes T 1 s (A1p T f d s).2)∧(∀d l s,Goes T 1 s (A17 T f d l s).2)∧(∀d m s,Goes T 1 s (Y2 T f d m s).2)∧(∀d m e s,Goes T 0 s (opL T f d m e s).2)
 |0=>⟨fun _ _=>by rw[A1p];exact Goes.refl _ _ _,fun _ _ _=>by rw[A17];exact Goes.refl _ _ _,fun _ _ _=>by rw[Y2];exact Goes.refl _ _ _,fun _ _ _ _=>by rw[opL];exact Goes.refl _ _ _⟩
 |f+1=>by
  obtain⟨hA,hL,hE,hO⟩:=A0c T f
  refine⟨fun d s=>?_,fun d l s=>?_,fun d m s=>?_,fun d m e s=>?_⟩
  ·rw[A1p]
   dsimp only
   split
   ·exact A2h T s 2
   ·rename_i hlt
    split
    ·exact A2h T s 12
    ·split
     ·split
      ·exact⟨by simp[St.next,St.bad],fun _=>by simp[St.next,St.bad];omega,by simp[St.next,St.bad];omega⟩
      ·exact⟨by simp[St.next],fun _=>by simp[St.next];omega,by simp[St.next];omega⟩
     ·split
      ·have g:=(hE (d+1) 1 s.next).trans (X6 T (Y2 T f (d+1) 1 s.next).2 [41])
       have h1:=g.le
       have h2:=g.top
       have h3:=g.ds
       rw[J7] at h1 h2 h3
       rw[Y3] at h3
       exact⟨by dsimp only;omega,fun _=>h2 (by omega),by dsimp only;omega⟩
      ·split
       ·exact A2h T s 2
       ·split
        ·exact⟨by simp[St.next],fun _=>by simp[St.next];omega,by simp[St.next];omega⟩
        ·rename_i h5
         have h6:=is_lt (by simpa using h5:T.is (s.i+1) [40]=true)
         have g:=(hL (d+1) [] s.next.next).trans (X6 T (A17 T f (d+1) [] s.next.next).2 [41])
         have h1:=g.le
         have h2:=g.top
         have h3:=g.ds
         rw[J7,J7] at h1 h2 h3
         rw[Y3,Y3] at h3
         exact⟨by dsimp only;omega,fun _=>h2 (by omega),by dsimp only;omega⟩
  ·rw[A17]
   split
   ·exact Goes.refl _ _ _
   ·split
    ·exact A2h T s 5
    ·try dsimp only
     split
     ·rename_i h5
      have h6:=is_lt h5
      have g:=hE d 1 s
      have g2:=hL d (l++ [(Y2 T f d 1 s).1]) (Y2 T f d 1 s).2.next
      have h1:=g2.le
      have h2:=g2.top
      have h3:=g2.ds
      have:=g.le
      have:=g.ds
      rw[J7] at h1 h2 h3
      rw[Y3] at h3
      exact⟨by omega,fun _=>h2 (by omega),by omega⟩
     ·exact hE d 1 s
  ·rw[Y2]
   try dsimp only
   exact(hA d s).trans (hO d m (A1p T f d s).1 (A1p T f d s).2)
  ·rw[opL]
   try dsimp only
   split
   ·exact Goes.refl _ _ _
   ·rename_i h5
    have h6:s.i<T.l.length:=A0W (A62 (by omega))
    have g:=hE d (A0l (T.tok s.i).text+1) s.next
    have g2:=hO d m (.mk 3 (T.tok s.i).text 0 [e,(Y2 T f d (A0l (T.tok s.i).text+1) s.next).1] e.fr (max (Y2 T f d (A0l (T.tok s.i).text+1) s.next).1.to e.to)) (Y2 T f d (A0l (T.tok s.i).text+1) s.next).2
    have g3:=g.trans g2
    have h1:=g3.le
    have h2:=g3.top
    have h3:=g3.ds
    rw[J7] at h1 h2 h3
    rw[Y3] at h3
    exact⟨by omega,fun _=>h2 (by omega),by omega⟩
structure Goes8 (T:Src) (k:Nat) (s r:St):Prop where
 le:s.i≤r.i
 top:s.i≤T.l.length→r.i≤T.l.length
 ds:r.ds.length+8 *s.i≤s.ds.length+8 *r.i+k
theorem Goes.g8 {T:Src}{k:Nat}{s r:St} (h:Goes T k s r):Goes8 T k s r:=⟨h.le,h.top,by have:=h.ds;have:=h.le;omega⟩
theorem Goes8.trans {T:Src}{k k':Nat}{s r t:St} (h:Goes8 T k s r) (g:Goes8 T k' r t):Goes8 T (k+k') s t:=
 ⟨Nat.le_trans h.le g.le,fun x=>g.top (h.top x),by have:=h.ds;have:=g.ds;omega⟩
theorem Goes8.mono {T:Src}{k k':Nat}{s r:St} (h:Goes8 T k s r) (hk:k≤k'):Goes8 T k' s r:=⟨h.le,h.top,by have:=h.ds;omega⟩
theorem Goes8.refl (T:Src) (k:Nat) (s:St):Goes8 T k s s:=⟨Nat.le_refl _,id,by omega⟩
theorem A6I {T:Src}{k:Nat}{s r:St} (hi:s.i<T.l.length) (h:Goes8 T (k+8) s.next r):Goes8 T k s r:=by
 obtain⟨h1,h2,h3⟩:=h
 rw[J7] at h1 h2 h3
 rw[Y3] at h3
 exact⟨by omega,fun _=>h2 (by omega),by omega⟩
theorem A7n (T:Src) (f d m:Nat) (s:St):Goes8 T 1 s (Y2 T f d m s).2:=((A0c T f).2.2.1 d m s).g8
theorem A7o (T:Src) (s:St) (w:List UInt8):Goes8 T 1 s (s.need T w).2:=(X6 T s w).g8
theorem B4x (T:Src) (s:St):Goes8 T 1 s (s.named T).2:=(A0q T s).g8
theorem C04 (T:Src) (s:St):Goes8 T 1 s (lab T s).2:=(A2i T s).g8
theorem B6Y (T:Src) (s:St) (e:Nat):Goes8 T 1 s (s.bad T e):=(A2h T s e).g8
structure StG (T:Src) (s r:St):Prop where
 le:s.i≤r.i
 top:s.i≤T.l.length→r.i≤T.l.length
 ds0:r.i=s.i→r.ds.length≤s.ds.length+2
 ds1:s.i<r.i→r.ds.length+8 *s.i≤s.ds.length+8 *r.i
theorem A3R {T:Src}{k:Nat}{s r:St} (hi:s.i<T.l.length) (h:Goes8 T k s.next r) (hk:k≤8):StG T s r:=by
 obtain⟨h1,h2,h3⟩:=h
 rw[J7] at h1 h2 h3
 rw[Y3] at h3
 exact⟨by omega,fun _=>h2 (by omega),fun _=>by omega,fun _=>by omega⟩
theorem A0N (T:Src):∀f,(∀d s,Goes8 T 1 s (block T f d s).2)∧(∀d l s,Goes8 T 1 s (A2O T f d l s).2)∧(∀d s,StG T s (stm T f d s).2)
 |0=>⟨fun _ _=>by rw[block];exact Goes8.refl _ _ _,fun _ _ _=>by rw[A2O];exact Goes8.refl _ _ _,fun _ s=>by rw[stm];exact⟨Nat.le_refl _,id,fun _=>by simp,fun _=>by simp⟩⟩
 |f+1=>by
  obtain⟨hB,hL,hS⟩:=A0N T f
  refine⟨fun d s=>?_,fun d l s=>?_,fun d s=>?_⟩
  ·rw[block]
   split
   ·exact(B6Y T s 2).mono (by omega)
   ·rename_i h
    have hi:=is_lt (by simpa using h:T.is s.i [123]=true)
    split
    ·exact A6I hi ((B6Y T s.next 12).mono (by omega))
    ·dsimp only
     exact A6I hi (((hL (d+1) [] s.next).trans (A7o T _ [125])).mono (by omega))
  ·rw[A2O]
   split
   ·exact Goes8.refl _ _ _
   ·rename_i h
    have hi:s.i<T.l.length:=by omega
    split
    ·exact B6Y T s 5
    ·dsimp only
     have g:=hS d s
     have h1:=g.le
     have h2:=g.top
     have h3:=g.ds0
     have h4:=g.ds1
     split
     ·rename_i he
      have g2:=hL d (l++ [(stm T f d s).1]) (stm T f d s).2.next
      have k1:=g2.le
      have k2:=g2.top
      have k3:=g2.ds
      rw[J7] at k1 k2 k3
      rw[Y3] at k3
      have h5:=h3 he
      exact⟨by omega,fun _=>k2 (by omega),by omega⟩
     ·rename_i he
      have g2:=hL d (l++ [(stm T f d s).1]) (stm T f d s).2
      have k1:=g2.le
      have k2:=g2.top
      have k3:=g2.ds
      have h5:=h4 (by omega)
      exact⟨by omega,fun _=>k2 (by omega),by omega⟩
  ·rw[stm]
   dsimp only
   have hlt:∀t:List UInt8,t≠ []→(T.tok s.i).text=t→s.i<T.l.length:=fun t ht e=>A0W (by rw[e];exact ht)
   split
   ·rename_i h
    refine A3R (hlt _ (by simp) h) (k:=5) ?_ (by omega)
    have g1:=B4x T s.next
    have g2:Goes8 T 1 (s.next.named T).2 (if (!T.is (s.next.named T).2.i [58])=true then ((0:Nat),(s.next.named T).2) else lab T (s.next.named T).2.next).2:=by
     split
     ·exact Goes8.refl _ _ _
     ·rename_i h5
      exact A6I (is_lt (by simpa using h5:T.is (s.next.named T).2.i [58]=true)) ((C04 T _).mono (by omega))
    exact(((g1.trans g2).trans (A7o T _ _)).trans (A7n T f d 1 _)).trans (A7o T _ _)
   ·split
    ·rename_i h
     have g1:=(A7n T f d 1 s.next).trans (hB d (Y2 T f d 1 s.next).2)
     split
     ·rename_i h5
      refine A3R (hlt _ (by simp) h) (k:=3) ?_ (by omega)
      exact g1.trans (A6I (k:=1) (is_lt h5) ((hB d _).mono (by omega)))
     ·exact A3R (hlt _ (by simp) h) g1 (by omega)
    ·split
     ·rename_i h
      exact A3R (hlt _ (by simp) h) ((A7n T f d 1 s.next).trans (hB d (Y2 T f d 1 s.next).2)) (by omega)
     ·split
      ·rename_i h
       exact A3R (hlt _ (by simp) h) (((B4x T s.next).trans (A7n T f d 1 _)).trans (A7o T _ _)) (by omega)
      ·split
       ·rename_i h
        exact A3R (hlt _ (by simp) h) ((A7n T f d 1 s.next).trans (A7o T _ _)) (by omega)
       ·split
        ·rename_i h
         have hi:=A0W (A3m h)
         split
         ·rename_i h5
          have h6:=is_lt h5
          exact A3R hi (A6I (k:=0) h6 (((A7n T f d 1 s.next.next).trans (A7o T _ [59])).mono (by omega))) (by omega)
         ·have g:=((A0c T f).2.2.1 d 1 s).trans (X6 T (Y2 T f d 1 s).2 [59])
          have h1:=g.le
          have h2:=g.top
          have h3:=g.ds
          refine⟨h1,h2,fun h=>?_,fun h=>?_⟩<;>dsimp only at h ⊢ <;>omega
        ·exact⟨Nat.le_refl _,id,fun _=>by simp[St.bad],fun h=>by simp[St.bad] at h⟩
def A0y (s:List UInt8) (cs:List Nat) (i:Nat):List UInt8:=(s.drop (cs.getD i 0)).take (cs.getD (i+1) s.length-cs.getD i 0)
def A1L (s:List UInt8) (cs:List Nat) (i:Nat):Itm:=item (A0y s cs i) (cs.getD i 0)
def A3j (s:List UInt8) (cs:List Nat):List Itm:=(List.range cs.length).map (A1L s cs)
def Y5 (s:List UInt8):Nat:=if s.length>4000 then 4 else if (U2 s).length>30 then 5 else 0
def H8 (s:List UInt8):List Itm:=if Y5 s=0 then A3j s (U2 s) else []
theorem A6B (s:List UInt8):∀(l:List Tok) (acc:List Nat),∃r,l.foldl (A0m s) acc=acc++r∧r.Sublist (l.map (·.pos))
 | [],acc=>⟨[],by simp,by simp⟩
 |t::l,acc=>by
  rw[List.foldl_cons,A0m]
  split
  ·obtain⟨r,h1,h2⟩:=A6B s l (acc++ [t.pos])
   exact⟨t.pos::r,by rw[h1];simp,by rw[List.map_cons];exact h2.cons_cons _⟩
  ·obtain⟨r,h1,h2⟩:=A6B s l acc
   exact⟨r,h1,by rw[List.map_cons];exact h2.cons _⟩
theorem A7S (s:List UInt8):(U2 s).Pairwise (· < ·)∧∀x∈U2 s,x<s.length:=by
 obtain⟨r,h1,h2⟩:=A6B s (O3 s) []
 have e:U2 s=r:=by rw[U2,h1];simp
 rw[e]
 refine⟨List.Pairwise.sublist h2 ?_,fun x hx=>?_⟩
 ·rw[List.pairwise_map]
  have h3:=A2T s
  rw[List.pairwise_iff_getElem] at h3 ⊢
  intro i j hi hj hij
  have h4:=h3 i j hi hj hij
  have h5:=(A1u s _ (List.getElem_mem hi)).len
  omega
 ·have:=h2.subset hx
  obtain⟨t,ht,rfl⟩:=List.mem_map.1 this
  exact(A1u s t ht).pos
theorem A32 (s:List UInt8) {i:Nat} (h:i<(U2 s).length):(U2 s).getD i 0<(U2 s).getD (i+1) s.length∧(U2 s).getD (i+1) s.length≤s.length:=by
 obtain⟨h1,h2⟩:=A7S s
 have e1:(U2 s).getD i 0=(U2 s)[i]:=by rw[List.getD_eq_getElem?_getD,List.getElem?_eq_getElem h];rfl
 have h3:=h2 _ (List.getElem_mem h)
 rw[e1]
 rcases Nat.lt_or_ge (i+1) (U2 s).length with h4|h4
 ·have e2:(U2 s).getD (i+1) s.length=(U2 s)[i+1]:=by rw[List.getD_eq_getElem?_getD,List.getElem?_eq_getElem h4];rfl
  rw[e2]
  exact⟨List.pairwise_iff_getElem.1 h1 i (i+1) h h4 (by omega),Nat.le_of_lt (h2 _ (List.getElem_mem h4))⟩
 ·have e2:(U2 s).getD (i+1) s.length=s.length:=by rw[List.getD_eq_getElem?_getD,List.getElem?_eq_none h4];rfl
  rw[e2]
  exact⟨h3,Nat.le_refl _⟩
theorem B3r (s:List UInt8) (cs:List Nat) (k:Nat):(List.range (k+1)).map (A1L s cs)=(List.range k).map (A1L s cs)++ [A1L s cs k]:=by
 rw[List.range_succ,List.map_append];rfl
def Ex.kind:Ex→Nat
 | .mk k _ _ _ _ _=>k
def Ex.name:Ex→List UInt8
 | .mk _ n _ _ _ _=>n
def Ex.n:Ex→Nat
 | .mk _ _ n _ _ _=>n
def Ex.args:Ex→List Ex
 | .mk _ _ _ a _ _=>a
def Stm.kind:Stm→Nat
 | .mk k _ _ _ _ _ _ _ _ _=>k
def Stm.name:Stm→List UInt8
 | .mk _ n _ _ _ _ _ _ _ _=>n
def Stm.at_:Stm→Nat
 | .mk _ _ a _ _ _ _ _ _ _=>a
def Stm.label:Stm→Nat
 | .mk _ _ _ l _ _ _ _ _ _=>l
def Stm.opn:Stm→Bool
 | .mk _ _ _ _ o _ _ _ _ _=>o
def Stm.e:Stm→Ex
 | .mk _ _ _ _ _ e _ _ _ _=>e
def Stm.thn:Stm→List Stm
 | .mk _ _ _ _ _ _ t _ _ _=>t
def Stm.els:Stm→List Stm
 | .mk _ _ _ _ _ _ _ e _ _=>e
def Stm.fr:Stm→Nat
 | .mk _ _ _ _ _ _ _ _ f _=>f
def Stm.to:Stm→Nat
 | .mk _ _ _ _ _ _ _ _ _ t=>t
def A3H (T:Src) (at_:Int) (size:Nat):Itm×St:=
 if T.is 0 [102,110]=true then A4q T at_ size ⟨1,[]⟩ else if T.is 0 [99,104,97,110]=true then A8N T at_ size ⟨1,[]⟩ else
  (⟨3,[],0,[],[],[],at_,size,0,[]⟩, { ((⟨0,[]⟩:St).bad T 2) with i:=T.l.length})
def B4A (T:Src) (q:Itm×St):Itm:= { q.1 with diags:=(if q.2.i<T.l.length then q.2.bad T 2 else q.2).ds}
theorem A6L (src:List UInt8) (at_:Int):item src at_=B4A ⟨O3 src,src.length⟩ (A3H ⟨O3 src,src.length⟩ at_ src.length):=rfl
end Go.Sp
end
section
namespace Go.Proofs.YtfjdfdgpkncpfaaGreatDoor
open Go.Fw
abbrev ptr (b:Nat):Value:=.pointer (some ⟨b,0,none⟩)
abbrev nt (n:Nat):Value:=.int .i64 (n:Int)
mutual
def A4f (I:O5):Sp.Ex→List Value→Prop
 | .mk k nm n args f t,cs=> ∃a cap xs,cs= [nt k,str nm,nt n,.slice a args.length cap,nt f,nt t]∧RowI I 107 6 (.slice a args.length cap) args.length xs∧V5 I args xs
def V5 (I:O5):List Sp.Ex→List Value→Prop
 | [],xs=>xs= []
 |e::es,xs=> ∃c r,xs=c++r∧A4f I e c∧V5 I es r
 end
mutual
theorem A4f.le {I I':O5} (m:Le I I'):∀(e:Sp.Ex) (cs:List Value),A4f I e cs→A4f I' e cs
 | .mk k nm n args f t,cs,h=>by
  rw[A4f] at h ⊢
  obtain⟨a,cap,xs,h1,h2,h3⟩:=h
  exact⟨a,cap,xs,h1,h2.le m,V5.le m _ _ h3⟩
theorem V5.le {I I':O5} (m:Le I I'):∀(es:List Sp.Ex) (xs:List Value),V5 I es xs→V5 I' es xs
 | [],xs,h=>by rw[V5] at h ⊢;exact h
 |e::es,xs,h=>by
  rw[V5] at h ⊢
  obtain⟨c,r,h1,h2,h3⟩:=h
  exact⟨c,r,h1,A4f.le m _ _ h2,V5.le m _ _ h3⟩
 end
theorem A4f.out {I:O5}{e:Sp.Ex}{cs:List Value} (h:A4f I e cs):
  ∃a cap xs,cs= [nt e.kind,str e.name,nt e.n,.slice a e.args.length cap,nt e.fr,nt e.to]∧RowI I 107 6 (.slice a e.args.length cap) e.args.length xs∧V5 I e.args xs:=by
 cases e with
 |mk k nm n args f t=>rw[A4f] at h;exact h
theorem A4f.of {I:O5}{k n f t cap:Nat}{nm:List UInt8}{a:Option Addr}{args:List Sp.Ex}{xs:List Value} (h2:RowI I 107 6 (.slice a args.length cap) args.length xs) (h3:V5 I args xs):
  A4f I (.mk k nm n args f t) [nt k,str nm,nt n,.slice a args.length cap,nt f,nt t]:=by
 rw[A4f];exact⟨a,cap,xs,rfl,h2,h3⟩
theorem A4f.len {I:O5}{e:Sp.Ex}{cs:List Value} (h:A4f I e cs):cs.length=6:=by
 obtain⟨_,_,_,rfl,_⟩:=h.out;rfl
theorem V5.len {I:O5}:∀ {es:List Sp.Ex}{xs:List Value},V5 I es xs→xs.length=es.length *6
 | [],xs,h=>by rw[V5] at h;simp[h]
 |e::es,xs,h=>by
  rw[V5] at h
  obtain⟨c,r,rfl,h2,h3⟩:=h
  rw[List.length_append,h2.len,h3.len,List.length_cons,Nat.add_mul];omega
theorem V5.nil {I:O5}:V5 I [] []:=by rw[V5]
theorem V5.snoc {I:O5}:∀ {es:List Sp.Ex}{xs c:List Value}{e:Sp.Ex},V5 I es xs→A4f I e c→V5 I (es++ [e]) (xs++c)
 | [],xs,c,e,h,he=>by
  rw[V5] at h
  subst h
  rw[List.nil_append,List.nil_append,V5]
  exact⟨c,[],by simp,he,by rw[V5]⟩
 |a::es,xs,c,e,h,he=>by
  rw[V5] at h
  obtain⟨c1,r,rfl,h2,h3⟩:=h
  rw[List.cons_append,V5]
  exact⟨c1,r++c,by rw[List.append_assoc],h2,h3.snoc he⟩
theorem V5.get {I:O5}:∀ {es:List Sp.Ex}{xs:List Value}{i:Nat}{e:Sp.Ex},V5 I es xs→es[i]?=some e→A4f I e ((xs.drop (i *6)).take 6)
 | [],_,_,_,_,he=>by simp at he
 |a::es,xs,0,e,h,he=>by
  rw[V5] at h
  obtain⟨c,r,rfl,h2,h3⟩:=h
  simp only[List.getElem?_cons_zero,Option.some.injEq] at he
  subst he
  rw[Nat.zero_mul,List.drop_zero,List.take_append_of_le_length (by rw[h2.len];omega),List.take_of_length_le (by rw[h2.len];omega)]
  exact h2
 |a::es,xs,i+1,e,h,he=>by
  rw[V5] at h
  obtain⟨c,r,rfl,h2,h3⟩:=h
  rw[List.getElem?_cons_succ] at he
  have:=h3.get he
  rw[List.drop_append,List.drop_of_length_le (by rw[h2.len];omega),List.nil_append,h2.len,show (i+1) *6-6=i *6 by omega]
  exact this
end Go.Proofs.YtfjdfdgpkncpfaaGreatDoor
namespace Go.Proofs.YtfjdfdgpkncpfaaGreatDoor
open Go.Fw
abbrev A44 (k:Nat) (nm:List UInt8) (a lb:Nat) (o:Bool) (e:Sp.Ex) (ea:Option Addr) (ec:Nat) (v1 v2:Value) (f t:Nat):List Value:=
 [nt k,str nm,nt a,nt lb,.bool o,nt e.kind,str e.name,nt e.n,.slice ea e.args.length ec,nt e.fr,nt e.to,v1,v2,nt f,nt t]
mutual
def A29 (I:O5):Sp.Stm→List Value→Prop
 | .mk k nm a lb o e thn els f t,cs=> ∃ea ec ex a1 c1 xs1 a2 c2 xs2,cs=A44 k nm a lb o e ea ec (.slice a1 thn.length c1) (.slice a2 els.length c2) f t∧
  RowI I 107 6 (.slice ea e.args.length ec) e.args.length ex∧V5 I e.args ex∧
  RowI I 109 15 (.slice a1 thn.length c1) thn.length xs1∧U8 I thn xs1∧RowI I 109 15 (.slice a2 els.length c2) els.length xs2∧U8 I els xs2
def U8 (I:O5):List Sp.Stm→List Value→Prop
 | [],xs=>xs= []
 |e::es,xs=> ∃c r,xs=c++r∧A29 I e c∧U8 I es r
 end
mutual
theorem A29.le {I I':O5} (m:Le I I'):∀(e:Sp.Stm) (cs:List Value),A29 I e cs→A29 I' e cs
 | .mk k nm a lb o e thn els f t,cs,h=>by
  rw[A29] at h ⊢
  obtain⟨ea,ec,ex,a1,c1,xs1,a2,c2,xs2,h1,h2,h3,h4,h5,h6,h7⟩:=h
  exact⟨ea,ec,ex,a1,c1,xs1,a2,c2,xs2,h1,h2.le m,V5.le m _ _ h3,h4.le m,U8.le m _ _ h5,h6.le m,U8.le m _ _ h7⟩
theorem U8.le {I I':O5} (m:Le I I'):∀(es:List Sp.Stm) (xs:List Value),U8 I es xs→U8 I' es xs
 | [],xs,h=>by rw[U8] at h ⊢;exact h
 |e::es,xs,h=>by
  rw[U8] at h ⊢
  obtain⟨c,r,h1,h2,h3⟩:=h
  exact⟨c,r,h1,A29.le m _ _ h2,U8.le m _ _ h3⟩
 end
theorem A29.out {I:O5}{s:Sp.Stm}{cs:List Value} (h:A29 I s cs):∃ea ec ex a1 c1 xs1 a2 c2 xs2,cs=A44 s.kind s.name s.at_ s.label s.opn s.e ea ec (.slice a1 s.thn.length c1) (.slice a2 s.els.length c2) s.fr s.to∧
  RowI I 107 6 (.slice ea s.e.args.length ec) s.e.args.length ex∧V5 I s.e.args ex∧
  RowI I 109 15 (.slice a1 s.thn.length c1) s.thn.length xs1∧U8 I s.thn xs1∧RowI I 109 15 (.slice a2 s.els.length c2) s.els.length xs2∧U8 I s.els xs2:=by
 cases s with
 |mk k nm a lb o e thn els f t=>rw[A29] at h;exact h
theorem A29.of {I:O5}{k a lb f t ec c1 c2:Nat}{nm:List UInt8}{o:Bool}{e:Sp.Ex}{thn els:List Sp.Stm}{ea a1 a2:Option Addr}{ex xs1 xs2:List Value}
  (h2:RowI I 107 6 (.slice ea e.args.length ec) e.args.length ex) (h3:V5 I e.args ex)
  (h4:RowI I 109 15 (.slice a1 thn.length c1) thn.length xs1) (h5:U8 I thn xs1) (h6:RowI I 109 15 (.slice a2 els.length c2) els.length xs2) (h7:U8 I els xs2):
  A29 I (.mk k nm a lb o e thn els f t) (A44 k nm a lb o e ea ec (.slice a1 thn.length c1) (.slice a2 els.length c2) f t):=by
 rw[A29];exact⟨ea,ec,ex,a1,c1,xs1,a2,c2,xs2,rfl,h2,h3,h4,h5,h6,h7⟩
theorem A29.len {I:O5}{e:Sp.Stm}{cs:List Value} (h:A29 I e cs):cs.length=15:=by
 obtain⟨_,_,_,_,_,_,_,_,_,rfl,_⟩:=h.out;rfl
theorem U8.len {I:O5}:∀ {es:List Sp.Stm}{xs:List Value},U8 I es xs→xs.length=es.length *15
 | [],xs,h=>by rw[U8] at h;simp[h]
 |e::es,xs,h=>by
  rw[U8] at h
  obtain⟨c,r,rfl,h2,h3⟩:=h
  rw[List.length_append,h2.len,h3.len,List.length_cons,Nat.add_mul];omega
theorem U8.nil {I:O5}:U8 I [] []:=by rw[U8]
theorem U8.snoc {I:O5}:∀ {es:List Sp.Stm}{xs c:List Value}{e:Sp.Stm},U8 I es xs→A29 I e c→U8 I (es++ [e]) (xs++c)
 | [],xs,c,e,h,he=>by
  rw[U8] at h
  subst h
  rw[List.nil_append,List.nil_append,U8]
  exact⟨c,[],by simp,he,by rw[U8]⟩
 |a::es,xs,c,e,h,he=>by
  rw[U8] at h
  obtain⟨c1,r,rfl,h2,h3⟩:=h
  rw[List.cons_append,U8]
  exact⟨c1,r++c,by rw[List.append_assoc],h2,h3.snoc he⟩
theorem U8.get {I:O5}:∀ {es:List Sp.Stm}{xs:List Value}{i:Nat}{e:Sp.Stm},U8 I es xs→es[i]?=some e→A29 I e ((xs.drop (i *15)).take 15)
 | [],_,_,_,_,he=>by simp at he
 |a::es,xs,0,e,h,he=>by
  rw[U8] at h
  obtain⟨c,r,rfl,h2,h3⟩:=h
  simp only[List.getElem?_cons_zero,Option.some.injEq] at he
  subst he
  rw[Nat.zero_mul,List.drop_zero,List.take_append_of_le_length (by rw[h2.len];omega),List.take_of_length_le (by rw[h2.len];omega)]
  exact h2
 |a::es,xs,i+1,e,h,he=>by
  rw[U8] at h
  obtain⟨c,r,rfl,h2,h3⟩:=h
  rw[List.getElem?_cons_succ] at he
  have:=h3.get he
  rw[List.drop_append,List.drop_of_length_le (by rw[h2.len];omega),List.nil_append,h2.len,show (i+1) *15-15=i *15 by omega]
  exact this
abbrev A3w (d:Sp.Dg):List Value:= [nt d.fr,nt d.to,nt d.err,str d.name]
abbrev A2a (p:Sp.Par):List Value:= [str p.name,nt p.label,nt p.at_]
abbrev A1v (p:Sp.Rf):List Value:= [str p.name,nt p.at_]
abbrev A1m (k:Nat) (nm:List UInt8) (lb:Nat) (vp vs vb:Value) (a:Int) (sz mk:Nat) (vd:Value):List Value:= [nt k,str nm,nt lb,vp,vs,vb,.int .i64 a,nt sz,nt mk,vd]
def A5g (I:O5) (it:Sp.Itm) (cs:List Value):Prop:= ∃ap cp as_ cs' ab cb ad cd xb,cs=A1m it.kind it.name it.label (.slice ap it.params.length cp) (.slice as_ it.sends.length cs') (.slice ab it.body.length cb) it.at_ it.size it.mark (.slice ad it.diags.length cd)∧
 RowI I 65 3 (.slice ap it.params.length cp) it.params.length (it.params.flatMap A2a)∧RowI I 62 2 (.slice as_ it.sends.length cs') it.sends.length (it.sends.flatMap A1v)∧
 RowI I 109 15 (.slice ab it.body.length cb) it.body.length xb∧U8 I it.body xb∧RowI I 92 4 (.slice ad it.diags.length cd) it.diags.length (it.diags.flatMap A3w)
theorem A5g.le {I I':O5} (m:Le I I') {it:Sp.Itm}{cs:List Value} (h:A5g I it cs):A5g I' it cs:=by
 obtain⟨ap,cp,as_,cs',ab,cb,ad,cd,xb,h1,h2,h3,h4,h5,h6⟩:=h
 exact⟨ap,cp,as_,cs',ab,cb,ad,cd,xb,h1,h2.le m,h3.le m,h4.le m,h5.le m,h6.le m⟩
theorem A5g.len {I:O5}{it:Sp.Itm}{cs:List Value} (h:A5g I it cs):cs.length=10:=by
 obtain⟨_,_,_,_,_,_,_,_,_,rfl,_⟩:=h;rfl
def A3f (I:O5):List Sp.Itm→List Value→Prop
 | [],xs=>xs= []
 |e::es,xs=> ∃c r,xs=c++r∧A5g I e c∧A3f I es r
theorem A3f.le {I I':O5} (m:Le I I'):∀ {es:List Sp.Itm}{xs:List Value},A3f I es xs→A3f I' es xs
 | [],_,h=>h
 |_::_,_,⟨c,r,h1,h2,h3⟩=>⟨c,r,h1,h2.le m,h3.le m⟩
theorem A3f.snoc {I:O5}:∀ {es:List Sp.Itm}{xs c:List Value}{e:Sp.Itm},A3f I es xs→A5g I e c→A3f I (es++ [e]) (xs++c)
 | [],xs,c,e,h,he=>by
  obtain rfl:xs= []:=h
  exact⟨c,[],by simp,he,rfl⟩
 |a::es,xs,c,e,⟨c1,r,e1,h2,h3⟩,he=>⟨c1,r++c,by rw[e1,List.append_assoc],h2,h3.snoc he⟩
theorem A3f.get {I:O5}:∀ {es:List Sp.Itm}{xs:List Value}{i:Nat}{e:Sp.Itm},A3f I es xs→es[i]?=some e→A5g I e ((xs.drop (i *10)).take 10)
 | [],_,_,_,_,he=>by simp at he
 |a::es,xs,0,e,h,he=>by
  obtain⟨c,r,rfl,h2,h3⟩:=h
  simp only[List.getElem?_cons_zero,Option.some.injEq] at he
  subst he
  rw[Nat.zero_mul,List.drop_zero,List.take_append_of_le_length (by rw[h2.len];omega),List.take_of_length_le (by rw[h2.len];omega)]
  exact h2
 |a::es,xs,i+1,e,h,he=>by
  obtain⟨c,r,rfl,h2,h3⟩:=h
  rw[List.getElem?_cons_succ] at he
  have:=h3.get he
  rw[List.drop_append,List.drop_of_length_le (by rw[h2.len];omega),List.nil_append,h2.len,show (i+1) *10-10=i *10 by omega]
  exact this
theorem A3f.len {I:O5}:∀ {es:List Sp.Itm}{xs:List Value},A3f I es xs→xs.length=es.length *10
 | [],xs,h=>by obtain rfl:xs= []:=h;rfl
 |e::es,xs,⟨c,r,e1,h2,h3⟩=>by
  rw[e1,List.length_append,h2.len,h3.len,List.length_cons,Nat.add_mul];omega
end Go.Proofs.YtfjdfdgpkncpfaaGreatDoor
end
section
namespace Go.Fw
open Go
section
variable {P:Program}{N:Nat}{ds:List Deferred}{Q:Exit→Act→World→Prop}{l l':Log}{w w':World}{ops:Array Oper}{os:List Oper}{o:Oper}
variable {d:Nat}{ty:TypeId}{pos:String}{af:Array Edge}{g:Option (Nat×Bool)}{t t':TypeId}{x y:Operand}{ik:IntKind}
theorem Kept.of_below {w w':World} (h:RowKit.Below w.heap.size w w'):Kept [] w w':=⟨h.os,h.tape,h.output,h.size,fun k hk _=>h.block k hk⟩
end
section
variable {P:Program}{N:Nat}{ds:List Deferred}{Q:Exit→Act→World→Prop}{K:Act→World→Prop}{l l':Log}{w w':World}{ops:Array Oper}{os:List Oper}{o:Oper}
variable {d:Nat}{ty:TypeId}{pos:String}{af:Array Edge}{g:Option (Nat×Bool)}{t t':TypeId}{x y z:Operand}
variable {E:Ent}{I I':O5}{H H' R:List HItem}
theorem A65 {α:Type}{c:Code} (id:Nat) (L:α→Log) (J:α→World→Prop)
  (h:WC P N ds c (Exit.inBlock id (Exit.then (fun a w=> ∃x,Fits N ds (L x) a∧J x w) Q)) l w) (k:∀x w,J x w→At N ds Q .normal (L x) w):WC P N ds (.block id c) Q l w:=
 ⟨fun a ha=>wp_mono ((E9 h).run a ha) (fun e a w q=>by
  cases e<;>first|exact q|(obtain⟨x,hx,hj⟩:=q;exact(k x w hj).run a hx))⟩
theorem Mem.take {ty sz n:Nat}{v:Value}{xs:List Value} (hm:Mem E I H w) (k:Kept [] w w') (ho:w'.ownsRow w.heap.size ty sz v n xs):∃I',Le I I'∧Mem E I' H w'∧RowI I' ty sz v n xs:=
 (hm.add (x:=.row v ty sz n xs) k (A3p ho (Nat.zero_le _)) (fun b hb=>(ho.lt b hb).1)).freeze
theorem Mem.fresh (hm:Mem E I H w) (k:Kept [] w w') {b:Nat}{o:Obj} (hb:w.heap.size≤b) (ho:w'.heap[b]?=some o):Le I (I.add b o)∧Mem E (I.add b o) H w':=by
 have hf:=hm.inv.fresh hb
 refine⟨Le.add hf,(hm.kept0 k).freezeB ho hf (.inr (Nat.le_trans hm.kept.size hb)) (fun h hh e=>?_)⟩
 have:=(hm.ok h hh).lt e
 omega
theorem B25 (w:World) (e:TypeId) (s:ByteArray):Kept [] w (Lib.bytesWorld w e s):=
 ⟨rfl,rfl,rfl,by rw[Lib.bytesWorld_size];omega,fun k hk _=>Lib.bytesWorld_at_old w e s k hk⟩
theorem B0D {e:TypeId}{sz by_ n:Nat} [TySlice P t e] [Elem P e sz by_] {ps:List (Nat×Operand)}{vs:List (Nat×Value)}{xs:List Value} (k:∀I' a w',Le I I'→Mem E I' H w'→RowI I' e sz (.slice a n n) n xs→WL P N ds ops Q os ((d,.slice a n n)::l) w') (hm:Mem E I H w)
  (hw:P7 ops l ⟨some d,.buildSlice t n ps.toArray,ty,pos,af,g⟩=some true:=by rfl) (hN:Nat.blt d N=true:=by rfl) (hx:evp l ps=some vs:=by rfl)
  (hi:vs.map (·.1)=List.range' 0 n:=by rfl) (hs:vs.all (fun p=>Nat.beq p.2.cells.toList.length sz)=true:=by rfl) (hn:Nat.ble (n *sz) 16777216=true:=by rfl) (hxs:vs.flatMap (·.2.cells.toList)=xs:=by rfl)
   :
  WL P N ds ops Q (⟨some d,.buildSlice t n ps.toArray,ty,pos,af,g⟩::os) l w:=by
 subst hxs
 refine A4h hw hN hx hi hs (Nat.le_of_ble_eq_true hn) (fun b w' hb hh hk=>?_)
 obtain⟨h1,h2⟩:=hm.fresh hk (Nat.le_of_eq hb.symm) hh
 refine k _ _ w' h1 h2 ⟨?_,_,_,rfl,Nat.le_refl _,fun _=>⟨b,0,_,(_,_),rfl,O5.add_self _ _ _,fun j u hj=>by rw[Nat.zero_add];simpa using hj⟩⟩
 have hlen:vs.length=n:=by have:=congrArg List.length hi;simpa using this
 have key:∀(vs:List (Nat×Value)),vs.all (fun p=>Nat.beq p.2.cells.toList.length sz)=true→(vs.flatMap (·.2.cells.toList)).length=vs.length *sz:=by
  intro vs
  induction vs with
  |nil=>intro _;simp
  |cons p vs ih=>
   intro h
   rw[List.all_cons,Bool.and_eq_true] at h
   rw[List.flatMap_cons,List.length_append,ih h.2,Nat.eq_of_beq_eq_true h.1,List.length_cons,Nat.add_mul];omega
 rw[key vs hs,hlen]
end
abbrev A2H:=List (List UInt8×Value)
def A7h (es:A2H) (n:Nat):List MapEntry:=(es.zipIdx n).map (fun p=> { key:=str p.1.1,val:=p.1.2,born:=p.2})
class TyMap (P:Program) (t:TypeId) (k e:outParam TypeId):Prop where out:P.underlying t=some (.map k e)
structure MapAt (w:World) (b:Nat) (es:A2H):Prop where
 out:w.heap[b]?=some (.map (A7h es 0).toArray es.length)
 nodup:(es.map (·.1)).Nodup
theorem A7X (s:List UInt8):∀(es:A2H) (n m:Nat),Instr.findNow .string (str s) (A7h es n) m=some ((es.findIdx? (fun p=>decide (p.1=s))).bind (fun i=>(es[i]?).map (fun p=>(m+i,p.2))))
 | [],n,m=>rfl
 |(u,v)::es,n,m=>by
  have ih:=A7X s es (n+1) (m+1)
  simp only[A7h,List.zipIdx_cons,List.map_cons,Instr.findNow,Instr.sameNow] at ih ⊢
  have e1:((⟨s.toArray⟩:ByteArray)==⟨u.toArray⟩)=decide (u=s):=by
   rw[show ((⟨s.toArray⟩:ByteArray)==⟨u.toArray⟩)=(s.toArray==u.toArray) from rfl,Bool.eq_iff_iff]
   constructor
   ·intro h
    have h2:s=u:=by simpa using h
    exact decide_eq_true h2.symm
   ·intro h
    rw[of_decide_eq_true h]
    simp
  rw[e1,List.findIdx?_cons]
  cases hd:decide (u=s) with
  |true=>simp
  |false=>
   simp only
   rw[ih]
   congr 1
   cases hf:es.findIdx? (fun p=>decide (p.1=s)) with
   |none=>simp
   |some i=>simp[Nat.add_comm,Nat.add_left_comm]
section
variable {P:Program}{N:Nat}{ds:List Deferred}{Q:Exit→Act→World→Prop}{l l':Log}{w w':World}{ops:Array Oper}{os:List Oper}{o:Oper}
variable {d:Nat}{ty:TypeId}{pos:String}{af:Array Edge}{g:Option (Nat×Bool)}{t t':TypeId}{x y z:Operand}
theorem B3D (hw:P7 ops l ⟨some d,.makeMap t none,ty,pos,af,g⟩=some true) (hN:Nat.blt d N=true)
  (k:∀b w',b=w.heap.size→MapAt w' b []→Kept [] w w'→WL P N ds ops Q os ((d,.map (some b))::l) w'):
  WL P N ds ops Q (⟨some d,.makeMap t none,ty,pos,af,g⟩::os) l w:=
 O9 (w':=w.alloc (.map #[] 0)) rfl hw hN (fun a ha=>by
  simp[execOp,Instr.makeMap,newObj];rfl) (k w.heap.size _ rfl ⟨heap_alloc_new w _,by simp⟩ (Kept.alloc w _))
def B9v (es:A2H) (s:List UInt8) (z:Value):Value:=((es.find? (fun p=>decide (p.1=s))).map (·.2)).getD z
theorem B6T (es:A2H) (s:List UInt8):(es.findIdx? (fun p=>decide (p.1=s))).bind (fun i=>(es[i]?).map (·.2))=(es.find? (fun p=>decide (p.1=s))).map (·.2):=by
 induction es with
 |nil=>rfl
 |cons p es ih=>
  rw[List.findIdx?_cons,List.find?_cons]
  cases hd:decide (p.1=s) with
  |true=>simp
  |false=>
   simp only[Bool.false_eq_true,if_false]
   rw[←ih]
   cases es.findIdx? (fun p=>decide (p.1=s))<;>simp
theorem B2E {kt:TypeId} (hk:P.underlying kt=some .string) (s:List UInt8) (es:A2H) (n:Nat):
  (Instr.findKey kt (str s) (A7h es n)).run P w=.ok ((es.findIdx? (fun p=>decide (p.1=s))).bind (fun i=>(es[i]?).map (fun p=>(0+i,p.2)))) w:=by
 have h1:=run_underlying (P:=P) (w:=w) hk
 simp only[Instr.findKey,Sem.run_bind,h1,Result.andThen_ok,A7X]
 simp
theorem B02 {kt:TypeId} (hk:P.underlying kt=some .string) (s:List UInt8) (b:Bool):(Instr.checkKey b 10000 kt (str s)).run P w=.ok () w:=by
 have h1:=run_underlying (P:=P) (w:=w) hk
 show (Instr.checkKey b (9999+1) kt (str s)).run P w=.ok () w
 rw[Instr.checkKey]
 simp[h1]
end
abbrev HItem.mp (b:Nat) (es:A2H):HItem:=.obj b (.map (A7h es 0).toArray es.length)
section
variable {P:Program}{N:Nat}{ds:List Deferred}{Q:Exit→Act→World→Prop}{K:Act→World→Prop}{l l':Log}{w w':World}{ops:Array Oper}{os:List Oper}{o:Oper}
variable {d:Nat}{ty:TypeId}{pos:String}{af:Array Edge}{g:Option (Nat×Bool)}{t t':TypeId}{x y z:Operand}
variable {E:Ent}{I I':O5}{H H' R:List HItem}
theorem B5A (k:∀b w',Mem E I (.mp b []::H) w'→WL P N ds ops Q os ((d,.map (some b))::l) w') (hm:Mem E I H w) (hw:P7 ops l ⟨some d,.makeMap t none,ty,pos,af,g⟩=some true:=by rfl) (hN:Nat.blt d N=true:=by rfl)
   :
  WL P N ds ops Q (⟨some d,.makeMap t none,ty,pos,af,g⟩::os) l w:=
 B3D hw hN (fun b w' hb hmp hk=>k b w' (hm.add hk (by exact hmp.out) (fun b' hb'=>by simp only[HItem.blk,Option.some.injEq] at hb';omega)))
end
section
variable {P:Program}{N:Nat}{ds:List Deferred}{Q:Exit→Act→World→Prop}{K:Act→World→Prop}{l l':Log}{w w':World}{ops:Array Oper}{os:List Oper}{o:Oper}
variable {d:Nat}{ty:TypeId}{pos:String}{af:Array Edge}{g:Option (Nat×Bool)}{t t':TypeId}{x y z:Operand}
variable {E:Ent}{I I':O5}{H H' R:List HItem}
structure CalD (P:Program) (f:FuncId) (args:Array Value) (w:World) (Post:World→Prop):Prop where
 run:CallsD P f args .returning w (fun e u' w'=>u'=.returning∧Ret (fun _ w'=>Post w') e w')
theorem B6A {f:FuncId}{fn:Func}{c:Code}{args:Array Value}{Post:World→Prop} (hf:P.funcs[f]?=some fn) (hb:fn.body=some c)
  (l:Log) (hl:∀t v,lk l t=some v→args[t]?=some v) (hN:N=args.size+(fn.ntmps-args.size))
  (h:WC P N [] c (bodyPost P fn (Ret (fun _ w=>Post w))) l w):CalD P f args w Post:=
 ⟨callsD_of_wp hf hb (h.run _ (by rw[hN];exact A6d _ _ _ hl))⟩
theorem A1b {f:FuncId}{fn:Func}{c:Code}{args:Array Value}{Post:Value→World→Prop} (hf:P.funcs[f]?=some fn) (hb:fn.body=some c)
  (l:Log) (hl:∀t v,lk l t=some v→args[t]?=some v) (hN:N=args.size+(fn.ntmps-args.size))
  (h:WC P N [] c (bodyPostD P fn (Ret Post)) l w):Cal P f args w Post:=
 ⟨calls_of_wp_defers hf hb (h.run _ (by rw[hN];exact A6d _ _ _ hl))⟩
theorem A3L {f:FuncId}{caps:Array Value}{dst:Option Nat} (k:WL P N (⟨.fn (.func f) caps, #[]⟩::ds) ops Q os l w) (hd:dst=none:=by rfl) (hw:P7 ops l ⟨dst,.defer ⟨.value x, #[], #[]⟩,ty,pos,af,g⟩=some true:=by rfl)
  (hx:ev l x=some (.func (.func f) #[] caps):=by rfl)  :WL P N ds ops Q (⟨dst,.defer ⟨.value x, #[], #[]⟩,ty,pos,af,g⟩::os) l w:=
 B46 hw fun a ha=>by
  subst hd
  have h1:=ha.ev hx
  simp only[Oper.wp,execOp,resolve,Deferred.ofValue,h1,Sem.run_bind,Sem.run_pure,Result.andThen_ok,Oper.upon_defer,Act.put]
  refine k.run _ ⟨ha.size,?_,ha.vals⟩
  simp[ha.defs]
theorem B0r {fn:Func}{tr n b:Nat}{tc:TypeId} [TyAgg P tc n] {f:FuncId} [Own P f] {caps:Array Value}{Post:Value→World→Prop} (hr:fn.results= #[.cell tr tc])
  (hx:lk l tr=some (.pointer (some ⟨b,0,none⟩))) {Pd:World→Prop} (hc:CalD P f caps w Pd)
  (hp:∀w',Pd w'→∃(c:List Value) (e:TypeId) (fr:Nat×Nat),w'.heap[b]?=some (.cells c.toArray e fr)∧c.length=n∧Post (.agg c.toArray) w'):At N [⟨.fn (.func f) caps, #[]⟩] (bodyPostD P fn (Ret Post)) .ret l w:=
 ⟨fun a ha=>by
  show Leaves P fn a.tmps (Ret Post) a.defers .returning w
  rw[ha.defs]
  refine leaves_cons (by simp) (f:=f) (args:=caps) (by simp[invoke,A1g]) (hc.run.mono (fun e u' w' ⟨h1,h2⟩=>?_))
  subst h1
  cases e with
  |returned v=>
   obtain⟨c,e,fr,h3,h4,h5⟩:=hp w' h2
   exact⟨_,A4W hr a.tmps w' (ha.vals tr _ hx) (A23 h3 h4 (fun j v hv=>by simpa using hv)),h5⟩
  |panicked c=>exact h2.elim
  |outgrown=>exact h2.elim⟩
theorem B1D {fn:Func}{tr:Nat}{v:Value}{f:FuncId} [Own P f] {caps:Array Value}{Post:Value→World→Prop} (hr:fn.results= #[.tmp tr])
  (hx:lk l tr=some v) {Pd:World→Prop} (hc:CalD P f caps w Pd) (hp:∀w',Pd w'→Post v w'):At N [⟨.fn (.func f) caps, #[]⟩] (bodyPostD P fn (Ret Post)) .ret l w:=
 ⟨fun a ha=>by
  show Leaves P fn a.tmps (Ret Post) a.defers .returning w
  rw[ha.defs]
  refine leaves_cons (by simp) (f:=f) (args:=caps) (by simp[invoke,A1g]) (hc.run.mono (fun e u' w' ⟨h1,h2⟩=>?_))
  subst h1
  cases e with
  |returned _=>exact⟨v,by rw[results_tmp hr];simp[Array.getD_eq_getD_getElem?,ha.vals tr _ hx],hp w' h2⟩
  |panicked c=>exact h2.elim
  |outgrown=>exact h2.elim⟩
theorem A6y {fn:Func}{tr:Nat}{v:Value}{Post:Value→World→Prop} (h:Post v w) (hr:fn.results= #[.tmp tr]:=by rfl) (hx:lk l tr=some v:=by rfl)  :
  At N [] (bodyPostD P fn (Ret Post)) .ret l w:=
 ⟨fun a ha=>by
  show Leaves P fn a.tmps (Ret Post) a.defers .returning w
  rw[ha.defs]
  exact⟨v,by rw[results_tmp hr];simp[Array.getD_eq_getD_getElem?,ha.vals tr _ hx],h⟩⟩
theorem A5V {fn:Func}{i tr n b:Nat}{tc:TypeId} [TyAgg P tc n] {c:List Value}{e:TypeId}{fr:Nat×Nat}{Post:Value→World→Prop} (h:Post (.agg c.toArray) w) (hm:Mem E I H w) (hr:fn.results= #[.cell tr tc]:=by rfl)
  (hx:lk l tr=some (.pointer (some ⟨b,0,none⟩)):=by rfl) (hb:H[i]?=some (.obj b (.cells c.toArray e fr)):=by first|exact gt0|exact gt1|exact gt2|exact gt3|exact gt4|exact gt5|exact gt6) (hl:c.length=n:=by rfl)
   :At N [] (bodyPostD P fn (Ret Post)) .ret l w:=
 ⟨fun a ha=>by
  show Leaves P fn a.tmps (Ret Post) a.defers .returning w
  rw[ha.defs]
  exact⟨_,A4W hr a.tmps w (ha.vals tr _ hx) (A23 (hm.get hb) hl (fun j v hv=>by simpa using hv)),h⟩⟩
theorem B2e {fn:Func}{i tr n b:Nat}{tc:TypeId} [TyAgg P tc n] {c:List Value}{e:TypeId}{fr:Nat×Nat}{f:FuncId} [Own P f] {caps:Array Value}{Post:Value→World→Prop} (hr:fn.results= #[.cell tr tc])
  (hx:lk l tr=some (.pointer (some ⟨b,0,none⟩))) (hc:CalD P f caps w (fun w'=>Mem E I H' w')) (hb:H'[i]?=some (.obj b (.cells c.toArray e fr))) (hl:c.length=n)
  (h:∀w',Mem E I H' w'→Post (.agg c.toArray) w'):At N [⟨.fn (.func f) caps, #[]⟩] (bodyPostD P fn (Ret Post)) .ret l w:=
 B0r hr hx hc (fun w' hm=>⟨c,e,fr,hm.get hb,hl,h w' hm⟩)
end
section
variable {P:Program}{N:Nat}{ds:List Deferred}{Q:Exit→Act→World→Prop}{K:Act→World→Prop}{KV:Act→Prop}{l l':Log}{w w' w0 wd:World}{ops:Array Oper}{os os' tail:List Oper}{o:Oper}
variable {d:Nat}{ty:TypeId}{pos:String}{af:Array Edge}{g:Option (Nat×Bool)}{t t':TypeId}{x y z:Operand}
variable {E:Ent}{I I' I0:O5}{H H' R G:List HItem}{X:List Nat}
theorem Y0 [Mixed P] {id:Nat} (hm:Mem E I (G++R) w) (q n:Nat) (hB:B4T os.toArray q n=true:=by kernel_rfl)
  (h:∀wd,Mem E I (G++R) wd→Mem ⟨wd,A1a G,I⟩ I G wd→WV P N ds os.toArray (A1a G) wd (fun a'=>A2d P os.toArray (fun w'=>Kept (A1a G) wd w') (fun a' w'=>wpList P os.toArray Q (os.drop n) a' w') ((os.drop q).take (n-q)) a' wd) (os.take q) l):
  WC P N ds (.region id os.toArray true) Q l w:=
 B9j q n (A1a G) hB (fun wd hk=>h wd (hm.kept0 hk) (hm.kept0 hk).sub)
theorem Mem.notG (hR:Mem E I (G++R) w) {i:Nat}{h:HItem} (hi:R[i]?=some h) {b:Nat} (hb:h.blk=some b):b∉A1a G:=fun hx=>by
 obtain⟨k,hk,hkb⟩:=A6Q hx
 exact(List.pairwise_append.1 hR.dist).2.2 k hk h (List.mem_of_getElem? hi) b hkb hb
theorem Mem.notGI (hR:Mem E I (G++R) w) {b:Nat}{o:Obj} (hb:I b=some o):b∉A1a G:=fun hx=>by
 obtain⟨k,hk,hkb⟩:=A6Q hx
 have:=hR.free k (List.mem_append_left _ hk) b hkb
 rw[hb] at this;cases this
theorem Y7 [TyOne P t] {i b off:Nat}{c:List Value}{e:TypeId}{fr:Nat×Nat}{v:Value} (k:WV P N ds ops (A1a G) w KV os ((d,v)::l)) (hR:Mem E I (G++R) w) (hw:P7 ops l ⟨some d,.load t x,ty,pos,af,g⟩=some true:=by rfl) (hN:Nat.blt d N=true:=by rfl)
  (hx:ev l x=some (.pointer (some ⟨b,off,none⟩)):=by rfl) (hb:R[i]?=some (.obj b (.cells c.toArray e fr)):=by first|exact gt0|exact gt1|exact gt2|exact gt3|exact gt4|exact gt5|exact gt6) (hc:c[off]?=some v:=by rfl)
   :WV P N ds ops (A1a G) w KV (⟨some d,.load t x,ty,pos,af,g⟩::os) l:=
 B44 hw hN hx (hR.right.get hb) (hR.notG hb rfl) (by simpa using hc) k
theorem A6k {n:Nat} [TyAgg P t n] {i b:Nat}{c:List Value}{e:TypeId}{fr:Nat×Nat} (k:WV P N ds ops (A1a G) w KV os ((d,.agg c.toArray)::l)) (hR:Mem E I (G++R) w) (hw:P7 ops l ⟨some d,.load t x,ty,pos,af,g⟩=some true:=by rfl) (hN:Nat.blt d N=true:=by rfl)
  (hx:ev l x=some (.pointer (some ⟨b,0,none⟩)):=by rfl) (hb:R[i]?=some (.obj b (.cells c.toArray e fr)):=by first|exact gt0|exact gt1|exact gt2|exact gt3|exact gt4|exact gt5|exact gt6) (hl:c.length=n:=by rfl)
   :WV P N ds ops (A1a G) w KV (⟨some d,.load t x,ty,pos,af,g⟩::os) l:=
 B1h hw hN hx (hR.right.get hb) (hR.notG hb rfl) hl (fun j v hv=>by simpa using hv) k
theorem A0C [TyOne P t] {b off j tc:Nat}{cs:List Value}{v:Value} (k:WV P N ds ops (A1a G) w KV os ((d,v)::l)) (hR:Mem E I (G++R) w) (hw:P7 ops l ⟨some d,.load t x,ty,pos,af,g⟩=some true:=by rfl) (hN:Nat.blt d N=true:=by rfl)
  (hx:ev l x=some (.pointer (some ⟨b,off+j,none⟩)):=by rfl) (hp:PtrI I b off tc cs:=by assumption) (hc:cs[j]?=some v:=by rfl)
   :WV P N ds ops (A1a G) w KV (⟨some d,.load t x,ty,pos,af,g⟩::os) l:=by
 obtain⟨c,fr,h1,h2⟩:=hp
 exact B44 hw hN hx (hR.inv _ _ h1) (hR.notGI h1) (h2 j v hc) k
theorem Z7 {f:FuncId} [Own P f] {xs:List Operand}{tys:Array TypeId}{vs:List Value}{Post:Value→O5→List HItem→Prop} (k:∀v I' H' w',Post v I' H'→Le I I'→Mem ⟨w0,X,I0⟩ I' (H'++R) w'→WS P N ds ops Q X w0 os' tail ((d,v)::l) w') (hm:Mem ⟨w0,X,I0⟩ I G w)
  (hw:P7 ops l ⟨some d,.call ⟨.value (.func f),xs.toArray,tys⟩,ty,pos,af,g⟩=some true:=by rfl) (hN:Nat.blt d N=true:=by rfl)
  (hx:evs l xs=some vs:=by rfl) (hp:G.Perm (H++R):=by first|exact pm0|exact pm1_0|exact pm1_1|exact pm1_2|exact pm1_3|exact pm2_0|exact pm2_1|exact pm2_2|exact pm2_3|exact pm2_4|exact pm3_0|exact pm3_1|exact pm3_2) (hc:CalM P f vs.toArray I H Post)
   :
  WS P N ds ops Q X w0 (⟨some d,.call ⟨.value (.func f),xs.toArray,tys⟩,ty,pos,af,g⟩::os') tail l w:=
 B2Z rfl hw hN (fun a ha=>by
  have:=ha.evs hx
  simp[execOp,resolve,invoke,Act.eval,Deferred.ofValue,this,A1g]) (hc.run w (hm.perm hp).sub) (fun v w' ⟨I',H',h1,h2⟩=>
   have hm':=(hm.perm hp).back h2
   ⟨hm'.kept,k v I' H' w' h1 h2.le hm'⟩)
theorem A1N {e:TypeId}{sz by_:Nat} [TySlice P t e] [Elem P e sz by_] {d1 i:Nat}{s:Operand}{v u:Value}{n:Nat}{xs us:List Value}
  {ty':TypeId}{pos':String}{af':Array Edge} (k:∀a cp b1 w',Mem ⟨w0,X,I0⟩ I (H.set i (.row (.slice a (n+1) cp) e sz (n+1) (xs++us))) w'→WL P N ds ops Q tail ((d,.slice a (n+1) cp)::(d1,.slice (some ⟨b1,0,none⟩) 1 1)::l) w') (hm:Mem ⟨w0,X,I0⟩ I H w) (hN1:Nat.blt d1 N=true:=by rfl) (hN:Nat.blt d N=true:=by rfl)
  (hs:ev l s=some v:=by rfl) (hne:A51 s d1=true:=by rfl) (hx:ev l x=some u:=by rfl) (hi:H[i]?=some (.row v e sz n xs):=by first|exact gt0|exact gt1|exact gt2|exact gt3|exact gt4|exact gt5|exact gt6) (hus:u.cells.toList=us:=by rfl) (hu:us.length=sz:=by rfl) (h1:us.all (·.oneCell')=true:=by rfl)
  (hsz:Nat.ble sz 1024=true:=by rfl) (hlen:(n+1) *by_≤140737488355328:=by omega) (h63:n+1≤9223372036854775807:=by omega)
   :
  WS P N ds ops Q X w0 [⟨some d1,.buildSlice t 1 #[(0,x)],ty,pos,af,none⟩,⟨some d,.call ⟨.builtin .append, #[s,.tmp d1], #[t,t]⟩,ty',pos',af',none⟩] tail l w:=by
 subst hus
 obtain⟨i',z,hi',hz,hs',hby,hzc,hpos⟩:=Elem.out (P:=P) (e:=e)
 have h6:=fun w=>run_underlying (P:=P) (w:=w) (TySlice.out (P:=P) (t:=t))
 have hs2:ev ((d1,.slice (some ⟨w.heap.size,0,none⟩) 1 1)::l) s=some v:=B6B hne hs
 have hown:=hm.getRow hi
 have hu':u.cells.size=sz:=by simpa using hu
 have hown2:(w.alloc (.cells u.cells e (0,0))).ownsRow 0 e sz v n xs:=hown.alloc _
 obtain⟨v',w',hr,ho,hk,hb⟩:=A4Y (P:=P) (t:=t) hown2 ⟨w.heap.size,0,none⟩ 1 1 u.cells.toList (by simp[hu']) (fun j r hj=>by
   rw[Addr.add_lit];exact A1A (heap_alloc_new w _) (by simpa using hj)) (fun r hr=>List.all_eq_true.1 h1 r hr) h63 hlen (by simp) ty'
 have hk2:Kept v.ownBlock.toList w w':=((Kept.alloc w _).mono (fun _ h=>by cases h)).trans hk
 have hb2:v'.ownBlock=v.ownBlock∨∃g,v'.ownBlock=some g∧w.heap.size≤g:=hb.imp_right fun ⟨g,h1,h2⟩=>⟨g,h1,by simp at h2;omega⟩
 have hm':=hm.turn (h':=.row v' e sz (n+1) (xs++u.cells.toList)) hi hk2 ho hb2
 refine A28 (w':=w.alloc (.cells u.cells e (0,0))) (v:=.slice (some ⟨w.heap.size,0,none⟩) 1 1) rfl rfl hN1 (fun a ha=>?_) (hm.kept.step0 (Kept.alloc w _)) ?_
 ·have hz0:¬(2 ^ 24<sz):=by have:=Nat.le_of_ble_eq_true hsz;omega
  have hz1:¬(sz=0):=by omega
  have hf:=B1V hu' ((Array.range sz).map (z.cells[· % z.cells.size]!)) (by simp)
  simp[execOp,Instr.buildSlice,h6,sizeOf,typeInfo,hi',hs',zeroValue,hz,ha.ev hx,hz0,hz1,hf,newRow,newObj]
  rfl
 ·refine A28 (w':=w') (v:=v') rfl rfl hN (fun a ha=>?_) hm'.kept (A1l ?_)
  ·have e1:=ha.ev hs2
   have e2:a.eval (.tmp d1)=.slice (some ⟨w.heap.size,0,none⟩) 1 1:=ha.ev (by simp[ev,lk])
   simp[execOp,resolve,invoke,builtin,e1,e2,hr]
  ·have hlt:i<H.length:=(List.getElem?_eq_some_iff.1 hi).1
   obtain⟨a,cp,rfl⟩:=A3o (hm'.getRow (i:=i) (by rw[List.getElem?_set];simp[hlt];exact⟨rfl,rfl,rfl,rfl,rfl⟩))
   exact k a cp _ w' hm'
end
end Go.Fw
end
