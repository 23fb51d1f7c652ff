/- Own work. -/
import Derived.Test.YtbmbnippbldmfaaGreatDoorRa3
import Derived.Test.YtbmbnippbldmfaaGreatDoorProg
import Derived.KernelRfl
set_option maxHeartbeats 64000000
namespace Go.Sp
def bit (n k:Nat):Bool:=decide (n / 2 ^ k % 2=1)
theorem C95 (n k:Nat):bit n k=n.testBit k:=by
 rw[bit,Nat.testBit_eq_decide_div_mod_eq]
def A1i (a b:Nat):Bool:=(List.range 8).all (fun k=> !bit a k||bit b k)
theorem C4L {a b:Nat} (ha:a<256) (hb:b<256) (h:∀k,k<8->a.testBit k=b.testBit k):a=b:=by
 apply Nat.eq_of_testBit_eq
 intro k;by_cases hk:k<8
 ·exact h k hk
 ·have h1:2 ^ 8<=2 ^ k:=Nat.pow_le_pow_right (by omega) (by omega)
  rw[Nat.testBit_lt_two_pow (by omega),Nat.testBit_lt_two_pow (by omega)]
theorem A2A (a b:Nat):A1i a b=true↔ ∀k,k<8->a.testBit k=true->b.testBit k=true:=by
 simp only[A1i,A2O,A1P,C95];constructor
 ·intro h k hk ha;have:=h k hk;rw[ha]at this;simpa using this
 ·intro h k hk
  cases ha:a.testBit k
  ·rfl
  ·rw[h k hk ha];rfl
theorem C91 {a b:Nat} (ha:a<256):a &&& b<256:=Nat.lt_of_le_of_lt Nat.and_le_left ha
theorem B3h {a b:Nat} (ha:a<256) (hb:b<256):a|||b<256:=Nat.or_lt_two_pow (n:=8) ha hb
theorem C1U {a b:Nat} (ha:a<256) (hb:b<256):(a &&& (2 ^ 64-1-b)=0)↔A1i a b=true:=by
 have hn:∀k,k<8->(2 ^ 64-1-b).testBit k= !b.testBit k:=by
  intro k hk;have:2 ^ 64-1-b=2 ^ 64-(b+1):=by omega
  rw[this,Nat.testBit_two_pow_sub_succ (by omega)];simp;omega
 rw[A2A];constructor
 ·intro h k hk h1
  have h2:(a &&& (2 ^ 64-1-b)).testBit k=false:=by rw[h];simp
  rw[A75,h1,hn k hk,A3M]at h2;simpa using h2
 ·intro h
  refine C4L (C91 ha) (by omega) (fun k hk=>?_)
  rw[A75,hn k hk,Nat.zero_testBit];cases h1:a.testBit k
  ·rfl
  ·rw[h k hk h1];rfl
theorem A4l (a:Nat):A1i a a=true:=(A2A a a).2 (fun _ _ h=>h)
def A0n (c:UInt8):Bool:=(decide (97<=c.toNat) && decide (c.toNat<=122))||(decide (65<=c.toNat) && decide (c.toNat<=90))||decide (c.toNat=95)
def A0C (c:UInt8):Bool:=decide (48<=c.toNat) && decide (c.toNat<=57)
def A0I (c:UInt8):Bool:=decide (c.toNat=32)||decide (c.toNat=10)||decide (c.toNat=9)
def A7k:List UInt8:= [40,41,123,125,44,58,59,61,43,45,42,60]
def A6h (c:UInt8):Bool:=A7k.any (fun x=>decide (x=c))
def A01 (c:UInt8):Bool:=A0n c||A0C c
def A6M (c:UInt8):Bool:=decide (c.toNat≠10)
def run (F:UInt8->Bool) (r:List UInt8):Nat:=1+(r.takeWhile F).length
def one:List UInt8->Nat×Nat
 | []=>(4,1)
 |c::r=>
  if A0I c then (0,run A0I r) else
  if c.toNat=35 then (0,run A6M r) else
  if A0n c then (1,run A01 r) else
  if A0C c then (2,run A0C r) else
  if A6h c then (3,1) else (4,1)
structure Tok where
 kind:Nat
 text:List UInt8
 pos:Nat
 deriving DecidableEq
def B1m:Nat->List UInt8->Nat->List Tok
 |0,_,_=> []
 |f+1,s,at_=>
  if s= [] then [] else
  if (one s).1>0 then ⟨(one s).1,s.take (one s).2,at_⟩::B1m f (s.drop (one s).2) (at_+(one s).2)
  else B1m f (s.drop (one s).2) (at_+(one s).2)
def Q5 (s:List UInt8):List Tok:=B1m s.length s 0
theorem B3k (F:UInt8->Bool):∀(r:List UInt8) (m:Nat),(∀j,j<m->F (r.getD j 0)=true)->m<=r.length->(m=r.length\/F (r.getD m 0)=false)->(r.takeWhile F).length=m
 | [],m,_,h2,_=>by simp at h2;simp[h2]
 |c::r,0,_,_,h3=>by
  have:F c=false:=by simpa using h3
  simp[this]
 |c::r,m+1,h1,h2,h3=>by
  have h0:F c=true:=by simpa using h1 0 (by omega)
  have:=B3k F r m (fun j hj=>by simpa using h1 (j+1) (by omega)) (by simpa using h2) (by simpa using h3);simp[h0,this]
theorem D2k (F:UInt8->Bool) (s:List UInt8) (k:Nat) (h0:1<=k) (h1:∀j,1<=j->j<k->F (s.getD j 0)=true) (h2:k<=s.length) (h3:k=s.length\/F (s.getD k 0)=false):run F s.tail=k:=by
 cases s with
 |nil=>simp at h2;omega
 |cons c r=>
  obtain⟨m,rfl⟩:∃m,k=m+1:=⟨k-1,by omega⟩;have:=B3k F r m (fun j hj=>by simpa using h1 (j+1) (by omega) (by omega)) (by simpa using h2) (by simpa using h3);simp[run,this];omega
theorem D6U (F:UInt8->Bool) (s:List UInt8) (h:s≠ []):1<=run F s.tail/\run F s.tail<=s.length:=by
 cases s with
 |nil=>exact absurd rfl h
 |cons c r=>
  have:=(List.takeWhile_prefix F (l:=r)).length_le;simp[run];omega
theorem A6N (s:List UInt8) (h:s≠ []):1<=(one s).2/\(one s).2<=s.length:=by
 cases s with
 |nil=>exact absurd rfl h
 |cons c r=>
  simp only[one];have h1:=fun F=>D6U F (c::r) (by simp)
  simp only[List.tail_cons]at h1;repeat' split
  all_goals first|exact h1 _|simp
theorem B5A:∀(f g:Nat) (s:List UInt8) (p:Nat),s.length<=f->s.length<=g->B1m f s p=B1m g s p
 |0,0,_,_,_,_=>rfl
 |0,g+1,s,p,h,_=>by
  have:s= []:=A05 (by omega);simp[B1m,this]
 |f+1,0,s,p,_,h=>by
  have:s= []:=A05 (by omega);simp[B1m,this]
 |f+1,g+1,s,p,h1,h2=>by
  by_cases hs:s= []
  ·simp[B1m,hs]
  ·have:=A6N s hs
   simp only[B1m,hs,if_false];rw[B5A f g (s.drop (one s).2) _ (by simp;omega) (by simp;omega)]
def A3F (s:List UInt8) (k:Nat):List Tok:=B1m (s.length-k) (s.drop k) k
theorem A5V (s:List UInt8) (k:Nat) (h:s.length<=k):A3F s k= []:=by
 have:s.length-k=0:=by omega
 simp[A3F,this,B1m]
theorem A46 (s:List UInt8) (k:Nat) (h:k<s.length):
  A3F s k=(if (one (s.drop k)).1>0 then [⟨(one (s.drop k)).1,(s.drop k).take (one (s.drop k)).2,k⟩] else [])++A3F s (k+(one (s.drop k)).2):=by
 have hne:s.drop k≠ []:=by simp;omega
 have hl:=A6N _ hne;simp only[A0v]at hl;obtain⟨f,hf⟩:∃f,s.length-k=f+1:=⟨s.length-k-1,by omega⟩;have e:B1m f (s.drop (k+(one (s.drop k)).2)) (k+(one (s.drop k)).2)=A3F s (k+(one (s.drop k)).2):=
  B5A _ _ _ _ (by simp;omega) (by simp)
 unfold A3F
 rw[hf];simp only[B1m,hne,if_false,A4c];rw[e];split<;>rfl
theorem A8F (s:List UInt8):Q5 s=A3F s 0:=by simp[Q5,A3F]
def A8b:List (List UInt8):= [[102,110],[99,104,97,110],[108,101,116],[105,102],[101,108,115,101],[119,104,105,108,101],[115,101,110,100],[114,101,116,117,114,110],[115,101,110,100,115]]
def A9l (s:List UInt8):Bool:=decide (1<=s.length) && decide (s.length<=12) && A0n (s.getD 0 0) && s.all A01
def name (s:List UInt8):Bool:= !(A8b.any (fun w=>decide (s=w))) && A9l s
theorem C6H (F:UInt8->Bool) (s:List UInt8):s.all F=true↔ ∀j,j<s.length->F (s.getD j 0)=true:=by
 rw[A2O];constructor
 ·intro h j hj
  rw[N9,F9 hj];exact h _ (O1 hj)
 ·intro h x hx
  obtain⟨j,hj,rfl⟩:=List.mem_iff_getElem.1 hx;have:=h j hj
  rwa [N9,F9 hj]at this
def ext (F:UInt8->Bool) (s:List UInt8) (k:Nat):List UInt8:=(s.drop k).takeWhile F
theorem D1E (s:List UInt8):(one s).1<=4:=by
 cases s with
 |nil=>simp[one]
 |cons c r=>
  simp only[one];repeat' split
  all_goals simp
structure TokOk (s:List UInt8) (t:Tok):Prop where
 pos:t.pos<s.length
 len:1<=t.text.length
 fit:t.pos+t.text.length<=s.length
 text:t.text=(s.drop t.pos).take t.text.length
 one:t.kind=(one (s.drop t.pos)).1/\t.text.length=(one (s.drop t.pos)).2
 kind:1<=t.kind/\t.kind<=4
theorem B8q (s:List UInt8):∀(n k:Nat),s.length-k=n->∀t∈A3F s k,k<=t.pos/\TokOk s t:=by
 intro n;induction n using Nat.strongRecOn with
 |_ n ih=>
  intro k hn t ht;by_cases h:k<s.length
  ·rw[A46 s k h]at ht
   have hne:s.drop k≠ []:=by simp;omega
   have hl:=A6N _ hne;simp only[A0v]at hl;rcases Y5.1 ht with h1|h1
   ·split at h1
    ·rename_i hk
     simp at h1
     subst h1;have hlen:((s.drop k).take (one (s.drop k)).2).length=(one (s.drop k)).2:=by simp;omega
     exact⟨H7 _,⟨h,by rw[hlen];omega,by rw[hlen];dsimp only;omega,by rw[hlen],⟨rfl,hlen⟩,⟨hk,D1E _⟩⟩⟩
    ·simp at h1
   ·obtain⟨h2,h3⟩:=ih (s.length-(k+(one (s.drop k)).2)) (by omega) _ rfl t h1
    exact⟨by omega,h3⟩
  ·rw[A5V s k (by omega)]at ht
   simp at ht
theorem A2C (s:List UInt8) (t:Tok) (ht:t∈Q5 s):TokOk s t:=by
 rw[A8F]at ht;exact(B8q s _ 0 rfl t ht).2
theorem B8Q (s:List UInt8):∀(n k:Nat),s.length-k=n->(A3F s k).Pairwise (fun a b=>a.pos+a.text.length<=b.pos):=by
 intro n;induction n using Nat.strongRecOn with
 |_ n ih=>
  intro k hn;by_cases h:k<s.length
  ·have hne:s.drop k≠ []:=by simp;omega
   have hl:=A6N _ hne;simp only[A0v]at hl;have h1:=ih (s.length-(k+(one (s.drop k)).2)) (by omega) _ rfl;rw[A46 s k h];split
   ·rw[A3z,A17]
    refine⟨fun t ht=>?_,h1⟩
    have:=(B8q s _ _ rfl t ht).1;simp;omega
   ·exact h1
  ·rw[A5V s k (by omega)];exact List.Pairwise.nil
theorem A4v (s:List UInt8):(Q5 s).Pairwise (fun a b=>a.pos+a.text.length<=b.pos):=by rw[A8F];exact B8Q s _ 0 rfl
def wFn:List UInt8:= [102,110]
def B6a:List UInt8:= [99,104,97,110]
def A7x (s:List UInt8) (t:Tok):Bool:=decide (t.kind=1) && (decide (t.text=wFn)||decide (t.text=B6a)) && (decide (t.pos=0)||decide ((s.getD (t.pos-1) 0).toNat=10))
def A1V (s:List UInt8) (acc:List Nat) (t:Tok):List Nat:=if A7x s t=true\/acc= [] then acc++ [t.pos] else acc
def A0l (s:List UInt8):List Nat:=(Q5 s).foldl (A1V s) []
theorem B7a (s:List UInt8) (acc:List Nat) (t:Tok):A1V s acc t≠ []:=by
 unfold A1V
 split
 ·simp
 ·rename_i h;exact fun e=>h (.inr e)
theorem C2c (s:List UInt8) (acc:List Nat) (t:Tok):acc.length<=(A1V s acc t).length/\(A1V s acc t).length<=acc.length+1:=by
 unfold A1V
 split<;>simp
theorem C8A {α β:Type} (f:β->α->β) (b:β) (l:List α) (k:Nat) (a:α) (h:l[k]?=some a):(l.take (k+1)).foldl f b=f ((l.take k).foldl f b) a:=by
 rw[A2N,h];simp
theorem A8f (s:List UInt8):(Q5 s).length<=s.length:=by
 have key:∀(n k:Nat),s.length-k=n->(A3F s k).length<=n:=by
  intro n;induction n using Nat.strongRecOn with
  |_ n ih=>
   intro k hn;by_cases h:k<s.length
   ·have hl:=A6N (s.drop k) (by simp;omega)
    simp only[A0v]at hl;have:=ih (s.length-(k+(one (s.drop k)).2)) (by omega) _ rfl;rw[A46 s k h,D9];split
    ·simp;omega
    ·simp;omega
   ·rw[A5V s k (by omega)];simp
 have:=key _ 0 rfl;rw[A8F];simpa using this
inductive Ex where
 |mk (kind:Nat) (name:List UInt8) (n:Nat) (args:List Ex) (fr to:Nat)
inductive Stm where
 |mk (kind:Nat) (name:List UInt8) (at_ label:Nat) (opn:Bool) (e:Ex) (thn els:List Stm) (fr to:Nat)
structure Par where
 name:List UInt8
 label:Nat
 at_:Nat
structure Rf where
 name:List UInt8
 at_:Nat
structure Dg where
 fr:Nat
 to:Nat
 err:Nat
 name:List UInt8
structure Itm where
 kind:Nat
 name:List UInt8
 label:Nat
 params:List Par
 sends:List Rf
 body:List Stm
 at_:Int
 size:Nat
 mark:Nat
 diags:List Dg
instance :Inhabited Ex:=⟨.mk 0 [] 0 [] 0 0⟩
instance :Inhabited Stm:=⟨.mk 0 [] 0 0 false default [] [] 0 0⟩
def Ex.fr:Ex->Nat
 | .mk _ _ _ _ f _=>f
def Ex.to:Ex->Nat
 | .mk _ _ _ _ _ t=>t
structure Src where
 l:List Tok
 size:Nat
structure St where
 i:Nat
 ds:List Dg
def Src.tok (T:Src) (i:Nat):Tok:=T.l.getD i ⟨0,[],T.size⟩
def Src.is (T:Src) (i:Nat) (w:List UInt8):Bool:=decide (i<T.l.length) && decide ((T.tok i).text=w)
def Src.endOf (T:Src) (i:Nat):Nat:=if i=0 then 0 else (T.tok (i-1)).pos+(T.tok (i-1)).text.length
def St.bad (T:Src) (s:St) (e:Nat):St:= { s with ds:=s.ds++ [⟨(T.tok s.i).pos,(T.tok s.i).pos+(T.tok s.i).text.length,e,(T.tok s.i).text⟩]}
def St.next (s:St):St:= { s with i:=s.i+1}
def St.need (T:Src) (s:St) (w:List UInt8):Bool×St:=if T.is s.i w then (true,s.next) else (false,s.bad T 2)
def St.named (T:Src) (s:St):List UInt8×St:=
 if name (T.tok s.i).text then ((T.tok s.i).text,s.next) else
 if (T.tok s.i).kind=1 then ([],(s.bad T 7).next) else ([],s.bad T 2)
def C6n (t:List UInt8):Bool:=decide (t.length=1) && (decide (97<=(t.getD 0 0).toNat) && decide ((t.getD 0 0).toNat<=104))
def B0H (T:Src):Nat->Nat->St->Nat×St
 |0,n,s=>(n,s)
 |f+1,n,s=>
  if T.is s.i [125] then (n,s.next) else
  let t:=(T.tok s.i).text
  if !C6n t then (n,s.bad T 2) else
  let q:=(t.getD 0 0).toNat-97
  let s1:=if bit n q then s.bad T 7 else s
  let n1:=if bit n q then n else n+2 ^ q
  let s2:=s1.next
  if T.is s2.i [125] then B0H T f n1 s2 else
  if T.is s2.i [44] then B0H T f n1 s2.next else (n1,s2.bad T 2)
def lab (T:Src) (s:St):Nat×St:=
 if T.is s.i [123] then B0H T (T.l.length+1) 0 s.next else (0,s.bad T 2)
def A0u (t:List UInt8):Nat:=
 if t= [61]\/t= [60] then 1 else if t= [43]\/t= [45] then 2 else if t= [42] then 3 else 0
def B3g (T:Src) (s:St) (e:Nat):Ex×St:=(.mk 5 [] 0 [] (T.tok s.i).pos (T.tok s.i).pos,s.bad T e)
def A4M (t:List UInt8):Nat:=t.foldl (fun n c=>if n<=1000000000 then 10 *n+(c.toNat-48) else n) 0
mutual
def A3W (T:Src):Nat->Nat->St->Ex×St
 |0,_,s=>(default,s)
 |f+1,d,s=>
  let t:=T.tok s.i
  if T.l.length<=s.i then B3g T s 2 else
  if 12<=d then B3g T s 12 else
  if t.kind=2 then
   if 1000000000<A4M t.text then (.mk 1 [] 0 [] t.pos (t.pos+t.text.length),(s.bad T 3).next)
   else (.mk 1 [] (A4M t.text) [] t.pos (t.pos+t.text.length),s.next) else
  if t.text= [40] then
   let r:=A1b T f (d+1) 1 s.next
   (r.1,(r.2.need T [41]).2) else
  if !name t.text then B3g T s 2 else
  if !T.is (s.i+1) [40] then (.mk 2 t.text 0 [] t.pos (t.pos+t.text.length),s.next) else
  let r:=A5h T f (d+1) [] s.next.next
  let s2:=(r.2.need T [41]).2
  (.mk 4 t.text 0 r.1 t.pos (T.endOf s2.i),s2)
def A5h (T:Src):Nat->Nat->List Ex->St->List Ex×St
 |0,_,l,s=>(l,s)
 |f+1,d,l,s=>
  if T.l.length<=s.i\/T.is s.i [41] then (l,s) else
  if l.length=5 then (l,s.bad T 5) else
  let r:=A1b T f d 1 s
  if T.is r.2.i [44] then A5h T f d (l++ [r.1]) r.2.next else (l++ [r.1],r.2)
def A1b (T:Src):Nat->Nat->Nat->St->Ex×St
 |0,_,_,s=>(default,s)
 |f+1,d,least,s=>
  let r:=A3W T f d s
  opL T f d least r.1 r.2
def opL (T:Src):Nat->Nat->Nat->Ex->St->Ex×St
 |0,_,_,e,s=>(e,s)
 |f+1,d,least,e,s=>
  let op:=(T.tok s.i).text
  if A0u op<least\/A0u op=0 then (e,s) else
  let r:=A1b T f d (A0u op+1) s.next
  opL T f d least (.mk 3 op 0 [e,r.1] e.fr (max r.1.to e.to)) r.2
 end
mutual
def block (T:Src):Nat->Nat->St->List Stm×St
 |0,_,s=>([],s)
 |f+1,d,s=>
  if !T.is s.i [123] then ([],s.bad T 2) else
  if 12<=d then ([],s.next.bad T 12) else
  let r:=A5U T f (d+1) [] s.next
  (r.1,(r.2.need T [125]).2)
def A5U (T:Src):Nat->Nat->List Stm->St->List Stm×St
 |0,_,l,s=>(l,s)
 |f+1,d,l,s=>
  if T.l.length<=s.i\/T.is s.i [125] then (l,s) else
  if 40<=l.length then (l,s.bad T 5) else
  let r:=stm T f d s
  A5U T f d (l++ [r.1]) (if r.2.i=s.i then r.2.next else r.2)
def stm (T:Src):Nat->Nat->St->Stm×St
 |0,_,s=>(default,s)
 |f+1,d,s=>
  let t:=T.tok s.i
  let fr:=t.pos
  let fin (s:St):Nat:=max (T.endOf s.i) fr
  if t.text= [108,101,116] then
   let a:=(T.tok (s.i+1)).pos
   let r:=s.next.named T
   let opn:= !T.is r.2.i [58]
   let r1:=if opn then (0,r.2) else lab T r.2.next
   let s2:=(r1.2.need T [61]).2
   let r2:=A1b T f d 1 s2
   let s3:=(r2.2.need T [59]).2
   (.mk 1 r.1 a r1.1 opn r2.1 [] [] fr (fin s3),s3) else
  if t.text= [105,102] then
   let r:=A1b T f d 1 s.next
   let r1:=block T f d r.2
   if T.is r1.2.i [101,108,115,101] then
    let r2:=block T f d r1.2.next
    (.mk 3 [] 0 0 false r.1 r1.1 r2.1 fr (fin r2.2),r2.2)
   else (.mk 3 [] 0 0 false r.1 r1.1 [] fr (fin r1.2),r1.2) else
  if t.text= [119,104,105,108,101] then
   let r:=A1b T f d 1 s.next
   let r1:=block T f d r.2
   (.mk 4 [] 0 0 false r.1 r1.1 [] fr (fin r1.2),r1.2) else
  if t.text= [115,101,110,100] then
   let a:=(T.tok (s.i+1)).pos
   let r:=s.next.named T
   let r2:=A1b T f d 1 r.2
   let s3:=(r2.2.need T [59]).2
   (.mk 5 r.1 a 0 false r2.1 [] [] fr (fin s3),s3) else
  if t.text= [114,101,116,117,114,110] then
   let r2:=A1b T f d 1 s.next
   let s3:=(r2.2.need T [59]).2
   (.mk 6 [] 0 0 false r2.1 [] [] fr (fin s3),s3) else
  if name t.text then
   if T.is (s.i+1) [61] then
    let r2:=A1b T f d 1 s.next.next
    let s3:=(r2.2.need T [59]).2
    (.mk 2 t.text fr 0 false r2.1 [] [] fr (fin s3),s3)
   else
    let r2:=A1b T f d 1 s
    let s3:=(r2.2.need T [59]).2
    (.mk 7 [] 0 0 false r2.1 [] [] fr (fin s3),s3) else
  (.mk 8 [] 0 0 false default [] [] fr (fin (s.bad T 2)),s.bad T 2)
 end
def A52 (T:Src):Nat->List Par->St->List Par×St
 |0,l,s=>(l,s)
 |f+1,l,s=>
  if T.l.length<=s.i\/T.is s.i [41] then (l,s) else
  if 5<=l.length then (l,s.bad T 5) else
  let a:=(T.tok s.i).pos
  let r:=s.named T
  let r1:=r.2.need T [58]
  if !r1.1 then (l,r1.2) else
  let r2:=lab T r1.2
  if T.is r2.2.i [44] then A52 T f (l++ [⟨r.1,r2.1,a⟩]) r2.2.next else (l++ [⟨r.1,r2.1,a⟩],r2.2)
def A5T (T:Src):Nat->List Rf->St->List Rf×St
 |0,l,s=>(l,s)
 |f+1,l,s=>
  if 5<=l.length then (l,s.bad T 5) else
  let a:=(T.tok s.i).pos
  let r:=s.named T
  if T.is r.2.i [44] then A5T T f (l++ [⟨r.1,a⟩]) r.2.next else (l++ [⟨r.1,a⟩],r.2)
def A8s (T:Src):Nat:=8 *T.l.length+64
def A7Z (T:Src) (at_:Int) (size:Nat) (s:St):Itm×St:=
 let r:=s.named T
 let s1:=(r.2.need T [40]).2
 let r2:=A52 T 6 [] s1
 let s3:=(r2.2.need T [41]).2
 let s4:=(s3.need T [58]).2
 let r5:=lab T s4
 let r6:=if T.is r5.2.i [115,101,110,100,115] then A5T T 6 [] r5.2.next else ([],r5.2)
 let r7:=block T (A8s T) 0 r6.2
 (⟨2,r.1,r5.1,r2.1,r6.1,r7.1,at_,size,(T.tok s.i).pos,[]⟩,r7.2)
def B29 (T:Src) (at_:Int) (size:Nat) (s:St):Itm×St:=
 let r:=s.named T
 let s1:=(r.2.need T [58]).2
 let r2:=lab T s1
 let s3:=(r2.2.need T [59]).2
 (⟨1,r.1,r2.1,[],[],[],at_,size,(T.tok s.i).pos,[]⟩,s3)
def item (src:List UInt8) (at_:Int):Itm:=
 let T:Src:=⟨Q5 src,src.length⟩
 let q:=if T.is 0 [102,110] then A7Z T at_ src.length ⟨1,[]⟩ else if T.is 0 [99,104,97,110] then B29 T at_ src.length ⟨1,[]⟩ else
  (⟨3,[],0,[],[],[],at_,src.length,0,[]⟩, { ((⟨0,[]⟩:St).bad T 2) with i:=T.l.length})
 let s:=if q.2.i<T.l.length then q.2.bad T 2 else q.2
 { q.1 with diags:=s.ds}
structure Goes (T:Src) (k:Nat) (s r:St):Prop where
 le:s.i<=r.i
 top:s.i<=T.l.length->r.i<=T.l.length
 ds:r.ds.length+2 *s.i<=s.ds.length+2 *r.i+k
theorem Goes.refl (T:Src) (k:Nat) (s:St):Goes T k s s:=⟨H7 _,id,by omega⟩
theorem Goes.trans {T:Src}{k k':Nat}{s r t:St} (h:Goes T k s r) (g:Goes T k' r t):Goes T (k+k') s t:=
 ⟨A1A h.le g.le,fun x=>g.top (h.top x),by have:=h.ds;have:=g.ds;omega⟩
theorem A6r (T:Src) (s:St) (e:Nat):Goes T 1 s (s.bad T e):=⟨H7 _,id,by simp[St.bad];omega⟩
theorem A22 {T:Src}{i:Nat}{w:List UInt8} (h:T.is i w=true):i<T.l.length:=by
 simp only[Src.is,Q3,decide_eq_true_eq]at h;exact h.1
theorem A6A {T:Src}{i:Nat} (h:T.l.length<=i):T.tok i=⟨0,[],T.size⟩:=by
 rw[Src.tok,N9,A1n h];rfl
theorem A7e {t:List UInt8} (h:name t=true):t≠ []:=by rintro rfl;revert h;decide
theorem A3E {T:Src}{i:Nat} (h:(T.tok i).text≠ []):i<T.l.length:=by
 rcases U9 i T.l.length with h1|h1
 ·exact h1
 ·rw[A6A h1]at h;exact absurd rfl h
theorem B55 {T:Src}{i:Nat} (h:(T.tok i).kind≠0):i<T.l.length:=by
 rcases U9 i T.l.length with h1|h1
 ·exact h1
 ·rw[A6A h1]at h;exact absurd rfl h
theorem A1k (T:Src) (s:St) (w:List UInt8):Goes T 1 s (s.need T w).2:=by
 rw[St.need];split
 ·rename_i h
  have:=A22 h;exact⟨by simp[St.next],fun _=>by simp[St.next];omega,by simp[St.next];omega⟩
 ·exact A6r T s 2
theorem A2h (T:Src) (s:St):Goes T 1 s (s.named T).2:=by
 rw[St.named];split
 ·rename_i h
  have:=A3E (A7e h);exact⟨by simp[St.next],fun _=>by simp[St.next];omega,by simp[St.next];omega⟩
 ·split
  ·rename_i h
   have:=B55 (T:=T) (i:=s.i) (by omega);exact⟨by simp[St.next,St.bad],fun _=>by simp[St.next,St.bad];omega,by simp[St.next,St.bad];omega⟩
  ·exact A6r T s 2
theorem B48 (T:Src):∀(f n:Nat) (s:St),Goes T 1 s (B0H T f n s).2
 |0,n,s=>Goes.refl _ _ _
 |f+1,n,s=>by
  rw[B0H];split
  ·rename_i h
   have:=A22 h;exact⟨by simp[St.next],fun _=>by simp[St.next];omega,by simp[St.next];omega⟩
  ·dsimp only
   split
   ·exact A6r T s 2
   ·rename_i h1 h2
    have hlt:s.i<T.l.length:=A3E (by intro e;rw[e]at h2;revert h2;decide);have g1:∀s1:St,(s1=s\/s1=s.bad T 7)->s1.next.i=s.i+1/\s1.next.ds.length<=s.ds.length+1:=by
     rintro s1 (rfl|rfl)<;>simp[St.next,St.bad]
    have g2:=g1 (if bit n ((T.tok s.i).text.getD 0 0|>.toNat|>(· -97))=true then s.bad T 7 else s) (by split<;>simp);generalize (if bit n ((T.tok s.i).text.getD 0 0|>.toNat|>(· -97))=true then s.bad T 7 else s).next=s2 at g2;generalize (if bit n ((T.tok s.i).text.getD 0 0|>.toNat|>(· -97))=true then n else n+2 ^ ((T.tok s.i).text.getD 0 0|>.toNat|>(· -97)))=n1;split
    ·have ih:=B48 T f n1 s2
     exact⟨by have:=ih.le;omega,fun _=>ih.top (by omega),by have:=ih.ds;omega⟩
    ·split
     ·rename_i h5
      have h6:=A22 h5;have ih:=B48 T f n1 s2.next;have e1:s2.next.i=s2.i+1:=rfl;have e2:s2.next.ds=s2.ds:=rfl;exact⟨by have:=ih.le;omega,fun _=>ih.top (by omega),by have:=ih.ds;rw[e2]at this;omega⟩
     ·have ih:=A6r T s2 2
      exact⟨by have:=ih.le;dsimp only;omega,fun _=>ih.top (by omega),by have:=ih.ds;dsimp only;omega⟩
theorem A5i (T:Src) (s:St):Goes T 1 s (lab T s).2:=by
 rw[lab];split
 ·rename_i h
  have:=A22 h;have ih:=B48 T (T.l.length+1) 0 s.next;have e1:s.next.i=s.i+1:=rfl;have e2:s.next.ds=s.ds:=rfl;exact⟨by have:=ih.le;omega,fun _=>ih.top (by omega),by have:=ih.ds;rw[e2]at this;omega⟩
 ·exact A6r T s 2
theorem U7 (s:St):s.next.i=s.i+1:=rfl
theorem A1t (s:St):s.next.ds=s.ds:=rfl
theorem B4G {t:List UInt8} (h:A0u t≠0):t≠ []:=by rintro rfl;exact h (by decide)
theorem A13 (T:Src):∀f,(∀d s,Goes T 1 s (A3W T f d s).2)/\(∀d l s,Goes T 1 s (A5h T f d l s).2)/\(∀d m s,Goes T 1 s (A1b T f d m s).2)/\(∀d m e s,Goes T 0 s (opL T f d m e s).2)
 |0=>⟨fun _ _=>by rw[A3W];exact Goes.refl _ _ _,fun _ _ _=>by rw[A5h];exact Goes.refl _ _ _,fun _ _ _=>by rw[A1b];exact Goes.refl _ _ _,fun _ _ _ _=>by rw[opL];exact Goes.refl _ _ _⟩
 |f+1=>by
  obtain⟨hA,hL,hE,hO⟩:=A13 T f;refine⟨fun d s=>?_,fun d l s=>?_,fun d m s=>?_,fun d m e s=>?_⟩
  ·rw[A3W]
   dsimp only
   split
   ·exact A6r T s 2
   ·rename_i hlt
    split
    ·exact A6r T s 12
    ·split
     ·split
      ·exact⟨by simp[St.next,St.bad],fun _=>by simp[St.next,St.bad];omega,by simp[St.next,St.bad];omega⟩
      ·exact⟨by simp[St.next],fun _=>by simp[St.next];omega,by simp[St.next];omega⟩
     ·split
      ·have g:=(hE (d+1) 1 s.next).trans (A1k T (A1b T f (d+1) 1 s.next).2 [41])
       have h1:=g.le;have h2:=g.top;have h3:=g.ds;rw[U7]at h1 h2 h3;rw[A1t]at h3;exact⟨by dsimp only;omega,fun _=>h2 (by omega),by dsimp only;omega⟩
      ·split
       ·exact A6r T s 2
       ·split
        ·exact⟨by simp[St.next],fun _=>by simp[St.next];omega,by simp[St.next];omega⟩
        ·rename_i h5
         have h6:=A22 (by simpa using h5:T.is (s.i+1) [40]=true);have g:=(hL (d+1) [] s.next.next).trans (A1k T (A5h T f (d+1) [] s.next.next).2 [41]);have h1:=g.le;have h2:=g.top;have h3:=g.ds;rw[U7,U7]at h1 h2 h3;rw[A1t,A1t]at h3;exact⟨by dsimp only;omega,fun _=>h2 (by omega),by dsimp only;omega⟩
  ·rw[A5h]
   split
   ·exact Goes.refl _ _ _
   ·split
    ·exact A6r T s 5
    ·try dsimp only
     split
     ·rename_i h5
      have h6:=A22 h5;have g:=hE d 1 s;have g2:=hL d (l++ [(A1b T f d 1 s).1]) (A1b T f d 1 s).2.next;have h1:=g2.le;have h2:=g2.top;have h3:=g2.ds;have:=g.le;have:=g.ds;rw[U7]at h1 h2 h3;rw[A1t]at h3;exact⟨by omega,fun _=>h2 (by omega),by omega⟩
     ·exact hE d 1 s
  ·rw[A1b]
   try dsimp only
   exact(hA d s).trans (hO d m (A3W T f d s).1 (A3W T f d s).2)
  ·rw[opL]
   try dsimp only
   split
   ·exact Goes.refl _ _ _
   ·rename_i h5
    have h6:s.i<T.l.length:=A3E (B4G (by omega));have g:=hE d (A0u (T.tok s.i).text+1) s.next;have g2:=hO d m (.mk 3 (T.tok s.i).text 0 [e,(A1b T f d (A0u (T.tok s.i).text+1) s.next).1] e.fr (max (A1b T f d (A0u (T.tok s.i).text+1) s.next).1.to e.to)) (A1b T f d (A0u (T.tok s.i).text+1) s.next).2;have g3:=g.trans g2;have h1:=g3.le;have h2:=g3.top;have h3:=g3.ds;rw[U7]at h1 h2 h3;rw[A1t]at h3;exact⟨by omega,fun _=>h2 (by omega),by omega⟩
structure Goes8 (T:Src) (k:Nat) (s r:St):Prop where
 le:s.i<=r.i
 top:s.i<=T.l.length->r.i<=T.l.length
 ds:r.ds.length+8 *s.i<=s.ds.length+8 *r.i+k
theorem Goes.g8 {T:Src}{k:Nat}{s r:St} (h:Goes T k s r):Goes8 T k s r:=⟨h.le,h.top,by have:=h.ds;have:=h.le;omega⟩
theorem Goes8.trans {T:Src}{k k':Nat}{s r t:St} (h:Goes8 T k s r) (g:Goes8 T k' r t):Goes8 T (k+k') s t:=
 ⟨A1A h.le g.le,fun x=>g.top (h.top x),by have:=h.ds;have:=g.ds;omega⟩
theorem Goes8.mono {T:Src}{k k':Nat}{s r:St} (h:Goes8 T k s r) (hk:k<=k'):Goes8 T k' s r:=⟨h.le,h.top,by have:=h.ds;omega⟩
theorem Goes8.refl (T:Src) (k:Nat) (s:St):Goes8 T k s s:=⟨H7 _,id,by omega⟩
theorem B4f {T:Src}{k:Nat}{s r:St} (hi:s.i<T.l.length) (h:Goes8 T (k+8) s.next r):Goes8 T k s r:=by
 obtain⟨h1,h2,h3⟩:=h;rw[U7]at h1 h2 h3;rw[A1t]at h3;exact⟨by omega,fun _=>h2 (by omega),by omega⟩
theorem B46 (T:Src) (f d m:Nat) (s:St):Goes8 T 1 s (A1b T f d m s).2:=((A13 T f).2.2.1 d m s).g8
theorem B47 (T:Src) (s:St) (w:List UInt8):Goes8 T 1 s (s.need T w).2:=(A1k T s w).g8
theorem C69 (T:Src) (s:St):Goes8 T 1 s (s.named T).2:=(A2h T s).g8
theorem D72 (T:Src) (s:St):Goes8 T 1 s (lab T s).2:=(A5i T s).g8
theorem D0W (T:Src) (s:St) (e:Nat):Goes8 T 1 s (s.bad T e):=(A6r T s e).g8
structure StG (T:Src) (s r:St):Prop where
 le:s.i<=r.i
 top:s.i<=T.l.length->r.i<=T.l.length
 ds0:r.i=s.i->r.ds.length<=s.ds.length+2
 ds1:s.i<r.i->r.ds.length+8 *s.i<=s.ds.length+8 *r.i
theorem A9a {T:Src}{k:Nat}{s r:St} (hi:s.i<T.l.length) (h:Goes8 T k s.next r) (hk:k<=8):StG T s r:=by
 obtain⟨h1,h2,h3⟩:=h;rw[U7]at h1 h2 h3;rw[A1t]at h3;exact⟨by omega,fun _=>h2 (by omega),fun _=>by omega,fun _=>by omega⟩
theorem A3j (T:Src):∀f,(∀d s,Goes8 T 1 s (block T f d s).2)/\(∀d l s,Goes8 T 1 s (A5U T f d l s).2)/\(∀d s,StG T s (stm T f d s).2)
 |0=>⟨fun _ _=>by rw[block];exact Goes8.refl _ _ _,fun _ _ _=>by rw[A5U];exact Goes8.refl _ _ _,fun _ s=>by rw[stm];exact⟨H7 _,id,fun _=>by simp,fun _=>by simp⟩⟩
 |f+1=>by
  obtain⟨hB,hL,hS⟩:=A3j T f;refine⟨fun d s=>?_,fun d l s=>?_,fun d s=>?_⟩
  ·rw[block]
   split
   ·exact(D0W T s 2).mono (by omega)
   ·rename_i h
    have hi:=A22 (by simpa using h:T.is s.i [123]=true);split
    ·exact B4f hi ((D0W T s.next 12).mono (by omega))
    ·dsimp only
     exact B4f hi (((hL (d+1) [] s.next).trans (B47 T _ [125])).mono (by omega))
  ·rw[A5U]
   split
   ·exact Goes8.refl _ _ _
   ·rename_i h
    have hi:s.i<T.l.length:=by omega
    split
    ·exact D0W T s 5
    ·dsimp only
     have g:=hS d s;have h1:=g.le;have h2:=g.top;have h3:=g.ds0;have h4:=g.ds1;split
     ·rename_i he
      have g2:=hL d (l++ [(stm T f d s).1]) (stm T f d s).2.next;have k1:=g2.le;have k2:=g2.top;have k3:=g2.ds;rw[U7]at k1 k2 k3;rw[A1t]at k3;have h5:=h3 he;exact⟨by omega,fun _=>k2 (by omega),by omega⟩
     ·rename_i he
      have g2:=hL d (l++ [(stm T f d s).1]) (stm T f d s).2;have k1:=g2.le;have k2:=g2.top;have k3:=g2.ds;have h5:=h4 (by omega);exact⟨by omega,fun _=>k2 (by omega),by omega⟩
  ·rw[stm]
   dsimp only
   have hlt:∀t:List UInt8,t≠ []->(T.tok s.i).text=t->s.i<T.l.length:=fun t ht e=>A3E (by rw[e];exact ht)
   split
   ·rename_i h
    refine A9a (hlt _ (by simp) h) (k:=5) ?_ (by omega)
    have g1:=C69 T s.next;have g2:Goes8 T 1 (s.next.named T).2 (if (!T.is (s.next.named T).2.i [58])=true then ((0:Nat),(s.next.named T).2) else lab T (s.next.named T).2.next).2:=by
     split
     ·exact Goes8.refl _ _ _
     ·rename_i h5
      exact B4f (A22 (by simpa using h5:T.is (s.next.named T).2.i [58]=true)) ((D72 T _).mono (by omega))
    exact(((g1.trans g2).trans (B47 T _ _)).trans (B46 T f d 1 _)).trans (B47 T _ _)
   ·split
    ·rename_i h
     have g1:=(B46 T f d 1 s.next).trans (hB d (A1b T f d 1 s.next).2);split
     ·rename_i h5
      refine A9a (hlt _ (by simp) h) (k:=3) ?_ (by omega)
      exact g1.trans (B4f (k:=1) (A22 h5) ((hB d _).mono (by omega)))
     ·exact A9a (hlt _ (by simp) h) g1 (by omega)
    ·split
     ·rename_i h
      exact A9a (hlt _ (by simp) h) ((B46 T f d 1 s.next).trans (hB d (A1b T f d 1 s.next).2)) (by omega)
     ·split
      ·rename_i h
       exact A9a (hlt _ (by simp) h) (((C69 T s.next).trans (B46 T f d 1 _)).trans (B47 T _ _)) (by omega)
      ·split
       ·rename_i h
        exact A9a (hlt _ (by simp) h) ((B46 T f d 1 s.next).trans (B47 T _ _)) (by omega)
       ·split
        ·rename_i h
         have hi:=A3E (A7e h);split
         ·rename_i h5
          have h6:=A22 h5;exact A9a hi (B4f (k:=0) h6 (((B46 T f d 1 s.next.next).trans (B47 T _ [59])).mono (by omega))) (by omega)
         ·have g:=((A13 T f).2.2.1 d 1 s).trans (A1k T (A1b T f d 1 s).2 [59])
          have h1:=g.le;have h2:=g.top;have h3:=g.ds;refine⟨h1,h2,fun h=>?_,fun h=>?_⟩<;>dsimp only at h |- <;>omega
        ·exact⟨H7 _,id,fun _=>by simp[St.bad],fun h=>by simp[St.bad]at h⟩
def A1v (s:List UInt8) (cs:List Nat) (i:Nat):List UInt8:=(s.drop (cs.getD i 0)).take (cs.getD (i+1) s.length-cs.getD i 0)
def A1d (s:List UInt8) (cs:List Nat) (i:Nat):Itm:=item (A1v s cs i) (cs.getD i 0)
def A3Z (s:List UInt8) (cs:List Nat):List Itm:=(List.range cs.length).map (A1d s cs)
def Y1 (s:List UInt8):Nat:=if s.length>4000 then 4 else if (A0l s).length>30 then 5 else 0
def G8 (s:List UInt8):List Itm:=if Y1 s=0 then A3Z s (A0l s) else []
theorem B37 (s:List UInt8):∀(l:List Tok) (acc:List Nat),∃r,l.foldl (A1V s) acc=acc++r/\r.Sublist (l.map (·.pos))
 | [],acc=>⟨[],by simp,by simp⟩
 |t::l,acc=>by
  rw[A07,A1V];split
  ·obtain⟨r,h1,h2⟩:=B37 s l (acc++ [t.pos])
   exact⟨t.pos::r,by rw[h1];simp,by rw[U4];exact h2.cons_cons _⟩
  ·obtain⟨r,h1,h2⟩:=B37 s l acc
   exact⟨r,h1,by rw[U4];exact h2.cons _⟩
theorem C2g (s:List UInt8):(A0l s).Pairwise (· < ·)/\∀x∈A0l s,x<s.length:=by
 obtain⟨r,h1,h2⟩:=B37 s (Q5 s) [];have e:A0l s=r:=by rw[A0l,h1];simp
 rw[e];refine⟨List.Pairwise.sublist h2 ?_,fun x hx=>?_⟩
 ·rw[List.pairwise_map]
  have h3:=A4v s;rw[A3y]at h3 |-;intro i j hi hj hij;have h4:=h3 i j hi hj hij;have h5:=(A2C s _ (O1 hi)).len;omega
 ·have:=h2.subset hx
  obtain⟨t,ht,rfl⟩:=Y7.1 this;exact(A2C s t ht).pos
theorem B0x (s:List UInt8) {i:Nat} (h:i<(A0l s).length):(A0l s).getD i 0<(A0l s).getD (i+1) s.length/\(A0l s).getD (i+1) s.length<=s.length:=by
 obtain⟨h1,h2⟩:=C2g s;have e1:(A0l s).getD i 0=(A0l s)[i]:=by rw[N9,F9 h];rfl
 have h3:=h2 _ (O1 h);rw[e1];rcases U9 (i+1) (A0l s).length with h4|h4
 ·have e2:(A0l s).getD (i+1) s.length=(A0l s)[i+1]:=by rw[N9,F9 h4];rfl
  rw[e2];exact⟨A3y.1 h1 i (i+1) h h4 (by omega),Nat.le_of_lt (h2 _ (O1 h4))⟩
 ·have e2:(A0l s).getD (i+1) s.length=s.length:=by rw[N9,A1n h4];rfl
  rw[e2];exact⟨h3,H7 _⟩
theorem B7C (s:List UInt8) (cs:List Nat) (k:Nat):(List.range (k+1)).map (A1d s cs)=(List.range k).map (A1d s cs)++ [A1d s cs k]:=by
 rw[A28,V5];rfl
def Ex.kind:Ex->Nat
 | .mk k _ _ _ _ _=>k
def Ex.name:Ex->List UInt8
 | .mk _ n _ _ _ _=>n
def Ex.n:Ex->Nat
 | .mk _ _ n _ _ _=>n
def Ex.args:Ex->List Ex
 | .mk _ _ _ a _ _=>a
def Stm.kind:Stm->Nat
 | .mk k _ _ _ _ _ _ _ _ _=>k
def Stm.name:Stm->List UInt8
 | .mk _ n _ _ _ _ _ _ _ _=>n
def Stm.at_:Stm->Nat
 | .mk _ _ a _ _ _ _ _ _ _=>a
def Stm.label:Stm->Nat
 | .mk _ _ _ l _ _ _ _ _ _=>l
def Stm.opn:Stm->Bool
 | .mk _ _ _ _ o _ _ _ _ _=>o
def Stm.e:Stm->Ex
 | .mk _ _ _ _ _ e _ _ _ _=>e
def Stm.thn:Stm->List Stm
 | .mk _ _ _ _ _ _ t _ _ _=>t
def Stm.els:Stm->List Stm
 | .mk _ _ _ _ _ _ _ e _ _=>e
def Stm.fr:Stm->Nat
 | .mk _ _ _ _ _ _ _ _ f _=>f
def Stm.to:Stm->Nat
 | .mk _ _ _ _ _ _ _ _ _ t=>t
def A6t (T:Src) (at_:Int) (size:Nat):Itm×St:=
 if T.is 0 [102,110]=true then A7Z T at_ size ⟨1,[]⟩ else if T.is 0 [99,104,97,110]=true then B29 T at_ size ⟨1,[]⟩ else
  (⟨3,[],0,[],[],[],at_,size,0,[]⟩, { ((⟨0,[]⟩:St).bad T 2) with i:=T.l.length})
def B5S (T:Src) (q:Itm×St):Itm:= { q.1 with diags:=(if q.2.i<T.l.length then q.2.bad T 2 else q.2).ds}
theorem A9r (src:List UInt8) (at_:Int):item src at_=B5S ⟨Q5 src,src.length⟩ (A6t ⟨Q5 src,src.length⟩ at_ src.length):=rfl
end Go.Sp
namespace Go.Proofs
open Go.Proofs.Tryz
open Go.Sp
open Go Go.Fw
instance :Mixed prog:=⟨by kernel_rfl⟩
instance :TyInt prog 3 .i64:=⟨by kernel_rfl⟩
instance :TyOne prog 3:=.of
instance :Elem prog 3 1 8:=.of
instance :TyBool prog 4:=⟨by kernel_rfl⟩
instance :TyOne prog 4:=.of
instance :Elem prog 4 1 1:=.of
instance :TyInt prog 5 .u8:=⟨by kernel_rfl⟩
instance :Elem prog 5 1 1:=.of
instance :TyStr prog 9:=⟨by kernel_rfl⟩
instance :TyOne prog 9:=.of
instance :Elem prog 9 1 16:=.of
instance :TySlice prog 23 43:=⟨by kernel_rfl⟩
instance :TyOne prog 23:=.of
instance :Elem prog 23 1 24:=.of
instance :TyAgg prog 25 1:=.of
instance :Elem prog 25 1 24:=.of
instance :StructT prog 25 [(0,1)] [.slice none 0 0]:=.of
instance :Fld prog 25 0 0:=.of
instance :Fld1 prog 25 0 0:=.of
instance :TyOne prog 29:=.of
instance :Elem prog 29 1 8:=.of
instance :TySlice prog 35 3:=⟨by kernel_rfl⟩
instance :TyOne prog 35:=.of
instance :Elem prog 35 1 24:=.of
instance :TySlice prog 36 85:=⟨by kernel_rfl⟩
instance :TyOne prog 36:=.of
instance :Elem prog 36 1 24:=.of
instance :TySlice prog 39 103:=⟨by kernel_rfl⟩
instance :TyOne prog 39:=.of
instance :Elem prog 39 1 24:=.of
instance :TySlice prog 40 106:=⟨by kernel_rfl⟩
instance :TyOne prog 40:=.of
instance :Elem prog 40 1 24:=.of
instance :TySlice prog 41 111:=⟨by kernel_rfl⟩
instance :TyOne prog 41:=.of
instance :Elem prog 41 1 24:=.of
instance :TyAgg prog 43 10:=.of
instance :Elem prog 43 10 152:=.of
instance :StructT prog 43 [(0,1),(1,1),(2,1),(3,1),(4,1),(5,1),(6,1),(7,1),(8,1),(9,1)] [.int .i64 0,str [],.int .i64 0,.slice none 0 0,.slice none 0 0,.slice none 0 0,.int .i64 0,.int .i64 0,.int .i64 0,.slice none 0 0]:=.of
instance :Fld prog 43 0 0:=.of
instance :Fld prog 43 1 1:=.of
instance :Fld prog 43 2 2:=.of
instance :Fld prog 43 3 3:=.of
instance :Fld prog 43 4 4:=.of
instance :Fld prog 43 5 5:=.of
instance :Fld prog 43 6 6:=.of
instance :Fld prog 43 7 7:=.of
instance :Fld prog 43 8 8:=.of
instance :Fld prog 43 9 9:=.of
instance :TySlice prog 55 58:=⟨by kernel_rfl⟩
instance :TyOne prog 55:=.of
instance :Elem prog 55 1 24:=.of
instance :TyAgg prog 58 3:=.of
instance :Elem prog 58 3 24:=.of
instance :StructT prog 58 [(0,1),(1,1),(2,1)] [.int .i64 0,.int .i64 0,.int .i64 0]:=.of
instance :Fld prog 58 0 0:=.of
instance :Fld prog 58 1 1:=.of
instance :Fld prog 58 2 2:=.of
instance :TySlice prog 59 62:=⟨by kernel_rfl⟩
instance :TyOne prog 59:=.of
instance :TyAgg prog 62 3:=.of
instance :Elem prog 62 3 32:=.of
instance :StructT prog 62 [(0,1),(1,1),(2,1)] [.int .i64 0,str [],.int .i64 0]:=.of
instance :Fld prog 62 0 0:=.of
instance :Fld prog 62 1 1:=.of
instance :Fld prog 62 2 2:=.of
instance :TySlice prog 65 186:=⟨by kernel_rfl⟩
instance :TyOne prog 65:=.of
instance :Elem prog 65 1 24:=.of
instance :TyAgg prog 67 4:=.of
instance :Elem prog 67 4 48:=.of
instance :StructT prog 67 [(0,1),(1,1),(2,1),(3,1)] [.slice none 0 0,.int .i64 0,.int .i64 0,.int .i64 0]:=.of
instance :Fld prog 67 0 0:=.of
instance :Fld prog 67 1 1:=.of
instance :Fld prog 67 2 2:=.of
instance :Fld prog 67 3 3:=.of
instance :TySlice prog 70 72:=⟨by kernel_rfl⟩
instance :TyAgg prog 72 6:=.of
instance :Elem prog 72 6 72:=.of
instance :StructT prog 72 [(0,1),(1,1),(2,1),(3,1),(4,1),(5,1)] [.int .i64 0,.int .i64 0,.int .i64 0,.int .i64 0,str [],.slice none 0 0]:=.of
instance :Fld prog 72 0 0:=.of
instance :Fld prog 72 1 1:=.of
instance :Fld prog 72 4 4:=.of
instance :TySlice prog 75 80:=⟨by kernel_rfl⟩
instance :TyAgg prog 80 11:=.of
instance :Elem prog 80 11 128:=.of
instance :StructT prog 80 [(0,1),(1,1),(2,1),(3,1),(4,1),(5,1),(6,4),(10,1)] [.int .i64 0,.int .i64 0,.slice none 0 0,.int .i64 0,.int .i64 0,str [],.slice none 0 0,.int .i64 0,.int .i64 0,.int .i64 0,.int .i64 0]:=.of
instance :Fld prog 80 0 0:=.of
instance :Fld prog 80 2 2:=.of
instance :TyAgg prog 85 4:=.of
instance :Elem prog 85 4 40:=.of
instance :StructT prog 85 [(0,1),(1,1),(2,1),(3,1)] [.int .i64 0,.int .i64 0,.int .i64 0,str []]:=.of
instance :FlatT prog 85 [.int .i64,.int .i64,.int .i64,.str]:=.of
instance :Fld prog 85 0 0:=.of
instance :Fld prog 85 1 1:=.of
instance :Fld prog 85 2 2:=.of
instance :TyOne prog 88:=.of
instance :Elem prog 88 1 8:=.of
instance :TySlice prog 89 5:=⟨by kernel_rfl⟩
instance :TyOne prog 89:=.of
instance :Elem prog 89 1 24:=.of
instance :Fld prog 91 0 0:=.of
instance :Fld prog 91 1 1:=.of
instance :StructT prog 93 [(0,2)] [.pointer none,.slice none 0 0]:=.of
instance :Fld prog 93 0 0:=.of
instance :TyOne prog 95:=.of
instance :TyAgg prog 103 3:=.of
instance :Elem prog 103 3 32:=.of
instance :StructT prog 103 [(0,1),(1,1),(2,1)] [str [],.int .i64 0,.int .i64 0]:=.of
instance :FlatT prog 103 [.str,.int .i64,.int .i64]:=.of
instance :Fld prog 103 0 0:=.of
instance :Fld prog 103 1 1:=.of
instance :Fld prog 103 2 2:=.of
instance :TyAgg prog 106 2:=.of
instance :Elem prog 106 2 24:=.of
instance :StructT prog 106 [(0,1),(1,1)] [str [],.int .i64 0]:=.of
instance :FlatT prog 106 [.str,.int .i64]:=.of
instance :Fld prog 106 0 0:=.of
instance :Fld prog 106 1 1:=.of
instance :TySlice prog 107 109:=⟨by kernel_rfl⟩
instance :TyOne prog 107:=.of
instance :Elem prog 107 1 24:=.of
instance :TyAgg prog 109 6:=.of
instance :Elem prog 109 6 72:=.of
instance :StructT prog 109 [(0,1),(1,1),(2,1),(3,1),(4,1),(5,1)] [.int .i64 0,str [],.int .i64 0,.slice none 0 0,.int .i64 0,.int .i64 0]:=.of
instance :Fld prog 109 0 0:=.of
instance :Fld prog 109 1 1:=.of
instance :Fld prog 109 2 2:=.of
instance :Fld prog 109 3 3:=.of
instance :Fld prog 109 4 4:=.of
instance :Fld prog 109 5 5:=.of
instance :TyAgg prog 111 15:=.of
instance :Elem prog 111 15 184:=.of
instance :StructT prog 111 [(0,1),(1,1),(2,1),(3,1),(4,1),(5,6),(11,1),(12,1),(13,1),(14,1)] [.int .i64 0,str [],.int .i64 0,.int .i64 0,.bool false,.int .i64 0,str [],.int .i64 0,.slice none 0 0,.int .i64 0,.int .i64 0,.slice none 0 0,.slice none 0 0,.int .i64 0,.int .i64 0]:=.of
instance :Fld prog 111 0 0:=.of
instance :Fld prog 111 1 1:=.of
instance :Fld prog 111 2 2:=.of
instance :Fld prog 111 3 3:=.of
instance :Fld prog 111 4 4:=.of
instance :Fld prog 111 5 5:=.of
instance :Fld prog 111 6 11:=.of
instance :Fld prog 111 7 12:=.of
instance :Fld prog 111 8 13:=.of
instance :Fld prog 111 9 14:=.of
instance :TyOne prog 115:=.of
instance :TyOne prog 116:=.of
instance :TySlice prog 117 122:=⟨by kernel_rfl⟩
instance :TyOne prog 117:=.of
instance :Elem prog 117 1 24:=.of
instance :StructT prog 119 [(0,1),(1,1),(2,1),(3,1)] [.pointer none,.slice none 0 0,.map none,.bool false]:=.of
instance :Fld prog 119 0 0:=.of
instance :Fld prog 119 1 1:=.of
instance :Fld prog 119 2 2:=.of
instance :Fld prog 119 3 3:=.of
instance :TyOne prog 120:=.of
instance :TyAgg prog 122 3:=.of
instance :Elem prog 122 3 32:=.of
instance :StructT prog 122 [(0,1),(1,1),(2,1)] [str [],.int .i64 0,.pointer none]:=.of
instance :Fld prog 122 0 0:=.of
instance :Fld prog 122 1 1:=.of
instance :Fld prog 122 2 2:=.of
instance :TySlice prog 125 128:=⟨by kernel_rfl⟩
instance :TyAgg prog 128 2:=.of
instance :Elem prog 128 2 24:=.of
instance :StructT prog 128 [(0,1),(1,1)] [str [],.int .i64 0]:=.of
instance :Fld prog 128 0 0:=.of
instance :Fld prog 128 1 1:=.of
instance :TySlice prog 133 252:=⟨by kernel_rfl⟩
instance :TyOne prog 133:=.of
instance :Elem prog 133 1 24:=.of
instance :StructT prog 135 [(0,1),(1,1),(2,1),(3,1),(4,1)] [.pointer none,.pointer none,.slice none 0 0,.slice none 0 0,.slice none 0 0]:=.of
instance :Fld prog 135 0 0:=.of
instance :Fld prog 135 1 1:=.of
instance :Fld prog 135 2 2:=.of
instance :Fld prog 135 3 3:=.of
instance :Fld prog 135 4 4:=.of
instance :TyOne prog 141:=.of
instance :StructT prog 143 [(0,1),(1,1),(2,1),(3,1),(4,1)] [.pointer none,.slice none 0 0,.int .i64 0,.int .i64 0,.int .i64 0]:=.of
instance :Fld prog 143 0 0:=.of
instance :Fld prog 143 1 1:=.of
instance :Fld prog 143 2 2:=.of
instance :Fld prog 143 3 3:=.of
instance :Fld prog 143 4 4:=.of
instance :StructT prog 147 [(0,1),(1,1),(2,1)] [str [],.slice none 0 0,.bool false]:=.of
instance :Fld prog 147 0 0:=.of
instance :Fld prog 147 1 1:=.of
instance :Fld prog 147 2 2:=.of
instance :TySlice prog 165 36:=⟨by kernel_rfl⟩
instance :TySlice prog 166 213:=⟨by kernel_rfl⟩
instance :TyOne prog 166:=.of
instance :Elem prog 166 1 24:=.of
instance :StructT prog 168 [(0,1),(1,1),(2,1),(3,1),(4,1),(5,1),(6,1),(7,1)] [.pointer none,.pointer none,.slice none 0 0,.slice none 0 0,.slice none 0 0,.int .i64 0,.bool false,.int .i64 0]:=.of
instance :Fld prog 168 0 0:=.of
instance :Fld prog 168 1 1:=.of
instance :Fld prog 168 2 2:=.of
instance :Fld prog 168 3 3:=.of
instance :Fld prog 168 4 4:=.of
instance :Fld prog 168 5 5:=.of
instance :Fld prog 168 6 6:=.of
instance :Fld prog 168 7 7:=.of
instance :TySlice prog 178 9:=⟨by kernel_rfl⟩
instance :TyOne prog 178:=.of
instance :Elem prog 178 1 24:=.of
instance :TyAgg prog 186 2:=.of
instance :Elem prog 186 2 24:=.of
instance :StructT prog 186 [(0,1),(1,1)] [str [],.int .i64 0]:=.of
instance :FlatT prog 186 [.str,.int .i64]:=.of
instance :TySlice prog 190 194:=⟨by kernel_rfl⟩
instance :TyOne prog 190:=.of
instance :Elem prog 190 1 24:=.of
instance :StructT prog 192 [(0,1),(1,1),(2,1)] [.pointer none,.slice none 0 0,.int .i64 0]:=.of
instance :Fld prog 192 0 0:=.of
instance :Fld prog 192 1 1:=.of
instance :Fld prog 192 2 2:=.of
instance :Elem prog 194 2 24:=.of
instance :StructT prog 194 [(0,1),(1,1)] [str [],.int .i64 0]:=.of
instance :Fld prog 194 0 0:=.of
instance :Fld prog 194 1 1:=.of
instance :TyOne prog 201:=.of
instance :StructT prog 203 [(0,1),(1,1),(2,1),(3,1),(4,1)] [.slice none 0 0,.int .i64 0,.int .i64 0,.slice none 0 0,.int .i64 0]:=.of
instance :Fld prog 203 0 0:=.of
instance :Fld prog 203 1 1:=.of
instance :Fld prog 203 2 2:=.of
instance :Fld prog 203 3 3:=.of
instance :Fld prog 203 4 4:=.of
instance :TySlice prog 207 178:=⟨by kernel_rfl⟩
instance :Elem prog 213 2 24:=.of
instance :StructT prog 213 [(0,1),(1,1)] [str [],.int .i64 0]:=.of
instance :Fld prog 213 0 0:=.of
instance :Fld prog 213 1 1:=.of
instance :TySlice prog 235 35:=⟨by kernel_rfl⟩
instance :TyAgg prog 252 2:=.of
instance :Elem prog 252 2 24:=.of
instance :StructT prog 252 [(0,1),(1,1)] [str [],.int .i64 0]:=.of
instance :Fld prog 252 0 0:=.of
instance :Fld prog 252 1 1:=.of
instance :StructT prog 267 [(0,1),(1,1)] [.slice none 0 0,.slice none 0 0]:=.of
instance :Fld prog 267 0 0:=.of
instance :Fld prog 267 1 1:=.of
instance :Own prog 9:=.of
instance :Own prog 10:=.of
instance :Own prog 11:=.of
instance :Own prog 12:=.of
instance :Own prog 13:=.of
instance :Own prog 14:=.of
instance :Own prog 15:=.of
instance :Own prog 16:=.of
instance :Own prog 17:=.of
instance :Own prog 18:=.of
instance :Own prog 19:=.of
instance :Own prog 20:=.of
instance :Own prog 21:=.of
instance :Own prog 22:=.of
instance :Own prog 23:=.of
instance :Own prog 24:=.of
instance :Own prog 25:=.of
instance :Own prog 26:=.of
instance :Own prog 27:=.of
instance :Own prog 28:=.of
instance :Own prog 29:=.of
instance :Own prog 30:=.of
instance :Own prog 33:=.of
instance :Own prog 35:=.of
instance :Own prog 36:=.of
instance :Own prog 37:=.of
instance :Own prog 38:=.of
instance :Own prog 39:=.of
instance :Own prog 40:=.of
instance :Own prog 41:=.of
instance :Own prog 42:=.of
instance :Own prog 43:=.of
instance :Own prog 44:=.of
instance :Own prog 45:=.of
instance :Own prog 46:=.of
instance :Own prog 47:=.of
instance :Own prog 48:=.of
instance :Own prog 49:=.of
instance :Own prog 50:=.of
instance :Own prog 51:=.of
instance :Own prog 52:=.of
instance :Own prog 53:=.of
instance :Own prog 54:=.of
instance :Own prog 55:=.of
instance :Own prog 56:=.of
instance :Own prog 57:=.of
instance :Own prog 58:=.of
instance :Own prog 59:=.of
instance :Own prog 60:=.of
instance :Own prog 61:=.of
instance :Own prog 62:=.of
instance :Own prog 63:=.of
instance :Own prog 64:=.of
instance :Own prog 65:=.of
instance :Own prog 66:=.of
instance :Own prog 67:=.of
instance :Own prog 68:=.of
instance :Own prog 69:=.of
instance :Own prog 70:=.of
instance :Own prog 71:=.of
instance :Own prog 72:=.of
instance :Own prog 73:=.of
instance :Own prog 74:=.of
instance :Own prog 75:=.of
instance :Own prog 76:=.of
instance :Own prog 77:=.of
instance :Own prog 78:=.of
instance :Own prog 79:=.of
instance :Own prog 80:=.of
instance :Own prog 81:=.of
instance :Own prog 82:=.of
instance :Own prog 83:=.of
instance :Own prog 84:=.of
instance :Own prog 85:=.of
instance :Own prog 86:=.of
instance :Own prog 87:=.of
instance :Own prog 88:=.of
instance :Own prog 89:=.of
instance :Own prog 90:=.of
instance :Own prog 91:=.of
instance :Own prog 92:=.of
instance :Own prog 93:=.of
instance :Own prog 94:=.of
instance :Own prog 97:=.of
instance :Own prog 98:=.of
instance :Own prog 99:=.of
instance :Own prog 100:=.of
instance :Own prog 101:=.of
instance :Own prog 102:=.of
instance :Own prog 103:=.of
instance :Own prog 104:=.of
instance :Own prog 105:=.of
instance :Own prog 106:=.of
instance :Own prog 107:=.of
instance :Own prog 108:=.of
instance :Own prog 109:=.of
instance :Own prog 110:=.of
instance :Own prog 111:=.of
instance :Own prog 112:=.of
instance :Own prog 113:=.of
instance :Own prog 114:=.of
instance :Own prog 115:=.of
instance :Own prog 116:=.of
instance :Own prog 117:=.of
instance :Own prog 120:=.of
instance :Own prog 121:=.of
instance :Own prog 122:=.of
instance :Own prog 123:=.of
instance :Own prog 124:=.of
instance :Own prog 129:=.of
instance :Own prog 133:=.of
instance :Own prog 134:=.of
instance :Own prog 135:=.of
instance :Own prog 136:=.of
instance :Own prog 137:=.of
instance :Own prog 138:=.of
instance :Own prog 139:=.of
instance :Own prog 140:=.of
instance :Own prog 141:=.of
instance :Own prog 153:=.of
instance :Own prog 154:=.of
instance :Own prog 155:=.of
instance :Own prog 156:=.of
instance :Own prog 157:=.of
instance :Own prog 158:=.of
instance :Own prog 160:=.of
instance :Own prog 161:=.of
instance :Own prog 162:=.of
instance :Own prog 166:=.of
instance :Own prog 167:=.of
instance :Own prog 168:=.of
instance :Own prog 169:=.of
instance :Own prog 170:=.of
instance :Own prog 171:=.of
instance :Own prog 172:=.of
instance :Own prog 173:=.of
instance :Own prog 174:=.of
instance :Own prog 175:=.of
instance :Own prog 176:=.of
instance :Own prog 177:=.of
instance :Own prog 178:=.of
instance :Own prog 179:=.of
instance :Own prog 186:=.of
instance :Own prog 187:=.of
instance :Own prog 188:=.of
instance :Own prog 191:=.of
instance :Own prog 192:=.of
instance :Own prog 193:=.of
instance :Own prog 198:=.of
instance :Own prog 199:=.of
instance :Own prog 202:=.of
instance :Own prog 203:=.of
instance :Own prog 210:=.of
instance :Own prog 211:=.of
instance :Own prog 212:=.of
end Go.Proofs
namespace Go.Proofs
open Go.Proofs.Tryz
open Go.Sp
open Go.Fw
abbrev ptr (b:Nat):Value:=.pointer (some ⟨b,0,none⟩)
abbrev nt (n:Nat):Value:=.int .i64 (n:Int)
mutual
def A9g (I:P8):Sp.Ex->List Value->Prop
 | .mk k nm n args f t,cs=> ∃a cap xs,cs= [nt k,str nm,nt n,.slice a args.length cap,nt f,nt t]/\RowI I 109 6 (.slice a args.length cap) args.length xs/\Z7 I args xs
def Z7 (I:P8):List Sp.Ex->List Value->Prop
 | [],xs=>xs= []
 |e::es,xs=> ∃c r,xs=c++r/\A9g I e c/\Z7 I es r
 end
mutual
theorem A9g.le {I I':P8} (m:Le I I'):∀(e:Sp.Ex) (cs:List Value),A9g I e cs->A9g I' e cs
 | .mk k nm n args f t,cs,h=>by
  rw[A9g]at h |-;obtain⟨a,cap,xs,h1,h2,h3⟩:=h;exact⟨a,cap,xs,h1,h2.le m,Z7.le m _ _ h3⟩
theorem Z7.le {I I':P8} (m:Le I I'):∀(es:List Sp.Ex) (xs:List Value),Z7 I es xs->Z7 I' es xs
 | [],xs,h=>by rw[Z7]at h |-;exact h
 |e::es,xs,h=>by
  rw[Z7]at h |-;obtain⟨c,r,h1,h2,h3⟩:=h;exact⟨c,r,h1,A9g.le m _ _ h2,Z7.le m _ _ h3⟩
 end
theorem A9g.out {I:P8}{e:Sp.Ex}{cs:List Value} (h:A9g I e cs):
  ∃a cap xs,cs= [nt e.kind,str e.name,nt e.n,.slice a e.args.length cap,nt e.fr,nt e.to]/\RowI I 109 6 (.slice a e.args.length cap) e.args.length xs/\Z7 I e.args xs:=by
 cases e with
 |mk k nm n args f t=>rw[A9g]at h;exact h
theorem A9g.of {I:P8}{k n f t cap:Nat}{nm:List UInt8}{a:Option Addr}{args:List Sp.Ex}{xs:List Value} (h2:RowI I 109 6 (.slice a args.length cap) args.length xs) (h3:Z7 I args xs):
  A9g I (.mk k nm n args f t) [nt k,str nm,nt n,.slice a args.length cap,nt f,nt t]:=by
 rw[A9g];exact⟨a,cap,xs,rfl,h2,h3⟩
theorem A9g.len {I:P8}{e:Sp.Ex}{cs:List Value} (h:A9g I e cs):cs.length=6:=by
 obtain⟨_,_,_,rfl,_⟩:=h.out;rfl
theorem Z7.nil {I:P8}:Z7 I [] []:=by rw[Z7]
theorem Z7.snoc {I:P8}:∀ {es:List Sp.Ex}{xs c:List Value}{e:Sp.Ex},Z7 I es xs->A9g I e c->Z7 I (es++ [e]) (xs++c)
 | [],xs,c,e,h,he=>by
  rw[Z7]at h;subst h;rw[L9,L9,Z7];exact⟨c,[],by simp,he,by rw[Z7]⟩
 |a::es,xs,c,e,h,he=>by
  rw[Z7]at h;obtain⟨c1,r,rfl,h2,h3⟩:=h;rw[Q8,Z7];exact⟨c1,r++c,by rw[J5],h2,h3.snoc he⟩
theorem Z7.get {I:P8}:∀ {es:List Sp.Ex}{xs:List Value}{i:Nat}{e:Sp.Ex},Z7 I es xs->es[i]?=some e->A9g I e ((xs.drop (i *6)).take 6)
 | [],_,_,_,_,he=>by simp at he
 |a::es,xs,0,e,h,he=>by
  rw[Z7]at h;obtain⟨c,r,rfl,h2,h3⟩:=h;simp only[A08,X4]at he;subst he;rw[A14,A2t,A26 (by rw[h2.len];omega),A0W (by rw[h2.len];omega)];exact h2
 |a::es,xs,i+1,e,h,he=>by
  rw[Z7]at h;obtain⟨c,r,rfl,h2,h3⟩:=h;rw[A02]at he;have:=h3.get he;rw[A6L,A6H (by rw[h2.len];omega),L9,h2.len,show (i+1) *6-6=i *6 by omega];exact this
abbrev A2H (k:Nat) (nm:List UInt8) (a lb:Nat) (o:Bool) (e:Sp.Ex) (ea:Option Addr) (ec:Nat) (v1 v2:Value) (f t:Nat):List Value:=
 [nt k,str nm,nt a,nt lb,.bool o,nt e.kind,str e.name,nt e.n,.slice ea e.args.length ec,nt e.fr,nt e.to,v1,v2,nt f,nt t]
mutual
def A6n (I:P8):Sp.Stm->List Value->Prop
 | .mk k nm a lb o e thn els f t,cs=> ∃ea ec ex a1 c1 xs1 a2 c2 xs2,cs=A2H k nm a lb o e ea ec (.slice a1 thn.length c1) (.slice a2 els.length c2) f t/\
  RowI I 109 6 (.slice ea e.args.length ec) e.args.length ex/\Z7 I e.args ex/\
  RowI I 111 15 (.slice a1 thn.length c1) thn.length xs1/\V4 I thn xs1/\RowI I 111 15 (.slice a2 els.length c2) els.length xs2/\V4 I els xs2
def V4 (I:P8):List Sp.Stm->List Value->Prop
 | [],xs=>xs= []
 |e::es,xs=> ∃c r,xs=c++r/\A6n I e c/\V4 I es r
 end
mutual
theorem A6n.le {I I':P8} (m:Le I I'):∀(e:Sp.Stm) (cs:List Value),A6n I e cs->A6n I' e cs
 | .mk k nm a lb o e thn els f t,cs,h=>by
  rw[A6n]at h |-;obtain⟨ea,ec,ex,a1,c1,xs1,a2,c2,xs2,h1,h2,h3,h4,h5,h6,h7⟩:=h;exact⟨ea,ec,ex,a1,c1,xs1,a2,c2,xs2,h1,h2.le m,Z7.le m _ _ h3,h4.le m,V4.le m _ _ h5,h6.le m,V4.le m _ _ h7⟩
theorem V4.le {I I':P8} (m:Le I I'):∀(es:List Sp.Stm) (xs:List Value),V4 I es xs->V4 I' es xs
 | [],xs,h=>by rw[V4]at h |-;exact h
 |e::es,xs,h=>by
  rw[V4]at h |-;obtain⟨c,r,h1,h2,h3⟩:=h;exact⟨c,r,h1,A6n.le m _ _ h2,V4.le m _ _ h3⟩
 end
theorem A6n.out {I:P8}{s:Sp.Stm}{cs:List Value} (h:A6n I s cs):∃ea ec ex a1 c1 xs1 a2 c2 xs2,cs=A2H s.kind s.name s.at_ s.label s.opn s.e ea ec (.slice a1 s.thn.length c1) (.slice a2 s.els.length c2) s.fr s.to/\
  RowI I 109 6 (.slice ea s.e.args.length ec) s.e.args.length ex/\Z7 I s.e.args ex/\
  RowI I 111 15 (.slice a1 s.thn.length c1) s.thn.length xs1/\V4 I s.thn xs1/\RowI I 111 15 (.slice a2 s.els.length c2) s.els.length xs2/\V4 I s.els xs2:=by
 cases s with
 |mk k nm a lb o e thn els f t=>rw[A6n]at h;exact h
theorem A6n.of {I:P8}{k a lb f t ec c1 c2:Nat}{nm:List UInt8}{o:Bool}{e:Sp.Ex}{thn els:List Sp.Stm}{ea a1 a2:Option Addr}{ex xs1 xs2:List Value}
  (h2:RowI I 109 6 (.slice ea e.args.length ec) e.args.length ex) (h3:Z7 I e.args ex)
  (h4:RowI I 111 15 (.slice a1 thn.length c1) thn.length xs1) (h5:V4 I thn xs1) (h6:RowI I 111 15 (.slice a2 els.length c2) els.length xs2) (h7:V4 I els xs2):
  A6n I (.mk k nm a lb o e thn els f t) (A2H k nm a lb o e ea ec (.slice a1 thn.length c1) (.slice a2 els.length c2) f t):=by
 rw[A6n];exact⟨ea,ec,ex,a1,c1,xs1,a2,c2,xs2,rfl,h2,h3,h4,h5,h6,h7⟩
theorem A6n.len {I:P8}{e:Sp.Stm}{cs:List Value} (h:A6n I e cs):cs.length=15:=by
 obtain⟨_,_,_,_,_,_,_,_,_,rfl,_⟩:=h.out;rfl
theorem V4.nil {I:P8}:V4 I [] []:=by rw[V4]
theorem V4.snoc {I:P8}:∀ {es:List Sp.Stm}{xs c:List Value}{e:Sp.Stm},V4 I es xs->A6n I e c->V4 I (es++ [e]) (xs++c)
 | [],xs,c,e,h,he=>by
  rw[V4]at h;subst h;rw[L9,L9,V4];exact⟨c,[],by simp,he,by rw[V4]⟩
 |a::es,xs,c,e,h,he=>by
  rw[V4]at h;obtain⟨c1,r,rfl,h2,h3⟩:=h;rw[Q8,V4];exact⟨c1,r++c,by rw[J5],h2,h3.snoc he⟩
theorem V4.get {I:P8}:∀ {es:List Sp.Stm}{xs:List Value}{i:Nat}{e:Sp.Stm},V4 I es xs->es[i]?=some e->A6n I e ((xs.drop (i *15)).take 15)
 | [],_,_,_,_,he=>by simp at he
 |a::es,xs,0,e,h,he=>by
  rw[V4]at h;obtain⟨c,r,rfl,h2,h3⟩:=h;simp only[A08,X4]at he;subst he;rw[A14,A2t,A26 (by rw[h2.len];omega),A0W (by rw[h2.len];omega)];exact h2
 |a::es,xs,i+1,e,h,he=>by
  rw[V4]at h;obtain⟨c,r,rfl,h2,h3⟩:=h;rw[A02]at he;have:=h3.get he;rw[A6L,A6H (by rw[h2.len];omega),L9,h2.len,show (i+1) *15-15=i *15 by omega];exact this
abbrev A5F (d:Sp.Dg):List Value:= [nt d.fr,nt d.to,nt d.err,str d.name]
abbrev A2L (p:Sp.Par):List Value:= [str p.name,nt p.label,nt p.at_]
abbrev A27 (p:Sp.Rf):List Value:= [str p.name,nt p.at_]
abbrev A1J (k:Nat) (nm:List UInt8) (lb:Nat) (vp vs vb:Value) (a:Int) (sz mk:Nat) (vd:Value):List Value:= [nt k,str nm,nt lb,vp,vs,vb,.int .i64 a,nt sz,nt mk,vd]
def A67 (I:P8) (it:Sp.Itm) (cs:List Value):Prop:= ∃ap cp as_ cs' ab cb ad cd xb,cs=A1J it.kind it.name it.label (.slice ap it.params.length cp) (.slice as_ it.sends.length cs') (.slice ab it.body.length cb) it.at_ it.size it.mark (.slice ad it.diags.length cd)/\
 RowI I 103 3 (.slice ap it.params.length cp) it.params.length (it.params.flatMap A2L)/\RowI I 106 2 (.slice as_ it.sends.length cs') it.sends.length (it.sends.flatMap A27)/\
 RowI I 111 15 (.slice ab it.body.length cb) it.body.length xb/\V4 I it.body xb/\RowI I 85 4 (.slice ad it.diags.length cd) it.diags.length (it.diags.flatMap A5F)
theorem A67.le {I I':P8} (m:Le I I') {it:Sp.Itm}{cs:List Value} (h:A67 I it cs):A67 I' it cs:=by
 obtain⟨ap,cp,as_,cs',ab,cb,ad,cd,xb,h1,h2,h3,h4,h5,h6⟩:=h;exact⟨ap,cp,as_,cs',ab,cb,ad,cd,xb,h1,h2.le m,h3.le m,h4.le m,h5.le m,h6.le m⟩
theorem A67.len {I:P8}{it:Sp.Itm}{cs:List Value} (h:A67 I it cs):cs.length=10:=by
 obtain⟨_,_,_,_,_,_,_,_,_,rfl,_⟩:=h;rfl
def A4W (I:P8):List Sp.Itm->List Value->Prop
 | [],xs=>xs= []
 |e::es,xs=> ∃c r,xs=c++r/\A67 I e c/\A4W I es r
theorem A4W.le {I I':P8} (m:Le I I'):∀ {es:List Sp.Itm}{xs:List Value},A4W I es xs->A4W I' es xs
 | [],_,h=>h
 |_::_,_,⟨c,r,h1,h2,h3⟩=>⟨c,r,h1,h2.le m,h3.le m⟩
theorem A4W.snoc {I:P8}:∀ {es:List Sp.Itm}{xs c:List Value}{e:Sp.Itm},A4W I es xs->A67 I e c->A4W I (es++ [e]) (xs++c)
 | [],xs,c,e,h,he=>by
  obtain rfl:xs= []:=h;exact⟨c,[],by simp,he,rfl⟩
 |a::es,xs,c,e,⟨c1,r,e1,h2,h3⟩,he=>⟨c1,r++c,by rw[e1,J5],h2,h3.snoc he⟩
theorem A4W.get {I:P8}:∀ {es:List Sp.Itm}{xs:List Value}{i:Nat}{e:Sp.Itm},A4W I es xs->es[i]?=some e->A67 I e ((xs.drop (i *10)).take 10)
 | [],_,_,_,_,he=>by simp at he
 |a::es,xs,0,e,h,he=>by
  obtain⟨c,r,rfl,h2,h3⟩:=h;simp only[A08,X4]at he;subst he;rw[A14,A2t,A26 (by rw[h2.len];omega),A0W (by rw[h2.len];omega)];exact h2
 |a::es,xs,i+1,e,h,he=>by
  obtain⟨c,r,rfl,h2,h3⟩:=h;rw[A02]at he;have:=h3.get he;rw[A6L,A6H (by rw[h2.len];omega),L9,h2.len,show (i+1) *10-10=i *10 by omega];exact this
theorem toNat_inj {a b:UInt8} (h:(a.toNat:Int)=b.toNat):a=b:=UInt8.toNat_inj.1 (by omega)
def A2a (t:Sp.Tok):List Value:= [.int .i64 (t.kind:Int),str t.text,.int .i64 (t.pos:Int)]
theorem D5t {s:List UInt8}{k:Nat} (h:k<s.length) (hf:A01 (s.getD k 0)=false):A9l s=false:=by
 have:s.all A01=false:=by
  rw[Bool.eq_false_iff];intro h1;have:=(C6H _ _).1 h1 k h;rw[hf]at this;cases this
 simp[A9l,this]
def A2K (n:Nat):List Value:= [.int .i64 (n:Int)]
theorem C4J (l:List Sp.Tok) (k:Nat) (t:Sp.Tok) (h:l[k]?=some t) (j:Nat) (v:Value) (hv:(A2a t)[j]?=some v):(l.flatMap A2a)[k *3+j]?=some v:=by
 induction l generalizing k with
 |nil=>simp at h
 |cons a l ih=>
  have hj:j<3:=by
   have:=(A0D.1 hv).1;simpa[A2a] using this
  cases k with
  |zero=>
   simp at h
   subst h;rw[A0c,A4P (by simp[A2a];omega)];simpa using hv
  |succ k=>
   rw[A0c,A2B (by simp[A2a];omega)];have:=ih k (by simpa using h);rw[<-this]
   congr 1
   simp[A2a];omega
theorem A8f (s:List UInt8):(Q5 s).length<=s.length:=by
 have key:∀(n k:Nat),s.length-k=n->(A3F s k).length<=n:=by
  intro n;induction n using Nat.strongRecOn with
  |_ n ih=>
   intro k hn;by_cases h:k<s.length
   ·have hl:=A6N (s.drop k) (by simp;omega)
    simp only[A0v]at hl;have:=ih (s.length-(k+(Sp.one (s.drop k)).2)) (by omega) _ rfl;rw[A46 s k h,D9];split
    ·simp;omega
    ·simp;omega
   ·rw[A5V s k (by omega)];simp
 have:=key _ 0 rfl;rw[A8F];simpa using this
end Go.Proofs
