/- Own work. -/
import Derived.Test.YtfgmppgjopchoaaGreatDoorSw5
set_option maxHeartbeats 64000000
namespace Go.Fw
open Go
def C3L (ops:Array Oper) (n:Nat) (listed:Array Bool):Bool:=
 decide (listed.size=ops.size) && ((List.range ops.size).all (fun j=> !listed.getD j false||(match ops[j]? with|some o=>o.after.all (fun e=> !Region.binds .any e||listed.getD e.on false)|none=>true)) && (List.range ops.size).all (fun t=>Nat.blt t n|| !listed.getD t true))
theorem B9g {ops:Array Oper}{n:Nat}{listed:Array Bool} (h:C3L ops n listed=true):HeadInv .any ops n listed:=by
 simp only[C3L,V5,decide_eq_true_eq,A2U,A19]at h;obtain⟨h1,h2,h3⟩:=h;refine⟨h1,fun j oj hj hl e he hb=>?_,fun t ht hts=>?_⟩
 ·have:=h2 j (A7C.1 hj).1
  rw[hl,hj]at this;simp only[Bool.not_true,Bool.false_or,Array.all_eq_true']at this;have:=this e he;rw[hb]at this;simpa using this
 ·have:=h3 t hts
  rw[show Nat.blt t n=false by cases hb:Nat.blt t n with|false=>rfl|true=>rw[A1E]at hb;omega]at this;simpa using this
def C4C (ops:Array Oper) (n f:Nat) (ks:List Nat) (listed:Array Bool):Bool:=
 Region.noSelect ops && decide (n<ops.size) && Region.sinkB .any ops n && Region.chainB .any ops n && C3L ops n listed && B7I .any ops n ks listed && Nat.ble ks.length f && ks.all (fun k=>Nat.blt k ops.size)
section
variable {P:Program}{N:Nat}{ds:List Deferred}{X:List Nat}{Q:Exit->Act->World->Prop}{l:Log}{w w' w0:World}{os tail:List Oper}{ops:Array Oper}{E:Ent}{I I0:P7}{G R H:List HItem}{o:Oper}
variable {d:Nat}{ty:TypeId}{pos:String}{af:Array Edge}{g:Option (Nat×Bool)}{t t':TypeId}{x y z:Operand}{n f:Nat}{listed:Array Bool}
theorem A5d (ks:List Nat) (hB:C4C ops n f ks listed=true) (hk:Kept X w0 w)
  (h:WV P N ds ops X w0 (fun a'=>B1y P .any ops (fun w'=>Kept X w0 w') n (fun listed' a' w'=>Region.seqB .any ops (ops.size-n) n listed'=true/\wpList P ops Q tail a' w') (f-ks.length) (B7J ks listed) a' w) (A2Z ops.toList ks) l):WA P N ds ops Q X w0 n f listed tail l w:=by
 simp only[C4C,V5,decide_eq_true_eq]at hB;obtain⟨⟨⟨⟨⟨⟨⟨hsel,hn⟩,hs⟩,hc⟩,hh⟩,hlex⟩,hlen⟩,hks⟩:=hB;obtain⟨k1,k2⟩:=A37 ops.toList ks (by simpa using hks);refine⟨fun a ha=>?_⟩
 have H:=B0m (md:=.any) (g:=ops.size-n) (f:=f-ks.length) hsel hs hc hn ks (A2Z ops.toList ks) listed a w hk (by simpa using k1) (B9g hh) hlex (h.run a ha);rw[k2,show ks.length+(f-ks.length)=f by have:=A2T hlen;omega]at H;exact H
theorem A7g {n f:Nat}{listed:Array Bool} (h:WA P N ds ops Q X w0 n f listed tail l w):
  WV P N ds ops X w0 (fun a'=>B1y P .any ops (fun w'=>Kept X w0 w') n (fun listed' a' w'=>Region.seqB .any ops (ops.size-n) n listed'=true/\wpList P ops Q tail a' w') f listed a' w) [] l:=⟨fun a ha=>h.run a ha⟩
theorem C14 {i b off n' by_:Nat} [Elem P t n' by_] {c vs:List Value}{e:TypeId}{dst:Option Nat} (hm:Mem ⟨w0,X,I0⟩ I H w) (hd:dst=none) (hw:U7 ops l ⟨dst,.store t x y,ty,pos,af,g⟩=some true)
  (hx:ev l x=some (.pointer (some ⟨b,off,none⟩))) (hy:ev l y=some (.agg vs.toArray)) (hb:H[i]?=some (.obj b (.cells c.toArray e (0,0)))) (hn:vs.length=n') (ho:Nat.ble (off+n') c.length=true)
  (h1:vs.all (·.oneCell')=true)
  (k:∀w',Mem ⟨w0,X,I0⟩ I (H.set i (.obj b (.cells (c.take off++(vs++c.drop (off+n'))).toArray e (0,0)))) w'->WA P N ds ops Q X w0 n f listed tail l w'):
  WU P N ds ops Q X w0 n f listed tail ⟨dst,.store t x y,ty,pos,af,g⟩ l w:=by
 subst hd;have hget:=hm.get hb;have h2:=A6k (P:=P) (t:=t) (off:=off) (.agg vs.toArray) hget (by simpa[Value.cells] using hn) (by simpa using A2T ho) (by simpa[Value.cells] using h1);generalize hc':(c.toArray.toList.take off++(Value.agg vs.toArray).cells.toList++c.toArray.toList.drop (off+n')).toArray=c' at h2;have e0:c'=(c.take off++(vs++c.drop (off+n'))).toArray:=by
  rw[<-hc'];simp[Value.cells]
 rw[e0]at h2;have hk:Kept [b] w (w.setRow b (c.take off++(vs++c.drop (off+n'))).toArray):=Kept.setRow hget _;have hm':=hm.turn (h':=.obj b (.cells (c.take off++(vs++c.drop (off+n'))).toArray e (0,0))) hb (by simpa[HItem.blk] using hk) (by
  show (w.setRow b _).heap[b]?=_
  rw[setRow_heap w b c.toArray _ e (0,0) hget]) (.inl rfl)
 refine B2W rfl hw (fun a ha=>?_) hm'.kept (k _ hm')
 simp only[execOp,Instr.storeAt,Instr.sureAddr,ha.ev hx,ha.ev hy,Sem.run_bind,Sem.run_pure,Result.andThen,h2]
end
section
variable {P:Program}{ops:Array Oper}{md:Region.Mode}{C:World->Prop}
theorem C5c {n i:Nat}{oi:Oper}{v:Value}{L:Array Bool->Act->World->Prop} (hi:ops[i]?=some oi) (hsel:∀(j:Nat) (o:Oper) cs b,ops[j]?=some o->o.op≠ .select cs b)
  (hn:n=ops.size)
  (hdone:∀listed a w,L listed a w->∀j∈Region.ready md ops listed,n<=j):
  ∀(f:Nat) (listed:Array Bool) (a:Act) (w:World),C w->HeadInv md ops n listed->
   (∀j oj,ops[j]?=some oj->j≠i->listed.getD j true=false->(∀e∈oj.after,Region.binds md e=true->e.on≠i)->oi.apart ops oj=true)->
   i∈Region.ready md ops listed->A2j P ops C oi v a->
   B0n P md ops C n L f (listed.setIfInBounds i true) (a.put oi.dst v) w->B0n P md ops C n L (f+1) listed a w:=by
 intro f;induction f with
 |zero=>
  intro listed a w hC inv _ hr hy H;refine⟨fun h=>(by rw[h]at hr;cases hr),fun j hj=>?_⟩
  have hjn:j<n:=by
   obtain⟨_,oj,hoj,_⟩:=mem_ready.1 hj;rw[hn];exact(A7C.1 hoj).1
  refine⟨hjn,?_⟩
  by_cases hji:j=i
  ·subst hji;exact hy.vOp hi hC ⟨hC,H⟩
  ·have:=hdone _ _ _ H j (ready_mono hj hji)
   omega
 |succ f ih=>
  intro listed a w hC inv hfree hr hy H;have hun:=(mem_ready.1 hr).1;refine⟨fun h=>(by rw[h]at hr;cases hr),fun j hj=>?_⟩
  have hjn:j<n:=by
   obtain⟨_,oj,hoj,_⟩:=mem_ready.1 hj;rw[hn];exact(A7C.1 hoj).1
  refine⟨hjn,?_⟩
  by_cases hji:j=i
  ·subst hji;exact hy.vOp hi hC ⟨hC,H⟩
  ·have h1:=(H.2 j (ready_mono hj hji)).2
   obtain⟨hjun,oj,hoj,hall⟩:=mem_ready.1 hj;have hnot:∀e∈oj.after,Region.binds md e=true->e.on≠i:=fun e he hb heq=>by
    have h1:=hall e he hb;rw[heq,getD_both hun]at h1;cases h1
   have h2:=C1i hoj (hfree j oj hoj hji hjun hnot) (fun cs b=>hsel i oi cs b hi) (fun cs b=>hsel j oj cs b hoj) hy h1;have hfree':∀k ok,ops[k]?=some ok->k≠i->(listed.setIfInBounds j true).getD k true=false->
     (∀e∈ok.after,Region.binds md e=true->e.on≠i)->oi.apart ops ok=true:=fun k ok hk hki hun hno=>by
    refine hfree k ok hk hki ?_ hno
    by_cases hjk:j=k
    ·subst hjk;exact hjun
    ·rw[getD_set_ne true hjk]at hun;exact hun
   refine B4d (fun a' w' h3=>⟨h3.2.1,ih (listed.setIfInBounds j true) a' w' h3.2.1 (inv.set hj hjn) hfree' (ready_mono hr (Ne.symm hji)) h3.1 ?_⟩) h2
   rw[A74 _ _ hji];exact h3.2.2
theorem B29 {n g:Nat}{Lq:Act->World->Prop}{js:List Nat}{lt:List Oper} (hsel:Region.noSelect ops=true) (hn:n=ops.size)
  (hlt:js.map (ops[·]?)=lt.map some):
  ∀(ks:List Nat) (l:List Oper) (listed:Array Bool) (a:Act) (w:World),C w->ks.map (ops[·]?)=l.map some->HeadInv md ops n listed->
  B09 md ops g n js ks listed=true->A7c P ops C (fun a'=>A4k P ops C Lq lt a' w) l a->
  B0n P md ops C n (fun listed' a' w'=>Region.seqB md ops g n listed'=true/\Lq a' w') (l.length+lt.length) listed a w
 | [],[],listed,a,w,_,_,_,hB,h=>by
  rw[List.length_nil,W9];exact B1z js lt listed a w hlt (by simpa[B09] using hB) h
 |k::ks,o::l,listed,a,w,hC,hl,inv,hB,h=>by
  simp only[X7,A2L]at hl;obtain⟨h0,hl'⟩:=hl;simp only[B09,V5,decide_eq_true_eq]at hB;obtain⟨⟨⟨hr,hf⟩,hkn⟩,hB'⟩:=hB;have hr':k∈Region.ready md ops listed:=by simpa using hr
  obtain⟨v,hy,hK⟩:=h;rw[show (o::l).length+lt.length=(l.length+lt.length)+1 by simp only[F9];omega];exact C5c h0 (Region.noSelect_spec hsel) hn (fun listed' a' w' hL=>seqB_ready hL.1) (l.length+lt.length) listed a w hC inv (Region.free_spec h0 hf) hr' hy
   (B29 hsel hn hlt ks l _ _ w hC hl' (inv.set hr' hkn) hB' hK)
 | [],_::_,_,_,_,_,hl,_,_,_=>by simp at hl
 |_::_,[],_,_,_,_,hl,_,_,_=>by simp at hl
def B6l (ops:Array Oper) (ks js:List Nat) (n:Nat):Bool:=
 Region.noSelect ops && decide (n=ops.size) && B09 .any ops (ops.size-n) n js ks (Array.replicate ops.size false) && decide (ks.length+js.length=n) &&
  ks.all (fun k=>Nat.blt k ops.size) && js.all (fun k=>Nat.blt k ops.size)
theorem B2F {id:Nat}{Q:Exit->Act->World->Prop}{a:Act}{w:World}{l:List Oper} (ks js:List Nat) (n:Nat) (hm:P.follows .mixedOrders=true) (hB:B6l l.toArray ks js n=true)
  (hC:C { w with drawn:=w.drawn+1})
  (h:A7c P l.toArray C (fun a'=>A4k P l.toArray C (fun a' w'=>wpList P l.toArray Q (l.drop n) a' w') (A2Z l js) a' { w with drawn:=w.drawn+1}) (A2Z l ks) a):(Code.region id l.toArray true).wp P Q a w:=by
 simp only[B6l,V5,decide_eq_true_eq]at hB;obtain⟨⟨⟨⟨⟨hsel,hn⟩,hlex⟩,hlen⟩,hks⟩,hjs⟩:=hB;have hn':n=l.length:=by simpa using hn
 have hdl:(l.drop n).length=l.toArray.size-n:=by simp
 obtain⟨k1,k2⟩:=A37 l ks (by simpa using hks);obtain⟨j1,j2⟩:=A37 l js (by simpa using hjs);have inv0:HeadInv .any l.toArray n (Array.replicate l.toArray.size false):=
  ⟨by simp,fun j oj _ hl=>(by rw[getD_replicate_false]at hl;cases hl),fun t _ ht=>getD_in (by simpa using ht) (getD_replicate_false _ _)⟩
 have H:=B29 (md:=.any) (g:=l.toArray.size-n) (lt:=A2Z l js) hsel hn j1 ks (A2Z l ks) _ a _ hC k1 inv0 hlex h;refine wp_region_any hm ?_
 have:=A80 (Q':=Q) (g:=l.toArray.size-n) (fun listed a' w' hL=>by
  have:=wpAny_of_seq (md:=.any) (Q':=Q) (l.drop n) n listed a' w' (fun j=>by simp) (by rw[hdl];exact hL.1) hL.2
  rwa [hdl]at this) _ _ _ _ H
 rw[k2,j2,hlen,show n+(l.toArray.size-n)=l.toArray.size by omega]at this;exact this
end
section
variable {P:Program}{N:Nat}{ds:List Deferred}{X:List Nat}{Q:Exit->Act->World->Prop}{l:Log}{w:World}{os:List Oper}{E:Ent}{I:P7}{G R:List HItem}
theorem C5j [Mixed P] {id:Nat} (ks js:List Nat) (n:Nat) (X:List Nat) (hB:B6l os.toArray ks js n=true)
  (h:∀wd,Kept [] w wd->WV P N ds os.toArray X wd (fun a'=>A4k P os.toArray (fun w'=>Kept X wd w') (fun a' w'=>wpList P os.toArray Q (os.drop n) a' w') (A2Z os js) a' wd) (A2Z os ks) l):
  WC P N ds (.region id os.toArray true) Q l w:=
 ⟨fun a ha=>B2F (C:=fun w'=>Kept X { w with drawn:=w.drawn+1} w') ks js n Mixed.out hB (Kept.refl _ _) ((h _ (Kept.drew w)).run a ha)⟩
theorem Z8 [Mixed P] {id:Nat} (hm:Mem E I (G++R) w) (ks js:List Nat) (n:Nat) (hB:B6l os.toArray ks js n=true)
  (h:∀wd,Mem E I (G++R) wd->Mem ⟨wd,A2p G,I⟩ I G wd->WV P N ds os.toArray (A2p G) wd (fun a'=>A4k P os.toArray (fun w'=>Kept (A2p G) wd w') (fun a' w'=>wpList P os.toArray Q (os.drop n) a' w') (A2Z os js) a' wd) (A2Z os ks) l):
  WC P N ds (.region id os.toArray true) Q l w:=
 C5j ks js n (A2p G) hB (fun wd hk=>h wd (hm.kept0 hk) (hm.kept0 hk).sub)
end
end Go.Fw
namespace Go.Sp
structure Qn where
 id:Int
 kind:Int
 fr:Int
 to:Int
 text:List UInt8
 args:List Int
def bit (n k:Nat):Bool:=decide (n / 2 ^ k % 2=1)
theorem C21 (n k:Nat):bit n k=n.testBit k:=by
 rw[bit,Nat.testBit_eq_decide_div_mod_eq]
def B2g (a b:Nat):Bool:=(List.range 8).all (fun k=> !bit a k||bit b k)
theorem B84 {a b:Nat} (ha:a<256) (hb:b<256) (h:∀k,k<8->a.testBit k=b.testBit k):a=b:=by
 apply Nat.eq_of_testBit_eq
 intro k;by_cases hk:k<8
 ·exact h k hk
 ·have h1:2 ^ 8<=2 ^ k:=Nat.pow_le_pow_right (by omega) (by omega)
  rw[Nat.testBit_lt_two_pow (by omega),Nat.testBit_lt_two_pow (by omega)]
theorem C1J (a b:Nat):B2g a b=true↔ ∀k,k<8->a.testBit k=true->b.testBit k=true:=by
 simp only[B2g,A2U,A19,C21];constructor
 ·intro h k hk ha;have:=h k hk;rw[ha]at this;simpa using this
 ·intro h k hk
  cases ha:a.testBit k
  ·rfl
  ·rw[h k hk ha];rfl
theorem C2T {a b:Nat} (ha:a<256):a &&& b<256:=Nat.lt_of_le_of_lt Nat.and_le_left ha
theorem B0d {a b:Nat} (ha:a<256) (hb:b<256):a|||b<256:=Nat.or_lt_two_pow (n:=8) ha hb
theorem B6Z {a b:Nat} (ha:a<256) (hb:b<256):(a &&& (2 ^ 64-1-b)=0)↔B2g a b=true:=by
 have hn:∀k,k<8->(2 ^ 64-1-b).testBit k= !b.testBit k:=by
  intro k hk;have:2 ^ 64-1-b=2 ^ 64-(b+1):=by omega
  rw[this,Nat.testBit_two_pow_sub_succ (by omega)];simp;omega
 rw[C1J];constructor
 ·intro h k hk h1
  have h2:(a &&& (2 ^ 64-1-b)).testBit k=false:=by rw[h];simp
  rw[Nat.testBit_and,h1,hn k hk,A5Y]at h2;simpa using h2
 ·intro h
  refine B84 (C2T ha) (by omega) (fun k hk=>?_)
  rw[Nat.testBit_and,hn k hk,Nat.zero_testBit];cases h1:a.testBit k
  ·rfl
  ·rw[h k hk h1];rfl
def A42 (c:UInt8):Bool:=(decide (97<=c.toNat) && decide (c.toNat<=122))||(decide (65<=c.toNat) && decide (c.toNat<=90))||decide (c.toNat=95)
def A41 (c:UInt8):Bool:=decide (48<=c.toNat) && decide (c.toNat<=57)
def A9G (c:UInt8):Bool:=decide (c.toNat=32)||decide (c.toNat=10)||decide (c.toNat=9)
def B5o:List UInt8:= [40,41,123,125,44,58,59,61,43,45,42,60]
def B5R (c:UInt8):Bool:=B5o.any (fun x=>decide (x=c))
def A58 (c:UInt8):Bool:=A42 c||A41 c
def B54 (c:UInt8):Bool:=decide (c.toNat≠10)
def run (F:UInt8->Bool) (r:List UInt8):Nat:=1+(r.takeWhile F).length
def one:List UInt8->Nat×Nat
 | []=>(4,1)
 |c::r=>
  if A9G c then (0,run A9G r) else
  if c.toNat=35 then (0,run B54 r) else
  if A42 c then (1,run A58 r) else
  if A41 c then (2,run A41 r) else
  if B5R c then (3,1) else (4,1)
structure Tok where
 kind:Nat
 text:List UInt8
 pos:Nat
 deriving DecidableEq
def A8F:Nat->List UInt8->Nat->List Tok
 |0,_,_=> []
 |f+1,s,at_=>
  if s= [] then [] else
  if (one s).1>0 then ⟨(one s).1,s.take (one s).2,at_⟩::A8F f (s.drop (one s).2) (at_+(one s).2)
  else A8F f (s.drop (one s).2) (at_+(one s).2)
def V3 (s:List UInt8):List Tok:=A8F s.length s 0
theorem B0h (F:UInt8->Bool):∀(r:List UInt8) (m:Nat),(∀j,j<m->F (r.getD j 0)=true)->m<=r.length->(m=r.length\/F (r.getD m 0)=false)->(r.takeWhile F).length=m
 | [],m,_,h2,_=>by simp at h2;simp[h2]
 |c::r,0,_,_,h3=>by
  have:F c=false:=by simpa using h3
  simp[this]
 |c::r,m+1,h1,h2,h3=>by
  have h0:F c=true:=by simpa using h1 0 (by omega)
  have:=B0h F r m (fun j hj=>by simpa using h1 (j+1) (by omega)) (by simpa using h2) (by simpa using h3);simp[h0,this]
theorem C4L (F:UInt8->Bool) (s:List UInt8) (k:Nat) (h0:1<=k) (h1:∀j,1<=j->j<k->F (s.getD j 0)=true) (h2:k<=s.length) (h3:k=s.length\/F (s.getD k 0)=false):run F s.tail=k:=by
 cases s with
 |nil=>simp at h2;omega
 |cons c r=>
  obtain⟨m,rfl⟩:∃m,k=m+1:=⟨k-1,by omega⟩;have:=B0h F r m (fun j hj=>by simpa using h1 (j+1) (by omega) (by omega)) (by simpa using h2) (by simpa using h3);simp[run,this];omega
theorem C77 (F:UInt8->Bool) (s:List UInt8) (h:s≠ []):1<=run F s.tail/\run F s.tail<=s.length:=by
 cases s with
 |nil=>exact absurd rfl h
 |cons c r=>
  have:=(List.takeWhile_prefix F (l:=r)).length_le;simp[run];omega
theorem A6Q (s:List UInt8) (h:s≠ []):1<=(one s).2/\(one s).2<=s.length:=by
 cases s with
 |nil=>exact absurd rfl h
 |cons c r=>
  simp only[one];have h1:=fun F=>C77 F (c::r) (by simp)
  simp only[List.tail_cons]at h1;repeat' split
  all_goals first|exact h1 _|simp
theorem B15:∀(f g:Nat) (s:List UInt8) (p:Nat),s.length<=f->s.length<=g->A8F f s p=A8F g s p
 |0,0,_,_,_,_=>rfl
 |0,g+1,s,p,h,_=>by
  have:s= []:=A07 (by omega);simp[A8F,this]
 |f+1,0,s,p,_,h=>by
  have:s= []:=A07 (by omega);simp[A8F,this]
 |f+1,g+1,s,p,h1,h2=>by
  by_cases hs:s= []
  ·simp[A8F,hs]
  ·have:=A6Q s hs
   simp only[A8F,hs,if_false];rw[B15 f g (s.drop (one s).2) _ (by simp;omega) (by simp;omega)]
def A5F (s:List UInt8) (k:Nat):List Tok:=A8F (s.length-k) (s.drop k) k
theorem A62 (s:List UInt8) (k:Nat) (h:s.length<=k):A5F s k= []:=by
 have:s.length-k=0:=by omega
 simp[A5F,this,A8F]
theorem A55 (s:List UInt8) (k:Nat) (h:k<s.length):
  A5F s k=(if (one (s.drop k)).1>0 then [⟨(one (s.drop k)).1,(s.drop k).take (one (s.drop k)).2,k⟩] else [])++A5F s (k+(one (s.drop k)).2):=by
 have hne:s.drop k≠ []:=by simp;omega
 have hl:=A6Q _ hne;simp only[A0r]at hl;obtain⟨f,hf⟩:∃f,s.length-k=f+1:=⟨s.length-k-1,by omega⟩;have e:A8F f (s.drop (k+(one (s.drop k)).2)) (k+(one (s.drop k)).2)=A5F s (k+(one (s.drop k)).2):=
  B15 _ _ _ _ (by simp;omega) (by simp)
 unfold A5F
 rw[hf];simp only[A8F,hne,if_false,A5W];rw[e];split<;>rfl
theorem A7P (s:List UInt8):V3 s=A5F s 0:=by simp[V3,A5F]
def A52:List (List UInt8):= [[102,110],[99,104,97,110],[108,101,116],[105,102],[101,108,115,101],[119,104,105,108,101],[115,101,110,100],[114,101,116,117,114,110],[115,101,110,100,115]]
def B0I (s:List UInt8):Bool:=decide (1<=s.length) && decide (s.length<=12) && A42 (s.getD 0 0) && s.all A58
def name (s:List UInt8):Bool:= !(A52.any (fun w=>decide (s=w))) && B0I s
theorem C0q (F:UInt8->Bool) (s:List UInt8):s.all F=true↔ ∀j,j<s.length->F (s.getD j 0)=true:=by
 rw[A2U];constructor
 ·intro h j hj
  rw[O5,G6 hj];exact h _ (O6 hj)
 ·intro h x hx
  obtain⟨j,hj,rfl⟩:=List.mem_iff_getElem.1 hx;have:=h j hj
  rwa [O5,G6 hj]at this
theorem C4j (s:List UInt8):(one s).1<=4:=by
 cases s with
 |nil=>simp[one]
 |cons c r=>
  simp only[one];repeat' split
  all_goals simp
structure TokOk (s:List UInt8) (t:Tok):Prop where
 pos:t.pos<s.length
 len:1<=t.text.length
 fit:t.pos+t.text.length<=s.length
 text:t.text=(s.drop t.pos).take t.text.length
 one:t.kind=(one (s.drop t.pos)).1/\t.text.length=(one (s.drop t.pos)).2
 kind:1<=t.kind/\t.kind<=4
theorem B4a (s:List UInt8):∀(n k:Nat),s.length-k=n->∀t∈A5F s k,k<=t.pos/\TokOk s t:=by
 intro n;induction n using Nat.strongRecOn with
 |_ n ih=>
  intro k hn t ht;by_cases h:k<s.length
  ·rw[A55 s k h]at ht
   have hne:s.drop k≠ []:=by simp;omega
   have hl:=A6Q _ hne;simp only[A0r]at hl;rcases Z9.1 ht with h1|h1
   ·split at h1
    ·rename_i hk
     simp at h1
     subst h1;have hlen:((s.drop k).take (one (s.drop k)).2).length=(one (s.drop k)).2:=by simp;omega
     exact⟨H6 _,⟨h,by rw[hlen];omega,by rw[hlen];dsimp only;omega,by rw[hlen],⟨rfl,hlen⟩,⟨hk,C4j _⟩⟩⟩
    ·simp at h1
   ·obtain⟨h2,h3⟩:=ih (s.length-(k+(one (s.drop k)).2)) (by omega) _ rfl t h1
    exact⟨by omega,h3⟩
  ·rw[A62 s k (by omega)]at ht
   simp at ht
theorem A2G (s:List UInt8) (t:Tok) (ht:t∈V3 s):TokOk s t:=by
 rw[A7P]at ht;exact(B4a s _ 0 rfl t ht).2
theorem B4r (s:List UInt8):∀(n k:Nat),s.length-k=n->(A5F s k).Pairwise (fun a b=>a.pos+a.text.length<=b.pos):=by
 intro n;induction n using Nat.strongRecOn with
 |_ n ih=>
  intro k hn;by_cases h:k<s.length
  ·have hne:s.drop k≠ []:=by simp;omega
   have hl:=A6Q _ hne;simp only[A0r]at hl;have h1:=ih (s.length-(k+(one (s.drop k)).2)) (by omega) _ rfl;rw[A55 s k h];split
   ·rw[A77,A1A]
    refine⟨fun t ht=>?_,h1⟩
    have:=(B4a s _ _ rfl t ht).1;simp;omega
   ·exact h1
  ·rw[A62 s k (by omega)];exact List.Pairwise.nil
theorem A4s (s:List UInt8):(V3 s).Pairwise (fun a b=>a.pos+a.text.length<=b.pos):=by rw[A7P];exact B4r s _ 0 rfl
def wFn:List UInt8:= [102,110]
def C5g:List UInt8:= [99,104,97,110]
def B0p (s:List UInt8) (t:Tok):Bool:=decide (t.kind=1) && (decide (t.text=wFn)||decide (t.text=C5g)) && (decide (t.pos=0)||decide ((s.getD (t.pos-1) 0).toNat=10))
def A17 (s:List UInt8) (acc:List Nat) (t:Tok):List Nat:=if B0p s t=true\/acc= [] then acc++ [t.pos] else acc
def Y7 (s:List UInt8):List Nat:=(V3 s).foldl (A17 s) []
theorem B3i (s:List UInt8) (acc:List Nat) (t:Tok):A17 s acc t≠ []:=by
 unfold A17
 split
 ·simp
 ·rename_i h;exact fun e=>h (.inr e)
theorem B7f (s:List UInt8) (acc:List Nat) (t:Tok):acc.length<=(A17 s acc t).length/\(A17 s acc t).length<=acc.length+1:=by
 unfold A17
 split<;>simp
theorem C1K {α β:Type} (f:β->α->β) (b:β) (l:List α) (k:Nat) (a:α) (h:l[k]?=some a):(l.take (k+1)).foldl f b=f ((l.take k).foldl f b) a:=by
 rw[A3i,h];simp
theorem A7Q (s:List UInt8):(V3 s).length<=s.length:=by
 have key:∀(n k:Nat),s.length-k=n->(A5F s k).length<=n:=by
  intro n;induction n using Nat.strongRecOn with
  |_ n ih=>
   intro k hn;by_cases h:k<s.length
   ·have hl:=A6Q (s.drop k) (by simp;omega)
    simp only[A0r]at hl;have:=ih (s.length-(k+(one (s.drop k)).2)) (by omega) _ rfl;rw[A55 s k h,E9];split
    ·simp;omega
    ·simp;omega
   ·rw[A62 s k (by omega)];simp
 have:=key _ 0 rfl;rw[A7P];simpa using this
inductive Ex where
 |mk (kind:Nat) (name:List UInt8) (n:Nat) (args:List Ex) (fr to:Nat)
inductive Stm where
 |mk (kind:Nat) (name:List UInt8) (at_ label:Nat) (opn:Bool) (e:Ex) (thn els:List Stm) (fr to:Nat)
structure Par where
 name:List UInt8
 label:Nat
 at_:Nat
structure Rf where
 name:List UInt8
 at_:Nat
structure Dg where
 fr:Nat
 to:Nat
 err:Nat
 name:List UInt8
structure Itm where
 kind:Nat
 name:List UInt8
 label:Nat
 params:List Par
 sends:List Rf
 body:List Stm
 at_:Int
 size:Nat
 mark:Nat
 diags:List Dg
instance :Inhabited Ex:=⟨.mk 0 [] 0 [] 0 0⟩
instance :Inhabited Stm:=⟨.mk 0 [] 0 0 false default [] [] 0 0⟩
def Ex.fr:Ex->Nat
 | .mk _ _ _ _ f _=>f
def Ex.to:Ex->Nat
 | .mk _ _ _ _ _ t=>t
structure Src where
 l:List Tok
 size:Nat
structure St where
 i:Nat
 ds:List Dg
def Src.tok (T:Src) (i:Nat):Tok:=T.l.getD i ⟨0,[],T.size⟩
def Src.is (T:Src) (i:Nat) (w:List UInt8):Bool:=decide (i<T.l.length) && decide ((T.tok i).text=w)
def Src.endOf (T:Src) (i:Nat):Nat:=if i=0 then 0 else (T.tok (i-1)).pos+(T.tok (i-1)).text.length
def St.bad (T:Src) (s:St) (e:Nat):St:= { s with ds:=s.ds++ [⟨(T.tok s.i).pos,(T.tok s.i).pos+(T.tok s.i).text.length,e,(T.tok s.i).text⟩]}
def St.next (s:St):St:= { s with i:=s.i+1}
def St.need (T:Src) (s:St) (w:List UInt8):Bool×St:=if T.is s.i w then (true,s.next) else (false,s.bad T 2)
def St.named (T:Src) (s:St):List UInt8×St:=
 if name (T.tok s.i).text then ((T.tok s.i).text,s.next) else
 if (T.tok s.i).kind=1 then ([],(s.bad T 7).next) else ([],s.bad T 2)
def C2B (t:List UInt8):Bool:=decide (t.length=1) && (decide (97<=(t.getD 0 0).toNat) && decide ((t.getD 0 0).toNat<=104))
def B2B (T:Src):Nat->Nat->St->Nat×St
 |0,n,s=>(n,s)
 |f+1,n,s=>
  if T.is s.i [125] then (n,s.next) else
  let t:=(T.tok s.i).text
  if !C2B t then (n,s.bad T 2) else
  let q:=(t.getD 0 0).toNat-97
  let s1:=if bit n q then s.bad T 7 else s
  let n1:=if bit n q then n else n+2 ^ q
  let s2:=s1.next
  if T.is s2.i [125] then B2B T f n1 s2 else
  if T.is s2.i [44] then B2B T f n1 s2.next else (n1,s2.bad T 2)
def lab (T:Src) (s:St):Nat×St:=
 if T.is s.i [123] then B2B T (T.l.length+1) 0 s.next else (0,s.bad T 2)
def A1l (t:List UInt8):Nat:=
 if t= [61]\/t= [60] then 1 else if t= [43]\/t= [45] then 2 else if t= [42] then 3 else 0
def B0c (T:Src) (s:St) (e:Nat):Ex×St:=(.mk 5 [] 0 [] (T.tok s.i).pos (T.tok s.i).pos,s.bad T e)
def A4x (t:List UInt8):Nat:=t.foldl (fun n c=>if n<=1000000000 then 10 *n+(c.toNat-48) else n) 0
mutual
def A22 (T:Src):Nat->Nat->St->Ex×St
 |0,_,s=>(default,s)
 |f+1,d,s=>
  let t:=T.tok s.i
  if T.l.length<=s.i then B0c T s 2 else
  if 12<=d then B0c T s 12 else
  if t.kind=2 then
   if 1000000000<A4x t.text then (.mk 1 [] 0 [] t.pos (t.pos+t.text.length),(s.bad T 3).next)
   else (.mk 1 [] (A4x t.text) [] t.pos (t.pos+t.text.length),s.next) else
  if t.text= [40] then
   let r:=A0Q T f (d+1) 1 s.next
   (r.1,(r.2.need T [41]).2) else
  if !name t.text then B0c T s 2 else
  if !T.is (s.i+1) [40] then (.mk 2 t.text 0 [] t.pos (t.pos+t.text.length),s.next) else
  let r:=A4h T f (d+1) [] s.next.next
  let s2:=(r.2.need T [41]).2
  (.mk 4 t.text 0 r.1 t.pos (T.endOf s2.i),s2)
def A4h (T:Src):Nat->Nat->List Ex->St->List Ex×St
 |0,_,l,s=>(l,s)
 |f+1,d,l,s=>
  if T.l.length<=s.i\/T.is s.i [41] then (l,s) else
  if l.length=5 then (l,s.bad T 5) else
  let r:=A0Q T f d 1 s
  if T.is r.2.i [44] then A4h T f d (l++ [r.1]) r.2.next else (l++ [r.1],r.2)
def A0Q (T:Src):Nat->Nat->Nat->St->Ex×St
 |0,_,_,s=>(default,s)
 |f+1,d,least,s=>
  let r:=A22 T f d s
  opL T f d least r.1 r.2
def opL (T:Src):Nat->Nat->Nat->Ex->St->Ex×St
 |0,_,_,e,s=>(e,s)
 |f+1,d,least,e,s=>
  let op:=(T.tok s.i).text
  if A1l op<least\/A1l op=0 then (e,s) else
  let r:=A0Q T f d (A1l op+1) s.next
  opL T f d least (.mk 3 op 0 [e,r.1] e.fr (max r.1.to e.to)) r.2
 end
mutual
def block (T:Src):Nat->Nat->St->List Stm×St
 |0,_,s=>([],s)
 |f+1,d,s=>
  if !T.is s.i [123] then ([],s.bad T 2) else
  if 12<=d then ([],s.next.bad T 12) else
  let r:=A4r T f (d+1) [] s.next
  (r.1,(r.2.need T [125]).2)
def A4r (T:Src):Nat->Nat->List Stm->St->List Stm×St
 |0,_,l,s=>(l,s)
 |f+1,d,l,s=>
  if T.l.length<=s.i\/T.is s.i [125] then (l,s) else
  if 40<=l.length then (l,s.bad T 5) else
  let r:=stm T f d s
  A4r T f d (l++ [r.1]) (if r.2.i=s.i then r.2.next else r.2)
def stm (T:Src):Nat->Nat->St->Stm×St
 |0,_,s=>(default,s)
 |f+1,d,s=>
  let t:=T.tok s.i
  let fr:=t.pos
  let fin (s:St):Nat:=max (T.endOf s.i) fr
  if t.text= [108,101,116] then
   let a:=(T.tok (s.i+1)).pos
   let r:=s.next.named T
   let opn:= !T.is r.2.i [58]
   let r1:=if opn then (0,r.2) else lab T r.2.next
   let s2:=(r1.2.need T [61]).2
   let r2:=A0Q T f d 1 s2
   let s3:=(r2.2.need T [59]).2
   (.mk 1 r.1 a r1.1 opn r2.1 [] [] fr (fin s3),s3) else
  if t.text= [105,102] then
   let r:=A0Q T f d 1 s.next
   let r1:=block T f d r.2
   if T.is r1.2.i [101,108,115,101] then
    let r2:=block T f d r1.2.next
    (.mk 3 [] 0 0 false r.1 r1.1 r2.1 fr (fin r2.2),r2.2)
   else (.mk 3 [] 0 0 false r.1 r1.1 [] fr (fin r1.2),r1.2) else
  if t.text= [119,104,105,108,101] then
   let r:=A0Q T f d 1 s.next
   let r1:=block T f d r.2
   (.mk 4 [] 0 0 false r.1 r1.1 [] fr (fin r1.2),r1.2) else
  if t.text= [115,101,110,100] then
   let a:=(T.tok (s.i+1)).pos
   let r:=s.next.named T
   let r2:=A0Q T f d 1 r.2
   let s3:=(r2.2.need T [59]).2
   (.mk 5 r.1 a 0 false r2.1 [] [] fr (fin s3),s3) else
  if t.text= [114,101,116,117,114,110] then
   let r2:=A0Q T f d 1 s.next
   let s3:=(r2.2.need T [59]).2
   (.mk 6 [] 0 0 false r2.1 [] [] fr (fin s3),s3) else
  if name t.text then
   if T.is (s.i+1) [61] then
    let r2:=A0Q T f d 1 s.next.next
    let s3:=(r2.2.need T [59]).2
    (.mk 2 t.text fr 0 false r2.1 [] [] fr (fin s3),s3)
   else
    let r2:=A0Q T f d 1 s
    let s3:=(r2.2.need T [59]).2
    (.mk 7 [] 0 0 false r2.1 [] [] fr (fin s3),s3) else
  (.mk 8 [] 0 0 false default [] [] fr (fin (s.bad T 2)),s.bad T 2)
 end
def A4G (T:Src):Nat->List Par->St->List Par×St
 |0,l,s=>(l,s)
 |f+1,l,s=>
  if T.l.length<=s.i\/T.is s.i [41] then (l,s) else
  if 5<=l.length then (l,s.bad T 5) else
  let a:=(T.tok s.i).pos
  let r:=s.named T
  let r1:=r.2.need T [58]
  if !r1.1 then (l,r1.2) else
  let r2:=lab T r1.2
  if T.is r2.2.i [44] then A4G T f (l++ [⟨r.1,r2.1,a⟩]) r2.2.next else (l++ [⟨r.1,r2.1,a⟩],r2.2)
def A4J (T:Src):Nat->List Rf->St->List Rf×St
 |0,l,s=>(l,s)
 |f+1,l,s=>
  if 5<=l.length then (l,s.bad T 5) else
  let a:=(T.tok s.i).pos
  let r:=s.named T
  if T.is r.2.i [44] then A4J T f (l++ [⟨r.1,a⟩]) r.2.next else (l++ [⟨r.1,a⟩],r.2)
def A7m (T:Src):Nat:=8 *T.l.length+64
def A6d (T:Src) (at_:Int) (size:Nat) (s:St):Itm×St:=
 let r:=s.named T
 let s1:=(r.2.need T [40]).2
 let r2:=A4G T 6 [] s1
 let s3:=(r2.2.need T [41]).2
 let s4:=(s3.need T [58]).2
 let r5:=lab T s4
 let r6:=if T.is r5.2.i [115,101,110,100,115] then A4J T 6 [] r5.2.next else ([],r5.2)
 let r7:=block T (A7m T) 0 r6.2
 (⟨2,r.1,r5.1,r2.1,r6.1,r7.1,at_,size,(T.tok s.i).pos,[]⟩,r7.2)
def B0S (T:Src) (at_:Int) (size:Nat) (s:St):Itm×St:=
 let r:=s.named T
 let s1:=(r.2.need T [58]).2
 let r2:=lab T s1
 let s3:=(r2.2.need T [59]).2
 (⟨1,r.1,r2.1,[],[],[],at_,size,(T.tok s.i).pos,[]⟩,s3)
def item (src:List UInt8) (at_:Int):Itm:=
 let T:Src:=⟨V3 src,src.length⟩
 let q:=if T.is 0 [102,110] then A6d T at_ src.length ⟨1,[]⟩ else if T.is 0 [99,104,97,110] then B0S T at_ src.length ⟨1,[]⟩ else
  (⟨3,[],0,[],[],[],at_,src.length,0,[]⟩, { ((⟨0,[]⟩:St).bad T 2) with i:=T.l.length})
 let s:=if q.2.i<T.l.length then q.2.bad T 2 else q.2
 { q.1 with diags:=s.ds}
structure Goes (T:Src) (k:Nat) (s r:St):Prop where
 le:s.i<=r.i
 top:s.i<=T.l.length->r.i<=T.l.length
 ds:r.ds.length+2 *s.i<=s.ds.length+2 *r.i+k
theorem Goes.refl (T:Src) (k:Nat) (s:St):Goes T k s s:=⟨H6 _,id,by omega⟩
theorem Goes.trans {T:Src}{k k':Nat}{s r t:St} (h:Goes T k s r) (g:Goes T k' r t):Goes T (k+k') s t:=
 ⟨A0O h.le g.le,fun x=>g.top (h.top x),by have:=h.ds;have:=g.ds;omega⟩
theorem A4o (T:Src) (s:St) (e:Nat):Goes T 1 s (s.bad T e):=⟨H6 _,id,by simp[St.bad];omega⟩
theorem A1O {T:Src}{i:Nat}{w:List UInt8} (h:T.is i w=true):i<T.l.length:=by
 simp only[Src.is,V5,decide_eq_true_eq]at h;exact h.1
theorem A5a {T:Src}{i:Nat} (h:T.l.length<=i):T.tok i=⟨0,[],T.size⟩:=by
 rw[Src.tok,O5,A08 h];rfl
theorem A6i {t:List UInt8} (h:name t=true):t≠ []:=by rintro rfl;revert h;decide
theorem A2g {T:Src}{i:Nat} (h:(T.tok i).text≠ []):i<T.l.length:=by
 rcases U2 i T.l.length with h1|h1
 ·exact h1
 ·rw[A5a h1]at h;exact absurd rfl h
theorem B2t {T:Src}{i:Nat} (h:(T.tok i).kind≠0):i<T.l.length:=by
 rcases U2 i T.l.length with h1|h1
 ·exact h1
 ·rw[A5a h1]at h;exact absurd rfl h
theorem A0H (T:Src) (s:St) (w:List UInt8):Goes T 1 s (s.need T w).2:=by
 rw[St.need];split
 ·rename_i h
  have:=A1O h;exact⟨by simp[St.next],fun _=>by simp[St.next];omega,by simp[St.next];omega⟩
 ·exact A4o T s 2
theorem A1f (T:Src) (s:St):Goes T 1 s (s.named T).2:=by
 rw[St.named];split
 ·rename_i h
  have:=A2g (A6i h);exact⟨by simp[St.next],fun _=>by simp[St.next];omega,by simp[St.next];omega⟩
 ·split
  ·rename_i h
   have:=B2t (T:=T) (i:=s.i) (by omega);exact⟨by simp[St.next,St.bad],fun _=>by simp[St.next,St.bad];omega,by simp[St.next,St.bad];omega⟩
  ·exact A4o T s 2
theorem B1K (T:Src):∀(f n:Nat) (s:St),Goes T 1 s (B2B T f n s).2
 |0,n,s=>Goes.refl _ _ _
 |f+1,n,s=>by
  rw[B2B];split
  ·rename_i h
   have:=A1O h;exact⟨by simp[St.next],fun _=>by simp[St.next];omega,by simp[St.next];omega⟩
  ·dsimp only
   split
   ·exact A4o T s 2
   ·rename_i h1 h2
    have hlt:s.i<T.l.length:=A2g (by intro e;rw[e]at h2;revert h2;decide);have g1:∀s1:St,(s1=s\/s1=s.bad T 7)->s1.next.i=s.i+1/\s1.next.ds.length<=s.ds.length+1:=by
     rintro s1 (rfl|rfl)<;>simp[St.next,St.bad]
    have g2:=g1 (if bit n ((T.tok s.i).text.getD 0 0|>.toNat|>(· -97))=true then s.bad T 7 else s) (by split<;>simp);generalize (if bit n ((T.tok s.i).text.getD 0 0|>.toNat|>(· -97))=true then s.bad T 7 else s).next=s2 at g2;generalize (if bit n ((T.tok s.i).text.getD 0 0|>.toNat|>(· -97))=true then n else n+2 ^ ((T.tok s.i).text.getD 0 0|>.toNat|>(· -97)))=n1;split
    ·have ih:=B1K T f n1 s2
     exact⟨by have:=ih.le;omega,fun _=>ih.top (by omega),by have:=ih.ds;omega⟩
    ·split
     ·rename_i h5
      have h6:=A1O h5;have ih:=B1K T f n1 s2.next;have e1:s2.next.i=s2.i+1:=rfl;have e2:s2.next.ds=s2.ds:=rfl;exact⟨by have:=ih.le;omega,fun _=>ih.top (by omega),by have:=ih.ds;rw[e2]at this;omega⟩
     ·have ih:=A4o T s2 2
      exact⟨by have:=ih.le;dsimp only;omega,fun _=>ih.top (by omega),by have:=ih.ds;dsimp only;omega⟩
theorem A3q (T:Src) (s:St):Goes T 1 s (lab T s).2:=by
 rw[lab];split
 ·rename_i h
  have:=A1O h;have ih:=B1K T (T.l.length+1) 0 s.next;have e1:s.next.i=s.i+1:=rfl;have e2:s.next.ds=s.ds:=rfl;exact⟨by have:=ih.le;omega,fun _=>ih.top (by omega),by have:=ih.ds;rw[e2]at this;omega⟩
 ·exact A4o T s 2
theorem Q7 (s:St):s.next.i=s.i+1:=rfl
theorem A0X (s:St):s.next.ds=s.ds:=rfl
theorem B1o {t:List UInt8} (h:A1l t≠0):t≠ []:=by rintro rfl;exact h (by decide)
theorem A06 (T:Src):∀f,(∀d s,Goes T 1 s (A22 T f d s).2)/\(∀d l s,Goes T 1 s (A4h T f d l s).2)/\(∀d m s,Goes T 1 s (A0Q T f d m s).2)/\(∀d m e s,Goes T 0 s (opL T f d m e s).2)
 |0=>⟨fun _ _=>by rw[A22];exact Goes.refl _ _ _,fun _ _ _=>by rw[A4h];exact Goes.refl _ _ _,fun _ _ _=>by rw[A0Q];exact Goes.refl _ _ _,fun _ _ _ _=>by rw[opL];exact Goes.refl _ _ _⟩
 |f+1=>by
  obtain⟨hA,hL,hE,hO⟩:=A06 T f;refine⟨fun d s=>?_,fun d l s=>?_,fun d m s=>?_,fun d m e s=>?_⟩
  ·rw[A22]
   dsimp only
   split
   ·exact A4o T s 2
   ·rename_i hlt
    split
    ·exact A4o T s 12
    ·split
     ·split
      ·exact⟨by simp[St.next,St.bad],fun _=>by simp[St.next,St.bad];omega,by simp[St.next,St.bad];omega⟩
      ·exact⟨by simp[St.next],fun _=>by simp[St.next];omega,by simp[St.next];omega⟩
     ·split
      ·have g:=(hE (d+1) 1 s.next).trans (A0H T (A0Q T f (d+1) 1 s.next).2 [41])
       have h1:=g.le;have h2:=g.top;have h3:=g.ds;rw[Q7]at h1 h2 h3;rw[A0X]at h3;exact⟨by dsimp only;omega,fun _=>h2 (by omega),by dsimp only;omega⟩
      ·split
       ·exact A4o T s 2
       ·split
        ·exact⟨by simp[St.next],fun _=>by simp[St.next];omega,by simp[St.next];omega⟩
        ·rename_i h5
         have h6:=A1O (by simpa using h5:T.is (s.i+1) [40]=true);have g:=(hL (d+1) [] s.next.next).trans (A0H T (A4h T f (d+1) [] s.next.next).2 [41]);have h1:=g.le;have h2:=g.top;have h3:=g.ds;rw[Q7,Q7]at h1 h2 h3;rw[A0X,A0X]at h3;exact⟨by dsimp only;omega,fun _=>h2 (by omega),by dsimp only;omega⟩
  ·rw[A4h]
   split
   ·exact Goes.refl _ _ _
   ·split
    ·exact A4o T s 5
    ·try dsimp only
     split
     ·rename_i h5
      have h6:=A1O h5;have g:=hE d 1 s;have g2:=hL d (l++ [(A0Q T f d 1 s).1]) (A0Q T f d 1 s).2.next;have h1:=g2.le;have h2:=g2.top;have h3:=g2.ds;have:=g.le;have:=g.ds;rw[Q7]at h1 h2 h3;rw[A0X]at h3;exact⟨by omega,fun _=>h2 (by omega),by omega⟩
     ·exact hE d 1 s
  ·rw[A0Q]
   try dsimp only
   exact(hA d s).trans (hO d m (A22 T f d s).1 (A22 T f d s).2)
  ·rw[opL]
   try dsimp only
   split
   ·exact Goes.refl _ _ _
   ·rename_i h5
    have h6:s.i<T.l.length:=A2g (B1o (by omega));have g:=hE d (A1l (T.tok s.i).text+1) s.next;have g2:=hO d m (.mk 3 (T.tok s.i).text 0 [e,(A0Q T f d (A1l (T.tok s.i).text+1) s.next).1] e.fr (max (A0Q T f d (A1l (T.tok s.i).text+1) s.next).1.to e.to)) (A0Q T f d (A1l (T.tok s.i).text+1) s.next).2;have g3:=g.trans g2;have h1:=g3.le;have h2:=g3.top;have h3:=g3.ds;rw[Q7]at h1 h2 h3;rw[A0X]at h3;exact⟨by omega,fun _=>h2 (by omega),by omega⟩
structure Goes8 (T:Src) (k:Nat) (s r:St):Prop where
 le:s.i<=r.i
 top:s.i<=T.l.length->r.i<=T.l.length
 ds:r.ds.length+8 *s.i<=s.ds.length+8 *r.i+k
theorem Goes.g8 {T:Src}{k:Nat}{s r:St} (h:Goes T k s r):Goes8 T k s r:=⟨h.le,h.top,by have:=h.ds;have:=h.le;omega⟩
theorem Goes8.trans {T:Src}{k k':Nat}{s r t:St} (h:Goes8 T k s r) (g:Goes8 T k' r t):Goes8 T (k+k') s t:=
 ⟨A0O h.le g.le,fun x=>g.top (h.top x),by have:=h.ds;have:=g.ds;omega⟩
theorem Goes8.mono {T:Src}{k k':Nat}{s r:St} (h:Goes8 T k s r) (hk:k<=k'):Goes8 T k' s r:=⟨h.le,h.top,by have:=h.ds;omega⟩
theorem Goes8.refl (T:Src) (k:Nat) (s:St):Goes8 T k s s:=⟨H6 _,id,by omega⟩
theorem B01 {T:Src}{k:Nat}{s r:St} (hi:s.i<T.l.length) (h:Goes8 T (k+8) s.next r):Goes8 T k s r:=by
 obtain⟨h1,h2,h3⟩:=h;rw[Q7]at h1 h2 h3;rw[A0X]at h3;exact⟨by omega,fun _=>h2 (by omega),by omega⟩
theorem B1I (T:Src) (f d m:Nat) (s:St):Goes8 T 1 s (A0Q T f d m s).2:=((A06 T f).2.2.1 d m s).g8
theorem B1J (T:Src) (s:St) (w:List UInt8):Goes8 T 1 s (s.need T w).2:=(A0H T s w).g8
theorem C0I (T:Src) (s:St):Goes8 T 1 s (s.named T).2:=(A1f T s).g8
theorem C8Z (T:Src) (s:St):Goes8 T 1 s (lab T s).2:=(A3q T s).g8
theorem C3K (T:Src) (s:St) (e:Nat):Goes8 T 1 s (s.bad T e):=(A4o T s e).g8
structure StG (T:Src) (s r:St):Prop where
 le:s.i<=r.i
 top:s.i<=T.l.length->r.i<=T.l.length
 ds0:r.i=s.i->r.ds.length<=s.ds.length+2
 ds1:s.i<r.i->r.ds.length+8 *s.i<=s.ds.length+8 *r.i
theorem A6Z {T:Src}{k:Nat}{s r:St} (hi:s.i<T.l.length) (h:Goes8 T k s.next r) (hk:k<=8):StG T s r:=by
 obtain⟨h1,h2,h3⟩:=h;rw[Q7]at h1 h2 h3;rw[A0X]at h3;exact⟨by omega,fun _=>h2 (by omega),fun _=>by omega,fun _=>by omega⟩
theorem A13 (T:Src):∀f,(∀d s,Goes8 T 1 s (block T f d s).2)/\(∀d l s,Goes8 T 1 s (A4r T f d l s).2)/\(∀d s,StG T s (stm T f d s).2)
 |0=>⟨fun _ _=>by rw[block];exact Goes8.refl _ _ _,fun _ _ _=>by rw[A4r];exact Goes8.refl _ _ _,fun _ s=>by rw[stm];exact⟨H6 _,id,fun _=>by simp,fun _=>by simp⟩⟩
 |f+1=>by
  obtain⟨hB,hL,hS⟩:=A13 T f;refine⟨fun d s=>?_,fun d l s=>?_,fun d s=>?_⟩
  ·rw[block]
   split
   ·exact(C3K T s 2).mono (by omega)
   ·rename_i h
    have hi:=A1O (by simpa using h:T.is s.i [123]=true);split
    ·exact B01 hi ((C3K T s.next 12).mono (by omega))
    ·dsimp only
     exact B01 hi (((hL (d+1) [] s.next).trans (B1J T _ [125])).mono (by omega))
  ·rw[A4r]
   split
   ·exact Goes8.refl _ _ _
   ·rename_i h
    have hi:s.i<T.l.length:=by omega
    split
    ·exact C3K T s 5
    ·dsimp only
     have g:=hS d s;have h1:=g.le;have h2:=g.top;have h3:=g.ds0;have h4:=g.ds1;split
     ·rename_i he
      have g2:=hL d (l++ [(stm T f d s).1]) (stm T f d s).2.next;have k1:=g2.le;have k2:=g2.top;have k3:=g2.ds;rw[Q7]at k1 k2 k3;rw[A0X]at k3;have h5:=h3 he;exact⟨by omega,fun _=>k2 (by omega),by omega⟩
     ·rename_i he
      have g2:=hL d (l++ [(stm T f d s).1]) (stm T f d s).2;have k1:=g2.le;have k2:=g2.top;have k3:=g2.ds;have h5:=h4 (by omega);exact⟨by omega,fun _=>k2 (by omega),by omega⟩
  ·rw[stm]
   dsimp only
   have hlt:∀t:List UInt8,t≠ []->(T.tok s.i).text=t->s.i<T.l.length:=fun t ht e=>A2g (by rw[e];exact ht)
   split
   ·rename_i h
    refine A6Z (hlt _ (by simp) h) (k:=5) ?_ (by omega)
    have g1:=C0I T s.next;have g2:Goes8 T 1 (s.next.named T).2 (if (!T.is (s.next.named T).2.i [58])=true then ((0:Nat),(s.next.named T).2) else lab T (s.next.named T).2.next).2:=by
     split
     ·exact Goes8.refl _ _ _
     ·rename_i h5
      exact B01 (A1O (by simpa using h5:T.is (s.next.named T).2.i [58]=true)) ((C8Z T _).mono (by omega))
    exact(((g1.trans g2).trans (B1J T _ _)).trans (B1I T f d 1 _)).trans (B1J T _ _)
   ·split
    ·rename_i h
     have g1:=(B1I T f d 1 s.next).trans (hB d (A0Q T f d 1 s.next).2);split
     ·rename_i h5
      refine A6Z (hlt _ (by simp) h) (k:=3) ?_ (by omega)
      exact g1.trans (B01 (k:=1) (A1O h5) ((hB d _).mono (by omega)))
     ·exact A6Z (hlt _ (by simp) h) g1 (by omega)
    ·split
     ·rename_i h
      exact A6Z (hlt _ (by simp) h) ((B1I T f d 1 s.next).trans (hB d (A0Q T f d 1 s.next).2)) (by omega)
     ·split
      ·rename_i h
       exact A6Z (hlt _ (by simp) h) (((C0I T s.next).trans (B1I T f d 1 _)).trans (B1J T _ _)) (by omega)
      ·split
       ·rename_i h
        exact A6Z (hlt _ (by simp) h) ((B1I T f d 1 s.next).trans (B1J T _ _)) (by omega)
       ·split
        ·rename_i h
         have hi:=A2g (A6i h);split
         ·rename_i h5
          have h6:=A1O h5;exact A6Z hi (B01 (k:=0) h6 (((B1I T f d 1 s.next.next).trans (B1J T _ [59])).mono (by omega))) (by omega)
         ·have g:=((A06 T f).2.2.1 d 1 s).trans (A0H T (A0Q T f d 1 s).2 [59])
          have h1:=g.le;have h2:=g.top;have h3:=g.ds;refine⟨h1,h2,fun h=>?_,fun h=>?_⟩<;>dsimp only at h |- <;>omega
        ·exact⟨H6 _,id,fun _=>by simp[St.bad],fun h=>by simp[St.bad]at h⟩
def A1d (s:List UInt8) (cs:List Nat) (i:Nat):List UInt8:=(s.drop (cs.getD i 0)).take (cs.getD (i+1) s.length-cs.getD i 0)
def A0U (s:List UInt8) (cs:List Nat) (i:Nat):Itm:=item (A1d s cs i) (cs.getD i 0)
def A3M (s:List UInt8) (cs:List Nat):List Itm:=(List.range cs.length).map (A0U s cs)
def Y4 (s:List UInt8):Nat:=if s.length>4000 then 4 else if (Y7 s).length>30 then 5 else 0
def J7 (s:List UInt8):List Itm:=if Y4 s=0 then A3M s (Y7 s) else []
theorem B0U (s:List UInt8):∀(l:List Tok) (acc:List Nat),∃r,l.foldl (A17 s) acc=acc++r/\r.Sublist (l.map (·.pos))
 | [],acc=>⟨[],by simp,by simp⟩
 |t::l,acc=>by
  rw[A1g,A17];split
  ·obtain⟨r,h1,h2⟩:=B0U s l (acc++ [t.pos])
   exact⟨t.pos::r,by rw[h1];simp,by rw[X7];exact h2.cons_cons _⟩
  ·obtain⟨r,h1,h2⟩:=B0U s l acc
   exact⟨r,h1,by rw[X7];exact h2.cons _⟩
theorem B7h (s:List UInt8):(Y7 s).Pairwise (· < ·)/\∀x∈Y7 s,x<s.length:=by
 obtain⟨r,h1,h2⟩:=B0U s (V3 s) [];have e:Y7 s=r:=by rw[Y7,h1];simp
 rw[e];refine⟨List.Pairwise.sublist h2 ?_,fun x hx=>?_⟩
 ·rw[List.pairwise_map]
  have h3:=A4s s;rw[A2e]at h3 |-;intro i j hi hj hij;have h4:=h3 i j hi hj hij;have h5:=(A2G s _ (O6 hi)).len;omega
 ·have:=h2.subset hx
  obtain⟨t,ht,rfl⟩:=A0x.1 this;exact(A2G s t ht).pos
theorem A7T (s:List UInt8) {i:Nat} (h:i<(Y7 s).length):(Y7 s).getD i 0<(Y7 s).getD (i+1) s.length/\(Y7 s).getD (i+1) s.length<=s.length:=by
 obtain⟨h1,h2⟩:=B7h s;have e1:(Y7 s).getD i 0=(Y7 s)[i]:=by rw[O5,G6 h];rfl
 have h3:=h2 _ (O6 h);rw[e1];rcases U2 (i+1) (Y7 s).length with h4|h4
 ·have e2:(Y7 s).getD (i+1) s.length=(Y7 s)[i+1]:=by rw[O5,G6 h4];rfl
  rw[e2];exact⟨A2e.1 h1 i (i+1) h h4 (by omega),Nat.le_of_lt (h2 _ (O6 h4))⟩
 ·have e2:(Y7 s).getD (i+1) s.length=s.length:=by rw[O5,A08 h4];rfl
  rw[e2];exact⟨h3,H6 _⟩
theorem B3C (s:List UInt8) (cs:List Nat) (k:Nat):(List.range (k+1)).map (A0U s cs)=(List.range k).map (A0U s cs)++ [A0U s cs k]:=by
 rw[A1C,Y8];rfl
def Ex.kind:Ex->Nat
 | .mk k _ _ _ _ _=>k
def Ex.name:Ex->List UInt8
 | .mk _ n _ _ _ _=>n
def Ex.n:Ex->Nat
 | .mk _ _ n _ _ _=>n
def Ex.args:Ex->List Ex
 | .mk _ _ _ a _ _=>a
def Stm.kind:Stm->Nat
 | .mk k _ _ _ _ _ _ _ _ _=>k
def Stm.name:Stm->List UInt8
 | .mk _ n _ _ _ _ _ _ _ _=>n
def Stm.at_:Stm->Nat
 | .mk _ _ a _ _ _ _ _ _ _=>a
def Stm.label:Stm->Nat
 | .mk _ _ _ l _ _ _ _ _ _=>l
def Stm.opn:Stm->Bool
 | .mk _ _ _ _ o _ _ _ _ _=>o
def Stm.e:Stm->Ex
 | .mk _ _ _ _ _ e _ _ _ _=>e
def Stm.thn:Stm->List Stm
 | .mk _ _ _ _ _ _ t _ _ _=>t
def Stm.els:Stm->List Stm
 | .mk _ _ _ _ _ _ _ e _ _=>e
def Stm.fr:Stm->Nat
 | .mk _ _ _ _ _ _ _ _ f _=>f
def Stm.to:Stm->Nat
 | .mk _ _ _ _ _ _ _ _ _ t=>t
def A43 (T:Src) (at_:Int) (size:Nat):Itm×St:=
 if T.is 0 [102,110]=true then A6d T at_ size ⟨1,[]⟩ else if T.is 0 [99,104,97,110]=true then B0S T at_ size ⟨1,[]⟩ else
  (⟨3,[],0,[],[],[],at_,size,0,[]⟩, { ((⟨0,[]⟩:St).bad T 2) with i:=T.l.length})
def B43 (T:Src) (q:Itm×St):Itm:= { q.1 with diags:=(if q.2.i<T.l.length then q.2.bad T 2 else q.2).ds}
theorem A70 (src:List UInt8) (at_:Int):item src at_=B43 ⟨V3 src,src.length⟩ (A43 ⟨V3 src,src.length⟩ at_ src.length):=rfl
mutual
def Ex.small:Ex->Prop
 | .mk _ _ _ args _ _=>args.length<=64/\A1M args
def A1M:List Ex->Prop
 | []=>True
 |e::es=>e.small/\A1M es
 end
mutual
def Stm.small:Stm->Prop
 | .mk _ _ _ _ _ e thn els _ _=>e.small/\thn.length<=64/\A0j thn/\els.length<=64/\A0j els
def A0j:List Stm->Prop
 | []=>True
 |e::es=>e.small/\A0j es
 end
theorem A94:∀ {l:List Ex}{e:Ex},A1M l->e.small->A1M (l++ [e])
 | [],e,_,h=>by rw[P9,A1M,A1M];exact⟨h,trivial⟩
 |a::l,e,h,he=>by
  rw[A1M]at h;rw[X3,A1M];exact⟨h.1,A94 h.2 he⟩
theorem A9y:∀ {l:List Stm}{e:Stm},A0j l->e.small->A0j (l++ [e])
 | [],e,_,h=>by rw[P9,A0j,A0j];exact⟨h,trivial⟩
 |a::l,e,h,he=>by
  rw[A0j]at h;rw[X3,A0j];exact⟨h.1,A9y h.2 he⟩
theorem A1N:∀ {l:List Ex}{i:Nat}{e:Ex},A1M l->l[i]?=some e->e.small
 | [],_,_,_,h=>by simp at h
 |a::l,0,e,h,he=>by
  rw[A1M]at h;simp only[A0z,U4]at he;exact he ▸ h.1
 |a::l,i+1,e,h,he=>by
  rw[A1M]at h;exact A1N h.2 (by simpa using he)
theorem A1K:∀ {l:List Stm}{i:Nat}{e:Stm},A0j l->l[i]?=some e->e.small
 | [],_,_,_,h=>by simp at h
 |a::l,0,e,h,he=>by
  rw[A0j]at h;simp only[A0z,U4]at he;exact he ▸ h.1
 |a::l,i+1,e,h,he=>by
  rw[A0j]at h;exact A1K h.2 (by simpa using he)
theorem A3h (k n f t:Nat) (nm:List UInt8):(Ex.mk k nm n [] f t).small:=by rw[Ex.small,A1M];exact⟨by simp,trivial⟩
theorem B32 (T:Src):∀f,(∀d s,(A22 T f d s).1.small)/\(∀d l s,l.length<=5->A1M l->(A4h T f d l s).1.length<=5/\A1M (A4h T f d l s).1)/\(∀d m s,(A0Q T f d m s).1.small)/\(∀d m e s,Ex.small e->(opL T f d m e s).1.small)
 |0=>⟨fun _ _=>by rw[A22];exact A3h _ _ _ _ _,fun _ _ _ h1 h2=>by rw[A4h];exact⟨h1,h2⟩,fun _ _ _=>by rw[A0Q];exact A3h _ _ _ _ _,fun _ _ _ _ h=>by rw[opL];exact h⟩
 |f+1=>by
  obtain⟨hA,hL,hE,hO⟩:=B32 T f;refine⟨fun d s=>?_,fun d l s h1 h2=>?_,fun d m s=>?_,fun d m e s h=>?_⟩
  ·rw[A22]
   dsimp only
   split
   ·exact A3h _ _ _ _ _
   ·split
    ·exact A3h _ _ _ _ _
    ·split
     ·split<;>exact A3h _ _ _ _ _
     ·split
      ·exact hE _ _ _
      ·split
       ·exact A3h _ _ _ _ _
       ·split
        ·exact A3h _ _ _ _ _
        ·have:=hL (d+1) [] s.next.next (by simp) (by rw[A1M];trivial)
         rw[Ex.small];exact⟨by omega,this.2⟩
  ·rw[A4h]
   split
   ·exact⟨h1,h2⟩
   ·split
    ·exact⟨h1,h2⟩
    ·rename_i h5
     have hs:=A94 h2 (hE d 1 s);have hl:(l++ [(A0Q T f d 1 s).1]).length<=5:=by simp;omega
     try dsimp only
     split
     ·exact hL _ _ _ hl hs
     ·exact⟨hl,hs⟩
  ·rw[A0Q]
   try dsimp only
   exact hO _ _ _ _ (hA _ _)
  ·rw[opL]
   try dsimp only
   split
   ·exact h
   ·refine hO _ _ _ _ ?_
    rw[Ex.small,A1M,A1M,A1M];exact⟨by simp,h,hE _ _ _,trivial⟩
theorem A18:A0j []:=by rw[A0j];trivial
theorem A8s (k a lb f t:Nat) (o:Bool) (nm:List UInt8) (e:Ex) (h:e.small):(Stm.mk k nm a lb o e [] [] f t).small:=by
 rw[Stm.small];exact⟨h,by simp,A18,by simp,A18⟩
theorem A9w (T:Src):∀f,(∀d s,(block T f d s).1.length<=40/\A0j (block T f d s).1)/\(∀d l s,l.length<=40->A0j l->(A4r T f d l s).1.length<=40/\A0j (A4r T f d l s).1)/\(∀d s,(stm T f d s).1.small)
 |0=>⟨fun _ _=>by rw[block];exact⟨by simp,A18⟩,fun _ _ _ h1 h2=>by rw[A4r];exact⟨h1,h2⟩,fun _ s=>by rw[stm];exact A8s _ _ _ _ _ _ _ _ (A3h _ _ _ _ _)⟩
 |f+1=>by
  obtain⟨hB,hL,hS⟩:=A9w T f;have hE:=(B32 T f).2.2.1;refine⟨fun d s=>?_,fun d l s h1 h2=>?_,fun d s=>?_⟩
  ·rw[block]
   split
   ·exact⟨by simp,A18⟩
   ·split
    ·exact⟨by simp,A18⟩
    ·dsimp only
     exact hL _ _ _ (by simp) A18
  ·rw[A4r]
   split
   ·exact⟨h1,h2⟩
   ·split
    ·exact⟨h1,h2⟩
    ·dsimp only
     exact hL _ _ _ (by simp;omega) (A9y h2 (hS d s))
  ·rw[stm]
   dsimp only
   have two:∀(k a lb f t:Nat) (o:Bool) (nm:List UInt8) (e:Ex) (b c:List Stm),e.small->b.length<=40/\A0j b->c.length<=40/\A0j c->(Stm.mk k nm a lb o e b c f t).small:=fun k a lb f t o nm e b c h1 h2 h3=>by
    rw[Stm.small];exact⟨h1,by omega,h2.2,by omega,h3.2⟩
   have nil2:([]:List Stm).length<=40/\A0j []:=⟨by simp,A18⟩;repeat' split
   all_goals first
    |exact A8s _ _ _ _ _ _ _ _ (hE _ _ _)
    |exact two _ _ _ _ _ _ _ _ _ _ (hE _ _ _) (hB _ _) (hB _ _)
    |exact two _ _ _ _ _ _ _ _ _ _ (hE _ _ _) (hB _ _) nil2
    |exact A8s _ _ _ _ _ _ _ _ (A3h _ _ _ _ _)
theorem A9m (T:Src):∀(f:Nat) (l:List Par) (s:St),l.length<=5->(A4G T f l s).1.length<=5/\(s.i<=T.l.length->s.i<=(A4G T f l s).2.i/\(A4G T f l s).2.i<=T.l.length/\(A4G T f l s).2.ds.length<=s.ds.length+2 *((A4G T f l s).2.i-s.i)+3 *f)
 |0,l,s,h=>by rw[A4G];exact⟨h,fun hi=>⟨H6 _,hi,by dsimp only;omega⟩⟩
 |f+1,l,s,h=>by
  rw[A4G];split
  ·exact⟨h,fun hi=>⟨H6 _,hi,by dsimp only;omega⟩⟩
  ·split
   ·exact⟨h,fun hi=>⟨H6 _,hi,by simp[St.bad];omega⟩⟩
   ·dsimp only
    have g1:=A1f T s;have g2:=A0H T (s.named T).2 [58];have g3:=A3q T ((s.named T).2.need T [58]).2;have a1:=g1.le;have a2:=g1.top;have a3:=g1.ds;have b1:=g2.le;have b2:=g2.top;have b3:=g2.ds;have c1:=g3.le;have c2:=g3.top;have c3:=g3.ds;split
    ·exact⟨h,fun hi=>⟨by dsimp only;omega,b2 (a2 hi),by dsimp only;omega⟩⟩
    ·split
     ·rename_i h5
      have h6:=A1O h5;have ih:=A9m T f (l++ [⟨(s.named T).1,(lab T ((s.named T).2.need T [58]).2).1,(T.tok s.i).pos⟩]) (lab T ((s.named T).2.need T [58]).2).2.next (by simp;omega);refine⟨ih.1,fun hi=>?_⟩
      have e1:(lab T ((s.named T).2.need T [58]).2).2.next.i=(lab T ((s.named T).2.need T [58]).2).2.i+1:=rfl;have e2:(lab T ((s.named T).2.need T [58]).2).2.next.ds.length=(lab T ((s.named T).2.need T [58]).2).2.ds.length:=rfl;obtain⟨i1,i2,i3⟩:=ih.2 (by omega);exact⟨by omega,i2,by omega⟩
     ·exact⟨by simp;omega,fun hi=>⟨by dsimp only;omega,c2 (b2 (a2 hi)),by dsimp only;omega⟩⟩
theorem A9x (T:Src):∀(f:Nat) (l:List Rf) (s:St),l.length<=5->(A4J T f l s).1.length<=5/\(s.i<=T.l.length->s.i<=(A4J T f l s).2.i/\(A4J T f l s).2.i<=T.l.length/\(A4J T f l s).2.ds.length<=s.ds.length+2 *((A4J T f l s).2.i-s.i)+3 *f)
 |0,l,s,h=>by rw[A4J];exact⟨h,fun hi=>⟨H6 _,hi,by dsimp only;omega⟩⟩
 |f+1,l,s,h=>by
  rw[A4J];split
  ·exact⟨h,fun hi=>⟨H6 _,hi,by simp[St.bad];omega⟩⟩
  ·dsimp only
   have g1:=A1f T s;have a1:=g1.le;have a2:=g1.top;have a3:=g1.ds;split
   ·rename_i h5
    have h6:=A1O h5;have ih:=A9x T f (l++ [⟨(s.named T).1,(T.tok s.i).pos⟩]) (s.named T).2.next (by simp;omega);refine⟨ih.1,fun hi=>?_⟩
    have e1:(s.named T).2.next.i=(s.named T).2.i+1:=rfl;have e2:(s.named T).2.next.ds.length=(s.named T).2.ds.length:=rfl;obtain⟨i1,i2,i3⟩:=ih.2 (by omega);exact⟨by omega,i2,by omega⟩
   ·exact⟨by simp;omega,fun hi=>⟨by dsimp only;omega,a2 hi,by dsimp only;omega⟩⟩
structure Itm.small (it:Itm):Prop where
 params:it.params.length<=5
 sends:it.sends.length<=5
 body:it.body.length<=40
 stms:A0j it.body
 diags:it.diags.length<=40000000
theorem B7D (T:Src) (at_:Int) (size:Nat) (s:St) (hT:T.l.length<=1048576) (hi:s.i<=T.l.length) (hd:s.ds= []):
  (A6d T at_ size s).1.params.length<=5/\(A6d T at_ size s).1.sends.length<=5/\(A6d T at_ size s).1.body.length<=40/\A0j (A6d T at_ size s).1.body/\(A6d T at_ size s).2.ds.length<=39000000:=by
 rw[A6d];dsimp only
 have g1:=A1f T s;generalize s.named T=r at g1 |-;have g2:=A0H T r.2 [40];generalize r.2.need T [40]=s1 at g2 |-;have p:=A9m T 6 [] s1.2 (by simp);generalize A4G T 6 [] s1.2=r2 at p |-;have g3:=A0H T r2.2 [41];generalize r2.2.need T [41]=s3 at g3 |-;have g4:=A0H T s3.2 [58];generalize s3.2.need T [58]=s4 at g4 |-;have g5:=A3q T s4.2;generalize lab T s4.2=r5 at g5 |-;have hd0:s.ds.length=0:=by rw[hd];rfl
 have a2:=g1.top hi;have a3:=g1.ds;have a1:=g1.le;have b2:=g2.top a2;have b3:=g2.ds;have b1:=g2.le;obtain⟨p1,p2⟩:=p;obtain⟨p3,p4,p5⟩:=p2 b2;have c2:=g3.top p4;have c3:=g3.ds;have c1:=g3.le;have d2:=g4.top c2;have d3:=g4.ds;have d1:=g4.le;have e2:=g5.top d2;have e3:=g5.ds;have e1:=g5.le;have q:∀r6:List Rf×St,r6=(if T.is r5.2.i [115,101,110,100,115]=true then A4J T 6 [] r5.2.next else ([],r5.2))->r6.1.length<=5/\r6.2.i<=T.l.length/\r6.2.ds.length<=r5.2.ds.length+2 *(T.l.length)+18:=fun r6 h=>by
  by_cases hs:T.is r5.2.i [115,101,110,100,115]=true
  ·rw[if_pos hs]at h
   have hlt:=A1O hs;have q:=A9x T 6 [] r5.2.next (by simp);have f1:r5.2.next.i=r5.2.i+1:=rfl;have f2:r5.2.next.ds.length=r5.2.ds.length:=rfl;obtain⟨q3,q4,q5⟩:=q.2 (by omega);rw[h];exact⟨q.1,q4,by omega⟩
  ·rw[if_neg hs]at h
   rw[h];exact⟨by simp,e2,by dsimp only;omega⟩
 obtain⟨r6,h6⟩:∃r6,r6=(if T.is r5.2.i [115,101,110,100,115]=true then A4J T 6 [] r5.2.next else ([],r5.2)):=⟨_,rfl⟩;obtain⟨q1,q2,q3⟩:=q r6 h6;rw[<-h6];have hb:=(A9w T (A7m T)).1 0 r6.2;have gb:=(A13 T (A7m T)).1 0 r6.2;have h1:=gb.ds;have h2:=gb.top q2;exact⟨p1,q1,hb.1,hb.2,by omega⟩
theorem B7G (T:Src) (at_:Int) (size:Nat) (hT:T.l.length<=1048576):
  (A43 T at_ size).1.params.length<=5/\(A43 T at_ size).1.sends.length<=5/\(A43 T at_ size).1.body.length<=40/\A0j (A43 T at_ size).1.body/\(A43 T at_ size).2.ds.length<=39000000:=by
 rw[A43];split
 ·rename_i h
  exact B7D T at_ size ⟨1,[]⟩ hT (A1O h) rfl
 ·split
  ·rename_i h
   have hlt:=A1O h;rw[B0S];dsimp only
   have g1:=A1f T ⟨1,[]⟩;generalize (⟨1,[]⟩:St).named T=r at g1 |-;have g2:=A0H T r.2 [58];generalize r.2.need T [58]=s1 at g2 |-;have g3:=A3q T s1.2;generalize lab T s1.2=r2 at g3 |-;have g4:=A0H T r2.2 [59];generalize r2.2.need T [59]=s3 at g4 |-;have a2:=g1.top hlt;have a3:=g1.ds;have a1:=g1.le;have b2:=g2.top a2;have b3:=g2.ds;have b1:=g2.le;have c2:=g3.top b2;have c3:=g3.ds;have c1:=g3.le;have d2:=g4.top c2;have d3:=g4.ds;have d1:=g4.le;dsimp only[List.length_nil]at a1 a3;exact⟨by simp,by simp,by simp,A18,by omega⟩
  ·exact⟨by simp,by simp,by simp,A18,by simp[St.bad]⟩
theorem A4B (src:List UInt8) (at_:Int) (h:src.length<=1048576):(item src at_).small:=by
 have hl:=A7Q src;rw[A70];have hT:(Src.mk (V3 src) src.length).l.length<=1048576:=by dsimp only;omega
 generalize Src.mk (V3 src) src.length=T at hT |-;obtain⟨h1,h2,h3,h4,h5⟩:=B7G T at_ src.length hT;rw[B43];refine⟨h1,h2,h3,h4,?_⟩
 dsimp only
 split
 ·simp[St.bad];omega
 ·omega
theorem B2N (src:List UInt8) (at_:Int):(item src at_).at_=at_:=by
 rw[A70];show (A43 _ at_ _).1.at_=at_
 rw[A43];split
 ·rfl
 ·split<;>rfl
theorem C1Q (src:List UInt8) (at_:Int):(item src at_).size=src.length:=by
 rw[A70];show (A43 _ at_ _).1.size=src.length
 rw[A43];split
 ·rfl
 ·split<;>rfl
theorem A31 {e:Ex} (h:e.small):e.args.length<=64/\A1M e.args:=by
 cases e with
 |mk k n m a f t=>rw[Ex.small]at h;exact h
theorem A2r {e a:Ex} (h:a∈e.args):SizeOf.sizeOf a<SizeOf.sizeOf e:=by
 cases e with
 |mk k n m l f t=>
  have h':a∈l:=h;have:=List.sizeOf_lt_of_mem h';simp only[Ex.mk.sizeOf_spec];omega
theorem A1V {s:Stm} (h:s.small):s.e.small/\s.thn.length<=64/\A0j s.thn/\s.els.length<=64/\A0j s.els:=by
 cases s with
 |mk k n a l o e t x f u=>rw[Stm.small]at h;exact h
theorem A54 {s:Stm}:SizeOf.sizeOf s.thn<SizeOf.sizeOf s/\SizeOf.sizeOf s.els<SizeOf.sizeOf s:=by
 cases s with
 |mk k n a l o e t x f u=>
  simp only[Stm.mk.sizeOf_spec,Stm.thn,Stm.els];omega
theorem A3A {l:List Stm}{s:Stm} (h:s∈l):SizeOf.sizeOf s<SizeOf.sizeOf l:=List.sizeOf_lt_of_mem h
end Go.Sp
