/- Own work. -/
import Derived.Test.YtbmbnippbldmfaaGreatDoorSn5
set_option maxHeartbeats 64000000
namespace Go.Fw
open Go
def C26 (ops:Array Oper) (n:Nat) (listed:Array Bool):Bool:=
 decide (listed.size=ops.size) && ((List.range ops.size).all (fun j=> !listed.getD j false||(match ops[j]? with|some o=>o.after.all (fun e=> !Region.binds .any e||listed.getD e.on false)|none=>true)) && (List.range ops.size).all (fun t=>Nat.blt t n|| !listed.getD t true))
theorem B8N {ops:Array Oper}{n:Nat}{listed:Array Bool} (h:C26 ops n listed=true):HeadInv .any ops n listed:=by
 simp only[C26,U9,decide_eq_true_eq,A2Q,A18]at h;obtain⟨h1,h2,h3⟩:=h;refine⟨h1,fun j oj hj hl e he hb=>?_,fun t ht hts=>?_⟩
 ·have:=h2 j (A7p.1 hj).1
  rw[hl,hj]at this;simp only[Bool.not_true,Bool.false_or,Array.all_eq_true']at this;have:=this e he;rw[hb]at this;simpa using this
 ·have:=h3 t hts
  rw[show Nat.blt t n=false by cases hb:Nat.blt t n with|false=>rfl|true=>rw[A1x]at hb;omega]at this;simpa using this
def C3Y (ops:Array Oper) (n f:Nat) (ks:List Nat) (listed:Array Bool):Bool:=
 Region.noSelect ops && decide (n<ops.size) && Region.sinkB .any ops n && Region.chainB .any ops n && C26 ops n listed && B7g .any ops n ks listed && Nat.ble ks.length f && ks.all (fun k=>Nat.blt k ops.size)
section
variable {P:Program}{N:Nat}{ds:List Deferred}{X:List Nat}{Q:Exit->Act->World->Prop}{l:Log}{w w' w0:World}{os tail:List Oper}{ops:Array Oper}{E:Ent}{I I0:P6}{G R H:List HItem}{o:Oper}
variable {d:Nat}{ty:TypeId}{pos:String}{af:Array Edge}{g:Option (Nat×Bool)}{t t':TypeId}{x y z:Operand}{n f:Nat}{listed:Array Bool}
theorem A3Y (ks:List Nat) (hB:C3Y ops n f ks listed=true) (hk:Kept X w0 w)
  (h:WV P N ds ops X w0 (fun a'=>B1h P .any ops (fun w'=>Kept X w0 w') n (fun listed' a' w'=>Region.seqB .any ops (ops.size-n) n listed'=true/\wpList P ops Q tail a' w') (f-ks.length) (B7h ks listed) a' w) (A2W ops.toList ks) l):WA P N ds ops Q X w0 n f listed tail l w:=by
 simp only[C3Y,U9,decide_eq_true_eq]at hB;obtain⟨⟨⟨⟨⟨⟨⟨hsel,hn⟩,hs⟩,hc⟩,hh⟩,hlex⟩,hlen⟩,hks⟩:=hB;obtain⟨k1,k2⟩:=A34 ops.toList ks (by simpa using hks);refine⟨fun a ha=>?_⟩
 have H:=A94 (md:=.any) (g:=ops.size-n) (f:=f-ks.length) hsel hs hc hn ks (A2W ops.toList ks) listed a w hk (by simpa using k1) (B8N hh) hlex (h.run a ha);rw[k2,show ks.length+(f-ks.length)=f by have:=A13 hlen;omega]at H;exact H
theorem A6b {n f:Nat}{listed:Array Bool} (h:WA P N ds ops Q X w0 n f listed tail l w):
  WV P N ds ops X w0 (fun a'=>B1h P .any ops (fun w'=>Kept X w0 w') n (fun listed' a' w'=>Region.seqB .any ops (ops.size-n) n listed'=true/\wpList P ops Q tail a' w') f listed a' w) [] l:=⟨fun a ha=>h.run a ha⟩
theorem C1s {i b off n' by_:Nat} [Elem P t n' by_] {c vs:List Value}{e:TypeId}{dst:Option Nat} (hm:Mem ⟨w0,X,I0⟩ I H w) (hd:dst=none) (hw:U4 ops l ⟨dst,.store t x y,ty,pos,af,g⟩=some true)
  (hx:ev l x=some (.pointer (some ⟨b,off,none⟩))) (hy:ev l y=some (.agg vs.toArray)) (hb:H[i]?=some (.obj b (.cells c.toArray e (0,0)))) (hn:vs.length=n') (ho:Nat.ble (off+n') c.length=true)
  (h1:vs.all (·.oneCell')=true)
  (k:∀w',Mem ⟨w0,X,I0⟩ I (H.set i (.obj b (.cells (c.take off++(vs++c.drop (off+n'))).toArray e (0,0)))) w'->WA P N ds ops Q X w0 n f listed tail l w'):
  WU P N ds ops Q X w0 n f listed tail ⟨dst,.store t x y,ty,pos,af,g⟩ l w:=by
 subst hd;have hget:=hm.get hb;have h2:=A58 (P:=P) (t:=t) (off:=off) (.agg vs.toArray) hget (by simpa[Value.cells] using hn) (by simpa using A13 ho) (by simpa[Value.cells] using h1);generalize hc':(c.toArray.toList.take off++(Value.agg vs.toArray).cells.toList++c.toArray.toList.drop (off+n')).toArray=c' at h2;have e0:c'=(c.take off++(vs++c.drop (off+n'))).toArray:=by
  rw[<-hc'];simp[Value.cells]
 rw[e0]at h2;have hk:Kept [b] w (w.setRow b (c.take off++(vs++c.drop (off+n'))).toArray):=Kept.setRow hget _;have hm':=hm.turn (h':=.obj b (.cells (c.take off++(vs++c.drop (off+n'))).toArray e (0,0))) hb (by simpa[HItem.blk] using hk) (by
  show (w.setRow b _).heap[b]?=_
  rw[setRow_heap w b c.toArray _ e (0,0) hget]) (.inl rfl)
 refine B2D rfl hw (fun a ha=>?_) hm'.kept (k _ hm')
 simp only[execOp,Instr.storeAt,Instr.sureAddr,ha.ev hx,ha.ev hy,Sem.run_bind,Sem.run_pure,Result.andThen,h2]
end
section
variable {P:Program}{ops:Array Oper}{md:Region.Mode}{C:World->Prop}
theorem C4u {n i:Nat}{oi:Oper}{v:Value}{L:Array Bool->Act->World->Prop} (hi:ops[i]?=some oi) (hsel:∀(j:Nat) (o:Oper) cs b,ops[j]?=some o->o.op≠ .select cs b)
  (hn:n=ops.size)
  (hdone:∀listed a w,L listed a w->∀j∈Region.ready md ops listed,n<=j):
  ∀(f:Nat) (listed:Array Bool) (a:Act) (w:World),C w->HeadInv md ops n listed->
   (∀j oj,ops[j]?=some oj->j≠i->listed.getD j true=false->(∀e∈oj.after,Region.binds md e=true->e.on≠i)->oi.apart ops oj=true)->
   i∈Region.ready md ops listed->A2i P ops C oi v a->
   A95 P md ops C n L f (listed.setIfInBounds i true) (a.put oi.dst v) w->A95 P md ops C n L (f+1) listed a w:=by
 intro f;induction f with
 |zero=>
  intro listed a w hC inv _ hr hy H;refine⟨fun h=>(by rw[h]at hr;cases hr),fun j hj=>?_⟩
  have hjn:j<n:=by
   obtain⟨_,oj,hoj,_⟩:=mem_ready.1 hj;rw[hn];exact(A7p.1 hoj).1
  refine⟨hjn,?_⟩
  by_cases hji:j=i
  ·subst hji;exact hy.vOp hi hC ⟨hC,H⟩
  ·have:=hdone _ _ _ H j (ready_mono hj hji)
   omega
 |succ f ih=>
  intro listed a w hC inv hfree hr hy H;have hun:=(mem_ready.1 hr).1;refine⟨fun h=>(by rw[h]at hr;cases hr),fun j hj=>?_⟩
  have hjn:j<n:=by
   obtain⟨_,oj,hoj,_⟩:=mem_ready.1 hj;rw[hn];exact(A7p.1 hoj).1
  refine⟨hjn,?_⟩
  by_cases hji:j=i
  ·subst hji;exact hy.vOp hi hC ⟨hC,H⟩
  ·have h1:=(H.2 j (ready_mono hj hji)).2
   obtain⟨hjun,oj,hoj,hall⟩:=mem_ready.1 hj;have hnot:∀e∈oj.after,Region.binds md e=true->e.on≠i:=fun e he hb heq=>by
    have h1:=hall e he hb;rw[heq,getD_both hun]at h1;cases h1
   have h2:=C0H hoj (hfree j oj hoj hji hjun hnot) (fun cs b=>hsel i oi cs b hi) (fun cs b=>hsel j oj cs b hoj) hy h1;have hfree':∀k ok,ops[k]?=some ok->k≠i->(listed.setIfInBounds j true).getD k true=false->
     (∀e∈ok.after,Region.binds md e=true->e.on≠i)->oi.apart ops ok=true:=fun k ok hk hki hun hno=>by
    refine hfree k ok hk hki ?_ hno
    by_cases hjk:j=k
    ·subst hjk;exact hjun
    ·rw[getD_set_ne true hjk]at hun;exact hun
   refine B3P (fun a' w' h3=>⟨h3.2.1,ih (listed.setIfInBounds j true) a' w' h3.2.1 (inv.set hj hjn) hfree' (ready_mono hr (Ne.symm hji)) h3.1 ?_⟩) h2
   rw[A7Q _ _ hji];exact h3.2.2
theorem B2P {n g:Nat}{Lq:Act->World->Prop}{js:List Nat}{lt:List Oper} (hsel:Region.noSelect ops=true) (hn:n=ops.size)
  (hlt:js.map (ops[·]?)=lt.map some):
  ∀(ks:List Nat) (l:List Oper) (listed:Array Bool) (a:Act) (w:World),C w->ks.map (ops[·]?)=l.map some->HeadInv md ops n listed->
  B0Q md ops g n js ks listed=true->A61 P ops C (fun a'=>A4h P ops C Lq lt a' w) l a->
  A95 P md ops C n (fun listed' a' w'=>Region.seqB md ops g n listed'=true/\Lq a' w') (l.length+lt.length) listed a w
 | [],[],listed,a,w,_,_,_,hB,h=>by
  rw[List.length_nil,V6];exact B1i js lt listed a w hlt (by simpa[B0Q] using hB) h
 |k::ks,o::l,listed,a,w,hC,hl,inv,hB,h=>by
  simp only[X8,A27]at hl;obtain⟨h0,hl'⟩:=hl;simp only[B0Q,U9,decide_eq_true_eq]at hB;obtain⟨⟨⟨hr,hf⟩,hkn⟩,hB'⟩:=hB;have hr':k∈Region.ready md ops listed:=by simpa using hr
  obtain⟨v,hy,hK⟩:=h;rw[show (o::l).length+lt.length=(l.length+lt.length)+1 by simp only[F8];omega];exact C4u h0 (Region.noSelect_spec hsel) hn (fun listed' a' w' hL=>seqB_ready hL.1) (l.length+lt.length) listed a w hC inv (Region.free_spec h0 hf) hr' hy
   (B2P hsel hn hlt ks l _ _ w hC hl' (inv.set hr' hkn) hB' hK)
 | [],_::_,_,_,_,_,hl,_,_,_=>by simp at hl
 |_::_,[],_,_,_,_,hl,_,_,_=>by simp at hl
def B5U (ops:Array Oper) (ks js:List Nat) (n:Nat):Bool:=
 Region.noSelect ops && decide (n=ops.size) && B0Q .any ops (ops.size-n) n js ks (Array.replicate ops.size false) && decide (ks.length+js.length=n) &&
  ks.all (fun k=>Nat.blt k ops.size) && js.all (fun k=>Nat.blt k ops.size)
theorem B2j {id:Nat}{Q:Exit->Act->World->Prop}{a:Act}{w:World}{l:List Oper} (ks js:List Nat) (n:Nat) (hm:P.follows .mixedOrders=true) (hB:B5U l.toArray ks js n=true)
  (hC:C { w with drawn:=w.drawn+1})
  (h:A61 P l.toArray C (fun a'=>A4h P l.toArray C (fun a' w'=>wpList P l.toArray Q (l.drop n) a' w') (A2W l js) a' { w with drawn:=w.drawn+1}) (A2W l ks) a):(Code.region id l.toArray true).wp P Q a w:=by
 simp only[B5U,U9,decide_eq_true_eq]at hB;obtain⟨⟨⟨⟨⟨hsel,hn⟩,hlex⟩,hlen⟩,hks⟩,hjs⟩:=hB;have hn':n=l.length:=by simpa using hn
 have hdl:(l.drop n).length=l.toArray.size-n:=by simp
 obtain⟨k1,k2⟩:=A34 l ks (by simpa using hks);obtain⟨j1,j2⟩:=A34 l js (by simpa using hjs);have inv0:HeadInv .any l.toArray n (Array.replicate l.toArray.size false):=
  ⟨by simp,fun j oj _ hl=>(by rw[getD_replicate_false]at hl;cases hl),fun t _ ht=>getD_in (by simpa using ht) (getD_replicate_false _ _)⟩
 have H:=B2P (md:=.any) (g:=l.toArray.size-n) (lt:=A2W l js) hsel hn j1 ks (A2W l ks) _ a _ hC k1 inv0 hlex h;refine wp_region_any hm ?_
 have:=A8M (Q':=Q) (g:=l.toArray.size-n) (fun listed a' w' hL=>by
  have:=wpAny_of_seq (md:=.any) (Q':=Q) (l.drop n) n listed a' w' (fun j=>by simp) (by rw[hdl];exact hL.1) hL.2
  rwa [hdl]at this) _ _ _ _ H
 rw[k2,j2,hlen,show n+(l.toArray.size-n)=l.toArray.size by omega]at this;exact this
end
section
variable {P:Program}{N:Nat}{ds:List Deferred}{X:List Nat}{Q:Exit->Act->World->Prop}{l:Log}{w:World}{os:List Oper}{E:Ent}{I:P6}{G R:List HItem}
theorem C4A [Mixed P] {id:Nat} (ks js:List Nat) (n:Nat) (X:List Nat) (hB:B5U os.toArray ks js n=true)
  (h:∀wd,Kept [] w wd->WV P N ds os.toArray X wd (fun a'=>A4h P os.toArray (fun w'=>Kept X wd w') (fun a' w'=>wpList P os.toArray Q (os.drop n) a' w') (A2W os js) a' wd) (A2W os ks) l):
  WC P N ds (.region id os.toArray true) Q l w:=
 ⟨fun a ha=>B2j (C:=fun w'=>Kept X { w with drawn:=w.drawn+1} w') ks js n Mixed.out hB (Kept.refl _ _) ((h _ (Kept.drew w)).run a ha)⟩
theorem Z8 [Mixed P] {id:Nat} (hm:Mem E I (G++R) w) (ks js:List Nat) (n:Nat) (hB:B5U os.toArray ks js n=true)
  (h:∀wd,Mem E I (G++R) wd->Mem ⟨wd,A2p G,I⟩ I G wd->WV P N ds os.toArray (A2p G) wd (fun a'=>A4h P os.toArray (fun w'=>Kept (A2p G) wd w') (fun a' w'=>wpList P os.toArray Q (os.drop n) a' w') (A2W os js) a' wd) (A2W os ks) l):
  WC P N ds (.region id os.toArray true) Q l w:=
 C4A ks js n (A2p G) hB (fun wd hk=>h wd (hm.kept0 hk) (hm.kept0 hk).sub)
end
end Go.Fw
namespace Go.Sp
structure Qn where
 id:Int
 kind:Int
 fr:Int
 to:Int
 text:List UInt8
 args:List Int
def bit (n k:Nat):Bool:=decide (n / 2 ^ k % 2=1)
theorem C2o (n k:Nat):bit n k=n.testBit k:=by
 rw[bit,Nat.testBit_eq_decide_div_mod_eq]
def B1V (a b:Nat):Bool:=(List.range 8).all (fun k=> !bit a k||bit b k)
theorem B8C {a b:Nat} (ha:a<256) (hb:b<256) (h:∀k,k<8->a.testBit k=b.testBit k):a=b:=by
 apply Nat.eq_of_testBit_eq
 intro k;by_cases hk:k<8
 ·exact h k hk
 ·have h1:2 ^ 8<=2 ^ k:=Nat.pow_le_pow_right (by omega) (by omega)
  rw[Nat.testBit_lt_two_pow (by omega),Nat.testBit_lt_two_pow (by omega)]
theorem C08 (a b:Nat):B1V a b=true↔ ∀k,k<8->a.testBit k=true->b.testBit k=true:=by
 simp only[B1V,A2Q,A18,C2o];constructor
 ·intro h k hk ha;have:=h k hk;rw[ha]at this;simpa using this
 ·intro h k hk
  cases ha:a.testBit k
  ·rfl
  ·rw[h k hk ha];rfl
theorem C2i {a b:Nat} (ha:a<256):a &&& b<256:=Nat.lt_of_le_of_lt Nat.and_le_left ha
theorem A9U {a b:Nat} (ha:a<256) (hb:b<256):a|||b<256:=Nat.or_lt_two_pow (n:=8) ha hb
theorem B6w {a b:Nat} (ha:a<256) (hb:b<256):(a &&& (2 ^ 64-1-b)=0)↔B1V a b=true:=by
 have hn:∀k,k<8->(2 ^ 64-1-b).testBit k= !b.testBit k:=by
  intro k hk;have:2 ^ 64-1-b=2 ^ 64-(b+1):=by omega
  rw[this,Nat.testBit_two_pow_sub_succ (by omega)];simp;omega
 rw[C08];constructor
 ·intro h k hk h1
  have h2:(a &&& (2 ^ 64-1-b)).testBit k=false:=by rw[h];simp
  rw[Nat.testBit_and,h1,hn k hk,A5O]at h2;simpa using h2
 ·intro h
  refine B8C (C2i ha) (by omega) (fun k hk=>?_)
  rw[Nat.testBit_and,hn k hk,Nat.zero_testBit];cases h1:a.testBit k
  ·rfl
  ·rw[h k hk h1];rfl
def A40 (c:UInt8):Bool:=(decide (97<=c.toNat) && decide (c.toNat<=122))||(decide (65<=c.toNat) && decide (c.toNat<=90))||decide (c.toNat=95)
def A4Z (c:UInt8):Bool:=decide (48<=c.toNat) && decide (c.toNat<=57)
def A9p (c:UInt8):Bool:=decide (c.toNat=32)||decide (c.toNat=10)||decide (c.toNat=9)
def B4U:List UInt8:= [40,41,123,125,44,58,59,61,43,45,42,60]
def B5m (c:UInt8):Bool:=B4U.any (fun x=>decide (x=c))
def A5X (c:UInt8):Bool:=A40 c||A4Z c
def B5z (c:UInt8):Bool:=decide (c.toNat≠10)
def run (F:UInt8->Bool) (r:List UInt8):Nat:=1+(r.takeWhile F).length
def one:List UInt8->Nat×Nat
 | []=>(4,1)
 |c::r=>
  if A9p c then (0,run A9p r) else
  if c.toNat=35 then (0,run B5z r) else
  if A40 c then (1,run A5X r) else
  if A4Z c then (2,run A4Z r) else
  if B5m c then (3,1) else (4,1)
structure Tok where
 kind:Nat
 text:List UInt8
 pos:Nat
 deriving DecidableEq
def A8q:Nat->List UInt8->Nat->List Tok
 |0,_,_=> []
 |f+1,s,at_=>
  if s= [] then [] else
  if (one s).1>0 then ⟨(one s).1,s.take (one s).2,at_⟩::A8q f (s.drop (one s).2) (at_+(one s).2)
  else A8q f (s.drop (one s).2) (at_+(one s).2)
def U8 (s:List UInt8):List Tok:=A8q s.length s 0
theorem A90 (F:UInt8->Bool):∀(r:List UInt8) (m:Nat),(∀j,j<m->F (r.getD j 0)=true)->m<=r.length->(m=r.length\/F (r.getD m 0)=false)->(r.takeWhile F).length=m
 | [],m,_,h2,_=>by simp at h2;simp[h2]
 |c::r,0,_,_,h3=>by
  have:F c=false:=by simpa using h3
  simp[this]
 |c::r,m+1,h1,h2,h3=>by
  have h0:F c=true:=by simpa using h1 0 (by omega)
  have:=A90 F r m (fun j hj=>by simpa using h1 (j+1) (by omega)) (by simpa using h2) (by simpa using h3);simp[h0,this]
theorem C36 (F:UInt8->Bool) (s:List UInt8) (k:Nat) (h0:1<=k) (h1:∀j,1<=j->j<k->F (s.getD j 0)=true) (h2:k<=s.length) (h3:k=s.length\/F (s.getD k 0)=false):run F s.tail=k:=by
 cases s with
 |nil=>simp at h2;omega
 |cons c r=>
  obtain⟨m,rfl⟩:∃m,k=m+1:=⟨k-1,by omega⟩;have:=A90 F r m (fun j hj=>by simpa using h1 (j+1) (by omega) (by omega)) (by simpa using h2) (by simpa using h3);simp[run,this];omega
theorem C7p (F:UInt8->Bool) (s:List UInt8) (h:s≠ []):1<=run F s.tail/\run F s.tail<=s.length:=by
 cases s with
 |nil=>exact absurd rfl h
 |cons c r=>
  have:=(List.takeWhile_prefix F (l:=r)).length_le;simp[run];omega
theorem A6F (s:List UInt8) (h:s≠ []):1<=(one s).2/\(one s).2<=s.length:=by
 cases s with
 |nil=>exact absurd rfl h
 |cons c r=>
  simp only[one];have h1:=fun F=>C7p F (c::r) (by simp)
  simp only[List.tail_cons]at h1;repeat' split
  all_goals first|exact h1 _|simp
theorem B1K:∀(f g:Nat) (s:List UInt8) (p:Nat),s.length<=f->s.length<=g->A8q f s p=A8q g s p
 |0,0,_,_,_,_=>rfl
 |0,g+1,s,p,h,_=>by
  have:s= []:=A00 (by omega);simp[A8q,this]
 |f+1,0,s,p,_,h=>by
  have:s= []:=A00 (by omega);simp[A8q,this]
 |f+1,g+1,s,p,h1,h2=>by
  by_cases hs:s= []
  ·simp[A8q,hs]
  ·have:=A6F s hs
   simp only[A8q,hs,if_false];rw[B1K f g (s.drop (one s).2) _ (by simp;omega) (by simp;omega)]
def A5B (s:List UInt8) (k:Nat):List Tok:=A8q (s.length-k) (s.drop k) k
theorem A6Q (s:List UInt8) (k:Nat) (h:s.length<=k):A5B s k= []:=by
 have:s.length-k=0:=by omega
 simp[A5B,this,A8q]
theorem A5U (s:List UInt8) (k:Nat) (h:k<s.length):
  A5B s k=(if (one (s.drop k)).1>0 then [⟨(one (s.drop k)).1,(s.drop k).take (one (s.drop k)).2,k⟩] else [])++A5B s (k+(one (s.drop k)).2):=by
 have hne:s.drop k≠ []:=by simp;omega
 have hl:=A6F _ hne;simp only[A0r]at hl;obtain⟨f,hf⟩:∃f,s.length-k=f+1:=⟨s.length-k-1,by omega⟩;have e:A8q f (s.drop (k+(one (s.drop k)).2)) (k+(one (s.drop k)).2)=A5B s (k+(one (s.drop k)).2):=
  B1K _ _ _ _ (by simp;omega) (by simp)
 unfold A5B
 rw[hf];simp only[A8q,hne,if_false,A5M];rw[e];split<;>rfl
theorem A7B (s:List UInt8):U8 s=A5B s 0:=by simp[U8,A5B]
def A5R:List (List UInt8):= [[102,110],[99,104,97,110],[108,101,116],[105,102],[101,108,115,101],[119,104,105,108,101],[115,101,110,100],[114,101,116,117,114,110],[115,101,110,100,115]]
def B0q (s:List UInt8):Bool:=decide (1<=s.length) && decide (s.length<=12) && A40 (s.getD 0 0) && s.all A5X
def name (s:List UInt8):Bool:= !(A5R.any (fun w=>decide (s=w))) && B0q s
theorem B9V (F:UInt8->Bool) (s:List UInt8):s.all F=true↔ ∀j,j<s.length->F (s.getD j 0)=true:=by
 rw[A2Q];constructor
 ·intro h j hj
  rw[O4,G6 hj];exact h _ (O7 hj)
 ·intro h x hx
  obtain⟨j,hj,rfl⟩:=List.mem_iff_getElem.1 hx;have:=h j hj
  rwa [O4,G6 hj]at this
theorem C3F (s:List UInt8):(one s).1<=4:=by
 cases s with
 |nil=>simp[one]
 |cons c r=>
  simp only[one];repeat' split
  all_goals simp
structure TokOk (s:List UInt8) (t:Tok):Prop where
 pos:t.pos<s.length
 len:1<=t.text.length
 fit:t.pos+t.text.length<=s.length
 text:t.text=(s.drop t.pos).take t.text.length
 one:t.kind=(one (s.drop t.pos)).1/\t.text.length=(one (s.drop t.pos)).2
 kind:1<=t.kind/\t.kind<=4
theorem B3M (s:List UInt8):∀(n k:Nat),s.length-k=n->∀t∈A5B s k,k<=t.pos/\TokOk s t:=by
 intro n;induction n using Nat.strongRecOn with
 |_ n ih=>
  intro k hn t ht;by_cases h:k<s.length
  ·rw[A5U s k h]at ht
   have hne:s.drop k≠ []:=by simp;omega
   have hl:=A6F _ hne;simp only[A0r]at hl;rcases A0d.1 ht with h1|h1
   ·split at h1
    ·rename_i hk
     simp at h1
     subst h1;have hlen:((s.drop k).take (one (s.drop k)).2).length=(one (s.drop k)).2:=by simp;omega
     exact⟨G9 _,⟨h,by rw[hlen];omega,by rw[hlen];dsimp only;omega,by rw[hlen],⟨rfl,hlen⟩,⟨hk,C3F _⟩⟩⟩
    ·simp at h1
   ·obtain⟨h2,h3⟩:=ih (s.length-(k+(one (s.drop k)).2)) (by omega) _ rfl t h1
    exact⟨by omega,h3⟩
  ·rw[A6Q s k (by omega)]at ht
   simp at ht
theorem A2E (s:List UInt8) (t:Tok) (ht:t∈U8 s):TokOk s t:=by
 rw[A7B]at ht;exact(B3M s _ 0 rfl t ht).2
theorem B33 (s:List UInt8):∀(n k:Nat),s.length-k=n->(A5B s k).Pairwise (fun a b=>a.pos+a.text.length<=b.pos):=by
 intro n;induction n using Nat.strongRecOn with
 |_ n ih=>
  intro k hn;by_cases h:k<s.length
  ·have hne:s.drop k≠ []:=by simp;omega
   have hl:=A6F _ hne;simp only[A0r]at hl;have h1:=ih (s.length-(k+(one (s.drop k)).2)) (by omega) _ rfl;rw[A5U s k h];split
   ·rw[A7T,A1u]
    refine⟨fun t ht=>?_,h1⟩
    have:=(B3M s _ _ rfl t ht).1;simp;omega
   ·exact h1
  ·rw[A6Q s k (by omega)];exact List.Pairwise.nil
theorem A4r (s:List UInt8):(U8 s).Pairwise (fun a b=>a.pos+a.text.length<=b.pos):=by rw[A7B];exact B33 s _ 0 rfl
def wFn:List UInt8:= [102,110]
def C4x:List UInt8:= [99,104,97,110]
def A97 (s:List UInt8) (t:Tok):Bool:=decide (t.kind=1) && (decide (t.text=wFn)||decide (t.text=C4x)) && (decide (t.pos=0)||decide ((s.getD (t.pos-1) 0).toNat=10))
def A15 (s:List UInt8) (acc:List Nat) (t:Tok):List Nat:=if A97 s t=true\/acc= [] then acc++ [t.pos] else acc
def Y2 (s:List UInt8):List Nat:=(U8 s).foldl (A15 s) []
theorem B2Z (s:List UInt8) (acc:List Nat) (t:Tok):A15 s acc t≠ []:=by
 unfold A15
 split
 ·simp
 ·rename_i h;exact fun e=>h (.inr e)
theorem B6K (s:List UInt8) (acc:List Nat) (t:Tok):acc.length<=(A15 s acc t).length/\(A15 s acc t).length<=acc.length+1:=by
 unfold A15
 split<;>simp
theorem C09 {α β:Type} (f:β->α->β) (b:β) (l:List α) (k:Nat) (a:α) (h:l[k]?=some a):(l.take (k+1)).foldl f b=f ((l.take k).foldl f b) a:=by
 rw[A3f,h];simp
theorem A7C (s:List UInt8):(U8 s).length<=s.length:=by
 have key:∀(n k:Nat),s.length-k=n->(A5B s k).length<=n:=by
  intro n;induction n using Nat.strongRecOn with
  |_ n ih=>
   intro k hn;by_cases h:k<s.length
   ·have hl:=A6F (s.drop k) (by simp;omega)
    simp only[A0r]at hl;have:=ih (s.length-(k+(one (s.drop k)).2)) (by omega) _ rfl;rw[A5U s k h,E9];split
    ·simp;omega
    ·simp;omega
   ·rw[A6Q s k (by omega)];simp
 have:=key _ 0 rfl;rw[A7B];simpa using this
inductive Ex where
 |mk (kind:Nat) (name:List UInt8) (n:Nat) (args:List Ex) (fr to:Nat)
inductive Stm where
 |mk (kind:Nat) (name:List UInt8) (at_ label:Nat) (opn:Bool) (e:Ex) (thn els:List Stm) (fr to:Nat)
structure Par where
 name:List UInt8
 label:Nat
 at_:Nat
structure Rf where
 name:List UInt8
 at_:Nat
structure Dg where
 fr:Nat
 to:Nat
 err:Nat
 name:List UInt8
structure Itm where
 kind:Nat
 name:List UInt8
 label:Nat
 params:List Par
 sends:List Rf
 body:List Stm
 at_:Int
 size:Nat
 mark:Nat
 diags:List Dg
instance :Inhabited Ex:=⟨.mk 0 [] 0 [] 0 0⟩
instance :Inhabited Stm:=⟨.mk 0 [] 0 0 false default [] [] 0 0⟩
def Ex.fr:Ex->Nat
 | .mk _ _ _ _ f _=>f
def Ex.to:Ex->Nat
 | .mk _ _ _ _ _ t=>t
structure Src where
 l:List Tok
 size:Nat
structure St where
 i:Nat
 ds:List Dg
def Src.tok (T:Src) (i:Nat):Tok:=T.l.getD i ⟨0,[],T.size⟩
def Src.is (T:Src) (i:Nat) (w:List UInt8):Bool:=decide (i<T.l.length) && decide ((T.tok i).text=w)
def Src.endOf (T:Src) (i:Nat):Nat:=if i=0 then 0 else (T.tok (i-1)).pos+(T.tok (i-1)).text.length
def St.bad (T:Src) (s:St) (e:Nat):St:= { s with ds:=s.ds++ [⟨(T.tok s.i).pos,(T.tok s.i).pos+(T.tok s.i).text.length,e,(T.tok s.i).text⟩]}
def St.next (s:St):St:= { s with i:=s.i+1}
def St.need (T:Src) (s:St) (w:List UInt8):Bool×St:=if T.is s.i w then (true,s.next) else (false,s.bad T 2)
def St.named (T:Src) (s:St):List UInt8×St:=
 if name (T.tok s.i).text then ((T.tok s.i).text,s.next) else
 if (T.tok s.i).kind=1 then ([],(s.bad T 7).next) else ([],s.bad T 2)
def C1Z (t:List UInt8):Bool:=decide (t.length=1) && (decide (97<=(t.getD 0 0).toNat) && decide ((t.getD 0 0).toNat<=104))
def B2g (T:Src):Nat->Nat->St->Nat×St
 |0,n,s=>(n,s)
 |f+1,n,s=>
  if T.is s.i [125] then (n,s.next) else
  let t:=(T.tok s.i).text
  if !C1Z t then (n,s.bad T 2) else
  let q:=(t.getD 0 0).toNat-97
  let s1:=if bit n q then s.bad T 7 else s
  let n1:=if bit n q then n else n+2 ^ q
  let s2:=s1.next
  if T.is s2.i [125] then B2g T f n1 s2 else
  if T.is s2.i [44] then B2g T f n1 s2.next else (n1,s2.bad T 2)
def lab (T:Src) (s:St):Nat×St:=
 if T.is s.i [123] then B2g T (T.l.length+1) 0 s.next else (0,s.bad T 2)
def A1i (t:List UInt8):Nat:=
 if t= [61]\/t= [60] then 1 else if t= [43]\/t= [45] then 2 else if t= [42] then 3 else 0
def A9T (T:Src) (s:St) (e:Nat):Ex×St:=(.mk 5 [] 0 [] (T.tok s.i).pos (T.tok s.i).pos,s.bad T e)
def A4v (t:List UInt8):Nat:=t.foldl (fun n c=>if n<=1000000000 then 10 *n+(c.toNat-48) else n) 0
mutual
def A2Z (T:Src):Nat->Nat->St->Ex×St
 |0,_,s=>(default,s)
 |f+1,d,s=>
  let t:=T.tok s.i
  if T.l.length<=s.i then A9T T s 2 else
  if 12<=d then A9T T s 12 else
  if t.kind=2 then
   if 1000000000<A4v t.text then (.mk 1 [] 0 [] t.pos (t.pos+t.text.length),(s.bad T 3).next)
   else (.mk 1 [] (A4v t.text) [] t.pos (t.pos+t.text.length),s.next) else
  if t.text= [40] then
   let r:=A0O T f (d+1) 1 s.next
   (r.1,(r.2.need T [41]).2) else
  if !name t.text then A9T T s 2 else
  if !T.is (s.i+1) [40] then (.mk 2 t.text 0 [] t.pos (t.pos+t.text.length),s.next) else
  let r:=A4e T f (d+1) [] s.next.next
  let s2:=(r.2.need T [41]).2
  (.mk 4 t.text 0 r.1 t.pos (T.endOf s2.i),s2)
def A4e (T:Src):Nat->Nat->List Ex->St->List Ex×St
 |0,_,l,s=>(l,s)
 |f+1,d,l,s=>
  if T.l.length<=s.i\/T.is s.i [41] then (l,s) else
  if l.length=5 then (l,s.bad T 5) else
  let r:=A0O T f d 1 s
  if T.is r.2.i [44] then A4e T f d (l++ [r.1]) r.2.next else (l++ [r.1],r.2)
def A0O (T:Src):Nat->Nat->Nat->St->Ex×St
 |0,_,_,s=>(default,s)
 |f+1,d,least,s=>
  let r:=A2Z T f d s
  opL T f d least r.1 r.2
def opL (T:Src):Nat->Nat->Nat->Ex->St->Ex×St
 |0,_,_,e,s=>(e,s)
 |f+1,d,least,e,s=>
  let op:=(T.tok s.i).text
  if A1i op<least\/A1i op=0 then (e,s) else
  let r:=A0O T f d (A1i op+1) s.next
  opL T f d least (.mk 3 op 0 [e,r.1] e.fr (max r.1.to e.to)) r.2
 end
mutual
def block (T:Src):Nat->Nat->St->List Stm×St
 |0,_,s=>([],s)
 |f+1,d,s=>
  if !T.is s.i [123] then ([],s.bad T 2) else
  if 12<=d then ([],s.next.bad T 12) else
  let r:=A4q T f (d+1) [] s.next
  (r.1,(r.2.need T [125]).2)
def A4q (T:Src):Nat->Nat->List Stm->St->List Stm×St
 |0,_,l,s=>(l,s)
 |f+1,d,l,s=>
  if T.l.length<=s.i\/T.is s.i [125] then (l,s) else
  if 40<=l.length then (l,s.bad T 5) else
  let r:=stm T f d s
  A4q T f d (l++ [r.1]) (if r.2.i=s.i then r.2.next else r.2)
def stm (T:Src):Nat->Nat->St->Stm×St
 |0,_,s=>(default,s)
 |f+1,d,s=>
  let t:=T.tok s.i
  let fr:=t.pos
  let fin (s:St):Nat:=max (T.endOf s.i) fr
  if t.text= [108,101,116] then
   let a:=(T.tok (s.i+1)).pos
   let r:=s.next.named T
   let opn:= !T.is r.2.i [58]
   let r1:=if opn then (0,r.2) else lab T r.2.next
   let s2:=(r1.2.need T [61]).2
   let r2:=A0O T f d 1 s2
   let s3:=(r2.2.need T [59]).2
   (.mk 1 r.1 a r1.1 opn r2.1 [] [] fr (fin s3),s3) else
  if t.text= [105,102] then
   let r:=A0O T f d 1 s.next
   let r1:=block T f d r.2
   if T.is r1.2.i [101,108,115,101] then
    let r2:=block T f d r1.2.next
    (.mk 3 [] 0 0 false r.1 r1.1 r2.1 fr (fin r2.2),r2.2)
   else (.mk 3 [] 0 0 false r.1 r1.1 [] fr (fin r1.2),r1.2) else
  if t.text= [119,104,105,108,101] then
   let r:=A0O T f d 1 s.next
   let r1:=block T f d r.2
   (.mk 4 [] 0 0 false r.1 r1.1 [] fr (fin r1.2),r1.2) else
  if t.text= [115,101,110,100] then
   let a:=(T.tok (s.i+1)).pos
   let r:=s.next.named T
   let r2:=A0O T f d 1 r.2
   let s3:=(r2.2.need T [59]).2
   (.mk 5 r.1 a 0 false r2.1 [] [] fr (fin s3),s3) else
  if t.text= [114,101,116,117,114,110] then
   let r2:=A0O T f d 1 s.next
   let s3:=(r2.2.need T [59]).2
   (.mk 6 [] 0 0 false r2.1 [] [] fr (fin s3),s3) else
  if name t.text then
   if T.is (s.i+1) [61] then
    let r2:=A0O T f d 1 s.next.next
    let s3:=(r2.2.need T [59]).2
    (.mk 2 t.text fr 0 false r2.1 [] [] fr (fin s3),s3)
   else
    let r2:=A0O T f d 1 s
    let s3:=(r2.2.need T [59]).2
    (.mk 7 [] 0 0 false r2.1 [] [] fr (fin s3),s3) else
  (.mk 8 [] 0 0 false default [] [] fr (fin (s.bad T 2)),s.bad T 2)
 end
def A4E (T:Src):Nat->List Par->St->List Par×St
 |0,l,s=>(l,s)
 |f+1,l,s=>
  if T.l.length<=s.i\/T.is s.i [41] then (l,s) else
  if 5<=l.length then (l,s.bad T 5) else
  let a:=(T.tok s.i).pos
  let r:=s.named T
  let r1:=r.2.need T [58]
  if !r1.1 then (l,r1.2) else
  let r2:=lab T r1.2
  if T.is r2.2.i [44] then A4E T f (l++ [⟨r.1,r2.1,a⟩]) r2.2.next else (l++ [⟨r.1,r2.1,a⟩],r2.2)
def A4H (T:Src):Nat->List Rf->St->List Rf×St
 |0,l,s=>(l,s)
 |f+1,l,s=>
  if 5<=l.length then (l,s.bad T 5) else
  let a:=(T.tok s.i).pos
  let r:=s.named T
  if T.is r.2.i [44] then A4H T f (l++ [⟨r.1,a⟩]) r.2.next else (l++ [⟨r.1,a⟩],r.2)
def A6S (T:Src):Nat:=8 *T.l.length+64
def A51 (T:Src) (at_:Int) (size:Nat) (s:St):Itm×St:=
 let r:=s.named T
 let s1:=(r.2.need T [40]).2
 let r2:=A4E T 6 [] s1
 let s3:=(r2.2.need T [41]).2
 let s4:=(s3.need T [58]).2
 let r5:=lab T s4
 let r6:=if T.is r5.2.i [115,101,110,100,115] then A4H T 6 [] r5.2.next else ([],r5.2)
 let r7:=block T (A6S T) 0 r6.2
 (⟨2,r.1,r5.1,r2.1,r6.1,r7.1,at_,size,(T.tok s.i).pos,[]⟩,r7.2)
def B0A (T:Src) (at_:Int) (size:Nat) (s:St):Itm×St:=
 let r:=s.named T
 let s1:=(r.2.need T [58]).2
 let r2:=lab T s1
 let s3:=(r2.2.need T [59]).2
 (⟨1,r.1,r2.1,[],[],[],at_,size,(T.tok s.i).pos,[]⟩,s3)
def item (src:List UInt8) (at_:Int):Itm:=
 let T:Src:=⟨U8 src,src.length⟩
 let q:=if T.is 0 [102,110] then A51 T at_ src.length ⟨1,[]⟩ else if T.is 0 [99,104,97,110] then B0A T at_ src.length ⟨1,[]⟩ else
  (⟨3,[],0,[],[],[],at_,src.length,0,[]⟩, { ((⟨0,[]⟩:St).bad T 2) with i:=T.l.length})
 let s:=if q.2.i<T.l.length then q.2.bad T 2 else q.2
 { q.1 with diags:=s.ds}
structure Goes (T:Src) (k:Nat) (s r:St):Prop where
 le:s.i<=r.i
 top:s.i<=T.l.length->r.i<=T.l.length
 ds:r.ds.length+2 *s.i<=s.ds.length+2 *r.i+k
theorem Goes.refl (T:Src) (k:Nat) (s:St):Goes T k s s:=⟨G9 _,id,by omega⟩
theorem Goes.trans {T:Src}{k k':Nat}{s r t:St} (h:Goes T k s r) (g:Goes T k' r t):Goes T (k+k') s t:=
 ⟨A0J h.le g.le,fun x=>g.top (h.top x),by have:=h.ds;have:=g.ds;omega⟩
theorem A4m (T:Src) (s:St) (e:Nat):Goes T 1 s (s.bad T e):=⟨G9 _,id,by simp[St.bad];omega⟩
theorem A1H {T:Src}{i:Nat}{w:List UInt8} (h:T.is i w=true):i<T.l.length:=by
 simp only[Src.is,U9,decide_eq_true_eq]at h;exact h.1
theorem A48 {T:Src}{i:Nat} (h:T.l.length<=i):T.tok i=⟨0,[],T.size⟩:=by
 rw[Src.tok,O4,A07 h];rfl
theorem A56 {t:List UInt8} (h:name t=true):t≠ []:=by rintro rfl;revert h;decide
theorem A2e {T:Src}{i:Nat} (h:(T.tok i).text≠ []):i<T.l.length:=by
 rcases U0 i T.l.length with h1|h1
 ·exact h1
 ·rw[A48 h1]at h;exact absurd rfl h
theorem B2a {T:Src}{i:Nat} (h:(T.tok i).kind≠0):i<T.l.length:=by
 rcases U0 i T.l.length with h1|h1
 ·exact h1
 ·rw[A48 h1]at h;exact absurd rfl h
theorem A0C (T:Src) (s:St) (w:List UInt8):Goes T 1 s (s.need T w).2:=by
 rw[St.need];split
 ·rename_i h
  have:=A1H h;exact⟨by simp[St.next],fun _=>by simp[St.next];omega,by simp[St.next];omega⟩
 ·exact A4m T s 2
theorem A1e (T:Src) (s:St):Goes T 1 s (s.named T).2:=by
 rw[St.named];split
 ·rename_i h
  have:=A2e (A56 h);exact⟨by simp[St.next],fun _=>by simp[St.next];omega,by simp[St.next];omega⟩
 ·split
  ·rename_i h
   have:=B2a (T:=T) (i:=s.i) (by omega);exact⟨by simp[St.next,St.bad],fun _=>by simp[St.next,St.bad];omega,by simp[St.next,St.bad];omega⟩
  ·exact A4m T s 2
theorem B1q (T:Src):∀(f n:Nat) (s:St),Goes T 1 s (B2g T f n s).2
 |0,n,s=>Goes.refl _ _ _
 |f+1,n,s=>by
  rw[B2g];split
  ·rename_i h
   have:=A1H h;exact⟨by simp[St.next],fun _=>by simp[St.next];omega,by simp[St.next];omega⟩
  ·dsimp only
   split
   ·exact A4m T s 2
   ·rename_i h1 h2
    have hlt:s.i<T.l.length:=A2e (by intro e;rw[e]at h2;revert h2;decide);have g1:∀s1:St,(s1=s\/s1=s.bad T 7)->s1.next.i=s.i+1/\s1.next.ds.length<=s.ds.length+1:=by
     rintro s1 (rfl|rfl)<;>simp[St.next,St.bad]
    have g2:=g1 (if bit n ((T.tok s.i).text.getD 0 0|>.toNat|>(· -97))=true then s.bad T 7 else s) (by split<;>simp);generalize (if bit n ((T.tok s.i).text.getD 0 0|>.toNat|>(· -97))=true then s.bad T 7 else s).next=s2 at g2;generalize (if bit n ((T.tok s.i).text.getD 0 0|>.toNat|>(· -97))=true then n else n+2 ^ ((T.tok s.i).text.getD 0 0|>.toNat|>(· -97)))=n1;split
    ·have ih:=B1q T f n1 s2
     exact⟨by have:=ih.le;omega,fun _=>ih.top (by omega),by have:=ih.ds;omega⟩
    ·split
     ·rename_i h5
      have h6:=A1H h5;have ih:=B1q T f n1 s2.next;have e1:s2.next.i=s2.i+1:=rfl;have e2:s2.next.ds=s2.ds:=rfl;exact⟨by have:=ih.le;omega,fun _=>ih.top (by omega),by have:=ih.ds;rw[e2]at this;omega⟩
     ·have ih:=A4m T s2 2
      exact⟨by have:=ih.le;dsimp only;omega,fun _=>ih.top (by omega),by have:=ih.ds;dsimp only;omega⟩
theorem A3l (T:Src) (s:St):Goes T 1 s (lab T s).2:=by
 rw[lab];split
 ·rename_i h
  have:=A1H h;have ih:=B1q T (T.l.length+1) 0 s.next;have e1:s.next.i=s.i+1:=rfl;have e2:s.next.ds=s.ds:=rfl;exact⟨by have:=ih.le;omega,fun _=>ih.top (by omega),by have:=ih.ds;rw[e2]at this;omega⟩
 ·exact A4m T s 2
theorem Q5 (s:St):s.next.i=s.i+1:=rfl
theorem A0V (s:St):s.next.ds=s.ds:=rfl
theorem B05 {t:List UInt8} (h:A1i t≠0):t≠ []:=by rintro rfl;exact h (by decide)
theorem A06 (T:Src):∀f,(∀d s,Goes T 1 s (A2Z T f d s).2)/\(∀d l s,Goes T 1 s (A4e T f d l s).2)/\(∀d m s,Goes T 1 s (A0O T f d m s).2)/\(∀d m e s,Goes T 0 s (opL T f d m e s).2)
 |0=>⟨fun _ _=>by rw[A2Z];exact Goes.refl _ _ _,fun _ _ _=>by rw[A4e];exact Goes.refl _ _ _,fun _ _ _=>by rw[A0O];exact Goes.refl _ _ _,fun _ _ _ _=>by rw[opL];exact Goes.refl _ _ _⟩
 |f+1=>by
  obtain⟨hA,hL,hE,hO⟩:=A06 T f;refine⟨fun d s=>?_,fun d l s=>?_,fun d m s=>?_,fun d m e s=>?_⟩
  ·rw[A2Z]
   dsimp only
   split
   ·exact A4m T s 2
   ·rename_i hlt
    split
    ·exact A4m T s 12
    ·split
     ·split
      ·exact⟨by simp[St.next,St.bad],fun _=>by simp[St.next,St.bad];omega,by simp[St.next,St.bad];omega⟩
      ·exact⟨by simp[St.next],fun _=>by simp[St.next];omega,by simp[St.next];omega⟩
     ·split
      ·have g:=(hE (d+1) 1 s.next).trans (A0C T (A0O T f (d+1) 1 s.next).2 [41])
       have h1:=g.le;have h2:=g.top;have h3:=g.ds;rw[Q5]at h1 h2 h3;rw[A0V]at h3;exact⟨by dsimp only;omega,fun _=>h2 (by omega),by dsimp only;omega⟩
      ·split
       ·exact A4m T s 2
       ·split
        ·exact⟨by simp[St.next],fun _=>by simp[St.next];omega,by simp[St.next];omega⟩
        ·rename_i h5
         have h6:=A1H (by simpa using h5:T.is (s.i+1) [40]=true);have g:=(hL (d+1) [] s.next.next).trans (A0C T (A4e T f (d+1) [] s.next.next).2 [41]);have h1:=g.le;have h2:=g.top;have h3:=g.ds;rw[Q5,Q5]at h1 h2 h3;rw[A0V,A0V]at h3;exact⟨by dsimp only;omega,fun _=>h2 (by omega),by dsimp only;omega⟩
  ·rw[A4e]
   split
   ·exact Goes.refl _ _ _
   ·split
    ·exact A4m T s 5
    ·try dsimp only
     split
     ·rename_i h5
      have h6:=A1H h5;have g:=hE d 1 s;have g2:=hL d (l++ [(A0O T f d 1 s).1]) (A0O T f d 1 s).2.next;have h1:=g2.le;have h2:=g2.top;have h3:=g2.ds;have:=g.le;have:=g.ds;rw[Q5]at h1 h2 h3;rw[A0V]at h3;exact⟨by omega,fun _=>h2 (by omega),by omega⟩
     ·exact hE d 1 s
  ·rw[A0O]
   try dsimp only
   exact(hA d s).trans (hO d m (A2Z T f d s).1 (A2Z T f d s).2)
  ·rw[opL]
   try dsimp only
   split
   ·exact Goes.refl _ _ _
   ·rename_i h5
    have h6:s.i<T.l.length:=A2e (B05 (by omega));have g:=hE d (A1i (T.tok s.i).text+1) s.next;have g2:=hO d m (.mk 3 (T.tok s.i).text 0 [e,(A0O T f d (A1i (T.tok s.i).text+1) s.next).1] e.fr (max (A0O T f d (A1i (T.tok s.i).text+1) s.next).1.to e.to)) (A0O T f d (A1i (T.tok s.i).text+1) s.next).2;have g3:=g.trans g2;have h1:=g3.le;have h2:=g3.top;have h3:=g3.ds;rw[Q5]at h1 h2 h3;rw[A0V]at h3;exact⟨by omega,fun _=>h2 (by omega),by omega⟩
structure Goes8 (T:Src) (k:Nat) (s r:St):Prop where
 le:s.i<=r.i
 top:s.i<=T.l.length->r.i<=T.l.length
 ds:r.ds.length+8 *s.i<=s.ds.length+8 *r.i+k
theorem Goes.g8 {T:Src}{k:Nat}{s r:St} (h:Goes T k s r):Goes8 T k s r:=⟨h.le,h.top,by have:=h.ds;have:=h.le;omega⟩
theorem Goes8.trans {T:Src}{k k':Nat}{s r t:St} (h:Goes8 T k s r) (g:Goes8 T k' r t):Goes8 T (k+k') s t:=
 ⟨A0J h.le g.le,fun x=>g.top (h.top x),by have:=h.ds;have:=g.ds;omega⟩
theorem Goes8.mono {T:Src}{k k':Nat}{s r:St} (h:Goes8 T k s r) (hk:k<=k'):Goes8 T k' s r:=⟨h.le,h.top,by have:=h.ds;omega⟩
theorem Goes8.refl (T:Src) (k:Nat) (s:St):Goes8 T k s s:=⟨G9 _,id,by omega⟩
theorem B0I {T:Src}{k:Nat}{s r:St} (hi:s.i<T.l.length) (h:Goes8 T (k+8) s.next r):Goes8 T k s r:=by
 obtain⟨h1,h2,h3⟩:=h;rw[Q5]at h1 h2 h3;rw[A0V]at h3;exact⟨by omega,fun _=>h2 (by omega),by omega⟩
theorem B1o (T:Src) (f d m:Nat) (s:St):Goes8 T 1 s (A0O T f d m s).2:=((A06 T f).2.2.1 d m s).g8
theorem B1p (T:Src) (s:St) (w:List UInt8):Goes8 T 1 s (s.need T w).2:=(A0C T s w).g8
theorem C0c (T:Src) (s:St):Goes8 T 1 s (s.named T).2:=(A1e T s).g8
theorem C8l (T:Src) (s:St):Goes8 T 1 s (lab T s).2:=(A3l T s).g8
theorem C25 (T:Src) (s:St) (e:Nat):Goes8 T 1 s (s.bad T e):=(A4m T s e).g8
structure StG (T:Src) (s r:St):Prop where
 le:s.i<=r.i
 top:s.i<=T.l.length->r.i<=T.l.length
 ds0:r.i=s.i->r.ds.length<=s.ds.length+2
 ds1:s.i<r.i->r.ds.length+8 *s.i<=s.ds.length+8 *r.i
theorem A6N {T:Src}{k:Nat}{s r:St} (hi:s.i<T.l.length) (h:Goes8 T k s.next r) (hk:k<=8):StG T s r:=by
 obtain⟨h1,h2,h3⟩:=h;rw[Q5]at h1 h2 h3;rw[A0V]at h3;exact⟨by omega,fun _=>h2 (by omega),fun _=>by omega,fun _=>by omega⟩
theorem A10 (T:Src):∀f,(∀d s,Goes8 T 1 s (block T f d s).2)/\(∀d l s,Goes8 T 1 s (A4q T f d l s).2)/\(∀d s,StG T s (stm T f d s).2)
 |0=>⟨fun _ _=>by rw[block];exact Goes8.refl _ _ _,fun _ _ _=>by rw[A4q];exact Goes8.refl _ _ _,fun _ s=>by rw[stm];exact⟨G9 _,id,fun _=>by simp,fun _=>by simp⟩⟩
 |f+1=>by
  obtain⟨hB,hL,hS⟩:=A10 T f;refine⟨fun d s=>?_,fun d l s=>?_,fun d s=>?_⟩
  ·rw[block]
   split
   ·exact(C25 T s 2).mono (by omega)
   ·rename_i h
    have hi:=A1H (by simpa using h:T.is s.i [123]=true);split
    ·exact B0I hi ((C25 T s.next 12).mono (by omega))
    ·dsimp only
     exact B0I hi (((hL (d+1) [] s.next).trans (B1p T _ [125])).mono (by omega))
  ·rw[A4q]
   split
   ·exact Goes8.refl _ _ _
   ·rename_i h
    have hi:s.i<T.l.length:=by omega
    split
    ·exact C25 T s 5
    ·dsimp only
     have g:=hS d s;have h1:=g.le;have h2:=g.top;have h3:=g.ds0;have h4:=g.ds1;split
     ·rename_i he
      have g2:=hL d (l++ [(stm T f d s).1]) (stm T f d s).2.next;have k1:=g2.le;have k2:=g2.top;have k3:=g2.ds;rw[Q5]at k1 k2 k3;rw[A0V]at k3;have h5:=h3 he;exact⟨by omega,fun _=>k2 (by omega),by omega⟩
     ·rename_i he
      have g2:=hL d (l++ [(stm T f d s).1]) (stm T f d s).2;have k1:=g2.le;have k2:=g2.top;have k3:=g2.ds;have h5:=h4 (by omega);exact⟨by omega,fun _=>k2 (by omega),by omega⟩
  ·rw[stm]
   dsimp only
   have hlt:∀t:List UInt8,t≠ []->(T.tok s.i).text=t->s.i<T.l.length:=fun t ht e=>A2e (by rw[e];exact ht)
   split
   ·rename_i h
    refine A6N (hlt _ (by simp) h) (k:=5) ?_ (by omega)
    have g1:=C0c T s.next;have g2:Goes8 T 1 (s.next.named T).2 (if (!T.is (s.next.named T).2.i [58])=true then ((0:Nat),(s.next.named T).2) else lab T (s.next.named T).2.next).2:=by
     split
     ·exact Goes8.refl _ _ _
     ·rename_i h5
      exact B0I (A1H (by simpa using h5:T.is (s.next.named T).2.i [58]=true)) ((C8l T _).mono (by omega))
    exact(((g1.trans g2).trans (B1p T _ _)).trans (B1o T f d 1 _)).trans (B1p T _ _)
   ·split
    ·rename_i h
     have g1:=(B1o T f d 1 s.next).trans (hB d (A0O T f d 1 s.next).2);split
     ·rename_i h5
      refine A6N (hlt _ (by simp) h) (k:=3) ?_ (by omega)
      exact g1.trans (B0I (k:=1) (A1H h5) ((hB d _).mono (by omega)))
     ·exact A6N (hlt _ (by simp) h) g1 (by omega)
    ·split
     ·rename_i h
      exact A6N (hlt _ (by simp) h) ((B1o T f d 1 s.next).trans (hB d (A0O T f d 1 s.next).2)) (by omega)
     ·split
      ·rename_i h
       exact A6N (hlt _ (by simp) h) (((C0c T s.next).trans (B1o T f d 1 _)).trans (B1p T _ _)) (by omega)
      ·split
       ·rename_i h
        exact A6N (hlt _ (by simp) h) ((B1o T f d 1 s.next).trans (B1p T _ _)) (by omega)
       ·split
        ·rename_i h
         have hi:=A2e (A56 h);split
         ·rename_i h5
          have h6:=A1H h5;exact A6N hi (B0I (k:=0) h6 (((B1o T f d 1 s.next.next).trans (B1p T _ [59])).mono (by omega))) (by omega)
         ·have g:=((A06 T f).2.2.1 d 1 s).trans (A0C T (A0O T f d 1 s).2 [59])
          have h1:=g.le;have h2:=g.top;have h3:=g.ds;refine⟨h1,h2,fun h=>?_,fun h=>?_⟩<;>dsimp only at h |- <;>omega
        ·exact⟨G9 _,id,fun _=>by simp[St.bad],fun h=>by simp[St.bad]at h⟩
def A1b (s:List UInt8) (cs:List Nat) (i:Nat):List UInt8:=(s.drop (cs.getD i 0)).take (cs.getD (i+1) s.length-cs.getD i 0)
def A0S (s:List UInt8) (cs:List Nat) (i:Nat):Itm:=item (A1b s cs i) (cs.getD i 0)
def A3I (s:List UInt8) (cs:List Nat):List Itm:=(List.range cs.length).map (A0S s cs)
def Z5 (s:List UInt8):Nat:=if s.length>4000 then 4 else if (Y2 s).length>30 then 5 else 0
def J7 (s:List UInt8):List Itm:=if Z5 s=0 then A3I s (Y2 s) else []
theorem B0B (s:List UInt8):∀(l:List Tok) (acc:List Nat),∃r,l.foldl (A15 s) acc=acc++r/\r.Sublist (l.map (·.pos))
 | [],acc=>⟨[],by simp,by simp⟩
 |t::l,acc=>by
  rw[A1f,A15];split
  ·obtain⟨r,h1,h2⟩:=B0B s l (acc++ [t.pos])
   exact⟨t.pos::r,by rw[h1];simp,by rw[X8];exact h2.cons_cons _⟩
  ·obtain⟨r,h1,h2⟩:=B0B s l acc
   exact⟨r,h1,by rw[X8];exact h2.cons _⟩
theorem B6M (s:List UInt8):(Y2 s).Pairwise (· < ·)/\∀x∈Y2 s,x<s.length:=by
 obtain⟨r,h1,h2⟩:=B0B s (U8 s) [];have e:Y2 s=r:=by rw[Y2,h1];simp
 rw[e];refine⟨List.Pairwise.sublist h2 ?_,fun x hx=>?_⟩
 ·rw[List.pairwise_map]
  have h3:=A4r s;rw[A2c]at h3 |-;intro i j hi hj hij;have h4:=h3 i j hi hj hij;have h5:=(A2E s _ (O7 hi)).len;omega
 ·have:=h2.subset hx
  obtain⟨t,ht,rfl⟩:=A0x.1 this;exact(A2E s t ht).pos
theorem A7E (s:List UInt8) {i:Nat} (h:i<(Y2 s).length):(Y2 s).getD i 0<(Y2 s).getD (i+1) s.length/\(Y2 s).getD (i+1) s.length<=s.length:=by
 obtain⟨h1,h2⟩:=B6M s;have e1:(Y2 s).getD i 0=(Y2 s)[i]:=by rw[O4,G6 h];rfl
 have h3:=h2 _ (O7 h);rw[e1];rcases U0 (i+1) (Y2 s).length with h4|h4
 ·have e2:(Y2 s).getD (i+1) s.length=(Y2 s)[i+1]:=by rw[O4,G6 h4];rfl
  rw[e2];exact⟨A2c.1 h1 i (i+1) h h4 (by omega),Nat.le_of_lt (h2 _ (O7 h4))⟩
 ·have e2:(Y2 s).getD (i+1) s.length=s.length:=by rw[O4,A07 h4];rfl
  rw[e2];exact⟨h3,G9 _⟩
theorem B3g (s:List UInt8) (cs:List Nat) (k:Nat):(List.range (k+1)).map (A0S s cs)=(List.range k).map (A0S s cs)++ [A0S s cs k]:=by
 rw[A1O,Y8];rfl
def Ex.kind:Ex->Nat
 | .mk k _ _ _ _ _=>k
def Ex.name:Ex->List UInt8
 | .mk _ n _ _ _ _=>n
def Ex.n:Ex->Nat
 | .mk _ _ n _ _ _=>n
def Ex.args:Ex->List Ex
 | .mk _ _ _ a _ _=>a
def Stm.kind:Stm->Nat
 | .mk k _ _ _ _ _ _ _ _ _=>k
def Stm.name:Stm->List UInt8
 | .mk _ n _ _ _ _ _ _ _ _=>n
def Stm.at_:Stm->Nat
 | .mk _ _ a _ _ _ _ _ _ _=>a
def Stm.label:Stm->Nat
 | .mk _ _ _ l _ _ _ _ _ _=>l
def Stm.opn:Stm->Bool
 | .mk _ _ _ _ o _ _ _ _ _=>o
def Stm.e:Stm->Ex
 | .mk _ _ _ _ _ e _ _ _ _=>e
def Stm.thn:Stm->List Stm
 | .mk _ _ _ _ _ _ t _ _ _=>t
def Stm.els:Stm->List Stm
 | .mk _ _ _ _ _ _ _ e _ _=>e
def Stm.fr:Stm->Nat
 | .mk _ _ _ _ _ _ _ _ f _=>f
def Stm.to:Stm->Nat
 | .mk _ _ _ _ _ _ _ _ _ t=>t
def A41 (T:Src) (at_:Int) (size:Nat):Itm×St:=
 if T.is 0 [102,110]=true then A51 T at_ size ⟨1,[]⟩ else if T.is 0 [99,104,97,110]=true then B0A T at_ size ⟨1,[]⟩ else
  (⟨3,[],0,[],[],[],at_,size,0,[]⟩, { ((⟨0,[]⟩:St).bad T 2) with i:=T.l.length})
def B4B (T:Src) (q:Itm×St):Itm:= { q.1 with diags:=(if q.2.i<T.l.length then q.2.bad T 2 else q.2).ds}
theorem A7M (src:List UInt8) (at_:Int):item src at_=B4B ⟨U8 src,src.length⟩ (A41 ⟨U8 src,src.length⟩ at_ src.length):=rfl
mutual
def Ex.small:Ex->Prop
 | .mk _ _ _ args _ _=>args.length<=64/\A1F args
def A1F:List Ex->Prop
 | []=>True
 |e::es=>e.small/\A1F es
 end
mutual
def Stm.small:Stm->Prop
 | .mk _ _ _ _ _ e thn els _ _=>e.small/\thn.length<=64/\A0i thn/\els.length<=64/\A0i els
def A0i:List Stm->Prop
 | []=>True
 |e::es=>e.small/\A0i es
 end
theorem A9L:∀ {l:List Ex}{e:Ex},A1F l->e.small->A1F (l++ [e])
 | [],e,_,h=>by rw[P5,A1F,A1F];exact⟨h,trivial⟩
 |a::l,e,h,he=>by
  rw[A1F]at h;rw[Y0,A1F];exact⟨h.1,A9L h.2 he⟩
theorem A9i:∀ {l:List Stm}{e:Stm},A0i l->e.small->A0i (l++ [e])
 | [],e,_,h=>by rw[P5,A0i,A0i];exact⟨h,trivial⟩
 |a::l,e,h,he=>by
  rw[A0i]at h;rw[Y0,A0i];exact⟨h.1,A9i h.2 he⟩
theorem A1G:∀ {l:List Ex}{i:Nat}{e:Ex},A1F l->l[i]?=some e->e.small
 | [],_,_,_,h=>by simp at h
 |a::l,0,e,h,he=>by
  rw[A1F]at h;simp only[A0A,U3]at he;exact he ▸ h.1
 |a::l,i+1,e,h,he=>by
  rw[A1F]at h;exact A1G h.2 (by simpa using he)
theorem A1D:∀ {l:List Stm}{i:Nat}{e:Stm},A0i l->l[i]?=some e->e.small
 | [],_,_,_,h=>by simp at h
 |a::l,0,e,h,he=>by
  rw[A0i]at h;simp only[A0A,U3]at he;exact he ▸ h.1
 |a::l,i+1,e,h,he=>by
  rw[A0i]at h;exact A1D h.2 (by simpa using he)
theorem A3d (k n f t:Nat) (nm:List UInt8):(Ex.mk k nm n [] f t).small:=by rw[Ex.small,A1F];exact⟨by simp,trivial⟩
theorem B3G (T:Src):∀f,(∀d s,(A2Z T f d s).1.small)/\(∀d l s,l.length<=5->A1F l->(A4e T f d l s).1.length<=5/\A1F (A4e T f d l s).1)/\(∀d m s,(A0O T f d m s).1.small)/\(∀d m e s,Ex.small e->(opL T f d m e s).1.small)
 |0=>⟨fun _ _=>by rw[A2Z];exact A3d _ _ _ _ _,fun _ _ _ h1 h2=>by rw[A4e];exact⟨h1,h2⟩,fun _ _ _=>by rw[A0O];exact A3d _ _ _ _ _,fun _ _ _ _ h=>by rw[opL];exact h⟩
 |f+1=>by
  obtain⟨hA,hL,hE,hO⟩:=B3G T f;refine⟨fun d s=>?_,fun d l s h1 h2=>?_,fun d m s=>?_,fun d m e s h=>?_⟩
  ·rw[A2Z]
   dsimp only
   split
   ·exact A3d _ _ _ _ _
   ·split
    ·exact A3d _ _ _ _ _
    ·split
     ·split<;>exact A3d _ _ _ _ _
     ·split
      ·exact hE _ _ _
      ·split
       ·exact A3d _ _ _ _ _
       ·split
        ·exact A3d _ _ _ _ _
        ·have:=hL (d+1) [] s.next.next (by simp) (by rw[A1F];trivial)
         rw[Ex.small];exact⟨by omega,this.2⟩
  ·rw[A4e]
   split
   ·exact⟨h1,h2⟩
   ·split
    ·exact⟨h1,h2⟩
    ·rename_i h5
     have hs:=A9L h2 (hE d 1 s);have hl:(l++ [(A0O T f d 1 s).1]).length<=5:=by simp;omega
     try dsimp only
     split
     ·exact hL _ _ _ hl hs
     ·exact⟨hl,hs⟩
  ·rw[A0O]
   try dsimp only
   exact hO _ _ _ _ (hA _ _)
  ·rw[opL]
   try dsimp only
   split
   ·exact h
   ·refine hO _ _ _ _ ?_
    rw[Ex.small,A1F,A1F,A1F];exact⟨by simp,h,hE _ _ _,trivial⟩
theorem A16:A0i []:=by rw[A0i];trivial
theorem A8d (k a lb f t:Nat) (o:Bool) (nm:List UInt8) (e:Ex) (h:e.small):(Stm.mk k nm a lb o e [] [] f t).small:=by
 rw[Stm.small];exact⟨h,by simp,A16,by simp,A16⟩
theorem A9g (T:Src):∀f,(∀d s,(block T f d s).1.length<=40/\A0i (block T f d s).1)/\(∀d l s,l.length<=40->A0i l->(A4q T f d l s).1.length<=40/\A0i (A4q T f d l s).1)/\(∀d s,(stm T f d s).1.small)
 |0=>⟨fun _ _=>by rw[block];exact⟨by simp,A16⟩,fun _ _ _ h1 h2=>by rw[A4q];exact⟨h1,h2⟩,fun _ s=>by rw[stm];exact A8d _ _ _ _ _ _ _ _ (A3d _ _ _ _ _)⟩
 |f+1=>by
  obtain⟨hB,hL,hS⟩:=A9g T f;have hE:=(B3G T f).2.2.1;refine⟨fun d s=>?_,fun d l s h1 h2=>?_,fun d s=>?_⟩
  ·rw[block]
   split
   ·exact⟨by simp,A16⟩
   ·split
    ·exact⟨by simp,A16⟩
    ·dsimp only
     exact hL _ _ _ (by simp) A16
  ·rw[A4q]
   split
   ·exact⟨h1,h2⟩
   ·split
    ·exact⟨h1,h2⟩
    ·dsimp only
     exact hL _ _ _ (by simp;omega) (A9i h2 (hS d s))
  ·rw[stm]
   dsimp only
   have two:∀(k a lb f t:Nat) (o:Bool) (nm:List UInt8) (e:Ex) (b c:List Stm),e.small->b.length<=40/\A0i b->c.length<=40/\A0i c->(Stm.mk k nm a lb o e b c f t).small:=fun k a lb f t o nm e b c h1 h2 h3=>by
    rw[Stm.small];exact⟨h1,by omega,h2.2,by omega,h3.2⟩
   have nil2:([]:List Stm).length<=40/\A0i []:=⟨by simp,A16⟩;repeat' split
   all_goals first
    |exact A8d _ _ _ _ _ _ _ _ (hE _ _ _)
    |exact two _ _ _ _ _ _ _ _ _ _ (hE _ _ _) (hB _ _) (hB _ _)
    |exact two _ _ _ _ _ _ _ _ _ _ (hE _ _ _) (hB _ _) nil2
    |exact A8d _ _ _ _ _ _ _ _ (A3d _ _ _ _ _)
theorem A88 (T:Src):∀(f:Nat) (l:List Par) (s:St),l.length<=5->(A4E T f l s).1.length<=5/\(s.i<=T.l.length->s.i<=(A4E T f l s).2.i/\(A4E T f l s).2.i<=T.l.length/\(A4E T f l s).2.ds.length<=s.ds.length+2 *((A4E T f l s).2.i-s.i)+3 *f)
 |0,l,s,h=>by rw[A4E];exact⟨h,fun hi=>⟨G9 _,hi,by dsimp only;omega⟩⟩
 |f+1,l,s,h=>by
  rw[A4E];split
  ·exact⟨h,fun hi=>⟨G9 _,hi,by dsimp only;omega⟩⟩
  ·split
   ·exact⟨h,fun hi=>⟨G9 _,hi,by simp[St.bad];omega⟩⟩
   ·dsimp only
    have g1:=A1e T s;have g2:=A0C T (s.named T).2 [58];have g3:=A3l T ((s.named T).2.need T [58]).2;have a1:=g1.le;have a2:=g1.top;have a3:=g1.ds;have b1:=g2.le;have b2:=g2.top;have b3:=g2.ds;have c1:=g3.le;have c2:=g3.top;have c3:=g3.ds;split
    ·exact⟨h,fun hi=>⟨by dsimp only;omega,b2 (a2 hi),by dsimp only;omega⟩⟩
    ·split
     ·rename_i h5
      have h6:=A1H h5;have ih:=A88 T f (l++ [⟨(s.named T).1,(lab T ((s.named T).2.need T [58]).2).1,(T.tok s.i).pos⟩]) (lab T ((s.named T).2.need T [58]).2).2.next (by simp;omega);refine⟨ih.1,fun hi=>?_⟩
      have e1:(lab T ((s.named T).2.need T [58]).2).2.next.i=(lab T ((s.named T).2.need T [58]).2).2.i+1:=rfl;have e2:(lab T ((s.named T).2.need T [58]).2).2.next.ds.length=(lab T ((s.named T).2.need T [58]).2).2.ds.length:=rfl;obtain⟨i1,i2,i3⟩:=ih.2 (by omega);exact⟨by omega,i2,by omega⟩
     ·exact⟨by simp;omega,fun hi=>⟨by dsimp only;omega,c2 (b2 (a2 hi)),by dsimp only;omega⟩⟩
theorem A9h (T:Src):∀(f:Nat) (l:List Rf) (s:St),l.length<=5->(A4H T f l s).1.length<=5/\(s.i<=T.l.length->s.i<=(A4H T f l s).2.i/\(A4H T f l s).2.i<=T.l.length/\(A4H T f l s).2.ds.length<=s.ds.length+2 *((A4H T f l s).2.i-s.i)+3 *f)
 |0,l,s,h=>by rw[A4H];exact⟨h,fun hi=>⟨G9 _,hi,by dsimp only;omega⟩⟩
 |f+1,l,s,h=>by
  rw[A4H];split
  ·exact⟨h,fun hi=>⟨G9 _,hi,by simp[St.bad];omega⟩⟩
  ·dsimp only
   have g1:=A1e T s;have a1:=g1.le;have a2:=g1.top;have a3:=g1.ds;split
   ·rename_i h5
    have h6:=A1H h5;have ih:=A9h T f (l++ [⟨(s.named T).1,(T.tok s.i).pos⟩]) (s.named T).2.next (by simp;omega);refine⟨ih.1,fun hi=>?_⟩
    have e1:(s.named T).2.next.i=(s.named T).2.i+1:=rfl;have e2:(s.named T).2.next.ds.length=(s.named T).2.ds.length:=rfl;obtain⟨i1,i2,i3⟩:=ih.2 (by omega);exact⟨by omega,i2,by omega⟩
   ·exact⟨by simp;omega,fun hi=>⟨by dsimp only;omega,a2 hi,by dsimp only;omega⟩⟩
structure Itm.small (it:Itm):Prop where
 params:it.params.length<=5
 sends:it.sends.length<=5
 body:it.body.length<=40
 stms:A0i it.body
 diags:it.diags.length<=40000000
theorem B67 (T:Src) (at_:Int) (size:Nat) (s:St) (hT:T.l.length<=1048576) (hi:s.i<=T.l.length) (hd:s.ds= []):
  (A51 T at_ size s).1.params.length<=5/\(A51 T at_ size s).1.sends.length<=5/\(A51 T at_ size s).1.body.length<=40/\A0i (A51 T at_ size s).1.body/\(A51 T at_ size s).2.ds.length<=39000000:=by
 rw[A51];dsimp only
 have g1:=A1e T s;generalize s.named T=r at g1 |-;have g2:=A0C T r.2 [40];generalize r.2.need T [40]=s1 at g2 |-;have p:=A88 T 6 [] s1.2 (by simp);generalize A4E T 6 [] s1.2=r2 at p |-;have g3:=A0C T r2.2 [41];generalize r2.2.need T [41]=s3 at g3 |-;have g4:=A0C T s3.2 [58];generalize s3.2.need T [58]=s4 at g4 |-;have g5:=A3l T s4.2;generalize lab T s4.2=r5 at g5 |-;have hd0:s.ds.length=0:=by rw[hd];rfl
 have a2:=g1.top hi;have a3:=g1.ds;have a1:=g1.le;have b2:=g2.top a2;have b3:=g2.ds;have b1:=g2.le;obtain⟨p1,p2⟩:=p;obtain⟨p3,p4,p5⟩:=p2 b2;have c2:=g3.top p4;have c3:=g3.ds;have c1:=g3.le;have d2:=g4.top c2;have d3:=g4.ds;have d1:=g4.le;have e2:=g5.top d2;have e3:=g5.ds;have e1:=g5.le;have q:∀r6:List Rf×St,r6=(if T.is r5.2.i [115,101,110,100,115]=true then A4H T 6 [] r5.2.next else ([],r5.2))->r6.1.length<=5/\r6.2.i<=T.l.length/\r6.2.ds.length<=r5.2.ds.length+2 *(T.l.length)+18:=fun r6 h=>by
  by_cases hs:T.is r5.2.i [115,101,110,100,115]=true
  ·rw[if_pos hs]at h
   have hlt:=A1H hs;have q:=A9h T 6 [] r5.2.next (by simp);have f1:r5.2.next.i=r5.2.i+1:=rfl;have f2:r5.2.next.ds.length=r5.2.ds.length:=rfl;obtain⟨q3,q4,q5⟩:=q.2 (by omega);rw[h];exact⟨q.1,q4,by omega⟩
  ·rw[if_neg hs]at h
   rw[h];exact⟨by simp,e2,by dsimp only;omega⟩
 obtain⟨r6,h6⟩:∃r6,r6=(if T.is r5.2.i [115,101,110,100,115]=true then A4H T 6 [] r5.2.next else ([],r5.2)):=⟨_,rfl⟩;obtain⟨q1,q2,q3⟩:=q r6 h6;rw[<-h6];have hb:=(A9g T (A6S T)).1 0 r6.2;have gb:=(A10 T (A6S T)).1 0 r6.2;have h1:=gb.ds;have h2:=gb.top q2;exact⟨p1,q1,hb.1,hb.2,by omega⟩
theorem B7a (T:Src) (at_:Int) (size:Nat) (hT:T.l.length<=1048576):
  (A41 T at_ size).1.params.length<=5/\(A41 T at_ size).1.sends.length<=5/\(A41 T at_ size).1.body.length<=40/\A0i (A41 T at_ size).1.body/\(A41 T at_ size).2.ds.length<=39000000:=by
 rw[A41];split
 ·rename_i h
  exact B67 T at_ size ⟨1,[]⟩ hT (A1H h) rfl
 ·split
  ·rename_i h
   have hlt:=A1H h;rw[B0A];dsimp only
   have g1:=A1e T ⟨1,[]⟩;generalize (⟨1,[]⟩:St).named T=r at g1 |-;have g2:=A0C T r.2 [58];generalize r.2.need T [58]=s1 at g2 |-;have g3:=A3l T s1.2;generalize lab T s1.2=r2 at g3 |-;have g4:=A0C T r2.2 [59];generalize r2.2.need T [59]=s3 at g4 |-;have a2:=g1.top hlt;have a3:=g1.ds;have a1:=g1.le;have b2:=g2.top a2;have b3:=g2.ds;have b1:=g2.le;have c2:=g3.top b2;have c3:=g3.ds;have c1:=g3.le;have d2:=g4.top c2;have d3:=g4.ds;have d1:=g4.le;dsimp only[List.length_nil]at a1 a3;exact⟨by simp,by simp,by simp,A16,by omega⟩
  ·exact⟨by simp,by simp,by simp,A16,by simp[St.bad]⟩
theorem A4z (src:List UInt8) (at_:Int) (h:src.length<=1048576):(item src at_).small:=by
 have hl:=A7C src;rw[A7M];have hT:(Src.mk (U8 src) src.length).l.length<=1048576:=by dsimp only;omega
 generalize Src.mk (U8 src) src.length=T at hT |-;obtain⟨h1,h2,h3,h4,h5⟩:=B7a T at_ src.length hT;rw[B4B];refine⟨h1,h2,h3,h4,?_⟩
 dsimp only
 split
 ·simp[St.bad];omega
 ·omega
theorem B2t (src:List UInt8) (at_:Int):(item src at_).at_=at_:=by
 rw[A7M];show (A41 _ at_ _).1.at_=at_
 rw[A41];split
 ·rfl
 ·split<;>rfl
theorem C1f (src:List UInt8) (at_:Int):(item src at_).size=src.length:=by
 rw[A7M];show (A41 _ at_ _).1.size=src.length
 rw[A41];split
 ·rfl
 ·split<;>rfl
theorem A3X {e:Ex} (h:e.small):e.args.length<=64/\A1F e.args:=by
 cases e with
 |mk k n m a f t=>rw[Ex.small]at h;exact h
theorem A2r {e a:Ex} (h:a∈e.args):SizeOf.sizeOf a<SizeOf.sizeOf e:=by
 cases e with
 |mk k n m l f t=>
  have h':a∈l:=h;have:=List.sizeOf_lt_of_mem h';simp only[Ex.mk.sizeOf_spec];omega
theorem A1S {s:Stm} (h:s.small):s.e.small/\s.thn.length<=64/\A0i s.thn/\s.els.length<=64/\A0i s.els:=by
 cases s with
 |mk k n a l o e t x f u=>rw[Stm.small]at h;exact h
theorem A5T {s:Stm}:SizeOf.sizeOf s.thn<SizeOf.sizeOf s/\SizeOf.sizeOf s.els<SizeOf.sizeOf s:=by
 cases s with
 |mk k n a l o e t x f u=>
  simp only[Stm.mk.sizeOf_spec,Stm.thn,Stm.els];omega
theorem A3w {l:List Stm}{s:Stm} (h:s∈l):SizeOf.sizeOf s<SizeOf.sizeOf l:=List.sizeOf_lt_of_mem h
end Go.Sp
