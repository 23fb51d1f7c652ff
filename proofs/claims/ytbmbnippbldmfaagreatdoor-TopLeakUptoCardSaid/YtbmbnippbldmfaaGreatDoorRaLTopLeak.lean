/- Own work: the law TopLeak. -/
import Derived.Test.YtbmbnippbldmfaaGreatDoorRa23
import Derived.Tactics
set_option maxHeartbeats 64000000
namespace Go.Fw
open Go.Sp
open Go
section
variable {P:Program}{N:Nat}{ds:List Deferred}{Q:Exit->Act->World->Prop}{l l':Log}{w w':World}{ops:Array Oper}{os:List Oper}{o:Oper}
variable {d:Nat}{ty:TypeId}{pos:String}{af:Array Edge}{g:Option (Nat×Bool)}{t t':TypeId}{x y:Operand}
theorem C3n [TyBool P t] {a b:Bool} (k:WL P N ds ops Q os ((d,.bool (decide (a=b)))::l) w) (hw:X9 ops l ⟨some d,.binOp .eql t x y t',ty,pos,af,g⟩=some true:=by rfl) (hN:Nat.blt d N=true:=by rfl)
  (hx:ev l x=some (.bool a):=by rfl) (hy:ev l y=some (.bool b):=by rfl)  :
  WL P N ds ops Q (⟨some d,.binOp .eql t x y t',ty,pos,af,g⟩::os) l w:=
 X6 rfl hw hN (fun c hc=>by
  have h1:=run_equalIn_bool' (P:=P) w 9999 t a b (TyBool.out (P:=P) (t:=t));simp only[execOp,hc.ev hx,hc.ev hy,eqGuard,binOp,Op.equal,Op.maxDepth];simp[h1,A4F]) k
end
section
variable {P:Program}{N:Nat}{ds:List Deferred}{K:Act->Prop}{X:List Nat}{l l':Log}{w w':World}{ops:Array Oper}{os:List Oper}{o:Oper}
variable {d:Nat}{ty:TypeId}{pos:String}{af:Array Edge}{g:Option (Nat×Bool)}{t t':TypeId}{x y:Operand}{ik:IntKind}
theorem C4f [TyStr P t] {s:List UInt8}{z:Operand}{a b:Int} (k:WV P N ds ops X w K os ((d,str ((s.drop a.toNat).take (b.toNat-a.toNat)))::l)) (hw:X9 ops l ⟨some d,.slice t x (some y) (some z) none,ty,pos,af,g⟩=some true:=by rfl) (hN:Nat.blt d N=true:=by rfl)
  (hx:ev l x=some (str s):=by rfl) (hy:ev l y=some (.int .i64 a):=by rfl) (hz:ev l z=some (.int .i64 b):=by rfl) (h0:0<=a/\a<=b/\b<=s.length:=by omega)
   :
  WV P N ds ops X w K (⟨some d,.slice t x (some y) (some z) none,ty,pos,af,g⟩::os) l:=
 A2p rfl hw hN (fun w' hkq c hc=>by
  obtain⟨i,rfl⟩:=A49 h0.1;obtain⟨j,rfl⟩:=A49 (Int.le_trans h0.1 h0.2.1);have h2:=run_underlying (P:=P) (w:=w') (TyStr.out (P:=P) (t:=t));have h3:i<=j:=by omega
  have h4:j<=s.length:=by omega
  simp[execOp,Instr.sliceAt,Instr.slice,Instr.sliceBounds,Instr.sliceBound,hc.ev hx,hc.ev hy,hc.ev hz,h2,asIntOf,A4h,A9A,h3,h4]) k
theorem C9J {n:Nat}{vs:List Value}{v:Value} (k:WV P N ds ops X w K os ((d,v)::l)) (hw:X9 ops l ⟨some d,.extract x n,ty,pos,af,g⟩=some true:=by rfl) (hN:Nat.blt d N=true:=by rfl)
  (hx:ev l x=some (.tuple vs.toArray):=by rfl) (hv:vs[n]?=some v:=by rfl)  :WV P N ds ops X w K (⟨some d,.extract x n,ty,pos,af,g⟩::os) l:=
 A2p rfl hw hN (fun w' hkq c hc=>by simp[execOp,hc.ev hx,Instr.extract,hv]) k
end
end Go.Fw
namespace Go.Sp
theorem B9q (a b c:Nat):A1i c (a &&& b)=(A1i c a && A1i c b):=by
 rw[A06,Q3,A2A,A2A,A2A];constructor
 ·intro h
  constructor
  ·intro k hk h1;have:=h k hk h1;rw[A75,Q3]at this;exact this.1
  ·intro k hk h1;have:=h k hk h1;rw[A75,Q3]at this;exact this.2
 ·rintro⟨h1,h2⟩ k hk h3
  rw[A75,h1 k hk h3,h2 k hk h3];rfl
end Go.Sp
namespace Go.Fw
open Go.Sp
open Go
section
variable {P:Program}{N:Nat}{ds:List Deferred}{Q:Exit->Act->World->Prop}{l l':Log}{w w':World}{ops:Array Oper}{os:List Oper}{o:Oper}
variable {d:Nat}{ty:TypeId}{pos:String}{af:Array Edge}{g:Option (Nat×Bool)}{t t':TypeId}{x y z:Operand}
theorem C9b {kt et:TypeId} [TyMap P t kt et] [TyStr P kt] {b:Nat}{es:A8H}{s:List UInt8}{v:Value}{dst:Option Nat} (hd:dst=none:=by rfl) (hw:X9 ops l ⟨dst,.insert t x y z,ty,pos,af,g⟩=some true:=by rfl)
  (hx:ev l x=some (.map (some b)):=by rfl) (hy:ev l y=some (str s):=by rfl) (hz:ev l z=some v:=by rfl) (hm:MapAt w b es) (hs:(es.map (·.1)).contains s=false:=by rfl)
  (k:∀w',MapAt w' b (es++ [(s,v)])->Kept [b] w w'->WL P N ds ops Q os l w'):
  WL P N ds ops Q (⟨dst,.insert t x y z,ty,pos,af,g⟩::os) l w:=
 B6e hw fun a ha=>by
  have h1:=run_underlying (P:=P) (w:=w) (TyMap.out (P:=P) (t:=t));have hk:=TyStr.out (P:=P) (t:=kt);have h2:=B2g (P:=P) (w:=w) hk s es 0;have h3:=B06 (P:=P) (w:=w) hk s false;have h4:=MapKept.run_getObj_map (P:=P) hm.out;have hnone:es.findIdx? (fun p=>decide (p.1=s))=none:=by
   rw[A4m];intro p hp;have:s∉es.map (·.1):=by
    intro hc;rw[A3l.2 hc]at hs;cases hs
   simp only[decide_eq_false_iff_not];rintro rfl;exact this (A4r hp)
  subst hd;rw[hnone]at h2;have h5:=fun o'=>MapKept.run_setObj_map (P:=P) o' hm.out
  have e1:(A6B (es++ [(s,v)]) 0).toArray=(A6B es 0).toArray.push { key:=str s,val:=v,born:=es.length}:=by
   simp[A6B,List.zipIdx_append]
  have hlt:=A3n hm.out;simp only[Oper.wp,execOp,Instr.mapUpdate,ha.ev hx,ha.ev hy,ha.ev hz,Sem.run_bind,h1,Result.andThen_ok,h4,h3,h2,Option.bind_none,h5,Oper.upon_skip,Act.put,Sem.run_pure];refine(k { w with heap:=w.heap.setIfInBounds b (.map ((A6B es 0).toArray.push { key:=str s,val:=v,born:=es.length}) (es.length+1))} ⟨?_,?_⟩ ⟨rfl,rfl,rfl,by simp,fun i hi hx=>?_⟩).run _ ha
  ·rw[e1,D9]
   simp[hlt]
  ·rw[V5,A6K]
   refine⟨hm.nodup,by simp,fun a h1 b h2=>?_⟩
   simp only[U4,A5K,A0q]at h2;subst h2;rintro rfl;rw[A3l.2 h1]at hs;cases hs
  ·have:b≠i:=by rintro rfl;simp at hx
   simp[A5Z this]
end
section
variable {P:Program}{N:Nat}{ds:List Deferred}{Q:Exit->Act->World->Prop}{K:Act->World->Prop}{l l':Log}{w w':World}{ops:Array Oper}{os:List Oper}{o:Oper}
variable {d:Nat}{ty:TypeId}{pos:String}{af:Array Edge}{g:Option (Nat×Bool)}{t t':TypeId}{x y z:Operand}
variable {E:Ent}{I I':P8}{H H' R:List HItem}
theorem C3b {kt et:TypeId} [TyMap P t kt et] [TyStr P kt] {i b:Nat}{es:A8H}{s:List UInt8}{v:Value}{dst:Option Nat} (hm:Mem E I H w) (hd:dst=none:=by rfl) (hw:X9 ops l ⟨dst,.insert t x y z,ty,pos,af,g⟩=some true:=by rfl)
  (hx:ev l x=some (.map (some b)):=by rfl) (hy:ev l y=some (str s):=by rfl) (hz:ev l z=some v:=by rfl) (hi:H[i]?=some (.mp b es):=by first|exact gt0|exact gt1|exact gt2|exact gt3|exact gt4|exact gt5|exact gt6) (hn:(es.map (·.1)).Nodup) (hs:(es.map (·.1)).contains s=false:=by rfl)
  (k:∀w',Mem E I (H.set i (.mp b (es++ [(s,v)]))) w'->WL P N ds ops Q os l w'):
  WL P N ds ops Q (⟨dst,.insert t x y z,ty,pos,af,g⟩::os) l w:=
 C9b hd hw hx hy hz ⟨hm.get hi,hn⟩ hs (fun w' h1 hk=>k w' (hm.turn hi (by simpa[HItem.blk] using hk) h1.out (.inl rfl)))
end
end Go.Fw
namespace Go.Sp
def D0g (s:List UInt8) (f u:Int) (x:List UInt8):Nat:=if f<0\/u<f\/u>s.length then 3 else if x.length>4000\/(s.length:Int)-(u-f)+x.length>4000 then 4 else 0
def D8y (s:List UInt8) (f u:Int) (x:List UInt8):List UInt8:=if D0g s f u x=0 then s.take f.toNat++x++s.drop u.toNat else []
end Go.Sp
namespace Go.Fw
open Go.Sp
open Go
theorem C2p (es:A8H) (i:Nat) (s:List UInt8) (v:Value):(A6B es 0).toArray.modify i (fun e=> { e with key:=str s,val:=v})=(A6B (es.set i (s,v)) 0).toArray:=by
 apply A8U
 intro j;rw[A4o];simp only[A6B,A4n,Y6,A7E,A25];by_cases h:i=j
 ·subst h
  rw[if_pos rfl,if_pos rfl];by_cases h2:i<es.length
  ·rw[if_pos h2,F9 h2];rfl
  ·rw[if_neg h2,A1n (by omega)];rfl
 ·rw[if_neg h,if_neg h]
section
variable {P:Program}{N:Nat}{ds:List Deferred}{Q:Exit->Act->World->Prop}{l:Log}{w:World}{ops:Array Oper}{os:List Oper}
variable {d:Nat}{ty:TypeId}{pos:String}{af:Array Edge}{g:Option (Nat×Bool)}{t t':TypeId}{x y z:Operand}{E:Ent}{I:P8}{H:List HItem}
theorem D77 {kt et:TypeId} [TyMap P t kt et] [TyStr P kt] {i b:Nat}{es:A8H}{s:List UInt8}{v:Value}{dst:Option Nat} (hm:Mem E I H w) (hd:dst=none) (hw:X9 ops l ⟨dst,.insert t x y z,ty,pos,af,g⟩=some true)
  (hx:ev l x=some (.map (some b))) (hy:ev l y=some (str s)) (hz:ev l z=some v) (hi:H[i]?=some (.mp b es)) (hn:(es.map (·.1)).Nodup)
  (k:∀w',Mem E I (H.set i (.mp b (B6i es s v))) w'->WL P N ds ops Q os l w'):
  WL P N ds ops Q (⟨dst,.insert t x y z,ty,pos,af,g⟩::os) l w:=by
 cases hf:es.findIdx? (fun p=>decide (p.1=s)) with
 |none=>
  have hs:(es.map (·.1)).contains s=false:=by
   rw[<-A9s,A3l];intro h1;obtain⟨p,hp,hps⟩:=Y7.1 h1;have:=A4m.1 hf p hp;simp[hps]at this
  have e:B6i es s v=es++ [(s,v)]:=by rw[B6i,hf]
  rw[e]at k;exact C3b hm hd hw hx hy hz hi hn hs k
 |some j=>
  obtain⟨hj,hsj,_⟩:=A3k.1 hf;have hsj':es[j].1=s:=by simpa using hsj
  have e:B6i es s v=es.set j (s,v):=by rw[B6i,hf]
  rw[e]at k;have hget:=hm.get hi;subst hd;refine B6e hw fun a ha=>?_
  have h1:=run_underlying (P:=P) (w:=w) (TyMap.out (P:=P) (t:=t));have hk:=TyStr.out (P:=P) (t:=kt);have h2:=B2g (P:=P) (w:=w) hk s es 0;have h3:=B06 (P:=P) (w:=w) hk s false;have h4:=MapKept.run_getObj_map (P:=P) hget;rw[hf]at h2;have hg:es[j]?=some es[j]:=F9 hj;simp only[A2i,hg,A1g,V9]at h2;have h5:=fun o'=>MapKept.run_setObj_map (P:=P) o' hget
  have hkey:(A6B es 0).toArray[j]?=some { key:=str s,val:=es[j].2,born:=j}:=by
   simp[A6B,hg,hsj']
  have h6:(Instr.keyThatStays (str s) (str s)).run P w=.ok (str s) w:=by
   have:Instr.sameBits 10000 (str s) (str s)=true:=(MapKept.bytes_beq _ _).2 rfl;simp[Instr.keyThatStays,this]
  have hb:=A3n hget;have hkept:Kept [b] w { w with heap:=w.heap.setIfInBounds b (.map ((A6B es 0).toArray.modify j (fun e=> { e with key:=str s,val:=v})) es.length)}:=
   ⟨rfl,rfl,rfl,by simp,fun i hi hx=>by
    have:b≠i:=by rintro rfl;simp at hx
    simp[A5Z this]⟩
  have hm':=hm.turn (h':=.mp b (es.set j (s,v))) hi (by simpa[HItem.blk] using hkept) (by
   show HItem.ok _ _
   have e2:=C2p es j s v;simp only[HItem.ok, <-e2,A29];simp[hb]) (.inl rfl)
  have h7:=(k _ hm').run _ ha;simp only[Oper.wp,execOp,Instr.mapUpdate,ha.ev hx,ha.ev hy,ha.ev hz,Sem.run_bind,h1,Result.andThen_ok,h4,h3,h2,hkey,A1g,Option.getD_some,h6,h5,Oper.upon_skip,Act.put,Sem.run_pure];simpa only[List.modify_toArray] using h7
end
section
variable {P:Program}{N:Nat}{ds:List Deferred}{X:List Nat}{Q:Exit->Act->World->Prop}{l:Log}{w w' w0:World}{os tail:List Oper}{ops:Array Oper}{E:Ent}{I I0:P8}{G R H:List HItem}{o:Oper}
variable {d:Nat}{ty:TypeId}{pos:String}{af:Array Edge}{g:Option (Nat×Bool)}{t t':TypeId}{x y z:Operand}{n f:Nat}{listed:Array Bool}
theorem C8Y {i b off n' by_:Nat} [Elem P t n' by_] {c vs:List Value}{e:TypeId}{dst:Option Nat} (hm:Mem ⟨w0,X,I0⟩ I H w) (hd:dst=none) (hw:X9 ops l ⟨dst,.store t x y,ty,pos,af,g⟩=some true)
  (hx:ev l x=some (.pointer (some ⟨b,off,none⟩))) (hy:ev l y=some (.agg vs.toArray)) (hb:H[i]?=some (.obj b (.cells c.toArray e (0,0)))) (hn:vs.length=n') (ho:Nat.ble (off+n') c.length=true)
  (h1:vs.all (·.oneCell')=true)
  (k:∀w',Mem ⟨w0,X,I0⟩ I (H.set i (.obj b (.cells (c.take off++(vs++c.drop (off+n'))).toArray e (0,0)))) w'->WA P N ds ops Q X w0 n f listed tail l w'):
  WU P N ds ops Q X w0 n f listed tail ⟨dst,.store t x y,ty,pos,af,g⟩ l w:=by
 subst hd;have hget:=hm.get hb;have h2:=A8x (P:=P) (t:=t) (off:=off) (.agg vs.toArray) hget (by simpa[Value.cells] using hn) (by simpa using A4q ho) (by simpa[Value.cells] using h1);generalize hc':(c.toArray.toList.take off++(Value.agg vs.toArray).cells.toList++c.toArray.toList.drop (off+n')).toArray=c' at h2;have e0:c'=(c.take off++(vs++c.drop (off+n'))).toArray:=by
  rw[<-hc'];simp[Value.cells]
 rw[e0]at h2;have hk:Kept [b] w (w.setRow b (c.take off++(vs++c.drop (off+n'))).toArray):=Kept.setRow hget _;have hm':=hm.turn (h':=.obj b (.cells (c.take off++(vs++c.drop (off+n'))).toArray e (0,0))) hb (by simpa[HItem.blk] using hk) (by
  show (w.setRow b _).heap[b]?=_
  rw[setRow_heap w b c.toArray _ e (0,0) hget]) (.inl rfl)
 refine B6K rfl hw (fun a ha=>?_) hm'.kept (k _ hm')
 simp only[execOp,Instr.storeAt,Instr.sureAddr,ha.ev hx,ha.ev hy,Sem.run_bind,Sem.run_pure,Result.andThen,h2]
end
end Go.Fw
namespace Go.Sp
def A6q (s t:List UInt8):Nat:=if Y1 t=0 then fresh s t (A0l t).length else 0
theorem C41 (s t:List UInt8) (k:Nat):fresh s t (k+1)=fresh s t k+if D3u s t k then 1 else 0:=by
 rw[fresh,A28,List.countP_append, <-fresh,List.countP_singleton]
theorem D0U (s t:List UInt8) (k:Nat):fresh s t k<=k:=by
 have:=List.countP_le_length (p:=D3u s t) (l:=List.range k)
 rwa [List.length_range]at this
theorem D05 (T:Src) (a b:Int) (n:Nat):A6t T b n=({ (A6t T a n).1 with at_:=b},(A6t T a n).2):=by
 simp only[A6t];split
 ·rfl
 ·split<;>rfl
theorem C5a (src:List UInt8) (a b:Int):item src b= { item src a with at_:=b}:=by
 rw[A9r,A9r,D05 _ a b,B5S,B5S]
structure Srv where
 text:List UInt8
 op:Bool
def B8c:Rpl:=⟨0,0,[],0,0,[],⟨[],0,0,0⟩,0⟩
def C1f (e:Nat):Rpl:= { B8c with err:=e}
def D8P (n:Nat):Rpl:= { B8c with fresh:=n}
def C55 (s:Srv) (t:List UInt8):Srv×Rpl:=if Y1 t≠0 then (s,C1f (Y1 t)) else (⟨t,true⟩,D8P (A6q s.text t))
def D8D (its:List Itm) (at_:Int) (i:Nat):Option Nat:=if (X7 its i).at_<=at_/\at_<(X7 its i).at_+(X7 its i).size then (A2J its i (at_-(X7 its i).at_)).hv else none
def D73 (its:List Itm) (at_:Int) (k:Nat):Option Nat:=(List.range k).findSome? (D8D its at_)
def D8E (its:List Itm) (at_:Int):Rpl:=match D73 its at_ its.length with
 |some n=> { B8c with label:=n}
 |none=>C1f 6
open Classical in
noncomputable def D75 (its:List Itm):List Itm:=if h:∃r,B4S its r then Classical.choose h else []
def D58 (its:List Itm):Bool:=its.any (fun it=> !it.diags.isEmpty)
noncomputable def D8F (its:List Itm):Rpl:=if D58 its=true then C1f 13 else { B8c with text:=A0F (D75 its)}
def D8Q (its:List Itm) (nm:List UInt8) (args:List Int):Rpl:=if (B3M its nm args).err≠0 then C1f (B3M its nm args).err else { B8c with ran:=B3M its nm args}
def D6e (s:Srv) (q:Qn):Srv×Rpl:=
 if q.kind=2 then (if D0g s.text q.fr q.to q.text≠0 then (s,C1f (D0g s.text q.fr q.to q.text)) else C55 s (D8y s.text q.fr q.to q.text))
 else if (toR s.text q.fr q.text).2≠0 then (s,C1f (toR s.text q.fr q.text).2) else C55 s (toR s.text q.fr q.text).1
noncomputable def D7M (t:List UInt8) (q:Qn):Rpl:=
 if q.kind=3 then { B8c with dgs:=A3H (G8 t)}
 else if q.kind=4 then D8E (G8 t) q.fr
 else if q.kind=5 then (match B42 (G8 t) q.fr with|some a=> { B8c with fr:=a}|none=>C1f 6)
 else if q.kind=7 then D8F (G8 t)
 else if q.kind=8 then D8Q (G8 t) q.text q.args
 else { B8c with text:=t}
noncomputable def B6U (s:Srv) (q:Qn):Srv×Rpl:=
 if q.kind<1\/9<q.kind then (s,C1f 1)
 else if q.kind=1 then C55 s q.text
 else if s.op=false then (s,C1f 6)
 else if q.kind=2\/q.kind=6 then D6e s q
 else (s,D7M s.text q)
noncomputable def stQ (s:Srv) (l:List Qn):Srv:=l.foldl (fun s q=>(B6U s q).1) s
noncomputable def rpQ:Srv->List Qn->List Rpl
 |_,[]=> []
 |s,q::l=> { (B6U s q).2 with id:=q.id}::rpQ (B6U s q).1 l
def B3N:Srv:=⟨[],false⟩
structure OkQ (s:Srv):Prop where
 err:Y1 s.text=0
 shut:s.op=false->s.text= []
theorem D8b:OkQ B3N:=⟨by decide+kernel,fun _=>rfl⟩
theorem C1l {s:Srv} (h:OkQ s) (t:List UInt8):OkQ (C55 s t).1:=by
 rw[C55];split
 ·exact h
 ·rename_i h1
  exact⟨by simpa using h1,fun h2=>by cases h2⟩
theorem D3G {s:Srv} (h:OkQ s) (q:Qn):OkQ (D6e s q).1:=by
 rw[D6e];split
 ·split
  ·exact h
  ·exact C1l h _
 ·split
  ·exact h
  ·exact C1l h _
theorem D3v {s:Srv} (h:OkQ s) (q:Qn):OkQ (B6U s q).1:=by
 rw[B6U];split
 ·exact h
 ·split
  ·exact C1l h _
  ·split
   ·exact h
   ·split
    ·exact D3G h q
    ·exact h
theorem D2v:∀(l:List Qn) {s:Srv},OkQ s->OkQ (stQ s l)
 | [],_,h=>h
 |q::l,s,h=>by rw[stQ,A07];exact D2v l (D3v h q)
theorem D4X (s:Srv) (l r:List Qn):stQ s (l++r)=stQ (stQ s l) r:=by rw[stQ,A5c];rfl
theorem C7G:∀(s:Srv) (l r:List Qn),rpQ s (l++r)=rpQ s l++rpQ (stQ s l) r
 |_,[],_=>rfl
 |s,q::l,r=>by rw[Q8,rpQ,rpQ,C7G,Q8];rfl
theorem C7H:∀(s:Srv) (l:List Qn),(rpQ s l).length=l.length
 |_,[]=>rfl
 |s,q::l=>by rw[rpQ,E9,C7H,E9]
noncomputable def D6S (s:Srv) (q:Qn):Rpl:= { (B6U s q).2 with id:=q.id}
theorem D2w (s:Srv) {l:List Qn}{k:Nat}{q:Qn} (h:l[k]?=some q):stQ s (l.take (k+1))=(B6U (stQ s (l.take k)) q).1:=by
 rw[U2 h,D4X];rfl
theorem D2h (s:Srv) {l:List Qn}{k:Nat}{q:Qn} (h:l[k]?=some q):rpQ s (l.take (k+1))=rpQ s (l.take k)++ [D6S (stQ s (l.take k)) q]:=by
 rw[U2 h,C7G];rfl
def D5T:List UInt8:= [99,104,97,110,32,99,58,32,123,97,125,59,10,102,110,32,102,40,120,58,32,123,97,44,98,125,41,58,32,123,125,32,115,101,110,100,115,32,99,32,123,32,115,101,110,100,32,99,32,120,59,32,125]
def B8p:List Qn:= [⟨0,1,0,0,D5T,[]⟩,⟨0,3,0,0,[],[]⟩]
theorem C6o:(((rpQ B3N B8p).getD 1 B8c).dgs.map (·.err))= [9]:=by decide+kernel
def D2r (c:UInt8):Bool:=A7k.contains c||A0I c
theorem B8X {c:UInt8} (h:D2r c=true) (r:List UInt8):A4j (c::r):=by
 rw[D2r,A1f]at h;rcases h with h|h
 ·exact A3i (A3l.1 h) r
 ·exact A4X h r
theorem C4a {c:UInt8} (h1:A0I c=false) (h2:c.toNat≠35) (h3:A0n c=false) (h4:A0C c=false) (h5:A6h c=false) (r:List UInt8):tx (c::r)=(4,[c])::tx r:=by
 have h6:one (c::r)=(4,1):=by
  rw[one,if_neg (by rw[h1];decide),if_neg h2,if_neg (by rw[h3];decide),if_neg (by rw[h4];decide),if_neg (by rw[h5];decide)]
 rw[B4J _ (by simp),h6];simp
theorem B7B {c:UInt8} (h:A6h c=true):c∈A7k:=by
 rw[A6h,A8Y]at h;obtain⟨x,hx,he⟩:=h;rw[decide_eq_true_eq]at he;exact he ▸ hx
theorem C36 (F:UInt8->Bool) (u:List UInt8):∃w v,u=w++v/\w.all F=true/\(v= []\/F (v.getD 0 0)=false)/\v.length<=u.length:=by
 refine⟨u.takeWhile F,u.dropWhile F,(List.takeWhile_append_dropWhile).symm,List.all_takeWhile,?_,?_⟩
 ·cases h:u.dropWhile F with
  |nil=>exact .inl rfl
  |cons a v=>
   right
   have:=List.head_dropWhile_not F (l:=u) (by rw[h];simp);simp only[h,List.head_cons]at this;exact this
 ·have:=congrArg List.length (List.takeWhile_append_dropWhile (p:=F) (l:=u))
  rw[D9]at this;omega
theorem D24 {c:UInt8} (hc:D2r c=true) (r:List UInt8):∀(n:Nat) (u:List UInt8),u.length<=n->(35:UInt8)∉u->tx (u++c::r)=tx (u++ [c])++tx r:=by
 intro n;induction n with
 |zero=>
  intro u hu _;obtain rfl:=A05 (by omega:u.length=0);rw[L9,L9];rw[D2r,A1f]at hc;rcases hc with h|h
  ·rw[A19 (A3l.1 h),A19 (A3l.1 h),C1t];rfl
  ·rw[A1p h,A1p h,C1t];rfl
 |succ n ih=>
  intro u hu h35;cases u with
  |nil=>exact ih [] (H9 _) h35
  |cons a u=>
   rw[E9]at hu;have h35':(35:UInt8)∉u:=fun h=>h35 (Z4 _ h)
   have ha35:a.toNat≠35:=fun h=>h35 (by
    have:a=35:=UInt8.toNat_inj.1 h;rw[this];exact O4)
   have hi:=ih u (by omega) h35';rw[Q8,Q8];by_cases hb:A0I a=true
   ·rw[A1p hb,A1p hb];exact hi
   by_cases hs:A6h a=true
   ·rw[A19 (B7B hs),A19 (B7B hs),hi];rfl
   have hb':A0I a=false:=by simpa using hb
   have hs':A6h a=false:=by simpa using hs
   by_cases hl:A0n a=true
   ·obtain⟨w,v,rfl,hw,hv,hlen⟩:=C36 A01 u
    have hA:∀y:List UInt8,A4j (v++c::y):=fun y=>by
     cases v with
     |nil=>exact B8X hc y
     |cons x v=>exact .inr (hv.resolve_left (by simp))
    rw[J5,J5,B4K hl hw (hA r),B4K hl hw (hA [])];rw[ih v (by omega) (fun h=>h35' (A1m _ h))]
    rfl
   have hl':A0n a=false:=by simpa using hl
   by_cases hd:A0C a=true
   ·obtain⟨w,v,rfl,hw,hv,hlen⟩:=C36 A0C u
    have key:∀y:List UInt8,tx (a::(w++(v++c::y)))=(2,a::w)::tx (v++c::y):=fun y=>by
     have hz:(v++c::y).takeWhile A0C= []:=by
      cases v with
      |nil=>exact(B6X (B8X hc y)).2
      |cons x v=>
       have:A0C x=false:=hv.resolve_left (by simp);rw[Q8,A1F,this];rfl
     have h2:one (a::(w++(v++c::y)))=(2,w.length+1):=by
      rw[one,if_neg (by rw[hb'];decide),if_neg ha35,if_neg (by rw[hl'];decide),if_pos hd,run,C4t hw hz,A2T]
     rw[B4J _ (by simp),h2];simp
    rw[J5,J5,key r,key []];rw[ih v (by omega) (fun h=>h35' (A1m _ h))]
    rfl
   have hd':A0C a=false:=by simpa using hd
   rw[C4a hb' ha35 hl' hd' hs',C4a hb' ha35 hl' hd' hs',hi];rfl
theorem B8u {u:List UInt8}{K:List KT} (r:List UInt8) (h:∃v c,u=v++ [c]/\D2r c=true/\(35:UInt8)∉v) (hK:tx u=K):tx (u++r)=K++tx r:=by
 obtain⟨v,c,rfl,hc,h35⟩:=h;rw[J5,A3z,D24 hc r v.length v (H7 _) h35,hK]
def A3q:List (List UInt8)->List UInt8
 | []=> []
 | [w]=>w
 |w::v::ws=>w++10::A3q (v::ws)
def C6E (w:List UInt8):Prop:= ∃t ts,Q5 w=t::ts/\t.pos=0/\t.kind=1/\(t.text=wFn\/t.text=B6a)/\∀x∈ts,okW x.text
theorem D0Z {w:List UInt8}{it:Itm} (h:it.fitI) (hx:tx w=A7u it) (ho:(one w).1>0):C6E w:=by
 obtain⟨kw,r,h1,h2,h3,h4⟩:=B5I h;rw[h1,tx, <-B2Z]at hx;have hne:w≠ []:=by
  intro e;rw[e]at hx;cases hx
 have hst:=A58 w 0 hne;cases ht:Q5 w with
 |nil=>rw[ht]at hx;cases hx
 |cons t ts=>
  rw[ht,U4]at hx;injection hx with e1 e2
  refine⟨t,ts,ht,?_,by rw[<-h2, <-e1];rfl,by rw[<-e1]at h3;exact h3,fun x hx=>?_⟩
  ·rw[<-B2Z,ht,if_pos ho]at hst
   injection hst with e3 _
   rw[e3]
  ·have:=h4 (kt x) (by rw[<-e2];exact A4r hx)
   exact this
def A3V:Nat->List (List UInt8)->List Nat
 |_,[]=> []
 |p,w::ws=>p::A3V (p+w.length+1) ws
theorem D0m {S:List UInt8}{p:Nat}{t:Tok}{ts:List Tok} (h0:t.pos=0) (hk:t.kind=1) (hw:t.text=wFn\/t.text=B6a) (ho:∀x∈ts,okW x.text) (hp:p=0\/(S.getD (p-1) 0).toNat=10) (acc:List Nat):
  ((t::ts).map (shift p)).foldl (A1V S) acc=acc++ [p]:=by
 rw[U4,A07];have hb:A7x S (shift p t)=true:=by
  rw[A7x];simp only[shift,h0,hk,V9,decide_true,A3M,Q3,A1f,decide_eq_true_eq];exact⟨hw,hp⟩
 have h1:A1V S acc (shift p t)=acc++ [p]:=by
  rw[A1V,if_pos (.inl hb)];simp only[shift,h0,V9]
 rw[h1];have h2:∀(us:List Tok) (a:List Nat),a≠ []->(∀x∈us,okW x.text)->(us.map (shift p)).foldl (A1V S) a=a:=by
  intro us;induction us with
  |nil=>intro a _ _;rfl
  |cons u us ih=>
   intro a ha hu;obtain⟨o1,o2⟩:=hu u O4;rw[U4,A07,A1V,if_neg (by
    rintro(hb|hb)
    ·rw[A7x]at hb
     rw[show (shift p u).text=u.text from rfl,decide_eq_false o1,decide_eq_false o2,Bool.or_self,Bool.and_false,A5I]at hb;cases hb
    ·exact ha hb)]
   exact ih a ha (fun x hx=>hu x (Z4 _ hx))
 exact h2 ts _ (by simp) ho
theorem C2e:∀(ws:List (List UInt8)),(∀w∈ws,C6E w)->∀(P S:List UInt8) (acc:List Nat),S=P++A3q ws->(P= []\/∃Q,P=Q++ [10])->((Q5 (A3q ws)).map (shift P.length)).foldl (A1V S) acc=acc++A3V P.length ws
 | [],_,P,S,acc,_,_=>by rw[A3V,J4];rfl
 | [w],h,P,S,acc,hS,hP=>by
  obtain⟨t,ts,e1,e2,e3,e4,e5⟩:=h w O4;rw[A3q,e1,A3V,A3V];refine D0m e2 e3 e4 e5 ?_ acc
  rcases hP with rfl|⟨Q,rfl⟩
  ·exact .inl rfl
  ·right
   rw[hS,D9,A0X,Nat.add_sub_cancel,N9,J5,A2B (H7 _),A4d]
   rfl
 |w::v::ws,h,P,S,acc,hS,hP=>by
  obtain⟨t,ts,e1,e2,e3,e4,e5⟩:=h w O4;have hj:=A9C w (A3q (v::ws));rw[J5,A3z]at hj;rw[A3q,hj,V5,B51,A5c,e1];rw[D0m e2 e3 e4 e5 (by
   rcases hP with rfl|⟨Q,rfl⟩
   ·exact .inl rfl
   ·right
    rw[hS,D9,A0X,Nat.add_sub_cancel,N9,J5,A2B (H7 _),A4d]
    rfl) acc]
  have ih:=C2e (v::ws) (fun x hx=>h x (Z4 _ hx)) (P++(w++ [10])) S (acc++ [P.length]) (by rw[hS,A3q];simp) (.inr ⟨P++w,by simp⟩);have hl:(P++(w++ [10])).length=P.length+(w.length+1):=by simp
  rw[hl]at ih;rw[ih,J5];conv=>rhs;rw[A3V]
  rw[show P.length+w.length+1=P.length+(w.length+1) by omega]
  rfl
theorem C4I {ws:List (List UInt8)} (h:∀w∈ws,C6E w):A0l (A3q ws)=A3V 0 ws:=by
 have:=C2e ws h [] (A3q ws) [] rfl (.inl rfl);rw[L9]at this;have h0:(Q5 (A3q ws)).map (shift ([]:List UInt8).length)=Q5 (A3q ws):=by
  conv=>rhs;rw[<-List.map_id (Q5 (A3q ws))]
  exact List.map_congr_left fun t _=>rfl
 rw[h0]at this;exact this
theorem B2m:∀(ws:List (List UInt8)) (p:Nat),(A3V p ws).length=ws.length
 | [],_=>rfl
 |w::ws,p=>by rw[A3V,E9,E9,B2m ws]
theorem B72:∀(ws:List (List UInt8)) (P:List UInt8) (i:Nat) (w:List UInt8),ws[i]?=some w->∃z,(z= []\/z= [10])/\A1v (P++A3q ws) (A3V P.length ws) i=w++z
 | [],P,i,w,h=>by simp at h
 | [a],P,0,w,h=>by
  obtain rfl:a=w:=by simpa using h
  refine⟨[],.inl rfl,?_⟩
  rw[A1v,A3q,A3V,A3V];show ((P++a).drop P.length).take ((P++a).length-P.length)=_
  rw[List.drop_left,D9,Nat.add_sub_cancel_left,V7,J4]
 | [a],P,i+1,w,h=>by simp at h
 |a::b::ws,P,0,w,h=>by
  obtain rfl:a=w:=by simpa using h
  refine⟨[10],.inr rfl,?_⟩
  rw[A1v,A3q,A3V,A3V];show ((P++(a++10::A3q (b::ws))).drop P.length).take (P.length+a.length+1-P.length)=_
  rw[List.drop_left,show P.length+a.length+1-P.length=(a++ [10]).length by simp;omega,show a++10::A3q (b::ws)=(a++ [10])++A3q (b::ws) by simp,List.take_left]
 |a::b::ws,P,i+1,w,h=>by
  rw[A02]at h;obtain⟨z,hz,hp⟩:=B72 (b::ws) (P++(a++ [10])) i w h;refine⟨z,hz,?_⟩
  rw[<-hp];have hl:(P++(a++ [10])).length=P.length+a.length+1:=by simp;omega
  have hS:P++A3q (a::b::ws)=(P++(a++ [10]))++A3q (b::ws):=by rw[A3q];simp
  rw[hS,hl,A3V];generalize P.length+a.length+1=q;have hi:i<(A3V q (b::ws)).length:=by rw[B2m];exact(A0D.1 h).1
  rw[A1v,A1v,List.getD_cons_succ,List.getD_cons_succ]
theorem C5f {ws:List (List UInt8)}{l:List Itm} (hl:ws.length=l.length) (h30:l.length<=30) (h:∀(i:Nat) (w:List UInt8) (it:Itm),ws[i]?=some w->l[i]?=some it->it.fitI/\tx w=A7u it/\(one w).1>0) (hs:(A3q ws).length<=4000):
  Y1 (A3q ws)=0/\(G8 (A3q ws)).map Itm.pl=l.map Itm.pl/\∀x∈G8 (A3q ws),x.diags= []:=by
 have hH:∀w∈ws,C6E w:=fun w hw=>by
  obtain⟨i,hi⟩:=A7C.1 hw;have hi':i<l.length:=by rw[<-hl];exact(A0D.1 hi).1
  obtain⟨h1,h2,h3⟩:=h i w _ hi (F9 hi');exact D0Z h1 h2 h3
 have hc:A0l (A3q ws)=A3V 0 ws:=C4I hH;have hcl:(A0l (A3q ws)).length=l.length:=by rw[hc,B2m,hl]
 have h0:Y1 (A3q ws)=0:=by rw[Y1,if_neg (by omega),if_neg (by omega)]
 refine⟨h0,?_⟩
 rw[G8,if_pos h0];have key:∀(i:Nat) (it:Itm),l[i]?=some it->(A1d (A3q ws) (A0l (A3q ws)) i).pl=it.pl/\(A1d (A3q ws) (A0l (A3q ws)) i).diags= []:=fun i it hg=>by
  have hi':i<ws.length:=by rw[hl];exact(A0D.1 hg).1
  have hw:ws[i]?=some ws[i]:=F9 hi';obtain⟨h1,h2,_⟩:=h i _ it hw hg;obtain⟨z,hz,hp⟩:=B72 ws [] i _ hw;rw[L9,List.length_nil]at hp;rw[A1d,hc,hp];have ht:(Q5 (ws[i]++z)).map kt=A7u it:=by
   rw[<-h2];rcases hz with rfl|rfl
   ·rw[J4];rfl
   ·have:=A9C ws[i] []
    rw[J4]at this;rw[this];show ((Q5 ws[i])++ []).map kt=_
    rw[J4];rfl
  have:=B9R h1 ht (((A3V 0 ws).getD i 0:Nat):Int);exact⟨this.1,this.2.1⟩
 constructor
 ·rw[A3Z,hcl]
  apply A3B
  intro i;rw[Y6,Y6,Y6];rcases U9 i l.length with hi|hi
  ·rw[List.getElem?_range hi,F9 hi]
   simp only[A1g];rw[(key i _ (F9 hi)).1]
  ·rw[A1n (by rw[List.length_range];exact hi),A1n hi];rfl
 ·intro x hx
  rw[A3Z,hcl]at hx;obtain⟨i,hi,rfl⟩:=Y7.1 hx;exact(key i _ (F9 (A1P.1 hi))).2
def C25 (w:Int):List UInt8:=
 if w=0 then [32,32,115,101,110,100,32,99,32,120,59,10] else
 if w=1 then [32,32,108,101,116,32,121,32,61,32,120,32,42,32,50,59,10,32,32,115,101,110,100,32,99,32,121,32,45,32,49,59,10] else
 if w=2 then [32,32,105,102,32,120,32,123,32,115,101,110,100,32,99,32,49,59,32,125,10] else
 if w=3 then [32,32,119,104,105,108,101,32,120,32,60,32,51,32,123,32,115,101,110,100,32,99,32,48,59,32,120,32,61,32,120,32,43,32,49,59,32,125,10] else
 if w=4 then [32,32,103,40,120,41,59,10] else
 [32,32,105,102,32,120,32,123,32,104,40,41,59,32,125,10]
def C22 (tt:Nat):List UInt8:= [99,104,97,110,32,99,58,32]++(A2X tt++ [59])
def C23 (fr:Nat) (w:Int):List UInt8:= [102,110,32,102,40,120,58,32]++(A2X fr++([41,58,32,123,125,32,115,101,110,100,115,32,99,32,123,10]++(C25 w++ [125])))
def C24 (tt:Nat):List UInt8:= [102,110,32,103,40,121,58,32]++(A2X tt++ [41,58,32,123,125,32,115,101,110,100,115,32,99,32,123,32,115,101,110,100,32,99,32,121,59,32,125])
def C7i:List UInt8:= [102,110,32,104,40,41,58,32,123,125,32,115,101,110,100,115,32,99,32,123,32,115,101,110,100,32,99,32,53,59,32,125]
def C0P (fr tt:Nat) (w:Int):List (List UInt8):= [C22 tt,C23 fr w,C24 tt,C7i]
def A8n (fr tt:Nat) (w:Int):List UInt8:=A3q (C0P fr tt w)
def vE (c:UInt8):Ex:=.mk 2 [c] 0 [] 0 0
def nE (n:Nat):Ex:=.mk 1 [] n [] 0 0
def oE (c:UInt8) (a b:Ex):Ex:=.mk 3 [c] 0 [a,b] 0 0
def cE (c:UInt8) (l:List Ex):Ex:=.mk 4 [c] 0 l 0 0
def sS (e:Ex):Stm:=.mk 5 [99] 0 0 false e [] [] 0 0
def B5T (w:Int):List Stm:=
 if w=0 then [sS (vE 120)] else
 if w=1 then [.mk 1 [121] 0 0 true (oE 42 (vE 120) (nE 2)) [] [] 0 0,sS (oE 45 (vE 121) (nE 1))] else
 if w=2 then [.mk 3 [] 0 0 false (vE 120) [sS (nE 1)] [] 0 0] else
 if w=3 then [.mk 4 [] 0 0 false (oE 60 (vE 120) (nE 3)) [sS (nE 0),.mk 2 [120] 0 0 false (oE 43 (vE 120) (nE 1)) [] [] 0 0] [] 0 0] else
 if w=4 then [.mk 7 [] 0 0 false (cE 103 [vE 120]) [] [] 0 0] else
 [.mk 3 [] 0 0 false (vE 120) [.mk 7 [] 0 0 false (cE 104 []) [] [] 0 0] [] 0 0]
def chI (tt:Nat):Itm:=⟨1,[99],tt,[],[],[],0,0,0,[]⟩
def fnI (c:UInt8) (ps:List Par) (b:List Stm):Itm:=⟨2,[c],0,ps,[⟨[99],0⟩],b,0,0,0,[]⟩
def A30 (fr tt:Nat) (w:Int):List Itm:= [chI tt,fnI 102 [⟨[120],fr,0⟩] (B5T w),fnI 103 [⟨[121],tt,0⟩] [sS (vE 121)],fnI 104 [] [sS (nE 5)]]
theorem D2Y {tt:Nat} (h:tt<256) (_w:Int):tx (C22 tt)=A7u (chI tt):=by
 rw[C22,B8u (u:= [99,104,97,110,32,99,58,32]) (K:= [C5g,(1,[99]),sg 58]) _ ⟨[99,104,97,110,32,99,58],32,rfl,by decide,by decide⟩ (by decide+kernel),B3T h]
 rfl
theorem C2S (c:UInt8) (p:Par) (b:List Stm):A7u (fnI c [p] b)=C8M::(1,[c])::sg 40::(1,p.name)::sg 58::(A5k p.label++sg 41::sg 58::(A5k 0++(A7P::(1,[99])::B8J b))):=by
 rw[A7u,if_neg (by show ¬(2:Nat)=1;decide),if_pos (show (fnI c [p] b).kind=2 from rfl)];show C8M::(1,[c])::sg 40::(B41 (A4B [p]) 1++sg 41::sg 58::(A5k 0++(B6j [⟨[99],0⟩] 1++B8J b)))=_
 rw[A90 (A4B [p]) 1 rfl]
 rfl
theorem D20 {tt:Nat} (h:tt<256):tx (C24 tt)=A7u (fnI 103 [⟨[121],tt,0⟩] [sS (vE 121)]):=by
 rw[C24,B8u (u:= [102,110,32,103,40,121,58,32]) (K:= [C8M,(1,[103]),sg 40,(1,[121]),sg 58]) _ ⟨[102,110,32,103,40,121,58],32,rfl,by decide,by decide⟩ (by decide+kernel),B3T h,C2S];rw[show tx [41,58,32,123,125,32,115,101,110,100,115,32,99,32,123,32,115,101,110,100,32,99,32,121,59,32,125]=sg 41::sg 58::(A5k 0++(A7P::(1,[99])::B8J [sS (vE 121)])) by decide+kernel]
 rfl
theorem D21:tx C7i=A7u (fnI 104 [] [sS (nE 5)]):=by decide+kernel
theorem D2Z {fr:Nat} (h:fr<256) {w:Int} (h0:0<=w) (h5:w<=5):tx (C23 fr w)=A7u (fnI 102 [⟨[120],fr,0⟩] (B5T w)):=by
 rw[C23,B8u (u:= [102,110,32,102,40,120,58,32]) (K:= [C8M,(1,[102]),sg 40,(1,[120]),sg 58]) _ ⟨[102,110,32,102,40,120,58],32,rfl,by decide,by decide⟩ (by decide+kernel),B3T h,C2S];have e:tx ([41,58,32,123,125,32,115,101,110,100,115,32,99,32,123,10]++(C25 w++ [125]))=sg 41::sg 58::(A5k 0++(A7P::(1,[99])::B8J (B5T w))):=by
  have hw:w=0\/w=1\/w=2\/w=3\/w=4\/w=5:=by omega
  rcases hw with rfl|rfl|rfl|rfl|rfl|rfl<;>decide+kernel
 rw[e]
 rfl
theorem C3j:name [99]=true/\name [120]=true/\name [121]=true/\name [102]=true/\name [103]=true/\name [104]=true:=by decide
theorem B4d {c:UInt8} (h:name [c]=true) {d l:Nat} (hd:d<12):(vE c).fitE d l:=by
 rw[vE,Ex.fitE];exact⟨hd,.inr (.inl ⟨rfl,h,rfl,rfl⟩)⟩
theorem B7p {n:Nat} (h:n<=1000000000) {d l:Nat} (hd:d<12):(nE n).fitE d l:=by
 rw[nE,Ex.fitE];exact⟨hd,.inl ⟨rfl,rfl,h,rfl⟩⟩
theorem C66 {c:UInt8} (h:A0u [c]≠0) {a b:Ex}{d:Nat} (hd:d<12) (ha:a.fitE d (A0u [c])) (hb:b.fitE d (A0u [c]+1)):(oE c a b).fitE d 1:=by
 rw[oE,Ex.fitE];refine⟨hd,.inr (.inr (.inr ⟨rfl,h,rfl,rfl,?_⟩))⟩
 rw[if_neg (by omega),A2Q,A2Q,A2Q];exact⟨ha,hb,trivial⟩
theorem B9n {e:Ex}{d:Nat} (h:e.fitE d 1):(sS e).fitS d:=by
 rw[sS,Stm.fitS];exact⟨h,.inr (.inr (.inl ⟨rfl,C3j.1,rfl,rfl,rfl,rfl⟩))⟩
theorem A7N {x:Stm}{d:Nat} (h:x.fitS d):A0J [x] d:=by rw[A0J,A0J];exact⟨h,trivial⟩
theorem C67 {x y:Stm}{d:Nat} (h:x.fitS d) (g:y.fitS d):A0J [x,y] d:=by rw[A0J];exact⟨h,A7N g⟩
theorem D0N {w:Int} (h0:0<=w) (h5:w<=5):(B5T w).length<=40/\A0J (B5T w) 1:=by
 obtain⟨n1,n2,n3,n4,n5,n6⟩:=C3j;have hw:w=0\/w=1\/w=2\/w=3\/w=4\/w=5:=by omega
 rcases hw with rfl|rfl|rfl|rfl|rfl|rfl
 ·exact⟨by decide,A7N (B9n (B4d n2 (by decide)))⟩
 ·refine⟨by decide,C67 ?_ (B9n (C66 (by decide) (by decide) (B4d n3 (by decide)) (B7p (by decide) (by decide))))⟩
  rw[Stm.fitS];exact⟨C66 (by decide) (by decide) (B4d n2 (by decide)) (B7p (by decide) (by decide)),.inl ⟨rfl,n3,by decide,fun _=>rfl,rfl,rfl⟩⟩
 ·refine⟨by decide,A7N ?_⟩
  rw[Stm.fitS];exact⟨B4d n2 (by decide),.inr (.inr (.inr (.inr (.inr ⟨.inl rfl,rfl,rfl,rfl,by decide,by decide,by decide,A7N (B9n (B7p (by decide) (by decide))),by rw[A0J];trivial⟩))))⟩
 ·refine⟨by decide,A7N ?_⟩
  rw[Stm.fitS];refine⟨C66 (by decide) (by decide) (B4d n2 (by decide)) (B7p (by decide) (by decide)),.inr (.inr (.inr (.inr (.inr ⟨.inr ⟨rfl,rfl⟩,rfl,rfl,rfl,by decide,by decide,by decide,C67 (B9n (B7p (by decide) (by decide))) ?_,by rw[A0J];trivial⟩))))⟩;rw[Stm.fitS];exact⟨C66 (by decide) (by decide) (B4d n2 (by decide)) (B7p (by decide) (by decide)),.inr (.inl ⟨rfl,n2,rfl,rfl,rfl,rfl⟩)⟩
 ·refine⟨by decide,A7N ?_⟩
  rw[Stm.fitS];refine⟨?_,.inr (.inr (.inr (.inr (.inl ⟨rfl,rfl,rfl,rfl,rfl,rfl,?_⟩))))⟩
  ·rw[cE,Ex.fitE];exact⟨by decide,.inr (.inr (.inl ⟨rfl,n5,rfl,by decide,by rw[A2f,A2f];exact⟨B4d n2 (by decide),trivial⟩⟩))⟩
  ·rw[cE,Ex.spine];exact .inr (.inl rfl)
 ·refine⟨by decide,A7N ?_⟩
  rw[Stm.fitS];refine⟨B4d n2 (by decide),.inr (.inr (.inr (.inr (.inr ⟨.inl rfl,rfl,rfl,rfl,by decide,by decide,by decide,A7N ?_,by rw[A0J];trivial⟩))))⟩;rw[Stm.fitS];refine⟨?_,.inr (.inr (.inr (.inr (.inl ⟨rfl,rfl,rfl,rfl,rfl,rfl,?_⟩))))⟩
  ·rw[cE,Ex.fitE];exact⟨by decide,.inr (.inr (.inl ⟨rfl,n6,rfl,by decide,by rw[A2f];trivial⟩))⟩
  ·rw[cE,Ex.spine];exact .inr (.inl rfl)
theorem C4Z {c:UInt8} (hc:name [c]=true) {ps:List Par} (h5:ps.length<=5) (hp:∀p∈ps,name p.name=true/\p.label<256) {b:List Stm} (hb:b.length<=40/\A0J b 1):(fnI c ps b).fitI:=
 ⟨hc,(by show (0:Nat)<256;decide),.inl rfl,⟨h5,hp⟩,⟨(by show (1:Nat)<=5;decide),fun p hp=>by
  rw[fnI]at hp;dsimp only at hp;rw[A0q.1 hp];exact C3j.1⟩,hb,rfl⟩
theorem D6q {tt:Nat} (h:tt<256):(chI tt).fitI:=⟨C3j.1,h,.inr ⟨rfl,rfl,rfl,rfl⟩,⟨H9 _,fun p hp=>by cases hp⟩,⟨H9 _,fun p hp=>by cases hp⟩,⟨H9 _,by show A0J [] 1;rw[A0J];trivial⟩,rfl⟩
theorem B77:∀n,n<256->(A2X n).length<=17:=by decide+kernel
theorem B9A {fr tt:Nat} (hf:fr<256) (ht:tt<256) {w:Int}:(A8n fr tt w).length<=4000:=by
 have h1:=B77 fr hf;have h2:=B77 tt ht;have hb:(C25 w).length<=100:=by
  rw[C25];repeat' split
  all_goals decide
 simp only[A8n,C0P,A3q,C22,C23,C24,C7i,D9,E9,List.length_nil];omega
theorem C7t {c:UInt8}{r:List UInt8} (h:A0n c=true):(one (c::r)).1>0:=by
 have h1:A0I c=false/\c.toNat≠35:=by
  simp only[A0n,A1f,Q3,decide_eq_true_eq]at h;refine⟨?_,by omega⟩
  simp only[A0I,Bool.or_eq_false_iff,decide_eq_false_iff_not];omega
 rw[one,if_neg (by rw[h1.1];decide),if_neg h1.2,if_pos h];exact Nat.one_pos
theorem C5j {fr tt:Nat} (hf:fr<256) (ht:tt<256) {w:Int} (h0:0<=w) (h5:w<=5):
  Y1 (A8n fr tt w)=0/\(G8 (A8n fr tt w)).map Itm.pl=(A30 fr tt w).map Itm.pl/\∀x∈G8 (A8n fr tt w),x.diags= []:=by
 obtain⟨n1,n2,n3,n4,n5,n6⟩:=C3j;refine C5f (ws:=C0P fr tt w) (l:=A30 fr tt w) rfl (show (4:Nat)<=30 by decide) (fun i u it hu hi=>?_) (B9A hf ht)
 match i,hu,hi with
 |0,hu,hi=>
  obtain rfl:=Z8 hu;obtain rfl:=Z8 hi;exact⟨D6q ht,D2Y ht w,C7t (by decide)⟩
 |1,hu,hi=>
  obtain rfl:=Z8 hu;obtain rfl:=Z8 hi;exact⟨C4Z n4 (by show (1:Nat)<=5;decide) (fun p hp=>by rw[A0q.1 hp];exact⟨n2,hf⟩) (D0N h0 h5),D2Z hf h0 h5,C7t (by decide)⟩
 |2,hu,hi=>
  obtain rfl:=Z8 hu;obtain rfl:=Z8 hi;exact⟨C4Z n5 (by show (1:Nat)<=5;decide) (fun p hp=>by rw[A0q.1 hp];exact⟨n3,ht⟩) ⟨by decide,A7N (B9n (B4d n3 (by decide)))⟩,D20 ht,C7t (by decide)⟩
 |3,hu,hi=>
  obtain rfl:=Z8 hu;obtain rfl:=Z8 hi;exact⟨C4Z n6 (by show (0:Nat)<=5;decide) (fun p hp=>by cases hp) ⟨by decide,A7N (B9n (B7p (by decide) (by decide)))⟩,D21,C7t (by decide)⟩
 |i+4,hu,hi=>cases hu
def A9O (s:FW):Prop:= ∀d∈s.ds,d.err=9
theorem B81 {s:FW} (h:A9O s) (a b f t:Nat) (n:List UInt8):A9O (s.ask a b f t n):=by
 rw[FW.ask];split
 ·exact h
 ·intro d hd
  rcases Y5.1 hd with hd|hd
  ·exact h d hd
  ·rw[A0q.1 hd]
theorem C7a {s:FW} (h:A9O s) (x:Int) (f t n:Nat):A9O (s.hit x f t n):=fun d hd=>h d (by rw[A6g]at hd;exact hd)
section
variable (its:List Itm) (x:Int)
theorem D3P {s:FW} (h:A9O s) (un:Nat) (n:List UInt8) (f t:Nat):A9O (A3c its un n f t s):=by
 rw[A3c];split
 ·exact B81 h _ _ _ _ _
 ·exact h
theorem D8z {s:FW} (h:A9O s) (a:Nat) (n:List UInt8) (f t:Nat):A9O (A8I its a n f t s):=by
 rw[A8I];split
 ·exact B81 h _ _ _ _ _
 ·exact h
theorem D7K {s:FW} (h:A9O s) (n:List UInt8) (i a f t:Nat):A9O (A6f its n i a f t s):=by
 rw[A6f];split
 ·split
  ·exact B81 h _ _ _ _ _
  ·exact h
 ·exact h
mutual
theorem D0x (sc:List Lc) (un:Nat):∀(e:Ex) {s:FW},A9O s->A9O (exF its x sc un e s).2
 | .mk k nm n args f t,s,h=>by
  rw[exF];split
  ·exact C7a h _ _ _ _
  ·split
   ·exact C7a (D1O sc un args 0 h) _ _ _ _
   ·split
    ·exact C7a (D3P its (C6J sc un nm args 0 h) _ _ _ _) _ _ _ _
    ·exact C7a h _ _ _ _
theorem D1O (sc:List Lc) (un:Nat):∀(l:List Ex) (n:Nat) {s:FW},A9O s->A9O (A3J its x sc un l n s).2
 | [],n,s,h=>by rw[A3J];exact h
 |e::l,n,s,h=>by rw[A3J];exact D1O sc un l _ (D0x sc un e h)
theorem C6J (sc:List Lc) (un:Nat) (nm:List UInt8):∀(l:List Ex) (i:Nat) {s:FW},A9O s->A9O (A2Z its x sc un nm l i s)
 | [],i,s,h=>by rw[A2Z];exact h
 |e::l,i,s,h=>by rw[A2Z];exact C6J sc un nm l (i+1) (D7K its (D0x sc un e h) _ _ _ _ _)
end
mutual
theorem D61 (own:Nat):∀(y:Stm) (sc:List Lc) (un:Nat) {s:FW},A9O s->A9O (A6l its own x y sc un s).2
 | .mk k nm a lb o e thn els f t,sc,un,s,h=>by
  rw[A6l];try dsimp only
  have he:=D0x its x sc (unF its sc k un e) e h;split
  ·exact B81 he _ _ _ _ _
  ·split
   ·exact B81 he _ _ _ _ _
   ·split
    ·exact D8z its he _ _ _ _
    ·split
     ·exact B81 he _ _ _ _ _
     ·split
      ·exact B6F own els sc _ (B6F own thn sc _ he)
      ·exact he
theorem B6F (own:Nat):∀(l:List Stm) (sc:List Lc) (un:Nat) {s:FW},A9O s->A9O (A1C its own x l sc un s).2
 | [],sc,un,s,h=>by rw[A1C];exact h
 |y::l,sc,un,s,h=>by rw[A1C];exact B6F own l _ un (D61 own y sc un h)
end
end
theorem D3F (its:List Itm) (i:Nat) (x:Int):A9O (A2J its i x):=by
 rw[A2J];split
 ·exact B6F its x _ _ _ _ (fun d hd=>by cases hd)
 ·intro d hd;cases hd
theorem C5i (fr tt:Nat) {w:Int} (h0:0<=w) (h5:w<=5):∀i,i<4->(A3x (A30 fr tt w) i).ds= []/\A91 (A30 fr tt w) i= []:=by
 have hw:w=0\/w=1\/w=2\/w=3\/w=4\/w=5:=by omega
 intro i hi;have hi':i=0\/i=1\/i=2\/i=3:=by omega
 rcases hw with rfl|rfl|rfl|rfl|rfl|rfl<;>rcases hi' with rfl|rfl|rfl|rfl<;>exact⟨by kernel_rfl,by kernel_rfl⟩
theorem C0Q (fr tt:Nat) (w:Int):A0M (A30 fr tt w) 2 [103]=some 2/\A0M (A30 fr tt w) 2 [104]=some 3/\A0M (A30 fr tt w) 1 [99]=some 0:=⟨rfl,rfl,rfl⟩
theorem D1h (fr tt:Nat) {w:Int} (h0:0<=w) (h5:w<=5):(A30 fr tt w).map Itm.pl=A30 fr tt w:=by
 have hw:w=0\/w=1\/w=2\/w=3\/w=4\/w=5:=by omega
 rcases hw with rfl|rfl|rfl|rfl|rfl|rfl<;>rfl
section
variable {its:List Itm}{sc:List Lc}
theorem C2Z (c:UInt8) (k un:Nat):A72 its sc k un (vE c)=A65 sc [c]|||un:=by
 rw[A7Q,vE,A1e,if_pos rfl]
theorem D1c (n k un:Nat):A72 its sc k un (nE n)=un:=by
 rw[A7Q,nE,A1e,if_neg (by decide),if_neg (by decide),if_neg (by decide),Nat.zero_or]
theorem C7h (o c:UInt8) (n k un:Nat):A72 its sc k un (oE o (vE c) (nE n))=A65 sc [c]|||un:=by
 rw[A7Q,oE,A1e,if_neg (by decide),if_pos rfl,A0Y,A0Y,A0Y,vE,A1e,if_pos rfl,nE,A1e,if_neg (by decide),if_neg (by decide),if_neg (by decide),Nat.zero_or,Nat.or_zero]
theorem C84 (c:UInt8) (un:Nat):A8K its sc un (vE c):=by
 rw[vE,A8K];exact⟨fun h=>(by cases h),fun h=>absurd rfl h⟩
theorem D4k (n un:Nat):A8K its sc un (nE n):=by
 rw[nE,A8K];exact⟨fun h=>(by cases h),fun _ _ h=>(by cases h)⟩
theorem D4l (o c:UInt8) (n un:Nat):A8K its sc un (oE o (vE c) (nE n)):=by
 rw[oE,A8K];exact⟨fun _=>by rw[A37,A37,A37];exact⟨C84 c un,D4k n un,trivial⟩,fun _ h=>absurd rfl h⟩
theorem D8J {own:Nat}{e:Ex}{un l:Nat} (he:A8K its sc un e) (hl:A72 its sc 5 un e=l):A45 its own (sS e) sc un↔ ∀j,A0M its 1 [99]=some j->A1i l (X7 its j).label=true:=by
 rw[sS,A45];have hu:unF its sc 5 un e=un:=by rw[unF,if_neg (by decide)]
 rw[hu,hl];exact⟨fun h=>h.2.2.2.1 rfl,fun h=>⟨he,fun h=>(by cases h),fun h=>(by cases h),fun _=>h,fun h=>(by cases h),fun h=>by omega⟩⟩
theorem A7h {own:Nat}{x:Stm}{un:Nat}:A1M its own [x] sc un↔A45 its own x sc un:=by
 rw[A1M,A1M];exact⟨fun h=>h.1,fun h=>⟨h,trivial⟩⟩
end
theorem B5R (c:UInt8) (n:Nat):A65 [⟨[c],n⟩] [c]=n:=by simp[A65,A1u]
theorem B2G {fr tt:Nat}{w:Int}{sc:List Lc}{own un l:Nat}{e:Ex} (he:A8K (A30 fr tt w) sc un e) (hl:A72 (A30 fr tt w) sc 5 un e=l):A45 (A30 fr tt w) own (sS e) sc un↔A1i l tt=true:=by
 rw[D8J he hl,(C0Q fr tt w).2.2];exact⟨fun h=>h 0 rfl,fun h j hj=>by obtain rfl:=Z8 hj;exact h⟩
theorem D37 (fr tt:Nat) {w:Int} (h0:0<=w) (h5:w<=5):A1M (A30 fr tt w) 0 (B5T w) [⟨[120],fr⟩] 0↔A1i fr tt=true:=by
 have hw:w=0\/w=1\/w=2\/w=3\/w=4\/w=5:=by omega
 rcases hw with rfl|rfl|rfl|rfl|rfl|rfl
 ·show A1M _ 0 [sS (vE 120)] _ 0↔_
  rw[A7h,B2G (C84 120 0) (C2Z 120 5 0),B5R,Nat.or_zero]
 ·show A1M _ 0 [.mk 1 [121] 0 0 true (oE 42 (vE 120) (nE 2)) [] [] 0 0,sS (oE 45 (vE 121) (nE 1))] _ 0↔_
  rw[A1M,A7h];have hs:scF (A30 fr tt 1) (.mk 1 [121] 0 0 true (oE 42 (vE 120) (nE 2)) [] [] 0 0) [⟨[120],fr⟩] 0= [⟨[120],fr⟩,⟨[121],fr⟩]:=by
   show (if (1:Nat)=1 then ([⟨[120],fr⟩]:List Lc)++ [⟨[121],if true=true then A72 (A30 fr tt 1) [⟨[120],fr⟩] 1 0 (oE 42 (vE 120) (nE 2)) else 0⟩] else _)=_
   rw[if_pos rfl,if_pos rfl,C7h,B5R,Nat.or_zero];rfl
  have hg:A65 [⟨[120],fr⟩,⟨[121],fr⟩] [121]=fr:=by simp[A65,A1u]
  rw[hs,B2G (D4l 45 121 1 0) (C7h 45 121 1 5 0),hg,Nat.or_zero];refine⟨fun h=>h.2,fun h=>⟨?_,h⟩⟩
  rw[A45];exact⟨by rw[unF,if_neg (by decide)];exact D4l 42 120 2 0,fun _=>by rw[if_pos rfl];exact A4l _,fun h=>(by cases h),fun h=>(by cases h),fun h=>(by cases h),fun h=>by omega⟩
 ·show A1M _ 0 [.mk 3 [] 0 0 false (vE 120) [sS (nE 1)] [] 0 0] _ 0↔_
  rw[A7h,A45,C2Z,B5R,Nat.or_zero];have hu:unF (A30 fr tt 2) [⟨[120],fr⟩] 3 0 (vE 120)=0:=by rw[unF,if_neg (by decide)]
  rw[hu];have h3:A1M (A30 fr tt 2) 0 [sS (nE 1)] [⟨[120],fr⟩] fr↔A1i fr tt=true:=by rw[A7h,B2G (D4k 1 fr) (D1c 1 5 fr)]
  exact⟨fun h=>h3.1 (h.2.2.2.2.2 (.inl rfl)).1,fun h=>⟨C84 120 0,fun h=>(by cases h),fun h=>(by cases h),fun h=>(by cases h),fun h=>(by cases h),fun _=>⟨h3.2 h,by rw[A1M];trivial⟩⟩⟩
 ·show A1M _ 0 [.mk 4 [] 0 0 false (oE 60 (vE 120) (nE 3)) [sS (nE 0),.mk 2 [120] 0 0 false (oE 43 (vE 120) (nE 1)) [] [] 0 0] [] 0 0] _ 0↔_
  rw[A7h,A45,C7h,B5R,Nat.or_zero];have h3:A1M (A30 fr tt 3) 0 [sS (nE 0),.mk 2 [120] 0 0 false (oE 43 (vE 120) (nE 1)) [] [] 0 0] [⟨[120],fr⟩] fr↔A1i fr tt=true:=by
   rw[A1M,A7h,B2G (D4k 0 fr) (D1c 0 5 fr)];have hs:scF (A30 fr tt 3) (sS (nE 0)) [⟨[120],fr⟩] fr= [⟨[120],fr⟩]:=rfl;rw[hs];refine⟨fun h=>h.1,fun h=>⟨h,?_⟩⟩
   rw[A45,C7h,B5R,Nat.or_self];exact⟨by rw[unF,if_neg (by decide)];exact D4l 43 120 1 fr,fun h=>(by cases h),fun _=>A4l _,fun h=>(by cases h),fun h=>(by cases h),fun h=>by omega⟩
  exact⟨fun h=>h3.1 (h.2.2.2.2.2 (.inr rfl)).1,fun h=>⟨D4l 60 120 3 _,fun h=>(by cases h),fun h=>(by cases h),fun h=>(by cases h),fun h=>(by cases h),fun _=>⟨h3.2 h,by rw[A1M];trivial⟩⟩⟩
 ·show A1M _ 0 [.mk 7 [] 0 0 false (cE 103 [vE 120]) [] [] 0 0] _ 0↔_
  rw[A7h,A45,cE,A8K,A4I,A4I];have hu:unF (A30 fr tt 4) [⟨[120],fr⟩] 7 0 (.mk 4 [103] 0 [vE 120] 0 0)=0:=by rw[unF,if_neg (by decide)]
  have hp:A1e (A30 fr tt 4) [⟨[120],fr⟩] (vE 120)|||0=fr:=by
   have:=C2Z (its:=A30 fr tt 4) (sc:= [⟨[120],fr⟩]) 120 5 0;rw[A7Q,B5R]at this;rw[this,Nat.or_zero]
  rw[hu,hp,(C0Q fr tt 4).1];refine⟨fun h=>(h.1.2 (by decide) (by decide) rfl).2.1.1 2 ⟨[121],tt,0⟩ rfl rfl,fun h=>⟨⟨fun h=>(by cases h),fun _ _ _=>⟨?_,⟨fun j p hj hq=>?_,trivial⟩,fun j hj=>B3z _⟩⟩,fun h=>(by cases h),fun h=>(by cases h),fun h=>(by cases h),fun h=>(by cases h),fun h=>by omega⟩⟩
  ·rw[A37,A37];exact⟨C84 120 0,trivial⟩
  ·obtain rfl:=Z8 hj
   have hq':some (⟨[121],tt,0⟩:Par)=some p:=hq;obtain rfl:=Z8 hq';exact h
 ·show A1M _ 0 [.mk 3 [] 0 0 false (vE 120) [.mk 7 [] 0 0 false (cE 104 []) [] [] 0 0] [] 0 0] _ 0↔_
  rw[A7h,A45,C2Z,B5R,Nat.or_zero];have hu:unF (A30 fr tt 5) [⟨[120],fr⟩] 3 0 (vE 120)=0:=by rw[unF,if_neg (by decide)]
  rw[hu];have hm:A43 (A30 fr tt 5) (X7 (A30 fr tt 5) 3).sends=255 &&& tt:=rfl;have h3:A1M (A30 fr tt 5) 0 [.mk 7 [] 0 0 false (cE 104 []) [] [] 0 0] [⟨[120],fr⟩] fr↔A1i fr tt=true:=by
   rw[A7h,A45,cE,A8K,(C0Q fr tt 5).2.1];have hu:unF (A30 fr tt 5) [⟨[120],fr⟩] 7 fr (.mk 4 [104] 0 [] 0 0)=fr:=by rw[unF,if_neg (by decide)]
   rw[hu];refine⟨fun h=>?_,fun h=>⟨⟨fun h=>(by cases h),fun _ _ _=>⟨by rw[A37];trivial,by rw[A4I];trivial,fun j hj=>?_⟩⟩,fun h=>(by cases h),fun h=>(by cases h),fun h=>(by cases h),fun h=>(by cases h),fun h=>by omega⟩⟩
   ·have:=(h.1.2 (by decide) (by decide) rfl).2.2 3 rfl
    rw[hm,B9q,Q3]at this;exact this.2
   ·obtain rfl:=Z8 hj
    rw[hm,B9q,Q3];exact⟨(A2A _ _).2 (fun k hk _=>by
     have:∀k,k<8->(255:Nat).testBit k=true:=by decide
     exact this k hk),h⟩
  exact⟨fun h=>h3.1 (h.2.2.2.2.2 (.inl rfl)).1,fun h=>⟨C84 120 0,fun h=>(by cases h),fun h=>(by cases h),fun h=>(by cases h),fun h=>(by cases h),fun _=>⟨h3.2 h,by rw[A1M];trivial⟩⟩⟩
theorem C5k (fr tt:Nat) {w:Int} (h0:0<=w) (h5:w<=5):A8k (A30 fr tt w)↔A1i fr tt=true:=by
 rw[<-D37 fr tt h0 h5];constructor
 ·intro h
  exact(A8e (at_:= -1) (B5T w) (s:=FW0) (h 1 (by show (1:Nat)<4;decide))).2
 ·intro h i hi
  have hi':i=0\/i=1\/i=2\/i=3:=by
   have:i<4:=hi;omega
  rcases hi' with rfl|rfl|rfl|rfl
  ·rfl
  ·exact A9b (at_:= -1) (B5T w) (s:=FW0) h
  ·refine A9b (its:=A30 fr tt w) (at_:= -1) (own:=0) [sS (vE 121)] (sc:= [⟨[121],tt⟩]) (un:=0) (s:=FW0) ?_
   rw[A7h,B2G (C84 121 0) (C2Z 121 5 0),B5R,Nat.or_zero];exact A4l _
  ·refine A9b (its:=A30 fr tt w) (at_:= -1) (own:=0) [sS (nE 5)] (sc:= []) (un:=0) (s:=FW0) ?_
   rw[A7h,B2G (D4k 5 0) (D1c 5 5 0)];exact B3z _
theorem D1i {fr tt:Nat} (hf:fr<256) (ht:tt<256) {w:Int} (h0:0<=w) (h5:w<=5):
  Y1 (A8n fr tt w)=0/\(∀d∈A3H (G8 (A8n fr tt w)),d.err=9)/\((A3H (G8 (A8n fr tt w))).length=0↔A1i fr tt=true):=by
 obtain⟨r1,r2,r3⟩:=C5j hf ht h0 h5;rw[D1h fr tt h0 h5]at r2;refine⟨r1,?_⟩
 generalize G8 (A8n fr tt w)=f at r2 r3;have hlen:f.length=4:=by
  have:=congrArg List.length r2;rw[P7]at this;rw[this];rfl
 have hN:∀i,i<4->(A3x f i).ds= []/\A91 f i= []:=fun i hi=>by
  obtain⟨q1,q2⟩:=C5i fr tt h0 h5 i hi;have h1:=C0d f i;rw[A7q,plI,r2,q1]at h1;refine⟨A05 h1.symm,?_⟩
  rw[<-C6U,plI,r2];exact q2
 have hD:∀i,i<4->(X7 f i).diags= []:=fun i hi=>by
  refine r3 _ ?_
  rw[X7,N9,F9 (by omega)];exact O1 _
 have hraw:∀i,i<4->B8M f i=(A2J f i (-1)).ds:=fun i hi=>by
  rw[B8M,hD i hi,(hN i hi).1,(hN i hi).2];rfl
 constructor
 ·intro d hd
  rw[A3H,A7s,A3S]at hd;obtain⟨i,hi,hd⟩:=hd;have hi:=A1P.1 hi;rw[B38,hraw i (by omega),Y7]at hd;obtain⟨x,hx,rfl⟩:=hd;exact D3F f i (-1) x hx
 ·rw[<-C5k fr tt h0 h5, <-r2, <-plI,B5y,List.length_eq_zero_iff]
  constructor
  ·intro h i hi
   exact(B30 h hi).2.2.2
  ·intro h
   rw[A3H,A7s,List.flatMap_eq_nil_iff];intro i hi;have hi:=A1P.1 hi;rw[B38,hraw i (by omega),h i hi];rfl
def D6W (fr tt:Nat):List UInt8:= [99,104,97,110,32,99,58,32]++A2X tt++ [59,10,102,110,32,102,40,120,58,32]++A2X fr++ [41,58,32,123,125,32,115,101,110,100,115,32,99,32,123,10]
def D6X (s:List UInt8) (tt:Nat):List UInt8:=s++ [125,10,102,110,32,103,40,121,58,32]++A2X tt++ [41,58,32,123,125,32,115,101,110,100,115,32,99,32,123,32,115,101,110,100,32,99,32,121,59,32,125,10,102,110,32,104,40,41,58,32,123,125,32,115,101,110,100,115,32,99,32,123,32,115,101,110,100,32,99,32,53,59,32,125]
theorem D2q (fr tt:Nat) (w:Int):D6X (D6W fr tt++C25 w) tt=A8n fr tt w:=by
 rw[D6X,D6W,A8n,C0P];simp only[A3q,C22,C23,C24,C7i,J5,Q8,L9]
section
variable (its:List Itm) (x:Int)
end
section
variable {its:List Itm}{sc:List Lc}
end
end Go.Sp
namespace Go.Proofs
open Go.Proofs.Tryz
open Go.Sp
open Go.Fw
theorem Had.look {I:P8}{s:List UInt8}{es:A8H} (h:Had I s (A0l s).length es) (x:List UInt8) (z:Value):
  (C5s es x=true/\(B73 s).contains x=true/\∃j cs,x=A1v s (A0l s) j/\B9F es x z=.agg cs.toArray/\A67 I (A1d s (A0l s) j) cs)\/
  (C5s es x=false/\(B73 s).contains x=false/\B9F es x z=z):=by
 cases hf:es.find? (fun p=>decide (p.1=x)) with
 |some p=>
  left
  have h1:=A7A hf;have h2:p.1=x:=by simpa using List.find?_some hf
  obtain⟨j,cs,hj,hp,hv,hi⟩:=h.mem p h1;refine⟨by rw[C5s,hf];rfl,?_,j,cs,by rw[<-h2,hp],by rw[B9F,hf];exact hv,hi⟩
  rw[A3l, <-h2,hp];exact A4r (A1P.2 hj)
 |none=>
  right
  refine⟨by rw[C5s,hf];rfl,?_,by rw[B9F,hf];rfl⟩
  rw[<-A9s,A3l];intro hx;obtain⟨j,hj,rfl⟩:=Y7.1 hx;obtain⟨p,hp,hpe⟩:=Y7.1 (h.all j (A1P.1 hj));have:=List.find?_eq_none.1 hf p hp;simp[hpe]at this
theorem D1u {I:P8}{it:Sp.Itm}{a0:Int}{cs:List Value} (h:A67 I { it with at_:=a0} cs):∃ap cp as_ cs' ab cb ad cd xb,cs=A1J it.kind it.name it.label (.slice ap it.params.length cp) (.slice as_ it.sends.length cs') (.slice ab it.body.length cb) a0 it.size it.mark (.slice ad it.diags.length cd)/\
 RowI I 103 3 (.slice ap it.params.length cp) it.params.length (it.params.flatMap A2L)/\RowI I 106 2 (.slice as_ it.sends.length cs') it.sends.length (it.sends.flatMap A27)/\
 RowI I 111 15 (.slice ab it.body.length cb) it.body.length xb/\V4 I it.body xb/\RowI I 85 4 (.slice ad it.diags.length cd) it.diags.length (it.diags.flatMap A5F):=h
structure AgM where
 k:Nat
 es:A8H
structure AgY where
 k:Nat
 n:Nat
 I:P8
 a:Option Addr
 cp:Nat
 xs:List Value
theorem D4s (s t:List UInt8) (h0:Y1 s=0) (I:P8) (hC:Conv I) (ht:t.length<=9223372036854775807) (a0:Option Addr) (c0:Nat) (xs0:List Value)
  (hr0:RowI I 43 10 (.slice a0 (G8 s).length c0) (G8 s).length xs0) (hi0:A4W I (G8 s) xs0):
  CalM prog 40 #[.agg [.slice a0 (G8 s).length c0].toArray,str s,str t] I [] (C6F (A6q s t) (Y1 t) (G8 t)):=by
 refine CalM.of fun w E hm=>enter (N:=127) func40 rfl [(0,.agg [.slice a0 (G8 s).length c0].toArray),(1,str s),(2,str t)] A4x rfl ?_
 by_cases hl:t.length>4000
 ·have he:Y1 t=4:=by rw[Y1,if_pos hl]
  have hi:G8 t= []:=by rw[G8,he];rfl
  have hf:A6q s t=0:=by rw[A6q,he];rfl
  rw[he,hi,hf];repeat' (first|refine A7G hm (by rfl) (by rfl) (by rfl) (by rfl) (by first|exact gt0|exact gt1|exact gt2|exact gt3|exact gt4|exact gt5|exact gt6) (by rfl) ?_|refine A0T (d:=3) ?_ hm;clear hm;intro b3 _ hm|refine X8 (d:=6) ?_ hm;clear hm;intro b6 _ hm|refine P6 ?_ hm;clear hm;intro _ hm;try simp only[G5]at hm|refine D8 ?_|refine D6 ?_|refine A1H ?_|refine A0m ?_|refine Y0 ?_|refine E5 ?_|refine A7 ?_|refine H8 ?_|refine E8 ?_|refine A8 ?_|refine J3 ?_|(refine C9 (ht:=fun _=>?_) (hf:=fun _=>?_)<;>try first|contradiction|omega))
  exact⟨_,_,⟨none,0,[],rfl,A1L _ _ _ _ _,rfl,rfl⟩,hm.left (H:= [])⟩
 have es0:G8 s=A3Z s (A0l s):=by rw[G8,if_pos h0]
 have hn0:(G8 s).length=(A0l s).length:=by rw[es0,B2B]
 have hfew:=A7a s;have hin:=fun k it h=>C65 s h0 (k:=k) (it:=it) h
 have hgk:∀k,k<(A0l s).length->(G8 s)[k]?=some (A1d s (A0l s) k):=fun k hk=>by rw[es0,B5b s _ hk]
 have hpk:∀k,k<(A0l s).length->∃e1 e2:Nat,(A1d s (A0l s) k).at_=e1/\e1+(A1d s (A0l s) k).size=e2/\A1v s (A0l s) k=(s.drop e1).take (e2-e1):=fun k hk=>by
  have h1:=B0x s hk;refine⟨(A0l s).getD k 0,(A0l s).getD (k+1) s.length,by rw[A1d,(A8B _ _).2],?_,rfl⟩
  rw[A1d,(A8B _ _).1,A1v,P9,A0v];omega
 have hcl:=C2f t;obtain⟨n0,hnn⟩:∃n0,n0=(G8 s).length:=⟨_,rfl⟩;rw[<-hnn]at hr0 hn0 hfew |-;repeat' (first|refine B2D ?_ hm;clear hm;intro bm _ hm|refine A0T (d:=3) ?_ hm;clear hm;intro b3 _ hm|refine X8 (d:=6) ?_ hm;clear hm;intro b6 _ hm|refine J6 ?_ hm|refine D8 ?_|refine D6 ?_|refine A1H ?_|refine A0m ?_|refine G6 ?_|refine D5 ?_|refine E5 ?_|refine A7 ?_|refine E8 ?_|refine A8 ?_|refine F6 ?_|refine G7 ?_|(refine C9 (ht:=fun _=>?_) (hf:=fun _=>?_)<;>try first|contradiction|omega))
 refine U3 (fun x:AgM=> [(1,str s),(2,str t),(3,ptr b3),(6,ptr b6),(9,.map (some bm)),(25,.slice a0 n0 c0),(26,nt n0),(27,nt x.k)]) (fun x w'=>Mem E I [.mp bm x.es,.cell b6 [.slice none 0 0] 25,.cell b3 [.slice a0 n0 c0] 25] w'/\x.k<=n0/\Had I s x.k x.es) (fun x=>n0-x.k) ⟨0,[]⟩ (by exact⟨rfl,rfl,rfl,rfl,rfl,rfl,rfl,rfl,trivial⟩) ⟨hm,H9 _,Had.nil _ _⟩ ?_
 clear hm;rintro⟨k,es⟩ w1 ⟨hm,hk,hhad⟩;dsimp only at hm hk hhad |-;by_cases hlt:k<n0
 ·have hg:=hgk k (by omega)
  have hI:=hin k _ hg;obtain⟨e1,e2,he1,he2,hpc⟩:=hpk k (by omega);obtain⟨cs,hcs⟩:∃cs,cs=(xs0.drop (k *10)).take 10:=⟨_,rfl⟩;have hat:=hi0.get hg;rw[<-hcs]at hat
  have hput:=hhad.put (by omega) hat
  rw[hpc]at hput;obtain⟨pa,pc,sa,sc,ba,bc,da,dc,xb,he,_,_,_,_,hdg⟩:=hat
  obtain⟨q1,q2,q3,q4,q5,q6,q7⟩:=hI;clear q4 q5;generalize A1d s (A0l s) k=it at he1 he2 he q1 q2 q3 q6 hg;subst he;subst he2;rw[he1]at q1 q3 hcs hput;repeat' (first|refine A0R (id:=8) (hm.perm pm0) 11 11 (h:=?_);clear hm;intro wd hR hm|refine O7 (d:=29) ?_ (hr:=hr0);intro bt ot hpt;rw[show ((k:Int).toNat *10)=k *10 from rfl, <-hcs]at hpt|refine B4P ?_;refine D77 (s:=(s.drop e1).take (e1+it.size-e1)) hm (by rfl) (by rfl) (by rfl) (by rfl) (by rfl) (by first|exact gt0|exact gt1|exact gt2|exact gt3|exact gt4|exact gt5|exact gt6) hhad.nodup ?_;clear hm;intro _ hm;try simp only[G5]at hm|refine A3C ?_ hR|refine A0k ?_ hR|refine A0K ?_;replace hm:=hR.back hm;clear hR;try simp only[G5]at hm|refine Y2 (d:=11) ?_ hm;clear hm;intro b11 _ hm|refine J6 ?_ hm|refine U0 ?_ hm|refine D8 ?_|refine O0 ?_|refine J8 ?_|refine A82 ?_|refine A11 ?_|refine A0m ?_|refine O9 ?_|refine A5e ?_|refine D5 ?_|(refine O3 (h1:=fun _=>?_) (h0:=fun _=>?_)<;>try first|contradiction|omega)|refine E5 ?_|refine A7 ?_|refine D7 ?_|refine E8 ?_|refine A8 ?_|refine F6 ?_|refine G7 ?_|(refine C9 (ht:=fun _=>?_) (hf:=fun _=>?_)<;>try first|contradiction|omega)|refine A0x ?_|refine B59 ?_|refine C4f ?_|refine N8 ?_|refine A0y ?_)
  exact L6 (⟨k+1,_⟩:AgM) (by exact⟨rfl,rfl,rfl,rfl,rfl,rfl,rfl,rfl,trivial⟩) ⟨hm.tl,by dsimp only;omega,hput⟩ (by dsimp only;omega)
 obtain rfl:k=n0:=by omega
 rw[hn0]at hhad;repeat' (first|refine A0r (hc:=by exact C98 t (by omega) _) (k:=?_);rintro tv wt ⟨hto,hkt⟩;obtain⟨ta,tc,rfl⟩:=A5f hto;replace hm:=hm.add (x:=.row (.slice ta (A0l t).length tc) 3 1 (A0l t).length ((A0l t).flatMap A2K)) hkt (A51 hto (H9 _)) (fun b hb=>(hto.lt b hb).1)|refine X8 (d:=12) ?_ hm;clear hm;intro b12 _ hm|refine A2P (d:=73) ?_ hm;clear hm;intro a73 cp73 _ _ hm;try simp only[G5]at hm|refine D8 ?_|refine D6 ?_|refine J8 ?_|refine A0m ?_|refine G6 ?_|refine A5e ?_|refine E5 ?_|refine A7 ?_|refine H6 ?_|refine G9 ?_|refine E8 ?_|refine A8 ?_|refine F6 ?_|refine O8 ?_|(refine C9 (ht:=fun _=>?_) (hf:=fun _=>?_)<;>try first|contradiction|omega))
 obtain⟨I2,hle2,hm2,hrow⟩:=hm.freeze;clear hm hto hkt;have hm:=hm2.nil 43 10;clear hm2;obtain⟨n,hn⟩:∃n,n=(A0l t).length:=⟨_,rfl⟩;have hcat:∀k,k<n->(A0l t).getD k 0<(A0l t).getD (k+1) t.length/\(A0l t).getD (k+1) t.length<=t.length:=fun k hk=>B0x t (by omega)
 have hfl:(A0l t).flatMap A2K++ [nt t.length]=(A0l t++ [t.length]).flatMap A2K:=by rw[X0];rfl
 have hz1:∀k,k<n->(A0l t++ [t.length])[k]?=some ((A0l t).getD k 0):=fun k hk=>by
  rw[A4P (by omega),N9,F9 (by omega)];rfl
 have hz2:∀k,k<n->(A0l t++ [t.length])[k+1]?=some ((A0l t).getD (k+1) t.length):=fun k hk=>by
  rcases U9 (k+1) (A0l t).length with h|h
  ·rw[A4P h,N9,F9 h];rfl
  ·rw[A2B h,show k+1-(A0l t).length=0 by omega,N9,A1n h];rfl
 have hsm:∀k,(A1v t (A0l t) k).length<=1048576:=fun k=>by rw[A1v,P9,A0v];omega
 have hits0:A3Z t (A0l t)=(List.range n).map (A1d t (A0l t)):=by rw[A3Z,hn]
 have hfr:∀k,Sp.fresh s t (k+1)=Sp.fresh s t k+if (B73 s).contains (A1v t (A0l t) k)=true then 0 else 1:=fun k=>by
  rw[C41,D3u];cases (B73 s).contains (A1v t (A0l t) k)<;>rfl
 have hfr0:Sp.fresh s t 0=0:=rfl;have hfrl:∀k,Sp.fresh s t k<=k:=D0U s t;have herr:30<n->Y1 t=5/\G8 t= []/\A6q s t=0:=fun h=>by
  have:Y1 t=5:=by rw[Y1,if_neg hl,if_pos (by omega)]
  exact⟨this,by rw[G8,this];rfl,by rw[A6q,this];rfl⟩
 have hok:n<=30->Y1 t=0/\G8 t=A3Z t (A0l t)/\A6q s t=Sp.fresh s t n:=fun h=>by
  have:Y1 t=0:=by rw[Y1,if_neg hl,if_neg (by omega)]
  exact⟨this,by rw[G8,this];rfl,by rw[A6q,if_pos this,hn]⟩
 change RowI I2 3 1 (.slice a73 ((A0l t).length+1) cp73) ((A0l t).length+1) ((A0l t).flatMap A2K++ [nt t.length]) at hrow
 rw[hfl, <-hn]at hrow;rw[<-hn]at hcl |-;generalize Y1 t=er at herr hok |-;generalize G8 t=its at herr hok |-;generalize A6q s t=fa at herr hok |-;clear hn hfl;have hsmall:∀k,(A1d t (A0l t) k).small:=fun k=>A6G _ _ (hsm k)
 generalize A0l t=cz at hrow hcat hz1 hz2 hits0 hok hsm hsmall hfr;generalize Sp.fresh s t=fr at hok hfr hfr0 hfrl;refine U3 (fun x:AgY=> [(2,str t),(6,ptr b6),(9,.map (some bm)),(12,ptr b12),(13,nt x.n),(14,.slice a73 (n+1) cp73),(76,.int .i64 (((n+1:Nat):Int)-1)),(77,nt x.k)])
  (fun x w'=>Mem E x.I [B14 x.k x.a x.cp x.xs,.cell b12 [.slice x.a x.k x.cp] 25,.mp bm es,.cell b6 [.slice none 0 0] 25,.cell b3 [.slice a0 k c0] 25] w'/\Le I2 x.I/\A4W x.I ((List.range x.k).map (A1d t cz)) x.xs/\x.k<=n/\x.k<=30/\x.n=fr x.k)
  (fun x=>n-x.k) ⟨0,0,I2,none,0,[]⟩ (by exact⟨rfl,rfl,rfl,rfl,rfl,rfl,rfl,rfl,trivial⟩) ⟨hm,Le.refl _,rfl,H9 _,by dsimp only;omega,hfr0.symm⟩ ?_
 clear hm;rintro⟨m,nf,I3,a,cp,xs⟩ w2 ⟨hm,hle3,hits,hm1,hm30,hnf⟩;dsimp only at hm hle3 hits hm1 hm30 hnf |-;have hrow2:=hrow.le hle3;have hfm:=hfrl m;rw[<-hnf]at hfm;by_cases hlt:m<n
 ·by_cases h30:m=30
  ·obtain⟨he,hi,hf⟩:=herr (by omega)
   subst he;subst hi;subst hf;repeat' (first|refine A7G hm (by rfl) (by rfl) (by rfl) (by rfl) (by first|exact gt0|exact gt1|exact gt2|exact gt3|exact gt4|exact gt5|exact gt6) (by rfl) ?_|refine J6 ?_ hm|refine P6 ?_ hm;clear hm;intro _ hm;try simp only[G5]at hm|refine D8 ?_|refine D6 ?_|refine J8 ?_|refine O6 ?_|refine G6 ?_|refine D5 ?_|refine Y0 ?_|refine E5 ?_|refine A7 ?_|refine H8 ?_|refine O5 ?_|refine E8 ?_|refine A8 ?_|refine F6 ?_|refine G7 ?_|refine J3 ?_|(refine C9 (ht:=fun _=>?_) (hf:=fun _=>?_)<;>try first|contradiction|omega))
   exact⟨_,_,⟨none,0,[],rfl,A1L _ _ _ _ _,rfl,rfl⟩,hm.left (H:= [])⟩
  ·have hca:=hcat m hlt
   have hza:(cz++ [t.length])[((m:Nat):Int).toNat]?=some (cz.getD m 0):=by rw[A1R];exact hz1 m hlt
   have hzb:(cz++ [t.length])[(((m:Nat):Int)+1).toNat]?=some (cz.getD (m+1) t.length):=by
    rw[show (((m:Nat):Int)+1).toNat=m+1 by omega];exact hz2 m hlt
   have hit:=D1U (A1v t cz m) ((cz.getD m 0:Nat):Int) I3 ((hC.le hle2).le hle3) (hsm m);have hmv:∀j,A1v t cz m=A1v s (A0l s) j->A1d s (A0l s) j= { A1d t cz m with at_:=(((A0l s).getD j 0:Nat):Int)}:=fun j hj=>by
    rw[A1d, <-hj];exact C5a _ _ _
   have hlook:=hhad.look (A1v t cz m) (.agg it0.toArray);have hfs:=hfr m;rw[show Sp.item (A1v t cz m) ((cz.getD m 0:Nat):Int)=A1d t cz m from rfl]at hit;have hpc:A1v t cz m=(t.drop (cz.getD m 0)).take (cz.getD (m+1) t.length-cz.getD m 0):=rfl;rw[hpc]at hit hmv hlook hfs;have hat:(A1d t cz m).at_=((cz.getD m 0:Nat):Int):=B6x _ _;have hsk:=hsmall m;have hsn:=B7C t cz m;generalize A1d t cz m=it at hit hat hsk hsn hmv;generalize cz.getD (m+1) t.length=e2 at hca hzb hit hmv hlook hfs hpc;generalize cz.getD m 0=e1 at hca hza hit hat hmv hlook hfs hpc;clear hsmall hsm hcat hz1 hz2 hits0 herr hok hfr hpc;rcases hlook with ⟨hb,hcn,j,cs,hpj,hv,hi⟩|⟨hb,hcn,hv⟩
   ·rw[hmv j hpj]at hi
    rw[if_pos hcn]at hfs;obtain⟨ap,cp1,as_,cs1,ab,cb,ad,cd,xb,rfl,r1,r2,r3,r4,r5⟩:=D1u ((hi.le hle2).le hle3);clear hi hit hmv hcn;repeat' (first|refine A0R (id:=24) (hm.perm pm1_1) 3 6 (h:=?_);clear hm;intro wd hR hm|refine A0i (d:=88) (enc:=A2K) (z:=e1) ?_ (hr:=hrow2) (he:=fun _=>rfl) (hz:=hza);intro bt ot hpt|refine A0i (d:=93) (enc:=A2K) (z:=e2) ?_ (hr:=hrow2) (he:=fun _=>rfl) (hz:=hzb);intro bt2 ot2 hpt2|refine B5h (s:=(t.drop e1).take (e2-e1)) hm (by rfl) (by rfl) (by rfl) (by rfl) (by first|exact gt0|exact gt1|exact gt2|exact gt3|exact gt4|exact gt5|exact gt6) (by exact hhad.nodup) B5D ?_;rw[hv,hb]|refine Q4 (d:=114) (enc:=A2K) (z:=e1) ?_ (hr:=hrow2) (he:=fun _=>rfl) (hz:=hza);intro bt4 ot4 hpt4|refine V8 (d:=120) ?_ hm (hc:=D1V it hsk _ _ ⟨ap,cp1,as_,cs1,ab,cb,ad,cd,xb,by rw[hat],r1,r2,r3,r4,r5⟩);clear hm;rintro _ I5 _ _ ⟨_,rfl,⟨ap2,cp2,as2,cs2,ab2,cb2,ad2,cd2,xb2,rfl,q1,q2,q3,q4,q5⟩,rfl⟩ hle hm;have hleI5:=hle;try simp only[G5]at hm|refine A3C ?_ hR|refine A0k ?_ hR|refine A3b (d:=122) ?_ hm;clear hm;intro a122 cp122 _ _ hm;replace hm:=hR.back hm;clear hR;try simp only[G5]at hm|refine Y2 (d:=17) ?_ hm;clear hm;intro b17 _ hm|refine J6 ?_ hm|refine A0O ?_ hm|refine A1Q ?_ hm|refine P5 hm (k:=?_);clear hm;intro _ hm;try simp only[G5]at hm|refine D8 ?_|refine D6 ?_|refine J8 ?_|refine O6 ?_|refine G6 ?_|refine A0h ?_|refine Y8 ?_|refine O9 ?_|refine D5 ?_|refine E5 ?_|refine A7 ?_|refine D7 ?_|refine E8 ?_|refine A8 ?_|refine F6 ?_|refine G7 ?_|refine U6 ?_|refine A0s ?_;intro _ hkq;replace hm:=hm.kept0 hkq;clear hkq|refine F7 ?_|(refine C9 (ht:=fun _=>?_) (hf:=fun _=>?_)<;>try first|contradiction|omega)|refine Y4 ?_|refine A1a ?_|refine A31 ?_|refine A9y ?_|refine N8 ?_|refine A0y ?_)
    refine L6 (⟨m+1,nf,I5,_,_,_⟩:AgY) (by exact⟨rfl,rfl,rfl,rfl,rfl,rfl,rfl,rfl,trivial⟩) ⟨(hm.front 1 rfl).tl,hle3.trans hleI5,?_,by dsimp only;omega,by dsimp only;omega,by dsimp only;omega⟩ (by dsimp only;omega)
    dsimp only
    rw[hsn];exact(hits.le hleI5).snoc ⟨ap2,cp2,as2,cs2,ab2,cb2,ad2,cd2,xb2,rfl,q1,q2,q3,q4,q5⟩
   ·rw[if_neg (by rw[hcn];exact Bool.false_ne_true)]at hfs
    clear hmv hcn;repeat' (first|refine A0R (id:=24) (hm.perm pm1_1) 3 6 (h:=?_);clear hm;intro wd hR hm|refine A0i (d:=88) (enc:=A2K) (z:=e1) ?_ (hr:=hrow2) (he:=fun _=>rfl) (hz:=hza);intro bt ot hpt|refine A0i (d:=93) (enc:=A2K) (z:=e2) ?_ (hr:=hrow2) (he:=fun _=>rfl) (hz:=hzb);intro bt2 ot2 hpt2|refine B5h (s:=(t.drop e1).take (e2-e1)) hm (by rfl) (by rfl) (by rfl) (by rfl) (by first|exact gt0|exact gt1|exact gt2|exact gt3|exact gt4|exact gt5|exact gt6) (by exact hhad.nodup) B5D ?_;rw[hv,hb]|refine Q4 (d:=109) (enc:=A2K) (z:=e1) ?_ (hr:=hrow2) (he:=fun _=>rfl) (hz:=hza);intro bt3 ot3 hpt3|refine F8 ?_ hm (hc:=hit);clear hm;rintro _ I4 _ _ ⟨_,rfl,⟨ap,cp1,as_,cs1,ab,cb,ad,cd,xb,rfl,r1,r2,r3,r4,r5⟩,rfl⟩ hle hm;have hleI4:=hle;try simp only[G5]at hm|refine Q4 (d:=114) (enc:=A2K) (z:=e1) ?_ (hr:=hrow2.le hleI4) (he:=fun _=>rfl) (hz:=hza);intro bt4 ot4 hpt4|refine V8 (d:=120) ?_ hm (hc:=D1V it hsk _ _ ⟨ap,cp1,as_,cs1,ab,cb,ad,cd,xb,by rw[hat],r1,r2,r3,r4,r5⟩);clear hm;rintro _ I5 _ _ ⟨_,rfl,⟨ap2,cp2,as2,cs2,ab2,cb2,ad2,cd2,xb2,rfl,q1,q2,q3,q4,q5⟩,rfl⟩ hle hm;have hleI5:=hle;try simp only[G5]at hm|refine A3C ?_ hR|refine A0k ?_ hR|refine A3b (d:=122) ?_ hm;clear hm;intro a122 cp122 _ _ hm;replace hm:=hR.back hm;clear hR;try simp only[G5]at hm|refine Y2 (d:=17) ?_ hm;clear hm;intro b17 _ hm|refine J6 ?_ hm|refine A0O ?_ hm|refine A1Q ?_ hm|refine P6 ?_ hm;clear hm;intro _ hm;try simp only[G5]at hm|refine P5 hm (k:=?_);clear hm;intro _ hm;try simp only[G5]at hm|refine D8 ?_|refine D6 ?_|refine J8 ?_|refine O6 ?_|refine G6 ?_|refine A0h ?_|refine Y8 ?_|refine O9 ?_|refine D5 ?_|refine E5 ?_|refine A7 ?_|refine D7 ?_|refine E8 ?_|refine A8 ?_|refine F6 ?_|refine G7 ?_|refine U6 ?_|refine A0s ?_;intro _ hkq;replace hm:=hm.kept0 hkq;clear hkq|refine H5 ?_|(refine C9 (ht:=fun _=>?_) (hf:=fun _=>?_)<;>try first|contradiction|omega)|refine Y4 ?_|refine A1a ?_|refine A31 ?_|refine A9y ?_|refine N8 ?_|refine A0y ?_)
    refine L6 (⟨m+1,nf+1,I5,_,_,_⟩:AgY) (by exact⟨rfl,rfl,rfl,rfl,rfl,rfl,rfl,rfl,trivial⟩) ⟨(hm.front 1 rfl).tl,(hle3.trans hleI4).trans hleI5,?_,by dsimp only;omega,by dsimp only;omega,by dsimp only;omega⟩ (by dsimp only;omega)
    dsimp only
    rw[hsn];exact(hits.le (hleI4.trans hleI5)).snoc ⟨ap2,cp2,as2,cs2,ab2,cb2,ad2,cd2,xb2,rfl,q1,q2,q3,q4,q5⟩
 ·obtain rfl:m=n:=by omega
  obtain⟨he,hi,hf⟩:=hok hm30;subst he;subst hi;subst hf;rw[<-hnf];have hln:(A3Z t cz).length=m:=by rw[hits0];simp
  repeat' (first|refine A7G hm (by rfl) (by rfl) (by rfl) (by rfl) (by first|exact gt0|exact gt1|exact gt2|exact gt3|exact gt4|exact gt5|exact gt6) (by rfl) ?_|refine Q7 ?_ hm|refine P6 ?_ hm;clear hm;intro _ hm;try simp only[G5]at hm|refine D8 ?_|refine D6 ?_|refine J8 ?_|refine E5 ?_|refine A7 ?_|refine H6 ?_|refine G9 ?_|refine E8 ?_|refine A8 ?_|refine O8 ?_|refine J3 ?_|(refine C9 (ht:=fun _=>?_) (hf:=fun _=>?_)<;>try first|contradiction|omega))
  obtain⟨I4,hle4,hm4,hrow4⟩:=(hm.front 0 rfl).freeze;refine⟨I4,[],⟨a,cp,xs,?_,?_,by rw[hits0];exact hits.le hle4,rfl⟩,hm4.left (H:= [])⟩
  ·rw[hln];rfl
  ·rw[hln];exact hrow4
abbrev C58 (bs:Nat) (s:Sp.Srv) (a:Option Addr) (c:Nat):HItem:=.cell bs [str s.text,.slice a (G8 s.text).length c,.bool s.op] 147
def D5E (bs:Nat) (r:Sp.Srv×Sp.Rpl):Value->P8->List HItem->Prop:=fun v I' H'=> ∃c a' c' xs',v=.agg c.toArray/\B3o I' r.2 c/\H'= [C58 bs r.1 a' c']/\FE I' (G8 r.1.text) a' c' xs'
structure SvX where
 I:P8
 a:Option Addr
 c:Nat
 xs:List Value
 b:Nat
theorem D8l {s:Sp.Srv} (h:Sp.OkQ s) (t:List UInt8) (ht:t.length<=9223372036854775807) (I:P8) (hC:Conv I) {a:Option Addr}{c:Nat}{xs:List Value} (hfe:FE I (G8 s.text) a c xs) (bs:Nat):
  CalM prog 93 #[ptr bs,str t] I [C58 bs s a c] (D5E bs (C55 s t)):=by
 refine CalM.of fun w E hm=>enter (N:=39) func93 rfl [(0,ptr bs),(1,str t)] A1x rfl ?_
 have hA:=D4s s.text t h.err I hC ht a c xs hfe.row hfe.ats;have hfew:=A7a t;rw[C55];repeat' (first|refine A0U 1 ?_|refine X8 (d:=4) ?_ hm;clear hm;intro b4 _ hm|refine E5 ?_|refine A7 ?_|refine E8 ?_|refine A8 ?_)
 refine⟨C1z 1 (fun x:SvX=> [(0,ptr bs),(1,str t),(4,ptr b4),(5,ptr x.b),(6,nt (A6q s.text t)),(7,nt (Y1 t))])
  (fun x w'=>Mem E x.I [.cell x.b [.slice x.a (G8 t).length x.c] 25,.cell b4 (rpV B8c none 0 none 0) 80,C58 bs s a c] w'/\Le I x.I/\FE x.I (G8 t) x.a x.c x.xs) ?_ ?_⟩
 ·skip
  repeat' (first|refine A2y (id:=1) (hm.perm pm0) [0,1,2,3,4,5,6,7,8] 17 (h:=?_);clear hm;intro wd hR hm|refine B7N (d:=12) ?_ hR|refine A7n [10,11,12,13] (by decide+kernel) hm.kept ?_|refine A7n [16] (by decide+kernel) hm.kept ?_|refine A4f (d:=18) hm (by rfl) (by rfl) (by rfl) pm0 hA ?_;clear hm;rintro _ I2 _ _ ⟨a2,c2,xs2,rfl,hrow,hits,rfl⟩ hleI2 hm;try simp only[G5]at hm|refine B1o (i:=9) (j:=14) ?_ (by decide+kernel) (h:=?_)|refine A1I (i:=9) ?_ (by decide+kernel)|refine A1I (i:=14) ?_ (by decide+kernel)|refine A1I (i:=15) ?_ (by decide+kernel)|refine A9F ?_|refine A6S (by decide+kernel) ?_;replace hm:=hR.back hm;clear hR;try simp only[G5]at hm|refine A0k ?_ hR|refine B5k (d:=5) ?_ hm;clear hm;intro b5 _ hm|refine B19 ?_ hm;clear hm;intro _ hm;try simp only[G5]at hm|refine D6 ?_|refine E5 ?_|refine A0x ?_|refine B2p ?_|refine C9J ?_|refine U5 ?_|refine N8 ?_)
  all_goals exact A0V (⟨I2,a2,c2,xs2,b5⟩:SvX) (by exact⟨rfl,rfl,rfl,rfl,rfl,rfl,trivial⟩) ⟨hm,hleI2,A7Y hrow hits hfew⟩
 clear hm;rintro⟨I2,a2,c2,xs2,b5⟩ w2 ⟨hm,hle2,hfe2⟩;dsimp only at hm hle2 hfe2 |-;by_cases h0:Y1 t≠0
 ·rw[if_pos h0]
  repeat' (first|refine P6 ?_ hm;clear hm;intro _ hm;try simp only[G5]at hm|refine A0a ?_ hm|refine D8 ?_|refine A0w ?_|refine Y0 ?_|refine E5 ?_|refine A7 ?_|refine H8 ?_|refine E8 ?_|refine A8 ?_|refine J3 ?_|(refine C9 (ht:=fun _=>?_) (hf:=fun _=>?_)<;>try first|contradiction|omega))
  exact⟨I2,_,⟨_,a,c,xs,rfl,B3o.plain I2 rfl rfl,rfl,hfe.le hle2⟩,hm.tl.tl⟩
 ·rw[if_neg h0]
  have h00:Y1 t=0:=by omega
  rw[h00];repeat' (first|refine A2y (id:=4) (hm.perm pm1_2) [0,1,2,3,4,5,6] 11 (h:=?_);clear hm;intro wd hR hm|refine A7n [8,9] (by decide+kernel) hm.kept ?_|refine B5l hm (by rfl) (by rfl) (by rfl) (by rfl) gt0 (by rfl) (by rfl) (by rfl) ?_;clear hm;intro _ hm;try simp only[G5]at hm|refine C8Y hm (by rfl) (by rfl) (by rfl) (by rfl) gt0 (by rfl) (by rfl) (by rfl) ?_;clear hm;intro _ hm;try simp only[G5]at hm|refine A1I (i:=7) ?_ (by decide+kernel)|refine A1I (i:=10) ?_ (by decide+kernel)|refine A9F ?_|refine A6S (by decide+kernel) ?_;replace hm:=hR.back hm;clear hR;try simp only[G5]at hm|refine A3C ?_ hR|refine P6 ?_ hm;clear hm;intro _ hm;try simp only[G5]at hm|refine P5 hm (k:=?_);clear hm;intro _ hm;try simp only[G5]at hm|refine A0a ?_ hm|refine D8 ?_|refine A0w ?_|refine F5 ?_|refine D5 ?_|refine Y0 ?_|refine E5 ?_|refine A7 ?_|refine E8 ?_|refine A8 ?_|refine G7 ?_|refine J3 ?_|refine F7 ?_|refine A0x ?_|refine U5 ?_|refine N8 ?_)
  exact⟨I2,_,⟨_,a2,c2,xs2,rfl,B3o.plain I2 rfl rfl,rfl,hfe2⟩,hm.left (H:= [_])⟩
abbrev D6a (I:P8) (ba off:Nat) (q:Sp.Qn) (aa:Option Addr) (ac:Nat):Prop:=PtrI I ba off 72 (D3y q.id q.kind q.fr q.to q.text aa q.args.length ac)
theorem D6V {s:Sp.Srv} (q:Sp.Qn) (hk2:q.kind≠2) (hk6:q.kind≠6) (I:P8) {a:Option Addr}{c:Nat} (bs:Nat) {ba off:Nat}{aa:Option Addr}{ac:Nat} (hp:D6a I ba off q aa ac):
  CalM prog 94 #[ptr bs,.pointer (some ⟨ba,off,none⟩)] I [C58 bs s a c] (fun v _ H'=>v=.tuple #[.agg (rpV B8c none 0 none 0).toArray,.bool false]/\H'= [C58 bs s a c]):=by
 refine CalM.of fun w E hm=>enter (N:=70) func94 rfl [(0,ptr bs),(1,.pointer (some ⟨ba,off,none⟩))] A1x rfl ?_
 repeat' (first|refine X8 (d:=4) ?_ hm;clear hm;intro b4 _ hm|refine J9 ?_ hm|refine P6 ?_ hm;clear hm;intro _ hm;try simp only[G5]at hm|refine A00 ?_ hm|refine D8 ?_|refine D6 ?_|refine O6 ?_|refine F5 ?_|refine D5 ?_|refine Y0 ?_|refine E5 ?_|refine A7 ?_|refine D7 ?_|refine E8 ?_|refine A8 ?_|refine F6 ?_|refine G7 ?_|refine J3 ?_|(refine C9 (ht:=fun _=>?_) (hf:=fun _=>?_)<;>try first|contradiction|omega))
 all_goals try (exfalso;rename_i hx;have:=of_decide_eq_true hx;omega)
 exact⟨I,_,⟨rfl,rfl⟩,hm.tl⟩
def C9V (rs:List Sp.Rpl) (e:Nat):Value->P8->List HItem->Prop:=fun v I' H'=>H'= []/\∃a cp xs,v=.tuple #[.slice a rs.length cp,nt e]/\RowI I' 80 11 (.slice a rs.length cp) rs.length xs/\A7W I' rs xs
structure PlX where
 k:Nat
 I:P8
 a:Option Addr
 cp:Nat
 xs:List Value
 fa:Option Addr
 fc:Nat
 fx:List Value
theorem D7L (I:P8) (q:Sp.Qn) (h:q.args= []):B25 I q (D3y q.id q.kind q.fr q.to q.text none 0 0):=by
 refine⟨none,0,by rw[h];rfl,?_⟩
 rw[h];exact A1L _ _ _ _ _
theorem D4T {s:Sp.Srv} (h:Sp.OkQ s) (q:Sp.Qn) (h13:q.kind=1\/q.kind=3) (hql:q.text.length<=1099511627776) (I:P8) (hC:Conv I) {a:Option Addr}{c:Nat}{xs:List Value} (hfe:FE I (G8 s.text) a c xs) (bs:Nat) {ba off:Nat}{aa:Option Addr}{ac:Nat} (hp:D6a I ba off q aa ac):
  CalM prog 63 #[ptr bs,.pointer (some ⟨ba,off,none⟩)] I [C58 bs s a c] (D5E bs (B6U s q)):=by
 refine CalM.of fun w E hm=>enter (N:=121) func63 rfl [(0,ptr bs),(1,.pointer (some ⟨ba,off,none⟩))] A1x rfl ?_
 rw[B6U];rw[if_neg (show ¬(q.kind<1\/9<q.kind) by omega)];by_cases hk1:q.kind=1
 ·rw[if_pos hk1]
  have hS:=D8l h q.text (by omega) I hC hfe bs;repeat' (first|refine F8 (d:=35) ?_ hm (hp:=pm1_1) (hc:=hS);clear hm;rintro _ I3 _ _ ⟨_,a3,c3,xs3,rfl,⟨da,dp,ea,ep,rfl,hd3,he3⟩,rfl,hfe3⟩ hleI3 hm;try simp only[G5]at hm|refine X8 (d:=4) ?_ hm;clear hm;intro b4 _ hm|refine J9 ?_ hm|refine P6 ?_ hm;clear hm;intro _ hm;try simp only[G5]at hm|refine A0a ?_ hm|refine D8 ?_|refine D6 ?_|refine N7 ?_|refine J8 ?_|refine A1H ?_|refine O6 ?_|refine F5 ?_|refine D5 ?_|(refine O3 (h1:=fun _=>?_) (h0:=fun _=>?_)<;>try first|contradiction|omega)|refine E5 ?_|refine A7 ?_|refine H8 ?_|refine O5 ?_|refine E8 ?_|refine A8 ?_|refine F6 ?_|refine J3 ?_|(refine C9 (ht:=fun _=>?_) (hf:=fun _=>?_)<;>try first|contradiction|omega))
  all_goals exact⟨I3,_,⟨_,a3,c3,xs3,rfl,⟨da,dp,ea,ep,rfl,hd3,he3⟩,rfl,hfe3⟩,hm.left (H:= [_])⟩
 rw[if_neg hk1];obtain⟨tx,op⟩:=s;cases op with
 |false=>
  rw[if_pos rfl];repeat' (first|refine X8 (d:=4) ?_ hm;clear hm;intro b4 _ hm|refine J6 ?_ hm|refine J9 ?_ hm|refine P6 ?_ hm;clear hm;intro _ hm;try simp only[G5]at hm|refine A0a ?_ hm|refine D8 ?_|refine D6 ?_|refine N7 ?_|refine J8 ?_|refine A1H ?_|refine O6 ?_|refine A0h ?_|refine F5 ?_|refine D5 ?_|refine Y0 ?_|(refine O3 (h1:=fun _=>?_) (h0:=fun _=>?_)<;>try first|contradiction|omega)|refine E5 ?_|refine A7 ?_|refine H8 ?_|refine O5 ?_|refine E8 ?_|refine A8 ?_|refine F6 ?_|refine J3 ?_|refine H5 ?_|(refine C9 (ht:=fun _=>?_) (hf:=fun _=>?_)<;>try first|contradiction|omega))
  all_goals exact⟨I,_,⟨_,a,c,xs,rfl,B3o.plain I rfl rfl,rfl,hfe⟩,hm.tl⟩
 |true=>
 rw[if_neg (fun e=>by cases e)];have h26:¬(q.kind=2\/q.kind=6):=by omega
 rw[if_neg h26];have hN:=D6V (s:=⟨tx,true⟩) q (fun e=>h26 (.inl e)) (fun e=>h26 (.inr e)) I (a:=a) (c:=c) bs hp;have h4:Y1 tx=0:=h.err;have hA:=A8q h4;have hfe:FE I (G8 tx) a c xs:=hfe;rw[D7M];have k3:q.kind=3:=by omega
 rw[if_pos k3];have hD:=fun (J:P8) (m:Le I J)=>B5Z J (hfe.le m) hA
 repeat' (first|refine F8 (d:=46) ?_ hm (hp:=pm1_1) (hc:=hN);clear hm;rintro _ I3 _ _ ⟨rfl,rfl⟩ hleI3 hm;try simp only[G5]at hm;have hp3:=PtrI.le hp hleI3|refine B0V (d:=60) hm (by rfl) (by rfl) (by rfl) (by first|exact gt0|exact gt1|exact gt2|exact gt3|exact gt4|exact gt5|exact gt6) (by rfl) (by rfl) ?_|refine F8 (d:=61) ?_ hm (hp:=pm0) (hc:=hD I3 hleI3);clear hm;rintro _ I4 _ _ ⟨rfl,da,dp,rfl,hrd⟩ hleI4 hm;try simp only[G5]at hm|refine X8 (d:=4) ?_ hm;clear hm;intro b4 _ hm|refine Y2 (d:=5) ?_ hm;clear hm;intro b5 _ hm|refine J6 ?_ hm|refine J9 ?_ hm|refine P6 ?_ hm;clear hm;intro _ hm;try simp only[G5]at hm|refine A0a ?_ hm|refine D8 ?_|refine D6 ?_|refine N7 ?_|refine J8 ?_|refine A1H ?_|refine O6 ?_|refine A0h ?_|refine Y8 ?_|refine F5 ?_|refine D5 ?_|refine Y0 ?_|(refine O3 (h1:=fun _=>?_) (h0:=fun _=>?_)<;>try first|contradiction|omega)|refine E5 ?_|refine A7 ?_|refine H8 ?_|refine D7 ?_|refine O5 ?_|refine E8 ?_|refine A8 ?_|refine F6 ?_|refine G7 ?_|refine J3 ?_|refine F7 ?_|(refine C9 (ht:=fun _=>?_) (hf:=fun _=>?_)<;>try first|contradiction|omega))
 all_goals exact⟨I4,_,⟨_,a,c,xs,rfl,⟨da,dp,none,0,rfl,hrd,A1L _ _ _ _ _⟩,rfl,hfe.le (hleI3.trans hleI4)⟩,hm.tl.hd⟩
theorem D2n {I:P8}{qs:List Sp.Qn}{la:Option Addr}{lc:Nat}{ys:List Value} (hr:RowI I 72 6 (.slice la qs.length lc) qs.length ys) (hat:A5E I qs ys) (hq:∀q∈qs,q.text.length<=1099511627776) (h13:∀q∈qs,q.kind=1\/q.kind=3) (hC:Conv I) (hlen:qs.length<=1099511627776):
  CalM prog 33 #[.slice la qs.length lc] I [] (if 40<qs.length then C9V [] 5 else C9V (Sp.rpQ B3N qs) 0):=by
 refine CalM.of fun w E hm=>enter (N:=35) func33 rfl [(0,.slice la qs.length lc)] A0Z rfl ?_
 by_cases h40:40<qs.length
 ·rw[if_pos h40]
  repeat' (first|refine D8 ?_|refine D6 ?_|refine A1H ?_|refine G6 ?_|refine E5 ?_|refine A7 ?_|refine H8 ?_|refine E8 ?_|refine A8 ?_|refine J3 ?_|refine A4E ?_|(refine C9 (ht:=fun _=>?_) (hf:=fun _=>?_)<;>try first|contradiction|omega))
  exact⟨I,[],⟨rfl,none,0,[],rfl,A1L _ _ _ _ _,rfl⟩,hm⟩
 rw[if_neg h40];repeat' (first|refine A0T (d:=12) ?_ hm;clear hm;intro b12 _ hm|refine D8 ?_|refine D6 ?_|refine A1H ?_|refine G6 ?_|refine Y0 ?_|refine E5 ?_|refine A7 ?_|refine E8 ?_|refine A8 ?_|refine F6 ?_|refine G7 ?_|(refine C9 (ht:=fun _=>?_) (hf:=fun _=>?_)<;>try first|contradiction|omega))
 have hm:=hm.nil 80 11;refine U3 (fun x:PlX=> [(0,.slice la qs.length lc),(4,ptr b12),(5,.slice x.a (Sp.rpQ B3N (qs.take x.k)).length x.cp),(14,nt qs.length),(15,nt x.k)])
  (fun x w'=>Mem E x.I [.row (.slice x.a (Sp.rpQ B3N (qs.take x.k)).length x.cp) 80 11 (Sp.rpQ B3N (qs.take x.k)).length x.xs,C58 b12 (Sp.stQ B3N (qs.take x.k)) x.fa x.fc] w'/\Le I x.I/\x.k<=qs.length/\A7W x.I (Sp.rpQ B3N (qs.take x.k)) x.xs/\FE x.I (G8 (Sp.stQ B3N (qs.take x.k)).text) x.fa x.fc x.fx) (fun x=>qs.length-x.k) ⟨0,I,none,0,[],none,0,[]⟩
  (by exact⟨rfl,rfl,rfl,rfl,rfl,trivial⟩) ⟨hm,Le.refl _,H9 _,rfl,?_⟩ ?_
 ·exact⟨A1L _ _ _ _ _,rfl,by dsimp only;rw[Z9];decide+kernel⟩
 clear hm;rintro⟨k,I1,oa,op,xs,fa,fc,fx⟩ w1 ⟨hm,hle,hk,hrs,hfe⟩;dsimp only at hm hle hk hrs hfe |-;by_cases hlt:k<qs.length
 ·have hg:qs[k]?=some qs[k]:=F9 hlt
  have hqk:=hq _ (O1 hlt);have hq13:=h13 _ (O1 hlt);have hs1:=D2h B3N hg;have hs2:=D2w B3N hg;have hok:=D2v (qs.take k) D8b;have hl1:(Sp.rpQ B3N (qs.take k)).length<=40:=by rw[C7H,P9];omega
  obtain⟨aa,ac,hci,hargs⟩:=(hat.le hle).get hg;have hr1:=hr.le hle;generalize qs[k]=q at hg hqk hq13 hs1 hs2 hci hargs;generalize Sp.stQ B3N (qs.take k)=st at hm hfe hs1 hs2 hok;generalize Sp.rpQ B3N (qs.take k)=rs at hm hrs hs1 hl1;have hA:=fun (bt ot:Nat) (hp:D6a I1 bt ot q aa ac)=>D4T hok q hq13 hqk I1 (hC.le hle) hfe b12 hp
  have hid:D6S st q= { (B6U st q).2 with id:=q.id}:=rfl;generalize D6S st q=rp at hs1 hid;generalize B6U st q=an at hA hs2 hid;obtain⟨st2,r⟩:=an;dsimp only at hA hs2 hid;repeat' (first|refine O7 (d:=21) ?_ (hr:=hr1);intro bt ot hpt;rw[show ((k:Int).toNat *6)=k *6 from rfl,hci]at hpt|refine O7 (d:=25) ?_ (hr:=hr1.le hleI2);intro bu ou hpu;rw[show ((k:Int).toNat *6)=k *6 from rfl,hci]at hpu|refine F8 (d:=22) ?_ hm (hp:=pm1_1) (hc:=hA bt ot hpt);clear hm;rintro _ I2 _ _ ⟨_,a3,c3,x3,rfl,⟨da,dp,ea,ep,rfl,hd3,he3⟩,rfl,hfe3⟩ hleI2 hm;try simp only[G5]at hm|refine Y2 (d:=7) ?_ hm;clear hm;intro b7 _ hm|refine A2P (d:=32) ?_ hm;clear hm;intro a32 cp32 _ _ hm;try simp only[G5]at hm|refine J9 ?_ hm|refine Q7 ?_ hm|refine P5 hm (k:=?_);clear hm;intro _ hm;try simp only[G5]at hm|refine D8 ?_|refine D6 ?_|refine J8 ?_|refine O9 ?_|refine D5 ?_|refine E5 ?_|refine A7 ?_|refine D7 ?_|refine E8 ?_|refine A8 ?_|refine F6 ?_|refine G7 ?_|(refine C9 (ht:=fun _=>?_) (hf:=fun _=>?_)<;>try first|contradiction|omega))
  have hrp:B3o I2 rp (rpV rp da dp ea ep):=by
   subst hid;exact⟨da,dp,ea,ep,rfl,hd3,he3⟩
  have hrs2:=A7W.snoc hrp (A7W.le hleI2 hrs);subst hid;refine L6 (⟨k+1,I2,a32,cp32,xs++rpV { r with id:=q.id} da dp ea ep,a3,c3,x3⟩:PlX) (by exact⟨rfl,rfl,by rw[hs1,D9];rfl,rfl,rfl,trivial⟩) ⟨?_,hle.trans hleI2,by dsimp only;omega,by dsimp only;rw[hs1];exact hrs2,by dsimp only;rw[hs2];exact hfe3⟩ (by dsimp only;omega)
  dsimp only
  rw[hs1,hs2,D9];exact hm.tl.swap
 ·obtain rfl:k=qs.length:=by omega
  rw[V7]at hm hrs hfe |-;repeat' (first|refine D8 ?_|refine D6 ?_|refine J8 ?_|refine E5 ?_|refine A7 ?_|refine H6 ?_|refine G9 ?_|refine E8 ?_|refine A8 ?_|refine O8 ?_|refine J3 ?_|refine A4E ?_|(refine C9 (ht:=fun _=>?_) (hf:=fun _=>?_)<;>try first|contradiction|omega))
  obtain⟨I4,hle4,hm4,hrow⟩:=hm.freeze;exact⟨I4,[],⟨rfl,_,_,xs,rfl,hrow,A7W.le hle4 hrs⟩,hm4.left (H:= [])⟩
theorem D2J (k:Int) (t:List UInt8) (I:P8):CalM prog 65 #[.int .i64 k,str t] I [] (fun v _ H'=>v=.agg (D3y 0 k 0 0 t none 0 0).toArray/\H'= []):=by
 refine CalM.of fun w E hm=>enter (N:=8) func65 rfl [(0,.int .i64 k),(1,str t)] A1x rfl ?_
 repeat' (first|refine X8 (d:=4) ?_ hm;clear hm;intro b4 _ hm|refine P6 ?_ hm;clear hm;intro _ hm;try simp only[G5]at hm|refine A0a ?_ hm|refine D8 ?_|refine Y0 ?_|refine E5 ?_|refine A7 ?_|refine E8 ?_|refine A8 ?_|refine J3 ?_)
 exact⟨I,[],⟨rfl,rfl⟩,hm.tl⟩
theorem D2I (I:P8) (hC:Conv I):CalM prog 35 #[] I [] (fun v _ H'=>v=.bool true/\H'= []):=by
 refine CalM.of fun w E hm=>enter (N:=35) func35 rfl [] C1Y rfl ?_
 obtain⟨r0,r1,hrs⟩:∃r0 r1,Sp.rpQ B3N B8p= [r0,r1]:=⟨_,_,rfl⟩;have hal:=C6o;rw[hrs]at hal;simp only[List.getD_cons_zero,List.getD_cons_succ]at hal;obtain⟨d,hd1,hd2⟩:∃d,r1.dgs= [d]/\d.err=9:=by
  cases h:r1.dgs with
  |nil=>rw[h]at hal;cases hal
  |cons d l=>
   rw[h]at hal;simp only[U4,A4b,List.map_eq_nil_iff]at hal;exact⟨d,by rw[hal.2],hal.1⟩
 have hP:=fun (J:P8) (m:Le I J) (b:Nat) (ys:List Value) (h:RowI J 72 6 (.slice (some ⟨b,0,none⟩) 2 2) 2 ys) (h2:A5E J B8p ys)=>D2n (qs:=B8p) h h2 (fun q hq=>by
  simp only[B8p,W9,List.not_mem_nil,or_false]at hq;rcases hq with rfl|rfl<;>decide) (fun q hq=>by
  simp only[B8p,W9,List.not_mem_nil,or_false]at hq;rcases hq with rfl|rfl<;>decide) (hC.le m) (by decide)
 rw[if_neg (by decide),hrs]at hP;repeat' (first|refine F8 (d:=4) ?_ hm (hp:=pm0) (hc:=D2J 1 D5T I);clear hm;rintro _ I1 _ _ ⟨rfl,rfl⟩ hleI1 hm;try simp only[G5]at hm|refine F8 (d:=5) ?_ hm (hp:=pm0) (hc:=D2J 3 [] I1);clear hm;rintro _ I2 _ _ ⟨rfl,rfl⟩ hleI2 hm;try simp only[G5]at hm|refine A5O (d:=6) ?_ hm;clear hm;intro b7 _ hm;obtain⟨I3,hle3,hm3,hr7⟩:=hm.freeze;clear hm;have hm:=hm3;clear hm3;have ha7:A5E I3 B8p _:=⟨_,_,rfl,D7L _ _ rfl,_,[],rfl,D7L _ _ rfl,rfl⟩|refine F8 (d:=7) ?_ hm (hp:=pm0) (hc:=hP I3 ((hleI1.trans hleI2).trans hle3) b7 _ hr7 ha7);clear hm;rintro _ I4 _ _ ⟨rfl,pa,pc,ps,rfl,hpr,hps⟩ hleI4 hm;try simp only[G5]at hm;obtain⟨db,dq,eb,eq,hc2,hdr,_⟩:=hps.get (i:=1) rfl;unfold rpV at hc2;rw[hd1]at hc2 hdr|refine O7 (d:=19) ?_ (hr:=hpr) (h1:=by simp);intro bu ou hpu;rw[show ((1:Int).toNat *11)=1 *11 from rfl,hc2]at hpu|refine O7 (d:=27) ?_ (hr:=hpr) (h1:=by simp);intro bx ox hpx;rw[show ((1:Int).toNat *11)=1 *11 from rfl,hc2]at hpx|refine Q4 (d:=30) (enc:=B1u) (z:=d) ?_ (hr:=hdr) (he:=fun _=>rfl) (h1:=by simp) (hz:=by rfl);intro bz oz hpz|refine J9 ?_ hm|refine D8 ?_|refine D6 ?_|refine O0 ?_|refine O6 ?_|refine G6 ?_|refine Y8 ?_|refine D5 ?_|refine E5 ?_|refine A7 ?_|refine E8 ?_|refine A8 ?_|refine J3 ?_|refine J7 ?_)
 all_goals exact⟨I4,[],⟨by rw[hd2];rfl,rfl⟩,hm.left (H:= [])⟩
theorem D2K (fr tt:Nat) (hf:fr<256) (ht:tt<256) (way:Int) (h0:0<=way) (h5:way<=5) (I:P8):
  CalM prog 37 #[nt fr,nt tt,.int .i64 way] I [] (fun v _ H'=>v=str (A8n fr tt way)/\H'= []):=by
 refine CalM.of fun w E hm=>enter (N:=48) func37 rfl [(0,nt fr),(1,nt tt),(2,.int .i64 way)] A4x rfl ?_
 have hp1:=fun (J:P8)=>B4M (J:=J) fr hf
 have hp2:=fun (J:P8)=>B4M (J:=J) tt ht
 have l1:=A5S fr;have l2:=A5S tt;rw[<-D2q,D6X,D6W];generalize A2X fr=pf at hp1 l1 |-;generalize A2X tt=pt at hp2 l2 |-;have hw:way=0\/way=1\/way=2\/way=3\/way=4\/way=5:=by omega
 clear h0 h5;rcases hw with rfl|rfl|rfl|rfl|rfl|rfl
 ·skip
  repeat' (first|refine U8 (d:=11) ?_ hm (hc:=hp1 _);clear hm;intro _ hm|refine U8 (d:=13) ?_ hm (hc:=hp2 _);clear hm;intro _ hm|refine X5 (d:=15) (s:=[99,104,97,110,32,99,58,32]) (u:=pt) ?_ (h:=by simp only[E9,List.length_nil];omega)|refine X5 (d:=16) (s:=[99,104,97,110,32,99,58,32]++pt) (u:=[59,10,102,110,32,102,40,120,58,32]) ?_ (h:=by simp only[D9,E9,List.length_nil];omega)|refine X5 (d:=18) (s:=[99,104,97,110,32,99,58,32]++pt++ [59,10,102,110,32,102,40,120,58,32]) (u:=pf) ?_ (h:=by simp only[D9,E9,List.length_nil];omega)|refine X5 (d:=19) (s:=[99,104,97,110,32,99,58,32]++pt++ [59,10,102,110,32,102,40,120,58,32]++pf) (u:=[41,58,32,123,125,32,115,101,110,100,115,32,99,32,123,10]) ?_ (h:=by simp only[D9,E9,List.length_nil];omega)|refine X5 (d:=26) (s:=[99,104,97,110,32,99,58,32]++pt++ [59,10,102,110,32,102,40,120,58,32]++pf++ [41,58,32,123,125,32,115,101,110,100,115,32,99,32,123,10]) (u:=[32,32,115,101,110,100,32,99,32,120,59,10]) ?_ (h:=by simp only[D9,E9,List.length_nil];omega)|refine X5 (d:=44) (s:=[99,104,97,110,32,99,58,32]++pt++ [59,10,102,110,32,102,40,120,58,32]++pf++ [41,58,32,123,125,32,115,101,110,100,115,32,99,32,123,10]++ [32,32,115,101,110,100,32,99,32,120,59,10]) (u:=[125,10,102,110,32,103,40,121,58,32]) ?_ (h:=by simp only[D9,E9,List.length_nil];omega)|refine X5 (d:=46) (s:=[99,104,97,110,32,99,58,32]++pt++ [59,10,102,110,32,102,40,120,58,32]++pf++ [41,58,32,123,125,32,115,101,110,100,115,32,99,32,123,10]++ [32,32,115,101,110,100,32,99,32,120,59,10]++ [125,10,102,110,32,103,40,121,58,32]) (u:=pt) ?_ (h:=by simp only[D9,E9,List.length_nil];omega)|refine X5 (d:=47) (s:=[99,104,97,110,32,99,58,32]++pt++ [59,10,102,110,32,102,40,120,58,32]++pf++ [41,58,32,123,125,32,115,101,110,100,115,32,99,32,123,10]++ [32,32,115,101,110,100,32,99,32,120,59,10]++ [125,10,102,110,32,103,40,121,58,32]++pt) (u:=[41,58,32,123,125,32,115,101,110,100,115,32,99,32,123,32,115,101,110,100,32,99,32,121,59,32,125,10,102,110,32,104,40,41,58,32,123,125,32,115,101,110,100,115,32,99,32,123,32,115,101,110,100,32,99,32,53,59,32,125]) ?_ (h:=by simp only[D9,E9,List.length_nil];omega)|refine D8 ?_|refine D6 ?_|refine O6 ?_|refine E5 ?_|refine A7 ?_|refine D7 ?_|refine E8 ?_|refine A8 ?_|refine F6 ?_|refine J3 ?_|refine J7 ?_|refine H5 ?_)
  exact⟨I,[],⟨rfl,rfl⟩,hm⟩
 ·skip
  repeat' (first|refine U8 (d:=11) ?_ hm (hc:=hp1 _);clear hm;intro _ hm|refine U8 (d:=13) ?_ hm (hc:=hp2 _);clear hm;intro _ hm|refine X5 (d:=15) (s:=[99,104,97,110,32,99,58,32]) (u:=pt) ?_ (h:=by simp only[E9,List.length_nil];omega)|refine X5 (d:=16) (s:=[99,104,97,110,32,99,58,32]++pt) (u:=[59,10,102,110,32,102,40,120,58,32]) ?_ (h:=by simp only[D9,E9,List.length_nil];omega)|refine X5 (d:=18) (s:=[99,104,97,110,32,99,58,32]++pt++ [59,10,102,110,32,102,40,120,58,32]) (u:=pf) ?_ (h:=by simp only[D9,E9,List.length_nil];omega)|refine X5 (d:=19) (s:=[99,104,97,110,32,99,58,32]++pt++ [59,10,102,110,32,102,40,120,58,32]++pf) (u:=[41,58,32,123,125,32,115,101,110,100,115,32,99,32,123,10]) ?_ (h:=by simp only[D9,E9,List.length_nil];omega)|refine X5 (d:=30) (s:=[99,104,97,110,32,99,58,32]++pt++ [59,10,102,110,32,102,40,120,58,32]++pf++ [41,58,32,123,125,32,115,101,110,100,115,32,99,32,123,10]) (u:=[32,32,108,101,116,32,121,32,61,32,120,32,42,32,50,59,10,32,32,115,101,110,100,32,99,32,121,32,45,32,49,59,10]) ?_ (h:=by simp only[D9,E9,List.length_nil];omega)|refine X5 (d:=44) (s:=[99,104,97,110,32,99,58,32]++pt++ [59,10,102,110,32,102,40,120,58,32]++pf++ [41,58,32,123,125,32,115,101,110,100,115,32,99,32,123,10]++ [32,32,108,101,116,32,121,32,61,32,120,32,42,32,50,59,10,32,32,115,101,110,100,32,99,32,121,32,45,32,49,59,10]) (u:=[125,10,102,110,32,103,40,121,58,32]) ?_ (h:=by simp only[D9,E9,List.length_nil];omega)|refine X5 (d:=46) (s:=[99,104,97,110,32,99,58,32]++pt++ [59,10,102,110,32,102,40,120,58,32]++pf++ [41,58,32,123,125,32,115,101,110,100,115,32,99,32,123,10]++ [32,32,108,101,116,32,121,32,61,32,120,32,42,32,50,59,10,32,32,115,101,110,100,32,99,32,121,32,45,32,49,59,10]++ [125,10,102,110,32,103,40,121,58,32]) (u:=pt) ?_ (h:=by simp only[D9,E9,List.length_nil];omega)|refine X5 (d:=47) (s:=[99,104,97,110,32,99,58,32]++pt++ [59,10,102,110,32,102,40,120,58,32]++pf++ [41,58,32,123,125,32,115,101,110,100,115,32,99,32,123,10]++ [32,32,108,101,116,32,121,32,61,32,120,32,42,32,50,59,10,32,32,115,101,110,100,32,99,32,121,32,45,32,49,59,10]++ [125,10,102,110,32,103,40,121,58,32]++pt) (u:=[41,58,32,123,125,32,115,101,110,100,115,32,99,32,123,32,115,101,110,100,32,99,32,121,59,32,125,10,102,110,32,104,40,41,58,32,123,125,32,115,101,110,100,115,32,99,32,123,32,115,101,110,100,32,99,32,53,59,32,125]) ?_ (h:=by simp only[D9,E9,List.length_nil];omega)|refine D8 ?_|refine D6 ?_|refine O6 ?_|refine E5 ?_|refine A7 ?_|refine D7 ?_|refine E8 ?_|refine A8 ?_|refine F6 ?_|refine J3 ?_|refine J7 ?_|refine H5 ?_|refine F7 ?_)
  exact⟨I,[],⟨rfl,rfl⟩,hm⟩
 ·skip
  repeat' (first|refine U8 (d:=11) ?_ hm (hc:=hp1 _);clear hm;intro _ hm|refine U8 (d:=13) ?_ hm (hc:=hp2 _);clear hm;intro _ hm|refine X5 (d:=15) (s:=[99,104,97,110,32,99,58,32]) (u:=pt) ?_ (h:=by simp only[E9,List.length_nil];omega)|refine X5 (d:=16) (s:=[99,104,97,110,32,99,58,32]++pt) (u:=[59,10,102,110,32,102,40,120,58,32]) ?_ (h:=by simp only[D9,E9,List.length_nil];omega)|refine X5 (d:=18) (s:=[99,104,97,110,32,99,58,32]++pt++ [59,10,102,110,32,102,40,120,58,32]) (u:=pf) ?_ (h:=by simp only[D9,E9,List.length_nil];omega)|refine X5 (d:=19) (s:=[99,104,97,110,32,99,58,32]++pt++ [59,10,102,110,32,102,40,120,58,32]++pf) (u:=[41,58,32,123,125,32,115,101,110,100,115,32,99,32,123,10]) ?_ (h:=by simp only[D9,E9,List.length_nil];omega)|refine X5 (d:=34) (s:=[99,104,97,110,32,99,58,32]++pt++ [59,10,102,110,32,102,40,120,58,32]++pf++ [41,58,32,123,125,32,115,101,110,100,115,32,99,32,123,10]) (u:=[32,32,105,102,32,120,32,123,32,115,101,110,100,32,99,32,49,59,32,125,10]) ?_ (h:=by simp only[D9,E9,List.length_nil];omega)|refine X5 (d:=44) (s:=[99,104,97,110,32,99,58,32]++pt++ [59,10,102,110,32,102,40,120,58,32]++pf++ [41,58,32,123,125,32,115,101,110,100,115,32,99,32,123,10]++ [32,32,105,102,32,120,32,123,32,115,101,110,100,32,99,32,49,59,32,125,10]) (u:=[125,10,102,110,32,103,40,121,58,32]) ?_ (h:=by simp only[D9,E9,List.length_nil];omega)|refine X5 (d:=46) (s:=[99,104,97,110,32,99,58,32]++pt++ [59,10,102,110,32,102,40,120,58,32]++pf++ [41,58,32,123,125,32,115,101,110,100,115,32,99,32,123,10]++ [32,32,105,102,32,120,32,123,32,115,101,110,100,32,99,32,49,59,32,125,10]++ [125,10,102,110,32,103,40,121,58,32]) (u:=pt) ?_ (h:=by simp only[D9,E9,List.length_nil];omega)|refine X5 (d:=47) (s:=[99,104,97,110,32,99,58,32]++pt++ [59,10,102,110,32,102,40,120,58,32]++pf++ [41,58,32,123,125,32,115,101,110,100,115,32,99,32,123,10]++ [32,32,105,102,32,120,32,123,32,115,101,110,100,32,99,32,49,59,32,125,10]++ [125,10,102,110,32,103,40,121,58,32]++pt) (u:=[41,58,32,123,125,32,115,101,110,100,115,32,99,32,123,32,115,101,110,100,32,99,32,121,59,32,125,10,102,110,32,104,40,41,58,32,123,125,32,115,101,110,100,115,32,99,32,123,32,115,101,110,100,32,99,32,53,59,32,125]) ?_ (h:=by simp only[D9,E9,List.length_nil];omega)|refine D8 ?_|refine D6 ?_|refine O6 ?_|refine E5 ?_|refine A7 ?_|refine D7 ?_|refine E8 ?_|refine A8 ?_|refine F6 ?_|refine J3 ?_|refine J7 ?_|refine H5 ?_|refine F7 ?_)
  exact⟨I,[],⟨rfl,rfl⟩,hm⟩
 ·skip
  repeat' (first|refine U8 (d:=11) ?_ hm (hc:=hp1 _);clear hm;intro _ hm|refine U8 (d:=13) ?_ hm (hc:=hp2 _);clear hm;intro _ hm|refine X5 (d:=15) (s:=[99,104,97,110,32,99,58,32]) (u:=pt) ?_ (h:=by simp only[E9,List.length_nil];omega)|refine X5 (d:=16) (s:=[99,104,97,110,32,99,58,32]++pt) (u:=[59,10,102,110,32,102,40,120,58,32]) ?_ (h:=by simp only[D9,E9,List.length_nil];omega)|refine X5 (d:=18) (s:=[99,104,97,110,32,99,58,32]++pt++ [59,10,102,110,32,102,40,120,58,32]) (u:=pf) ?_ (h:=by simp only[D9,E9,List.length_nil];omega)|refine X5 (d:=19) (s:=[99,104,97,110,32,99,58,32]++pt++ [59,10,102,110,32,102,40,120,58,32]++pf) (u:=[41,58,32,123,125,32,115,101,110,100,115,32,99,32,123,10]) ?_ (h:=by simp only[D9,E9,List.length_nil];omega)|refine X5 (d:=38) (s:=[99,104,97,110,32,99,58,32]++pt++ [59,10,102,110,32,102,40,120,58,32]++pf++ [41,58,32,123,125,32,115,101,110,100,115,32,99,32,123,10]) (u:=[32,32,119,104,105,108,101,32,120,32,60,32,51,32,123,32,115,101,110,100,32,99,32,48,59,32,120,32,61,32,120,32,43,32,49,59,32,125,10]) ?_ (h:=by simp only[D9,E9,List.length_nil];omega)|refine X5 (d:=44) (s:=[99,104,97,110,32,99,58,32]++pt++ [59,10,102,110,32,102,40,120,58,32]++pf++ [41,58,32,123,125,32,115,101,110,100,115,32,99,32,123,10]++ [32,32,119,104,105,108,101,32,120,32,60,32,51,32,123,32,115,101,110,100,32,99,32,48,59,32,120,32,61,32,120,32,43,32,49,59,32,125,10]) (u:=[125,10,102,110,32,103,40,121,58,32]) ?_ (h:=by simp only[D9,E9,List.length_nil];omega)|refine X5 (d:=46) (s:=[99,104,97,110,32,99,58,32]++pt++ [59,10,102,110,32,102,40,120,58,32]++pf++ [41,58,32,123,125,32,115,101,110,100,115,32,99,32,123,10]++ [32,32,119,104,105,108,101,32,120,32,60,32,51,32,123,32,115,101,110,100,32,99,32,48,59,32,120,32,61,32,120,32,43,32,49,59,32,125,10]++ [125,10,102,110,32,103,40,121,58,32]) (u:=pt) ?_ (h:=by simp only[D9,E9,List.length_nil];omega)|refine X5 (d:=47) (s:=[99,104,97,110,32,99,58,32]++pt++ [59,10,102,110,32,102,40,120,58,32]++pf++ [41,58,32,123,125,32,115,101,110,100,115,32,99,32,123,10]++ [32,32,119,104,105,108,101,32,120,32,60,32,51,32,123,32,115,101,110,100,32,99,32,48,59,32,120,32,61,32,120,32,43,32,49,59,32,125,10]++ [125,10,102,110,32,103,40,121,58,32]++pt) (u:=[41,58,32,123,125,32,115,101,110,100,115,32,99,32,123,32,115,101,110,100,32,99,32,121,59,32,125,10,102,110,32,104,40,41,58,32,123,125,32,115,101,110,100,115,32,99,32,123,32,115,101,110,100,32,99,32,53,59,32,125]) ?_ (h:=by simp only[D9,E9,List.length_nil];omega)|refine D8 ?_|refine D6 ?_|refine O6 ?_|refine E5 ?_|refine A7 ?_|refine D7 ?_|refine E8 ?_|refine A8 ?_|refine F6 ?_|refine J3 ?_|refine J7 ?_|refine H5 ?_|refine F7 ?_)
  exact⟨I,[],⟨rfl,rfl⟩,hm⟩
 ·skip
  repeat' (first|refine U8 (d:=11) ?_ hm (hc:=hp1 _);clear hm;intro _ hm|refine U8 (d:=13) ?_ hm (hc:=hp2 _);clear hm;intro _ hm|refine X5 (d:=15) (s:=[99,104,97,110,32,99,58,32]) (u:=pt) ?_ (h:=by simp only[E9,List.length_nil];omega)|refine X5 (d:=16) (s:=[99,104,97,110,32,99,58,32]++pt) (u:=[59,10,102,110,32,102,40,120,58,32]) ?_ (h:=by simp only[D9,E9,List.length_nil];omega)|refine X5 (d:=18) (s:=[99,104,97,110,32,99,58,32]++pt++ [59,10,102,110,32,102,40,120,58,32]) (u:=pf) ?_ (h:=by simp only[D9,E9,List.length_nil];omega)|refine X5 (d:=19) (s:=[99,104,97,110,32,99,58,32]++pt++ [59,10,102,110,32,102,40,120,58,32]++pf) (u:=[41,58,32,123,125,32,115,101,110,100,115,32,99,32,123,10]) ?_ (h:=by simp only[D9,E9,List.length_nil];omega)|refine X5 (d:=42) (s:=[99,104,97,110,32,99,58,32]++pt++ [59,10,102,110,32,102,40,120,58,32]++pf++ [41,58,32,123,125,32,115,101,110,100,115,32,99,32,123,10]) (u:=[32,32,103,40,120,41,59,10]) ?_ (h:=by simp only[D9,E9,List.length_nil];omega)|refine X5 (d:=44) (s:=[99,104,97,110,32,99,58,32]++pt++ [59,10,102,110,32,102,40,120,58,32]++pf++ [41,58,32,123,125,32,115,101,110,100,115,32,99,32,123,10]++ [32,32,103,40,120,41,59,10]) (u:=[125,10,102,110,32,103,40,121,58,32]) ?_ (h:=by simp only[D9,E9,List.length_nil];omega)|refine X5 (d:=46) (s:=[99,104,97,110,32,99,58,32]++pt++ [59,10,102,110,32,102,40,120,58,32]++pf++ [41,58,32,123,125,32,115,101,110,100,115,32,99,32,123,10]++ [32,32,103,40,120,41,59,10]++ [125,10,102,110,32,103,40,121,58,32]) (u:=pt) ?_ (h:=by simp only[D9,E9,List.length_nil];omega)|refine X5 (d:=47) (s:=[99,104,97,110,32,99,58,32]++pt++ [59,10,102,110,32,102,40,120,58,32]++pf++ [41,58,32,123,125,32,115,101,110,100,115,32,99,32,123,10]++ [32,32,103,40,120,41,59,10]++ [125,10,102,110,32,103,40,121,58,32]++pt) (u:=[41,58,32,123,125,32,115,101,110,100,115,32,99,32,123,32,115,101,110,100,32,99,32,121,59,32,125,10,102,110,32,104,40,41,58,32,123,125,32,115,101,110,100,115,32,99,32,123,32,115,101,110,100,32,99,32,53,59,32,125]) ?_ (h:=by simp only[D9,E9,List.length_nil];omega)|refine D8 ?_|refine D6 ?_|refine O6 ?_|refine E5 ?_|refine A7 ?_|refine D7 ?_|refine E8 ?_|refine A8 ?_|refine F6 ?_|refine J3 ?_|refine J7 ?_|refine H5 ?_|refine F7 ?_)
  exact⟨I,[],⟨rfl,rfl⟩,hm⟩
 ·skip
  repeat' (first|refine U8 (d:=11) ?_ hm (hc:=hp1 _);clear hm;intro _ hm|refine U8 (d:=13) ?_ hm (hc:=hp2 _);clear hm;intro _ hm|refine X5 (d:=15) (s:=[99,104,97,110,32,99,58,32]) (u:=pt) ?_ (h:=by simp only[E9,List.length_nil];omega)|refine X5 (d:=16) (s:=[99,104,97,110,32,99,58,32]++pt) (u:=[59,10,102,110,32,102,40,120,58,32]) ?_ (h:=by simp only[D9,E9,List.length_nil];omega)|refine X5 (d:=18) (s:=[99,104,97,110,32,99,58,32]++pt++ [59,10,102,110,32,102,40,120,58,32]) (u:=pf) ?_ (h:=by simp only[D9,E9,List.length_nil];omega)|refine X5 (d:=19) (s:=[99,104,97,110,32,99,58,32]++pt++ [59,10,102,110,32,102,40,120,58,32]++pf) (u:=[41,58,32,123,125,32,115,101,110,100,115,32,99,32,123,10]) ?_ (h:=by simp only[D9,E9,List.length_nil];omega)|refine X5 (d:=22) (s:=[99,104,97,110,32,99,58,32]++pt++ [59,10,102,110,32,102,40,120,58,32]++pf++ [41,58,32,123,125,32,115,101,110,100,115,32,99,32,123,10]) (u:=[32,32,105,102,32,120,32,123,32,104,40,41,59,32,125,10]) ?_ (h:=by simp only[D9,E9,List.length_nil];omega)|refine X5 (d:=44) (s:=[99,104,97,110,32,99,58,32]++pt++ [59,10,102,110,32,102,40,120,58,32]++pf++ [41,58,32,123,125,32,115,101,110,100,115,32,99,32,123,10]++ [32,32,105,102,32,120,32,123,32,104,40,41,59,32,125,10]) (u:=[125,10,102,110,32,103,40,121,58,32]) ?_ (h:=by simp only[D9,E9,List.length_nil];omega)|refine X5 (d:=46) (s:=[99,104,97,110,32,99,58,32]++pt++ [59,10,102,110,32,102,40,120,58,32]++pf++ [41,58,32,123,125,32,115,101,110,100,115,32,99,32,123,10]++ [32,32,105,102,32,120,32,123,32,104,40,41,59,32,125,10]++ [125,10,102,110,32,103,40,121,58,32]) (u:=pt) ?_ (h:=by simp only[D9,E9,List.length_nil];omega)|refine X5 (d:=47) (s:=[99,104,97,110,32,99,58,32]++pt++ [59,10,102,110,32,102,40,120,58,32]++pf++ [41,58,32,123,125,32,115,101,110,100,115,32,99,32,123,10]++ [32,32,105,102,32,120,32,123,32,104,40,41,59,32,125,10]++ [125,10,102,110,32,103,40,121,58,32]++pt) (u:=[41,58,32,123,125,32,115,101,110,100,115,32,99,32,123,32,115,101,110,100,32,99,32,121,59,32,125,10,102,110,32,104,40,41,58,32,123,125,32,115,101,110,100,115,32,99,32,123,32,115,101,110,100,32,99,32,53,59,32,125]) ?_ (h:=by simp only[D9,E9,List.length_nil];omega)|refine D8 ?_|refine D6 ?_|refine O6 ?_|refine E5 ?_|refine A7 ?_|refine D7 ?_|refine E8 ?_|refine A8 ?_|refine F6 ?_|refine J3 ?_|refine J7 ?_|refine F7 ?_)
  exact⟨I,[],⟨rfl,rfl⟩,hm⟩
structure LkX where
 k:Nat
 H:List HItem
theorem sp_tleak (a b c:Int) (I:P8) (hC:Conv I) (_:B1I I):
  CalM prog 8 #[.int .i64 a,.int .i64 b,.int .i64 c] I [] (fun v _ H'=>v=.bool true/\H'= []):=by
 refine CalM.of fun w E hm=>enter (N:=59) func8 rfl [(0,.int .i64 a),(1,.int .i64 b),(2,.int .i64 c)] A4x rfl ?_
 have hAl:=D2I I hC;have hR1:=C0q a;have hR2:=C0q b;by_cases ha:0<=a/\a<=255
 case neg=>
  rw[decide_eq_false ha]at hR1;repeat' (first|refine F8 (d:=12) ?_ hm (hp:=pm0) (hc:=hAl);clear hm;rintro _ I1 _ _ ⟨rfl,rfl⟩ hleI1 hm;try simp only[G5]at hm|refine A0r (d:=15) (hc:=by exact hR1 _) (k:=?_);rintro _ _ ⟨rfl,rfl⟩|refine D8 ?_|refine D6 ?_|refine O0 ?_|refine A0h ?_|refine A0z ?_|refine E5 ?_|refine A7 ?_|refine H8 ?_|refine E8 ?_|refine A8 ?_|refine G7 ?_|refine J3 ?_|refine J7 ?_|refine H5 ?_|refine F7 ?_)
  all_goals exact⟨I1,[],⟨rfl,rfl⟩,hm.left (H:= [])⟩
 rw[decide_eq_true ha]at hR1;by_cases hb:0<=b/\b<=255
 case neg=>
  rw[decide_eq_false hb]at hR2;repeat' (first|refine F8 (d:=12) ?_ hm (hp:=pm0) (hc:=hAl);clear hm;rintro _ I1 _ _ ⟨rfl,rfl⟩ hleI1 hm;try simp only[G5]at hm|refine A0r (d:=15) (hc:=by exact hR1 _) (k:=?_);rintro _ _ ⟨rfl,rfl⟩|refine A0r (d:=19) (hc:=by exact hR2 _) (k:=?_);rintro _ _ ⟨rfl,rfl⟩|refine D8 ?_|refine D6 ?_|refine O0 ?_|refine N7 ?_|refine A0h ?_|refine A0z ?_|refine E5 ?_|refine A7 ?_|refine H8 ?_|refine E8 ?_|refine A8 ?_|refine G7 ?_|refine J3 ?_|refine J7 ?_|refine H5 ?_|refine F7 ?_)
  all_goals exact⟨I1,[],⟨rfl,rfl⟩,hm.left (H:= [])⟩
 rw[decide_eq_true hb]at hR2;by_cases hc:c<0\/5<c
 ·skip
  repeat' (first|refine F8 (d:=12) ?_ hm (hp:=pm0) (hc:=hAl);clear hm;rintro _ I1 _ _ ⟨rfl,rfl⟩ hleI1 hm;try simp only[G5]at hm|refine A0r (d:=15) (hc:=by exact hR1 _) (k:=?_);rintro _ _ ⟨rfl,rfl⟩|refine A0r (d:=19) (hc:=by exact hR2 _) (k:=?_);rintro _ _ ⟨rfl,rfl⟩|refine D8 ?_|refine D6 ?_|refine O0 ?_|refine N7 ?_|refine J8 ?_|refine A1H ?_|refine A0h ?_|refine A0z ?_|(refine O3 (h1:=fun _=>?_) (h0:=fun _=>?_)<;>try first|contradiction|omega)|refine E5 ?_|refine A7 ?_|refine H8 ?_|refine E8 ?_|refine A8 ?_|refine G7 ?_|refine J3 ?_|refine J7 ?_|refine H5 ?_|refine F7 ?_|(refine C9 (ht:=fun _=>?_) (hf:=fun _=>?_)<;>try first|contradiction|omega))
  all_goals exact⟨I1,[],⟨rfl,rfl⟩,hm.left (H:= [])⟩
 have c0:¬c<0:=fun h=>hc (.inl h)
 have c5:¬5<c:=fun h=>hc (.inr h)
 obtain⟨fr,rfl⟩:=A49 ha.1;obtain⟨tt,rfl⟩:=A49 hb.1;have hf:fr<256:=by omega
 have ht:tt<256:=by omega
 have hS:=fun (J:P8)=>D2K fr tt hf ht c (by omega) (by omega) J
 obtain⟨e0,e9,eF⟩:=D1i hf ht (w:=c) (by omega) (by omega);have hl4:=B9A hf ht (w:=c);have hFl:=B34 fr tt hf ht;have hF:=fun (J:P8) (m:Le I J)=>A9R (A8n fr tt c) J (hC.le m) (by omega)
 have hA:=A8q e0;have few:=A7a (A8n fr tt c);rw[e0]at hF;generalize G8 (A8n fr tt c)=its at hF hA e9 eF few;generalize A8n fr tt c=tx at hS hF hA;have hD:=fun (J:P8) (x y z) (h:FE J its x y z)=>B5Z J h hA
 have hdl:=B4W hA its.length (H7 _);rw[show A7s its its.length=A3H its from rfl]at hdl;generalize A3H its=ds at hD e9 eF hdl;generalize A1i fr tt=fl at hFl eF;repeat' (first|refine F8 (d:=12) ?_ hm (hp:=pm0) (hc:=hAl);clear hm;rintro _ I1 _ _ ⟨rfl,rfl⟩ hleI1 hm;try simp only[G5]at hm|refine A0r (d:=15) (hc:=by exact hR1 _) (k:=?_);rintro _ _ ⟨rfl,rfl⟩|refine A0r (d:=19) (hc:=by exact hR2 _) (k:=?_);rintro _ _ ⟨rfl,rfl⟩|refine F8 (d:=34) ?_ hm (hp:=pm0) (hc:=hS I1);clear hm;rintro _ I2 _ _ ⟨rfl,rfl⟩ hleI2 hm;try simp only[G5]at hm|refine F8 (d:=35) ?_ hm (hp:=pm0) (hc:=hF I2 (hleI1.trans hleI2));clear hm;rintro _ I3 _ _ ⟨xa,xc,xs,rfl,hrow,hits,rfl⟩ hleI3 hm;try simp only[G5]at hm;have q3:=A7Y hrow hits few|refine F8 (d:=41) ?_ hm (hp:=pm0) (hc:=hD I3 _ _ _ q3);clear hm;rintro _ I4 _ _ ⟨rfl,da,dp,rfl,hdr⟩ hleI4 hm;try simp only[G5]at hm|refine Y2 (d:=7) ?_ hm;clear hm;intro b7 _ hm|refine Q7 ?_ hm|refine D8 ?_|refine D6 ?_|refine N7 ?_|refine J8 ?_|refine A1H ?_|refine A0w ?_|refine G6 ?_|refine A0h ?_|refine Y8 ?_|(refine O3 (h1:=fun _=>?_) (h0:=fun _=>?_)<;>try first|contradiction|omega)|refine E5 ?_|refine A7 ?_|refine E8 ?_|refine A8 ?_|refine F6 ?_|refine G7 ?_|refine F7 ?_|(refine C9 (ht:=fun _=>?_) (hf:=fun _=>?_)<;>try first|contradiction|omega))
 refine U3 (fun x:LkX=> [(0,nt fr),(1,nt tt),(9,.slice da ds.length dp),(42,.slice da ds.length dp),(43,nt ds.length),(44,nt x.k)])
  (fun x w'=>Mem E I4 x.H w'/\x.k<=ds.length) (fun x=>ds.length-x.k) ⟨0,_⟩ (by exact⟨rfl,rfl,rfl,rfl,rfl,rfl,trivial⟩) ⟨hm,H9 _⟩ ?_
 clear hm;rintro⟨k,H⟩ w4 ⟨hm,hk⟩;dsimp only at hm hk |-;by_cases hlt:k<ds.length
 ·have hg:ds[k]?=some ds[k]:=F9 hlt
  have h9:=e9 _ (O1 hlt);generalize ds[k]=d at hg h9;repeat' (first|refine Q4 (d:=46) (enc:=B1u) (z:=d) ?_ (hr:=hdr) (he:=fun _=>rfl) (hz:=by exact hg);intro bz oz hpz;unfold B1u at hpz;rw[h9]at hpz|refine Y2 (d:=11) ?_ hm;clear hm;intro b11 _ hm|refine J6 ?_ hm|refine U0 ?_ hm|refine D8 ?_|refine J8 ?_|refine A0w ?_|refine O9 ?_|refine D5 ?_|refine E5 ?_|refine A7 ?_|refine D7 ?_|refine E8 ?_|refine A8 ?_|refine F6 ?_|refine G7 ?_|refine F7 ?_|(refine C9 (ht:=fun _=>?_) (hf:=fun _=>?_)<;>try first|contradiction|omega))
  exact L6 (⟨k+1,_⟩:LkX) (by exact⟨rfl,rfl,rfl,rfl,rfl,rfl,trivial⟩) ⟨hm,by dsimp only;omega⟩ (by dsimp only;omega)
 obtain rfl:k=ds.length:=by omega
 repeat' (first|refine A0r (d:=57) (hc:=by exact hFl _) (k:=?_);rintro _ _ ⟨rfl,rfl⟩|refine D8 ?_|refine D6 ?_|refine J8 ?_|refine O6 ?_|refine C3n ?_|refine G6 ?_|refine E5 ?_|refine A7 ?_|refine H6 ?_|refine G9 ?_|refine E8 ?_|refine A8 ?_|refine O8 ?_|refine J3 ?_|refine J7 ?_|(refine C9 (ht:=fun _=>?_) (hf:=fun _=>?_)<;>try first|contradiction|omega))
 refine⟨I4,[],⟨?_,rfl⟩,Mem.right (H:=H) (R:= []) (by rw[J4];exact hm)⟩
 congr 1
 cases fl with
 |true=>
  have h0:=eF.2 rfl;simp[h0]
 |false=>
  have h0:ds.length≠0:=fun h=>by
   have:=eF.1 h;cases this
  simp[h0]
end Go.Proofs
