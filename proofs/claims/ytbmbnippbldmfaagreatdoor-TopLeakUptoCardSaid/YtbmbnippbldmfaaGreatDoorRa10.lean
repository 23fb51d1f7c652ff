/- Own work. -/
import Derived.Test.YtbmbnippbldmfaaGreatDoorRa9
set_option maxHeartbeats 64000000
namespace Go.Fw
open Go.Sp
open Go
abbrev A5R (k:Int):Value:=.int .i64 k
abbrev A1U:=List (Int×Value)
def A2R (es:A1U) (n:Nat):List MapEntry:=(es.zipIdx n).map (fun p=> { key:=A5R p.1.1,val:=p.1.2,born:=p.2})
structure MapAtZ (w:World) (b:Nat) (es:A1U):Prop where
 out:w.heap[b]?=some (.map (A2R es 0).toArray es.length)
 nodup:(es.map (·.1)).Nodup
theorem B9l (s:Int):∀(es:A1U) (n m:Nat),Instr.findNow (.int .i64) (A5R s) (A2R es n) m=some ((es.findIdx? (fun p=>decide (p.1=s))).bind (fun i=>(es[i]?).map (fun p=>(m+i,p.2))))
 | [],n,m=>rfl
 |(u,v)::es,n,m=>by
  have ih:=B9l s es (n+1) (m+1);simp only[A2R,List.zipIdx_cons,U4,Instr.findNow,Instr.sameNow,if_true]at ih |-;have e1:(s==u)=decide (u=s):=by
   rw[A06];constructor
   ·intro h
    exact decide_eq_true (by simpa using h:s=u).symm
   ·intro h
    rw[of_decide_eq_true h];simp
  rw[e1,A6J];cases hd:decide (u=s) with
  |true=>simp
  |false=>
   simp only
   rw[ih]
   congr 1
   cases hf:es.findIdx? (fun p=>decide (p.1=s)) with
   |none=>simp
   |some i=>simp[A2T,Nat.add_left_comm]
section
variable {P:Program}{N:Nat}{ds:List Deferred}{Q:Exit->Act->World->Prop}{l l':Log}{w w':World}{ops:Array Oper}{os:List Oper}{o:Oper}
variable {d:Nat}{ty:TypeId}{pos:String}{af:Array Edge}{g:Option (Nat×Bool)}{t t':TypeId}{x y z:Operand}{E:Ent}{I:P8}{H:List HItem}
def A8Z (es:A1U) (s:Int) (z:Value):Value:=((es.find? (fun p=>decide (p.1=s))).map (·.2)).getD z
theorem C8x (es:A1U) (s:Int):(es.findIdx? (fun p=>decide (p.1=s))).bind (fun i=>(es[i]?).map (·.2))=(es.find? (fun p=>decide (p.1=s))).map (·.2):=by
 induction es with
 |nil=>rfl
 |cons p es ih=>
  rw[A6J,A4a];cases hd:decide (p.1=s) with
  |true=>simp
  |false=>
   simp only[A3A,if_false];rw[<-ih];cases es.findIdx? (fun p=>decide (p.1=s))<;>simp
theorem A8w {kt:TypeId} (hk:P.underlying kt=some (.int .i64)) (s:Int) (es:A1U) (n:Nat):
  (Instr.findKey kt (A5R s) (A2R es n)).run P w=.ok ((es.findIdx? (fun p=>decide (p.1=s))).bind (fun i=>(es[i]?).map (fun p=>(0+i,p.2)))) w:=by
 have h1:=run_underlying (P:=P) (w:=w) hk;simp only[Instr.findKey,Sem.run_bind,h1,Result.andThen_ok,B9l];simp
theorem A7V {kt:TypeId} (hk:P.underlying kt=some (.int .i64)) (s:Int) (b:Bool):(Instr.checkKey b 10000 kt (A5R s)).run P w=.ok () w:=by
 have h1:=run_underlying (P:=P) (w:=w) hk;show (Instr.checkKey b (9999+1) kt (A5R s)).run P w=.ok () w
 rw[Instr.checkKey];simp[h1]
theorem C5E {kt et:TypeId} [TyMap P t kt et] [TyInt P kt .i64] {b:Nat}{es:A1U}{s:Int}{v:Value}{dst:Option Nat} (hd:dst=none) (hw:X9 ops l ⟨dst,.insert t x y z,ty,pos,af,g⟩=some true)
  (hx:ev l x=some (.map (some b))) (hy:ev l y=some (A5R s)) (hz:ev l z=some v) (hm:MapAtZ w b es) (hs:(es.map (·.1)).contains s=false)
  (k:∀w',MapAtZ w' b (es++ [(s,v)])->Kept [b] w w'->WL P N ds ops Q os l w'):
  WL P N ds ops Q (⟨dst,.insert t x y z,ty,pos,af,g⟩::os) l w:=
 B6e hw fun a ha=>by
  have h1:=run_underlying (P:=P) (w:=w) (TyMap.out (P:=P) (t:=t));have hk:=TyInt.out (P:=P) (t:=kt);have h2:=A8w (P:=P) (w:=w) hk s es 0;have h3:=A7V (P:=P) (w:=w) hk s false;have h4:=MapKept.run_getObj_map (P:=P) hm.out;have hnone:es.findIdx? (fun p=>decide (p.1=s))=none:=by
   rw[A4m];intro p hp;have:s∉es.map (·.1):=by
    intro hc;rw[A3l.2 hc]at hs;cases hs
   simp only[decide_eq_false_iff_not];rintro rfl;exact this (A4r hp)
  subst hd;rw[hnone]at h2;have h5:=fun o'=>MapKept.run_setObj_map (P:=P) o' hm.out
  have e1:(A2R (es++ [(s,v)]) 0).toArray=(A2R es 0).toArray.push { key:=A5R s,val:=v,born:=es.length}:=by
   simp[A2R,List.zipIdx_append]
  have hlt:=A3n hm.out;simp only[Oper.wp,execOp,Instr.mapUpdate,ha.ev hx,ha.ev hy,ha.ev hz,Sem.run_bind,h1,Result.andThen_ok,h4,h3,h2,Option.bind_none,h5,Oper.upon_skip,Act.put,Sem.run_pure];refine(k { w with heap:=w.heap.setIfInBounds b (.map ((A2R es 0).toArray.push { key:=A5R s,val:=v,born:=es.length}) (es.length+1))} ⟨?_,?_⟩ ⟨rfl,rfl,rfl,by simp,fun i hi hx=>?_⟩).run _ ha
  ·rw[e1,D9]
   simp[hlt]
  ·rw[V5,A6K]
   refine⟨hm.nodup,by simp,fun a h1 b h2=>?_⟩
   simp only[U4,A5K,A0q]at h2;subst h2;rintro rfl;rw[A3l.2 h1]at hs;cases hs
  ·have:b≠i:=by rintro rfl;simp at hx
   simp[A5Z this]
theorem A9z {kt et:TypeId} [TyMap P t kt et] [TyInt P kt .i64] {b:Nat}{es:A1U}{s:Int}{zv:Value}{a:Act} (ha:Fits N ds l a)
  (hx:ev l x=some (.map (some b))) (hy:ev l y=some (A5R s)) (hm:w.heap[b]?=some (.map (A2R es 0).toArray es.length)) (hz:∀w,(zeroValue et).run P w=.ok zv w):
  (execOp a.eval ⟨some d,.lookup t x y false,ty,pos,af,g⟩).run P w=.ok (.value (A8Z es s zv)) w:=by
 have h1:=run_underlying (P:=P) (w:=w) (TyMap.out (P:=P) (t:=t));have hk:=TyInt.out (P:=P) (t:=kt);have h2:=A8w (P:=P) (w:=w) hk s es 0;have h3:=fun b=>A7V (P:=P) (w:=w) hk s b
 have h4:=MapKept.run_getObj_map (P:=P) hm;have h5:=C8x es s;rw[A8Z, <-h5];cases hf:es.findIdx? (fun p=>decide (p.1=s)) with
 |none=>
  rw[hf]at h2;simp[execOp,Instr.lookup,ha.ev hx,ha.ev hy,h1,h4,h3,h2,hz]
 |some i=>
  rw[hf]at h2;have hi:i<es.length:=by
   have:=A3k.1 hf;exact this.1
  have hg:es[i]?=some es[i]:=F9 hi;simp only[A2i,hg,A1g]at h2;simp[execOp,Instr.lookup,ha.ev hx,ha.ev hy,h1,h4,h3,h2,hg]
abbrev HItem.mz (b:Nat) (es:A1U):HItem:=.obj b (.map (A2R es 0).toArray es.length)
def A4A (es:A1U) (s:Int) (v:Value):A1U:=match es.findIdx? (fun p=>decide (p.1=s)) with
 |some i=>es.set i (s,v)
 |none=>es++ [(s,v)]
theorem B0z (es:A1U) (i:Nat) (s:Int) (v:Value):(A2R es 0).toArray.modify i (fun e=> { e with key:=A5R s,val:=v})=(A2R (es.set i (s,v)) 0).toArray:=by
 apply A8U
 intro j;rw[A4o];simp only[A2R,A4n,Y6,A7E,A25];by_cases h:i=j
 ·subst h
  rw[if_pos rfl,if_pos rfl];by_cases h2:i<es.length
  ·rw[if_pos h2,F9 h2];rfl
  ·rw[if_neg h2,A1n (by omega)];rfl
 ·rw[if_neg h,if_neg h]
theorem C8V {es:A1U}{s:Int}{v:Value}{p:Int×Value} (h:p∈A4A es s v):p∈es\/p=(s,v):=by
 rw[A4A]at h;split at h
 ·rcases List.mem_or_eq_of_mem_set h with h|h
  ·exact .inl h
  ·exact .inr h
 ·rcases Y5.1 h with h|h
  ·exact .inl h
  ·exact .inr (A0q.1 h)
theorem C5u {es:A1U}{s:Int}{v:Value} (u:Int):u∈(A4A es s v).map (·.1)↔u∈es.map (·.1)\/u=s:=by
 rw[A4A];cases hf:es.findIdx? (fun p=>decide (p.1=s)) with
 |some i=>
  obtain⟨hi,hs,_⟩:=A3k.1 hf;have hs':es[i].1=s:=by simpa using hs
  have:(es.set i (s,v)).map (·.1)=es.map (·.1):=by
   apply A3B
   intro j;simp only[Y6,A25];split
   ·rename_i h
    subst h;rw[F9 hi];simp[hs']
   ·rfl
  dsimp only
  rw[this];constructor
  ·exact .inl
  ·rintro(h|h)
   ·exact h
   ·subst h;rw[<-hs'];exact A4r (O1 hi)
 |none=>simp
theorem B5V {es:A1U}{s:Int}{v:Value} (h:(es.map (·.1)).Nodup):((A4A es s v).map (·.1)).Nodup:=by
 rw[A4A];cases hf:es.findIdx? (fun p=>decide (p.1=s)) with
 |some i=>
  obtain⟨hi,hs,_⟩:=A3k.1 hf;have hs':es[i].1=s:=by simpa using hs
  have:(es.set i (s,v)).map (·.1)=es.map (·.1):=by
   apply A3B
   intro j;simp only[Y6,A25];split
   ·rename_i h
    subst h;rw[F9 hi];simp[hs']
   ·rfl
  dsimp only
  rw[this];exact h
 |none=>
  dsimp only
  rw[V5,A6K];refine⟨h,by simp,fun a h1 b h2=>?_⟩
  simp only[U4,A5K,A0q]at h2;subst h2;rintro rfl;obtain⟨p,hp,hps⟩:=Y7.1 h1;have:=A4m.1 hf p hp;simp[hps]at this
def B1A (es:A1U) (s:Int):Option Value:=(es.find? (fun p=>decide (p.1=s))).map (·.2)
theorem C0T {es:A1U}{s:Int}{v:Value} (n:Int) (h:B1A es s=none):B1A (es++ [(s,v)]) n=if n=s then some v else B1A es n:=by
 simp only[B1A]at h |-;rw[List.find?_append];by_cases e:n=s
 ·subst e
  rw[if_pos rfl,Option.map_eq_none_iff.1 h];simp
 ·rw[if_neg e]
  cases hf:es.find? (fun p=>decide (p.1=n)) with
  |some p=>rfl
  |none=>simp[Ne.symm e]
theorem B9E:∀ {es:A1U}{i:Nat}{s:Int}{v:Value} (n:Int),(es.map (·.1)).Nodup->(∃c,es[i]?=some (s,c))->B1A (es.set i (s,v)) n=if n=s then some v else B1A es n
 | [],i,s,v,n,_,h=>by obtain⟨_,h⟩:=h;simp at h
 |(a,c)::es,0,s,v,n,_,h=>by
  obtain⟨_,h⟩:=h;simp only[A08,X4,Prod.mk.injEq]at h;obtain⟨rfl,_⟩:=h;simp only[B1A,B0Q,A4a];by_cases e:n=a
  ·subst e;simp
  ·rw[if_neg e,decide_eq_false (Ne.symm e)]
 |(a,c)::es,i+1,s,v,n,hn,h=>by
  obtain⟨c',h⟩:=h;rw[A02]at h;rw[U4,A74]at hn;have ih:=B9E (v:=v) n hn.2 ⟨c',h⟩;have has:a≠s:=by
   rintro rfl;exact hn.1 (A4r (f:=(·.1)) (A03 h))
  simp only[B1A,B0P,A4a]at ih |-;by_cases e:a=n
  ·subst e
   rw[decide_eq_true rfl,if_neg has]
  ·rw[decide_eq_false e]
   exact ih
theorem C5r {es:A1U}{s:Int}{v:Value} (n:Int) (hn:(es.map (·.1)).Nodup):B1A (A4A es s v) n=if n=s then some v else B1A es n:=by
 rw[A4A];cases hf:es.findIdx? (fun p=>decide (p.1=s)) with
 |some i=>
  obtain⟨hi,hs,_⟩:=A3k.1 hf;have hs':es[i].1=s:=by simpa using hs
  exact B9E n hn ⟨es[i].2,by rw[F9 hi, <-hs']⟩
 |none=>
  refine C0T n ?_
  rw[A4m]at hf;simp only[B1A,Option.map_eq_none_iff,List.find?_eq_none];intro p hp;simpa using hf p hp
end
section
variable {P:Program}{N:Nat}{ds:List Deferred}{Q:Exit->Act->World->Prop}{K:Act->World->Prop}{KV:Act->Prop}{l:Log}{w w0:World}{ops:Array Oper}{os os' tail:List Oper}{X:List Nat}
variable {d:Nat}{ty:TypeId}{pos:String}{af:Array Edge}{g:Option (Nat×Bool)}{t:TypeId}{x y z:Operand}{E:Ent}{I I0:P8}{H G R:List HItem}{n f:Nat}{listed:Array Bool}
end
def B8T (I:P8) (b:Nat) (es:A1U):Prop:=I b=some (.map (A2R es 0).toArray es.length)
theorem B8T.le {I I':P8}{b:Nat}{es:A1U} (h:B8T I b es) (hl:Le I I'):B8T I' b es:=hl _ _ h
section
variable {P:Program}{N:Nat}{ds:List Deferred}{Q:Exit->Act->World->Prop}{K:Act->World->Prop}{KV:Act->Prop}{l:Log}{w w0:World}{ops:Array Oper}{os tail:List Oper}{X:List Nat}
variable {d:Nat}{ty:TypeId}{pos:String}{af:Array Edge}{g:Option (Nat×Bool)}{t:TypeId}{x y:Operand}{E:Ent}{I I0:P8}{H G R:List HItem}{n f:Nat}{listed:Array Bool}
theorem B4R {i off:Nat} [Fld P t i off] {b o':Nat} (hC:Kept X w0 w) (hw:X9 ops l ⟨some d,.fieldAddr t x i,ty,pos,af,g⟩=some true) (hN:Nat.blt d N=true)
  (hx:ev l x=some (.pointer (some ⟨b,o',none⟩))) (k:WA P N ds ops Q X w0 n f listed tail ((d,.pointer (some ⟨b,o'+off,none⟩))::l) w):
  WU P N ds ops Q X w0 n f listed tail ⟨some d,.fieldAddr t x i,ty,pos,af,g⟩ l w:=
 A6w rfl hw hN (fun a ha=>by
  obtain⟨fs,f,inf,h1,h2,h3,h4,h5⟩:=Fld.out (P:=P) (t:=t) (i:=i);have h6:=run_underlying (P:=P) (w:=w) h1;simp[execOp,Instr.fieldAt,Instr.sureAddr,ha.ev hx,h6,h2,fieldPlace,sizeOf,typeInfo,h4,h5,h3,Addr.add_lit]) hC k
theorem B9X [TyOne P t] {a:Act} (ha:Fits N ds l a) {b off:Nat}{c:Array Value}{e:TypeId}{fr:Nat×Nat}{v:Value} (hx:ev l x=some (.pointer (some ⟨b,off,none⟩))) (hb:w.heap[b]?=some (.cells c e fr)) (hc:c[off]?=some v):
  (execOp a.eval ⟨some d,.load t x,ty,pos,af,g⟩).run P w=.ok (.value v) w:=by
 obtain⟨dd,h1,h2⟩:=TyOne.out (P:=P) (t:=t);have h4:=A3I hb hc;simp[execOp,Instr.loadAt,Instr.sureAddr,loadVar,A55 h1,h2,ha.ev hx,load,Sem.run,h4]
theorem D1x [TyOne P t] {i b off:Nat}{c:List Value}{e:TypeId}{fr:Nat×Nat}{v:Value} (hm:Mem ⟨w0,X,I0⟩ I H w) (hw:X9 ops l ⟨some d,.load t x,ty,pos,af,g⟩=some true) (hN:Nat.blt d N=true)
  (hx:ev l x=some (.pointer (some ⟨b,off,none⟩))) (hb:H[i]?=some (.obj b (.cells c.toArray e fr))) (hc:c[off]?=some v)
  (k:WA P N ds ops Q X w0 n f listed tail ((d,v)::l) w):WU P N ds ops Q X w0 n f listed tail ⟨some d,.load t x,ty,pos,af,g⟩ l w:=
 A6w rfl hw hN (fun a ha=>B9X ha hx (hm.get hb) (by simpa using hc)) hm.kept k
theorem B5l {i b off by_:Nat} [Elem P t 1 by_] {c:List Value}{e:TypeId}{v:Value}{dst:Option Nat} (hm:Mem ⟨w0,X,I0⟩ I H w) (hd:dst=none) (hw:X9 ops l ⟨dst,.store t x y,ty,pos,af,g⟩=some true)
  (hx:ev l x=some (.pointer (some ⟨b,off,none⟩))) (hy:ev l y=some v) (hb:H[i]?=some (.obj b (.cells c.toArray e (0,0)))) (hn:v.cells.toList= [v]) (ho:Nat.blt off c.length=true) (h1:v.oneCell'=true)
  (k:∀w',Mem ⟨w0,X,I0⟩ I (H.set i (.obj b (.cells (c.set off v).toArray e (0,0)))) w'->WA P N ds ops Q X w0 n f listed tail l w'):
  WU P N ds ops Q X w0 n f listed tail ⟨dst,.store t x y,ty,pos,af,g⟩ l w:=by
 subst hd;have hget:=hm.get hb;have hlt:off<c.length:=by simpa[A2U] using ho
 have h2:=A8x (P:=P) (t:=t) (off:=off) (n:=1) v hget (by rw[<-A5b,hn];rfl) (by simp;omega) (by rw[hn];simp[h1]);generalize hc':(c.toArray.toList.take off++v.cells.toList++c.toArray.toList.drop (off+1)).toArray=c' at h2;have e0:c'=(c.set off v).toArray:=by
  rw[<-hc',hn, <-C7Q ho,J5]
 rw[e0]at h2;have hk:Kept [b] w (w.setRow b (c.set off v).toArray):=Kept.setRow hget _;have hm':=hm.turn (h':=.obj b (.cells (c.set off v).toArray e (0,0))) hb (by simpa[HItem.blk] using hk) (by
  show (w.setRow b (c.set off v).toArray).heap[b]?=_
  rw[setRow_heap w b c.toArray _ e (0,0) hget]) (.inl rfl)
 refine B6K rfl hw (fun a ha=>?_) hm'.kept (k _ hm')
 simp only[execOp,Instr.storeAt,Instr.sureAddr,ha.ev hx,ha.ev hy,Sem.run_bind,Sem.run_pure,Result.andThen,h2]
end
def D0Y (ops:Array Oper) (n:Nat) (listed:Array Bool):Bool:=
 decide (listed.size=ops.size) && ((List.range ops.size).all (fun j=> !listed.getD j false||(match ops[j]? with|some o=>o.after.all (fun e=> !Region.binds .any e||listed.getD e.on false)|none=>true)) && (List.range ops.size).all (fun t=>Nat.blt t n|| !listed.getD t true))
theorem C43 {ops:Array Oper}{n:Nat}{listed:Array Bool} (h:D0Y ops n listed=true):HeadInv .any ops n listed:=by
 simp only[D0Y,Q3,decide_eq_true_eq,A2O,A1P]at h;obtain⟨h1,h2,h3⟩:=h;refine⟨h1,fun j oj hj hl e he hb=>?_,fun t ht hts=>?_⟩
 ·have:=h2 j (B0c.1 hj).1
  rw[hl,hj]at this;simp only[A78,Bool.false_or,Array.all_eq_true']at this;have:=this e he;rw[hb]at this;simpa using this
 ·have:=h3 t hts
  rw[show Nat.blt t n=false by cases hb:Nat.blt t n with|false=>rfl|true=>rw[A2U]at hb;omega]at this;simpa using this
def D16 (ops:Array Oper) (n f:Nat) (ks:List Nat) (listed:Array Bool):Bool:=
 Region.noSelect ops && decide (n<ops.size) && Region.sinkB .any ops n && Region.chainB .any ops n && D0Y ops n listed && C26 .any ops n ks listed && Nat.ble ks.length f && ks.all (fun k=>Nat.blt k ops.size)
section
variable {P:Program}{N:Nat}{ds:List Deferred}{X:List Nat}{Q:Exit->Act->World->Prop}{l:Log}{w w' w0:World}{os tail:List Oper}{ops:Array Oper}{E:Ent}{I I0:P8}{G R H:List HItem}{o:Oper}
variable {d:Nat}{ty:TypeId}{pos:String}{af:Array Edge}{g:Option (Nat×Bool)}{t t':TypeId}{x y z:Operand}{n f:Nat}{listed:Array Bool}
theorem A7n (ks:List Nat) (hB:D16 ops n f ks listed=true) (hk:Kept X w0 w)
  (h:WV P N ds ops X w0 (fun a'=>B4X P .any ops (fun w'=>Kept X w0 w') n (fun listed' a' w'=>Region.seqB .any ops (ops.size-n) n listed'=true/\wpList P ops Q tail a' w') (f-ks.length) (C27 ks listed) a' w) (A4C ops.toList ks) l):WA P N ds ops Q X w0 n f listed tail l w:=by
 simp only[D16,Q3,decide_eq_true_eq]at hB;obtain⟨⟨⟨⟨⟨⟨⟨hsel,hn⟩,hs⟩,hc⟩,hh⟩,hlex⟩,hlen⟩,hks⟩:=hB;obtain⟨k1,k2⟩:=A54 ops.toList ks (by simpa using hks);refine⟨fun a ha=>?_⟩
 have H:=B3q (md:=.any) (g:=ops.size-n) (f:=f-ks.length) hsel hs hc hn ks (A4C ops.toList ks) listed a w hk (by simpa using k1) (C43 hh) hlex (h.run a ha);rw[k2,show ks.length+(f-ks.length)=f by have:=A4q hlen;omega]at H;exact H
theorem A9F {n f:Nat}{listed:Array Bool} (h:WA P N ds ops Q X w0 n f listed tail l w):
  WV P N ds ops X w0 (fun a'=>B4X P .any ops (fun w'=>Kept X w0 w') n (fun listed' a' w'=>Region.seqB .any ops (ops.size-n) n listed'=true/\wpList P ops Q tail a' w') f listed a' w) [] l:=⟨fun a ha=>h.run a ha⟩
end
end Go.Fw
namespace Go.Sp
def C0G (k:Int) (n:List UInt8) (it:Itm):Bool:=decide ((it.kind:Int)=k) && (decide (it.name=n) && decide (n≠ []))
def A0M (its:List Itm) (k:Int) (n:List UInt8):Option Nat:=its.findIdx? (C0G k n)
structure Lc where
 name:List UInt8
 at_:Nat
structure Us where
 fr:Int
 to:Int
 df:Int
 deriving DecidableEq
structure NW where
 ds:List Dg
 us:List Us
def NW.tell (s:NW) (a e:Nat) (n:List UInt8):NW:= { s with ds:=s.ds++ [⟨a,a+n.length,e,n⟩]}
def NW.use (s:NW) (b:Int) (a:Nat) (n:List UInt8) (d:Int):NW:= { s with us:=s.us++ [⟨b+a,b+a+n.length,d⟩]}
def A1u:List Lc->List UInt8->Option Lc
 | [],_=>none
 |l::sc,n=>match A1u sc n with
  |some x=>some x
  |none=>if l.name=n then some l else none
def D7s:Itm:=⟨0,[],0,[],[],[],0,0,0,[]⟩
def X7 (its:List Itm) (j:Nat):Itm:=its.getD j D7s
def A8i (b:Int) (sc:List Lc) (a:Nat) (n:List UInt8) (s:NW):NW:=match A1u sc n with
 |some l=>s.use b a n (b+l.at_)
 |none=>if n= [] then s else s.tell a 6 n
def A5Y (its:List Itm) (b:Int) (k:Int) (a:Nat) (n:List UInt8) (s:NW):NW:=match A0M its k n with
 |some j=>s.use b a n ((X7 its j).at_+(X7 its j).mark)
 |none=>if n= [] then s else s.tell a 6 n
def A5x (its:List Itm) (b:Int) (a:Nat) (n:List UInt8) (m:Nat) (s:NW):NW:=match A0M its 2 n with
 |some j=>if (X7 its j).params.length≠m then (A5Y its b 2 a n s).tell a 5 n else A5Y its b 2 a n s
 |none=>A5Y its b 2 a n s
def mkN (n:List UInt8) (a:Nat) (sc:List Lc) (s:NW):List Lc×NW:=
 if n= [] then (sc,s) else (sc++ [⟨n,a⟩],match A1u sc n with|some _=>s.tell a 7 n|none=>s)
mutual
def exN (its:List Itm) (b:Int) (sc:List Lc):Ex->NW->NW
 | .mk k nm _ args fr _,s=>A5t its b sc args (if k=2 then A8i b sc fr nm s else if k=4 then A5x its b fr nm args.length s else s)
def A5t (its:List Itm) (b:Int) (sc:List Lc):List Ex->NW->NW
 | [],s=>s
 |e::es,s=>A5t its b sc es (exN its b sc e s)
 end
mutual
def A57 (its:List Itm) (b:Int):Stm->List Lc->NW->List Lc×NW
 | .mk k nm a _ _ e thn els _ _,sc,s=>
  if k=1 then mkN nm a sc (exN its b sc e s) else
  if k=2 then (sc,A8i b sc a nm (exN its b sc e s)) else
  if k=5 then (sc,A5Y its b 1 a nm (exN its b sc e s)) else
  if k=3\/k=4 then (sc,(A1w its b els sc (A1w its b thn sc (exN its b sc e s)).2).2) else (sc,exN its b sc e s)
def A1w (its:List Itm) (b:Int):List Stm->List Lc->NW->List Lc×NW
 | [],sc,s=>(sc,s)
 |x::xs,sc,s=>A1w its b xs (A57 its b x sc s).1 (A57 its b x sc s).2
 end
def A34:List Par->List Lc->NW->List Lc×NW
 | [],sc,s=>(sc,s)
 |p::ps,sc,s=>A34 ps (mkN p.name p.at_ sc s).1 (mkN p.name p.at_ sc s).2
def A56 (its:List Itm) (b:Int) (dn:List Rf) (c:Rf) (s:NW):NW:=
 if c.name≠ []/\dn.any (fun x=>decide (x.name=c.name))=true then (A5Y its b 1 c.at_ c.name s).tell c.at_ 7 c.name else A5Y its b 1 c.at_ c.name s
def A6P (its:List Itm) (b:Int):List Rf->List Rf->NW->NW
 |_,[],s=>s
 |dn,c::cs,s=>A6P its b (dn++ [c]) cs (A56 its b dn c s)
def NW0:NW:=⟨[],[]⟩
def A8p (its:List Itm) (i:Nat) (it:Itm):Bool:=decide (it.kind≠3) && (decide (it.name≠ []) && (its.take i).any (fun x=>decide (x.kind=it.kind) && decide (x.name=it.name)))
def fnN (its:List Itm) (it:Itm) (s:NW):NW:=
 (A1w its it.at_ it.body (A34 it.params [] s).1 (A6P its it.at_ [] it.sends (A34 it.params [] s).2)).2
def A3x (its:List Itm) (i:Nat):NW:=
 if (X7 its i).kind=2 then fnN its (X7 its i) (if A8p its i (X7 its i)=true then NW0.tell (X7 its i).mark 7 (X7 its i).name else NW0)
 else if A8p its i (X7 its i)=true then NW0.tell (X7 its i).mark 7 (X7 its i).name else NW0
def A6R (its:List Itm) (k:Nat):List Us:=(List.range k).flatMap (fun i=>(A3x its i).us)
def A2c (its:List Itm):List Us:=A6R its its.length
def B57 (l:List Us) (at_:Int):Option Us:=l.find? (fun u=>decide (u.fr<=at_) && decide (at_<u.to))
theorem C2u (its:List Itm) (b:Int) (sc:List Lc):∀(l r:List Ex) (s:NW),A5t its b sc (l++r) s=A5t its b sc r (A5t its b sc l s)
 | [],r,s=>by rw[L9,A5t]
 |e::l,r,s=>by rw[Q8,A5t,A5t,C2u its b sc l r]
theorem B96 (its:List Itm) (b:Int):∀(l r:List Stm) (sc:List Lc) (s:NW),A1w its b (l++r) sc s=A1w its b r (A1w its b l sc s).1 (A1w its b l sc s).2
 | [],r,sc,s=>by rw[L9,A1w]
 |e::l,r,sc,s=>by rw[Q8,A1w,A1w,B96 its b l r]
theorem U2 {α:Type}{l:List α}{k:Nat}{x:α} (h:l[k]?=some x):l.take (k+1)=l.take k++ [x]:=by rw[A2N,h];rfl
theorem C8q (its:List Itm) (b:Int) (sc:List Lc) {l:List Ex}{k:Nat}{e:Ex} (h:l[k]?=some e) (s:NW):A5t its b sc (l.take (k+1)) s=exN its b sc e (A5t its b sc (l.take k) s):=by
 rw[U2 h,C2u,A5t,A5t]
theorem C6f (its:List Itm) (b:Int) {l:List Stm}{k:Nat}{x:Stm} (h:l[k]?=some x) (sc:List Lc) (s:NW):
  A1w its b (l.take (k+1)) sc s=A57 its b x (A1w its b (l.take k) sc s).1 (A1w its b (l.take k) sc s).2:=by
 rw[U2 h,B96,A1w,A1w]
theorem C3B:∀(l r:List Par) (sc:List Lc) (s:NW),A34 (l++r) sc s=A34 r (A34 l sc s).1 (A34 l sc s).2
 | [],r,sc,s=>by rw[L9,A34]
 |e::l,r,sc,s=>by rw[Q8,A34,A34,C3B l r]
theorem C9d {l:List Par}{k:Nat}{x:Par} (h:l[k]?=some x) (sc:List Lc) (s:NW):A34 (l.take (k+1)) sc s=mkN x.name x.at_ (A34 (l.take k) sc s).1 (A34 (l.take k) sc s).2:=by
 rw[U2 h,C3B,A34,A34]
theorem C3R (its:List Itm) (b:Int):∀(l r:List Rf) (dn:List Rf) (s:NW),A6P its b dn (l++r) s=A6P its b (dn++l) r (A6P its b dn l s)
 | [],r,dn,s=>by rw[L9,J4,A6P]
 |e::l,r,dn,s=>by rw[Q8,A6P,A6P,C3R its b l r];simp
theorem C9u (its:List Itm) (b:Int) {l:List Rf}{k:Nat}{x:Rf} (h:l[k]?=some x) (s:NW):A6P its b [] (l.take (k+1)) s=A56 its b (l.take k) x (A6P its b [] (l.take k) s):=by
 rw[U2 h,C3R,L9,A6P,A6P]
theorem B1Y (n:List UInt8) (x:Lc):∀(l:List Lc),A1u (l++ [x]) n=if x.name=n then some x else A1u l n
 | []=>by simp[A1u]
 |a::l=>by
  rw[Q8,A1u,B1Y n x l,A1u];split<;>rename_i h
  ·split at h
   ·rename_i h2;rw[if_pos h2];exact h.symm
   ·rename_i h2;rw[if_neg h2,h]
  ·split at h
   ·cases h
   ·rename_i h2;rw[if_neg h2,h]
theorem A8Q {n:List UInt8}{x:Lc}:∀ {l:List Lc},A1u l n=some x->x∈l/\x.name=n
 | [],h=>by cases h
 |a::l,h=>by
  rw[A1u]at h;split at h
  ·rename_i y hy
   obtain rfl:=Z8 h;have:=A8Q hy;exact⟨Z4 _ this.1,this.2⟩
  ·split at h
   ·rename_i hn
    obtain rfl:=Z8 h;exact⟨O4,hn⟩
   ·cases h
def NW.n (s:NW):Nat:=s.ds.length+s.us.length
theorem B3S (s:NW) (a e:Nat) (n:List UInt8):(s.tell a e n).n=s.n+1:=by simp[NW.tell,NW.n];omega
theorem D5V (s:NW) (b:Int) (a:Nat) (n:List UInt8) (d:Int):(s.use b a n d).n=s.n+1:=by simp[NW.use,NW.n];omega
theorem C5n (b:Int) (sc:List Lc) (a:Nat) (n:List UInt8) (s:NW):s.n<=(A8i b sc a n s).n/\(A8i b sc a n s).n<=s.n+1:=by
 rw[A8i];split
 ·rw[D5V];omega
 ·split
  ·omega
  ·rw[B3S];omega
theorem B7D (its:List Itm) (b:Int) (k:Int) (a:Nat) (n:List UInt8) (s:NW):s.n<=(A5Y its b k a n s).n/\(A5Y its b k a n s).n<=s.n+1:=by
 rw[A5Y];split
 ·rw[D5V];omega
 ·split
  ·omega
  ·rw[B3S];omega
theorem C6N (its:List Itm) (b:Int) (a:Nat) (n:List UInt8) (m:Nat) (s:NW):s.n<=(A5x its b a n m s).n/\(A5x its b a n m s).n<=s.n+2:=by
 have:=B7D its b 2 a n s;rw[A5x];split
 ·split
  ·rw[B3S];omega
  ·omega
 ·omega
theorem D5N (n:List UInt8) (a:Nat) (sc:List Lc) (s:NW):s.n<=(mkN n a sc s).2.n/\(mkN n a sc s).2.n<=s.n+1/\sc.length<=(mkN n a sc s).1.length/\(mkN n a sc s).1.length<=sc.length+1:=by
 rw[mkN];split
 ·exact⟨H7 _,by dsimp only;omega,H7 _,by dsimp only;omega⟩
 ·dsimp only
  rw[D9,A0X];split
  ·rw[B3S];omega
  ·omega
mutual
theorem D0z (its:List Itm) (b:Int) (sc:List Lc):∀(e:Ex) (s:NW),s.n<=(exN its b sc e s).n/\(exN its b sc e s).n<=s.n+2 *e.cnt
 | .mk k nm n args fr to,s=>by
  rw[exN,Ex.cnt];have h1:=C5n b sc fr nm s;have h2:=C6N its b fr nm args.length s;have h3:=C4P its b sc args (if k=2 then A8i b sc fr nm s else if k=4 then A5x its b fr nm args.length s else s);generalize hq:(if k=2 then A8i b sc fr nm s else if k=4 then A5x its b fr nm args.length s else s)=q at h3 |-;have h4:s.n<=q.n/\q.n<=s.n+2:=by
   rw[<-hq];split
   ·omega
   ·split<;>omega
  omega
theorem C4P (its:List Itm) (b:Int) (sc:List Lc):∀(l:List Ex) (s:NW),s.n<=(A5t its b sc l s).n/\(A5t its b sc l s).n<=s.n+2 *A1X l
 | [],s=>by rw[A5t,A1X];omega
 |e::l,s=>by
  rw[A5t,A1X];have h1:=D0z its b sc e s;have h2:=C4P its b sc l (exN its b sc e s);omega
 end
mutual
theorem D63 (its:List Itm) (b:Int):∀(x:Stm) (sc:List Lc) (s:NW),s.n<=(A57 its b x sc s).2.n/\(A57 its b x sc s).2.n<=s.n+2 *x.cnt/\sc.length<=(A57 its b x sc s).1.length/\(A57 its b x sc s).1.length<=sc.length+1
 | .mk k nm a lb o e thn els f t,sc,s=>by
  rw[A57,Stm.cnt];have h1:=D0z its b sc e s;generalize exN its b sc e s=q at h1 |-;have h2:=D5N nm a sc q;have h3:=C5n b sc a nm q;have h4:=B7D its b 1 a nm q;have h5:=B1g its b thn sc q;have h6:=B1g its b els sc (A1w its b thn sc q).2;split
  ·omega
  ·split
   ·dsimp only;omega
   ·split
    ·dsimp only;omega
    ·split
     ·dsimp only;omega
     ·dsimp only;omega
theorem B1g (its:List Itm) (b:Int):∀(l:List Stm) (sc:List Lc) (s:NW),s.n<=(A1w its b l sc s).2.n/\(A1w its b l sc s).2.n<=s.n+2 *U1 l/\sc.length<=(A1w its b l sc s).1.length/\(A1w its b l sc s).1.length<=sc.length+l.length
 | [],sc,s=>by rw[A1w,U1];exact⟨by dsimp only;omega,by dsimp only;omega,by dsimp only;omega,by dsimp only;simp⟩
 |x::l,sc,s=>by
  rw[A1w,U1,E9];have h1:=D63 its b x sc s;have h2:=B1g its b l (A57 its b x sc s).1 (A57 its b x sc s).2;omega
 end
theorem D4d (n:List UInt8) (a:Nat) (sc:List Lc) (s:NW):sc<+:(mkN n a sc s).1:=by
 rw[mkN];split
 ·exact A3r _
 ·exact List.prefix_append _ _
theorem D2C (its:List Itm) (b:Int) (x:Stm) (sc:List Lc) (s:NW):sc<+:(A57 its b x sc s).1:=by
 cases x with
 |mk k nm a lb o e thn els f t=>
 rw[A57];split
 ·exact D4d _ _ _ _
 ·split
  ·exact A3r _
  ·split
   ·exact A3r _
   ·split
    ·exact A3r _
    ·exact A3r _
theorem B97 (its:List Itm) (b:Int):∀(l:List Stm) (sc:List Lc) (s:NW),sc<+:(A1w its b l sc s).1
 | [],sc,s=>by rw[A1w];exact A3r _
 |x::l,sc,s=>by rw[A1w];exact(D2C its b x sc s).trans (B97 its b l _ _)
theorem C6e (its:List Itm) (b:Int) (l:List Stm) (sc:List Lc) (s:NW):(A1w its b l sc s).1.take sc.length=sc:=
 (List.prefix_iff_eq_take.1 (B97 its b l sc s)).symm
theorem Ex.cnt_eq (e:Ex):e.cnt=A1X e.args+1:=by cases e;rw[Ex.cnt];rfl
theorem A8O {l:List Ex}{k:Nat}{y:Ex} (h:l[k]?=some y):A1X (l.take k)+y.cnt<=A1X l:=by
 have e:l=l.take (k+1)++l.drop (k+1):=(A23 _ _).symm;have h2:=congrArg A1X e;rw[A6E,U2 h,A6E,A8N]at h2;omega
theorem Stm.cnt_eq (x:Stm):x.cnt=x.e.cnt+U1 x.thn+U1 x.els+1:=by cases x;rw[Stm.cnt];rfl
theorem A6z {l:List Stm}{k:Nat}{y:Stm} (h:l[k]?=some y):U1 (l.take k)+y.cnt<=U1 l:=by
 have e:l=l.take (k+1)++l.drop (k+1):=(A23 _ _).symm;have h2:=congrArg U1 e;rw[A4g,U2 h,A4g,A61]at h2;omega
theorem B1d {p:PE}{q:PS}:∀ {l:List Stm} (k:Nat),A0e p q l->A0e p q (l.take k)
 | [],k,h=>by rw[List.take_nil];exact h
 |x::l,0,h=>by rw[Z9];exact A0o
 |x::l,k+1,h=>by
  rw[A0e]at h;rw[A09,A0e];exact⟨h.1,B1d k h.2⟩
def D02 (F:Itm->Bool) (its:List Itm):Int:=match its.findIdx? F with
 |some j=>(j:Int)
 |none=> -1
def A6d (its:List Itm) (k:Int) (n:List UInt8):Int:=match A0M its k n with
 |some j=>(j:Int)
 |none=> -1
theorem D3Y {F:Itm->Bool}{its:List Itm}{k:Nat}{it:Itm} (h:its[k]?=some it) (hF:F it=true) (hb:∀j it',j<k->its[j]?=some it'->F it'=false):D02 F its=k:=by
 have:its.findIdx? F=some k:=by
  rw[A3k];obtain⟨hk,e⟩:=A0D.1 h;refine⟨hk,by rw[e];exact hF,fun j hj=>?_⟩
  have:=hb j its[j] hj (F9 (by omega));rw[this];simp
 rw[D02,this]
theorem C8B {F:Itm->Bool}{its:List Itm} (hb:∀j it',j<its.length->its[j]?=some it'->F it'=false):D02 F its= -1:=by
 have:its.findIdx? F=none:=by
  rw[A4m];intro x hx;obtain⟨j,hj,rfl⟩:=A2r hx;exact hb j _ hj (F9 hj)
 rw[D02,this]
end Go.Sp
namespace Go.Fw
open Go.Sp
open Go
section
variable {P:Program}{N:Nat}{ds:List Deferred}{Q:Exit->Act->World->Prop}{l:Log}{w:World}{ops:Array Oper}{os:List Oper}
variable {d:Nat}{ty:TypeId}{pos:String}{af:Array Edge}{g:Option (Nat×Bool)}{t:TypeId}{x y:Operand}{E:Ent}{I:P8}{H R G:List HItem}
theorem B6z {c:Operand}{f:FuncId} [Own P f] {xs:List Operand}{tys:Array TypeId}{vs ca:List Value}{Post:Value->P8->List HItem->Prop} (k:∀v I' H' w',Post v I' H'->Le I I'->Mem E I' (H'++R) w'->WL P N ds ops Q os ((d,v)::l) w') (hm:Mem E I G w)
  (hw:X9 ops l ⟨some d,.call ⟨.value c,xs.toArray,tys⟩,ty,pos,af,g⟩=some true:=by rfl) (hN:Nat.blt d N=true:=by rfl)
  (hf:ev l c=some (.func (.func f) #[] ca.toArray):=by rfl) (hx:evs l xs=some vs:=by rfl) (hp:G.Perm (H++R)) (hc:CalM P f (vs++ca).toArray I H Post)
   :
  WL P N ds ops Q (⟨some d,.call ⟨.value c,xs.toArray,tys⟩,ty,pos,af,g⟩::os) l w:=
 B0g hw hN hf hx (hc.run w (hm.perm hp).sub) (fun v w' ⟨I',H',h1,h2⟩=>k v I' H' w' h1 h2.le ((hm.perm hp).back h2))
theorem PtrI.sub {b off ty:Nat}{cs cs':List Value} (h:PtrI I b off ty cs) (k:Nat) (hs:∀j u,cs'[j]?=some u->cs[k+j]?=some u):PtrI I b (off+k) ty cs':=by
 obtain⟨c,fr,h1,h2⟩:=h;exact⟨c,fr,h1,fun j u hj=>by rw[A3a];exact h2 _ _ (hs j u hj)⟩
theorem CalM.read {f:FuncId}{args:Array Value}{v:Value} (h:CalM P f args I [] (fun u _ H'=>u=v/\H'= [])):CalR P f args I [] v:=
 ⟨fun w hI _=>(h.run w (Mem.start hI)).mono (fun _ _ ⟨_,_,⟨h1,_⟩,h2⟩=>⟨h1,h2.kept⟩)⟩
end
end Go.Fw
namespace Go.Sp
theorem C6T {α:Type}{l:List α}{k:Nat}{x:α} (h:l[k]?=some x):l.drop k=x::l.drop (k+1):=by
 obtain⟨hk,rfl⟩:=A0D.1 h;exact A3Q hk
end Go.Sp
namespace Go.Fw
open Go.Sp
open Go
section
variable {P:Program}{N:Nat}{ds:List Deferred}{Q:Exit->Act->World->Prop}{l:Log}{w:World}{ops:Array Oper}{os:List Oper}
variable {d:Nat}{ty:TypeId}{pos:String}{af:Array Edge}{g:Option (Nat×Bool)}{t t':TypeId}{x:Operand}
theorem B8e {w:World}{e:TypeId} (hT:P.underlying t=some (.pointer e)) (a:Option Addr):(Op.equal t (.pointer a) (.pointer none)).run P w=.ok a.isNone w:=by
 have h1:=run_underlying (P:=P) (w:=w) hT;show (Op.equalIn (9999+1) t (.pointer a) (.pointer none)).run P w=_
 rw[Op.equalIn];cases a<;>simp[h1]
theorem A5p {e:TypeId} (hT:P.underlying t=some (.pointer e)) {a:Option Addr}{k0:Value} (hw:X9 ops l ⟨some d,.binOp .eql t x (.const k0) t',ty,pos,af,g⟩=some true) (hN:Nat.blt d N=true)
  (hx:ev l x=some (.pointer a)) (hk:k0=.pointer none) (k:WL P N ds ops Q os ((d,.bool a.isNone)::l) w):WL P N ds ops Q (⟨some d,.binOp .eql t x (.const k0) t',ty,pos,af,g⟩::os) l w:=
 X6 rfl hw hN (fun c hc=>by
  subst hk;have e2:c.eval (.const (.pointer none))=.pointer none:=rfl;simp[execOp,hc.ev hx,e2,eqGuard,binOp,B8e hT a]) k
end
end Go.Fw
namespace Go.Proofs
open Go.Proofs.Tryz
open Go.Sp
open Go.Fw
structure NI where
 k:Nat
 I:P8
structure FE (I:P8) (its:List Sp.Itm) (a:Option Addr) (cp:Nat) (xs:List Value):Prop where
 row:RowI I 43 10 (.slice a its.length cp) its.length xs
 ats:A4W I its xs
 few:its.length<=64
theorem A7Y {I:P8}{its:List Sp.Itm}{a:Option Addr}{cp:Nat}{xs:List Value} (h1:RowI I 43 10 (.slice a its.length cp) its.length xs) (h2:A4W I its xs) (h3:its.length<=30):FE I its a cp xs:=⟨h1,h2,by omega⟩
theorem FE.le {I I':P8}{its:List Sp.Itm}{a:Option Addr}{cp:Nat}{xs:List Value} (h:FE I its a cp xs) (m:Le I I'):FE I' its a cp xs:=⟨h.row.le m,h.ats.le m,h.few⟩
theorem FE.get {I:P8}{its:List Sp.Itm}{a:Option Addr}{cp:Nat}{xs:List Value} (h:FE I its a cp xs) {k:Nat}{it:Sp.Itm} (hg:its[k]?=some it):∃cs,(xs.drop (k *10)).take 10=cs/\A67 I it cs/\cs.length=10:=
 ⟨_,rfl,h.ats.get hg,(h.ats.get hg).len⟩
theorem D4f (I:P8) (k:Int) (n:List UInt8) (bk bn:Nat) (hk:PtrI I bk 0 3 [.int .i64 k]) (hn:PtrI I bn 0 9 [str n]) (it:Sp.Itm) (cs:List Value) (hi:A67 I it cs):
  CalM prog 91 #[.agg cs.toArray,ptr bk,ptr bn] I [] (fun v _ H'=>v=.bool (C0G k n it)/\H'= []):=by
 obtain⟨ap,cp,as_,cs',ab,cb,ad,cd,xb,rfl,r1,r2,r3,r4,r5⟩:=hi;refine CalM.of fun w E hm=>enter (N:=19) func91 rfl [(0,.agg (A1J it.kind it.name it.label (.slice ap it.params.length cp) (.slice as_ it.sends.length cs') (.slice ab it.body.length cb) it.at_ it.size it.mark (.slice ad it.diags.length cd)).toArray),(1,ptr bk),(2,ptr bn)] A4x rfl ?_
 repeat' (first|refine A0T (d:=3) ?_ hm;clear hm;intro b3 _ hm|refine J6 ?_ hm|refine A0O ?_ hm|refine D8 ?_|refine D6 ?_|refine O0 ?_|refine N7 ?_|refine O6 ?_|refine A0g ?_|refine A0t ?_|refine D5 ?_|refine A0z ?_|(refine O3 (h1:=fun _=>?_) (h0:=fun _=>?_)<;>try first|contradiction|omega)|refine E5 ?_|refine A7 ?_|refine E8 ?_|refine A8 ?_|refine J3 ?_|refine J7 ?_)
 all_goals (refine⟨I,[],⟨congrArg Value.bool ?_,rfl⟩,hm.left (H:= [])⟩;simp_all [C0G])
theorem D4g (fi:FuncId) [Own prog fi] (ca:List Value) (F:Sp.Itm->Bool) (its:List Sp.Itm) (I:P8) (a:Option Addr) (cp:Nat) (xs:List Value) (h:FE I its a cp xs)
  (hF:∀I',Le I I'->∀it cs,A67 I' it cs->CalM prog fi (.agg cs.toArray::ca).toArray I' [] (fun v _ H'=>v=.bool (F it)/\H'= [])):
  CalM prog 90 #[.slice a its.length cp,.func (.func fi) #[] ca.toArray] I [] (fun v _ H'=>v=.int .i64 (D02 F its)/\H'= []):=by
 refine CalM.of fun w E hm=>enter (N:=19) func90 rfl [(0,.slice a its.length cp),(1,.func (.func fi) #[] ca.toArray)] A1x rfl ?_
 have hfew:=h.few;repeat' (first|refine D8 ?_|refine D6 ?_|refine G6 ?_|refine E5 ?_|refine A7 ?_|refine E8 ?_|refine A8 ?_|refine F6 ?_)
 refine U3 (fun x:NI=> [(0,.slice a its.length cp),(1,.func (.func fi) #[] ca.toArray),(7,nt its.length),(8,nt x.k)])
  (fun x w'=>Mem E x.I [] w'/\Le I x.I/\x.k<=its.length/\∀j it',j<x.k->its[j]?=some it'->F it'=false) (fun x=>its.length-x.k) ⟨0,I⟩ (by exact⟨rfl,rfl,rfl,rfl,trivial⟩) ⟨hm,Le.refl _,H9 _,fun j _ hj=>absurd hj (Nat.not_lt_zero j)⟩ ?_
 clear hm;rintro⟨k,I1⟩ w1 ⟨hm,hle1,hk,hno⟩;dsimp only at hm hle1 hk hno |-;by_cases hlt:k<its.length
 ·have hg:its[k]?=some its[k]:=F9 hlt
  obtain⟨cs,hcs,hat,hl10⟩:=(h.le hle1).get hg;have hri:=(h.le hle1).row;have hc:=hF I1 hle1 _ cs hat
  generalize its[k]=it at hg hat hc;cases hb:F it with
  |true=>
   rw[hb]at hc;repeat' (first|refine O7 (d:=14) ?_ (hr:=hri);intro bt ot hpt;rw[show ((k:Int).toNat *10)=k *10 from rfl,hcs]at hpt|refine U0 (d:=15) ?_ hm (hp:=hpt) (hc:=by exact hl10)|refine B6z (d:=16) ?_ hm (hp:=pm0) (hc:=by exact hc);clear hm;rintro _ I2 _ _ ⟨rfl,rfl⟩ hle hm|refine D8 ?_|refine D6 ?_|refine J8 ?_|refine E5 ?_|refine A7 ?_|refine H8 ?_|refine O5 ?_|refine E8 ?_|refine A8 ?_|refine F6 ?_|refine G7 ?_|refine J3 ?_|refine J7 ?_|refine H5 ?_|(refine C9 (ht:=fun _=>?_) (hf:=fun _=>?_)<;>try first|contradiction|omega))
   exact⟨I2,[],⟨by rw[D3Y hg hb hno],rfl⟩,hm.left (H:= [])⟩
  |false=>
   rw[hb]at hc;repeat' (first|refine O7 (d:=14) ?_ (hr:=hri);intro bt ot hpt;rw[show ((k:Int).toNat *10)=k *10 from rfl,hcs]at hpt|refine U0 (d:=15) ?_ hm (hp:=hpt) (hc:=by exact hl10)|refine B6z (d:=16) ?_ hm (hp:=pm0) (hc:=by exact hc);clear hm;rintro _ I2 _ _ ⟨rfl,rfl⟩ hle hm|refine D8 ?_|refine D6 ?_|refine J8 ?_|refine O9 ?_|refine E5 ?_|refine A7 ?_|refine D7 ?_|refine E8 ?_|refine A8 ?_|refine F6 ?_|refine G7 ?_|refine F7 ?_|(refine C9 (ht:=fun _=>?_) (hf:=fun _=>?_)<;>try first|contradiction|omega))
   refine L6 (⟨k+1,I2⟩:NI) (by exact⟨rfl,rfl,rfl,rfl,trivial⟩) ⟨hm.left (H:= []),hle1.trans hle,by dsimp only;omega,fun j it' hj hg'=>?_⟩ (by dsimp only;omega)
   rcases U9 j k with hjk|hjk
   ·exact hno j it' hjk hg'
   ·obtain rfl:j=k:=by dsimp only at hj;omega
    rw[hg]at hg';obtain rfl:=Z8 hg';exact hb
 ·obtain rfl:k=its.length:=by omega
  repeat' (first|refine D6 ?_|refine J8 ?_|refine E5 ?_|refine A7 ?_|refine H6 ?_|refine G9 ?_|refine E8 ?_|refine A8 ?_|refine O8 ?_|refine J3 ?_|refine J7 ?_|(refine C9 (ht:=fun _=>?_) (hf:=fun _=>?_)<;>try first|contradiction|omega))
  exact⟨I1,[],⟨by rw[C8B hno],rfl⟩,hm.left (H:= [])⟩
theorem A9N (k:Int) (n:List UInt8) (its:List Sp.Itm) (I:P8) (a:Option Addr) (cp:Nat) (xs:List Value) (h:FE I its a cp xs):
  CalM prog 61 #[.agg [.slice a its.length cp].toArray,.int .i64 k,str n] I [] (fun v _ H'=>v=.int .i64 (A6d its k n)/\H'= []):=by
 refine CalM.of fun w E hm=>enter (N:=11) func61 rfl [(0,.agg [.slice a its.length cp].toArray),(1,.int .i64 k),(2,str n)] A4x rfl ?_
 repeat' (first|refine A0T (d:=3) ?_ hm;clear hm;intro b3 _ hm|refine A0T (d:=4) ?_ hm;clear hm;intro b4 _ hm|refine A0T (d:=5) ?_ hm;clear hm;intro b5 _ hm|refine J6 ?_ hm|refine D6 ?_|refine A2v ?_|refine D5 ?_|refine E5 ?_|refine A7 ?_|refine E8 ?_|refine A8 ?_)
 obtain⟨I2,hle2,hm2,hpn⟩:=hm.freezeO;obtain⟨I3,hle3,hm3,hpk⟩:=hm2.freezeO;clear hm hm2;have hm:=hm3;clear hm3;have hc:=D4g 91 [ptr b4,ptr b5] (C0G k n) its I3 a cp xs ((h.le hle2).le hle3) (fun I' m it cs hi=>D4f I' k n b4 b5 (hpk.le m) ((hpn.le hle3).le m) it cs hi);repeat' (first|refine F8 (d:=10) ?_ hm (hc:=hc);clear hm;rintro _ I4 _ _ ⟨rfl,rfl⟩ hle hm;have hleI4:=hle;try simp only[G5]at hm|refine D6 ?_|refine E5 ?_|refine A7 ?_|refine J3 ?_|refine J7 ?_)
 exact⟨I4,[],⟨rfl,rfl⟩,hm.left (H:= [])⟩
theorem C3F (A:List Sp.Par):(A.flatMap A2L).length=A.length *3:=by
 induction A with
 |nil=>rfl
 |cons p A ih=>rw[A0c,D9,ih,show (A2L p).length=3 from rfl,E9,A2u];omega
theorem C7F (A:List Sp.Rf):(A.flatMap A27).length=A.length *2:=by
 induction A with
 |nil=>rfl
 |cons p A ih=>rw[A0c,D9,ih,show (A27 p).length=2 from rfl,E9,A2u];omega
theorem D11 {A B:List Sp.Par}{p:Sp.Par}{k:Nat} (hk:A.length=k):((A++p::B).flatMap A2L).set (k *3+2) (.int .i64 0)=(A++p.pl::B).flatMap A2L:=by
 subst hk;have h:=C3F A;rw[X0,X0,A0c,A0c,A5H,if_neg (by omega),h,show A.length *3+2-A.length *3=2 by omega]
 rfl
theorem D4O {A B:List Sp.Rf}{p:Sp.Rf}{k:Nat} (hk:A.length=k):((A++p::B).flatMap A27).set (k *2+1) (.int .i64 0)=(A++p.pl::B).flatMap A27:=by
 subst hk;have h:=C7F A;rw[X0,X0,A0c,A0c,A5H,if_neg (by omega),h,show A.length *2+1-A.length *2=1 by omega]
 rfl
theorem D1C (I:P8) (a:Option Addr) (n cp:Nat) (us:List Value) (hr:RowI I 106 2 (.slice a n cp) n us) (h1:us.all (·.oneCell')=true) (hn:n<=1099511627776):
  CalM prog 44 #[.slice a n cp] I [] (C9X 106 2 n us):=by
 refine CalM.of fun w E hm=>enter (N:=8) func44 rfl [(0,.slice a n cp)] A0Z rfl ?_
 cases a with
 |none=>
  have h0:n=0:=hr.none;subst h0;have hu:us= []:=A05 (by have:=hr.len;simpa using this);subst hu;repeat' (first|refine A2k ?_|refine D8 ?_|refine D6 ?_|refine E5 ?_|refine A7 ?_|refine H8 ?_|refine E8 ?_|refine A8 ?_|refine J3 ?_|refine J7 ?_|refine H5 ?_)
  exact⟨I,_,⟨none,0,rfl,rfl⟩,hm.nil 106 2⟩
 |some ad=>
  repeat' (first|refine A2k ?_|refine A5O ?_ hm;clear hm;intro bb _ hm|refine B0d ?_ hm (hr:=hr) (h1:=h1);clear hm;intro a2 cp2 _ hm;try simp only[G5]at hm|refine D8 ?_|refine D6 ?_|refine E5 ?_|refine A7 ?_|refine E8 ?_|refine A8 ?_|refine G7 ?_|refine J3 ?_|refine J7 ?_|refine F7 ?_)
  simp only[V9]at hm |-;exact⟨I,_,⟨a2,cp2,rfl,rfl⟩,(hm.front 0 rfl).hd⟩
structure PnX where
 k:Nat
 I:P8
 a:Option Addr
 cp:Nat
 xs:List Value
abbrev C6G (its:List Sp.Itm):Value->P8->List HItem->Prop:=fun v J H'=>H'= []/\∃ra rp xs,v=.agg [.slice ra its.length rp].toArray/\RowI J 43 10 (.slice ra its.length rp) its.length xs/\A4W J (its.map Sp.Itm.pl) xs
theorem B8y {its:List Sp.Itm} (hsm:∀x∈its,x.small) (I:P8) (a:Option Addr) (cp:Nat) (xs:List Value) (hfe:FE I its a cp xs):
  CalM prog 14 #[.agg [.slice a its.length cp].toArray] I [] (C6G its):=by
 have hfew:=hfe.few;refine CalM.of fun w E hm=>enter (N:=63) func14 rfl [(0,.agg [.slice a its.length cp].toArray)] A0Z rfl ?_
 repeat' (first|refine A0U 2 ?_|refine A0T (d:=1) ?_ hm;clear hm;intro b1 _ hm|refine X8 (d:=2) ?_ hm;clear hm;intro b2 _ hm|refine X8 (d:=3) ?_ hm;clear hm;intro b3 _ hm|refine E5 ?_|refine A7 ?_|refine E8 ?_|refine A8 ?_)
 obtain⟨I1,hle1,hm1,hpf⟩:=(hm.perm (A1o (l₁:= [_,_]) (l₂:= [_]))).freezeO;clear hm;have hm:=hm1;clear hm1;have hfe1:=hfe.le hle1;refine⟨?_⟩
 repeat' (first|refine J9 ?_ hm|refine D8 ?_|refine G6 ?_|refine D5 ?_|refine E5 ?_|refine A7 ?_|refine A8 ?_|refine F6 ?_)
 have hm:=(hm.nil 43 10).swap;refine U3 (fun x:PnX=> [(2,ptr b2),(3,ptr b3),(9,.slice a its.length cp),(10,nt its.length),(11,nt x.k)])
  (fun x w'=>Mem E x.I [.cell b3 [.slice x.a x.k x.cp] 25,B14 x.k x.a x.cp x.xs,.cell b2 [.slice none 0 0] 25] w'/\Le I1 x.I/\x.k<=its.length/\A4W x.I ((its.take x.k).map Sp.Itm.pl) x.xs) (fun x=>its.length-x.k) ⟨0,I1,none,0,[]⟩
  (by exact⟨rfl,rfl,rfl,rfl,rfl,trivial⟩) ⟨hm,Le.refl _,H9 _,rfl⟩ ?_
 clear hm;rintro⟨k,I2,ra,rp,rx⟩ w2 ⟨hm,hle2,hk,hits⟩;dsimp only at hm hle2 hk hits |-;have hfe2:=hfe1.le hle2;have hri:=hfe2.row;by_cases hlt:k<its.length
 ·have hg:its[k]?=some its[k]:=F9 hlt
  have htk:=U2 hg;obtain⟨cs,hcs,hat,_⟩:=hfe2.get hg;have hIt:=hsm _ (O1 hlt);generalize its[k]=it at hg hat hIt htk;have hbn:=hIt.body;have hpn:=hIt.params;have hsn:=hIt.sends;obtain⟨ap,cpp,as_,cs',ab,cb,ad,cd,xb,rfl,r1,r2,r3,r4,r5⟩:=hat
  have hP:=fun (J:P8) (q:Le I2 J)=>D5r _ it.body (H7 _) (by omega) hIt.stms J ab cb xb (r3.le q) (V4.le q _ _ r4)
  have hc1:=fun (J:P8) (q:Le I2 J)=>C3l J ap it.params.length cpp _ (r1.le q) (B71 _) (by omega)
  have hc2:=fun (J:P8) (q:Le I2 J)=>D1C J as_ it.sends.length cs' _ (r2.le q) (C1c _) (by omega)
  repeat' (first|refine O7 (d:=13) ?_ (hr:=hri);intro bt ot hpt;rw[show ((k:Int).toNat *10)=k *10 from rfl,hcs]at hpt|refine F8 (d:=20) ?_ hm (hp:=pm0) (hc:=hP I2 (Le.refl _));clear hm;rintro _ I3 _ _ ⟨rfl,a20,c20,x20,rfl,hr20,hx20⟩ hleI3 hm;try simp only[G5]at hm|refine A2y (id:=7) (hm.perm pm0) [0,1,3,4] 7 (h:=?_);clear hm;intro wd hR hm|refine A4f (d:=24) hm (by rfl) (by rfl) (by rfl) pm0 (hc1 I3 hleI3) ?_;clear hm;rintro _ I4 _ _ ⟨a24,c24,rfl,rfl⟩ hleI4 hm;try simp only[G5]at hm|refine A4f (d:=27) hm (by rfl) (by rfl) (by rfl) pm0 (hc2 I4 (hleI3.trans hleI4)) ?_;clear hm;rintro _ I5 _ _ ⟨a27,c27,rfl,rfl⟩ hleI5 hm;try simp only[G5]at hm|refine A1I (i:=2) ?_ (by decide+kernel)|refine A7n [6] (by decide+kernel) hm.kept ?_|refine A1I (i:=5) ?_ (by decide+kernel)|refine A9F ?_|refine A6S (by decide+kernel) ?_;replace hm:=hR.back hm;clear hR;try simp only[G5]at hm|refine A0U 8 ?_|refine A0k ?_ hR|refine Y2 (d:=5) ?_ hm;clear hm;intro b5 _ hm|refine J6 ?_ hm|refine U0 ?_ hm|refine P5 hm (k:=?_);clear hm;intro _ hm;try simp only[G5]at hm|refine J8 ?_|refine D5 ?_|refine E5 ?_|refine A7 ?_|refine E8 ?_|refine A8 ?_|refine F6 ?_|refine G7 ?_|(refine C9 (ht:=fun _=>?_) (hf:=fun _=>?_)<;>try first|contradiction|omega)|refine N8 ?_)
  refine⟨?_⟩
  have hoff:∀(q m j:Nat),0+(q:Int).toNat *m+j=q *m+j:=fun q m j=>by rw[A1R];omega
  repeat' (first|refine J6 ?_ hm|refine D8 ?_|refine G6 ?_|refine D5 ?_|refine E5 ?_|refine A7 ?_|refine A8 ?_|refine F6 ?_)
  refine U3 (fun j:Nat=> [(2,ptr b2),(3,ptr b3),(5,ptr b5),(9,.slice a its.length cp),(10,nt its.length),(11,nt k),(33,nt it.params.length),(34,nt j)])
   (fun j w'=>Mem E I5 [.row (.slice a27 it.sends.length c27) 106 2 it.sends.length (it.sends.flatMap A27),.row (.slice a24 it.params.length c24) 103 3 it.params.length (((it.params.take j).map Sp.Par.pl++it.params.drop j).flatMap A2L),
    .cell b5 (A1J it.kind it.name it.label (.slice a24 it.params.length c24) (.slice a27 it.sends.length c27) (.slice a20 it.body.length c20) 0 0 0 (.slice none 0 0)) 43,.cell b3 [.slice ra k rp] 25,B14 k ra rp rx,.cell b2 [.slice none 0 0] 25] w'/\j<=it.params.length) (fun j=>it.params.length-j) 0
   (by exact⟨rfl,rfl,rfl,rfl,rfl,rfl,rfl,rfl,trivial⟩) ⟨by rw[Z9,A2t];exact hm,H9 _⟩ ?_
  clear hm;rintro j w3 ⟨hm,hj⟩;try dsimp only at hm hj |-
  by_cases hjl:j<it.params.length
  ·have hgj:it.params[j]?=some it.params[j]:=F9 hjl
   have htj:(it.params.take (j+1)).map Sp.Par.pl=(it.params.take j).map Sp.Par.pl++ [it.params[j].pl]:=by rw[U2 hgj,V5];rfl
   rw[C6T hgj]at hm;generalize it.params[j]=p at hgj hm htj;have hlA:((it.params.take j).map Sp.Par.pl).length=j:=by rw[P7,P9,A1O hj]
   have hset:=D11 (A:=(it.params.take j).map Sp.Par.pl) (B:=it.params.drop (j+1)) (p:=p) hlA;obtain⟨gb,rfl⟩:=(hm.front 1 rfl).rowAddr (by omega);repeat' (first|refine A5P (i:=1) (off:=j *3+2) hm (by rfl) (by rfl) (by rw[<-hoff j 3 2];rfl) (by rfl) (by rfl) (by rfl) (by rfl) (by rw[C3F,D9,E9];omega) ?_;clear hm;intro _ hm;rw[hset]at hm;simp only[G5]at hm|refine J6 ?_ hm|refine D8 ?_|refine D6 ?_|refine J8 ?_|refine O9 ?_|refine D5 ?_|refine Y3 (k:=?_)|refine E5 ?_|refine A7 ?_|refine D7 ?_|refine E8 ?_|refine A8 ?_|refine F6 ?_|refine G7 ?_|(refine C9 (ht:=fun _=>?_) (hf:=fun _=>?_)<;>try first|contradiction|omega))
   exact L6 (j+1:Nat) (by exact⟨rfl,rfl,rfl,rfl,rfl,rfl,rfl,rfl,trivial⟩) ⟨by rw[htj,J5];exact hm,by omega⟩ (by omega)
  obtain rfl:j=it.params.length:=by omega
  rw[V7,A40,J4]at hm;repeat' (first|refine J6 ?_ hm|refine D8 ?_|refine J8 ?_|refine G6 ?_|refine D5 ?_|refine E5 ?_|refine A7 ?_|refine H6 ?_|refine G9 ?_|refine E8 ?_|refine A8 ?_|refine F6 ?_|refine O8 ?_|(refine C9 (ht:=fun _=>?_) (hf:=fun _=>?_)<;>try first|contradiction|omega))
  refine U3 (fun j:Nat=> [(2,ptr b2),(3,ptr b3),(5,ptr b5),(9,.slice a its.length cp),(10,nt its.length),(11,nt k),(45,nt it.sends.length),(46,nt j)])
   (fun j w'=>Mem E I5 [.row (.slice a27 it.sends.length c27) 106 2 it.sends.length (((it.sends.take j).map Sp.Rf.pl++it.sends.drop j).flatMap A27),.row (.slice a24 it.params.length c24) 103 3 it.params.length ((it.params.map Sp.Par.pl).flatMap A2L),
    .cell b5 (A1J it.kind it.name it.label (.slice a24 it.params.length c24) (.slice a27 it.sends.length c27) (.slice a20 it.body.length c20) 0 0 0 (.slice none 0 0)) 43,.cell b3 [.slice ra k rp] 25,B14 k ra rp rx,.cell b2 [.slice none 0 0] 25] w'/\j<=it.sends.length) (fun j=>it.sends.length-j) 0
   (by exact⟨rfl,rfl,rfl,rfl,rfl,rfl,rfl,rfl,trivial⟩) ⟨by rw[Z9,A2t];exact hm,H9 _⟩ ?_
  clear hm hj hjl;rintro j w4 ⟨hm,hj⟩;try dsimp only at hm hj |-
  by_cases hjl:j<it.sends.length
  ·have hgj:it.sends[j]?=some it.sends[j]:=F9 hjl
   have htj:(it.sends.take (j+1)).map Sp.Rf.pl=(it.sends.take j).map Sp.Rf.pl++ [it.sends[j].pl]:=by rw[U2 hgj,V5];rfl
   rw[C6T hgj]at hm;generalize it.sends[j]=p at hgj hm htj;have hlA:((it.sends.take j).map Sp.Rf.pl).length=j:=by rw[P7,P9,A1O hj]
   have hset:=D4O (A:=(it.sends.take j).map Sp.Rf.pl) (B:=it.sends.drop (j+1)) (p:=p) hlA;obtain⟨gb,rfl⟩:=hm.rowAddr (by omega);repeat' (first|refine A5P (i:=0) (off:=j *2+1) hm (by rfl) (by rfl) (by rw[<-hoff j 2 1];rfl) (by rfl) (by rfl) (by rfl) (by rfl) (by rw[C7F,D9,E9];omega) ?_;clear hm;intro _ hm;rw[hset]at hm;simp only[G5]at hm|refine J6 ?_ hm|refine D8 ?_|refine D6 ?_|refine J8 ?_|refine O9 ?_|refine D5 ?_|refine Y3 (k:=?_)|refine E5 ?_|refine A7 ?_|refine D7 ?_|refine E8 ?_|refine A8 ?_|refine F6 ?_|refine G7 ?_|(refine C9 (ht:=fun _=>?_) (hf:=fun _=>?_)<;>try first|contradiction|omega))
   exact L6 (j+1:Nat) (by exact⟨rfl,rfl,rfl,rfl,rfl,rfl,rfl,rfl,trivial⟩) ⟨by rw[htj,J5];exact hm,by omega⟩ (by omega)
  obtain rfl:j=it.sends.length:=by omega
  rw[V7,A40,J4]at hm;obtain⟨I6,hle6,hm6,hr27⟩:=hm.freeze;clear hm;obtain⟨I7,hle7,hm7,hr24⟩:=hm6.freeze;clear hm6;have hm:=hm7;clear hm7;have hle37:Le I3 I7:=((hleI4.trans hleI5).trans hle6).trans hle7;have e1:(Sp.Itm.pl it).params.length=it.params.length:=P7 ..;have e2:(Sp.Itm.pl it).sends.length=it.sends.length:=P7 ..;have e3:(Sp.Itm.pl it).body.length=it.body.length:=A7T it.body;have hit:A67 I7 it.pl (A1J it.kind it.name it.label (.slice a24 it.params.length c24) (.slice a27 it.sends.length c27) (.slice a20 it.body.length c20) 0 0 0 (.slice none 0 0)):=by
   refine⟨a24,c24,a27,c27,a20,c20,none,0,x20,?_,?_,?_,?_,?_,?_⟩
   ·rw[e1,e2,e3];rfl
   ·rw[e1];exact hr24
   ·rw[e2];exact hr27.le hle7
   ·rw[e3];exact hr20.le hle37
   ·exact V4.le hle37 _ _ hx20
   ·exact A1L _ _ _ _ _
  repeat' (first|refine A2P (d:=59) ?_ hm;clear hm;intro a59 cp59 _ _ hm;try simp only[G5]at hm|refine J6 ?_ hm|refine Q7 ?_ hm|refine P5 hm (k:=?_);clear hm;intro _ hm;try simp only[G5]at hm|refine D8 ?_|refine J8 ?_|refine O9 ?_|refine D5 ?_|refine E5 ?_|refine A7 ?_|refine H6 ?_|refine D7 ?_|refine G9 ?_|refine E8 ?_|refine A8 ?_|refine O8 ?_|(refine C9 (ht:=fun _=>?_) (hf:=fun _=>?_)<;>try first|contradiction|omega))
  refine L6 (⟨k+1,I7,a59,cp59,_⟩:PnX) (by exact⟨rfl,rfl,rfl,rfl,rfl,trivial⟩) ⟨hm.tl,(hle2.trans hleI3).trans hle37,by dsimp only;omega,by dsimp only;rw[htk,V5];exact(hits.le (hleI3.trans hle37)).snoc hit⟩ (by dsimp only;omega)
 ·obtain rfl:k=its.length:=by omega
  rw[V7]at hits;repeat' (first|refine Q7 ?_ hm|refine P6 ?_ hm;clear hm;intro _ hm;try simp only[G5]at hm|refine A0a ?_ hm|refine J8 ?_|refine E5 ?_|refine A7 ?_|refine H6 ?_|refine G9 ?_|refine E8 ?_|refine A8 ?_|refine O8 ?_|refine J3 ?_|(refine C9 (ht:=fun _=>?_) (hf:=fun _=>?_)<;>try first|contradiction|omega))
  obtain⟨I3,hle3,hm3,hrow3⟩:=hm.swap.freeze;exact⟨I3,[],⟨rfl,ra,rp,rx,rfl,hrow3,hits.le hle3⟩,hm3.left (H:= [])⟩
end Go.Proofs
