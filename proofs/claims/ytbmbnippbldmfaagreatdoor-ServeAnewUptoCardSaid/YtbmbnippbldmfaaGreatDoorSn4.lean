/- Own work. -/
import Derived.Test.YtbmbnippbldmfaaGreatDoorSn3
import Derived.Lib.ConvBytes
import Derived.Laws.AppendOwn
import Derived.MapKept
import Derived.Defers
set_option maxHeartbeats 64000000
namespace Go.Fw
open Go
section
variable {P:Program}{N:Nat}{ds:List Deferred}{Q:Exit->Act->World->Prop}{K:Act->World->Prop}{l l':Log}{w w':World}{ops:Array Oper}{os:List Oper}{o:Oper}
variable {d:Nat}{ty:TypeId}{pos:String}{af:Array Edge}{g:Option (Nat×Bool)}{t t':TypeId}{x y z:Operand}
variable {E:Ent}{I I':P6}{H H' R:List HItem}
theorem B06 {α:Type}{c:Code} (id:Nat) (L:α->Log) (J:α->World->Prop)
  (h:WC P N ds c (Exit.inBlock id (Exit.then (fun a w=> ∃x,Fits N ds (L x) a/\J x w) Q)) l w) (k:∀x w,J x w->At N ds Q .normal (L x) w):WC P N ds (.block id c) Q l w:=
 ⟨fun a ha=>wp_mono ((F5 h).run a ha) (fun e a w q=>by
  cases e<;>first|exact q|(obtain⟨x,hx,hj⟩:=q;exact(k x w hj).run a hx))⟩
theorem Mem.take {ty sz n:Nat}{v:Value}{xs:List Value} (hm:Mem E I H w) (k:Kept [] w w') (ho:w'.ownsRow w.heap.size ty sz v n xs):∃I',Le I I'/\Mem E I' H w'/\RowI I' ty sz v n xs:=
 (hm.add (x:=.row v ty sz n xs) k (A32 ho (H7 _)) (fun b hb=>(ho.lt b hb).1)).freeze
theorem Mem.fresh (hm:Mem E I H w) (k:Kept [] w w') {b:Nat}{o:Obj} (hb:w.heap.size<=b) (ho:w'.heap[b]?=some o):Le I (I.add b o)/\Mem E (I.add b o) H w':=by
 have hf:=hm.inv.fresh hb;refine⟨Le.add hf,(hm.kept0 k).freezeB ho hf (.inr (A0J hm.kept.size hb)) (fun h hh e=>?_)⟩
 have:=(hm.ok h hh).lt e;omega
theorem B8w (w:World) (e:TypeId) (s:ByteArray):Kept [] w (Lib.bytesWorld w e s):=
 ⟨rfl,rfl,rfl,by rw[Lib.bytesWorld_size];omega,fun k hk _=>Lib.bytesWorld_at_old w e s k hk⟩
theorem B4u {α:Type} (f:α->Value) (s:List α):s.flatMap (fun c=> [f c])=s.map f:=by
 induction s with
 |nil=>rfl
 |cons a s ih=>simp[ih]
theorem B5k {e:TypeId}{sz by_ n:Nat} [TySlice P t e] [Elem P e sz by_] {ps:List (Nat×Operand)}{vs:List (Nat×Value)}{xs:List Value} (k:∀I' a w',Le I I'->Mem E I' H w'->RowI I' e sz (.slice a n n) n xs->WL P N ds ops Q os ((d,.slice a n n)::l) w') (hm:Mem E I H w)
  (hw:U4 ops l ⟨some d,.buildSlice t n ps.toArray,ty,pos,af,g⟩=some true:=by rfl) (hN:Nat.blt d N=true:=by rfl) (hx:evp l ps=some vs:=by rfl)
  (hi:vs.map (·.1)=List.range' 0 n:=by rfl) (hs:vs.all (fun p=>Nat.beq p.2.cells.toList.length sz)=true:=by rfl) (hn:Nat.ble (n *sz) 16777216=true:=by rfl) (hxs:vs.flatMap (·.2.cells.toList)=xs:=by rfl)
   :
  WL P N ds ops Q (⟨some d,.buildSlice t n ps.toArray,ty,pos,af,g⟩::os) l w:=by
 subst hxs;refine A5E hw hN hx hi hs (A13 hn) (fun b w' hb hh hk=>?_)
 obtain⟨h1,h2⟩:=hm.fresh hk (Nat.le_of_eq hb.symm) hh;refine k _ _ w' h1 h2 ⟨?_,_,_,rfl,G9 _,fun _=>⟨b,0,_,(_,_),rfl,P6.add_self _ _ _,fun j u hj=>by rw[V6];simpa using hj⟩⟩
 have hlen:vs.length=n:=by have:=congrArg List.length hi;simpa using this
 have key:∀(vs:List (Nat×Value)),vs.all (fun p=>Nat.beq p.2.cells.toList.length sz)=true->(vs.flatMap (·.2.cells.toList)).length=vs.length *sz:=by
  intro vs;induction vs with
  |nil=>intro _;simp
  |cons p vs ih=>
   intro h;rw[List.all_cons,U9]at h;rw[A0a,E9,ih h.2,A3O h.1,F8,A1Q];omega
 rw[key vs hs,hlen]
end
abbrev A6i:=List (List UInt8×Value)
def A4w (es:A6i) (n:Nat):List MapEntry:=(es.zipIdx n).map (fun p=> { key:=str p.1.1,val:=p.1.2,born:=p.2})
class TyMap (P:Program) (t:TypeId) (k e:outParam TypeId):Prop where out:P.underlying t=some (.map k e)
structure MapAt (w:World) (b:Nat) (es:A6i):Prop where
 out:w.heap[b]?=some (.map (A4w es 0).toArray es.length)
 nodup:(es.map (·.1)).Nodup
theorem B1U (s:List UInt8):∀(es:A6i) (n m:Nat),Instr.findNow .string (str s) (A4w es n) m=some ((es.findIdx? (fun p=>decide (p.1=s))).bind (fun i=>(es[i]?).map (fun p=>(m+i,p.2))))
 | [],n,m=>rfl
 |(u,v)::es,n,m=>by
  have ih:=B1U s es (n+1) (m+1);simp only[A4w,List.zipIdx_cons,X8,Instr.findNow,Instr.sameNow]at ih |-;have e1:((⟨s.toArray⟩:ByteArray)==⟨u.toArray⟩)=decide (u=s):=by
   rw[show ((⟨s.toArray⟩:ByteArray)==⟨u.toArray⟩)=(s.toArray==u.toArray) from rfl,A2I];constructor
   ·intro h
    have h2:s=u:=by simpa using h
    exact decide_eq_true h2.symm
   ·intro h
    rw[of_decide_eq_true h];simp
  rw[e1,A6z];cases hd:decide (u=s) with
  |true=>simp
  |false=>
   simp only
   rw[ih]
   congr 1
   cases hf:es.findIdx? (fun p=>decide (p.1=s)) with
   |none=>simp
   |some i=>simp[A3M,Nat.add_left_comm]
section
variable {P:Program}{N:Nat}{ds:List Deferred}{Q:Exit->Act->World->Prop}{l l':Log}{w w':World}{ops:Array Oper}{os:List Oper}{o:Oper}
variable {d:Nat}{ty:TypeId}{pos:String}{af:Array Edge}{g:Option (Nat×Bool)}{t t':TypeId}{x y z:Operand}
theorem B9g (hw:U4 ops l ⟨some d,.makeMap t none,ty,pos,af,g⟩=some true) (hN:Nat.blt d N=true)
  (k:∀b w',b=w.heap.size->MapAt w' b []->Kept [] w w'->WL P N ds ops Q os ((d,.map (some b))::l) w'):
  WL P N ds ops Q (⟨some d,.makeMap t none,ty,pos,af,g⟩::os) l w:=
 U6 (w':=w.alloc (.map #[] 0)) rfl hw hN (fun a ha=>by
  simp[execOp,Instr.makeMap,newObj];rfl) (k w.heap.size _ rfl ⟨heap_alloc_new w _,by simp⟩ (Kept.alloc w _))
def B4G (es:A6i) (s:List UInt8) (z:Value):Value:=((es.find? (fun p=>decide (p.1=s))).map (·.2)).getD z
theorem C2Z (es:A6i) (s:List UInt8):(es.findIdx? (fun p=>decide (p.1=s))).bind (fun i=>(es[i]?).map (·.2))=(es.find? (fun p=>decide (p.1=s))).map (·.2):=by
 induction es with
 |nil=>rfl
 |cons p es ih=>
  rw[A6z,A3J];cases hd:decide (p.1=s) with
  |true=>simp
  |false=>
   simp only[A6y,if_false];rw[<-ih];cases es.findIdx? (fun p=>decide (p.1=s))<;>simp
theorem A9e {kt:TypeId} (hk:P.underlying kt=some .string) (s:List UInt8) (es:A6i) (n:Nat):
  (Instr.findKey kt (str s) (A4w es n)).run P w=.ok ((es.findIdx? (fun p=>decide (p.1=s))).bind (fun i=>(es[i]?).map (fun p=>(0+i,p.2)))) w:=by
 have h1:=run_underlying (P:=P) (w:=w) hk;simp only[Instr.findKey,Sem.run_bind,h1,Result.andThen_ok,B1U];simp
theorem A8c {kt:TypeId} (hk:P.underlying kt=some .string) (s:List UInt8) (b:Bool):(Instr.checkKey b 10000 kt (str s)).run P w=.ok () w:=by
 have h1:=run_underlying (P:=P) (w:=w) hk;show (Instr.checkKey b (9999+1) kt (str s)).run P w=.ok () w
 rw[Instr.checkKey];simp[h1]
theorem C1z {kt et:TypeId} [TyMap P t kt et] [TyStr P kt] {b:Nat}{es:A6i}{s:List UInt8}{v:Value}{dst:Option Nat} (hd:dst=none:=by rfl) (hw:U4 ops l ⟨dst,.insert t x y z,ty,pos,af,g⟩=some true:=by rfl)
  (hx:ev l x=some (.map (some b)):=by rfl) (hy:ev l y=some (str s):=by rfl) (hz:ev l z=some v:=by rfl) (hm:MapAt w b es) (hs:(es.map (·.1)).contains s=false:=by rfl)
  (k:∀w',MapAt w' b (es++ [(s,v)])->Kept [b] w w'->WL P N ds ops Q os l w'):
  WL P N ds ops Q (⟨dst,.insert t x y z,ty,pos,af,g⟩::os) l w:=
 B45 hw fun a ha=>by
  have h1:=run_underlying (P:=P) (w:=w) (TyMap.out (P:=P) (t:=t));have hk:=TyStr.out (P:=P) (t:=kt);have h2:=A9e (P:=P) (w:=w) hk s es 0;have h3:=A8c (P:=P) (w:=w) hk s false;have h4:=MapKept.run_getObj_map (P:=P) hm.out;have hnone:es.findIdx? (fun p=>decide (p.1=s))=none:=by
   rw[A3L];intro p hp;have:s∉es.map (·.1):=by
    intro hc;rw[A6u.2 hc]at hs;cases hs
   simp only[decide_eq_false_iff_not];rintro rfl;exact this (A5s hp)
  subst hd;rw[hnone]at h2;have h5:=fun o'=>MapKept.run_setObj_map (P:=P) o' hm.out
  have e1:(A4w (es++ [(s,v)]) 0).toArray=(A4w es 0).toArray.push { key:=str s,val:=v,born:=es.length}:=by
   simp[A4w,List.zipIdx_append]
  have hlt:=A2v hm.out;simp only[Oper.wp,execOp,Instr.mapUpdate,ha.ev hx,ha.ev hy,ha.ev hz,Sem.run_bind,h1,Result.andThen_ok,h4,h3,h2,Option.bind_none,h5,Oper.upon_skip,Act.put,Sem.run_pure];refine(k { w with heap:=w.heap.setIfInBounds b (.map ((A4w es 0).toArray.push { key:=str s,val:=v,born:=es.length}) (es.length+1))} ⟨?_,?_⟩ ⟨rfl,rfl,rfl,by simp,fun i hi hx=>?_⟩).run _ ha
  ·rw[e1,E9]
   simp[hlt]
  ·rw[Y8,A5w]
   refine⟨hm.nodup,by simp,fun a h1 b h2=>?_⟩
   simp only[X8,List.map_nil,A0v]at h2;subst h2;rintro rfl;rw[A6u.2 h1]at hs;cases hs
  ·have:b≠i:=by rintro rfl;simp at hx
   simp[A5n this]
end
abbrev HItem.mp (b:Nat) (es:A6i):HItem:=.obj b (.map (A4w es 0).toArray es.length)
section
variable {P:Program}{N:Nat}{ds:List Deferred}{Q:Exit->Act->World->Prop}{K:Act->World->Prop}{l l':Log}{w w':World}{ops:Array Oper}{os:List Oper}{o:Oper}
variable {d:Nat}{ty:TypeId}{pos:String}{af:Array Edge}{g:Option (Nat×Bool)}{t t':TypeId}{x y z:Operand}
variable {E:Ent}{I I':P6}{H H' R:List HItem}
theorem B1x (k:∀b w',Mem E I (.mp b []::H) w'->WL P N ds ops Q os ((d,.map (some b))::l) w') (hm:Mem E I H w) (hw:U4 ops l ⟨some d,.makeMap t none,ty,pos,af,g⟩=some true:=by rfl) (hN:Nat.blt d N=true:=by rfl)
   :
  WL P N ds ops Q (⟨some d,.makeMap t none,ty,pos,af,g⟩::os) l w:=
 B9g hw hN (fun b w' hb hmp hk=>k b w' (hm.add hk (by exact hmp.out) (fun b' hb'=>by simp only[HItem.blk,U3]at hb';omega)))
theorem B7j {kt et:TypeId} [TyMap P t kt et] [TyStr P kt] {i b:Nat}{es:A6i}{s:List UInt8}{v:Value}{dst:Option Nat} (hm:Mem E I H w) (hd:dst=none:=by rfl) (hw:U4 ops l ⟨dst,.insert t x y z,ty,pos,af,g⟩=some true:=by rfl)
  (hx:ev l x=some (.map (some b)):=by rfl) (hy:ev l y=some (str s):=by rfl) (hz:ev l z=some v:=by rfl) (hi:H[i]?=some (.mp b es):=by first|exact gt0|exact gt1|exact gt2|exact gt3|exact gt4|exact gt5|exact gt6) (hn:(es.map (·.1)).Nodup) (hs:(es.map (·.1)).contains s=false:=by rfl)
  (k:∀w',Mem E I (H.set i (.mp b (es++ [(s,v)]))) w'->WL P N ds ops Q os l w'):
  WL P N ds ops Q (⟨dst,.insert t x y z,ty,pos,af,g⟩::os) l w:=
 C1z hd hw hx hy hz ⟨hm.get hi,hn⟩ hs (fun w' h1 hk=>k w' (hm.turn hi (by simpa[HItem.blk] using hk) h1.out (.inl rfl)))
end
section
variable {P:Program}{N:Nat}{ds:List Deferred}{Q:Exit->Act->World->Prop}{K:Act->World->Prop}{l l':Log}{w w':World}{ops:Array Oper}{os:List Oper}{o:Oper}
variable {d:Nat}{ty:TypeId}{pos:String}{af:Array Edge}{g:Option (Nat×Bool)}{t t':TypeId}{x y z:Operand}
variable {E:Ent}{I I':P6}{H H' R:List HItem}
structure CalD (P:Program) (f:FuncId) (args:Array Value) (w:World) (Post:World->Prop):Prop where
 run:CallsD P f args .returning w (fun e u' w'=>u'=.returning/\Ret (fun _ w'=>Post w') e w')
theorem C2H {f:FuncId}{fn:Func}{c:Code}{args:Array Value}{Post:World->Prop} (hf:P.funcs[f]?=some fn) (hb:fn.body=some c)
  (l:Log) (hl:∀t v,lk l t=some v->args[t]?=some v) (hN:N=args.size+(fn.ntmps-args.size))
  (h:WC P N [] c (bodyPost P fn (Ret (fun _ w=>Post w))) l w):CalD P f args w Post:=
 ⟨callsD_of_wp hf hb (h.run _ (by rw[hN];exact B0a _ _ _ hl))⟩
theorem A2F {f:FuncId}{fn:Func}{c:Code}{args:Array Value}{Post:Value->World->Prop} (hf:P.funcs[f]?=some fn) (hb:fn.body=some c)
  (l:Log) (hl:∀t v,lk l t=some v->args[t]?=some v) (hN:N=args.size+(fn.ntmps-args.size))
  (h:WC P N [] c (bodyPostD P fn (Ret Post)) l w):Cal P f args w Post:=
 ⟨calls_of_wp_defers hf hb (h.run _ (by rw[hN];exact B0a _ _ _ hl))⟩
theorem A6H {f:FuncId}{caps:Array Value}{dst:Option Nat} (k:WL P N (⟨.fn (.func f) caps, #[]⟩::ds) ops Q os l w) (hd:dst=none:=by rfl) (hw:U4 ops l ⟨dst,.defer ⟨.value x, #[], #[]⟩,ty,pos,af,g⟩=some true:=by rfl)
  (hx:ev l x=some (.func (.func f) #[] caps):=by rfl)  :WL P N ds ops Q (⟨dst,.defer ⟨.value x, #[], #[]⟩,ty,pos,af,g⟩::os) l w:=
 B45 hw fun a ha=>by
  subst hd;have h1:=ha.ev hx;simp only[Oper.wp,execOp,resolve,Deferred.ofValue,h1,Sem.run_bind,Sem.run_pure,Result.andThen_ok,Oper.upon_defer,Act.put];refine k.run _ ⟨ha.size,?_,ha.vals⟩
  simp[ha.defs]
theorem B49 {fn:Func}{tr n b:Nat}{tc:TypeId} [TyAgg P tc n] {f:FuncId} [Own P f] {caps:Array Value}{Post:Value->World->Prop} (hr:fn.results= #[.cell tr tc])
  (hx:lk l tr=some (.pointer (some ⟨b,0,none⟩))) {Pd:World->Prop} (hc:CalD P f caps w Pd)
  (hp:∀w',Pd w'->∃(c:List Value) (e:TypeId) (fr:Nat×Nat),w'.heap[b]?=some (.cells c.toArray e fr)/\c.length=n/\Post (.agg c.toArray) w'):At N [⟨.fn (.func f) caps, #[]⟩] (bodyPostD P fn (Ret Post)) .ret l w:=
 ⟨fun a ha=>by
  show Leaves P fn a.tmps (Ret Post) a.defers .returning w
  rw[ha.defs];refine leaves_cons (by simp) (f:=f) (args:=caps) (by simp[invoke,A2m]) (hc.run.mono (fun e u' w' ⟨h1,h2⟩=>?_))
  subst h1;cases e with
  |returned v=>
   obtain⟨c,e,fr,h3,h4,h5⟩:=hp w' h2;exact⟨_,A8a hr a.tmps w' (ha.vals tr _ hx) (A5S h3 h4 (fun j v hv=>by simpa using hv)),h5⟩
  |panicked c=>exact h2.elim
  |outgrown=>exact h2.elim⟩
theorem B6D {fn:Func}{tr:Nat}{v:Value}{f:FuncId} [Own P f] {caps:Array Value}{Post:Value->World->Prop} (hr:fn.results= #[.tmp tr])
  (hx:lk l tr=some v) {Pd:World->Prop} (hc:CalD P f caps w Pd) (hp:∀w',Pd w'->Post v w'):At N [⟨.fn (.func f) caps, #[]⟩] (bodyPostD P fn (Ret Post)) .ret l w:=
 ⟨fun a ha=>by
  show Leaves P fn a.tmps (Ret Post) a.defers .returning w
  rw[ha.defs];refine leaves_cons (by simp) (f:=f) (args:=caps) (by simp[invoke,A2m]) (hc.run.mono (fun e u' w' ⟨h1,h2⟩=>?_))
  subst h1;cases e with
  |returned _=>exact⟨v,by rw[results_tmp hr];simp[ha.vals tr _ hx],hp w' h2⟩
  |panicked c=>exact h2.elim
  |outgrown=>exact h2.elim⟩
theorem B0x {fn:Func}{tr:Nat}{v:Value}{Post:Value->World->Prop} (h:Post v w) (hr:fn.results= #[.tmp tr]:=by rfl) (hx:lk l tr=some v:=by rfl)  :
  At N [] (bodyPostD P fn (Ret Post)) .ret l w:=
 ⟨fun a ha=>by
  show Leaves P fn a.tmps (Ret Post) a.defers .returning w
  rw[ha.defs];exact⟨v,by rw[results_tmp hr];simp[ha.vals tr _ hx],h⟩⟩
theorem A9J {fn:Func}{i tr n b:Nat}{tc:TypeId} [TyAgg P tc n] {c:List Value}{e:TypeId}{fr:Nat×Nat}{Post:Value->World->Prop} (h:Post (.agg c.toArray) w) (hm:Mem E I H w) (hr:fn.results= #[.cell tr tc]:=by rfl)
  (hx:lk l tr=some (.pointer (some ⟨b,0,none⟩)):=by rfl) (hb:H[i]?=some (.obj b (.cells c.toArray e fr)):=by first|exact gt0|exact gt1|exact gt2|exact gt3|exact gt4|exact gt5|exact gt6) (hl:c.length=n:=by rfl)
   :At N [] (bodyPostD P fn (Ret Post)) .ret l w:=
 ⟨fun a ha=>by
  show Leaves P fn a.tmps (Ret Post) a.defers .returning w
  rw[ha.defs];exact⟨_,A8a hr a.tmps w (ha.vals tr _ hx) (A5S (hm.get hb) hl (fun j v hv=>by simpa using hv)),h⟩⟩
theorem B7k {fn:Func}{i tr n b:Nat}{tc:TypeId} [TyAgg P tc n] {c:List Value}{e:TypeId}{fr:Nat×Nat}{f:FuncId} [Own P f] {caps:Array Value}{Post:Value->World->Prop} (hr:fn.results= #[.cell tr tc])
  (hx:lk l tr=some (.pointer (some ⟨b,0,none⟩))) (hc:CalD P f caps w (fun w'=>Mem E I H' w')) (hb:H'[i]?=some (.obj b (.cells c.toArray e fr))) (hl:c.length=n)
  (h:∀w',Mem E I H' w'->Post (.agg c.toArray) w'):At N [⟨.fn (.func f) caps, #[]⟩] (bodyPostD P fn (Ret Post)) .ret l w:=
 B49 hr hx hc (fun w' hm=>⟨c,e,fr,hm.get hb,hl,h w' hm⟩)
end
section
variable {P:Program}{N:Nat}{ds:List Deferred}{Q:Exit->Act->World->Prop}{K:Act->World->Prop}{KV:Act->Prop}{l l':Log}{w w' w0 wd:World}{ops:Array Oper}{os os' tail:List Oper}{o:Oper}
variable {d:Nat}{ty:TypeId}{pos:String}{af:Array Edge}{g:Option (Nat×Bool)}{t t':TypeId}{x y z:Operand}
variable {E:Ent}{I I' I0:P6}{H H' R G:List HItem}{X:List Nat}
theorem A0s [Mixed P] {id:Nat} (hm:Mem E I (G++R) w) (q n:Nat) (hB:C0w os.toArray q n=true:=by kernel_rfl)
  (h:∀wd,Mem E I (G++R) wd->Mem ⟨wd,A2p G,I⟩ I G wd->WV P N ds os.toArray (A2p G) wd (fun a'=>A4h P os.toArray (fun w'=>Kept (A2p G) wd w') (fun a' w'=>wpList P os.toArray Q (os.drop n) a' w') ((os.drop q).take (n-q)) a' wd) (os.take q) l):
  WC P N ds (.region id os.toArray true) Q l w:=
 C6e q n (A2p G) hB (fun wd hk=>h wd (hm.kept0 hk) (hm.kept0 hk).sub)
theorem Mem.notG (hR:Mem E I (G++R) w) {i:Nat}{h:HItem} (hi:R[i]?=some h) {b:Nat} (hb:h.blk=some b):b∉A2p G:=fun hx=>by
 obtain⟨k,hk,hkb⟩:=A86 hx;exact(A2t.1 hR.dist).2.2 k hk h (A0B hi) b hkb hb
theorem Mem.notGI (hR:Mem E I (G++R) w) {b:Nat}{o:Obj} (hb:I b=some o):b∉A2p G:=fun hx=>by
 obtain⟨k,hk,hkb⟩:=A86 hx;have:=hR.free k (A1J _ hk) b hkb;rw[hb]at this;cases this
theorem Y3 [TyOne P t] {i b off:Nat}{c:List Value}{e:TypeId}{fr:Nat×Nat}{v:Value} (k:WV P N ds ops (A2p G) w KV os ((d,v)::l)) (hR:Mem E I (G++R) w) (hw:U4 ops l ⟨some d,.load t x,ty,pos,af,g⟩=some true:=by rfl) (hN:Nat.blt d N=true:=by rfl)
  (hx:ev l x=some (.pointer (some ⟨b,off,none⟩)):=by rfl) (hb:R[i]?=some (.obj b (.cells c.toArray e fr)):=by first|exact gt0|exact gt1|exact gt2|exact gt3|exact gt4|exact gt5|exact gt6) (hc:c[off]?=some v:=by rfl)
   :WV P N ds ops (A2p G) w KV (⟨some d,.load t x,ty,pos,af,g⟩::os) l:=
 C0I hw hN hx (hR.right.get hb) (hR.notG hb rfl) (by simpa using hc) k
theorem A3g {n:Nat} [TyAgg P t n] {i b:Nat}{c:List Value}{e:TypeId}{fr:Nat×Nat} (k:WV P N ds ops (A2p G) w KV os ((d,.agg c.toArray)::l)) (hR:Mem E I (G++R) w) (hw:U4 ops l ⟨some d,.load t x,ty,pos,af,g⟩=some true:=by rfl) (hN:Nat.blt d N=true:=by rfl)
  (hx:ev l x=some (.pointer (some ⟨b,0,none⟩)):=by rfl) (hb:R[i]?=some (.obj b (.cells c.toArray e fr)):=by first|exact gt0|exact gt1|exact gt2|exact gt3|exact gt4|exact gt5|exact gt6) (hl:c.length=n:=by rfl)
   :WV P N ds ops (A2p G) w KV (⟨some d,.load t x,ty,pos,af,g⟩::os) l:=
 B59 hw hN hx (hR.right.get hb) (hR.notG hb rfl) hl (fun j v hv=>by simpa using hv) k
theorem A0c [TyOne P t] {b off j tc:Nat}{cs:List Value}{v:Value} (k:WV P N ds ops (A2p G) w KV os ((d,v)::l)) (hR:Mem E I (G++R) w) (hw:U4 ops l ⟨some d,.load t x,ty,pos,af,g⟩=some true:=by rfl) (hN:Nat.blt d N=true:=by rfl)
  (hx:ev l x=some (.pointer (some ⟨b,off+j,none⟩)):=by rfl) (hp:PtrI I b off tc cs:=by assumption) (hc:cs[j]?=some v:=by rfl)
   :WV P N ds ops (A2p G) w KV (⟨some d,.load t x,ty,pos,af,g⟩::os) l:=by
 obtain⟨c,fr,h1,h2⟩:=hp;exact C0I hw hN hx (hR.inv _ _ h1) (hR.notGI h1) (h2 j v hc) k
theorem U7 {f:FuncId} [Own P f] {xs:List Operand}{tys:Array TypeId}{vs:List Value}{Post:Value->P6->List HItem->Prop} (k:∀v I' H' w',Post v I' H'->Le I I'->Mem ⟨w0,X,I0⟩ I' (H'++R) w'->WS P N ds ops Q X w0 os' tail ((d,v)::l) w') (hm:Mem ⟨w0,X,I0⟩ I G w)
  (hw:U4 ops l ⟨some d,.call ⟨.value (.func f),xs.toArray,tys⟩,ty,pos,af,g⟩=some true:=by rfl) (hN:Nat.blt d N=true:=by rfl)
  (hx:evs l xs=some vs:=by rfl) (hp:G.Perm (H++R):=by first|exact pm0|exact pm1_0|exact pm1_1|exact pm1_2|exact pm1_3|exact pm2_0|exact pm2_1|exact pm2_2|exact pm2_3|exact pm2_4|exact pm3_0|exact pm3_1|exact pm3_2) (hc:CalM P f vs.toArray I H Post)
   :
  WS P N ds ops Q X w0 (⟨some d,.call ⟨.value (.func f),xs.toArray,tys⟩,ty,pos,af,g⟩::os') tail l w:=
 B8l rfl hw hN (fun a ha=>by
  have:=ha.evs hx;simp[execOp,resolve,invoke,Act.eval,Deferred.ofValue,this,A2m]) (hc.run w (hm.perm hp).sub) (fun v w' ⟨I',H',h1,h2⟩=>
   have hm':=(hm.perm hp).back h2
   ⟨hm'.kept,k v I' H' w' h1 h2.le hm'⟩)
theorem A1U {e:TypeId}{sz by_:Nat} [TySlice P t e] [Elem P e sz by_] {d1 i:Nat}{s:Operand}{v u:Value}{n:Nat}{xs us:List Value}
  {ty':TypeId}{pos':String}{af':Array Edge} (k:∀a cp b1 w',Mem ⟨w0,X,I0⟩ I (H.set i (.row (.slice a (n+1) cp) e sz (n+1) (xs++us))) w'->WL P N ds ops Q tail ((d,.slice a (n+1) cp)::(d1,.slice (some ⟨b1,0,none⟩) 1 1)::l) w') (hm:Mem ⟨w0,X,I0⟩ I H w) (hN1:Nat.blt d1 N=true:=by rfl) (hN:Nat.blt d N=true:=by rfl)
  (hs:ev l s=some v:=by rfl) (hne:A9S s d1=true:=by rfl) (hx:ev l x=some u:=by rfl) (hi:H[i]?=some (.row v e sz n xs):=by first|exact gt0|exact gt1|exact gt2|exact gt3|exact gt4|exact gt5|exact gt6) (hus:u.cells.toList=us:=by rfl) (hu:us.length=sz:=by rfl) (h1:us.all (·.oneCell')=true:=by rfl)
  (hsz:Nat.ble sz 1024=true:=by rfl) (hlen:(n+1) *by_<=140737488355328:=by omega) (h63:n+1<=9223372036854775807:=by omega)
   :
  WS P N ds ops Q X w0 [⟨some d1,.buildSlice t 1 #[(0,x)],ty,pos,af,none⟩,⟨some d,.call ⟨.builtin .append, #[s,.tmp d1], #[t,t]⟩,ty',pos',af',none⟩] tail l w:=by
 subst hus;obtain⟨i',z,hi',hz,hs',hby,hzc,hpos⟩:=Elem.out (P:=P) (e:=e);have h6:=fun w=>run_underlying (P:=P) (w:=w) (TySlice.out (P:=P) (t:=t))
 have hs2:ev ((d1,.slice (some ⟨w.heap.size,0,none⟩) 1 1)::l) s=some v:=C2I hne hs;have hown:=hm.getRow hi;have hu':u.cells.size=sz:=by simpa using hu
 have hown2:(w.alloc (.cells u.cells e (0,0))).ownsRow 0 e sz v n xs:=hown.alloc _;obtain⟨v',w',hr,ho,hk,hb⟩:=A6K (P:=P) (t:=t) hown2 ⟨w.heap.size,0,none⟩ 1 1 u.cells.toList (by simp[hu']) (fun j r hj=>by
   rw[Addr.add_lit];exact A2j (heap_alloc_new w _) (by simpa using hj)) (fun r hr=>A2Q.1 h1 r hr) h63 hlen (by simp) ty'
 have hk2:Kept v.ownBlock.toList w w':=((Kept.alloc w _).mono (fun _ h=>by cases h)).trans hk;have hb2:v'.ownBlock=v.ownBlock\/∃g,v'.ownBlock=some g/\w.heap.size<=g:=hb.imp_right fun ⟨g,h1,h2⟩=>⟨g,h1,by simp at h2;omega⟩
 have hm':=hm.turn (h':=.row v' e sz (n+1) (xs++u.cells.toList)) hi hk2 ho hb2;refine A3Z (w':=w.alloc (.cells u.cells e (0,0))) (v:=.slice (some ⟨w.heap.size,0,none⟩) 1 1) rfl rfl hN1 (fun a ha=>?_) (hm.kept.step0 (Kept.alloc w _)) ?_
 ·have hz0:¬(2 ^ 24<sz):=by have:=A13 hsz;omega
  have hz1:¬(sz=0):=by omega
  have hf:=B61 hu' ((Array.range sz).map (z.cells[· % z.cells.size]!)) (by simp);simp[execOp,Instr.buildSlice,h6,sizeOf,typeInfo,hi',hs',zeroValue,hz,ha.ev hx,hz0,hz1,hf,newRow,newObj]
  rfl
 ·refine A3Z (w':=w') (v:=v') rfl rfl hN (fun a ha=>?_) hm'.kept (A0w ?_)
  ·have e1:=ha.ev hs2
   have e2:a.eval (.tmp d1)=.slice (some ⟨w.heap.size,0,none⟩) 1 1:=ha.ev (by simp[ev,lk]);simp[execOp,resolve,invoke,builtin,e1,e2,hr]
  ·have hlt:i<H.length:=(A0t.1 hi).1
   obtain⟨a,cp,rfl⟩:=A3D (hm'.getRow (i:=i) (by rw[A2d];simp[hlt];exact⟨rfl,rfl,rfl,rfl,rfl⟩));exact k a cp _ w' hm'
end
def A2W (os:List Oper):List Nat->List Oper
 | []=> []
 |k::ks=>match os[k]? with
  |some o=>o::A2W os ks
  |none=>A2W os ks
section
variable {P:Program}{ops:Array Oper}{md:Region.Mode}{C:World->Prop}
def B7R (md:Region.Mode) (ops:Array Oper) (g n:Nat):List Nat->Array Bool->Bool
 | [],listed=>Region.seqB md ops g n listed
 |k::ks,listed=>decide (Region.ready md ops listed= [k]) && decide (k<n) && B7R md ops g n ks (listed.setIfInBounds k true)
def B0Q (md:Region.Mode) (ops:Array Oper) (g n:Nat) (js:List Nat):List Nat->Array Bool->Bool
 | [],listed=>B7R md ops g n js listed
 |k::ks,listed=>(Region.ready md ops listed).contains k && Region.free md ops listed k && decide (k<n) && B0Q md ops g n js ks (listed.setIfInBounds k true)
theorem B1i {n g:Nat}{Lq:Act->World->Prop}:∀(js:List Nat) (l:List Oper) (listed:Array Bool) (a:Act) (w:World),js.map (ops[·]?)=l.map some->
  B7R md ops g n js listed=true->A4h P ops C Lq l a w->
  A95 P md ops C n (fun listed' a' w'=>Region.seqB md ops g n listed'=true/\Lq a' w') l.length listed a w
 | [],[],listed,a,w,_,hB,h=>⟨by simpa[B7R] using hB,h⟩
 |k::js,o::l,listed,a,w,hl,hB,h=>by
  simp only[X8,A27]at hl;obtain⟨h0,hl'⟩:=hl;simp only[B7R,U9,decide_eq_true_eq]at hB;obtain⟨⟨hB1,hkn⟩,hB2⟩:=hB;refine⟨fun h1=>(by rw[hB1]at h1;cases h1),fun i hi=>?_⟩
  rw[hB1]at hi;have hik:i=k:=by simpa using hi
  subst hik;refine⟨hkn,?_⟩
  have next:∀a' w',A4h P ops C Lq l a' w'->A95 P md ops C n (fun listed' a' w'=>Region.seqB md ops g n listed'=true/\Lq a' w') l.length (listed.setIfInBounds i true) a' w':=fun a' w' h'=>
   B1i js l _ a' w' hl' hB2 h'
  unfold vOp
  simp only[h0];unfold A4h at h
  split
  ·rename_i hw
   rw[if_pos hw]at h;rcases h with ⟨u,w',h1,h2,h3⟩|⟨f,args,h1,h2⟩
   ·exact .inl ⟨u,w',h1,h2,next _ _ h3⟩
   ·exact .inr ⟨f,args,h1,Calls.mono h2 (fun e w' ⟨u,he,hc,h⟩=>⟨u,he,hc,next _ _ h⟩)⟩
  ·rename_i hw
   rw[if_neg hw]at h;exact⟨h.1,next _ _ h.2⟩
 | [],_::_,_,_,_,hl,_,_=>by simp at hl
 |_::_,[],_,_,_,hl,_,_=>by simp at hl
theorem B39 {n g:Nat}{Lq:Act->World->Prop}{js:List Nat}{lt:List Oper} (hsel:Region.noSelect ops=true) (hs:Region.sinkB md ops n=true) (hc:Region.chainB md ops n=true) (hn:n<ops.size)
  (hlt:js.map (ops[·]?)=lt.map some):
  ∀(ks:List Nat) (l:List Oper) (listed:Array Bool) (a:Act) (w:World),C w->ks.map (ops[·]?)=l.map some->HeadInv md ops n listed->
  B0Q md ops g n js ks listed=true->A61 P ops C (fun a'=>A4h P ops C Lq lt a' w) l a->
  A95 P md ops C n (fun listed' a' w'=>Region.seqB md ops g n listed'=true/\Lq a' w') (l.length+lt.length) listed a w
 | [],[],listed,a,w,_,_,_,hB,h=>by
  rw[List.length_nil,V6];exact B1i js lt listed a w hlt (by simpa[B0Q] using hB) h
 |k::ks,o::l,listed,a,w,hC,hl,inv,hB,h=>by
  simp only[X8,A27]at hl;obtain⟨h0,hl'⟩:=hl;simp only[B0Q,U9,decide_eq_true_eq]at hB;obtain⟨⟨⟨hr,hf⟩,hkn⟩,hB'⟩:=hB;have hr':k∈Region.ready md ops listed:=by simpa using hr
  obtain⟨v,hy,hK⟩:=h;rw[show (o::l).length+lt.length=(l.length+lt.length)+1 by simp only[F8];omega];exact B58 h0 (Region.noSelect_spec hsel) hs hc hn hkn (fun listed' a' w' hL=>seqB_ready hL.1) (l.length+lt.length) listed a w hC inv (Region.free_spec h0 hf) hr' hy
   (B39 hsel hs hc hn hlt ks l _ _ w hC hl' (inv.set hr' hkn) hB' hK)
 | [],_::_,_,_,_,_,hl,_,_,_=>by simp at hl
 |_::_,[],_,_,_,_,hl,_,_,_=>by simp at hl
theorem A34 (os:List Oper):∀(ks:List Nat),ks.all (fun k=>Nat.blt k os.length)=true->ks.map (os.toArray[·]?)=(A2W os ks).map some/\(A2W os ks).length=ks.length
 | [],_=>⟨rfl,rfl⟩
 |k::ks,h=>by
  rw[List.all_cons,U9]at h;have hk:k<os.length:=by simpa[A1x] using h.1
  obtain⟨h1,h2⟩:=A34 os ks h.2;have e:os[k]?=some os[k]:=G6 hk;rw[A2W,e];exact⟨by simp only[X8];rw[h1];simp[e],by simp[h2]⟩
def B5V (ops:Array Oper) (ks js:List Nat) (n:Nat):Bool:=
 Region.noSelect ops && decide (n<ops.size) && Region.sinkB .any ops n && Region.chainB .any ops n && B0Q .any ops (ops.size-n) n js ks (Array.replicate ops.size false) && decide (ks.length+js.length=n) &&
  ks.all (fun k=>Nat.blt k ops.size) && js.all (fun k=>Nat.blt k ops.size)
theorem B2k {id:Nat}{Q:Exit->Act->World->Prop}{a:Act}{w:World}{l:List Oper} (ks js:List Nat) (n:Nat) (hm:P.follows .mixedOrders=true) (hB:B5V l.toArray ks js n=true)
  (hC:C { w with drawn:=w.drawn+1})
  (h:A61 P l.toArray C (fun a'=>A4h P l.toArray C (fun a' w'=>wpList P l.toArray Q (l.drop n) a' w') (A2W l js) a' { w with drawn:=w.drawn+1}) (A2W l ks) a):(Code.region id l.toArray true).wp P Q a w:=by
 simp only[B5V,U9,decide_eq_true_eq]at hB;obtain⟨⟨⟨⟨⟨⟨⟨hsel,hn⟩,hs⟩,hc⟩,hlex⟩,hlen⟩,hks⟩,hjs⟩:=hB;have hn':n<l.length:=by simpa using hn
 have hdl:(l.drop n).length=l.toArray.size-n:=by simp
 obtain⟨k1,k2⟩:=A34 l ks (by simpa using hks);obtain⟨j1,j2⟩:=A34 l js (by simpa using hjs);have inv0:HeadInv .any l.toArray n (Array.replicate l.toArray.size false):=
  ⟨by simp,fun j oj _ hl=>(by rw[getD_replicate_false]at hl;cases hl),fun t _ ht=>getD_in (by simpa using ht) (getD_replicate_false _ _)⟩
 have H:=B39 (md:=.any) (g:=l.toArray.size-n) (lt:=A2W l js) hsel hs hc hn j1 ks (A2W l ks) _ a _ hC k1 inv0 hlex h;refine wp_region_any hm ?_
 have:=A8M (Q':=Q) (g:=l.toArray.size-n) (fun listed a' w' hL=>by
  have:=wpAny_of_seq (md:=.any) (Q':=Q) (l.drop n) n listed a' w' (fun j=>by simp) (by rw[hdl];exact hL.1) hL.2
  rwa [hdl]at this) _ _ _ _ H
 rw[k2,j2,hlen,show n+(l.toArray.size-n)=l.toArray.size by omega]at this;exact this
end
section
variable {P:Program}{N:Nat}{ds:List Deferred}{X:List Nat}{Q:Exit->Act->World->Prop}{l:Log}{w:World}{os:List Oper}{E:Ent}{I:P6}{G R:List HItem}
theorem C4B [Mixed P] {id:Nat} (ks js:List Nat) (n:Nat) (X:List Nat) (hB:B5V os.toArray ks js n=true)
  (h:∀wd,Kept [] w wd->WV P N ds os.toArray X wd (fun a'=>A4h P os.toArray (fun w'=>Kept X wd w') (fun a' w'=>wpList P os.toArray Q (os.drop n) a' w') (A2W os js) a' wd) (A2W os ks) l):
  WC P N ds (.region id os.toArray true) Q l w:=
 ⟨fun a ha=>B2k (C:=fun w'=>Kept X { w with drawn:=w.drawn+1} w') ks js n Mixed.out hB (Kept.refl _ _) ((h _ (Kept.drew w)).run a ha)⟩
theorem A0m [Mixed P] {id:Nat} (hm:Mem E I (G++R) w) (ks js:List Nat) (n:Nat) (hB:B5V os.toArray ks js n=true:=by kernel_rfl)
  (h:∀wd,Mem E I (G++R) wd->Mem ⟨wd,A2p G,I⟩ I G wd->WV P N ds os.toArray (A2p G) wd (fun a'=>A4h P os.toArray (fun w'=>Kept (A2p G) wd w') (fun a' w'=>wpList P os.toArray Q (os.drop n) a' w') (A2W os js) a' wd) (A2W os ks) l):
  WC P N ds (.region id os.toArray true) Q l w:=
 C4B ks js n (A2p G) hB (fun wd hk=>h wd (hm.kept0 hk) (hm.kept0 hk).sub)
variable {d:Nat}{ty:TypeId}{pos:String}{af:Array Edge}{g:Option (Nat×Bool)}{t t':TypeId}{x y z:Operand}{ops:Array Oper}{os' tail:List Oper}{w0:World}{I1:P6}{G1 H:List HItem}
theorem A3p {f:FuncId} [Own P f] {xs:List Operand}{tys:Array TypeId}{vs:List Value}{v:Value} (k:∀w',Mem ⟨w0,A2p G,I⟩ I1 G1 w'->WS P N ds ops Q (A2p G) w0 os' tail ((d,v)::l) w') (hR:Mem E I (G++R) w0) (hm:Mem ⟨w0,A2p G,I⟩ I1 G1 w)
  (hw:U4 ops l ⟨some d,.call ⟨.value (.func f),xs.toArray,tys⟩,ty,pos,af,g⟩=some true:=by rfl) (hN:Nat.blt d N=true:=by rfl)
  (hx:evs l xs=some vs:=by rfl) (hs:∀h∈H,h∈R:=by first|exact A64|exact B9H|exact B9I|exact B9J|exact B9K|exact sub2_0|exact sub2_1|exact sub2_2|exact sub2_3|exact sub2_4) (hc:CalR P f vs.toArray I1 H v)
   :
  WS P N ds ops Q (A2p G) w0 (⟨some d,.call ⟨.value (.func f),xs.toArray,tys⟩,ty,pos,af,g⟩::os') tail l w:=
 B8l rfl hw hN (fun a ha=>by
  have:=ha.evs hx;simp[execOp,resolve,invoke,Act.eval,Deferred.ofValue,this,A2m]) (hc.run w hm.inv (fun h hh=>(by
   have hr:=hs h hh;obtain⟨i,hi⟩:=A7S.1 hr;exact(hR.right.ok h hr).kept hm.kept (fun b hb=>hR.notG hi hb)))) (fun u w' ⟨h1,h2⟩=>by subst h1;exact⟨(hm.kept0 h2).kept,k w' (hm.kept0 h2)⟩)
theorem A9w {places:List (Nat×Nat)}{zero:List Value} [StructT P t places zero] {ps:List (Nat×Operand)}{vs:List (Nat×Value)}{r:List Value}{X:List Nat}{I0:P6} (k:WS P N ds ops Q X w0 os' tail ((d,.agg r.toArray)::l) w) (hm:Mem ⟨w0,X,I0⟩ I1 G1 w)
  (hw:U4 ops l ⟨some d,.build t ps.toArray,ty,pos,af,g⟩=some true:=by rfl) (hN:Nat.blt d N=true:=by rfl)
  (hx:evp l ps=some vs:=by rfl) (hr:bld places zero vs=some r:=by rfl)  :
  WS P N ds ops Q X w0 (⟨some d,.build t ps.toArray,ty,pos,af,g⟩::os') tail l w:=
 A3Z rfl hw hN (fun a ha=>by
  have e1:=ha.evp hx;obtain⟨fs,h1,h2,h3⟩:=StructT.out (P:=P) (t:=t);have h4:=run_underlying (P:=P) (w:=w) h1;have h5:=A6L (P:=P) w _ _ h2;have h6:=A8V places vs zero r hr;simp only[bind_pure_comp]at h5;simp only[A2O]at h6;cases hi:P.info? t with
  |none=>simp[hi]at h3
  |some i=>
   simp only[hi,A1m]at h3;simp[execOp,Instr.build,e1,zeroValue,typeInfo,hi,h3,h4,A7O,h5,Value.cells,h6]) hm.kept k
theorem A2H {α:Type}{enc:α->List Value}{e:TypeId}{sz by_:Nat}{X:List Nat}{KV:Act->Prop}{os:List Oper} [TySlice P t e] [Elem P e sz by_] {a:Option Addr}{n cp:Nat}{i:Int}{xs:List α}{z:α} (k:∀b off,PtrI I b off e (enc z)->WV P N ds ops X w KV os ((d,.pointer (some ⟨b,off,none⟩))::l)) (hw:U4 ops l ⟨some d,.indexAddr t x y,ty,pos,af,g⟩=some true:=by rfl) (hN:Nat.blt d N=true:=by rfl)
  (hx:ev l x=some (.slice a n cp):=by rfl) (hy:ev l y=some (.int .i64 i):=by rfl) (hr:RowI I e sz (.slice a n cp) n (xs.flatMap enc)) (he:∀a,(enc a).length=sz) (h0:0<=i:=by omega) (h1:i<n:=by omega) (hz:xs[i.toNat]?=some z)
   :
  WV P N ds ops X w KV (⟨some d,.indexAddr t x y,ty,pos,af,g⟩::os) l:=by
 obtain⟨b,off,rfl,hp⟩:=hr.flat he hz (by omega);exact B2d hw hN hx hy h0 h1 (k b _ hp)
theorem A1W {n:Nat}{KV:Act->Prop} [TyAgg P t n] {b off tc:Nat}{cs:List Value} (k:WV P N ds ops (A2p G) w KV os ((d,.agg cs.toArray)::l)) (hR:Mem E I (G++R) w) (hw:U4 ops l ⟨some d,.load t x,ty,pos,af,g⟩=some true:=by rfl) (hN:Nat.blt d N=true:=by rfl)
  (hx:ev l x=some (.pointer (some ⟨b,off,none⟩)):=by rfl) (hp:PtrI I b off tc cs:=by assumption) (hc:cs.length=n:=by rfl)
   :WV P N ds ops (A2p G) w KV (⟨some d,.load t x,ty,pos,af,g⟩::os) l:=by
 obtain⟨c,fr,h1,h2⟩:=hp;exact B59 hw hN hx (hR.inv _ _ h1) (hR.notGI h1) hc h2 k
theorem A30 {pl:List (Nat×Nat)}{z:List Value} [hS:StructT P t pl z] {n by_:Nat} [Elem P t n by_] {X:List Nat}{I0:P6} (k:∀b w',Mem ⟨w0,X,I0⟩ I (.obj b (.cells z.toArray t (0,0))::H) w'->WS P N ds ops Q X w0 os' tail ((d,.pointer (some ⟨b,0,none⟩))::l) w') (hm:Mem ⟨w0,X,I0⟩ I H w) (hw:U4 ops l ⟨some d,.alloc t,ty,pos,af,g⟩=some true:=by rfl) (hN:Nat.blt d N=true:=by rfl)
   :
  WS P N ds ops Q X w0 (⟨some d,.alloc t,ty,pos,af,g⟩::os') tail l w:=by
 obtain⟨_,_,_,hz⟩:=hS.out;cases hi:P.info? t with
 |none=>simp[hi]at hz
 |some i=>
  simp only[hi,A1m]at hz;have hk:=Kept.alloc w (.cells z.toArray t (0,0));have hm':=hm.add (x:=.obj w.heap.size (.cells z.toArray t (0,0))) hk (heap_alloc_new w _) (fun b hb=>by simp only[HItem.blk,U3]at hb;omega);refine A3Z (w':=w.alloc (.cells z.toArray t (0,0))) (v:=.pointer (some ⟨w.heap.size,0,none⟩)) rfl hw hN (fun a ha=>?_) hm'.kept (k _ _ hm')
  simp[execOp,Instr.alloc,newVar,newRow,newObj,zeroValue,typeInfo,hi,hz,Value.cells];rfl
end
section
variable {P:Program}{ops:Array Oper}{md:Region.Mode}{C:World->Prop}
def B1y (P:Program) (ops:Array Oper) (C:World->Prop) (K:Act->World->Prop):List (Bool×Oper)->Act->World->Prop
 | [],a,w=>K a w
 |(true,o)::r,a,w=> ∃v,A2i P ops C o v a/\B1y P ops C K r (a.put o.dst v) w
 |(false,o)::r,a,w=>if Region.wanted o (yielded ops a.tmps) then (∃u w',(execOp a.eval o).run P w=.ok (.value u) w'/\C w'/\B1y P ops C K r (a.put o.dst u) w')\/
   (∃f args,(execOp a.eval o).run P w=.ok (.enter f args) w/\Calls P f args w (fun e w'=> ∃u,e=.returned u/\C w'/\B1y P ops C K r (a.put o.dst u) w')) else C w/\B1y P ops C K r (a.put o.dst undef) w
def B88 (md:Region.Mode) (ops:Array Oper) (g n:Nat):List (Bool×Nat)->Array Bool->Bool
 | [],listed=>Region.seqB md ops g n listed
 |(true,k)::r,listed=>(Region.ready md ops listed).contains k && Region.free md ops listed k && decide (k<n) && B88 md ops g n r (listed.setIfInBounds k true)
 |(false,k)::r,listed=>decide (Region.ready md ops listed= [k]) && decide (k<n) && B88 md ops g n r (listed.setIfInBounds k true)
theorem B2Q {n g:Nat}{Lq:Act->World->Prop} (hsel:Region.noSelect ops=true) (hs:Region.sinkB md ops n=true) (hc:Region.chainB md ops n=true) (hn:n<ops.size):
  ∀(st:List (Bool×Nat)) (l:List (Bool×Oper)) (listed:Array Bool) (a:Act) (w:World),C w->st.map (fun p=>(p.1,ops[p.2]?))=l.map (fun p=>(p.1,some p.2))->HeadInv md ops n listed->
  B88 md ops g n st listed=true->B1y P ops C Lq l a w->
  A95 P md ops C n (fun listed' a' w'=>Region.seqB md ops g n listed'=true/\Lq a' w') l.length listed a w
 | [],[],listed,a,w,_,_,_,hB,h=>⟨by simpa[B88] using hB,h⟩
 |(true,k)::st,(b,o)::l,listed,a,w,hC,hl,inv,hB,h=>by
  simp only[X8,A27,Prod.mk.injEq]at hl;obtain⟨⟨hb,h0⟩,hl'⟩:=hl;subst hb;simp only[B88,U9,decide_eq_true_eq]at hB;obtain⟨⟨⟨hr,hf⟩,hkn⟩,hB'⟩:=hB;have hr':k∈Region.ready md ops listed:=by simpa using hr
  obtain⟨v,hy,hK⟩:=h;exact B58 h0 (Region.noSelect_spec hsel) hs hc hn hkn (fun listed' a' w' hL=>seqB_ready hL.1) l.length listed a w hC inv (Region.free_spec h0 hf) hr' hy
   (B2Q hsel hs hc hn st l _ _ w hC hl' (inv.set hr' hkn) hB' hK)
 |(false,k)::st,(b,o)::l,listed,a,w,hC,hl,inv,hB,h=>by
  simp only[X8,A27,Prod.mk.injEq]at hl;obtain⟨⟨hb,h0⟩,hl'⟩:=hl;subst hb;simp only[B88,U9,decide_eq_true_eq]at hB;obtain⟨⟨hB1,hkn⟩,hB2⟩:=hB;have hr':k∈Region.ready md ops listed:=by rw[hB1];simp
  refine⟨fun h1=>(by rw[hB1]at h1;cases h1),fun i hi=>?_⟩
  rw[hB1]at hi;have hik:i=k:=by simpa using hi
  subst hik;refine⟨hkn,?_⟩
  have next:∀a' w',C w'->B1y P ops C Lq l a' w'->A95 P md ops C n (fun listed' a' w'=>Region.seqB md ops g n listed'=true/\Lq a' w') l.length (listed.setIfInBounds i true) a' w':=fun a' w' hC' h'=>
   B2Q hsel hs hc hn st l _ a' w' hC' hl' (inv.set hr' hkn) hB2 h'
  unfold vOp
  simp only[h0];unfold B1y at h
  split
  ·rename_i hw
   rw[if_pos hw]at h;rcases h with ⟨u,w',h1,h2,h3⟩|⟨f,args,h1,h2⟩
   ·exact .inl ⟨u,w',h1,h2,next _ _ h2 h3⟩
   ·exact .inr ⟨f,args,h1,Calls.mono h2 (fun e w' ⟨u,he,hc,h⟩=>⟨u,he,hc,next _ _ hc h⟩)⟩
  ·rename_i hw
   rw[if_neg hw]at h;exact⟨h.1,next _ _ h.1 h.2⟩
 | [],_::_,_,_,_,_,hl,_,_,_=>by simp at hl
 |_::_,[],_,_,_,_,hl,_,_,_=>by simp at hl
def B7p (P:Program) (ops:Array Oper) (C:World->Prop) (K:Act->World->Prop):List (List Oper×List Oper)->Act->World->Prop
 | [],a,w=>K a w
 |(q,t)::r,a,w=>A61 P ops C (fun a'=>A4h P ops C (fun a'' w''=>B7p P ops C K r a'' w'') t a' w) q a
def A8v {α:Type}:List (List α×List α)->List (Bool×α)
 | []=> []
 |(q,t)::r=>q.map (fun x=>(true,x))++(t.map (fun x=>(false,x))++A8v r)
theorem B0Z {K:Act->World->Prop}{r:List (Bool×Oper)}:∀(t:List Oper) (a:Act) (w:World),A4h P ops C (fun a' w'=>B1y P ops C K r a' w') t a w->B1y P ops C K (t.map (fun x=>(false,x))++r) a w
 | [],a,w,h=>h
 |o::t,a,w,h=>by
  unfold A4h at h
  rw[X8,Y0];unfold B1y
  split
  ·rename_i hw
   rw[if_pos hw]at h;rcases h with ⟨u,w',h1,h2,h3⟩|⟨f,args,h1,h2⟩
   ·exact .inl ⟨u,w',h1,h2,B0Z t _ _ h3⟩
   ·exact .inr ⟨f,args,h1,Calls.mono h2 (fun e w' ⟨u,he,hc,h⟩=>⟨u,he,hc,B0Z t _ _ h⟩)⟩
  ·rename_i hw
   rw[if_neg hw]at h;exact⟨h.1,B0Z t _ _ h.2⟩
theorem B4O {K:Act->World->Prop}{r:List (Bool×Oper)}{w:World}:∀(q:List Oper) (a:Act),A61 P ops C (fun a'=>B1y P ops C K r a' w) q a->B1y P ops C K (q.map (fun x=>(true,x))++r) a w
 | [],a,h=>h
 |o::q,a,h=>by
  obtain⟨v,h1,h2⟩:=h;exact⟨v,h1,B4O q _ h2⟩
theorem A7x {K K':Act->World->Prop} (hk:∀a w,K a w->K' a w):∀(t:List Oper) (a:Act) (w:World),A4h P ops C K t a w->A4h P ops C K' t a w
 | [],a,w,h=>hk _ _ h
 |o::t,a,w,h=>by
  unfold A4h at h |-
  split
  ·rename_i hw
   rw[if_pos hw]at h;rcases h with ⟨u,w',h1,h2,h3⟩|⟨f,args,h1,h2⟩
   ·exact .inl ⟨u,w',h1,h2,A7x hk t _ _ h3⟩
   ·exact .inr ⟨f,args,h1,Calls.mono h2 (fun e w' ⟨u,he,hc,h⟩=>⟨u,he,hc,A7x hk t _ _ h⟩)⟩
  ·rename_i hw
   rw[if_neg hw]at h;exact⟨h.1,A7x hk t _ _ h.2⟩
theorem B3z {K K':Act->Prop} (hk:∀a,K a->K' a):∀(q:List Oper) (a:Act),A61 P ops C K q a->A61 P ops C K' q a
 | [],a,h=>hk _ h
 |o::q,a,h=>by
  obtain⟨v,h1,h2⟩:=h;exact⟨v,h1,B3z hk q _ h2⟩
theorem B7q {K:Act->World->Prop}:∀(gs:List (List Oper×List Oper)) (a:Act) (w:World),B7p P ops C K gs a w->B1y P ops C K (A8v gs) a w
 | [],_,_,h=>h
 |(q,t)::r,a,w,h=>B4O q a (B3z (fun a' h'=>B0Z t a' w (A7x (fun a'' w'' h''=>B7q r a'' w'' h'') t a' w h')) q a h)
def B1Z (os:List Oper):List (List Nat×List Nat)->List (List Oper×List Oper)
 | []=> []
 |(ks,js)::r=>(A2W os ks,A2W os js)::B1Z os r
def C4L (n:Nat):List (List Nat×List Nat)->Bool
 | []=>true
 |(ks,js)::r=>ks.all (fun k=>Nat.blt k n) && (js.all (fun k=>Nat.blt k n) && C4L n r)
theorem B4L (os:List Oper):∀(gs:List (List Nat×List Nat)),C4L os.length gs=true->(A8v gs).map (fun p=>(p.1,os.toArray[p.2]?))=(A8v (B1Z os gs)).map (fun p=>(p.1,some p.2))/\(A8v (B1Z os gs)).length=(A8v gs).length
 | [],_=>⟨rfl,rfl⟩
 |(ks,js)::r,h=>by
  simp only[C4L,U9]at h;obtain⟨k1,k2⟩:=A34 os ks h.1;obtain⟨j1,j2⟩:=A34 os js h.2.1;obtain⟨r1,r2⟩:=B4L os r h.2.2;constructor
  ·simp only[B1Z,A8v,Y8,List.map_map]
   rw[r1];have e:∀(b:Bool) (ks:List Nat) (l:List Oper),ks.map (os.toArray[·]?)=l.map some->ks.map ((fun p:Bool×Nat=>(p.1,os.toArray[p.2]?)) ∘ fun x=>(b,x))=l.map ((fun p:Bool×Oper=>(p.1,some p.2)) ∘ fun x=>(b,x)):=fun b ks l hl=>by
    have:=congrArg (List.map (fun z=>(b,z))) hl;simpa[List.map_map,Function.comp_def] using this
   rw[e true ks _ k1,e false js _ j1]
  ·simp only[B1Z,A8v,E9,A0g]
   rw[k2,j2,r2]
def C3p (ops:Array Oper) (gs:List (List Nat×List Nat)) (n:Nat):Bool:=
 Region.noSelect ops && decide (n<ops.size) && Region.sinkB .any ops n && Region.chainB .any ops n && B88 .any ops (ops.size-n) n (A8v gs) (Array.replicate ops.size false) && decide ((A8v gs).length=n) && C4L ops.size gs
theorem B34 {id:Nat}{Q:Exit->Act->World->Prop}{a:Act}{w:World}{l:List Oper} (gs:List (List Nat×List Nat)) (n:Nat) (hm:P.follows .mixedOrders=true) (hB:C3p l.toArray gs n=true)
  (hC:C { w with drawn:=w.drawn+1})
  (h:B7p P l.toArray C (fun a' w'=>wpList P l.toArray Q (l.drop n) a' w') (B1Z l gs) a { w with drawn:=w.drawn+1}):(Code.region id l.toArray true).wp P Q a w:=by
 simp only[C3p,U9,decide_eq_true_eq]at hB;obtain⟨⟨⟨⟨⟨⟨hsel,hn⟩,hs⟩,hc⟩,hlex⟩,hlen⟩,hall⟩:=hB;have hn':n<l.length:=by simpa using hn
 have hdl:(l.drop n).length=l.toArray.size-n:=by simp
 obtain⟨k1,k2⟩:=B4L l gs (by simpa using hall);have inv0:HeadInv .any l.toArray n (Array.replicate l.toArray.size false):=
  ⟨by simp,fun j oj _ hl=>(by rw[getD_replicate_false]at hl;cases hl),fun t _ ht=>getD_in (by simpa using ht) (getD_replicate_false _ _)⟩
 have H:=B2Q (md:=.any) (g:=l.toArray.size-n) hsel hs hc hn (A8v gs) (A8v (B1Z l gs)) _ a _ hC k1 inv0 hlex (B7q _ _ _ h);refine wp_region_any hm ?_
 have:=A8M (Q':=Q) (g:=l.toArray.size-n) (fun listed a' w' hL=>by
  have:=wpAny_of_seq (md:=.any) (Q':=Q) (l.drop n) n listed a' w' (fun j=>by simp) (by rw[hdl];exact hL.1) hL.2
  rwa [hdl]at this) _ _ _ _ H
 rw[k2,hlen,show n+(l.toArray.size-n)=l.toArray.size by omega]at this;exact this
end
section
variable {P:Program}{N:Nat}{ds:List Deferred}{X:List Nat}{Q:Exit->Act->World->Prop}{l:Log}{w w0:World}{os tail:List Oper}{ops:Array Oper}{E:Ent}{I:P6}{G R:List HItem}
structure WX (P:Program) (N:Nat) (ds:List Deferred) (ops:Array Oper) (Q:Exit->Act->World->Prop) (X:List Nat) (w0:World) (gs:List (List Oper×List Oper)) (tail:List Oper) (l:Log) (w:World):Prop where
 run:∀a,Fits N ds l a->B7p P ops (fun w'=>Kept X w0 w') (fun a' w'=>wpList P ops Q tail a' w') gs a w
theorem A8s [Mixed P] {id:Nat} (hm:Mem E I (G++R) w) (gs:List (List Nat×List Nat)) (n:Nat) (hB:C3p os.toArray gs n=true:=by kernel_rfl)
  (h:∀wd,Mem E I (G++R) wd->Mem ⟨wd,A2p G,I⟩ I G wd->WX P N ds os.toArray Q (A2p G) wd (B1Z os gs) (os.drop n) l wd):
  WC P N ds (.region id os.toArray true) Q l w:=
 ⟨fun a ha=>B34 (C:=fun w'=>Kept (A2p G) { w with drawn:=w.drawn+1} w') gs n Mixed.out hB (Kept.refl _ _) ((h _ (hm.kept0 (Kept.drew w)) (hm.kept0 (Kept.drew w)).sub).run a ha)⟩
theorem B6d (h:WL P N ds ops Q tail l w):WX P N ds ops Q X w0 [] tail l w:=⟨fun a ha=>h.run a ha⟩
theorem B2F {q t:List Oper}{r:List (List Oper×List Oper)} (h:WV P N ds ops X w0 (fun a'=>A4h P ops (fun w'=>Kept X w0 w') (fun a'' w''=>B7p P ops (fun w'=>Kept X w0 w') (fun a' w'=>wpList P ops Q tail a' w') r a'' w'') t a' w) q l):
  WX P N ds ops Q X w0 ((q,t)::r) tail l w:=⟨fun a ha=>h.run a ha⟩
theorem B2E {t:List Oper}{r:List (List Oper×List Oper)} (h:WS P N ds ops (fun _ a w=>B7p P ops (fun w'=>Kept X w0 w') (fun a' w'=>wpList P ops Q tail a' w') r a w) X w0 t [] l w):
  WV P N ds ops X w0 (fun a'=>A4h P ops (fun w'=>Kept X w0 w') (fun a'' w''=>B7p P ops (fun w'=>Kept X w0 w') (fun a' w'=>wpList P ops Q tail a' w') r a'' w'') t a' w) [] l:=⟨fun a ha=>by
 refine A7x (fun a' w' h'=>?_) t a w (h.run a ha)
 simpa[wpList] using h'⟩
theorem C4R {r:List (List Oper×List Oper)} (h:WX P N ds ops Q X w0 r tail l w):At N ds (fun _ a w=>B7p P ops (fun w'=>Kept X w0 w') (fun a' w'=>wpList P ops Q tail a' w') r a w) .normal l w:=⟨fun a ha=>h.run a ha⟩
end
section
variable {P:Program}{N:Nat}{ds:List Deferred}{Q:Exit->Act->World->Prop}{K:Act->World->Prop}{l l':Log}{w w':World}{ops:Array Oper}{os:List Oper}
variable {d:Nat}{ty:TypeId}{pos:String}{af:Array Edge}{g:Option (Nat×Bool)}{t t':TypeId}{x y z:Operand}
variable {E:Ent}{I I':P6}{H H' R:List HItem}
theorem A1R {e:TypeId} [TySlice P t e] {a:Option Addr}{n c:Nat}{k0:Value} (k:WL P N ds ops Q os ((d,.bool a.isNone)::l) w) (hw:U4 ops l ⟨some d,.binOp .eql t x (.const k0) t',ty,pos,af,g⟩=some true:=by rfl) (hN:Nat.blt d N=true:=by rfl)
  (hx:ev l x=some (.slice a n c):=by rfl) (hk:k0=.slice none 0 0:=by rfl)  :
  WL P N ds ops Q (⟨some d,.binOp .eql t x (.const k0) t',ty,pos,af,g⟩::os) l w:=
 U6 rfl hw hN (fun c' hc=>by
  subst hk;have h1:=run_underlying (P:=P) (w:=w) (TySlice.out (P:=P) (t:=t));have e2:c'.eval (.const (.slice none 0 0))=.slice none 0 0:=rfl;have h2:(Op.equal t (.slice a n c) (.slice none 0 0)).run P w=.ok a.isNone w:=by
   show (Op.equalIn (9999+1) t (.slice a n c) (.slice none 0 0)).run P w=_
   rw[Op.equalIn];cases a<;>simp[h1]
  simp[execOp,hc.ev hx,e2,eqGuard,binOp,h2]) k
theorem A2R {e:TypeId}{sz by_ n:Nat} [TySlice P t e] [Elem P e sz by_] {ps:List (Nat×Operand)}{vs:List (Nat×Value)}{xs:List Value} (k:∀b w',Mem E I (.row (.slice (some ⟨b,0,none⟩) n n) e sz n xs::H) w'->WL P N ds ops Q os ((d,.slice (some ⟨b,0,none⟩) n n)::l) w') (hm:Mem E I H w)
  (hw:U4 ops l ⟨some d,.buildSlice t n ps.toArray,ty,pos,af,g⟩=some true:=by rfl) (hN:Nat.blt d N=true:=by rfl) (hx:evp l ps=some vs:=by rfl)
  (hi:vs.map (·.1)=List.range' 0 n:=by rfl) (hs:vs.all (fun p=>Nat.beq p.2.cells.toList.length sz)=true:=by rfl) (hn:Nat.ble (n *sz) 16777216=true:=by rfl) (hn2:Nat.ble n 16777216=true:=by rfl) (hxs:vs.flatMap (·.2.cells.toList)=xs:=by rfl) (hl:xs.length=n *sz:=by rfl)
   :
  WL P N ds ops Q (⟨some d,.buildSlice t n ps.toArray,ty,pos,af,g⟩::os) l w:=by
 subst hxs;refine A5E hw hN hx hi hs (A13 hn) (fun b w' hb hh hk=>k b w' (hm.add hk ⟨hl,.inr ⟨b,n,_,rfl,H7 _,hh,G9 _,?_,by simpa using hl,?_⟩⟩ (fun b' hb'=>?_)))
 ·have:=A13 hn2
  unfold maxLen;omega
 ·rw[<-hl];exact V5
 ·simp only[HItem.blk,Value.ownBlock,U3]at hb';omega
theorem A9t {e:TypeId}{sz by_:Nat} [TySlice P t e] [Elem P e sz by_] {i:Nat}{v:Value}{n m cp:Nat}{ad:Addr}{xs us:List Value} (k:∀a cp' w',Mem E I (H.set i (.row (.slice a (n+m) cp') e sz (n+m) (xs++us))) w'->WL P N ds ops Q os ((d,.slice a (n+m) cp')::l) w') (hm:Mem E I H w)
  (hw:U4 ops l ⟨some d,.call ⟨.builtin .append, #[x,y], #[t,t]⟩,ty,pos,af,g⟩=some true:=by rfl) (hN:Nat.blt d N=true:=by rfl)
  (hx:ev l x=some v:=by rfl) (hy:ev l y=some (.slice (some ad) m cp):=by rfl) (hi:H[i]?=some (.row v e sz n xs):=by first|exact gt0|exact gt1|exact gt2|exact gt3|exact gt4|exact gt5|exact gt6) (hr:RowI I e sz (.slice (some ad) m cp) m us) (h1:us.all (·.oneCell')=true)
  (hlen:(n+m) *by_<=140737488355328:=by omega) (h63:n+m<=9223372036854775807:=by omega)
   :
  WL P N ds ops Q (⟨some d,.call ⟨.builtin .append, #[x,y], #[t,t]⟩,ty,pos,af,g⟩::os) l w:=by
 have hown:=hm.getRow hi;have hus:=hr.len;have hcell:∀j u,us[j]?=some u->w.cell? (ad.add j)=some u:=fun j u hj=>by
  obtain⟨_,a',cap',e1,e2,e3⟩:=hr;injection e1 with e1 _ _
  have hm0:0<m:=by
   rcases A4B m with h0|h0
   ·rw[h0,A1n]at hus
    have:=A00 hus;subst this;simp at hj
   ·exact h0
  obtain⟨b,off,c,fr,f1,f2,f3⟩:=e3 hm0;rw[f1]at e1;injection e1 with e1
  subst e1;rw[Addr.add_lit];exact A2j (hm.inv _ _ f2) (f3 j u hj)
 obtain⟨v',w',hrun,ho,hk,hb⟩:=A6K (P:=P) (t:=t) hown ad m cp us hus hcell (fun r hr=>A2Q.1 h1 r hr) h63 hlen (H7 _) ty;have hm':=hm.turn (h':=.row v' e sz (n+m) (xs++us)) hi hk ho (hb.imp_right fun ⟨g,h1,h2⟩=>⟨g,h1,h2⟩);have hlt:i<H.length:=(A0t.1 hi).1;obtain⟨a,cp',rfl⟩:=A3D (hm'.getRow (i:=i) (by rw[A2d];simp[hlt];exact⟨rfl,rfl,rfl,rfl,rfl⟩));refine U6 (w':=w') (v:=.slice a (n+m) cp') rfl hw hN (fun a ha=>?_) (k a cp' w' hm')
 simp[execOp,resolve,invoke,builtin,ha.ev hx,ha.ev hy,hrun]
theorem A4o {G:List HItem}{KV:Act->Prop}{n:Nat} [TyAgg P t n] {i b off:Nat}{c:List Value}{e:TypeId}{fr:Nat×Nat}{vs:List Value} (k:WV P N ds ops (A2p G) w KV os ((d,.agg vs.toArray)::l)) (hR:Mem E I (G++R) w) (hw:U4 ops l ⟨some d,.load t x,ty,pos,af,g⟩=some true:=by rfl) (hN:Nat.blt d N=true:=by rfl)
  (hx:ev l x=some (.pointer (some ⟨b,off,none⟩)):=by rfl) (hb:R[i]?=some (.obj b (.cells c.toArray e fr)):=by first|exact gt0|exact gt1|exact gt2|exact gt3|exact gt4|exact gt5|exact gt6) (hc:(c.drop off).take n=vs:=by rfl) (hl:vs.length=n:=by rfl)
   :WV P N ds ops (A2p G) w KV (⟨some d,.load t x,ty,pos,af,g⟩::os) l:=
 B59 hw hN hx (hR.right.get hb) (hR.notG hb rfl) hl (fun j v hv=>by
  rw[<-hc,A1L]at hv;split at hv
  ·rw[A14]at hv;simpa using hv
  ·cases hv) k
end
end Go.Fw
