/- Own work: the law InferLeast. -/
import Derived.Test.YtbmbnippbldmfaaGreatDoorRa23
set_option maxHeartbeats 64000000
namespace Go.Fw
open Go.Sp
open Go
section
variable {P:Program}{N:Nat}{ds:List Deferred}{K:Act->World->Prop}{l l':Log}{w w':World}{ops:Array Oper}{os:List Oper}{o:Oper}
variable {d:Nat}{ty:TypeId}{pos:String}{af:Array Edge}{g:Option (Nat×Bool)}{t t':TypeId}{x y:Operand}{ik:IntKind}
theorem D8g {a b:Int} (k:WQ P N ds ops w K os ((d,.bool (decide (b<=a)))::l)) (hw:X9 ops l ⟨some d,.binOp .geq t x y t',ty,pos,af,g⟩=some true:=by rfl) (hN:Nat.blt d N=true:=by rfl) (hx:ev l x=some (.int ik a):=by rfl) (hy:ev l y=some (.int ik b):=by rfl)
   :WQ P N ds ops w K (⟨some d,.binOp .geq t x y t',ty,pos,af,g⟩::os) l:=
 A1T rfl hw hN (fun w' hkq c hc=>by simp[execOp,hc.ev hx,hc.ev hy,eqGuard,binOp,Op.intCmp]) k
end
end Go.Fw
namespace Go.Sp
theorem A38 {a b c:Nat} (h1:A1i a b=true) (h2:A1i b c=true):A1i a c=true:=
 (A2A a c).2 (fun k hk h=>(A2A b c).1 h2 k hk ((A2A a b).1 h1 k hk h))
theorem C2J (a b c:Nat):A1i (a|||b) c=(A1i a c && A1i b c):=by
 rw[A06,Q3,A2A,A2A,A2A];constructor
 ·intro h
  exact⟨fun k hk h1=>h k hk (by rw[Nat.testBit_or,h1];rfl),fun k hk h1=>h k hk (by rw[Nat.testBit_or,h1,Bool.or_true])⟩
 ·rintro⟨h1,h2⟩ k hk h3
  rw[Nat.testBit_or,A1f]at h3;exact h3.elim (h1 k hk) (h2 k hk)
end Go.Sp
namespace Go.Fw
open Go.Sp
open Go
section
variable {P:Program}{N:Nat}{ds:List Deferred}{Q:Exit->Act->World->Prop}{K:Act->World->Prop}{l l':Log}{w w':World}{ops:Array Oper}{os:List Oper}{o:Oper}
variable {d:Nat}{ty:TypeId}{pos:String}{af:Array Edge}{g:Option (Nat×Bool)}{t t':TypeId}{x y z:Operand}
variable {E:Ent}{I I':P8}{H H' R:List HItem}
theorem D7o {α:Type} (id:Nat) (L:α->Log) (J:α->World->Prop)
  (h:WL P N ds ops (Exit.then (fun a w=> ∃x,Fits N ds (L x) a/\J x w) Q) ops.toList l w) (k:∀x w,J x w->At N ds Q .normal (L x) w):WC P N ds (.region id ops false) Q l w:=
 ⟨fun a ha=>wp_mono ((A8 h).run a ha) (fun e a w q=>by
  cases e<;>first|exact q|(obtain⟨x,hx,hj⟩:=q;exact(k x w hj).run a hx))⟩
end
section
variable {P:Program}{N:Nat}{ds:List Deferred}{Q:Exit->Act->World->Prop}{l l':Log}{w w':World}{ops:Array Oper}{os:List Oper}
variable {d:Nat}{ty:TypeId}{pos:String}{af:Array Edge}{g:Option (Nat×Bool)}{t t':TypeId}{x y z:Operand}
variable {E:Ent}{I I':P8}{H H' R:List HItem}
end
theorem B8L {r:HItem}{A B C D:List HItem}:(r::(A++((B++C)++D))).Perm (B++(r::(A++(C++D)))):=by
 have h1:(A++((B++C)++D)).Perm (B++(A++(C++D))):=by
  rw[J5];exact(A8D A B (C++D))
 exact(h1.cons r).trans (List.perm_middle (l₁:=B) (a:=r) (l₂:=A++(C++D))).symm
theorem D4y {r:HItem}{A B C D:List HItem}:(B++(r::(A++(C++D)))).Perm (C++(r::(A++(B++D)))):=by
 have h1:(B++(r::(A++(C++D)))).Perm (r::(B++(A++(C++D)))):=List.perm_middle;have h2:(B++(A++(C++D))).Perm (C++(A++(B++D))):=by
  refine(A8D B A (C++D)).trans ?_
  refine((A8D B C D).append_left A).trans ?_
  exact A8D A C (B++D)
 exact h1.trans ((h2.cons r).trans (List.perm_middle (l₁:=C) (a:=r) (l₂:=A++(B++D))).symm)
theorem D6K {r:HItem}{A B C D:List HItem}:(C++(r::(A++(B++D)))).Perm (r::(A++((B++C)++D))):=
 D4y.trans B8L.symm
section
variable {P:Program}{N:Nat}{ds:List Deferred}{Q:Exit->Act->World->Prop}{K:Act->World->Prop}{KV:Act->Prop}{l l':Log}{w w' w0:World}{ops:Array Oper}{os:List Oper}
variable {d:Nat}{ty:TypeId}{pos:String}{af:Array Edge}{g:Option (Nat×Bool)}{t t':TypeId}{x y z:Operand}
variable {E:Ent}{I I':P8}{H H' R G:List HItem}
theorem C5w [TyOne P t] {i b off n cp sz:Nat}{e:TypeId}{xs:List Value}{v:Value} (hm:Mem E I H w) (hw:X9 ops l ⟨some d,.load t x,ty,pos,af,g⟩=some true) (hN:Nat.blt d N=true)
  (hx:ev l x=some (.pointer (some ⟨b,off,none⟩))) (hb:H[i]?=some (.row (.slice (some ⟨b,0,none⟩) n cp) e sz n xs)) (hc:xs[off]?=some v)
  (k:WQ P N ds ops w K os ((d,v)::l)):WQ P N ds ops w K (⟨some d,.load t x,ty,pos,af,g⟩::os) l:=by
 obtain⟨c,fr,h1,h2⟩:=Mem.rowCell (hm.ok _ (A03 hb)) hc;exact A2V hw hN hx h1 h2 k
end
section
variable {P:Program}{N:Nat}{ds:List Deferred}{Q:Exit->Act->World->Prop}{K:Act->World->Prop}{KV:Act->Prop}{l:Log}{w w0:World}{ops:Array Oper}{os os' tail:List Oper}{X:List Nat}
variable {d:Nat}{ty:TypeId}{pos:String}{af:Array Edge}{g:Option (Nat×Bool)}{t:TypeId}{x y z:Operand}{E:Ent}{I I0:P8}{H G R:List HItem}{n f:Nat}{listed:Array Bool}
theorem B0W {kt et:TypeId} [TyMap P t kt et] [TyInt P kt .i64] {i b:Nat}{es:A1U}{s:Int}{zv:Value} (hm:Mem E I H w) (hw:X9 ops l ⟨some d,.lookup t x y false,ty,pos,af,g⟩=some true) (hN:Nat.blt d N=true)
  (hx:ev l x=some (.map (some b))) (hy:ev l y=some (A5R s)) (hi:H[i]?=some (.mz b es)) (hz:∀w,(zeroValue et).run P w=.ok zv w)
  (k:WQ P N ds ops w K os ((d,A8Z es s zv)::l)):WQ P N ds ops w K (⟨some d,.lookup t x y false,ty,pos,af,g⟩::os) l:=by
 have hg:=hm.get hi;exact A1T rfl hw hN (fun w' hkq a ha=>A9z ha hx hy (by rw[hkq.blk b (A3n hg) (by simp)];exact hg) hz) k
theorem B7O {kt et:TypeId} [TyMap P t kt et] [TyInt P kt .i64] {i b:Nat}{es:A1U}{s:Int}{zv:Value} (hR:Mem E I (G++R) w) (hw:X9 ops l ⟨some d,.lookup t x y false,ty,pos,af,g⟩=some true) (hN:Nat.blt d N=true)
  (hx:ev l x=some (.map (some b))) (hy:ev l y=some (A5R s)) (hi:R[i]?=some (.mz b es)) (hz:∀w,(zeroValue et).run P w=.ok zv w)
  (k:WV P N ds ops (A3N G) w KV os ((d,A8Z es s zv)::l)):WV P N ds ops (A3N G) w KV (⟨some d,.lookup t x y false,ty,pos,af,g⟩::os) l:=by
 have hg:=hR.right.get hi;have hnG:=hR.notG hi rfl;exact A2p rfl hw hN (fun w' hkq a ha=>A9z ha hx hy (by rw[hkq.blk b (A3n hg) hnG];exact hg) hz) k
theorem C1g {kt et:TypeId} [TyMap P t kt et] [TyInt P kt .i64] {b:Nat}{es:A1U}{s:Int}{zv:Value} (hb:w.heap[b]?=some (.map (A2R es 0).toArray es.length)) (_:(es.map (·.1)).Nodup) (hz:∀w,(zeroValue et).run P w=.ok zv w):
  ∃(es1:A1U) (j:Nat) (u:Value) (w':World),(Instr.mapEntry t (.map (some b)) (A5R s)).run P w=.ok (.tuple #[u,.int .i64 (j:Int)]) w'/\w'.heap[b]?=some (.map (A2R es1 0).toArray es1.length)/\Kept [b] w w'/\es1[j]?=some (s,u)/\∀v,es1.set j (s,v)=A4A es s v:=by
 have h1:=run_underlying (P:=P) (w:=w) (TyMap.out (P:=P) (t:=t));have hk:=TyInt.out (P:=P) (t:=kt);have h2:=A8w (P:=P) (w:=w) hk s es 0;have h3:=A7V (P:=P) (w:=w) hk s false;have h4:=MapKept.run_getObj_map (P:=P) hb;have h5:=fun o'=>MapKept.run_setObj_map (P:=P) o' hb
 have hlt:=A3n hb;cases hf:es.findIdx? (fun p=>decide (p.1=s)) with
 |none=>
  rw[hf]at h2;have e1:(A2R (es++ [(s,zv)]) 0).toArray=(A2R es 0).toArray.push { key:=A5R s,val:=zv,born:=es.length}:=by
   simp[A2R,List.zipIdx_append]
  refine⟨es++ [(s,zv)],es.length,zv, { w with heap:=w.heap.setIfInBounds b (.map ((A2R es 0).toArray.push { key:=A5R s,val:=zv,born:=es.length}) (es.length+1))},?_,?_,⟨rfl,rfl,rfl,by simp,fun i hi hx=>?_⟩,by simp,fun v=>?_⟩
  ·simp only[Instr.mapEntry,Sem.run_bind,h1,Result.andThen_ok,h4,h3,h2,Option.bind_none,hz,h5,Sem.run_pure]
   rfl
  ·rw[e1,D9]
   simp[hlt]
  ·have:b≠i:=by rintro rfl;simp at hx
   simp[A5Z this]
  ·rw[A4A,hf]
   simp
 |some j=>
  obtain⟨hj,hsj,_⟩:=A3k.1 hf;have hsj':es[j].1=s:=by simpa using hsj
  rw[hf]at h2;have hg:es[j]?=some es[j]:=F9 hj;simp only[A2i,hg,A1g,V9]at h2;have hkey:(A2R es 0).toArray[j]?=some { key:=A5R s,val:=es[j].2,born:=j}:=by
   simp[A2R,hg,hsj']
  have h6:(Instr.keyThatStays (A5R s) (A5R s)).run P w=.ok (A5R s) w:=by
   have:Instr.sameBits 10000 (A5R s) (A5R s)=true:=by simp[Instr.sameBits]
   simp[Instr.keyThatStays,this]
  have e2:=B0z es j s es[j].2;have e3:es.set j (s,es[j].2)=es:=by
   apply A3B
   intro i;rw[A25];by_cases e:j=i
   ·subst e
    rw[if_pos rfl,if_pos hj,hg, <-hsj']
   ·rw[if_neg e]
  have e4:((A2R es 0).toArray.modify j fun e=> { e with key:=A5R s})=(A2R es 0).toArray:=by
   rw[<-B0U];apply A3B
   intro i;rw[B0N,B0N,A4o];by_cases e:j=i
   ·subst e
    rw[if_pos rfl,hkey];rfl
   ·rw[if_neg e]
  refine⟨es,j,es[j].2, { w with heap:=w.heap.setIfInBounds b (.map (A2R es 0).toArray es.length)},?_,by simp[hlt],⟨rfl,rfl,rfl,by simp,fun i hi hx=>?_⟩,by rw[hg, <-hsj'],fun v=>by rw[A4A,hf]⟩
  ·simp only[Instr.mapEntry,Sem.run_bind,h1,Result.andThen_ok,h4,h3,h2,hkey,A1g,Option.getD_some,h6,h5,Sem.run_pure]
   rw[e4]
   rfl
  ·have:b≠i:=by rintro rfl;simp at hx
   simp[A5Z this]
theorem C0U {kt et:TypeId} [TyMap P t kt et] [TyInt P kt .i64] {i b:Nat}{es:A1U}{s:Int}{zv:Value} (hm:Mem ⟨w0,X,I0⟩ I H w) (hw:X9 ops l ⟨some d,.mapEntry t x y,ty,pos,af,g⟩=some true) (hN:Nat.blt d N=true)
  (hx:ev l x=some (.map (some b))) (hy:ev l y=some (A5R s)) (hi:H[i]?=some (.mz b es)) (hn:(es.map (·.1)).Nodup) (hz:∀w,(zeroValue et).run P w=.ok zv w)
  (k:∀(es1:A1U) (j:Nat) (u:Value) (w':World),es1[j]?=some (s,u)->(∀v,es1.set j (s,v)=A4A es s v)->Mem ⟨w0,X,I0⟩ I (H.set i (.mz b es1)) w'->WA P N ds ops Q X w0 n f listed tail ((d,.tuple #[u,.int .i64 (j:Int)])::l) w'):
  WU P N ds ops Q X w0 n f listed tail ⟨some d,.mapEntry t x y,ty,pos,af,g⟩ l w:=by
 obtain⟨es1,j,u,w',hr,hh,hk,hj,hp⟩:=C1g (P:=P) (t:=t) (s:=s) (hm.get hi) hn hz;have hm':=hm.turn (h':=.mz b es1) hi (by simpa[HItem.blk] using hk) hh (.inl rfl);refine A6w (w':=w') rfl hw hN (fun a ha=>?_) hm'.kept (k es1 j u w' hj hp hm')
 simp[execOp,ha.ev hx,ha.ev hy,hr]
theorem C6A {m:Nat}{vs:Array Value}{v:Value} (hC:Kept X w0 w) (hw:X9 ops l ⟨some d,.extract x m,ty,pos,af,g⟩=some true) (hN:Nat.blt d N=true)
  (hx:ev l x=some (.tuple vs)) (hv:vs[m]?=some v) (k:WA P N ds ops Q X w0 n f listed tail ((d,v)::l) w):WU P N ds ops Q X w0 n f listed tail ⟨some d,.extract x m,ty,pos,af,g⟩ l w:=
 A6w (w':=w) rfl hw hN (fun a ha=>by simp[execOp,ha.ev hx,Instr.extract,hv]) hC k
theorem C96 (es:A1U) {j:Nat} (hj:j<es.length):(A2R es 0).toArray.findIdx? (fun e=>(e.born:Int)==(j:Int))=some j:=by
 rw[List.findIdx?_toArray,A3k];have hl:(A2R es 0).length=es.length:=by simp[A2R]
 refine⟨by omega,by simp[A2R],fun i hi=>?_⟩
 simp[A2R];omega
theorem B7M {i b j:Nat}{es es1:A1U}{s:Int}{u v:Value}{dst:Option Nat} (hm:Mem ⟨w0,X,I0⟩ I H w) (hd:dst=none) (hw:X9 ops l ⟨dst,.entryStore t x y z,ty,pos,af,g⟩=some true)
  (hx:ev l x=some (.map (some b))) (hy:ev l y=some (.int .i64 (j:Int))) (hz:ev l z=some v) (hi:H[i]?=some (.mz b es1)) (hj:es1[j]?=some (s,u)) (hp:∀v,es1.set j (s,v)=A4A es s v)
  (k:∀w',Mem ⟨w0,X,I0⟩ I (H.set i (.mz b (A4A es s v))) w'->WA P N ds ops Q X w0 n f listed tail l w'):
  WU P N ds ops Q X w0 n f listed tail ⟨dst,.entryStore t x y z,ty,pos,af,g⟩ l w:=by
 subst hd;have hb:=hm.get hi;have hlt:=A3n hb;have h4:=MapKept.run_getObj_map (P:=P) hb;have h5:=fun o'=>MapKept.run_setObj_map (P:=P) o' hb
 have hjl:=(A0D.1 hj).1;have h6:=C96 es1 hjl;have e1:((A2R es1 0).toArray.modify j fun e=> { e with val:=v})=(A2R (A4A es s v) 0).toArray:=by
  rw[<-hp v, <-B0z es1 j s v, <-B0U];apply A3B
  intro i;rw[B0N,B0N,A4o,A4o];by_cases e:j=i
  ·subst e
   rw[if_pos rfl,if_pos rfl];simp[A2R,hj]
  ·rw[if_neg e,if_neg e]
 have hl:es1.length=(A4A es s v).length:=by rw[<-hp v,A29]
 have hkept:Kept [b] w { w with heap:=w.heap.setIfInBounds b (.map (A2R (A4A es s v) 0).toArray (A4A es s v).length)}:=
  ⟨rfl,rfl,rfl,by simp,fun i hi hx=>by
   have:b≠i:=by rintro rfl;simp at hx
   simp[A5Z this]⟩
 have hm':=hm.turn (h':=.mz b (A4A es s v)) hi (by simpa[HItem.blk] using hkept) (by
  show HItem.ok _ _
  simp[HItem.ok,hlt]) (.inl rfl)
 rw[hl]at h4;refine B6K rfl hw (fun a ha=>?_) hm'.kept (k _ hm')
 simp[execOp,Instr.entryStore,ha.ev hx,ha.ev hy,ha.ev hz,h4,asInt,asIntOf,h6,e1,h5]
end
theorem Mem.freezeMZ {E:Ent}{I:P8}{H:List HItem}{w:World}{b:Nat}{es:A1U} (hm:Mem E I (.mz b es::H) w):∃I',Le I I'/\Mem E I' H w/\B8T I' b es:=by
 have hf:=hm.free _ O4 b rfl;exact⟨I.add b (.map (A2R es 0).toArray es.length),Le.add hf,hm.tl.freezeB (hm.ok _ O4) hf (hm.born _ O4 b rfl) (fun h hh e=>(A17.1 hm.dist).1 h hh b rfl e),P8.add_self _ _ _⟩
theorem CalM.lend {P:Program}{f:FuncId}{args:Array Value}{I:P8}{B H:List HItem}{Post:Value->List HItem->Prop}{QJ:P8->Prop}
  (hJ:∀E w,Mem E I (B++H) w->∃J,Le I J/\Mem E J H w/\QJ J) (hc:∀J,Le I J->QJ J->CalM P f args J H (fun v _ H'=>Post v H')):
  CalM P f args I (B++H) (fun v _ H'=> ∃H'',H'=B++H''/\Post v H''):=by
 refine CalM.of fun w E hm=>?_
 obtain⟨J,hl,hmJ,hq⟩:=hJ E w hm;have hcr:=(hc J hl hq).run w ⟨Kept.refl _ _,Le.refl _,hmJ.inv,hmJ.ok,hmJ.free,fun x hx c hc=> .inl (by simp only[A3N,A8W];exact⟨x,hx,hc⟩),hmJ.dist,fun _ _ h=> .inl h⟩;refine hcr.mono fun v w' ⟨J',H',hP,h2⟩=>⟨I,B++H',⟨H',rfl,hP⟩,?_⟩
 have h3:Mem E J' H' w':=by simpa using (Mem.back (R:= []) (by simpa using hmJ) h2)
 have hl':Le I J':=hl.trans h2.le;have hBH:∀x∈B,∀b,x.blk=some b->b∉A3N H:=fun x hx b hb hbl=>by
  obtain⟨k,hk,hkb⟩:=B18 hbl;exact(A3R.1 hm.dist).2.2 x hx k hk b hb hkb
 refine⟨h3.kept,hm.le,fun c o hc=>h3.inv c o (hl' c o hc),fun x hx=>?_,fun x hx c hc=>?_,fun x hx c hc=>?_,A3R.2 ⟨(A3R.1 hm.dist).1,h3.dist,fun x hx y hy c hc hc'=>?_⟩,hm.grow⟩
 ·rcases Y5.1 hx with hx|hx
  ·exact(hm.ok x (A1E _ hx)).kept h2.kept (hBH x hx)
  ·exact h3.ok x hx
 ·rcases Y5.1 hx with hx|hx
  ·exact hm.free x (A1E _ hx) c hc
  ·have:=h3.free x hx c hc
   cases hI:I c with
   |none=>rfl
   |some o=>rw[hl' c o hI]at this;cases this
 ·rcases Y5.1 hx with hx|hx
  ·exact hm.born x (A1E _ hx) c hc
  ·exact h3.born x hx c hc
 ·have hlt:=(hm.ok x (A1E _ hx)).lt hc
  rcases h2.born y hy c hc' with h|h
  ·exact hBH x hx c hc h
  ·exact absurd hlt (Nat.not_lt.2 h)
section
variable {P:Program}{N:Nat}{ds:List Deferred}{Q:Exit->Act->World->Prop}{K:Act->World->Prop}{KV:Act->Prop}{l:Log}{w w0:World}{ops:Array Oper}{os tail:List Oper}{X:List Nat}
variable {d:Nat}{ty:TypeId}{pos:String}{af:Array Edge}{g:Option (Nat×Bool)}{t:TypeId}{x y:Operand}{E:Ent}{I I0:P8}{H G R:List HItem}{n f:Nat}{listed:Array Bool}
theorem C4o {p:Addr} (hC:Kept X w0 w) (hw:X9 ops l ⟨some d,.nilCheck x,ty,pos,af,g⟩=some true) (hN:Nat.blt d N=true)
  (hx:ev l x=some (.pointer (some p))) (k:WA P N ds ops Q X w0 n f listed tail ((d,.pointer (some p))::l) w):WU P N ds ops Q X w0 n f listed tail ⟨some d,.nilCheck x,ty,pos,af,g⟩ l w:=
 A6w rfl hw hN (fun c hc=>by simp[execOp,hc.ev hx]) hC k
theorem C5y [TyOne P t] {i b off m cp sz:Nat}{e:TypeId}{xs:List Value}{v:Value} (hm:Mem ⟨w0,X,I0⟩ I H w) (hw:X9 ops l ⟨some d,.load t x,ty,pos,af,g⟩=some true) (hN:Nat.blt d N=true)
  (hx:ev l x=some (.pointer (some ⟨b,off,none⟩))) (hb:H[i]?=some (.row (.slice (some ⟨b,0,none⟩) m cp) e sz m xs)) (hc:xs[off]?=some v)
  (k:WA P N ds ops Q X w0 n f listed tail ((d,v)::l) w):WU P N ds ops Q X w0 n f listed tail ⟨some d,.load t x,ty,pos,af,g⟩ l w:=by
 obtain⟨c,fr,h1,h2⟩:=Mem.rowCell (hm.ok _ (A03 hb)) hc;exact A6w rfl hw hN (fun a ha=>B9X ha hx h1 h2) hm.kept k
theorem C3i {by_:Nat} [Elem P t 1 by_] {b off m cap sz:Nat}{e:TypeId}{xs:List Value}{v:Value}{dst:Option Nat} (hm:Mem ⟨w0,X,I0⟩ I (.row (.slice (some ⟨b,0,none⟩) m cap) e sz m xs::H) w) (hd:dst=none) (hw:X9 ops l ⟨dst,.store t x y,ty,pos,af,g⟩=some true)
  (hx:ev l x=some (.pointer (some ⟨b,off,none⟩))) (hy:ev l y=some v) (hn1:v.cells.toList= [v]) (h1:v.oneCell'=true) (ho:off<xs.length)
  (k:∀w',Mem ⟨w0,X,I0⟩ I (.row (.slice (some ⟨b,0,none⟩) m cap) e sz m (xs.set off v)::H) w'->WA P N ds ops Q X w0 n f listed tail l w'):
  WU P N ds ops Q X w0 n f listed tail ⟨dst,.store t x y,ty,pos,af,g⟩ l w:=by
 have h0:=hm.rowLen;rcases A6I m with hn|hn
 ·subst hn;rw[A14]at h0;omega
 obtain⟨b',cp,cur,hv,hm2,hcp,hcm,hs,ht⟩:=hm.openRow hn;injection hv with e1 _ e3
 injection e1 with e1
 injection e1 with e1
 subst e1;subst e3;obtain⟨cL,rfl⟩:∃cL:List Value,cur=cL.toArray:=⟨cur.toList,by simp⟩;have hs':cL.length=cap *sz:=by simpa using hs
 have ht':cL.take (m *sz)=xs:=by simpa using ht
 have hle:m *sz<=cap *sz:=A5a _ hcp;refine B5l (i:=0) hm2 hd hw hx hy rfl hn1 (by rw[A2U];omega) h1 (fun w2 hm3=>k w2 ?_)
 have hm4:Mem ⟨w0,X,I0⟩ I (.obj b (.cells (cL.set off v).toArray e (0,0))::H) w2:=hm3;exact hm4.shutRow hcp hcm (by simpa using hs') (by simp only;rw[List.take_set,ht'])
theorem C5d {kt et:TypeId} [TyMap P t kt et] [TyInt P kt .i64] {b:Nat}{es:A1U}{s:Int}{zv:Value} (hm:Mem ⟨w0,X,I0⟩ I H w) (hb:B8T I b es) (hw:X9 ops l ⟨some d,.lookup t x y false,ty,pos,af,g⟩=some true) (hN:Nat.blt d N=true)
  (hx:ev l x=some (.map (some b))) (hy:ev l y=some (A5R s)) (hz:∀w,(zeroValue et).run P w=.ok zv w)
  (k:WA P N ds ops Q X w0 n f listed tail ((d,A8Z es s zv)::l) w):WU P N ds ops Q X w0 n f listed tail ⟨some d,.lookup t x y false,ty,pos,af,g⟩ l w:=
 A6w rfl hw hN (fun _ ha=>A9z ha hx hy (hm.inv _ _ hb) hz) hm.kept k
end
section
variable {P:Program}{N:Nat}{ds:List Deferred}{Q:Exit->Act->World->Prop}{l:Log}{w w0:World}{ops:Array Oper}{os tail:List Oper}{X:List Nat}
variable {d:Nat}{ty:TypeId}{pos:String}{af:Array Edge}{g:Option (Nat×Bool)}{t:TypeId}{x y:Operand}{E:Ent}{I I0:P8}{H G R:List HItem}{m' f:Nat}{listed:Array Bool}
theorem Mem.appI {e:TypeId}{sz by_:Nat} [TySlice P t e] [Elem P e sz by_] {i n m cp:Nat}{v:Value}{a:Option Addr}{xs ys:List Value} (ty:TypeId) (hm:Mem E I H w)
  (hi:H[i]?=some (.row v e sz n xs)) (hr:RowI I e sz (.slice a m cp) m ys) (h1:∀u∈ys,u.oneCell'=true)
  (hlen:(n+m) *by_<=140737488355328) (h63:n+m<=9223372036854775807):
  ∃a' cp' w',(Builtin.append_ #[t,t] ty #[v,.slice a m cp]).run P w=.ok (.slice a' (n+m) cp') w'/\Mem E I (H.set i (.row (.slice a' (n+m) cp') e sz (n+m) (xs++ys))) w':=by
 have ho:=hm.getRow hi;obtain⟨hl0,a',cap,hv,hmc,h3⟩:=hr;obtain⟨rfl,_,rfl⟩:=Value.slice.inj hv;cases a with
 |none=>
  obtain rfl:m=0:=Classical.byContradiction fun h=>by obtain⟨_,_,_,_,e1,_⟩:=h3 (by omega);cases e1
  obtain rfl:ys= []:=A05 (by simpa using hl0);obtain⟨b,c,rfl⟩:=A5f ho;have hnc:=(C04 ho (H7 _)).2.1;have hm':=hm.turn (h':=.row (.slice b (n+0) c) e sz (n+0) (xs++ [])) hi (Kept.refl _ w) (by rw[A2S,J4];exact hm.ok _ (A03 hi)) (.inl rfl);exact⟨b,c,w,B1B (P:=P) (t:=t) (w:=w) (e:=e) (b:=b) (c2:=cp) hnc ty,hm'⟩
 |some ad=>
  have hcell:∀j u,ys[j]?=some u->w.cell? (ad.add j)=some u:=fun j u hj=>by
   have hm0:0<m:=by
    rcases A6I m with h|h
    ·subst h
     rw[A05 (l:=ys) (by simpa using hl0)]at hj;cases hj
    ·exact h
   obtain⟨b,off,c,fr,e1,e2,e3⟩:=h3 hm0;obtain rfl:=Z8 e1;rw[Addr.add_lit];exact A3I (hm.inv _ _ e2) (e3 j u hj)
  obtain⟨v',w',hr,ho',hk,hb⟩:=A85 (P:=P) (t:=t) ho ad m cp ys hl0 hcell h1 h63 hlen (H9 _) ty;obtain⟨a2,c2,rfl⟩:=A5f ho';exact⟨a2,c2,w',hr,hm.turn hi hk ho' (hb.imp_right fun ⟨g,h1,h2⟩=>⟨g,h1,h2⟩)⟩
theorem B6A {e:TypeId}{sz by_:Nat} [TySlice P t e] [Elem P e sz by_] {i n m cp:Nat}{v:Value}{a:Option Addr}{xs ys:List Value} (hm:Mem ⟨w0,X,I0⟩ I H w)
  (hw:X9 ops l ⟨some d,.call ⟨.builtin .append, #[x,y], #[t,t]⟩,ty,pos,af,g⟩=some true) (hN:Nat.blt d N=true)
  (hx:ev l x=some v) (hy:ev l y=some (.slice a m cp)) (hi:H[i]?=some (.row v e sz n xs)) (hr:RowI I e sz (.slice a m cp) m ys) (h1:∀u∈ys,u.oneCell'=true)
  (hlen:(n+m) *by_<=140737488355328) (h63:n+m<=9223372036854775807)
  (k:∀a' cp' w',Mem ⟨w0,X,I0⟩ I (H.set i (.row (.slice a' (n+m) cp') e sz (n+m) (xs++ys))) w'->WA P N ds ops Q X w0 m' f listed tail ((d,.slice a' (n+m) cp')::l) w'):
  WU P N ds ops Q X w0 m' f listed tail ⟨some d,.call ⟨.builtin .append, #[x,y], #[t,t]⟩,ty,pos,af,g⟩ l w:=by
 obtain⟨a',cp',w',hr,hm'⟩:=Mem.appI (t:=t) (P:=P) ty hm hi hr h1 hlen h63;exact A6w (v:=.slice a' (n+m) cp') rfl hw hN (fun a ha=>by simp[execOp,resolve,invoke,builtin,ha.ev hx,ha.ev hy,hr]) hm'.kept (k _ _ _ hm')
end
end Go.Fw
namespace Go.Sp
theorem B7r {its:List Itm}{it:Itm}{k:Nat} (h:A5v its it (A8m its it k)=(A8m its it k,false)):∀j,A8m its it (k+j)=A8m its it k
 |0=>rfl
 |j+1=>by
  have ih:=B7r h j;show (A5v its it (A8m its it (k+j))).1=_
  rw[ih,h]
theorem D0P {its:List Itm}{it:Itm}{o o':Lab} (h:D5Y its it o) (h':D5Y its it o'):o=o':=by
 obtain⟨⟨k,rfl⟩,hk⟩:=h;obtain⟨⟨j,rfl⟩,hj⟩:=h';rcases Nat.le_total k j with hle|hle
 ·obtain⟨d,rfl⟩:=Nat.le.dest hle
  rw[B7r hk]
 ·obtain⟨d,rfl⟩:=Nat.le.dest hle
  rw[B7r hj]
theorem C8N {its:List Itm}{it a b:Itm} (ha:C1K its it a) (hb:C1K its it b):a=b:=by
 by_cases h:it.kind=2
 ·obtain⟨o,h1,rfl⟩:=ha.1 h
  obtain⟨o',h2,rfl⟩:=hb.1 h;rw[D0P h1 h2]
 ·rw[ha.2 h,hb.2 h]
theorem B9z {its:List Itm}:∀ {l a b:List Itm},AllTwo (C1K its) l a->AllTwo (C1K its) l b->a=b
 |_,_,_,.nil,.nil=>rfl
 |_,_,_,.cons h1 t1,.cons h2 t2=>by rw[C8N h1 h2,B9z t1 t2]
theorem A8A (o:Lab) (n:List UInt8):∀(sc:List Li),A1u (A3e o sc) n=(A4k sc n).map (fun l=>⟨l.name,l.val o⟩)
 | []=>rfl
 |l::sc=>by
  have ih:=A8A o n sc;show A1u (⟨l.name,l.val o⟩::A3e o sc) n=_
  rw[A1u,ih,A4k];cases A4k sc n with
  |some x=>rfl
  |none=>
   simp only[Option.map_none];split<;>rfl
theorem B0B {n:List UInt8}{x:Li}:∀ {l:List Li},A4k l n=some x->x∈l/\x.name=n
 | [],h=>by cases h
 |a::l,h=>by
  rw[A4k]at h;split at h
  ·rename_i y hy
   cases h
   obtain⟨h1,h2⟩:=B0B hy;exact⟨Z4 _ h1,h2⟩
  ·split at h
   ·rename_i h2;cases h;exact⟨O4,h2⟩
   ·cases h
theorem B9k {n:List UInt8}{x:Li}:∀ {l:List Li}{i:Nat},l[i]?=some x->x.name=n->(∀j y,i<j->l[j]?=some y->y.name≠n)->A4k l n=some x
 | [],i,h,_,_=>by simp at h
 |a::l,0,h,hn,hl=>by
  simp only[A08,X4]at h;subst h;have:A4k l n=none:=by
   cases hf:A4k l n with
   |none=>rfl
   |some y=>
    obtain⟨hy,hyn⟩:=B0B hf;obtain⟨j,hj⟩:=A7C.1 hy;exact absurd hyn (hl (j+1) y (by omega) (by rw[A02];exact hj))
  rw[A4k,this];simp[hn]
 |a::l,i+1,h,hn,hl=>by
  rw[A02]at h;rw[A4k,B9k h hn (fun j y hj hy=>hl (j+1) y (by omega) (by rw[A02];exact hy))]
theorem C2E {n:List UInt8}:∀ {l:List Li},(∀(j:Nat) y,l[j]?=some y->y.name≠n)->A4k l n=none:=fun {l} h=>by
 cases hf:A4k l n with
 |none=>rfl
 |some y=>
  obtain⟨hy,hyn⟩:=B0B hf;obtain⟨j,hj⟩:=A7C.1 hy;exact absurd hyn (h j y hj)
theorem D43 (its:List Itm) (x:Stm) (sc:List Li) (un:Nat) (p:LP):A9k its x sc un p=
  if x.kind=1 then (sc++ [⟨x.name,x.label,A8t x.opn x.fr⟩],A4T p (A8t x.opn x.fr) (A1e its (A3e p.1 sc) x.e|||un)) else
  if x.kind=2 then (sc,B8f p sc x.name (A1e its (A3e p.1 sc) x.e|||un)) else
  if x.kind=3\/x.kind=4 then (sc,(A2x its x.els sc (A1e its (A3e p.1 sc) x.e|||un) (A2x its x.thn sc (A1e its (A3e p.1 sc) x.e|||un) p).2).2) else (sc,p):=by
 cases x;rw[A9k];rfl
theorem B95 (its:List Itm):∀(l r:List Stm) (sc:List Li) (un:Nat) (p:LP),A2x its (l++r) sc un p=A2x its r (A2x its l sc un p).1 un (A2x its l sc un p).2
 | [],r,sc,un,p=>by rw[L9,A2x]
 |e::l,r,sc,un,p=>by rw[Q8,A2x,A2x,B95 its l r]
theorem C6d (its:List Itm) {l:List Stm}{k:Nat}{x:Stm} (h:l[k]?=some x) (sc:List Li) (un:Nat) (p:LP):
  A2x its (l.take (k+1)) sc un p=A9k its x (A2x its (l.take k) sc un p).1 un (A2x its (l.take k) sc un p).2:=by
 rw[U2 h,B95,A2x,A2x]
def okL (p:LP):Prop:= ∀f,p.1 f<256
def C0Y (sc:List Li):Prop:= ∀l∈sc,l.lab<256
theorem B7G {p:LP}{sc:List Li} (hp:okL p) (hs:C0Y sc):A6Y (A3e p.1 sc):=fun l hl=>by
 obtain⟨x,hx,rfl⟩:=Y7.1 hl;show x.val p.1<256
 rw[Li.val];split
 ·exact hs x hx
 ·exact hp _
theorem C9p {p:LP} (h:okL p) (f:Nat) {n:Nat} (hn:n<256):okL (A3K p f n):=by
 rw[A3K];split
 ·exact h
 ·intro g
  show upL p.1 f (p.1 f|||n) g<256
  rw[upL];split
  ·exact B3h (h f) hn
  ·exact h g
theorem B9Q {p:LP} (h:okL p) (f:Option Nat) {n:Nat} (hn:n<256):okL (A4T p f n):=by
 cases f with
 |none=>exact h
 |some f=>exact C9p h f hn
theorem D4U {p:LP} (h:okL p) (sc:List Li) (nm:List UInt8) {n:Nat} (hn:n<256):okL (B8f p sc nm n):=by
 rw[B8f];split
 ·exact B9Q h _ hn
 ·exact h
mutual
theorem C7T {its:List Itm} (hlab:A3Y its):∀(x:Stm) {sc:List Li}{un:Nat}{p:LP},x.all B1L B24->okL p->C0Y sc->un<256->okL (A9k its x sc un p).2/\C0Y (A9k its x sc un p).1
 | .mk k nm a lb o e thn els f t,sc,un,p,ha,hp,hs,hu=>by
  rw[Stm.all]at ha;obtain⟨h1,h2,h3,h4⟩:=ha;have hav:=B3h (A6X hlab (B7G hp hs) e) hu;rw[A9k];split
  ·rename_i hk
   refine⟨B9Q hp _ hav,fun l hl=>?_⟩
   rcases Y5.1 hl with hl|hl
   ·exact hs l hl
   ·obtain rfl:=A0q.1 hl
    exact h1
  ·split
   ·exact⟨D4U hp _ _ hav,hs⟩
   ·split
    ·have q1:=A9c hlab thn h3 hp hs hav
     exact⟨(A9c hlab els h4 q1.1 hs hav).1,hs⟩
    ·exact⟨hp,hs⟩
theorem A9c {its:List Itm} (hlab:A3Y its):∀(l:List Stm) {sc:List Li}{un:Nat}{p:LP},A0e B1L B24 l->okL p->C0Y sc->un<256->okL (A2x its l sc un p).2/\C0Y (A2x its l sc un p).1
 | [],_,_,_,_,hp,hs,_=>by rw[A2x];exact⟨hp,hs⟩
 |x::l,sc,un,p,ha,hp,hs,hu=>by
  rw[A0e]at ha;have q1:=C7T hlab x ha.1 hp hs hu;rw[A2x];exact A9c hlab l ha.2 q1.1 q1.2 hu
end
theorem D4p {a n:Nat} (h:a|||n≠a):a<a|||n:=by
 have h1:a<=a|||n:=Nat.left_le_or
 omega
theorem D27 {L:List Nat}{o:Lab}{f n:Nat} (h:o f<=n):B5q L (upL o f n)<=B5q L o:=by
 induction L with
 |nil=>exact H7 _
 |cons g L ih=>
  simp only[B5q,U4,A77]at ih |-;have:256-upL o f n g<=256-o g:=by
   rw[upL];split
   ·rename_i e;subst e;omega
   ·exact H7 _
  omega
theorem D7g {L:List Nat}{o:Lab}{f n:Nat} (hf:f∈L) (h:o f<n) (hn:o f<256):B5q L (upL o f n)<B5q L o:=by
 induction L with
 |nil=>cases hf
 |cons g L ih=>
  have h1:=D27 (L:=L) (o:=o) (f:=f) (n:=n) (by omega);simp only[B5q,U4,A77]at ih h1 |-;by_cases e:g=f
  ·subst e
   have:upL o g n g=n:=by rw[upL,if_pos rfl]
   rw[this];omega
  ·have h2:upL o f n g=o g:=by rw[upL,if_neg e]
   have:=ih (by rcases W9.1 hf with h|h;exact absurd h.symm e;exact h);rw[h2];omega
theorem C3I {L:List Nat}{p:LP} (hp:okL p) {f:Nat} (hf:f∈L) (n:Nat):Gone L p (A3K p f n):=by
 rw[A3K];split
 ·exact .refl _ _
 ·rename_i h
  have h1:=D4p h;exact⟨D27 (by omega),fun _=> .inr (D7g hf h1 (hp f)),fun e=>by cases e⟩
theorem B50 {L:List Nat}{p:LP} (hp:okL p) {f:Option Nat} (hf:∀g,f=some g->g∈L) (n:Nat):Gone L p (A4T p f n):=by
 cases f with
 |none=>exact .refl _ _
 |some f=>exact C3I hp (hf f rfl) n
def inL (L:List Nat) (sc:List Li):Prop:= ∀f∈A8v sc,f∈L
theorem C3s {sc:List Li}{l:Li}{f:Nat} (h:l∈sc) (e:l.op=some f):f∈A8v sc:=A8W.2 ⟨l,h,e⟩
theorem C9t {L:List Nat}{p:LP} (hp:okL p) {sc:List Li} (hs:inL L sc) (nm:List UInt8) (n:Nat):Gone L p (B8f p sc nm n):=by
 rw[B8f];split
 ·rename_i l hl
  exact B50 hp (fun g hg=>hs g (C3s (B0B hl).1 hg)) n
 ·exact .refl _ _
mutual
theorem C9z {its:List Itm} (hlab:A3Y its) {L:List Nat}:∀(x:Stm) {sc:List Li}{un:Nat}{p:LP},x.all B1L B24->okL p->C0Y sc->un<256->(∀f∈x.lets,f∈L)->inL L sc->Gone L p (A9k its x sc un p).2/\inL L (A9k its x sc un p).1
 | .mk k nm a lb o e thn els f t,sc,un,p,ha,hp,hs,hu,hL,hi=>by
  rw[Stm.all]at ha;obtain⟨h1,h2,h3,h4⟩:=ha;have hav:=B3h (A6X hlab (B7G hp hs) e) hu;rw[Stm.lets]at hL;have hLt:∀f∈A1s thn,f∈L:=fun g hg=>hL g (A1m _ (A1E _ hg))
  have hLe:∀f∈A1s els,f∈L:=fun g hg=>hL g (A1m _ (A1m _ hg))
  rw[A9k];split
  ·rename_i hk
   have hf:f∈L:=hL f (by rw[if_pos hk];exact A1E _ O4);have hop:∀g,A8t o f=some g->g∈L:=fun g hg=>by
    rw[A8t]at hg;split at hg
    ·cases hg;exact hf
    ·cases hg
   refine⟨B50 hp hop _,fun g hg=>?_⟩
   rw[B9H]at hg;rcases Y5.1 hg with hg|hg
   ·exact hi g hg
   ·exact hop g (by simpa using hg)
  ·split
   ·exact⟨C9t hp hi _ _,hi⟩
   ·split
    ·have q1:=A9c hlab thn h3 hp hs hav
     have g1:=B1f hlab thn h3 hp hs hav hLt hi;exact⟨g1.1.trans (B1f hlab els h4 q1.1 hs hav hLe hi).1,hi⟩
    ·exact⟨.refl _ _,hi⟩
theorem B1f {its:List Itm} (hlab:A3Y its) {L:List Nat}:∀(l:List Stm) {sc:List Li}{un:Nat}{p:LP},A0e B1L B24 l->okL p->C0Y sc->un<256->(∀f∈A1s l,f∈L)->inL L sc->Gone L p (A2x its l sc un p).2/\inL L (A2x its l sc un p).1
 | [],_,_,_,_,hp,hs,_,_,hi=>by rw[A2x];exact⟨.refl _ _,hi⟩
 |x::l,sc,un,p,ha,hp,hs,hu,hL,hi=>by
  rw[A0e]at ha;rw[A1s]at hL;have q1:=C7T hlab x ha.1 hp hs hu;have g1:=C9z hlab x ha.1 hp hs hu (fun f hf=>hL f (A1E _ hf)) hi;have g2:=B1f hlab l ha.2 q1.1 q1.2 hu (fun f hf=>hL f (A1m _ hf)) g1.2;rw[A2x];exact⟨g1.1.trans g2.1,g2.2⟩
end
theorem B70 {l:List Par} (h:∀p∈l,p.label<256):C0Y (B0i l):=fun x hx=>by
 obtain⟨p,hp,rfl⟩:=Y7.1 hx;exact h p hp
theorem B9K (l:List Par):A8v (B0i l)= []:=by
 rw[A8v,B0i,List.filterMap_map];exact List.filterMap_eq_nil_iff.2 (fun _ _=>rfl)
theorem B9V {its:List Itm}{it:Itm}{o:Lab} (hlab:A3Y its) (hb:A0e B1L B24 it.body) (hp:∀p∈it.params,p.label<256) (ho:∀f,o f<256):
  okL (A5v its it o)/\((A5v its it o).2=true->B5q (A1s it.body) (A5v its it o).1<B5q (A1s it.body) o)/\((A5v its it o).2=false->(A5v its it o).1=o):=by
 have h1:=A9c hlab it.body (sc:=B0i it.params) (un:=0) (p:=(o,false)) hb ho (B70 hp) (by omega);have h2:=B1f hlab (L:=A1s it.body) it.body (sc:=B0i it.params) (un:=0) (p:=(o,false)) hb ho (B70 hp) (by omega) (fun _ h=>h) (fun f hf=>by rw[B9K]at hf;cases hf);refine⟨h1.1,fun e=>?_,fun e=>?_⟩
 ·rcases h2.1.lt e with h|h
  ·cases h
  ·exact h
 ·exact congrArg Prod.fst (h2.1.same e)
theorem B9B:∀(l r:List Stm),A1s (l++r)=A1s l++A1s r
 | [],r=>by rw[L9,A1s,L9]
 |x::l,r=>by rw[Q8,A1s,A1s,B9B l r,J5]
theorem C8P (x:Stm):A1s [x]=x.lets:=by rw[A1s,A1s,J4]
theorem A8C {k:Nat}{nm:List UInt8}{a lb:Nat}{o:Bool}{e:Ex}{f t:Nat} (hk:k≠1):(Stm.mk k nm a lb o e [] [] f t).lets= []:=by rw[Stm.lets,if_neg hk,A1s];rfl
theorem B7H (T:Src):∀f,(∀d s,InT T s.i (block T f d s).2.i (A1s (block T f d s).1))/\(∀d l s a,a<=s.i->InT T a s.i (A1s l)->InT T a (A5U T f d l s).2.i (A1s (A5U T f d l s).1))/\
  (∀d s,InT T s.i (stm T f d s).2.i (stm T f d s).1.lets)
 |0=>⟨fun _ _=>by rw[block];dsimp only;rw[A1s];exact .nil _ _ _,fun _ _ _ _ _ h=>by rw[A5U];exact h,
   fun _ s=>by rw[stm];show InT T s.i s.i (Stm.mk 0 [] 0 0 false (.mk 0 [] 0 [] 0 0) [] [] 0 0).lets;rw[A8C (by decide)];exact .nil _ _ _⟩
 |f+1=>by
  obtain⟨hB,hL,hS⟩:=B7H T f;obtain⟨gB,gL,gS⟩:=A3j T f;have gE:=(A13 T f).2.2.1;refine⟨fun d s=>?_,fun d l s a ha h=>?_,fun d s=>?_⟩
  ·rw[block]
   split
   ·dsimp only;rw[A1s];exact .nil _ _ _
   ·split
    ·dsimp only;rw[A1s];exact .nil _ _ _
    ·have h1:=hL (d+1) [] s.next s.next.i (H7 _) (by rw[A1s];exact .nil _ _ _)
     have h3:=A5d T (A5U T f (d+1) [] s.next).2 [125];exact h1.mono (by rw[U7];omega) h3
  ·rw[A5U]
   split
   ·exact h
   ·split
    ·exact h
    ·have h1:=hS d s
     have h2:=(gS d s).le;try dsimp only
     have h3:InT T a (stm T f d s).2.i (A1s (l++ [(stm T f d s).1])):=by
      rw[B9B,C8P];exact h.app h1 (H7 _) ha h2
     split
     ·rename_i he
      exact hL d _ _ a (by rw[U7];omega) (h3.mono (H7 _) (by rw[U7];omega))
     ·exact hL d _ _ a (by omega) h3
  ·rw[stm]
   dsimp only
   split
   ·rename_i hlet
    have hlt:s.i<T.l.length:=A3E (by rw[hlet];decide);have h1:=(A2h T s.next).le;rw[U7]at h1;generalize s.next.named T=r at h1 |-;generalize hr1:(if (!T.is r.2.i [58])=true then (0,r.2) else lab T r.2.next)=r1;have h2:r.2.i<=r1.2.i:=by
     rw[<-hr1];split
     ·exact H7 _
     ·have:=(A5i T r.2.next).le
      rw[U7]at this;omega
    have h3:=A5d T r1.2 [61];have h5:=(gE d 1 (r1.2.need T [61]).2).le;have h6:=A5d T (A1b T f d 1 (r1.2.need T [61]).2).2 [59];try dsimp only
    rw[Stm.lets,A1s,if_pos rfl];exact InT.one (by omega) hlt
   ·split
    ·have h2:=(gE d 1 s.next).le
     rw[U7]at h2;generalize A1b T f d 1 s.next=r at h2 |-;have h3:=hB d r.2;have h4:=(gB d r.2).le;generalize block T f d r.2=r1 at h3 h4 |-;split
     ·have h5:=hB d r1.2.next
      have h6:=(gB d r1.2.next).le;rw[U7]at h5 h6;try dsimp only
      rw[Stm.lets,if_neg (by decide),L9];exact(h3.app h5 (by omega) (by omega) (by omega)).mono (by omega) (H7 _)
     ·try dsimp only
      rw[Stm.lets,A1s,if_neg (by decide),L9,J4];exact h3.mono (by omega) (H7 _)
    ·split
     ·have h2:=(gE d 1 s.next).le
      rw[U7]at h2;generalize A1b T f d 1 s.next=r at h2 |-;have h3:=hB d r.2;try dsimp only
      rw[Stm.lets,A1s,if_neg (by decide),L9,J4];exact h3.mono (by omega) (H7 _)
     ·split
      ·try dsimp only
       rw[A8C (by decide)];exact .nil _ _ _
      ·split
       ·try dsimp only
        rw[A8C (by decide)];exact .nil _ _ _
       ·split
        ·split
         ·try dsimp only
          rw[A8C (by decide)];exact .nil _ _ _
         ·try dsimp only
          rw[A8C (by decide)];exact .nil _ _ _
        ·show InT T s.i _ (Stm.mk _ _ _ _ _ _ [] [] _ _).lets
         rw[A8C (by decide)];exact .nil _ _ _
theorem C8C {src:List UInt8}{a b:Nat}{L:List Nat} (ha:1<=a) (h:InT ⟨Q5 src,src.length⟩ a b L):L.Nodup/\0∉L:=by
 obtain⟨js,h1,h2,rfl⟩:=h;have hs:=A3y.1 (A4v src);have key:∀i j,i<j->j<(Q5 src).length->((Src.mk (Q5 src) src.length).tok i).pos<((Src.mk (Q5 src) src.length).tok j).pos:=fun i j hij hj=>by
  have hi:i<(Q5 src).length:=by omega
  have h3:=hs i j hi hj hij;have h4:=(A2C src _ (O1 hi)).len;rw[Src.tok,Src.tok];dsimp only
  rw[N9,N9,F9 hi,F9 hj];show (Q5 src)[i].pos<(Q5 src)[j].pos
  omega
 refine⟨?_,fun h0=>?_⟩
 ·rw[List.Nodup,List.pairwise_map]
  refine h1.imp_of_mem (fun {x y} hx hy hxy=>?_)
  have:=key x y hxy (h2 y hy).2.2;omega
 ·obtain⟨j,hj,e⟩:=Y7.1 h0
  have:=h2 j hj;have:=key 0 j (by omega) this.2.2;omega
theorem C8I (src:List UInt8) (at_:Int):(A1s (item src at_).body).Nodup/\0∉A1s (item src at_).body:=by
 have hnil:(A1s []).Nodup/\0∉A1s []:=by rw[A1s];exact⟨A76,fun h=>(by cases h)⟩
 rw[item];generalize hT:(⟨Q5 src,src.length⟩:Src)=T;dsimp only
 split
 ·rename_i hfn
  have h0:=A22 hfn;dsimp only[A7Z];have h1:=A2h T ⟨1,[]⟩;have t1:=h1.top (show 1<=_ by omega);have l1:1<=_:=h1.le;generalize (⟨1,[]⟩:St).named T=r at t1 l1 |-;have t2:=B0f [40] t1;have l2:=A5d T r.2 [40];generalize (r.2.need T [40]).2=s1 at t2 l2 |-;have h3:=(B2c T 6 [] s1 (by simp)).2 t2;generalize A52 T 6 [] s1=r2 at h3 |-;have t4:=B0f [41] h3.2.1;have l4:=A5d T r2.2 [41];generalize (r2.2.need T [41]).2=s3 at t4 l4 |-;have t5:=B0f [58] t4;have l5:=A5d T s3 [58];generalize (s3.need T [58]).2=s4 at t5 l5 |-;have g6:=A5i T s4;have t6:=g6.top t5;have l6:=g6.le;clear g6;generalize lab T s4=r5 at t6 l6 |-;generalize hr6:(if T.is r5.2.i [115,101,110,100,115]=true then A5T T 6 [] r5.2.next else ([],r5.2))=r6;have l7:r5.2.i<=r6.2.i:=by
   rw[<-hr6];split
   ·rename_i hs
    have:=A22 hs;have:=((B2k T 6 [] r5.2.next (by simp)).2 (by rw[U7];omega)).1;rw[U7]at this;omega
   ·exact H7 _
  have h8:=(B7H T (A8s T)).1 0 r6.2;have h9:=h3.1;subst hT;exact C8C (by omega) h8
 ·split
  ·exact hnil
  ·exact hnil
end Go.Sp
namespace Go.Fw
open Go.Sp
open Go
section
variable {P:Program}{N:Nat}{ds:List Deferred}{Q:Exit->Act->World->Prop}{l:Log}{w:World}{ops:Array Oper}{os:List Oper}
variable {d:Nat}{ty:TypeId}{pos:String}{af:Array Edge}{g:Option (Nat×Bool)}{t t':TypeId}{x:Operand}
theorem A7S {e:TypeId} (hT:P.underlying t=some (.pointer e)) {a:Option Addr}{k0:Value} (hw:X9 ops l ⟨some d,.binOp .neq t x (.const k0) t',ty,pos,af,g⟩=some true) (hN:Nat.blt d N=true)
  (hx:ev l x=some (.pointer a)) (hk:k0=.pointer none) (k:WL P N ds ops Q os ((d,.bool a.isSome)::l) w):WL P N ds ops Q (⟨some d,.binOp .neq t x (.const k0) t',ty,pos,af,g⟩::os) l w:=
 X6 rfl hw hN (fun c hc=>by
  subst hk;have e2:c.eval (.const (.pointer none))=.pointer none:=rfl;have e3:(!a.isNone)=a.isSome:=by cases a<;>rfl
  simp[execOp,hc.ev hx,e2,eqGuard,binOp,B8e hT a,e3]) k
end
end Go.Fw
namespace Go.Sp
theorem D3S (o:Lab) (sc:List Li) (n:List UInt8):A65 (A3e o sc) n=(match A4k sc n with|some l=>l.val o|none=>0):=by
 rw[A65,A8A];cases A4k sc n<;>rfl
theorem C9k (its:List Itm) (sc:List Lc) (e:Ex):A1e its sc e=if e.kind=2 then A65 sc e.name else if e.kind=3 then A0Y its sc e.args 0 else if e.kind=4 then A21 its e.name else 0:=by
 cases e;rw[A1e];rfl
theorem D3d {o:Lab}{f n:Nat}{l:Li} (h:l.op≠some f):l.val (upL o f n)=l.val o:=by
 rw[Li.val,Li.val];cases hop:l.op with
 |none=>rfl
 |some g=>
  show (if g=f then n else o g)=o g
  rw[if_neg (fun e=>h (by rw[hop,e]))]
theorem B79 (p:LP) (f a:Nat):(A3K p f a).1=upL p.1 f (p.1 f|||a):=by
 rw[A3K];split
 ·rename_i h
  funext g
  show p.1 g=if g=f then _ else _
  rw[h];split
  ·rename_i e;rw[e]
  ·rfl
 ·rfl
theorem B5o (l:Li) (sc:List Li):A8v (l::sc)=l.op.toList++A8v sc:=by
 rw[A8v,List.filterMap_cons];cases l.op<;>rfl
theorem A94 (o:Lab) (l:List Stm):A1r o l=l.map (A4y o):=by
 induction l with
 |nil=>rw[A1r];rfl
 |cons x l ih=>rw[A1r,ih];rfl
theorem A6W (o:Lab) (l:List Stm):(A1r o l).length=l.length:=by rw[A94,P7]
theorem C8t (o:Lab) (l r:List Stm):A1r o (l++r)=A1r o l++A1r o r:=by rw[A94,A94,A94,V5]
theorem D0o {α:Type}{l:List α}{k:Nat}{x:α} (h:l[k]?=some x):l.drop k=x::l.drop (k+1):=by
 obtain⟨hk,e⟩:=A0D.1 h;rw[<-e];exact A3Q hk
def C5h (o:Lab) (y:Stm):Nat:=if y.kind=1/\y.opn=true then o y.fr else y.label
def C5J (y:Stm):Bool:=if y.kind=1 then false else y.opn
theorem D0L (o:Lab) (y:Stm):A4y o y=.mk y.kind y.name y.at_ (C5h o y) (C5J y) y.e (A1r o y.thn) (A1r o y.els) y.fr y.to:=by cases y;rw[A4y];rfl
structure ItI (x:Itm):Prop where
 small:x.small
 body:A0e B1L B24 x.body
 cnt:U1 x.body<=400000000
 lets:(A1s x.body).Nodup
 none:0∉A1s x.body
theorem C0J {its:List Itm}{it:Itm} (hlab:A3Y its) (hb:A0e B1L B24 it.body) (hp:∀p∈it.params,p.label<256):∀(k f:Nat),A8m its it k f<256
 |0,_=>by show 0<256;omega
 |k+1,f=>(B9V hlab hb hp (C0J hlab hb hp k)).1 f
mutual
theorem C4W (o:Lab):∀(x:Stm),(A4y o x).lets=x.lets
 | .mk k nm a lb op e thn els f t=>by rw[A4y,Stm.lets,Stm.lets,A8P o thn,A8P o els]
theorem A8P (o:Lab):∀(l:List Stm),A1s (A1r o l)=A1s l
 | []=>by rw[A1r]
 |x::l=>by rw[A1r,A1s,A1s,C4W o x,A8P o l]
end
mutual
theorem C8v (o:Lab):∀(x:Stm),(A4y o x).cnt=x.cnt
 | .mk k nm a lb op e thn els f t=>by rw[A4y,Stm.cnt,Stm.cnt,B2z o thn,B2z o els]
theorem B2z (o:Lab):∀(l:List Stm),U1 (A1r o l)=U1 l
 | []=>by rw[A1r]
 |x::l=>by rw[A1r,U1,U1,C8v o x,B2z o l]
end
mutual
theorem C8u {o:Lab}{p:PE}{q:PS} (h:∀k nm a lb op f t,q k nm a lb op f t->q k nm a (if k=1/\op=true then o f else lb) (if k=1 then false else op) f t):∀(x:Stm),x.all p q->(A4y o x).all p q
 | .mk k nm a lb op e thn els f t,ha=>by
  rw[Stm.all]at ha;rw[A4y,Stm.all];exact⟨h _ _ _ _ _ _ _ ha.1,ha.2.1,B2y h thn ha.2.2.1,B2y h els ha.2.2.2⟩
theorem B2y {o:Lab}{p:PE}{q:PS} (h:∀k nm a lb op f t,q k nm a lb op f t->q k nm a (if k=1/\op=true then o f else lb) (if k=1 then false else op) f t):∀(l:List Stm),A0e p q l->A0e p q (A1r o l)
 | [],_=>by rw[A1r];exact A0o
 |x::l,ha=>by
  rw[A0e]at ha;rw[A1r,A0e];exact⟨C8u h x ha.1,B2y h l ha.2⟩
end
theorem B9y {its:List Itm}:∀ {l g:List Itm},AllTwo (C1K its) l g->AllTwo A4G l g
 |_,_,.nil=> .nil
 |_,_,.cons (a:=a) h t=> .cons (by
   by_cases hk:a.kind=2
   ·obtain⟨o,_,rfl⟩:=h.1 hk
    exact .inr ⟨o,rfl⟩
   ·exact .inl (h.2 hk)) (B9y t)
theorem B4H {its g:List Itm} (h:AllTwo A4G its g) (j:Nat):A4G (X7 its j) (X7 g j):=by
 rw[X7,X7,N9,N9];cases hi:its[j]? with
 |some a=>
  obtain⟨b,h1,h2⟩:=h.get hi;rw[h1];exact h2
 |none=>
  have:g[j]?=none:=by rw[List.getElem?_eq_none_iff]at hi |-;rw[h.len];exact hi
  rw[this];exact .inl rfl
theorem B20:∀ {its g:List Itm},AllTwo A4G its g->∀k n,A0M g k n=A0M its k n
 |_,_,.nil,_,_=>rfl
 |_,_,.cons (a:=a) (b:=b) (l:=l) (r:=r) h t,k,n=>by
  have ih:=B20 t k n;rw[A0M,A0M]at ih |-;have e:C0G k n b=C0G k n a:=by rw[C0G,C0G,h.kind,h.name]
  rw[A6J,A6J,e,ih]
section
variable {its g:List Itm}
end
mutual
theorem C2C (o:Lab):∀(x:Stm),x.small->(A4y o x).small
 | .mk k nm a lb op e thn els f t,h=>by
  rw[Stm.small]at h;rw[A4y,Stm.small,A6W,A6W];exact⟨h.1,h.2.1,A9q o thn h.2.2.1,h.2.2.2.1,A9q o els h.2.2.2.2⟩
theorem A9q (o:Lab):∀(l:List Stm),A0j l->A0j (A1r o l)
 | [],h=>by rw[A1r];exact h
 |x::l,h=>by
  rw[A0j]at h;rw[A1r,A0j];exact⟨C2C o x h.1,A9q o l h.2⟩
end
theorem C8G {o:Lab}{it:Itm} (h:it.small):(itI o it).small:=by
 refine { h with body:=?_,stms:=?_}
 ·show (A1r o it.body).length<=_
  rw[A6W];exact h.body
 ·exact A9q o _ h.stms
theorem D1a (src:List UInt8) (at_:Int) (h:src.length<=1048576):ItI (item src at_)/\(item src at_).label<256/\∀p∈(item src at_).params,p.label<256:=by
 have hA:=B4i (src:=src) (p:=B1L) (q:=B24) (r:=fun p=>p.label<256) (t:=fun _=>True) at_ ⟨trivial,fun _=>trivial,fun _ _ _ _=>trivial,fun _ _=>trivial,fun _ _ _ _ _ _=>trivial,fun _ _ _ _ _ _ _ _ _ _ _ _ _ _ _ _=>trivial⟩
  ⟨by show 0<256;omega,fun _ _ lb _ _ h=>A7F h,fun _ _ _=>(by show 0<256;omega),fun _ _ _ _=>(by show 0<256;omega),fun _ _ _=>(by show 0<256;omega)⟩ (fun _ lb h=>A7F h) (fun _=>trivial)
 have hc:=B15 src at_;have hl:=C8I src at_;exact⟨⟨A6G src at_ h,hA.body,by omega,hl.1,hl.2⟩,A7F hA.label,hA.params⟩
theorem C2A (s:List UInt8):(∀x∈G8 s,ItI x)/\A3Y (G8 s)/\(G8 s).length<=30:=by
 by_cases h0:Y1 s=0
 ·have hl:s.length<=4000/\(A0l s).length<=30:=by
   rw[Y1]at h0;split at h0
   ·cases h0
   ·split at h0
    ·cases h0
    ·omega
  have key:∀x∈G8 s,ItI x/\x.label<256/\∀p∈x.params,p.label<256:=fun x hx=>by
   rw[G8,if_pos h0,A3Z]at hx;obtain⟨j,_,rfl⟩:=Y7.1 hx;exact D1a _ _ (by rw[A1v,P9,A0v];omega)
  exact⟨fun x hx=>(key x hx).1,fun x hx=>(key x hx).2,by rw[G8,if_pos h0];simp[A3Z,hl.2]⟩
 ·rw[G8,if_neg h0]
  exact⟨fun x hx=>(by cases hx),fun x hx=>(by cases hx),H9 _⟩
theorem C7c {o:Lab}{it:Itm} (ho:∀f,o f<256) (h:ItI it):ItI (itI o it):=by
 refine⟨C8G h.small,B2y (fun k nm a lb op f t hl=>?_) _ h.body,?_,?_,?_⟩
 ·show (if k=1/\op=true then o f else lb)<256
  split
  ·exact ho f
  ·exact hl
 ·show U1 (A1r o it.body)<=_
  rw[B2z];exact h.cnt
 ·show (A1s (A1r o it.body)).Nodup
  rw[A8P];exact h.lets
 ·show 0∉A1s (A1r o it.body)
  rw[A8P];exact h.none
theorem C20 {its g:List Itm} (h:AllTwo (C1K its) its g) (hI:∀x∈its,ItI x) (hL:A3Y its):(∀y∈g,ItI y)/\A3Y g:=by
 have key:∀y∈g,ItI y/\y.label<256/\∀p∈y.params,p.label<256:=fun y hy=>by
  obtain⟨x,hx,hxy⟩:=h.mem y hy;by_cases k2:x.kind=2
  ·obtain⟨o,⟨⟨k,rfl⟩,_⟩,rfl⟩:=hxy.1 k2
   exact⟨C7c (C0J hL (hI x hx).body (hL x hx).2 k) (hI x hx),hL x hx⟩
  ·rw[hxy.2 k2];exact⟨hI x hx,hL x hx⟩
 exact⟨fun y hy=>(key y hy).1,fun y hy=>(key y hy).2⟩
mutual
theorem B90 (its:List Itm):∀(x:Stm) (sc:List Li) (un:Nat) (p:LP),(A9k its x sc un p).2.2=false->(A9k its x sc un p).2=p
 | .mk k nm a lb op e thn els f t,sc,un,p,h=>by
  have hI:∀(p:LP) (f n:Nat),(A3K p f n).2=false->A3K p f n=p:=fun p f n h=>by
   rw[A3K]at h |-;split
   ·rfl
   ·rename_i hc;rw[if_neg hc]at h;cases h
  have hO:∀(p:LP) (f:Option Nat) (n:Nat),(A4T p f n).2=false->A4T p f n=p:=fun p f n h=>by
   cases f with
   |none=>rfl
   |some f=>exact hI p f n h
  rw[A9k]at h |-;split
  ·rename_i hk;rw[if_pos hk]at h;exact hO _ _ _ h
  ·rename_i hk;rw[if_neg hk]at h
   split
   ·rename_i hk2;rw[if_pos hk2]at h
    dsimp only at h |-;rw[B8f]at h |-;split
    ·rename_i l hl;rw[hl]at h;exact hO _ _ _ h
    ·rfl
   ·rename_i hk2;rw[if_neg hk2]at h
    split
    ·rename_i hk3;rw[if_pos hk3]at h
     dsimp only at h |-;have h1:=A6Q its els _ _ _ h;rw[h1]at h |-;exact A6Q its thn _ _ _ h
    ·rfl
theorem A6Q (its:List Itm):∀(l:List Stm) (sc:List Li) (un:Nat) (p:LP),(A2x its l sc un p).2.2=false->(A2x its l sc un p).2=p
 | [],sc,un,p,_=>by rw[A2x]
 |x::l,sc,un,p,h=>by
  rw[A2x]at h |-;have h1:=A6Q its l _ _ _ h;rw[h1]at h |-;exact B90 its x _ _ _ h
end
section
variable {its g:List Itm}
theorem C37 (h:AllTwo A4G its g) (n:List UInt8):A21 g n=A21 its n:=by
 rw[A21,A21,B20 h];split
 ·exact(B4H h _).label
 ·rfl
mutual
theorem B1n (h:AllTwo A4G its g) (sc:List Lc):∀(e:Ex),A1e g sc e=A1e its sc e
 | .mk k nm n args f t=>by rw[A1e,A1e,C37 h,B56 h sc args 0]
theorem B56 (h:AllTwo A4G its g) (sc:List Lc):∀(l:List Ex) (n:Nat),A0Y g sc l n=A0Y its sc l n
 | [],n=>by rw[A0Y,A0Y]
 |e::l,n=>by rw[A0Y,A0Y,B1n h sc e,B56 h sc l]
end
end
theorem B5Q {a b:Nat} (h:b|||a=b):A1i a b=true:=(A2A a b).2 (fun k _ ht=>by
 rw[<-h,Nat.testBit_or,ht,Bool.or_true])
section
variable {its g:List Itm}{L:Nat->Prop}{o:Lab}
end
theorem B7Z (o:Lab) (l:List Par):A44 l=A3e o (B0i l):=by
 rw[A44,A3e,B0i,A3s];rfl
def B1y (give:List Int) (n:Nat):Nat:=match give[n]? with
 |some v=>if 0<=v/\v<=255 then v.toNat else 0
 |none=>0
theorem D0X (give:List Int) (n:Nat):B1y give n<256:=by
 rw[B1y];split
 ·split<;>omega
 ·omega
mutual
def A8h (give:List Int):Stm->Nat->Stm×Nat
 | .mk k nm a lb op e thn els f t,n=>
  let n1:=if k=1/\op=true then n+1 else n
  (.mk k nm a (if k=1/\op=true then B1y give n else lb) (if k=1 then false else op) e (A1c give thn n1).1 (A1c give els (A1c give thn n1).2).1 f t,(A1c give els (A1c give thn n1).2).2)
def A1c (give:List Int):List Stm->Nat->List Stm×Nat
 | [],n=>([],n)
 |x::l,n=>((A8h give x n).1::(A1c give l (A8h give x n).2).1,(A1c give l (A8h give x n).2).2)
end
mutual
def C4x (give:List Int):Stm->Nat->List (Nat×Nat)
 | .mk k _ _ _ op _ thn els f _,n=>
  let n1:=if k=1/\op=true then n+1 else n
  (if k=1/\op=true then [(f,B1y give n)] else [])++(B6g give thn n1++B6g give els (A1c give thn n1).2)
def B6g (give:List Int):List Stm->Nat->List (Nat×Nat)
 | [],_=> []
 |x::l,n=>C4x give x n++B6g give l (A8h give x n).2
end
mutual
theorem C6y {give:List Int}{γ:Lab}:∀(x:Stm) (n:Nat),(∀p∈C4x give x n,γ p.1=p.2)->(A8h give x n).1=A4y γ x
 | .mk k nm a lb op e thn els f t,n,h=>by
  rw[C4x]at h;rw[A8h,A4y];dsimp only at h |-;rw[A9f thn _ (fun p hp=>h p (A1m _ (A1E _ hp))),A9f els _ (fun p hp=>h p (A1m _ (A1m _ hp)))];by_cases hc:k=1/\op=true
  ·rw[if_pos hc,if_pos hc]
   have:=h (f,B1y give n) (A1E _ (by rw[if_pos hc];exact A0q.2 rfl));dsimp only at this;rw[this]
  ·rw[if_neg hc,if_neg hc]
theorem A9f {give:List Int}{γ:Lab}:∀(l:List Stm) (n:Nat),(∀p∈B6g give l n,γ p.1=p.2)->(A1c give l n).1=A1r γ l
 | [],n,_=>by rw[A1c,A1r]
 |x::l,n,h=>by
  rw[B6g]at h;rw[A1c,A1r];dsimp only
  rw[C6y x n (fun p hp=>h p (A1E _ hp)),A9f l _ (fun p hp=>h p (A1m _ hp))]
end
mutual
theorem C8e (give:List Int):∀(x:Stm) (n:Nat),((C4x give x n).map (·.1)).Sublist x.lets
 | .mk k nm a lb op e thn els f t,n=>by
  rw[C4x,Stm.lets];try dsimp only
  rw[V5,V5];refine List.Sublist.append ?_ (List.Sublist.append (A9X give thn _) (A9X give els _))
  by_cases hc:k=1/\op=true
  ·rw[if_pos hc,if_pos hc.1];exact A5N _
  ·rw[if_neg hc];exact List.nil_sublist _
theorem A9X (give:List Int):∀(l:List Stm) (n:Nat),((B6g give l n).map (·.1)).Sublist (A1s l)
 | [],n=>by rw[B6g,A1s];exact A5N _
 |x::l,n=>by
  rw[B6g,A1s,V5];exact List.Sublist.append (C8e give x n) (A9X give l _)
end
mutual
theorem D3z (give:List Int):∀(x:Stm) (n:Nat),∀p∈C4x give x n,p.2<256
 | .mk k nm a lb op e thn els f t,n,p,h=>by
  rw[C4x]at h;try dsimp only at h
  rcases Y5.1 h with h|h
  ·split at h
   ·rw[A0q.1 h];exact D0X give n
   ·cases h
  ·rcases Y5.1 h with h|h
   ·exact B6q give thn _ p h
   ·exact B6q give els _ p h
theorem B6q (give:List Int):∀(l:List Stm) (n:Nat),∀p∈B6g give l n,p.2<256
 | [],n,p,h=>by rw[B6g]at h;cases h
 |x::l,n,p,h=>by
  rw[B6g]at h;rcases Y5.1 h with h|h
  ·exact D3z give x n p h
  ·exact B6q give l _ p h
end
def B7I:List (Nat×Nat)->Nat->Nat
 | [],_=>0
 |(f,v)::l,g=>if g=f then v else B7I l g
theorem B5g:∀ {l:List (Nat×Nat)},(l.map (·.1)).Nodup->∀p∈l,B7I l p.1=p.2
 | [],_,p,h=>by cases h
 |(f,v)::l,hn,p,h=>by
  rw[U4,A74]at hn;rw[B7I];rcases W9.1 h with rfl|h
  ·rw[if_pos rfl]
  ·have:p.1≠f:=fun e=>hn.1 (by rw[<-e];exact Y7.2 ⟨p,h,rfl⟩)
   rw[if_neg this];exact B5g hn.2 p h
theorem C9M (give:List Int) (l:List Stm) (n:Nat) (h:(A1s l).Nodup):∃γ:Lab,(A1c give l n).1=A1r γ l:=
 ⟨B7I (B6g give l n),A9f l n (B5g ((A9X give l n).nodup h))⟩
mutual
def Stm.labs:Stm->List Nat
 | .mk k _ _ lb _ _ thn els _ _=>(if k=1 then [lb] else [])++(A2I thn++A2I els)
def A2I:List Stm->List Nat
 | []=> []
 |x::l=>x.labs++A2I l
end
theorem B5e:∀(l r:List Stm),A2I (l++r)=A2I l++A2I r
 | [],r=>by rw[L9,A2I];rfl
 |x::l,r=>by rw[Q8,A2I,A2I,B5e l r,J5]
abbrev FlR (a b:Nat):Prop:=A1i a b=true
def A9i (o γ:Lab):Prop:= ∀f,A1i (o f) (γ f)=true
mutual
theorem D36 {o γ:Lab} (h:A9i o γ):∀(x:Stm),AllTwo FlR (A4y o x).labs (A4y γ x).labs
 | .mk k nm a lb op e thn els f t=>by
  rw[A4y,A4y,Stm.labs,Stm.labs];refine AllTwo.app ?_ (AllTwo.app (B4l h thn) (B4l h els))
  split
  ·refine .cons ?_ .nil
   show A1i _ _=true
   split
   ·exact h f
   ·exact A4l _
  ·exact .nil
theorem B4l {o γ:Lab} (h:A9i o γ):∀(l:List Stm),AllTwo FlR (A2I (A1r o l)) (A2I (A1r γ l))
 | []=>by rw[A1r,A1r,A2I];exact .nil
 |x::l=>by
  rw[A1r,A1r,A2I,A2I];exact AllTwo.app (D36 h x) (B4l h l)
end
theorem A96 {a b c d:Nat} (h:A1i a c=true) (g:A1i b d=true):A1i (a|||b) (c|||d)=true:=by
 rw[C2J,Q3];exact⟨(A2A _ _).2 (fun k hk ht=>by rw[Nat.testBit_or,(A2A _ _).1 h k hk ht,Bool.true_or]),(A2A _ _).2 (fun k hk ht=>by rw[Nat.testBit_or,(A2A _ _).1 g k hk ht,Bool.or_true])⟩
theorem D3R {o γ:Lab} (h:A9i o γ) (sc:List Li) (n:List UInt8):A1i (A65 (A3e o sc) n) (A65 (A3e γ sc) n)=true:=by
 rw[A65,A65,A8A,A8A];cases A4k sc n with
 |none=>exact A4l _
 |some l=>
  simp only[A1g];rw[Li.val,Li.val];split
  ·exact A4l _
  ·exact h _
section
variable {its:List Itm}{o γ:Lab}
mutual
theorem B0j (h:A9i o γ) (sc:List Li):∀(e:Ex),A1i (A1e its (A3e o sc) e) (A1e its (A3e γ sc) e)=true
 | .mk k nm n args f t=>by
  rw[A1e,A1e];split
  ·exact D3R h sc nm
  ·split
   ·exact B75 h sc args 0 0 (A4l _)
   ·split<;>exact A4l _
theorem B75 (h:A9i o γ) (sc:List Li):∀(l:List Ex) (n m:Nat),A1i n m=true->A1i (A0Y its (A3e o sc) l n) (A0Y its (A3e γ sc) l m)=true
 | [],n,m,hn=>by rw[A0Y,A0Y];exact hn
 |e::l,n,m,hn=>by
  rw[A0Y,A0Y];exact B75 h sc l _ _ (A96 hn (B0j h sc e))
end
theorem D25 (h:A9i o γ) (sc:List Li) (k:Nat) {un uG:Nat} (hu:A1i un uG=true) (e:Ex):A1i (unF its (A3e o sc) k un e) (unF its (A3e γ sc) k uG e)=true:=by
 rw[unF,unF];split
 ·exact A96 (B0j h sc e) hu
 ·exact hu
theorem D34 (h:A9i o γ) (sc:List Li) (k:Nat) {un uG:Nat} (hu:A1i un uG=true) (e:Ex):A1i (A72 its (A3e o sc) k un e) (A72 its (A3e γ sc) k uG e)=true:=
 A96 (B0j h sc e) (D25 h sc k hu e)
mutual
theorem C6X (h:A9i o γ) (sc:List Li) {un uG:Nat} (hu:A1i un uG=true):∀(e:Ex),A8K its (A3e γ sc) uG e->A8K its (A3e o sc) un e
 | .mk k nm n args f t,hx=>by
  rw[A8K]at hx |-;refine⟨fun h3=>B7j h sc hu args (hx.1 h3),fun h2 h3 h4=>?_⟩
  obtain⟨q1,q2,q3⟩:=hx.2 h2 h3 h4;exact⟨B7j h sc hu args q1,B80 h sc hu args 0 q2,fun j hj=>A38 hu (q3 j hj)⟩
theorem B7j (h:A9i o γ) (sc:List Li) {un uG:Nat} (hu:A1i un uG=true):∀(l:List Ex),A37 its (A3e γ sc) uG l->A37 its (A3e o sc) un l
 | [],_=>by rw[A37];trivial
 |e::l,hx=>by
  rw[A37]at hx |-;exact⟨C6X h sc hu e hx.1,B7j h sc hu l hx.2⟩
theorem B80 (h:A9i o γ) (sc:List Li) {un uG:Nat} (hu:A1i un uG=true) {nm:List UInt8}:∀(l:List Ex) (i:Nat),A4I its (A3e γ sc) uG nm l i->A4I its (A3e o sc) un nm l i
 | [],_,_=>by rw[A4I];trivial
 |e::l,i,hx=>by
  rw[A4I]at hx |-;exact⟨fun j p h1 h2=>A38 (A96 (B0j h sc e) hu) (hx.1 j p h1 h2),B80 h sc hu l (i+1) hx.2⟩
end
theorem C9o {p:LP} (h:A9i p.1 γ) {f n:Nat} (hn:A1i n (γ f)=true):A9i (A3K p f n).1 γ:=by
 rw[A3K];split
 ·exact h
 ·intro g
  show A1i (upL p.1 f (p.1 f|||n) g) (γ g)=true
  rw[upL];split
  ·rename_i e;subst e
   rw[C2J,Q3];exact⟨h _,hn⟩
  ·exact h g
theorem B9P {p:LP} (h:A9i p.1 γ) {f:Option Nat}{n:Nat} (hn:∀g,f=some g->A1i n (γ g)=true):A9i (A4T p f n).1 γ:=by
 cases f with
 |none=>exact h
 |some f=>exact C9o h (hn f rfl)
theorem C0B (_own:Nat) (x:Stm) (sc:List Li) (un uG:Nat) (p:LP):scF its (A4y γ x) (A3e γ sc) uG=A3e γ (A9k its x sc un p).1:=by
 cases x with
 |mk k nm a lb op e thn els f t=>
  rw[A4y,A9k];by_cases k1:k=1
  ·subst k1
   show (if (1:Nat)=1 then A3e γ sc++ [⟨nm,if (if (1:Nat)=1 then false else op)=true then _ else (if (1:Nat)=1/\op=true then γ f else lb)⟩] else A3e γ sc)=_
   rw[if_pos rfl,if_pos rfl,if_neg (by decide)];try dsimp only
   rw[if_pos rfl,A3e,A3e];dsimp only
   rw[V5]
   congr 1
   cases op with
   |true=>simp[A8t,Li.val]
   |false=>simp[A8t,Li.val]
  ·rw[if_neg k1]
   rw[if_neg k1,show scF its (Stm.mk k nm a (if k=1/\op=true then γ f else lb) op e (A1r γ thn) (A1r γ els) f t) (A3e γ sc) uG=A3e γ sc from if_neg k1];split
   ·rfl
   ·split<;>rfl
mutual
theorem C8O (own:Nat):∀(x:Stm) (sc:List Li) {un uG:Nat}{p:LP},A9i p.1 γ->A1i un uG=true->A45 its own (A4y γ x) (A3e γ sc) uG->A9i (A9k its x sc un p).2.1 γ
 | .mk k nm a lb op e thn els f t,sc,un,uG,p,hp,hu,hx=>by
  rw[A4y,A45]at hx;obtain⟨_,h1,h2,_,_,h34⟩:=hx;have ha:A1i (A1e its (A3e p.1 sc) e|||un) (A72 its (A3e γ sc) k uG e)=true:=by
   rw[A7Q];exact A96 (B0j hp sc e) hu
  rw[A9k];by_cases k1:k=1
  ·rw[if_pos k1]
   have h1:=h1 k1;rw[if_neg (by rw[if_pos k1];decide)]at h1;dsimp only
   refine B9P hp (fun g hg=>?_)
   cases op with
   |false=>simp[A8t]at hg
   |true=>
    simp only[A8t,if_true,X4]at hg;subst hg;rw[if_pos ⟨k1,rfl⟩]at h1;exact A38 ha h1
  rw[if_neg k1];by_cases k2:k=2
  ·rw[if_pos k2]
   have h2:=h2 k2;dsimp only
   rw[B8f];rw[A65,A8A]at h2;cases hf:A4k sc nm with
   |none=>exact hp
   |some l=>
    rw[hf]at h2;simp only[A1g]at h2;refine B9P hp (fun g hg=>?_)
    rw[Li.val,hg]at h2;exact A38 ha h2
  rw[if_neg k2];by_cases k3:k=3\/k=4
  ·rw[if_pos k3]
   obtain⟨q1,q2⟩:=h34 k3;exact B0I own els sc (B0I own thn sc hp ha q1) ha q2
  ·rw[if_neg k3];exact hp
theorem B0I (own:Nat):∀(l:List Stm) (sc:List Li) {un uG:Nat}{p:LP},A9i p.1 γ->A1i un uG=true->A1M its own (A1r γ l) (A3e γ sc) uG->A9i (A2x its l sc un p).2.1 γ
 | [],sc,un,uG,p,hp,_,_=>by rw[A2x];exact hp
 |x::l,sc,un,uG,p,hp,hu,hx=>by
  rw[A1r,A1M]at hx;rw[A2x];refine B0I own l _ (C8O own x sc hp hu hx.1) hu ?_
  rw[<-C0B own x sc un uG p];exact hx.2
end
mutual
theorem C85 (own:Nat) (h:A9i o γ):∀(x:Stm) (sc:List Li) {un uG:Nat},A1i un uG=true->A45 its own (A4y γ x) (A3e γ sc) uG->(A9k its x sc un (o,false)).2.2=false->A45 its own (A4y o x) (A3e o sc) un
 | .mk k nm a lb op e thn els f t,sc,un,uG,hu,hx,hf=>by
  rw[A4y,A45]at hx;rw[A4y,A45];obtain⟨h0,h1,h2,h5,h6,h34⟩:=hx;have ha:=D34 (its:=its) h sc k hu e;refine⟨C6X h sc (D25 h sc k hu e) e h0,fun k1=>?_,fun k2=>?_,fun k5 j hj=>A38 ha (h5 k5 j hj),fun k6=>A38 ha (h6 k6),fun k3=>?_⟩
  ·have h1:=h1 k1
   rw[if_neg (by rw[if_pos k1];decide)]at h1 |-;rw[A9k,if_pos k1]at hf;dsimp only at hf;cases op with
   |false=>
    rw[if_neg (fun e=>by cases e.2)]at h1 |-;exact A38 ha h1
   |true=>
    rw[if_pos ⟨k1,rfl⟩];have hr:o f|||(A1e its (A3e o sc) e|||un)=o f:=by
     simp only[A8t,if_true,A4T,A3K]at hf;split at hf
     ·assumption
     ·cases hf
    rw[A7Q];exact B5Q hr
  ·have h2:=h2 k2
   rw[A9k,if_neg (by omega),if_pos k2]at hf;dsimp only at hf;rw[B8f]at hf;rw[A65,A8A]at h2 |-;cases hl:A4k sc nm with
   |none=>
    rw[hl]at h2;exact A38 ha h2
   |some l=>
    rw[hl]at h2 hf;simp only[A1g]at h2 |-;rw[Li.val]at h2 |-;cases ho:l.op with
    |none=>
     rw[ho]at h2;exact A38 ha h2
    |some g=>
     have hr:o g|||(A1e its (A3e o sc) e|||un)=o g:=by
      simp only[ho,A4T,A3K]at hf;split at hf
      ·assumption
      ·cases hf
     rw[A7Q];exact B5Q hr
  ·obtain⟨q1,q2⟩:=h34 k3
   rw[A9k,if_neg (by omega),if_neg (by omega),if_pos k3]at hf;dsimp only at hf;have r1:=A6Q its els _ _ _ hf;rw[r1]at hf;have r2:=A6Q its thn _ _ _ hf;have r3:(A2x its els sc (A1e its (A3e o sc) e|||un) (o,false)).2.2=false:=by
    rw[r2]at r1;rw[r1]
   rw[<-A7Q _ k]at hf r3;exact⟨B0Y own h thn sc ha q1 hf,B0Y own h els sc ha q2 r3⟩
theorem B0Y (own:Nat) (h:A9i o γ):∀(l:List Stm) (sc:List Li) {un uG:Nat},A1i un uG=true->A1M its own (A1r γ l) (A3e γ sc) uG->(A2x its l sc un (o,false)).2.2=false->A1M its own (A1r o l) (A3e o sc) un
 | [],sc,un,uG,_,_,_=>by rw[A1r,A1M];trivial
 |x::l,sc,un,uG,hu,hx,hf=>by
  rw[A1r,A1M]at hx;rw[A1r,A1M];rw[A2x]at hf;have q1:=A6Q its l _ _ _ hf;rw[q1]at hf;have q2:=B90 its x _ _ _ hf;refine⟨C85 own h x sc hu hx.1 hf,?_⟩
  rw[C0B own x sc un un (o,false)];refine B0Y own h l _ hu ?_ (by rw[q2]at q1;rw[q1])
  rw[<-C0B own x sc un uG (o,false)];exact hx.2
end
end
section
variable {its:List Itm}{at_:Int}
end
section
variable {its g:List Itm}
theorem C0b (h:AllTwo A4G its g) (l:List Rf):A43 g l=A43 its l:=by
 rw[A43,A43]
 congr 1
 funext n x
 rw[A7d,A7d,B20 h];split
 ·rw[(B4H h _).label]
 ·rfl
theorem B8t (h:AllTwo A4G its g) (sc:List Lc) (un:Nat) (nm:List UInt8):∀(l:List Ex) (i:Nat),A4I g sc un nm l i=A4I its sc un nm l i
 | [],i=>by rw[A4I,A4I]
 |e::l,i=>by
  rw[A4I,A4I,B8t h sc un nm l (i+1),B1n h,B20 h]
  congr 1
  refine propext ⟨fun k j p h1 h2=>k j p h1 (by rw[(B4H h j).params];exact h2),fun k j p h1 h2=>k j p h1 (by rw[(B4H h j).params]at h2;exact h2)⟩
mutual
theorem C38 (h:AllTwo A4G its g) (sc:List Lc) (un:Nat):∀(e:Ex),A8K g sc un e=A8K its sc un e
 | .mk k nm n args f t=>by
  rw[A8K,A8K,C0a h sc un args,B8t h sc un nm args 0,B20 h]
  congr 1
  refine propext ⟨fun q h2 h3 h4=>?_,fun q h2 h3 h4=>?_⟩
  ·obtain⟨q1,q2,q3⟩:=q h2 h3 h4
   exact⟨q1,q2,fun j hj=>by have:=q3 j hj;rw[C0b h,(B4H h j).sends]at this;exact this⟩
  ·obtain⟨q1,q2,q3⟩:=q h2 h3 h4
   exact⟨q1,q2,fun j hj=>by rw[C0b h,(B4H h j).sends];exact q3 j hj⟩
theorem C0a (h:AllTwo A4G its g) (sc:List Lc) (un:Nat):∀(l:List Ex),A37 g sc un l=A37 its sc un l
 | []=>by rw[A37,A37]
 |e::l=>by rw[A37,A37,C38 h sc un e,C0a h sc un l]
end
theorem C39 (h:AllTwo A4G its g) (sc:List Lc) (k un:Nat) (e:Ex):A72 g sc k un e=A72 its sc k un e:=by
 rw[A7Q,A7Q,B1n h]
theorem D5i (h:AllTwo A4G its g) (sc:List Lc) (k un:Nat) (e:Ex):unF g sc k un e=unF its sc k un e:=by
 rw[unF,unF,B1n h]
theorem D5h (h:AllTwo A4G its g) (x:Stm) (sc:List Lc) (un:Nat):scF g x sc un=scF its x sc un:=by
 rw[scF,scF,C39 h]
mutual
theorem C9E (h:AllTwo A4G its g) (own:Nat):∀(x:Stm) (sc:List Lc) (un:Nat),A45 g own x sc un=A45 its own x sc un
 | .mk k nm a lb o e thn els f t,sc,un=>by
  rw[A45,A45,D5i h,C38 h,C39 h,A9e h own thn,A9e h own els,B20 h];have e5:(k=5->∀j,A0M its 1 nm=some j->A1i (A72 its sc k un e) (X7 g j).label=true)=(k=5->∀j,A0M its 1 nm=some j->A1i (A72 its sc k un e) (X7 its j).label=true):=
   propext ⟨fun q h5 j hj=>by have:=q h5 j hj;rw[(B4H h j).label]at this;exact this,fun q h5 j hj=>by rw[(B4H h j).label];exact q h5 j hj⟩
  rw[e5]
theorem A9e (h:AllTwo A4G its g) (own:Nat):∀(l:List Stm) (sc:List Lc) (un:Nat),A1M g own l sc un=A1M its own l sc un
 | [],sc,un=>by rw[A1M,A1M]
 |x::l,sc,un=>by rw[A1M,A1M,C9E h own x,D5h h,A9e h own l]
end
end
def A4w (give:List Int):List Itm->Nat->List Itm
 | [],_=> []
 |it::l,n=> { it with body:=(A1c give it.body n).1}::A4w give l (A1c give it.body n).2
theorem B6d {give:List Int}:∀ {l:List Itm} (n:Nat),(∀it∈l,(A1s it.body).Nodup)->AllTwo (fun a b=> ∃γ,b=itI γ a) l (A4w give l n)
 | [],n,_=> .nil
 |it::l,n,h=>by
  obtain⟨γ,hg⟩:=C9M give it.body n (h it O4);rw[A4w,hg];exact .cons ⟨γ,rfl⟩ (B6d _ (fun x hx=>h x (Z4 _ hx)))
theorem AllTwo.imp {α β:Type}{R S:α->β->Prop} (f:∀a b,R a b->S a b):∀ {l:List α}{r:List β},AllTwo R l r->AllTwo S l r
 |_,_,.nil=> .nil
 |_,_,.cons h t=> .cons (f _ _ h) (t.imp f)
theorem C7d {its:List Itm}{it:Itm}{γ:Lab}{own:Nat} (h:A1M its own (A1r γ it.body) (A44 it.params) 0):∀k,A9i (A8m its it k) γ
 |0=>fun f=>by rw[A8m];exact B3z _
 |k+1=>by
  have ih:=C7d h k;rw[A8m,A5v];rw[B7Z γ]at h;exact B0I own it.body (B0i it.params) (p:=(A8m its it k,false)) ih (A4l 0) h
theorem C2Q {its r:List Itm} (hL:B4S its r) {give:List Int}{n:Nat} (hn:∀it∈its,(A1s it.body).Nodup) (hb:∀it∈its,it.kind≠2->it.body= [])
  (hs:A8k (A4w give its n)):A8k r/\∀(i:Nat) (a b:Itm),r[i]?=some a->(A4w give its n)[i]?=some b->AllTwo FlR (A2I a.body) (A2I b.body):=by
 have hw:=B6d (give:=give) n hn;generalize A4w give its n=g at hs hw |-;have hg:AllTwo A4G its g:=hw.imp (fun _ _ ⟨o,h⟩=> .inr ⟨o,h⟩);have hr:=B9y hL;have key:∀(i:Nat) (it a b:Itm),its[i]?=some it->r[i]?=some a->g[i]?=some b->it.kind=2->∃o γ,A9i o γ/\a=itI o it/\b=itI γ it/\A1M its it.label (A1r o it.body) (A44 it.params) 0:=fun i it a b hi ha hb' hk=>by
  obtain⟨a',ha',hla⟩:=AllTwo.get hL hi;rw[ha]at ha';obtain rfl:=Z8 ha';obtain⟨b',hb'',γ,hγ⟩:=hw.get hi;rw[hb']at hb'';obtain rfl:=Z8 hb'';subst hγ;obtain⟨o,hfx,rfl⟩:=hla.1 hk;have hil:i<g.length:=(A0D.1 hb').1;have hc:=hs i hil;have hno:X7 g i=itI γ it:=by rw[X7,N9,hb'];rfl
  rw[A2J,hno,if_pos (show (itI γ it).kind=2 from hk)]at hc;have hc2:=(A8e _ hc).2;rw[A9e hg]at hc2;have hc3:A1M its it.label (A1r γ it.body) (A44 it.params) 0:=hc2;obtain⟨⟨k,rfl⟩,hfix⟩:=hfx;have hle:=C7d hc3 k;refine⟨_,γ,hle,rfl,rfl,?_⟩
  rw[B7Z γ]at hc3;rw[B7Z (A8m its it k)];rw[A5v]at hfix;exact B0Y _ hle it.body (B0i it.params) (A4l 0) hc3 (by rw[hfix])
 refine⟨fun i hi=>?_,fun i a b ha hb'=>?_⟩
 ·have hlen:=hL.len
  have hi':i<its.length:=by omega
  have hit:its[i]?=some its[i]:=F9 hi';have ha:r[i]?=some r[i]:=F9 hi;have hbl:i<g.length:=by rw[hw.len];exact hi'
  have hb':g[i]?=some g[i]:=F9 hbl;have hno:X7 r i=r[i]:=by rw[X7,N9,ha];rfl
  have hno2:X7 its i=its[i]:=by rw[X7,N9,hit];rfl
  rw[A2J,hno];split
  ·rename_i hk
   have hk2:its[i].kind=2:=by
    have:=(B4H hr i).kind;rw[hno,hno2]at this;rw[<-this];exact hk
   obtain⟨o,γ,hle,e1,e2,hok⟩:=key i _ _ _ hit ha hb' hk2;rw[e1];show (A1C r its[i].label (-1) (A1r o its[i].body) (A44 its[i].params) 0 FW0).2.ds= []
   rw[A9b _ (by rw[A9e hr];exact hok)];rfl
  ·rfl
 ·have hil:i<its.length:=by rw[<-hL.len];exact(A0D.1 ha).1
  have hit:its[i]?=some its[i]:=F9 hil;by_cases hk:its[i].kind=2
  ·obtain⟨o,γ,hle,e1,e2,_⟩:=key i _ _ _ hit ha hb' hk
   subst e1;subst e2;exact B4l hle its[i].body
  ·obtain⟨a',ha',hla⟩:=AllTwo.get hL hit
   rw[ha]at ha';obtain rfl:=Z8 ha';obtain⟨b',hb'',γ,hγ⟩:=hw.get hit;rw[hb']at hb'';obtain rfl:=Z8 hb'';subst hγ;rw[hla.2 hk];have:=hb _ (O1 hil) hk;show AllTwo FlR (A2I its[i].body) (A2I (A1r γ its[i].body))
   rw[this,A1r,A2I];exact .nil
theorem D35 (y:Stm):y.labs=(if y.kind=1 then [y.label] else [])++(A2I y.thn++A2I y.els):=by
 cases y
 rw[Stm.labs]
 rfl
theorem B7F {l:List Stm}{k:Nat}{y:Stm} (h:l[k]?=some y):A2I (l.take (k+1))=A2I (l.take k)++y.labs:=by
 rw[U2 h,B5e,A2I,A2I,J4]
theorem D1d {l:List Stm}{k:Nat}{y:Stm} (h:l[k]?=some y):(A2I (l.take k)).length+y.labs.length<=(A2I l).length:=by
 have:=B5e (l.take (k+1)) (l.drop (k+1));rw[A23,B7F h]at this;rw[this,D9,D9];omega
theorem D3j (give:List Int) (y:Stm) (n:Nat):A8h give y n=
  (.mk y.kind y.name y.at_ (if y.kind=1/\y.opn=true then B1y give n else y.label) (if y.kind=1 then false else y.opn) y.e
   (A1c give y.thn (if y.kind=1/\y.opn=true then n+1 else n)).1 (A1c give y.els (A1c give y.thn (if y.kind=1/\y.opn=true then n+1 else n)).2).1 y.fr y.to,
   (A1c give y.els (A1c give y.thn (if y.kind=1/\y.opn=true then n+1 else n)).2).2):=by
 cases y
 rw[A8h]
 rfl
theorem B5C (give:List Int):∀(l r:List Stm) (n:Nat),A1c give (l++r) n=((A1c give l n).1++(A1c give r (A1c give l n).2).1,(A1c give r (A1c give l n).2).2)
 | [],r,n=>by rw[L9,A1c];rfl
 |x::l,r,n=>by rw[Q8,A1c,A1c,B5C give l r];rfl
theorem A7L (give:List Int):∀(l:List Stm) (n:Nat),(A1c give l n).1.length=l.length
 | [],n=>by rw[A1c]
 |x::l,n=>by rw[A1c,E9,E9,A7L give l]
theorem B8B {give:List Int}{l:List Stm}{k:Nat}{y:Stm} (h:l[k]?=some y) (n:Nat):
  A1c give (l.take (k+1)) n=((A1c give (l.take k) n).1++ [(A8h give y (A1c give (l.take k) n).2).1],(A8h give y (A1c give (l.take k) n).2).2):=by
 rw[U2 h,B5C,A1c,A1c]
mutual
theorem C6z (give:List Int):∀(x:Stm) (n:Nat),n<=(A8h give x n).2
 | .mk k nm a lb op e thn els f t,n=>by
  rw[A8h];dsimp only
  have h1:=A6U give thn (if k=1/\op=true then n+1 else n);have h2:=A6U give els (A1c give thn (if k=1/\op=true then n+1 else n)).2;have h3:n<=(if k=1/\op=true then n+1 else n):=by split<;>omega
  omega
theorem A6U (give:List Int):∀(l:List Stm) (n:Nat),n<=(A1c give l n).2
 | [],n=>by rw[A1c];exact H7 _
 |x::l,n=>by
  rw[A1c];dsimp only
  have h1:=C6z give x n;have h2:=A6U give l (A8h give x n).2;omega
end
theorem C9K {give:List Int}{l:List Stm}{k:Nat}{y:Stm} (h:l[k]?=some y) (n:Nat):(A8h give y (A1c give (l.take k) n).2).2<=(A1c give l n).2:=by
 have:=B5C give (l.take (k+1)) (l.drop (k+1)) n;rw[A23,B8B h]at this;rw[this];exact A6U give _ _
theorem C29:∀ {l:List (Nat×Nat)},(∀p∈l,p.2<256)->∀g,B7I l g<256
 | [],_,g=>by
  rw[B7I];omega
 |(f,v)::l,h,g=>by
  rw[B7I];split
  ·exact h (f,v) O4
  ·exact C29 (fun p hp=>h p (Z4 _ hp)) g
theorem C0g {give:List Int}:∀ {l:List Itm} (n:Nat),(∀it∈l,(A1s it.body).Nodup)->AllTwo (fun a b=> ∃γ:Lab,(∀f,γ f<256)/\b=itI γ a) l (A4w give l n)
 | [],n,_=> .nil
 |it::l,n,h=>by
  have hg:=A9f it.body n (B5g ((A9X give it.body n).nodup (h it O4)));rw[A4w,hg];exact .cons ⟨_,C29 (B6q give it.body n),rfl⟩ (C0g _ (fun x hx=>h x (Z4 _ hx)))
theorem B8A (give:List Int):∀(l:List Itm) (n:Nat),(A4w give l n).length=l.length
 | [],n=>by rw[A4w]
 |it::l,n=>by rw[A4w,E9,E9,B8A give l]
theorem C6x {give:List Int}{its:List Itm} (n:Nat) (hI:∀x∈its,ItI x) (hL:A3Y its):(∀y∈A4w give its n,ItI y)/\A3Y (A4w give its n):=by
 have h:=C0g (give:=give) n (fun x hx=>(hI x hx).lets);have key:∀y∈A4w give its n,ItI y/\y.label<256/\∀p∈y.params,p.label<256:=fun y hy=>by
  obtain⟨x,hx,o,ho,rfl⟩:=h.mem y hy;exact⟨C7c ho (hI x hx),hL x hx⟩
 exact⟨fun y hy=>(key y hy).1,fun y hy=>(key y hy).2⟩
mutual
theorem C9L (give:List Int):∀(x:Stm) (n:Nat),(A8h give x n).2<=n+x.cnt
 | .mk k nm a lb op e thn els f t,n=>by
  rw[A8h,Stm.cnt];dsimp only
  have h3:(if k=1/\op=true then n+1 else n)<=n+1:=by split<;>omega
  generalize (if k=1/\op=true then n+1 else n)=n1 at h3;have h1:=B0t give thn n1;have h2:=B0t give els (A1c give thn n1).2;omega
theorem B0t (give:List Int):∀(l:List Stm) (n:Nat),(A1c give l n).2<=n+U1 l
 | [],n=>by rw[A1c];exact A73 _ _
 |x::l,n=>by
  rw[A1c,U1];dsimp only
  have h1:=C9L give x n;have h2:=B0t give l (A8h give x n).2;omega
end
mutual
theorem D1f:∀(x:Stm),x.labs.length<=x.cnt
 | .mk k nm a lb op e thn els f t=>by
  rw[Stm.labs,Stm.cnt,D9,D9];have h1:=B0a thn;have h2:=B0a els;have h3:(if k=1 then [lb] else []).length<=1:=by split<;>simp
  omega
theorem B0a:∀(l:List Stm),(A2I l).length<=U1 l
 | []=>by rw[A2I];exact H9 _
 |x::l=>by
  rw[A2I,U1,D9];have h1:=D1f x;have h2:=B0a l;omega
end
mutual
theorem D1e:∀(x:Stm),x.all B1L B24->∀n∈x.labs,n<256
 | .mk k nm a lb op e thn els f t,h,n,hn=>by
  rw[Stm.all]at h;rw[Stm.labs]at hn;rcases Y5.1 hn with hn|hn
  ·split at hn
   ·obtain rfl:=A0q.1 hn
    exact h.1
   ·cases hn
  ·rcases Y5.1 hn with hn|hn
   ·exact A99 thn h.2.2.1 n hn
   ·exact A99 els h.2.2.2 n hn
theorem A99:∀(l:List Stm),A0e B1L B24 l->∀n∈A2I l,n<256
 | [],_,n,hn=>by rw[A2I]at hn;cases hn
 |x::l,h,n,hn=>by
  rw[A0e]at h;rw[A2I]at hn;rcases Y5.1 hn with hn|hn
  ·exact D1e x h.1 n hn
  ·exact A99 l h.2 n hn
end
def B6l (give:List Int):List Itm->Nat->Nat
 | [],n=>n
 |it::l,n=>B6l give l (A1c give it.body n).2
theorem C0e {give:List Int}{x:Itm}:∀ {l:List Itm}{k:Nat},l[k]?=some x->∀n,B6l give (l.take (k+1)) n=(A1c give x.body (B6l give (l.take k) n)).2/\
  A4w give (l.take (k+1)) n=A4w give (l.take k) n++ [{ x with body:=(A1c give x.body (B6l give (l.take k) n)).1}]
 | [],_,h,_=>by cases h
 |it::l,0,h,n=>by
  obtain rfl:=Z8 h;exact⟨by simp[B6l],by simp[B6l,A4w]⟩
 |it::l,k+1,h,n=>by
  obtain⟨h1,h2⟩:=C0e (give:=give) (l:=l) (k:=k) h (A1c give it.body n).2;rw[A09,A09,B6l,B6l,A4w,A4w,h1,h2];exact⟨rfl,rfl⟩
theorem C78 {give:List Int}:∀(l:List Itm) (n:Nat),(∀x∈l,U1 x.body<=32000)->B6l give l n<=n+l.length *32000
 | [],n,_=>by rw[B6l];exact A73 _ _
 |it::l,n,h=>by
  have h1:=B0t give it.body n;have h2:=C78 (give:=give) l (A1c give it.body n).2 (fun x hx=>h x (Z4 _ hx));have h3:=h it O4;rw[B6l,E9];omega
theorem D0I (s:List UInt8):∀it∈G8 s,it.kind≠2->it.body= []:=fun it hit hk=>by
 rw[G8]at hit;split at hit
 ·rw[A3Z,Y7]at hit
  obtain⟨j,_,rfl⟩:=hit;rw[A1d]at hk |-;have hA:=B4i (src:=A1v s (A0l s) j) (p:=B1L) (q:=fun _ _ _ _ _ _ _=>True) (r:=fun _=>True) (t:=fun _=>True) ((A0l s).getD j 0) ⟨trivial,fun _=>trivial,fun _ _ _ _=>trivial,fun _ _=>trivial,fun _ _ _ _ _ _=>trivial,fun _ _ _ _ _ _ _ _ _ _ _ _ _ _ _ _=>trivial⟩
   ⟨trivial,fun _ _ _ _ _ _=>trivial,fun _ _ _=>trivial,fun _ _ _ _=>trivial,fun _ _ _=>trivial⟩ (fun _ _ _=>trivial) (fun _=>trivial)
  have:=hA.kind;by_cases k1:(item (A1v s (A0l s) j) ((A0l s).getD j 0)).kind=1
  ·exact(hA.chan k1).2.2
  ·exact(hA.bad (by omega)).2.2.2.2
 ·cases hit
def A4N:List UInt8:= [102,110,32,102,40,120,58,32,123,97,125,41,58,32,123,97,125,32,123,32,108,101,116,32,121,32,61,32,49,59,32,121,32,61,32,120,59,32,114,101,116,117,114,110,32,121,59,32,125]
theorem C46:Y1 A4N=0:=by decide+kernel
theorem B3C:(G8 A4N).length=1:=by decide+kernel
theorem C8D:(A2J (G8 A4N) 0 (-1)).ds.length=1:=by decide+kernel
theorem C2O:(X7 (G8 A4N) 0).kind=2:=by decide+kernel
def A8T:Lab:=A8m (G8 A4N) (X7 (G8 A4N) 0) 1
theorem C47:(A5v (G8 A4N) (X7 (G8 A4N) 0) A8T).2=false:=by decide+kernel
theorem C2N:(itI A8T (X7 (G8 A4N) 0)).body.length=3/\((itI A8T (X7 (G8 A4N) 0)).body.getD 0 default).label=1/\((itI A8T (X7 (G8 A4N) 0)).body.getD 0 default).opn=false:=by decide+kernel
theorem C45:(A2J [itI A8T (X7 (G8 A4N) 0)] 0 (-1)).ds.length=0:=by decide+kernel
theorem C2P {r:List Itm} (h:B4S (G8 A4N) r):r.length=1/\A8k r/\∃it x,r[0]?=some it/\it.body.length=3/\it.body[0]?=some x/\x.label=1/\x.opn=false:=by
 have l1:=B3C;have k1:=C2O;have e1:=C47;obtain⟨b1,b2,b3⟩:=C2N;have d2:=C45;have ho:A8T=A8m (G8 A4N) (X7 (G8 A4N) 0) 1:=rfl;generalize hits:G8 A4N=its at *;have e2:A5v its (X7 its 0) A8T=(A8T,false):=by
  have:=A6Q its (X7 its 0).body (B0i (X7 its 0).params) 0 (A8T,false) e1;exact this
 have h2:B4S its [itI A8T (X7 its 0)]:=by
  match its,l1 with
  | [a],_=>exact .cons ⟨fun _=>⟨_,⟨⟨1,ho⟩,e2⟩,rfl⟩,fun hk=>absurd k1 hk⟩ .nil
 obtain rfl:=B9z h h2;generalize itI A8T (X7 its 0)=it at *;refine⟨rfl,fun j hj=>?_,it,it.body.getD 0 default,rfl,b1,?_,b2,b3⟩
 ·obtain rfl:j=0:=by simpa using hj
  exact List.length_eq_zero_iff.1 d2
 ·rw[N9,F9 (by omega)];rfl
theorem C44:¬A8k (G8 A4N):=fun h=>by
 have h1:=C8D;rw[h 0 (by rw[B3C];omega)]at h1;cases h1
theorem ItI.toItF {it:Itm} (h:ItI it):ItF it:=⟨h.small,h.body,by have:=h.cnt;omega⟩
end Go.Sp
namespace Go.Proofs
open Go.Proofs.Tryz
open Go.Sp
open Go.Fw
theorem A2F.uncons {I:P8}{s:Sp.Stm}{l:List Sp.Stm}{xs:List Value}{H:List HItem} (h:A2F I (s::l) xs H):∃c r H1 H2,xs=c++r/\H=H1++H2/\StO I s c H1/\A2F I l r H2:=by
 rw[A2F]at h;exact h
abbrev D8t (it:Sp.Itm):Value->P8->List HItem->Prop:=fun v J H'=> ∃ap cp as_ cs ab cb ad cd Hb,v=.agg (A1J it.kind it.name it.label (.slice ap it.params.length cp) (.slice as_ it.sends.length cs) (.slice ab it.body.length cb) it.at_ it.size it.mark (.slice ad it.diags.length cd)).toArray/\
 H'=.row (.slice ap it.params.length cp) 103 3 it.params.length (it.params.flatMap A2L)::Hb/\B1G J it.body ab cb Hb/\
 RowI J 106 2 (.slice as_ it.sends.length cs) it.sends.length (it.sends.flatMap A27)/\RowI J 85 4 (.slice ad it.diags.length cd) it.diags.length (it.diags.flatMap A5F)
theorem D8a (it:Sp.Itm) (hs:it.small) (I:P8) (cs:List Value) (hi:A67 I it cs):CalM prog 48 #[.agg cs.toArray] I [] (D8t it):=by
 obtain⟨ap,cp,as_,cs',ab,cb,ad,cd,xb,rfl,r1,r2,r3,r4,r5⟩:=hi;have k1:=hs.params;have k2:=hs.sends;have k3:=hs.diags;have k4:=hs.body;refine CalM.of fun w E hm=>enter (N:=20) func48 rfl [(0,.agg (A1J it.kind it.name it.label (.slice ap it.params.length cp) (.slice as_ it.sends.length cs') (.slice ab it.body.length cb) it.at_ it.size it.mark (.slice ad it.diags.length cd)).toArray)] A0Z rfl ?_
 have c1:=fun (I':P8) (m:Le I I')=>C3l I' ap it.params.length cp _ (r1.le m) (B71 _) (by omega)
 have c2:=fun (I':P8) (m:Le I I')=>C3w I' as_ it.sends.length cs' _ (r2.le m) (C1c _) (by omega)
 have c3:=fun (I':P8) (m:Le I I')=>C3v I' ad it.diags.length cd _ (r5.le m) (C6S _) (by omega)
 have c4:=fun (I':P8) (m:Le I I')=>C5A (SizeOf.sizeOf it.body) it.body (H7 _) (by omega) hs.stms I' ab cb xb (r3.le m) (V4.le m _ _ r4)
 repeat' (first|refine A6T (id:=1) (hm.perm pm0) [([0,1,3,4,6,7],[2]),([9],[5]),([],[8])] 10 (h:=?_);clear hm;intro wd hR hm|refine V8 (d:=5) ?_ hm (hc:=c1 _ (Le.refl _));clear hm;rintro _ I2 _ _ ⟨a1,d1,rfl,rfl⟩ hle hm;have hleI2:=hle;try simp only[G5]at hm|refine V8 (d:=8) ?_ hm (hc:=c2 _ hleI2);clear hm;rintro _ I3 _ _ ⟨rfl,a2,d2,rfl,s2⟩ hle hm;have hleI3:=hle;try simp only[G5]at hm|refine V8 (d:=11) ?_ hm (hc:=c3 _ (hleI2.trans hleI3));clear hm;rintro _ I4 _ _ ⟨rfl,a3,d3,rfl,s3⟩ hle hm;have hleI4:=hle;try simp only[G5]at hm|refine F8 (d:=17) ?_ hm (hp:=pm0) (hc:=c4 _ ((hleI2.trans hleI3).trans hleI4));clear hm;rintro _ I5 Hb _ ⟨a4,d4,rfl,ho4⟩ hleI5 hm;replace hm:=hm.perm A1o;try simp only[G5]at hm|refine A0k ?_ hR|refine B1s ?_|refine B1r ?_|refine A0K ?_|refine C4y ?_|refine B3U ?_;replace hm:=hR.back hm;clear hR;try simp only[G5]at hm|refine A0T (d:=1) ?_ hm;clear hm;intro b1 _ hm|refine X8 (d:=2) ?_ hm;clear hm;intro b2 _ hm|refine J6 ?_ hm|refine Q7 ?_ hm|refine P6 ?_ hm;clear hm;intro _ hm;try simp only[G5]at hm|refine P5 hm (k:=?_);clear hm;intro _ hm;try simp only[G5]at hm|refine A0a ?_ hm|refine D5 ?_|refine E5 ?_|refine A7 ?_|refine E8 ?_|refine A8 ?_|refine J3 ?_|refine N8 ?_)
 refine⟨I5,_,⟨a1,d1,a2,d2,a4,d4,a3,d3,Hb,rfl,rfl,ho4,(s2.le hleI4).le hleI5,s3.le hleI5⟩,hm.snd.snd⟩
theorem _root_.Go.Fw.pmIn {x y z:HItem}: [x,y,z].Perm [y,z,x]:=A1o (l₁:= [x]) (l₂:= [y,z])
theorem B4b {o:Sp.Lab}:∀ {sc:List Loc}{i:Nat}{p:Loc},sc[i]?=some p->(sc.flatMap (A6c o))[i *3]?=some (str p.1.name)/\(sc.flatMap (A6c o))[i *3+1]?=some (nt (p.1.val o))/\(sc.flatMap (A6c o))[i *3+2]?=some p.2
 | [],i,p,h=>by simp at h
 |a::sc,0,p,h=>by
  simp only[A08,X4]at h;subst h;exact⟨rfl,rfl,rfl⟩
 |a::sc,i+1,p,h=>by
  rw[A02]at h;obtain⟨h1,h2,h3⟩:=B4b (o:=o) h;rw[show (i+1) *3=i *3+3 by omega];exact⟨h1,h2,h3⟩
theorem D1b (I:P8) (a b:Nat) (ha:a<256) (hb:b<256):CalR prog 78 #[nt a,nt b] I [] (nt (a|||b)):=
 ⟨fun w _ _=>(A9I a b ha hb w).mono (fun v w' ⟨h1,h2⟩=>⟨h1,by rw[h2];exact Kept.refl _ _⟩)⟩
theorem A9G (w:World):(zeroValue 3).run prog w=.ok (.int .i64 0) w:=by kernel_rfl
abbrev B3n (bd bf:Nat) (sc:List Loc) (o:Sp.Lab) (more:Bool) (sa:Option Addr) (sp bo:Nat) (zs:A1U):List HItem:=
 [.cell bd [ptr bf,.slice sa sc.length sp,.map (some bo),.bool more] 119,.row (.slice sa sc.length sp) 122 3 sc.length (sc.flatMap (A6c o)),.mz bo zs]
section
variable {bd bf sp bo:Nat}{sc:List Loc}{o:Sp.Lab}{more:Bool}{sa:Option Addr}{zs:A1U}
theorem D5J (nm:List UInt8) (I:P8) (hl:sc.length<=1000000000):
  CalM prog 81 #[ptr bd,str nm] I (B3n bd bf sc o more sa sp bo zs) (fun v _ H'=>
   (∃i p b,sc[i]?=some p/\A4k (sc.map (·.1)) nm=some p.1/\sa=some ⟨b,0,none⟩/\v=.pointer (some ⟨b,i *3,none⟩)/\H'=B3n bd bf sc o more sa sp bo zs)\/
   (A4k (sc.map (·.1)) nm=none/\∃bl,v=ptr bl/\H'=.cell bl [str [],nt 0,.pointer none] 122::B3n bd bf sc o more sa sp bo zs)):=by
 refine CalM.of fun w E hm=>enter (N:=34) func81 rfl [(0,ptr bd),(1,str nm)] A1x rfl ?_
 repeat' (first|refine J6 ?_ hm|refine D8 ?_|refine D6 ?_|refine G6 ?_|refine F5 ?_|refine A5e ?_|refine D5 ?_|refine E5 ?_|refine A7 ?_|refine E8 ?_|refine A8 ?_|refine F6 ?_)
 refine U3 (fun x:Nat=> [(0,ptr bd),(1,str nm),(5,.int .i64 ((x:Int)-1))])
  (fun x w'=>Mem E I (B3n bd bf sc o more sa sp bo zs) w'/\x<=sc.length/\∀m y,x<=m->sc[m]?=some y->y.1.name≠nm) (fun x=>x) sc.length (by exact⟨rfl,rfl,rfl,trivial⟩)
  ⟨hm,H7 _,fun m y hm hy=>by rw[A1n hm]at hy;cases hy⟩ ?_
 clear hm;rintro x w1 ⟨hm,hx,hno⟩;try dsimp only at hm hx hno |-
 cases x with
 |zero=>
  repeat' (first|refine A0T (d:=33) ?_ hm;clear hm;intro b33 _ hm|refine D8 ?_|refine D6 ?_|refine A11 ?_|refine Y0 ?_|refine E5 ?_|refine A7 ?_|refine H6 ?_|refine G9 ?_|refine E8 ?_|refine A8 ?_|refine O8 ?_|refine J3 ?_|refine J7 ?_|refine F7 ?_)
  refine⟨I,_,.inr ⟨C2E fun j y hy=>?_,b33,rfl,rfl⟩,hm⟩
  rw[Y6]at hy;cases hs:sc[j]? with
  |none=>rw[hs]at hy;cases hy
  |some p=>
   rw[hs]at hy;obtain rfl:=Z8 hy;exact hno j p (H9 _) hs
 |succ i=>
  have hg:sc[i]?=some sc[i]:=F9 hx;generalize sc[i]=p at hg;rw[show ((i+1:Nat):Int)-1=(i:Int) by omega];obtain⟨b,rfl⟩:=(hm.front 1 gt1).rowAddr (by omega);obtain⟨q1,q2,q3⟩:=B4b (o:=o) hg;by_cases hn:p.1.name=nm
  ·skip
   repeat' (first|refine A1G (i:=1) (d:=23) hm (by rfl) (by rfl) (by rfl) gt1 (by rw[V9,A2S];exact q1) ?_|refine J6 ?_ hm|refine D8 ?_|refine D6 ?_|refine A11 ?_|refine A0g ?_|refine F5 ?_|refine D5 ?_|refine Y3 (k:=?_)|refine E5 ?_|refine A7 ?_|refine H8 ?_|refine O5 ?_|refine E8 ?_|refine A8 ?_|refine F6 ?_|refine G7 ?_|refine J3 ?_|refine J7 ?_|refine H5 ?_|(refine C9 (ht:=fun _=>?_) (hf:=fun _=>?_)<;>try first|contradiction|omega))
   refine⟨I,_,.inl ⟨i,p,b,hg,B9k (by rw[Y6,hg];rfl) hn (fun j y hj hy=>?_),rfl,by rw[V9,A1R],rfl⟩,hm⟩
   rw[Y6]at hy;cases hs:sc[j]? with
   |none=>rw[hs]at hy;cases hy
   |some p=>
    rw[hs]at hy;obtain rfl:=Z8 hy;exact hno j p (by omega) hs
  ·skip
   repeat' (first|refine A1G (i:=1) (d:=23) hm (by rfl) (by rfl) (by rfl) gt1 (by rw[V9,A2S];exact q1) ?_|refine J6 ?_ hm|refine D8 ?_|refine D6 ?_|refine A11 ?_|refine A0g ?_|refine F5 ?_|refine A5e ?_|refine D5 ?_|refine Y3 (k:=?_)|refine E5 ?_|refine A7 ?_|refine D7 ?_|refine E8 ?_|refine A8 ?_|refine F6 ?_|refine G7 ?_|refine H5 ?_|(refine C9 (ht:=fun _=>?_) (hf:=fun _=>?_)<;>try first|contradiction|omega))
   refine L6 (i:Nat) (by exact⟨rfl,rfl,rfl,trivial⟩) ⟨hm,by omega,fun m y hm hy=>?_⟩ (by omega)
   rcases U9 i m with h|h
   ·exact hno m y h hy
   ·obtain rfl:m=i:=by omega
    rw[hg]at hy;obtain rfl:=Z8 hy;exact hn
theorem C0E (I:P8) (v:Value) (op:Option Nat) (o1:Sp.Lab) (a:Nat) (ha:a<256) (hv:C8a I v op) (hz:OpenZ zs o1) (ho:∀f,o1 f<256):
  CalM prog 80 #[ptr bd,v,nt a] I (B3n bd bf sc o more sa sp bo zs) (fun u _ H'=>u=.tuple #[]/\∃zs',OpenZ zs' (A4T (o1,more) op a).1/\H'=B3n bd bf sc o (A4T (o1,more) op a).2 sa sp bo zs'):=by
 refine CalM.of fun w E hm=>enter (N:=52) func80 rfl [(0,ptr bd),(1,v),(2,nt a)] A4x rfl ?_
 rcases hv with ⟨rfl,rfl⟩|⟨b,off,tc,ec,y,ea,v1,v2,rfl,hp,rfl⟩
 ·skip
  repeat' (first|refine A5p (e:=111) (by kernel_rfl) (by rfl) (by rfl) (by rfl) (by rfl) ?_|refine D8 ?_|refine O0 ?_|refine A0z ?_|refine E5 ?_|refine A7 ?_|refine H8 ?_|refine E8 ?_|refine A8 ?_|refine J3 ?_|refine A69 ?_|refine H5 ?_)
  exact⟨I,_,⟨rfl,zs,hz,rfl⟩,hm⟩
 ·cases hop:y.opn with
  |false=>
   rw[hop]at hp;repeat' (first|refine A5p (e:=111) (by kernel_rfl) (by rfl) (by rfl) (by rfl) (by rfl) ?_|refine J9 ?_ hm|refine D8 ?_|refine N7 ?_|refine A0h ?_|refine F5 ?_|refine D5 ?_|refine E5 ?_|refine A7 ?_|refine H8 ?_|refine E8 ?_|refine A8 ?_|refine J3 ?_|refine A69 ?_|refine H5 ?_)
   exact⟨I,_,⟨rfl,zs,hz,rfl⟩,hm⟩
  |true=>
   rw[hop]at hp;have hlk:=hz.get y.fr;have hj:=D1b I (o1 y.fr) a (ho _) ha;have hqe:A4T (o1,more) (A8t true y.fr) a=A3K (o1,more) y.fr a:=rfl;rw[hqe];obtain⟨n1,hn1⟩:∃n1,n1=o1 y.fr|||a:=⟨_,rfl⟩
   rw[<-hn1]at hj;by_cases heq:n1=o1 y.fr
   ·have hr:A3K (o1,more) y.fr a=(o1,more):=by rw[A3K,if_pos (by rw[<-hn1];exact heq)]
    rw[hr];repeat' (first|refine A5p (e:=111) (by kernel_rfl) (by rfl) (by rfl) (by rfl) (by rfl) ?_|refine A0S (id:=1) (hm.perm pm0) [0,1,2,3,4,5,6,7,8,9] [10] 11 (h:=?_);clear hm;intro wd hR hm|refine B7O (d:=24) hR (by rfl) (by rfl) (by rfl) (by rfl) gt2 A9G ?_;rw[hlk]|refine A5m (d:=26) ?_ hR hm (hc:=hj);clear hm;intro _ hm|refine A0b (id:=2) 10 (h:=?_)|refine B0W (d:=36) hm (by rfl) (by rfl) (by rfl) (by rfl) gt2 A9G ?_;rw[hlk]|refine A0k ?_ hR|refine A0G ?_ hR|refine A0K ?_;replace hm:=hR.back hm;clear hR;try simp only[G5]at hm|refine J9 ?_ hm|refine V3 ?_ hm|refine A0f ?_ hm|refine D8 ?_|refine D6 ?_|refine N7 ?_|refine A0w ?_|refine A0h ?_|refine F5 ?_|refine D5 ?_|refine E5 ?_|refine A7 ?_|refine E8 ?_|refine A8 ?_|refine G7 ?_|refine A0p ?_|refine V6 ?_;intro _ hkq;replace hm:=hm.kept0 hkq;clear hkq|refine F7 ?_|(refine C9 (ht:=fun _=>?_) (hf:=fun _=>?_)<;>try first|contradiction|omega)|refine Y4 ?_|refine Q9 ?_|refine L8 ?_|refine A0x ?_|refine U5 ?_|refine N8 ?_|refine A0y ?_)
    exact⟨I,_,⟨rfl,zs,hz,rfl⟩,hm⟩
   ·have hr:A3K (o1,more) y.fr a=(Sp.upL o1 y.fr n1,true):=by rw[A3K,if_neg (by rw[<-hn1];exact heq),hn1]
    rw[hr];repeat' (first|refine A5p (e:=111) (by kernel_rfl) (by rfl) (by rfl) (by rfl) (by rfl) ?_|refine A0S (id:=1) (hm.perm pm0) [0,1,2,3,4,5,6,7,8,9] [10] 11 (h:=?_);clear hm;intro wd hR hm|refine A2y (id:=3) (hm.perm pm1_2) [0,1,2,3,4,5,6,7,8,9] 13 (h:=?_);clear hm;intro wd hR hm|refine B7O (d:=24) hR (by rfl) (by rfl) (by rfl) (by rfl) gt2 A9G ?_;rw[hlk]|refine A5m (d:=26) ?_ hR hm (hc:=hj);clear hm;intro _ hm|refine A0b (id:=2) 10 (h:=?_)|refine B0W (d:=36) hm (by rfl) (by rfl) (by rfl) (by rfl) gt2 A9G ?_;rw[hlk]|refine C0U (d:=48) hm (by rfl) (by rfl) (by rfl) (by rfl) gt0 hz.nodup A9G ?_;clear hm;intro es1 j1 u1 _ hj1 hp1 hm;try simp only[G5]at hm|refine C6A (d:=49) hm.kept (by rfl) (by rfl) (by rfl) (by rfl) ?_|refine B7M hm (by rfl) (by rfl) (by rfl) (by rfl) (by rfl) gt0 hj1 hp1 ?_;clear hm;intro _ hm;try simp only[G5]at hm|refine A1I (i:=10) ?_ (by decide+kernel)|refine A1I (i:=11) ?_ (by decide+kernel)|refine A1I (i:=12) ?_ (by decide+kernel)|refine A6S (by decide+kernel) ?_;replace hm:=hR.back hm;clear hR;try simp only[G5]at hm|refine A0k ?_ hR|refine A0G ?_ hR|refine A0K ?_;replace hm:=hR.back hm;clear hR;try simp only[G5]at hm|refine B23 ?_|refine J9 ?_ hm|refine V3 ?_ hm|refine A0f ?_ hm|refine P5 hm (k:=?_);clear hm;intro _ hm;try simp only[G5]at hm|refine D8 ?_|refine D6 ?_|refine N7 ?_|refine A0w ?_|refine A0h ?_|refine F5 ?_|refine D5 ?_|refine E5 ?_|refine A7 ?_|refine E8 ?_|refine A8 ?_|refine G7 ?_|refine A0p ?_|refine V6 ?_;intro _ hkq;replace hm:=hm.kept0 hkq;clear hkq|refine F7 ?_|(refine C9 (ht:=fun _=>?_) (hf:=fun _=>?_)<;>try first|contradiction|omega)|refine Y4 ?_|refine Q9 ?_|refine L8 ?_|refine A0x ?_|refine U5 ?_|refine N8 ?_|refine A0y ?_)
    exact⟨I,_,⟨rfl,_,hz.put y.fr n1,rfl⟩,hm.perm pmIn⟩
end
structure InE where
 k:Nat
 I:P8
section
variable {bd bf sp bo:Nat}{sc:List Loc}{o:Sp.Lab}{more:Bool}{sa:Option Addr}{zs:A1U}{its:List Sp.Itm}{a:Option Addr}{cp:Nat}{xs:List Value}
theorem D6t (hlab:A3Y its) (hsl:A6Y (A3e o (sc.map (·.1)))) (hl:sc.length<=1000000000):∀(n:Nat) (e:Sp.Ex),SizeOf.sizeOf e<=n->e.small->∀(I:P8) (b off tc:Nat) (ea:Option Addr) (ec:Nat) (ys:List Value),
  FE I its a cp xs->PtrI I bf 0 25 [.slice a its.length cp]->PtrI I b off tc (A0E e ea ec)->RowI I 109 6 (.slice ea e.args.length ec) e.args.length ys->Z7 I e.args ys->
  CalM prog 79 #[ptr bd,.pointer (some ⟨b,off,none⟩)] I (B3n bd bf sc o more sa sp bo zs) (fun v _ H'=>v=nt (A1e its (A3e o (sc.map (·.1))) e)/\H'=B3n bd bf sc o more sa sp bo zs):=by
 intro n;induction n with
 |zero=>intro e h;cases e;simp at h
 |succ n ih=>
 intro e hsz hsm I b off tc ea ec ys hfe hpf hp hr hx;obtain⟨hal,hasm⟩:=A4u hsm;have hfew:=hfe.few;refine CalM.of fun w E hm=>enter (N:=71) func79 rfl [(0,ptr bd),(1,.pointer (some ⟨b,off,none⟩))] A1x rfl ?_
 rw[C9k];by_cases k2:e.kind=2
 ·rw[if_pos k2,D3S]
  have hG:=D5J (bd:=bd) (bf:=bf) (sc:=sc) (o:=o) (more:=more) (sa:=sa) (sp:=sp) (bo:=bo) (zs:=zs) e.name I hl;repeat' (first|refine F8 (d:=19) ?_ hm (hp:=pm3_0) (hc:=hG);clear hm;rintro _ I2 _ w9 (⟨i,p,b2,hgi,hfl,rfl,rfl,rfl⟩|⟨hfl,bl,rfl,rfl⟩) hleI2 hm|refine A1G (i:=1) (d:=22) hm (by rfl) (by rfl) (by rfl) gt1 (by exact(B4b (o:=o) hgi).2.1) ?_|refine J6 ?_ hm|refine J9 ?_ hm|refine D8 ?_|refine D6 ?_|refine O6 ?_|refine F5 ?_|refine D5 ?_|refine E5 ?_|refine A7 ?_|refine D7 ?_|refine E8 ?_|refine A8 ?_|refine F6 ?_|refine J3 ?_|refine J7 ?_|(refine C9 (ht:=fun _=>?_) (hf:=fun _=>?_)<;>try first|contradiction|omega))
  all_goals rw[hfl]
  ·exact⟨I2,_,⟨rfl,rfl⟩,hm⟩
  ·exact⟨I2,_,⟨rfl,rfl⟩,Mem.tl hm⟩
 rw[if_neg k2];by_cases k3:e.kind=3
 ·rw[if_pos k3]
  repeat' (first|refine J9 ?_ hm|refine D8 ?_|refine D6 ?_|refine O6 ?_|refine G6 ?_|refine F5 ?_|refine D5 ?_|refine E5 ?_|refine A7 ?_|refine E8 ?_|refine A8 ?_|refine F6 ?_|(refine C9 (ht:=fun _=>?_) (hf:=fun _=>?_)<;>try first|contradiction|omega))
  refine U3 (fun x:InE=> [(0,ptr bd),(1,.pointer (some ⟨b,off,none⟩)),(5,nt (A0Y its (A3e o (sc.map (·.1))) (e.args.take x.k) 0)),(29,nt e.args.length),(30,nt x.k)])
   (fun x w'=>Mem E x.I (B3n bd bf sc o more sa sp bo zs) w'/\Le I x.I/\x.k<=e.args.length) (fun x=>e.args.length-x.k) ⟨0,I⟩
   (by dsimp only;rw[Z9,A0Y];exact⟨rfl,rfl,rfl,rfl,rfl,trivial⟩) ⟨hm,Le.refl _,H9 _⟩ ?_
  clear hm;rintro⟨k,I2⟩ w2 ⟨hm,hle2,hk⟩;dsimp only at hm hle2 hk |-;have hp2:=hp.le hle2;have hrow:=hr.le hle2;have hlt1:=B00 hlab hsl (e.args.take k) 0 (by omega);by_cases hlt:k<e.args.length
  ·have hg:e.args[k]?=some e.args[k]:=F9 hlt
   have hsz2:=A3o (O1 hlt);have hsm2:=A2m hasm hg;obtain⟨ea2,ec2,ys2,hc2,hr2,hx2⟩:=(hx.get hg).out;have hst:=B4q its (A3e o (sc.map (·.1))) hg 0;generalize e.args[k]=y at hg hsz2 hsm2 hc2 hr2 hx2 hst;have hlt2:=A6X hlab hsl y;have hc:=fun (b3 o3:Nat) (hp3:PtrI I2 b3 o3 109 (A0E y ea2 ec2))=>ih y (by omega) hsm2 I2 b3 o3 109 ea2 ec2 ys2 (hfe.le hle2) (hpf.le hle2) hp3 (hr2.le hle2) (Z7.le hle2 _ _ hx2)
   generalize A1e its (A3e o (sc.map (·.1))) y=ny at hc hst hlt2;generalize A0Y its (A3e o (sc.map (·.1))) (e.args.take k) 0=nk at hst hlt1 |-;have hJ:=fun (J:P8)=>D1b J nk ny hlt1 hlt2
   repeat' (first|refine O7 (d:=40) ?_ (hr:=hrow);intro bt ot hpt;rw[show ((k:Int).toNat *6)=k *6 from rfl,hc2]at hpt|refine F8 (d:=41) ?_ hm (hp:=pm3_0) (hc:=hc bt ot hpt);clear hm;rintro _ I3 _ _ ⟨rfl,rfl⟩ hleI3 hm;try simp only[G5]at hm|refine U8 (d:=42) ?_ hm (hc:=hJ _);clear hm;intro _ hm|refine J9 ?_ hm|refine D8 ?_|refine D6 ?_|refine J8 ?_|refine F5 ?_|refine O9 ?_|refine D5 ?_|refine E5 ?_|refine A7 ?_|refine D7 ?_|refine E8 ?_|refine A8 ?_|refine F6 ?_|refine G7 ?_|(refine C9 (ht:=fun _=>?_) (hf:=fun _=>?_)<;>try first|contradiction|omega))
   rw[<-hst];exact L6 (⟨k+1,I3⟩:InE) (by exact⟨rfl,rfl,rfl,rfl,rfl,trivial⟩) ⟨hm,hle2.trans hleI3,by dsimp only;omega⟩ (by dsimp only;omega)
  ·obtain rfl:k=e.args.length:=by omega
   rw[V7];repeat' (first|refine D8 ?_|refine D6 ?_|refine J8 ?_|refine E5 ?_|refine A7 ?_|refine H6 ?_|refine D7 ?_|refine G9 ?_|refine E8 ?_|refine A8 ?_|refine O8 ?_|refine J3 ?_|refine J7 ?_|(refine C9 (ht:=fun _=>?_) (hf:=fun _=>?_)<;>try first|contradiction|omega))
   exact⟨I2,_,⟨rfl,rfl⟩,hm⟩
 rw[if_neg k3];by_cases k4:e.kind=4
 ·rw[if_pos k4,A21]
  have hF:=A9N 2 e.name its I a cp xs hfe;have hri:=hfe.row;cases hf:A0M its 2 e.name with
  |some j=>
   rw[show A6d its 2 e.name=(j:Int) by rw[A6d,hf]]at hF;obtain⟨hjl,_⟩:=A3O hf;have hg:its[j]?=some its[j]:=F9 hjl;have hno:X7 its j=its[j]:=by rw[X7,N9,hg];rfl
   obtain⟨cs,hcs,hat,hl10⟩:=hfe.get hg;dsimp only
   rw[hno];generalize its[j]=it at hg hat
   obtain⟨ap,cp',as_,cs',ab,cb',ad,cd,xb,rfl,_⟩:=hat
   repeat' (first|refine A0S (id:=12) (hm.perm pm0) [0,1,2,3,4,5,6,7,8,9] [10] 11 (h:=?_);clear hm;intro wd hR hm|refine A1y (d:=51) ?_ hR (hp:=hpf)|refine V8 (d:=56) ?_ hm (hc:=hF);clear hm;rintro _ I2 _ _ ⟨rfl,rfl⟩ hle hm;have hleI2:=hle;try simp only[G5]at hm|refine O7 (d:=67) ?_ (hr:=hri.le hleI2);intro bt ot hpt;rw[show ((j:Int).toNat *10)=j *10 from rfl,hcs]at hpt|refine A0O (d:=65) ?_ hm (hp:=hpf.le hleI2)|refine A0k ?_ hR|refine A0G ?_ hR|refine A0K ?_;replace hm:=hR.back hm;clear hR;try simp only[G5]at hm|refine J6 ?_ hm|refine J9 ?_ hm|refine D8 ?_|refine D6 ?_|refine A11 ?_|refine O6 ?_|refine F5 ?_|refine D5 ?_|refine E5 ?_|refine A7 ?_|refine D7 ?_|refine E8 ?_|refine A8 ?_|refine F6 ?_|refine J3 ?_|refine J7 ?_|refine H5 ?_|(refine C9 (ht:=fun _=>?_) (hf:=fun _=>?_)<;>try first|contradiction|omega)|refine A0x ?_|refine U5 ?_|refine N8 ?_|refine A0y ?_)
   exact⟨I2,_,⟨rfl,rfl⟩,hm⟩
  |none=>
   rw[show A6d its 2 e.name= -1 by rw[A6d,hf]]at hF;repeat' (first|refine A0S (id:=12) (hm.perm pm0) [0,1,2,3,4,5,6,7,8,9] [10] 11 (h:=?_);clear hm;intro wd hR hm|refine A1y (d:=51) ?_ hR (hp:=hpf)|refine V8 (d:=56) ?_ hm (hc:=hF);clear hm;rintro _ I2 _ _ ⟨rfl,rfl⟩ hle hm;have hleI2:=hle;try simp only[G5]at hm|refine A0k ?_ hR|refine A0G ?_ hR|refine A0K ?_;replace hm:=hR.back hm;clear hR;try simp only[G5]at hm|refine J9 ?_ hm|refine D8 ?_|refine D6 ?_|refine A11 ?_|refine O6 ?_|refine F5 ?_|refine D5 ?_|refine E5 ?_|refine A7 ?_|refine D7 ?_|refine E8 ?_|refine A8 ?_|refine F6 ?_|refine G7 ?_|refine J3 ?_|refine J7 ?_|refine F7 ?_|(refine C9 (ht:=fun _=>?_) (hf:=fun _=>?_)<;>try first|contradiction|omega)|refine A0x ?_|refine U5 ?_|refine N8 ?_|refine A0y ?_)
   exact⟨I2,_,⟨rfl,rfl⟩,hm⟩
 ·rw[if_neg k4]
  repeat' (first|refine J9 ?_ hm|refine D8 ?_|refine D6 ?_|refine O6 ?_|refine F5 ?_|refine D5 ?_|refine E5 ?_|refine A7 ?_|refine D7 ?_|refine E8 ?_|refine A8 ?_|refine F6 ?_|refine G7 ?_|refine J3 ?_|refine J7 ?_|(refine C9 (ht:=fun _=>?_) (hf:=fun _=>?_)<;>try first|contradiction|omega))
  exact⟨I,_,⟨rfl,rfl⟩,hm⟩
end
theorem C4K {o:Sp.Lab}{f n:Nat}:∀ {sc:List Loc},f∉A8v (sc.map (·.1))->sc.flatMap (A6c (Sp.upL o f n))=sc.flatMap (A6c o)
 | [],_=>rfl
 |p::sc,h=>by
  rw[U4,B5o]at h;have h1:p.1.op≠some f:=fun e=>h (by rw[e];exact A1E _ O4)
  rw[A0c,A0c,C4K (fun hf=>h (A1m _ hf))];show [str p.1.name,nt (p.1.val _),p.2]++_=_
  rw[D3d h1]
theorem C8o {p:Sp.LP}{op:Option Nat}{a:Nat}{sc:List Loc} (h:∀f,op=some f->f∉A8v (sc.map (·.1))):sc.flatMap (A6c (A4T p op a).1)=sc.flatMap (A6c p.1):=by
 cases op with
 |none=>rfl
 |some f=>
  show sc.flatMap (A6c (A3K p f a).1)=_
  rw[B79,C4K (h f rfl)]
theorem C6V {o:Sp.Lab}{f n:Nat}:∀ {sc:List Loc}{i:Nat}{p:Loc},sc[i]?=some p->p.1.op=some f->(A8v (sc.map (·.1))).Nodup->(sc.flatMap (A6c o)).set (i *3+1) (nt n)=sc.flatMap (A6c (Sp.upL o f n))
 | [],i,p,h,_,_=>by simp at h
 |q::sc,0,p,h,hop,hn=>by
  simp only[A08,X4]at h;subst h;rw[U4,B5o,hop]at hn;have h1:f∉A8v (sc.map (·.1)):=(A74.1 hn).1;rw[A0c,A0c,C4K h1];have e:q.1.val (Sp.upL o f n)=n:=by
   rw[Sp.Li.val,hop];show (if f=f then n else o f)=n
   rw[if_pos rfl]
  show _= [str q.1.name,nt (q.1.val _),q.2]++_
  rw[e];rfl
 |q::sc,i+1,p,h,hop,hn=>by
  rw[A02]at h;rw[U4,B5o]at hn;have hf:f∈A8v (sc.map (·.1)):=C3s (A4r (f:=(·.1)) (A03 h)) hop;have h1:q.1.op≠some f:=fun e=>by
   rw[e]at hn;exact(A74.1 hn).1 hf
  have ih:=C6V (o:=o) (n:=n) h hop (A6K.1 hn).2.1;rw[A0c,A0c, <-ih,show (i+1) *3+1=i *3+1+3 by omega];have e:A6c (Sp.upL o f n) q=A6c o q:=by
   show [str q.1.name,nt (q.1.val _),q.2]=_
   rw[D3d h1]
  rw[e];rfl
theorem C0u (o:Sp.Lab):∀(sc:List Loc),(sc.flatMap (A6c o)).length=sc.length *3
 | []=>rfl
 |p::sc=>by
  have ih:=C0u o sc;rw[A0c,D9,ih];show 3+sc.length *3=(sc.length+1) *3
  omega
theorem D2t {I:P8}{x:Sp.Stm}{b o tc ec:Nat}{ea:Option Addr}{v1 v2:Value} (hp:PtrI I b o tc (A2H x.kind x.name x.at_ x.label x.opn x.e ea ec v1 v2 x.fr x.to)):PtrI I b (o+5) tc (A0E x.e ea ec):=
 hp.sub (cs':=A0E x.e ea ec) 5 (fun j u hj=>by
  match j,hj with
  |0,hj=>exact hj
  |1,hj=>exact hj
  |2,hj=>exact hj
  |3,hj=>exact hj
  |4,hj=>exact hj
  |5,hj=>exact hj
  |j+6,hj=>cases hj)
theorem _root_.Go.Fw.pmIc {r c f m:HItem}: [r,c,f,m].Perm [c,f,r,m]:=A1o (l₁:= [r]) (l₂:= [c,f])|>.append_right [m]
structure InX where
 k:Nat
 I:P8
 sc:List Loc
 p:Sp.LP
 sa:Option Addr
 sp:Nat
 zs:A1U
section
variable {bd bf bo:Nat}{its:List Sp.Itm}{a:Option Addr}{cp:Nat}{xs:List Value}
theorem D3X (hlab:A3Y its):∀(n:Nat) (l:List Sp.Stm),SizeOf.sizeOf l<=n->l.length<=64->A0j l->A0e B1L B24 l->∀(I:P8) (ab:Option Addr) (cb:Nat) (xb:List Value) (sc:List Loc) (un:Nat) (p:Sp.LP) (sa:Option Addr) (sp:Nat) (zs:A1U),
  un<256->Sp.okL p->C0Y (sc.map (·.1))->sc.length+U1 l<=1000000000->(A8v (sc.map (·.1))++A1s l).Nodup->(∀q∈sc,C8a I q.2 q.1.op)->OpenZ zs p.1->
  FE I its a cp xs->PtrI I bf 0 25 [.slice a its.length cp]->RowI I 111 15 (.slice ab l.length cb) l.length xb->V4 I l xb->
  CalM prog 49 #[ptr bd,.slice ab l.length cb,nt un] I (B3n bd bf sc p.1 p.2 sa sp bo zs) (fun v _ H'=>v=.tuple #[]/\∃sa' sp' zs',OpenZ zs' (A2x its l (sc.map (·.1)) un p).2.1/\
   H'=B3n bd bf sc (A2x its l (sc.map (·.1)) un p).2.1 (A2x its l (sc.map (·.1)) un p).2.2 sa' sp' bo zs'):=by
 intro n;induction n with
 |zero=>intro l h;cases l<;>simp at h
 |succ n ih=>
 intro l hsz hll hsm hall I ab cb xb sc un p sa sp zs hun hok0 hos0 hn hnd0 hat0 hz0 hfe hpf hr hx;refine CalM.of fun w E hm=>enter (N:=147) func49 rfl [(0,ptr bd),(1,.slice ab l.length cb),(2,nt un)] A4x rfl ?_
 repeat' (first|refine J6 ?_ hm|refine D8 ?_|refine D6 ?_|refine G6 ?_|refine F5 ?_|refine D5 ?_|refine E5 ?_|refine A7 ?_|refine E8 ?_|refine A8 ?_|refine F6 ?_)
 refine U3 (fun x:InX=> [(0,ptr bd),(1,.slice ab l.length cb),(2,nt un),(6,nt sc.length),(18,nt l.length),(19,nt x.k)])
  (fun x w'=>Mem E x.I (B3n bd bf x.sc x.p.1 x.p.2 x.sa x.sp bo x.zs) w'/\Le I x.I/\x.k<=l.length/\A2x its (l.take x.k) (sc.map (·.1)) un p=(x.sc.map (·.1),x.p)/\(∃r,x.sc=sc++r)/\x.sc.length<=sc.length+U1 (l.take x.k)/\
   (A8v (x.sc.map (·.1))++A1s (l.drop x.k)).Nodup/\(∀q∈x.sc,C8a x.I q.2 q.1.op)/\OpenZ x.zs x.p.1) (fun x=>l.length-x.k) ⟨0,I,sc,p,sa,sp,zs⟩
  (by exact⟨rfl,rfl,rfl,rfl,rfl,rfl,trivial⟩) ⟨hm,Le.refl _,H9 _,by dsimp only;rw[Z9,A2x],⟨[],(J4 _).symm⟩,A73 _ _,by dsimp only;rw[A2t];exact hnd0,hat0,hz0⟩ ?_
 clear hm hnd0 hat0 hz0;rintro⟨k,I1,sc1,p1,sa1,sp1,zs1⟩ w1 ⟨hm,hle1,hk,hinv,⟨rr,hrr⟩,hscl,hnd,hats,hz⟩;dsimp only at hm hle1 hk hinv hrr hscl hnd hats hz |-;have hok:=A9c hlab (l.take k) (B1d k hall) hok0 hos0 hun;rw[hinv]at hok;obtain⟨hokp,hoks⟩:=hok;dsimp only at hokp hoks;by_cases hlt:k<l.length
 ·have hg:l[k]?=some l[k]:=F9 hlt
  have hme:=A3v (O1 hlt);obtain⟨cs,hcs⟩:∃cs,(xb.drop (k *15)).take 15=cs:=⟨_,rfl⟩;have hat:=hx.get hg;rw[hcs]at hat
  have hsm2:=A1W hsm hg;have hal2:=A60 hall hg;rw[A3Q hlt,A1s]at hnd;generalize l[k]=y at hg hme hat hsm2 hal2 hnd;have hst:=C6d its hg (sc.map (·.1)) un p;have hcy:=A6z hg;rw[hinv,D43]at hst;dsimp only at hst;have hap:=Sp.Apart.of hnd;obtain⟨s1,s2,s3,s4,s5⟩:=A15 hsm2;obtain⟨n1,n2,n3,n4⟩:=Sp.Stm.all_node hal2;obtain⟨z1,z2⟩:=A5n (s:=y);have hcnt:=Sp.Stm.cnt_eq y;have hcs1:U1 (l.take (k+1))=U1 (l.take k)+y.cnt:=by rw[U2 hg,A4g,A61]
  obtain⟨ea,ec,ex,a1',c1,xs1,a2',c2,xs2,rfl,hr3,hx3,hr4,hx4,hr5,hx5⟩:=hat.out;have hrow:=hr.le hle1;have hfe1:=hfe.le hle1;have hpf1:=hpf.le hle1;have hsl:=B7G hokp hoks;have hE:=fun (b3 o3:Nat) (hp3:PtrI I1 b3 o3 111 (A0E y.e ea ec))=>D6t (bd:=bd) (bf:=bf) (sc:=sc1) (o:=p1.1) (more:=p1.2) (sa:=sa1) (sp:=sp1) (bo:=bo) (zs:=zs1) hlab hsl (by omega) _ y.e (H7 _) s1 I1 b3 o3 111 ea ec ex hfe1 hpf1 hp3 (hr3.le hle1) (Z7.le hle1 _ _ hx3)
  have hav0:=A6X hlab hsl y.e;generalize A1e its (A3e p1.1 (sc1.map (·.1))) y.e=a0 at hE hav0 hst;have hJ:=fun (J:P8)=>D1b J a0 un hav0 hun
  have hav:=B3h hav0 hun;generalize a0|||un=av at hJ hav hst
  repeat' (first|refine O7 (d:=24) ?_ (hr:=hrow);intro bt ot hpt;rw[show ((k:Int).toNat *15)=k *15 from rfl,hcs]at hpt|refine F8 (d:=29) ?_ hm (hp:=pm3_0) (hc:=hE bt (ot+5) (D2t hpt));clear hm;rintro _ I2 _ _ ⟨rfl,rfl⟩ hleI2 hm;try simp only[G5]at hm|refine U8 (d:=31) ?_ hm (hc:=hJ _);clear hm;intro _ hm|refine A0U 6 ?_|refine D8 ?_|refine D6 ?_|refine J8 ?_|refine F5 ?_|refine D5 ?_|refine E5 ?_|refine A7 ?_|refine E8 ?_|refine A8 ?_|refine F6 ?_|refine G7 ?_|(refine C9 (ht:=fun _=>?_) (hf:=fun _=>?_)<;>try first|contradiction|omega))
  have hpt2:=hpt.le hleI2;have hle2:=hle1.trans hleI2;refine⟨?_⟩
  by_cases k1:y.kind=1
  ·rw[if_pos k1]at hst
   have hR:=C0E (bd:=bd) (bf:=bf) (sc:=sc1) (o:=p1.1) (more:=p1.2) (sa:=sa1) (sp:=sp1) (bo:=bo) (zs:=zs1) I2 (.pointer (some ⟨bt,ot,none⟩)) (A8t y.opn y.fr) p1.1 av hav (.inr ⟨bt,ot,_,ec,y,ea,_,_,rfl,hpt2,rfl⟩) hz hokp;rw[show ((p1.1,p1.2):Sp.LP)=p1 from rfl]at hR;have henc:sc1.flatMap (A6c (A4T p1 (A8t y.opn y.fr) av).1)=sc1.flatMap (A6c p1.1):=C8o (fun f hf=>by
    rw[A8t]at hf;split at hf
    ·cases hf;exact hap.out k1
    ·cases hf)
   have hnx:=hap.next k1 y.name y.label;generalize A4T p1 (A8t y.opn y.fr) av=q at hR henc hst;cases ho:y.opn with
   |true=>
    rw[ho]at hst hnx hpt2;repeat' (first|refine F8 (d:=41) ?_ hm (hp:=pm3_0) (hc:=hR);clear hm;rintro _ I3 _ _ ⟨rfl,zs3,hz3,rfl⟩ hleI3 hm;try simp only[G5]at hm;rw[<-henc]at hm;replace hpt2:=hpt2.le hleI3|refine A0S (id:=9) (hm.perm pm0) [0,1,2,3,4,5,6,7,8,9] [10] 11 (h:=?_);clear hm;intro wd hR hm|refine A0b (id:=11) 9 (h:=?_)|refine B0W (d:=64) hm (by rfl) (by rfl) (by rfl) (by rfl) gt3 A9G ?_;rw[hz3.get y.fr]|refine A0S (id:=12) (hm.perm pm1_2) [0,1,2,3,4,5] [6,7] 8 (h:=?_);clear hm;intro wd hR hm|refine A3C ?_ hR|refine A0k ?_ hR|refine A0G ?_ hR|refine A4R (d:=10) ?_ hm;clear hm;intro b10 _ hm|refine A3b (d:=73) ?_ hm;clear hm;intro a73 cp73 _ _ hm;replace hm:=hR.back hm;clear hR;try simp only[G5]at hm|refine A0K ?_;replace hm:=hR.back hm;clear hR;try simp only[G5]at hm|refine J9 ?_ hm|refine V3 ?_ hm|refine A0f ?_ hm|refine P6 ?_ hm;clear hm;intro _ hm;try simp only[G5]at hm|refine P5 hm (k:=?_);clear hm;intro _ hm;try simp only[G5]at hm|refine D8 ?_|refine D6 ?_|refine O6 ?_|refine F5 ?_|refine O9 ?_|refine D5 ?_|refine E5 ?_|refine A7 ?_|refine D7 ?_|refine E8 ?_|refine A8 ?_|refine F6 ?_|refine V6 ?_;intro _ hkq;replace hm:=hm.kept0 hkq;clear hkq|refine H5 ?_|(refine C9 (ht:=fun _=>?_) (hf:=fun _=>?_)<;>try first|contradiction|omega)|refine Y4 ?_|refine Q9 ?_|refine L8 ?_|refine A0x ?_|refine U5 ?_|refine N8 ?_|refine A4U ?_|refine A0y ?_)
    refine L6 (⟨k+1,I3,sc1++ [(⟨y.name,y.label,A8t true y.fr⟩,.pointer (some ⟨bt,ot,none⟩))],q,a73,cp73,zs3⟩:InX) (by exact⟨rfl,rfl,rfl,rfl,rfl,rfl,trivial⟩)
     ⟨?_,hle2.trans hleI3,by dsimp only;omega,by dsimp only;rw[hst,V5];rfl,⟨rr++ [_],by dsimp only;rw[hrr,J5]⟩,by dsimp only;rw[D9];show _+1<=_;omega,by dsimp only;rw[V5];exact hnx,fun q' hq'=>?_,hz3⟩ (by dsimp only;omega)
    ·dsimp only[B3n]
     rw[X0,D9];exact(hm.perm pmIc).tl
    ·rcases Y5.1 hq' with h|h
     ·exact((hats q' h).le hleI2).le hleI3
     ·obtain rfl:=A0q.1 h
      exact .inr ⟨bt,ot,_,ec,y,ea,_,_,rfl,by rw[ho];exact hpt2,by rw[ho]⟩
   |false=>
    rw[ho]at hst hnx hpt2;repeat' (first|refine F8 (d:=41) ?_ hm (hp:=pm3_0) (hc:=hR);clear hm;rintro _ I3 _ _ ⟨rfl,zs3,hz3,rfl⟩ hleI3 hm;try simp only[G5]at hm;rw[<-henc]at hm;replace hpt2:=hpt2.le hleI3|refine A0S (id:=9) (hm.perm pm0) [0,1,2,3,4,5,6,7,8,9] [10] 11 (h:=?_);clear hm;intro wd hR hm|refine A0S (id:=12) (hm.perm pm1_2) [0,1,2,3,4,5] [6,7] 8 (h:=?_);clear hm;intro wd hR hm|refine A3C ?_ hR|refine A0k ?_ hR|refine A0G ?_ hR|refine A4R (d:=10) ?_ hm;clear hm;intro b10 _ hm|refine A3b (d:=73) ?_ hm;clear hm;intro a73 cp73 _ _ hm;replace hm:=hR.back hm;clear hR;try simp only[G5]at hm|refine A0K ?_;replace hm:=hR.back hm;clear hR;try simp only[G5]at hm|refine J9 ?_ hm|refine P6 ?_ hm;clear hm;intro _ hm;try simp only[G5]at hm|refine P5 hm (k:=?_);clear hm;intro _ hm;try simp only[G5]at hm|refine D8 ?_|refine D6 ?_|refine O6 ?_|refine F5 ?_|refine O9 ?_|refine D5 ?_|refine E5 ?_|refine A7 ?_|refine D7 ?_|refine E8 ?_|refine A8 ?_|refine F6 ?_|refine G7 ?_|refine F7 ?_|(refine C9 (ht:=fun _=>?_) (hf:=fun _=>?_)<;>try first|contradiction|omega)|refine A0x ?_|refine U5 ?_|refine N8 ?_|refine A4U ?_|refine A0y ?_)
    refine L6 (⟨k+1,I3,sc1++ [(⟨y.name,y.label,A8t false y.fr⟩,.pointer (some ⟨bt,ot,none⟩))],q,a73,cp73,zs3⟩:InX) (by exact⟨rfl,rfl,rfl,rfl,rfl,rfl,trivial⟩)
     ⟨?_,hle2.trans hleI3,by dsimp only;omega,by dsimp only;rw[hst,V5];rfl,⟨rr++ [_],by dsimp only;rw[hrr,J5]⟩,by dsimp only;rw[D9];show _+1<=_;omega,by dsimp only;rw[V5];exact hnx,fun q' hq'=>?_,hz3⟩ (by dsimp only;omega)
    ·dsimp only[B3n]
     rw[X0,D9];exact(hm.perm pmIc).tl
    ·rcases Y5.1 hq' with h|h
     ·exact((hats q' h).le hleI2).le hleI3
     ·obtain rfl:=A0q.1 h
      exact .inr ⟨bt,ot,_,ec,y,ea,_,_,rfl,by rw[ho];exact hpt2,by rw[ho]⟩
  rw[if_neg k1]at hst;by_cases k2:y.kind=2
  ·rw[if_pos k2]at hst
   have hG:=D5J (bd:=bd) (bf:=bf) (sc:=sc1) (o:=p1.1) (more:=p1.2) (sa:=sa1) (sp:=sp1) (bo:=bo) (zs:=zs1) y.name I2 (by omega);repeat' (first|refine F8 (d:=83) ?_ hm (hp:=pm3_0) (hc:=hG);clear hm;rintro _ I3 _ w3 (⟨i,q,b2,hgi,hfl,hsa,rfl,rfl⟩|⟨hfl,bl,rfl,rfl⟩) hleI3 hm|refine A0U 15 ?_|refine J9 ?_ hm|refine D8 ?_|refine D6 ?_|refine O6 ?_|refine F5 ?_|refine D5 ?_|refine E5 ?_|refine A7 ?_|refine E8 ?_|refine A8 ?_|refine F6 ?_|(refine C9 (ht:=fun _=>?_) (hf:=fun _=>?_)<;>try first|contradiction|omega))
   ·subst hsa
    rw[B8f,hfl]at hst;dsimp only at hst;have hqm:=A03 hgi;have hA:=((hats q hqm).le hleI2).le hleI3;obtain⟨q1,q2,q3⟩:=B4b (o:=p1.1) hgi;have hR:=C0E (bd:=bd) (bf:=bf) (sc:=sc1) (o:=p1.1) (more:=p1.2) (sa:=some ⟨b2,0,none⟩) (sp:=sp1) (bo:=bo) (zs:=zs1) I3 q.2 q.1.op p1.1 av hav hA hz hokp;rw[show ((p1.1,p1.2):Sp.LP)=p1 from rfl]at hR;have hatn:=fun (J:P8) (m:Le I3 J) (q':Loc) (h:q'∈sc1)=>(((hats q' h).le hleI2).le hleI3).le m
    rcases hA with ⟨hv,hop⟩|⟨b9,o9,tc9,ec9,y9,ea9,v1,v2,hv,hp9,hop⟩
    ·rw[hop]at hR hst
     rw[show A4T p1 none av=p1 from rfl]at hR hst;rw[hv]at hR q3;refine⟨?_⟩
     repeat' (first|refine A1G (i:=1) (d:=88) hm (by rfl) (by rfl) (by rfl) gt1 (by exact q3) ?_|refine F8 (d:=90) ?_ hm (hp:=pm3_0) (hc:=hR);clear hm;rintro _ I4 _ _ ⟨rfl,zs4,hz4,rfl⟩ hleI4 hm;try simp only[G5]at hm|refine A1G (i:=1) (d:=94) hm (by rfl) (by rfl) (by rfl) gt1 (by exact q3) ?_|refine A7S (e:=111) (by kernel_rfl) (by rfl) (by rfl) (by rfl) (by rfl) ?_|refine D8 ?_|refine N7 ?_|refine F5 ?_|refine O9 ?_|refine D5 ?_|refine A0z ?_|refine E5 ?_|refine A7 ?_|refine D7 ?_|refine E8 ?_|refine A8 ?_|refine G7 ?_|refine F7 ?_)
     exact L6 (⟨k+1,I4,sc1,p1,some ⟨b2,0,none⟩,sp1,zs4⟩:InX) (by exact⟨rfl,rfl,rfl,rfl,rfl,rfl,trivial⟩)
      ⟨hm,(hle2.trans hleI3).trans hleI4,by dsimp only;omega,hst,⟨rr,hrr⟩,by dsimp only;omega,hap.rest,hatn I4 hleI4,hz4⟩ (by dsimp only;omega)
    ·rw[hv]at hR q3
     cases ho9:y9.opn with
     |false=>
      rw[ho9]at hop hp9;rw[hop]at hR hst;rw[show A4T p1 (A8t false y9.fr) av=p1 from rfl]at hR hst;refine⟨?_⟩
      repeat' (first|refine A1G (i:=1) (d:=88) hm (by rfl) (by rfl) (by rfl) gt1 (by exact q3) ?_|refine F8 (d:=90) ?_ hm (hp:=pm3_0) (hc:=hR);clear hm;rintro _ I4 _ _ ⟨rfl,zs4,hz4,rfl⟩ hleI4 hm;try simp only[G5]at hm;replace hp9:=hp9.le hleI4|refine A1G (i:=1) (d:=94) hm (by rfl) (by rfl) (by rfl) gt1 (by exact q3) ?_|refine A1G (i:=1) (d:=100) hm (by rfl) (by rfl) (by rfl) gt1 (by exact q3) ?_|refine A7S (e:=111) (by kernel_rfl) (by rfl) (by rfl) (by rfl) (by rfl) ?_|refine J9 ?_ hm|refine D8 ?_|refine O0 ?_|refine F5 ?_|refine O9 ?_|refine D5 ?_|refine E5 ?_|refine A7 ?_|refine D7 ?_|refine E8 ?_|refine A8 ?_|refine G7 ?_|refine F7 ?_)
      exact L6 (⟨k+1,I4,sc1,p1,some ⟨b2,0,none⟩,sp1,zs4⟩:InX) (by exact⟨rfl,rfl,rfl,rfl,rfl,rfl,trivial⟩)
       ⟨hm,(hle2.trans hleI3).trans hleI4,by dsimp only;omega,hst,⟨rr,hrr⟩,by dsimp only;omega,hap.rest,hatn I4 hleI4,hz4⟩ (by dsimp only;omega)
     |true=>
      rw[ho9]at hop hp9;rw[hop]at hR hst;rw[show A4T p1 (A8t true y9.fr) av=A3K p1 y9.fr av from rfl]at hR hst;have hset:(sc1.flatMap (A6c p1.1)).set (i *3+1) (nt ((A3K p1 y9.fr av).1 y9.fr))=sc1.flatMap (A6c (A3K p1 y9.fr av).1):=by
       rw[B79];have e:Sp.upL p1.1 y9.fr (p1.1 y9.fr|||av) y9.fr=p1.1 y9.fr|||av:=by
        show (if y9.fr=y9.fr then _ else _)=_
        rw[if_pos rfl]
       rw[e];exact C6V hgi hop (A6K.1 hap.rest).1
      have hil:i *3+1<(sc1.flatMap (A6c p1.1)).length:=by
       rw[C0u];have:=(A0D.1 hgi).1;omega
      generalize A3K p1 y9.fr av=q9 at hR hst hset;refine⟨?_⟩
      repeat' (first|refine A1G (i:=1) (d:=88) hm (by rfl) (by rfl) (by rfl) gt1 (by exact q3) ?_|refine F8 (d:=90) ?_ hm (hp:=pm3_0) (hc:=hR);clear hm;rintro _ I4 _ _ ⟨rfl,zs4,hz4,rfl⟩ hleI4 hm;try simp only[G5]at hm;replace hp9:=hp9.le hleI4|refine A1G (i:=1) (d:=94) hm (by rfl) (by rfl) (by rfl) gt1 (by exact q3) ?_|refine A1G (i:=1) (d:=100) hm (by rfl) (by rfl) (by rfl) gt1 (by exact q3) ?_|refine A7S (e:=111) (by kernel_rfl) (by rfl) (by rfl) (by rfl) (by rfl) ?_|refine A0b (id:=17) 13 (h:=?_)|refine C5w (i:=1) (d:=113) hm (by rfl) (by rfl) (by rfl) gt1 (by exact q3) ?_|refine B0W (d:=117) hm (by rfl) (by rfl) (by rfl) (by rfl) gt2 A9G ?_;rw[hz4.get y9.fr]|refine A5P (i:=1) hm (by rfl) (by rfl) (by rfl) (by rfl) gt1 (by rfl) (by rfl) hil ?_;clear hm;intro _ hm;try simp only[G5]at hm;rw[hset]at hm|refine J9 ?_ hm|refine V3 ?_ hm|refine A0f ?_ hm|refine D8 ?_|refine O0 ?_|refine F5 ?_|refine O9 ?_|refine D5 ?_|refine E5 ?_|refine A7 ?_|refine D7 ?_|refine E8 ?_|refine A8 ?_|refine V6 ?_;intro _ hkq;replace hm:=hm.kept0 hkq;clear hkq|refine H5 ?_|refine Y4 ?_|refine Q9 ?_|refine L8 ?_)
      exact L6 (⟨k+1,I4,sc1,q9,some ⟨b2,0,none⟩,sp1,zs4⟩:InX) (by exact⟨rfl,rfl,rfl,rfl,rfl,rfl,trivial⟩)
       ⟨hm,(hle2.trans hleI3).trans hleI4,by dsimp only;omega,hst,⟨rr,hrr⟩,by dsimp only;omega,hap.rest,hatn I4 hleI4,hz4⟩ (by dsimp only;omega)
   ·rw[B8f,hfl]at hst
    dsimp only at hst;have hR:=C0E (bd:=bd) (bf:=bf) (sc:=sc1) (o:=p1.1) (more:=p1.2) (sa:=sa1) (sp:=sp1) (bo:=bo) (zs:=zs1) I3 (.pointer none) none p1.1 av hav (.inl ⟨rfl,rfl⟩) hz hokp;rw[show ((p1.1,p1.2):Sp.LP)=p1 from rfl,show A4T p1 none av=p1 from rfl]at hR;refine⟨?_⟩
    repeat' (first|refine F8 (d:=90) ?_ hm (hp:=pm3_1) (hc:=hR);clear hm;rintro _ I4 _ _ ⟨rfl,zs4,hz4,rfl⟩ hleI4 hm;try simp only[G5]at hm|refine A7S (e:=111) (by kernel_rfl) (by rfl) (by rfl) (by rfl) (by rfl) ?_|refine J6 ?_ hm|refine D8 ?_|refine N7 ?_|refine F5 ?_|refine O9 ?_|refine D5 ?_|refine A0z ?_|refine E5 ?_|refine A7 ?_|refine D7 ?_|refine E8 ?_|refine A8 ?_|refine G7 ?_|refine F7 ?_)
    exact L6 (⟨k+1,I4,sc1,p1,sa1,sp1,zs4⟩:InX) (by exact⟨rfl,rfl,rfl,rfl,rfl,rfl,trivial⟩)
     ⟨hm.left (H:= [_,_,_]),(hle2.trans hleI3).trans hleI4,by dsimp only;omega,hst,⟨rr,hrr⟩,by dsimp only;omega,hap.rest,fun q' h=>(((hats q' h).le hleI2).le hleI3).le hleI4,hz4⟩ (by dsimp only;omega)
  rw[if_neg k2]at hst;by_cases k34:y.kind=3\/y.kind=4
  ·rw[if_pos k34]at hst
   have hT:=ih y.thn (by omega) s2 s3 n3 I2 a1' c1 xs1 sc1 av p1 sa1 sp1 zs1 hav hokp hoks (by omega) hap.thn (fun q' h=>(hats q' h).le hleI2) hz (hfe1.le hleI2) (hpf1.le hleI2) ((hr4.le hle1).le hleI2) (V4.le hleI2 _ _ (V4.le hle1 _ _ hx4));have hokT:=A9c hlab y.thn n3 hokp hoks hav;generalize (A2x its y.thn (sc1.map (·.1)) av p1).2=q3 at hT hokT hst;have hE2:=fun (J:P8) (m:Le I2 J) (sa:Option Addr) (sp:Nat) (zs:A1U) (hzz:OpenZ zs q3.1)=>ih y.els (by omega) s4 s5 n4 J a2' c2 xs2 sc1 av q3 sa sp zs hav hokT.1 hoks (by omega) hap.els (fun q' h=>((hats q' h).le hleI2).le m) hzz ((hfe1.le hleI2).le m) ((hpf1.le hleI2).le m) (((hr5.le hle1).le hleI2).le m) (V4.le m _ _ (V4.le hleI2 _ _ (V4.le hle1 _ _ hx5)))
   generalize (A2x its y.els (sc1.map (·.1)) av q3).2=q4 at hE2 hst;repeat' (first|refine F8 (d:=129) ?_ hm (hp:=pm3_0) (hc:=hT);clear hm;rintro _ I3 _ _ ⟨rfl,sa3,sp3,zs3,hz3,rfl⟩ hleI3 hm;try simp only[G5]at hm;replace hpt2:=hpt2.le hleI3|refine F8 (d:=136) ?_ hm (hp:=pm3_0) (hc:=hE2 I3 hleI3 sa3 sp3 zs3 hz3);clear hm;rintro _ I4 _ _ ⟨rfl,sa4,sp4,zs4,hz4,rfl⟩ hleI4 hm;try simp only[G5]at hm|refine J9 ?_ hm|refine D8 ?_|refine D6 ?_|refine O6 ?_|refine F5 ?_|refine O9 ?_|refine D5 ?_|refine E5 ?_|refine A7 ?_|refine D7 ?_|refine E8 ?_|refine A8 ?_|refine F6 ?_|refine G7 ?_|(refine C9 (ht:=fun _=>?_) (hf:=fun _=>?_)<;>try first|contradiction|omega))
   all_goals exact L6 (⟨k+1,I4,sc1,q4,sa4,sp4,zs4⟩:InX) (by exact⟨rfl,rfl,rfl,rfl,rfl,rfl,trivial⟩) ⟨hm,(hle2.trans hleI3).trans hleI4,by dsimp only;omega,hst,⟨rr,hrr⟩,by dsimp only;omega,hap.rest,fun q' h=>(((hats q' h).le hleI2).le hleI3).le hleI4,hz4⟩ (by dsimp only;omega)
  ·rw[if_neg k34]at hst
   repeat' (first|refine J9 ?_ hm|refine D8 ?_|refine D6 ?_|refine O6 ?_|refine F5 ?_|refine O9 ?_|refine D5 ?_|refine E5 ?_|refine A7 ?_|refine D7 ?_|refine E8 ?_|refine A8 ?_|refine F6 ?_|refine G7 ?_|(refine C9 (ht:=fun _=>?_) (hf:=fun _=>?_)<;>try first|contradiction|omega))
   exact L6 (⟨k+1,I2,sc1,p1,sa1,sp1,zs1⟩:InX) (by exact⟨rfl,rfl,rfl,rfl,rfl,rfl,trivial⟩)
    ⟨hm,hle2,by dsimp only;omega,hst,⟨rr,hrr⟩,by dsimp only;omega,hap.rest,fun q' h=>(hats q' h).le hleI2,hz⟩ (by dsimp only;omega)
 ·obtain rfl:k=l.length:=by omega
  rw[V7]at hinv;rw[hinv];have hpl:sc.length<=sc1.length:=by rw[hrr,D9];omega
  have htk:(sc1.flatMap (A6c p1.1)).take (sc.length *3)=sc.flatMap (A6c p1.1):=by
   rw[hrr,X0, <-C0u p1.1 sc,List.take_left]
  repeat' (first|refine B2E (d:=144) ?_ hm (hmn:=hpl);clear hm;intro hm;try simp only[G5]at hm|refine J6 ?_ hm|refine P5 hm (k:=?_);clear hm;intro _ hm;try simp only[G5]at hm|refine D8 ?_|refine J8 ?_|refine F5 ?_|refine D5 ?_|refine E5 ?_|refine A7 ?_|refine H6 ?_|refine G9 ?_|refine E8 ?_|refine A8 ?_|refine O8 ?_|refine A0p ?_|(refine C9 (ht:=fun _=>?_) (hf:=fun _=>?_)<;>try first|contradiction|omega))
  rw[htk]at hm;exact⟨I1,_,⟨rfl,sa1,sp1,zs1,hz,rfl⟩,hm⟩
end
theorem A5l {x1 c x2:List Value}{n j:Nat} (h1:x1.length=n) (hj:j<c.length):(x1++(c++x2))[n+j]?=c[j]? :=by
 rw[A2B (by omega),show n+j-x1.length=j by omega,A4P hj]
theorem C7n {x1 c x2:List Value}{n j:Nat} (h1:x1.length=n) (hj:j<c.length):n+j<(x1++(c++x2)).length:=by
 rw[D9,D9];omega
theorem C3f {x1 c x2:List Value}{n j:Nat}{v:Value} (h1:x1.length=n) (hj:j<c.length):(x1++(c++x2)).set (n+j) v=x1++(c.set j v++x2):=by
 rw[A5H,if_neg (by omega),show n+j-x1.length=j by omega,A5H,if_pos hj]
structure FlW where
 k:Nat
 I:P8
 xs:List Value
 Hs:List HItem
abbrev D53 (o:Sp.Lab) (l:List Sp.Stm) (a:Option Addr) (c:Nat):Value->P8->List HItem->Prop:=fun v J H'=>v=.tuple #[]/\B1G J (A1r o l) a c H'
theorem _root_.Go.Fw.pmRow {x:HItem}{H:List HItem}:(x::H).Perm ([x]++H):=.refl _
theorem D6u {bd bo:Nat}{zs:A1U}{o:Sp.Lab}{f0 f1 f3:Value} (hz:OpenZ zs o):∀(n:Nat) (l:List Sp.Stm),SizeOf.sizeOf l<=n->l.length<=64->A0j l->∀(I:P8) (a:Option Addr) (c:Nat) (H:List HItem),PtrI I bd 0 119 [f0,f1,.map (some bo),f3]->B8T I bo zs->B1G I l a c H->
  CalM prog 50 #[ptr bd,.slice a l.length c] I H (D53 o l a c):=by
 intro n;induction n with
 |zero=>intro l h;cases l<;>simp at h
 |succ n ih=>
 intro l hsz hll hsm I a c H hpd hmz hO;obtain⟨xs,Hs,rfl,hC⟩:=hO;refine CalM.of fun w E hm=>enter (N:=53) func50 rfl [(0,ptr bd),(1,.slice a l.length c)] A1x rfl ?_
 repeat' (first|refine D8 ?_|refine G6 ?_|refine E5 ?_|refine A7 ?_|refine E8 ?_|refine A8 ?_|refine F6 ?_)
 refine U3 (fun x:FlW=> [(0,ptr bd),(1,.slice a l.length c),(7,nt l.length),(8,nt x.k)])
  (fun x w'=>Mem E x.I (B8k l.length a c x.xs::x.Hs) w'/\Le I x.I/\A2F x.I (A1r o (l.take x.k)++l.drop x.k) x.xs x.Hs/\x.k<=l.length)
  (fun x=>l.length-x.k) ⟨0,I,xs,Hs⟩ (by exact⟨rfl,rfl,rfl,rfl,trivial⟩) ⟨hm,Le.refl _,by dsimp only;rw[Z9,A1r,L9,A2t];exact hC,H9 _⟩ ?_
 clear hm hC;rintro⟨k,I1,xs1,Hs1⟩ w2 ⟨hm,hle1,hC,hk⟩;dsimp only at hm hle1 hC hk |-;have hpd1:=hpd.le hle1;have hmz1:=hmz.le hle1;by_cases hlt:k<l.length
 ·have hg:l[k]?=some l[k]:=F9 hlt
  have hme:=A3v (O1 hlt);have hsm2:=A1W hsm hg;generalize l[k]=y at hg hsm2 hme;rw[D0o hg]at hC;obtain⟨s1,s2,s3,s4,s5⟩:=A15 hsm2;obtain⟨z1,z2⟩:=A5n (s:=y);obtain⟨x1,x2,G1,G2,rfl,rfl,hC1,hC2⟩:=hC.part;obtain⟨cy,x3,G3,G4,rfl,rfl,hY,hC3⟩:=hC2.uncons;have hl1:=hC1.len;rw[A6W,P9,A1O hk]at hl1;obtain⟨ea,ec,ex,a1,c1,a2,c2,H1,H2,rfl,hr,hx,rfl,hO1,hO2⟩:=hY.out;obtain⟨gb,rfl⟩:=hm.rowAddr (by omega);have hct:=fun (J:P8) (m:Le I1 J)=>ih y.thn (by omega) s2 s3 J a1 c1 H1 (hpd1.le m) (hmz1.le m) (hO1.le m)
  have hcl:=fun (J:P8) (m:Le I1 J)=>ih y.els (by omega) s4 s5 J a2 c2 H2 (hpd1.le m) (hmz1.le m) (hO2.le m)
  have hoff:∀j:Nat,0+(k:Int).toNat *15+j=k *15+j:=fun j=>by rw[A1R];omega
  have htk:A1r o (l.take (k+1))=A1r o (l.take k)++ [A4y o y]:=by rw[U2 hg,C8t,A94 o [y]];rfl
  have hY2:∀(I3:P8) (H1' H2':List HItem),Le I1 I3->B1G I3 (A1r o y.thn) a1 c1 H1'->B1G I3 (A1r o y.els) a2 c2 H2'->
    StO I3 (A4y o y) (A2H y.kind y.name y.at_ (C5h o y) (C5J y) y.e ea ec (.slice a1 y.thn.length c1) (.slice a2 y.els.length c2) y.fr y.to) (H1'++H2'):=fun I3 H1' H2' m o1 o2=>by
   have h:=StO.of (I:=I3) (k:=y.kind) (a:=y.at_) (lb:=C5h o y) (f:=y.fr) (t:=y.to) (nm:=y.name) (o:=C5J y) (e:=y.e) (thn:=A1r o y.thn) (els:=A1r o y.els) (hr.le m) (Z7.le m _ _ hx) o1 o2;rw[A6W,A6W]at h;rw[D0L];exact h
  by_cases hlet:y.kind=1/\y.opn=true
  ·have e1:C5h o y=o y.fr:=by rw[C5h,if_pos hlet]
   have e2:C5J y=false:=by rw[C5J,if_pos hlet.1]
   rw[e1,e2]at hY2;have hlk:=hz.get y.fr;have hk1:=hlet.1;have ho:=hlet.2;rw[ho]at hm;repeat' (first|refine A4Q (off:=k *15+0) (d:=17) hm (by rfl) (by rfl) (by rw[<-hoff];rfl) (by rw[A5l hl1 (by simp)];rfl) ?_|refine A4Q (off:=k *15+4) (d:=23) hm (by rfl) (by rfl) (by rw[<-hoff];rfl) (by rw[A5l hl1 (by simp)];rfl) ?_|refine A2y (id:=5) (hm.perm pmRow) [0,1,2,3,4,5,6,7,8] 14 (h:=?_);clear hm;intro wd hR hm|refine C5y (i:=0) (off:=k *15+13) (d:=34) hm (by rfl) (by rfl) (by rw[<-hoff];rfl) gt0 (by rw[A5l hl1 (by simp)];rfl) ?_|refine C5d (d:=35) hm hmz1 (by rfl) (by rfl) (by rfl) (by rfl) A9G ?_;rw[hlk]|refine C4o (d:=36) hm.kept (by rfl) (by rfl) (by rfl) ?_|refine B4R (d:=37) hm.kept (by rfl) (by rfl) (by rfl) ?_|refine C3i (off:=k *15+4) hm (by rfl) (by rfl) (by rw[<-hoff];rfl) (by rfl) (by rfl) (by rfl) (C7n hl1 (by simp)) ?_;clear hm;intro _ hm;rw[C3f hl1 (by simp)]at hm;simp only[B0Q,B0P]at hm|refine B7K (off:=k *15+3) hm (by rfl) (by rfl) (by rw[<-hoff];rfl) (by rfl) (by rfl) (by rfl) (C7n hl1 (by simp)) ?_;clear hm;intro _ hm;rw[C3f hl1 (by simp)]at hm;simp only[B0Q,B0P]at hm|refine A1I (i:=9) ?_ (by decide+kernel)|refine A1I (i:=10) ?_ (by decide+kernel)|refine A1I (i:=11) ?_ (by decide+kernel)|refine A1I (i:=12) ?_ (by decide+kernel)|refine A1I (i:=13) ?_ (by decide+kernel)|refine A6S (by decide+kernel) ?_;replace hm:=(hR.back hm).perm pmRow.symm;clear hR|refine A4Q (off:=k *15+11) (d:=44) hm (by rfl) (by rfl) (by rw[<-hoff];rfl) (by rw[A5l hl1 (by simp)];rfl) ?_|refine A4Q (off:=k *15+12) (d:=50) hm (by rfl) (by rfl) (by rw[<-hoff];rfl) (by rw[A5l hl1 (by simp)];rfl) ?_|refine F8 (d:=45) ?_ hm (hp:=B8L) (hc:=hct I1 (Le.refl _));clear hm;rintro _ I2 H1' _ ⟨rfl,ho4⟩ hleI2 hm;replace hm:=hm.perm B8L.symm|refine F8 (d:=51) ?_ hm (hp:=B8L.trans D4y) (hc:=hcl I2 hleI2);clear hm;rintro _ I3 H2' _ ⟨rfl,ho5⟩ hleI3 hm;replace hm:=hm.perm D6K|refine A0G ?_ hR|refine B23 ?_|refine D8 ?_|refine D6 ?_|refine O0 ?_|refine J8 ?_|refine O6 ?_|refine F5 ?_|refine O9 ?_|refine D5 ?_|refine Y3 (k:=?_)|(refine O3 (h1:=fun _=>?_) (h0:=fun _=>?_)<;>try first|contradiction|omega)|refine E5 ?_|refine A7 ?_|refine D7 ?_|refine E8 ?_|refine A8 ?_|refine F6 ?_|refine G7 ?_|refine H5 ?_|(refine C9 (ht:=fun _=>?_) (hf:=fun _=>?_)<;>try first|contradiction|omega)|refine A0x ?_|refine U5 ?_|refine N8 ?_)
   refine L6 (⟨k+1,I3,_,_⟩:FlW) (by exact⟨rfl,rfl,rfl,rfl,trivial⟩) ⟨hm,(hle1.trans hleI2).trans hleI3,?_,by dsimp only;omega⟩ (by dsimp only;omega)
   dsimp only
   rw[htk,J5];exact(A2F.le (hleI2.trans hleI3) _ _ _ hC1).app ((A2F.one (hY2 I3 H1' H2' (hleI2.trans hleI3) (ho4.le hleI3) ho5)).app (A2F.le (hleI2.trans hleI3) _ _ _ hC3))
  ·have e1:C5h o y=y.label:=by rw[C5h,if_neg hlet]
   have e2:C5J y=y.opn:=by
    rw[C5J];split
    ·rename_i h1
     cases ho:y.opn with
     |true=>exact absurd ⟨h1,ho⟩ hlet
     |false=>rfl
    ·rfl
   rw[e1,e2]at hY2;by_cases hk1:y.kind=1
   ·have ho:y.opn=false:=by
     cases ho:y.opn with
     |true=>exact absurd ⟨hk1,ho⟩ hlet
     |false=>rfl
    rw[ho]at hm hY2;repeat' (first|refine A4Q (off:=k *15+0) (d:=17) hm (by rfl) (by rfl) (by rw[<-hoff];rfl) (by rw[A5l hl1 (by simp)];rfl) ?_|refine A4Q (off:=k *15+4) (d:=23) hm (by rfl) (by rfl) (by rw[<-hoff];rfl) (by rw[A5l hl1 (by simp)];rfl) ?_|refine A4Q (off:=k *15+11) (d:=44) hm (by rfl) (by rfl) (by rw[<-hoff];rfl) (by rw[A5l hl1 (by simp)];rfl) ?_|refine A4Q (off:=k *15+12) (d:=50) hm (by rfl) (by rfl) (by rw[<-hoff];rfl) (by rw[A5l hl1 (by simp)];rfl) ?_|refine F8 (d:=45) ?_ hm (hp:=B8L) (hc:=hct I1 (Le.refl _));clear hm;rintro _ I2 H1' _ ⟨rfl,ho4⟩ hleI2 hm;replace hm:=hm.perm B8L.symm|refine F8 (d:=51) ?_ hm (hp:=B8L.trans D4y) (hc:=hcl I2 hleI2);clear hm;rintro _ I3 H2' _ ⟨rfl,ho5⟩ hleI3 hm;replace hm:=hm.perm D6K|refine D8 ?_|refine D6 ?_|refine O0 ?_|refine J8 ?_|refine O6 ?_|refine F5 ?_|refine O9 ?_|refine D5 ?_|refine Y3 (k:=?_)|(refine O3 (h1:=fun _=>?_) (h0:=fun _=>?_)<;>try first|contradiction|omega)|refine E5 ?_|refine A7 ?_|refine D7 ?_|refine E8 ?_|refine A8 ?_|refine F6 ?_|refine G7 ?_|refine F7 ?_|(refine C9 (ht:=fun _=>?_) (hf:=fun _=>?_)<;>try first|contradiction|omega))
    refine L6 (⟨k+1,I3,_,_⟩:FlW) (by exact⟨rfl,rfl,rfl,rfl,trivial⟩) ⟨hm,(hle1.trans hleI2).trans hleI3,?_,by dsimp only;omega⟩ (by dsimp only;omega)
    dsimp only
    rw[htk,J5];exact(A2F.le (hleI2.trans hleI3) _ _ _ hC1).app ((A2F.one (hY2 I3 H1' H2' (hleI2.trans hleI3) (ho4.le hleI3) ho5)).app (A2F.le (hleI2.trans hleI3) _ _ _ hC3))
   ·skip
    repeat' (first|refine A4Q (off:=k *15+0) (d:=17) hm (by rfl) (by rfl) (by rw[<-hoff];rfl) (by rw[A5l hl1 (by simp)];rfl) ?_|refine A4Q (off:=k *15+11) (d:=44) hm (by rfl) (by rfl) (by rw[<-hoff];rfl) (by rw[A5l hl1 (by simp)];rfl) ?_|refine A4Q (off:=k *15+12) (d:=50) hm (by rfl) (by rfl) (by rw[<-hoff];rfl) (by rw[A5l hl1 (by simp)];rfl) ?_|refine F8 (d:=45) ?_ hm (hp:=B8L) (hc:=hct I1 (Le.refl _));clear hm;rintro _ I2 H1' _ ⟨rfl,ho4⟩ hleI2 hm;replace hm:=hm.perm B8L.symm|refine F8 (d:=51) ?_ hm (hp:=B8L.trans D4y) (hc:=hcl I2 hleI2);clear hm;rintro _ I3 H2' _ ⟨rfl,ho5⟩ hleI3 hm;replace hm:=hm.perm D6K|refine D8 ?_|refine D6 ?_|refine N7 ?_|refine J8 ?_|refine O6 ?_|refine F5 ?_|refine O9 ?_|refine D5 ?_|refine Y3 (k:=?_)|refine A0z ?_|(refine O3 (h1:=fun _=>?_) (h0:=fun _=>?_)<;>try first|contradiction|omega)|refine E5 ?_|refine A7 ?_|refine D7 ?_|refine E8 ?_|refine A8 ?_|refine F6 ?_|refine G7 ?_|refine F7 ?_|(refine C9 (ht:=fun _=>?_) (hf:=fun _=>?_)<;>try first|contradiction|omega))
    refine L6 (⟨k+1,I3,_,_⟩:FlW) (by exact⟨rfl,rfl,rfl,rfl,trivial⟩) ⟨hm,(hle1.trans hleI2).trans hleI3,?_,by dsimp only;omega⟩ (by dsimp only;omega)
    dsimp only
    rw[htk,J5];exact(A2F.le (hleI2.trans hleI3) _ _ _ hC1).app ((A2F.one (hY2 I3 H1' H2' (hleI2.trans hleI3) (ho4.le hleI3) ho5)).app (A2F.le (hleI2.trans hleI3) _ _ _ hC3))
 ·obtain rfl:k=l.length:=by omega
  rw[V7,A40,J4]at hC;repeat' (first|refine J8 ?_|refine E5 ?_|refine A7 ?_|refine H6 ?_|refine G9 ?_|refine E8 ?_|refine A8 ?_|refine O8 ?_|refine A0p ?_|(refine C9 (ht:=fun _=>?_) (hf:=fun _=>?_)<;>try first|contradiction|omega))
  exact⟨I1,_,⟨rfl,xs1,Hs1,by rw[A6W],hC⟩,hm⟩
theorem _root_.Go.Fw.pmL7 {f r m a b c d:HItem}{T:List HItem}:(f::r::m::a::b::c::d::T).Perm ((T++ [f,r,m])++ [a,b,c,d]):=by
 rw[J5];exact A1o (l₁:= [f,r,m,a,b,c,d])
theorem _root_.Go.Fw.pmL4 {a b c d:HItem}{T:List HItem}:(a::b::c::d::T).Perm (T++ [a,b,c,d]):=A1o (l₁:= [a,b,c,d])
theorem _root_.Go.Fw.pmIcT {r c f m:HItem}{T:List HItem}:(r::c::f::m::T).Perm (c::f::r::m::T):=(A1o (l₁:= [r]) (l₂:= [c,f])).append_right (m::T)
theorem _root_.Go.Fw.pmSw {a b:HItem}{T:List HItem}:(a::b::T).Perm (b::a::T):=.swap _ _ _
def A53 (l:List Sp.Par):List Loc:=l.map (fun p=>(⟨p.name,p.label,none⟩,.pointer none))
theorem B2d (l:List Sp.Par):(A53 l).map (·.1)=B0i l:=by rw[A53,B0i,A3s];rfl
theorem C1a {l:List Sp.Par}{j:Nat}{p:Sp.Par} (h:l[j]?=some p):A53 (l.take (j+1))=A53 (l.take j)++ [(⟨p.name,p.label,none⟩,.pointer none)]:=by
 rw[U2 h,A53,V5];rfl
structure LbX where
 k:Nat
 I:P8
 a:Option Addr
 cp:Nat
 xs:List Value
 r:List Sp.Itm
structure LbR where
 I:P8
 sc:List Loc
 o:Sp.Lab
 more:Bool
 sa:Option Addr
 sp:Nat
 zs:A1U
structure LbP where
 j:Nat
 sa:Option Addr
 sp:Nat
abbrev D55 (its:List Sp.Itm):Value->P8->List HItem->Prop:=fun v J H'=>H'= []/\∃ra rp xs r,B4S its r/\v=.agg [.slice ra r.length rp].toArray/\RowI J 43 10 (.slice ra r.length rp) r.length xs/\A4W J r xs
theorem C2M {its:List Sp.Itm} (hlab:A3Y its) (hI:∀x∈its,Sp.ItI x) (I:P8) (a:Option Addr) (cp:Nat) (xs:List Value) (hfe:FE I its a cp xs):
  CalM prog 20 #[.agg [.slice a its.length cp].toArray] I [] (D55 its):=by
 have hfew:=hfe.few;refine CalM.of fun w E hm=>enter (N:=72) func20 rfl [(0,.agg [.slice a its.length cp].toArray)] A0Z rfl ?_
 repeat' (first|refine A0U 2 ?_|refine A0T (d:=1) ?_ hm;clear hm;intro b1 _ hm|refine X8 (d:=2) ?_ hm;clear hm;intro b2 _ hm|refine X8 (d:=3) ?_ hm;clear hm;intro b3 _ hm|refine E5 ?_|refine A7 ?_|refine E8 ?_|refine A8 ?_)
 obtain⟨I1,hle1,hm1,hpf⟩:=(hm.perm (A1o (l₁:= [_,_]) (l₂:= [_]))).freezeO;clear hm;have hm:=hm1;clear hm1;have hfe1:=hfe.le hle1;refine⟨?_⟩
 repeat' (first|refine J9 ?_ hm|refine D8 ?_|refine G6 ?_|refine D5 ?_|refine E5 ?_|refine A7 ?_|refine A8 ?_|refine F6 ?_)
 have hm:=(hm.nil 43 10).swap;refine U3 (fun x:LbX=> [(1,ptr b1),(2,ptr b2),(3,ptr b3),(10,.slice a its.length cp),(11,nt its.length),(12,nt x.k)])
  (fun x w'=>Mem E x.I [.cell b3 [.slice x.a x.r.length x.cp] 25,B14 x.r.length x.a x.cp x.xs,.cell b2 [.slice none 0 0] 25] w'/\Le I1 x.I/\x.k<=its.length/\Sp.AllTwo (C1K its) (its.take x.k) x.r/\A4W x.I x.r x.xs) (fun x=>its.length-x.k) ⟨0,I1,none,0,[],[]⟩
  (by exact⟨rfl,rfl,rfl,rfl,rfl,rfl,trivial⟩) ⟨hm,Le.refl _,H9 _,.nil,rfl⟩ ?_
 clear hm;rintro⟨k,I2,ra,rp,rx,r⟩ w2 ⟨hm,hle2,hk,hall,hits⟩;dsimp only at hm hle2 hk hall hits |-;have hfe2:=hfe1.le hle2;have hpf2:=hpf.le hle2;have hri:=hfe2.row;have hrl:=hall.len;rw[P9,A1O hk]at hrl;by_cases hlt:k<its.length
 ·have hg:its[k]?=some its[k]:=F9 hlt
  have htk:=U2 hg;obtain⟨cs,hcs,hat,hl10⟩:=hfe2.get hg;have hIt:=hI _ (O1 hlt);have hpl:=(hlab _ (O1 hlt)).2;generalize its[k]=it at hg hat hIt hpl htk;have hOw:=D8a it hIt.small I2 cs hat
  have hpn:=hIt.small.params;have hbn:=hIt.small.body;obtain⟨ap0,cp0,as0,cs0,ab0,cb0,ad0,cd0,xb0,rfl,_⟩:=hat
  repeat' (first|refine O7 (d:=14) ?_ (hr:=hri);intro bt ot hpt;rw[show ((k:Int).toNat *10)=k *10 from rfl,hcs]at hpt|refine F8 (d:=17) ?_ hm (hp:=pm0) (hc:=hOw);clear hm;rintro _ I3 _ _ ⟨ap,cp',as_,cs',ab,cb,ad,cd,Hb,rfl,rfl,hO,hrs,hrd⟩ hleI3 hm;replace hm:=hm.perm A1o|refine A0U 6 ?_|refine Y2 (d:=5) ?_ hm;clear hm;intro b5 _ hm|refine Q7 ?_ hm|refine U0 ?_ hm|refine P6 ?_ hm;clear hm;intro _ hm;try simp only[G5]at hm|refine J8 ?_|refine E5 ?_|refine A7 ?_|refine E8 ?_|refine A8 ?_|refine F6 ?_|refine G7 ?_|(refine C9 (ht:=fun _=>?_) (hf:=fun _=>?_)<;>try first|contradiction|omega))
  obtain⟨I4,hle4,hm4,hrp⟩:=(hm.perm (pmL4.trans (.refl _))).freeze;clear hm;have hm:=hm4.perm pmL4.symm;clear hm4;have hle24:Le I2 I4:=hleI3.trans hle4;have hO4:=hO.le hle4;have hrs4:=hrs.le hle4;have hrd4:=hrd.le hle4;have hpf4:=hpf2.le hle24;have hfe4:=hfe2.le hle24;have hits4:=hits.le hle24;refine⟨?_⟩
  by_cases k2:it.kind=2
  ·skip
   repeat' (first|refine B2D (d:=21) ?_ hm;clear hm;intro b21 _ hm|refine A0T (d:=23) ?_ hm;clear hm;intro b23 _ hm|refine J6 ?_ hm|refine D6 ?_|refine O6 ?_|refine D5 ?_|refine Y0 ?_|refine E5 ?_|refine A7 ?_|refine E8 ?_|refine A8 ?_|refine F6 ?_|(refine C9 (ht:=fun _=>?_) (hf:=fun _=>?_)<;>try first|contradiction|omega))
   have hm:=(hm.nil 122 3).perm pmSw;refine U3 (fun _:LbR=> [(1,ptr b1),(2,ptr b2),(3,ptr b3),(5,ptr b5),(6,ptr b23),(10,.slice a its.length cp),(11,nt its.length),(12,nt k)])
    (fun x w'=>Mem E x.I (InT b23 b1 x.sc x.o x.more x.sa x.sp b21 x.zs (.cell b5 (A1J it.kind it.name it.label (.slice ap it.params.length cp') (.slice as_ it.sends.length cs') (.slice ab it.body.length cb) it.at_ it.size it.mark (.slice ad it.diags.length cd)) 43:: .cell b3 [.slice ra r.length rp] 25::B14 r.length ra rp rx:: .cell b2 [.slice none 0 0] 25::Hb)) w'/\
     Le I4 x.I/\OpenZ x.zs x.o/\(∃kk,x.o=A8m its it kk)/\(x.more=false->A5v its it x.o=(x.o,false)))
    (fun x=>2 *B5q (A1s it.body) x.o+(if x.more=true then 1 else 0)) ⟨I4,[],fun _=>0,true,none,0,[]⟩
    (by exact⟨rfl,rfl,rfl,rfl,rfl,rfl,rfl,rfl,trivial⟩) ⟨hm,Le.refl _,OpenZ.nil,⟨0,rfl⟩,fun h=>(by cases h)⟩ ?_
   clear hm;rintro⟨I5,sc,o,more,sa,sp,zs⟩ w5 ⟨hm,hle5,hz,⟨kk,hkk⟩,hfix⟩;dsimp only at hm hle5 hz hkk hfix |-;have hok:∀f,o f<256:=fun f=>by rw[hkk];exact C0J hlab hIt.body hpl kk f
   obtain⟨hr1,hr2,hr3⟩:=B9V (o:=o) hlab hIt.body hpl hok;cases more with
   |false=>
    repeat' (first|refine A0U 17 ?_|refine J6 ?_ hm|refine D8 ?_|refine F5 ?_|refine D5 ?_|refine E5 ?_|refine A7 ?_|refine H6 ?_|refine G9 ?_|refine E8 ?_|refine A8 ?_|refine O8 ?_|refine F7 ?_)
    obtain⟨I6,hle6,hm6,hpd⟩:=hm.freezeO;obtain⟨I7,hle7,hm7,hmz⟩:=Mem.freezeMZ hm6.tl;clear hm hm6;have hm:=hm7;clear hm7;have hF:=D6u (bd:=b23) (bo:=b21) hz _ it.body (H7 _) (by omega) hIt.small.stms I7 ab cb Hb (hpd.le hle7) hmz (((hO4.le hle5).le hle6).le hle7);refine⟨?_⟩
    repeat' (first|refine F8 (d:=63) ?_ hm (hp:=pmL4) (hc:=hF);clear hm;rintro _ I8 H1 _ ⟨rfl,hO8⟩ hleI8 hm;replace hm:=hm.perm pmL4.symm|refine A0U 18 ?_|refine J6 ?_ hm|refine D8 ?_|refine D5 ?_|refine E5 ?_|refine A7 ?_|refine A8 ?_)
    obtain⟨I9,xb9,hle9,hm9,hrb,hxb⟩:=hO8.freeze (hm.perm pmL4);clear hm;have hm:=hm9;clear hm9;have hle49:Le I4 I9:=(((hle5.trans hle6).trans hle7).trans hleI8).trans hle9;have hit:A67 I9 (Sp.itI o it) (A1J it.kind it.name it.label (.slice ap it.params.length cp') (.slice as_ it.sends.length cs') (.slice ab it.body.length cb) it.at_ it.size it.mark (.slice ad it.diags.length cd)):=
     ⟨ap,cp',as_,cs',ab,cb,ad,cd,xb9,by show _=A1J it.kind it.name it.label _ _ (.slice ab (A1r o it.body).length cb) it.at_ it.size it.mark _;rw[A6W];rfl,hrp.le hle49,hrs4.le hle49,hrb,hxb,hrd4.le hle49⟩
    refine⟨?_⟩
    repeat' (first|refine A2P (d:=68) ?_ hm;clear hm;intro a68 cp68 _ _ hm;try simp only[G5]at hm|refine J6 ?_ hm|refine Q7 ?_ hm|refine P5 hm (k:=?_);clear hm;intro _ hm;try simp only[G5]at hm|refine D8 ?_|refine O9 ?_|refine D5 ?_|refine E5 ?_|refine A7 ?_|refine D7 ?_|refine A8 ?_)
    refine L6 (⟨k+1,I9,a68,cp68,_,r++ [Sp.itI o it]⟩:LbX) (by exact⟨rfl,rfl,rfl,rfl,rfl,rfl,trivial⟩) ⟨?_,(hle2.trans hle24).trans hle49,by dsimp only;omega,by dsimp only;rw[htk];exact hall.snoc ⟨fun _=>⟨o,⟨⟨kk,hkk⟩,hfix rfl⟩,rfl⟩,fun h=>absurd k2 h⟩,(hits4.le hle49).snoc hit⟩ (by dsimp only;omega)
    dsimp only[B14];rw[D9];exact hm.tl
   |true=>
    repeat' (first|refine A0U 11 ?_|refine J6 ?_ hm|refine P5 hm (k:=?_);clear hm;intro _ hm;try simp only[G5]at hm|refine D8 ?_|refine F5 ?_|refine D5 ?_|refine E5 ?_|refine A7 ?_|refine E8 ?_|refine A8 ?_|refine F6 ?_|refine G7 ?_|refine H5 ?_)
    have hm:=((hm.perm pmSw).tl.nil 122 3).perm pmSw;have hrp5:=hrp.le hle5;have hO5:=hO4.le hle5;refine⟨?_⟩
    repeat' (first|refine J6 ?_ hm|refine D8 ?_|refine G6 ?_|refine D5 ?_|refine E5 ?_|refine A7 ?_|refine A8 ?_|refine F6 ?_)
    refine U3 (fun x:LbP=> [(1,ptr b1),(2,ptr b2),(3,ptr b3),(5,ptr b5),(6,ptr b23),(10,.slice a its.length cp),(11,nt its.length),(12,nt k),(35,.slice ap it.params.length cp'),(36,nt it.params.length),(37,nt x.j)])
     (fun x w'=>Mem E I5 (InT b23 b1 (A53 (it.params.take x.j)) o false x.sa x.sp b21 zs (.cell b5 (A1J it.kind it.name it.label (.slice ap it.params.length cp') (.slice as_ it.sends.length cs') (.slice ab it.body.length cb) it.at_ it.size it.mark (.slice ad it.diags.length cd)) 43:: .cell b3 [.slice ra r.length rp] 25::B14 r.length ra rp rx:: .cell b2 [.slice none 0 0] 25::Hb)) w'/\x.j<=it.params.length)
     (fun x=>it.params.length-x.j) ⟨0,none,0⟩ (by exact⟨rfl,rfl,rfl,rfl,rfl,rfl,rfl,rfl,rfl,rfl,rfl,trivial⟩) ⟨hm,H9 _⟩ ?_
    clear hm;rintro⟨j,sa1,sp1⟩ w6 ⟨hm,hj⟩;dsimp only at hm hj |-;have hpl1:(A53 (it.params.take j)).length=j:=by rw[A53,P7,P9];omega
    by_cases hlj:j<it.params.length
    ·have hgp:it.params[j]?=some it.params[j]:=F9 hlj
     have hstp:=C1a hgp;generalize it.params[j]=p at hgp hstp;repeat' (first|refine Q4 (d:=39) (enc:=A2L) (z:=p) ?_ (hr:=hrp5) (he:=fun _=>rfl) (hz:=by exact hgp);intro bz oz hpz|refine A0S (id:=14) (hm.perm pm1_2) [0,1,2,3,4,5,6,7,8,9] [10,11] 12 (h:=?_);clear hm;intro wd hR hm|refine A0k ?_ hR|refine A3b (d:=52) ?_ hm;clear hm;intro a52 cp52 _ _ hm;replace hm:=hR.back hm;clear hR;try simp only[G5]at hm|refine Y2 (d:=8) ?_ hm;clear hm;intro b8 _ hm|refine U0 ?_ hm|refine P5 hm (k:=?_);clear hm;intro _ hm;try simp only[G5]at hm|refine D8 ?_|refine J8 ?_|refine F5 ?_|refine O9 ?_|refine D5 ?_|refine E5 ?_|refine A7 ?_|refine D7 ?_|refine E8 ?_|refine A8 ?_|refine F6 ?_|refine G7 ?_|(refine C9 (ht:=fun _=>?_) (hf:=fun _=>?_)<;>try first|contradiction|omega)|refine A0x ?_|refine U5 ?_|refine N8 ?_|refine A4U ?_|refine A0y ?_)
     refine L6 (⟨j+1,a52,cp52⟩:LbP) (by exact⟨rfl,rfl,rfl,rfl,rfl,rfl,rfl,rfl,rfl,rfl,rfl,trivial⟩) ⟨?_,by dsimp only;omega⟩ (by dsimp only;omega)
     dsimp only[InT];rw[hstp,X0,D9];exact(hm.perm pmIcT).tl
    ·obtain rfl:j=it.params.length:=by omega
     rw[V7]at hm;have hq:(A2x its it.body ((A53 it.params).map (·.1)) 0 (o,false)).2=A5v its it o:=by rw[B2d];rfl
     have hB:CalM prog 49 #[ptr b23,.slice ab it.body.length cb,nt 0] I5 (Hb++B3n b23 b1 (A53 it.params) o false sa1 sp1 b21 zs) _:=CalM.lend (QJ:=fun J=> ∃xb,RowI J 111 15 (.slice ab it.body.length cb) it.body.length xb/\V4 J it.body xb)
      (fun E w hmm=>by
       obtain⟨J,xbJ,hleJ,hmJ,hrJ,hxJ⟩:=hO5.freeze hmm;exact⟨J,hleJ,hmJ,xbJ,hrJ,hxJ⟩)
      (fun J m ⟨xb,h1,h2⟩=>D3X (bd:=b23) (bf:=b1) (bo:=b21) hlab _ it.body (H7 _) (by omega) hIt.small.stms hIt.body J ab cb xb (A53 it.params) 0 (o,false) sa1 sp1 zs (by omega) hok
       (by rw[B2d];exact B70 hpl) (by have:=hIt.cnt;rw[A53,P7];omega) (by rw[B2d,B9K];exact hIt.lets)
       (fun q hq=>by obtain⟨p,_,rfl⟩:=Y7.1 hq;exact .inl ⟨rfl,rfl⟩) hz ((hfe4.le hle5).le m) ((hpf4.le hle5).le m) h1 h2)
     rw[hq]at hB;repeat' (first|refine F8 (d:=59) ?_ hm (hp:=pmL7) (hc:=hB);clear hm;rintro _ I6 _ _ ⟨_,rfl,rfl,sa6,sp6,zs6,hz6,rfl⟩ hleI6 hm;replace hm:=hm.perm pmL7.symm|refine J6 ?_ hm|refine D8 ?_|refine J8 ?_|refine D5 ?_|refine E5 ?_|refine A7 ?_|refine H6 ?_|refine D7 ?_|refine G9 ?_|refine E8 ?_|refine A8 ?_|refine O8 ?_|(refine C9 (ht:=fun _=>?_) (hf:=fun _=>?_)<;>try first|contradiction|omega))
     refine L6 (⟨I6,A53 it.params,(A5v its it o).1,(A5v its it o).2,sa6,sp6,zs6⟩:LbR) (by exact⟨rfl,rfl,rfl,rfl,rfl,rfl,rfl,rfl,trivial⟩) ⟨hm,hle5.trans hleI6,hz6,⟨kk+1,by rw[hkk];rfl⟩,fun h=>?_⟩ ?_
     ·dsimp only at h |-
      have h3:=hr3 h;rw[h3];exact Prod.ext h3 h
     ·dsimp only
      cases hb:(A5v its it o).2 with
      |true=>have:=hr2 hb;rw[if_pos rfl];omega
      |false=>rw[hr3 hb,if_neg (by decide),if_pos rfl];omega
  ·obtain⟨I5,xb5,hle5,hm5,hrb,hxb⟩:=hO4.freeze (hm.perm pmL4)
   clear hm;have hm:=hm5;clear hm5;have hit:A67 I5 it (A1J it.kind it.name it.label (.slice ap it.params.length cp') (.slice as_ it.sends.length cs') (.slice ab it.body.length cb) it.at_ it.size it.mark (.slice ad it.diags.length cd)):=
    ⟨ap,cp',as_,cs',ab,cb,ad,cd,xb5,rfl,hrp.le hle5,hrs4.le hle5,hrb,hxb,hrd4.le hle5⟩
   repeat' (first|refine A2P (d:=68) ?_ hm;clear hm;intro a68 cp68 _ _ hm;try simp only[G5]at hm|refine J6 ?_ hm|refine Q7 ?_ hm|refine P5 hm (k:=?_);clear hm;intro _ hm;try simp only[G5]at hm|refine D8 ?_|refine O6 ?_|refine O9 ?_|refine D5 ?_|refine E5 ?_|refine A7 ?_|refine D7 ?_|refine A8 ?_|refine G7 ?_|(refine C9 (ht:=fun _=>?_) (hf:=fun _=>?_)<;>try first|contradiction|omega))
   refine L6 (⟨k+1,I5,a68,cp68,_,r++ [it]⟩:LbX) (by exact⟨rfl,rfl,rfl,rfl,rfl,rfl,trivial⟩) ⟨?_,(hle2.trans hle24).trans hle5,by dsimp only;omega,by dsimp only;rw[htk];exact hall.snoc ⟨fun h=>absurd h k2,fun _=>rfl⟩,(hits4.le hle5).snoc hit⟩ (by dsimp only;omega)
   dsimp only[B14];rw[D9];exact hm.tl
 ·obtain rfl:k=its.length:=by omega
  rw[V7]at hall;repeat' (first|refine Q7 ?_ hm|refine P6 ?_ hm;clear hm;intro _ hm;try simp only[G5]at hm|refine A0a ?_ hm|refine J8 ?_|refine E5 ?_|refine A7 ?_|refine H6 ?_|refine G9 ?_|refine E8 ?_|refine A8 ?_|refine O8 ?_|refine J3 ?_|(refine C9 (ht:=fun _=>?_) (hf:=fun _=>?_)<;>try first|contradiction|omega))
  obtain⟨I3,hle3,hm3,hrow3⟩:=(hm.perm pmSw).freeze;exact⟨I3,[],⟨rfl,ra,rp,rx,r,hall,rfl,hrow3,hits.le hle3⟩,hm3.left (H:= [])⟩
structure LsX where
 k:Nat
 I:P8
 a:Option Addr
 cp:Nat
 ls:List Nat
def B3u (n:Nat):List Value:= [.int .i64 (n:Int)]
theorem B4a (l:List Nat):∀u∈l.flatMap B3u,u.oneCell'=true:=fun u hu=>by
 obtain⟨n,_,hn⟩:=A3S.1 hu;rw[B3u]at hn;obtain rfl:=A0q.1 hn
 rfl
def D8s (l:List Nat):Value->P8->List HItem->Prop:=fun v I' H'=>H'= []/\∃a cp,v=.slice a l.length cp/\RowI I' 3 1 (.slice a l.length cp) l.length (l.flatMap B3u)
theorem B9u:∀(n:Nat) (l:List Sp.Stm),SizeOf.sizeOf l<=n->l.length<=64->A0j l->(A2I l).length<=1000000000->∀(I:P8) (ab:Option Addr) (cb:Nat) (xb:List Value),
  RowI I 111 15 (.slice ab l.length cb) l.length xb->V4 I l xb->
  CalM prog 21 #[.slice ab l.length cb] I [] (D8s (A2I l)):=by
 intro n;induction n with
 |zero=>intro l h;cases l<;>simp at h
 |succ n ih=>
 intro l hsz hll hsm hfew I ab cb xb hr hx;refine CalM.of fun w E hm=>enter (N:=31) func21 rfl [(0,.slice ab l.length cb)] A0Z rfl ?_
 repeat' (first|refine D8 ?_|refine D6 ?_|refine G6 ?_|refine E5 ?_|refine A7 ?_|refine E8 ?_|refine A8 ?_|refine F6 ?_)
 refine U3 (fun x:LsX=> [(3,.slice x.a x.ls.length x.cp),(6,.slice ab l.length cb),(7,nt l.length),(8,nt x.k)])
  (fun x w'=>Mem E x.I [.row (.slice x.a x.ls.length x.cp) 3 1 x.ls.length (x.ls.flatMap B3u)] w'/\Le I x.I/\x.ls=A2I (l.take x.k)/\x.k<=l.length) (fun x=>l.length-x.k) ⟨0,I,none,0,[]⟩
  (by exact⟨rfl,rfl,rfl,rfl,trivial⟩) ⟨hm.nil _ _,Le.refl _,by dsimp only;rw[Z9,A2I],H9 _⟩ ?_
 clear hm;rintro⟨k,I1,ra,rc,ls⟩ w1 ⟨hm,hle1,hq,hk⟩;dsimp only at hm hle1 hq hk |-;have hrow:=hr.le hle1;by_cases hlt:k<l.length
 ·have hg:l[k]?=some l[k]:=F9 hlt
  have hme:=A3v (O1 hlt);obtain⟨cs,hcs⟩:∃cs,(xb.drop (k *15)).take 15=cs:=⟨_,rfl⟩;have hat:=hx.get hg;rw[hcs]at hat
  have hsm2:=A1W hsm hg;have hle:=D1d hg;have hst:=B7F hg;rw[<-hq]at hle hst;clear hq;generalize l[k]=y at hg hme hat hsm2 hle hst;rw[D35]at hle hst;obtain⟨s1,s2,s3,s4,s5⟩:=A15 hsm2;obtain⟨z1,z2⟩:=A5n (s:=y);obtain⟨ea,ec,ex,a1',c1,xs1,a2',c2,xs2,rfl,hr3,hx3,hr4,hx4,hr5,hx5⟩:=hat.out;simp only[D9]at hle;have hT:=fun (J:P8) (m:Le I1 J)=>ih y.thn (by omega) s2 s3 (by omega) J a1' c1 xs1 ((hr4.le hle1).le m) (V4.le m _ _ (V4.le hle1 _ _ hx4))
  have hL:=fun (J:P8) (m:Le I1 J)=>ih y.els (by omega) s4 s5 (by omega) J a2' c2 xs2 ((hr5.le hle1).le m) (V4.le m _ _ (V4.le hle1 _ _ hx5))
  generalize A2I y.thn=l1 at hT hst hle;generalize A2I y.els=l2 at hL hst hle;by_cases k1:y.kind=1
  ·rw[if_pos k1]at hst hle
   simp only[E9,List.length_nil]at hle;repeat' (first|refine O7 (d:=10) ?_ (hr:=hrow);intro bt ot hpt;rw[show ((k:Int).toNat *15)=k *15 from rfl,hcs]at hpt|refine A2P (d:=19) ?_ hm;clear hm;intro a19 cp19 _ _ hm;try simp only[G5]at hm|refine A2y (id:=7) (hm.perm pm1_1) [0,1,2,5,6] 9 (h:=?_);clear hm;intro wd hR hm|refine A4f (d:=23) hm (by rfl) (by rfl) (by rfl) pm0 (hT I1 (Le.refl _)) ?_;clear hm;rintro _ I2 _ _ ⟨rfl,a23,cp23,rfl,hr23⟩ hleI2 hm;try simp only[G5]at hm|refine B6A (d:=24) hm (by rfl) (by rfl) (by rfl) (by rfl) (by first|exact gt0|exact gt1|exact gt2|exact gt3|exact gt4|exact gt5|exact gt6) hr23 (B4a _) (by omega) (by omega) ?_;clear hm;intro a24 cp24 _ hm;try simp only[G5]at hm|refine A4f (d:=27) hm (by rfl) (by rfl) (by rfl) pm0 (hL I2 hleI2) ?_;clear hm;rintro _ I3 _ _ ⟨rfl,a27,cp27,rfl,hr27⟩ hleI3 hm;try simp only[G5]at hm|refine B6A (d:=28) hm (by rfl) (by rfl) (by rfl) (by rfl) (by first|exact gt0|exact gt1|exact gt2|exact gt3|exact gt4|exact gt5|exact gt6) hr27 (B4a _) (by omega) (by omega) ?_;clear hm;intro a28 cp28 _ hm;try simp only[G5]at hm|refine A1I (i:=3) ?_ (by decide+kernel)|refine A1I (i:=4) ?_ (by decide+kernel)|refine A1I (i:=7) ?_ (by decide+kernel)|refine A1I (i:=8) ?_ (by decide+kernel)|refine A6S (by decide+kernel) ?_;replace hm:=hR.back hm;clear hR;try simp only[G5]at hm|refine A0k ?_ hR|refine B23 ?_|refine Y2 (d:=5) ?_ hm;clear hm;intro b5 _ hm|refine J6 ?_ hm|refine U0 ?_ hm|refine D8 ?_|refine D6 ?_|refine J8 ?_|refine O6 ?_|refine O9 ?_|refine D5 ?_|refine E5 ?_|refine A7 ?_|refine D7 ?_|refine E8 ?_|refine A8 ?_|refine F6 ?_|refine G7 ?_|(refine C9 (ht:=fun _=>?_) (hf:=fun _=>?_)<;>try first|contradiction|omega)|refine A0x ?_|refine N8 ?_)
   rw[show ls.length+1+l1.length+l2.length=(ls++([y.label]++(l1++l2))).length by simp only[D9,E9,List.length_nil];omega]at hm |-;refine L6 (⟨k+1,I3,a28,cp28,ls++([y.label]++(l1++l2))⟩:LsX) (by exact⟨rfl,rfl,rfl,rfl,trivial⟩) ⟨?_,(hle1.trans hleI2).trans hleI3,hst.symm,by dsimp only;omega⟩ (by dsimp only;omega)
   dsimp only
   rw[show (ls++([y.label]++(l1++l2))).flatMap B3u=ls.flatMap B3u++ [.int .i64 (y.label:Int)]++l1.flatMap B3u++l2.flatMap B3u by simp only[X0,J5,A0c,A9t,J4,B3u]];exact hm.hd
  ·rw[if_neg k1]at hst hle
   simp only[List.length_nil]at hle;repeat' (first|refine O7 (d:=10) ?_ (hr:=hrow);intro bt ot hpt;rw[show ((k:Int).toNat *15)=k *15 from rfl,hcs]at hpt|refine A2y (id:=7) (hm.perm pm1_1) [0,1,2,5,6] 9 (h:=?_);clear hm;intro wd hR hm|refine A4f (d:=23) hm (by rfl) (by rfl) (by rfl) pm0 (hT I1 (Le.refl _)) ?_;clear hm;rintro _ I2 _ _ ⟨rfl,a23,cp23,rfl,hr23⟩ hleI2 hm;try simp only[G5]at hm|refine B6A (d:=24) hm (by rfl) (by rfl) (by rfl) (by rfl) (by first|exact gt0|exact gt1|exact gt2|exact gt3|exact gt4|exact gt5|exact gt6) hr23 (B4a _) (by omega) (by omega) ?_;clear hm;intro a24 cp24 _ hm;try simp only[G5]at hm|refine A4f (d:=27) hm (by rfl) (by rfl) (by rfl) pm0 (hL I2 hleI2) ?_;clear hm;rintro _ I3 _ _ ⟨rfl,a27,cp27,rfl,hr27⟩ hleI3 hm;try simp only[G5]at hm|refine B6A (d:=28) hm (by rfl) (by rfl) (by rfl) (by rfl) (by first|exact gt0|exact gt1|exact gt2|exact gt3|exact gt4|exact gt5|exact gt6) hr27 (B4a _) (by omega) (by omega) ?_;clear hm;intro a28 cp28 _ hm;try simp only[G5]at hm|refine A1I (i:=3) ?_ (by decide+kernel)|refine A1I (i:=4) ?_ (by decide+kernel)|refine A1I (i:=7) ?_ (by decide+kernel)|refine A1I (i:=8) ?_ (by decide+kernel)|refine A6S (by decide+kernel) ?_;replace hm:=hR.back hm;clear hR;try simp only[G5]at hm|refine A0k ?_ hR|refine B23 ?_|refine Y2 (d:=5) ?_ hm;clear hm;intro b5 _ hm|refine J6 ?_ hm|refine U0 ?_ hm|refine D8 ?_|refine D6 ?_|refine J8 ?_|refine O6 ?_|refine O9 ?_|refine D5 ?_|refine E5 ?_|refine A7 ?_|refine D7 ?_|refine E8 ?_|refine A8 ?_|refine F6 ?_|refine G7 ?_|(refine C9 (ht:=fun _=>?_) (hf:=fun _=>?_)<;>try first|contradiction|omega)|refine A0x ?_|refine N8 ?_)
   rw[show ls.length+l1.length+l2.length=(ls++([]++(l1++l2))).length by simp only[D9,List.length_nil];omega]at hm |-;refine L6 (⟨k+1,I3,a28,cp28,ls++([]++(l1++l2))⟩:LsX) (by exact⟨rfl,rfl,rfl,rfl,trivial⟩) ⟨?_,(hle1.trans hleI2).trans hleI3,hst.symm,by dsimp only;omega⟩ (by dsimp only;omega)
   dsimp only
   rw[show (ls++(([]:List Nat)++(l1++l2))).flatMap B3u=ls.flatMap B3u++l1.flatMap B3u++l2.flatMap B3u by simp only[X0,J5,L9]];exact hm.hd
 ·obtain rfl:k=l.length:=by omega
  rw[V7]at hq;subst hq;repeat' (first|refine D8 ?_|refine D6 ?_|refine J8 ?_|refine E5 ?_|refine A7 ?_|refine H6 ?_|refine G9 ?_|refine E8 ?_|refine A8 ?_|refine O8 ?_|refine J3 ?_|refine J7 ?_|(refine C9 (ht:=fun _=>?_) (hf:=fun _=>?_)<;>try first|contradiction|omega))
  obtain⟨I2,hle2,hm2,hr2⟩:=hm.freeze;exact⟨I2,_,⟨rfl,ra,rc,rfl,hr2⟩,hm2⟩
structure WtX where
 k:Nat
 I:P8
 a:Option Addr
 cp:Nat
 xs:List Value
 m:Nat
def D57 (bc:Nat) (r:List Sp.Stm×Nat):Value->P8->List HItem->Prop:=fun v I' H'=>H'= [.cell bc [nt r.2] 3]/\∃a cp xs,v=.slice a r.1.length cp/\RowI I' 111 15 (.slice a r.1.length cp) r.1.length xs/\V4 I' r.1 xs
theorem D30 (give:List Int) {ga:Option Addr}{gc:Nat} (_hgl:give.length<=1000000000000):∀(n:Nat) (l:List Sp.Stm),SizeOf.sizeOf l<=n->l.length<=64->A0j l->∀(m:Nat),(A1c give l m).2<=1000000000->∀(I:P8) (ab:Option Addr) (cb bc:Nat) (xb:List Value),
  RowI I 3 1 (.slice ga give.length gc) give.length (give.flatMap C2n)->RowI I 111 15 (.slice ab l.length cb) l.length xb->V4 I l xb->
  CalM prog 18 #[.slice ab l.length cb,.slice ga give.length gc,ptr bc] I [.cell bc [nt m] 3] (D57 bc (A1c give l m)):=by
 intro n;induction n with
 |zero=>intro l h;cases l<;>simp at h
 |succ n ih=>
 intro l hsz hll hsm m hfew I ab cb bc xb hg0 hr hx;refine CalM.of fun w E hm=>enter (N:=70) func18 rfl [(0,.slice ab l.length cb),(1,.slice ga give.length gc),(2,ptr bc)] A4x rfl ?_
 repeat' (first|refine D8 ?_|refine D6 ?_|refine G6 ?_|refine E5 ?_|refine A7 ?_|refine E8 ?_|refine A8 ?_|refine F6 ?_)
 refine U3 (fun x:WtX=> [(1,.slice ga give.length gc),(2,ptr bc),(7,.slice x.a x.k x.cp),(10,.slice ab l.length cb),(11,nt l.length),(12,nt x.k)])
  (fun x w'=>Mem E x.I [.cell bc [nt x.m] 3,B8k x.k x.a x.cp x.xs] w'/\Le I x.I/\V4 x.I (A1c give (l.take x.k) m).1 x.xs/\x.m=(A1c give (l.take x.k) m).2/\x.k<=l.length) (fun x=>l.length-x.k) ⟨0,I,none,0,[],m⟩
  (by exact⟨rfl,rfl,rfl,rfl,rfl,rfl,trivial⟩) ⟨(hm.nil 111 15).perm (.swap _ _ _),Le.refl _,by dsimp only;rw[Z9,A1c];exact .nil,by dsimp only;rw[Z9,A1c],H9 _⟩ ?_
 clear hm;rintro⟨k,I1,a1,cp1,xs1,m1⟩ w1 ⟨hm,hle1,hxs,hm1,hk⟩;dsimp only at hm hle1 hxs hm1 hk |-;have hrow:=hr.le hle1;have hgi:=hg0.le hle1;by_cases hlt:k<l.length
 ·have hg:l[k]?=some l[k]:=F9 hlt
  have hme:=A3v (O1 hlt);obtain⟨cs,hcs⟩:∃cs,(xb.drop (k *15)).take 15=cs:=⟨_,rfl⟩;have hat:=hx.get hg;rw[hcs]at hat
  have hsm2:=A1W hsm hg;have hpre:=C9K (give:=give) hg m;have hstp:=B8B (give:=give) hg m;rw[<-hm1]at hpre hstp;generalize l[k]=y at hg hme hat hsm2 hpre hstp;rw[D3j]at hpre hstp;dsimp only at hpre hstp;obtain⟨s1,s2,s3,s4,s5⟩:=A15 hsm2;obtain⟨z1,z2⟩:=A5n (s:=y);obtain⟨ea,ec,ex,a1',c1,xs1',a2',c2,xs2',rfl,hr3,hx3,hr4,hx4,hr5,hx5⟩:=hat.out;by_cases k1:y.kind=1/\y.opn=true
  ·obtain⟨kk,ho⟩:=k1
   simp only[if_pos (And.intro kk ho),if_pos kk]at hpre hstp;have hmo:=A6U give y.thn (m1+1);have hmn:=A6U give y.els (A1c give y.thn (m1+1)).2;have hT:=fun (J:P8) (q:Le I1 J)=>ih y.thn (by omega) s2 s3 (m1+1) (by omega) J a1' c1 bc xs1' (hgi.le q) ((hr4.le hle1).le q) (V4.le q _ _ (V4.le hle1 _ _ hx4))
   have hL:=fun (J:P8) (q:Le I1 J)=>ih y.els (by omega) s4 s5 (A1c give y.thn (m1+1)).2 (by omega) J a2' c2 bc xs2' (hgi.le q) ((hr5.le hle1).le q) (V4.le q _ _ (V4.le hle1 _ _ hx5))
   have hl1:=A7L give y.thn (m1+1);have hl2:=A7L give y.els (A1c give y.thn (m1+1)).2;have hm9:m1+1<=1000000000:=by omega
   clear hmo hmn;generalize A1c give y.thn (m1+1)=r1 at hT hL hl1 hl2 hstp hpre;obtain⟨t1,m2⟩:=r1;dsimp only at hT hL hl1 hl2 hstp hpre;generalize A1c give y.els m2=r2 at hL hl2 hstp hpre;obtain⟨t2,m3⟩:=r2;dsimp only at hL hl2 hstp hpre;rcases U9 m1 give.length with hlt2|hge2
   ·have hgm:give[m1]?=some give[m1]:=F9 hlt2
    generalize give[m1]=v at hgm;have hR:=C0q v;by_cases hv:0<=v/\v<=255
    ·rw[decide_eq_true hv]at hR
     obtain⟨lb,rfl⟩:=A49 hv.1;have hgv:B1y give m1=lb:=by
      rw[B1y,hgm];dsimp only
      rw[if_pos hv]
      rfl
     rw[hgv]at hstp;repeat' (first|refine O7 (d:=14) ?_ (hr:=hrow);intro bt ot hpt;rw[show ((k:Int).toNat *15)=k *15 from rfl,hcs,ho]at hpt|refine Q4 (d:=36) (enc:=C2n) (z:=(lb:Int)) ?_ (hr:=hgi) (he:=fun _=>rfl) (hz:=by exact hgm);intro bz oz hpz|refine A0r (d:=38) (hc:=by exact hR _) (k:=?_);rintro _ _ ⟨rfl,rfl⟩|refine Q4 (d:=44) (enc:=C2n) (z:=(lb:Int)) ?_ (hr:=hgi) (he:=fun _=>rfl) (hz:=by exact hgm);intro bz2 oz2 hpz2|refine A2y (id:=10) (hm.perm pm1_1) [0,1,2,3,5,6,7,8] 11 (h:=?_);clear hm;intro wd hR hm|refine A4f (d:=56) hm (by rfl) (by rfl) (by rfl) pm1_0 (hT I1 (Le.refl _)) ?_;clear hm;rintro _ I2 _ _ ⟨rfl,a56,cp56,x56,rfl,hr56,hx56⟩ hleI2 hm;try simp only[G5]at hm|refine A4f (d:=61) hm (by rfl) (by rfl) (by rfl) pm1_0 (hL I2 hleI2) ?_;clear hm;rintro _ I3 _ _ ⟨rfl,a61,cp61,x61,rfl,hr61,hx61⟩ hleI3 hm;try simp only[G5]at hm|refine A1I (i:=4) ?_ (by decide+kernel)|refine A7n [10] (by decide+kernel) hm.kept ?_|refine A9F ?_|refine A1I (i:=9) ?_ (by decide+kernel)|refine A6S (by decide+kernel) ?_;replace hm:=hR.back hm;clear hR;try simp only[G5]at hm|refine A0k ?_ hR|refine Y2 (d:=9) ?_ hm;clear hm;intro b9 _ hm|refine A2P (d:=67) ?_ hm;clear hm;intro a67 cp67 _ _ hm;try simp only[G5]at hm|refine J6 ?_ hm|refine Q7 ?_ hm|refine U0 ?_ hm|refine A0O ?_ hm|refine P5 hm (k:=?_);clear hm;intro _ hm;try simp only[G5]at hm|refine D8 ?_|refine D6 ?_|refine O0 ?_|refine J8 ?_|refine O6 ?_|refine G6 ?_|refine F5 ?_|refine O9 ?_|refine D5 ?_|(refine O3 (h1:=fun _=>?_) (h0:=fun _=>?_)<;>try first|contradiction|omega)|refine E5 ?_|refine A7 ?_|refine D7 ?_|refine E8 ?_|refine A8 ?_|refine F6 ?_|refine G7 ?_|refine H5 ?_|(refine C9 (ht:=fun _=>?_) (hf:=fun _=>?_)<;>try first|contradiction|omega)|refine A0x ?_|refine N8 ?_)
     refine L6 (⟨k+1,I3,a67,cp67,xs1++A2H y.kind y.name y.at_ lb false y.e ea ec (.slice a56 t1.length cp56) (.slice a61 t2.length cp61) y.fr y.to,m3⟩:WtX) (by exact⟨rfl,rfl,rfl,rfl,rfl,rfl,trivial⟩) ⟨(hm.perm (.swap _ _ _)).tl,(hle1.trans hleI2).trans hleI3,?_,by dsimp only;rw[hstp],by dsimp only;omega⟩ (by dsimp only;omega)
     dsimp only
     rw[hstp];exact(V4.le (hleI2.trans hleI3) _ _ hxs).snoc (A6n.of ((hr3.le hle1).le (hleI2.trans hleI3)) (Z7.le (hleI2.trans hleI3) _ _ (Z7.le hle1 _ _ hx3)) (hr56.le hleI3) (V4.le hleI3 _ _ hx56) hr61 hx61)
    ·rw[decide_eq_false hv]at hR
     have hgv:B1y give m1=0:=by
      rw[B1y,hgm];dsimp only
      rw[if_neg hv]
     rw[hgv]at hstp;repeat' (first|refine O7 (d:=14) ?_ (hr:=hrow);intro bt ot hpt;rw[show ((k:Int).toNat *15)=k *15 from rfl,hcs,ho]at hpt|refine Q4 (d:=36) (enc:=C2n) (z:=v) ?_ (hr:=hgi) (he:=fun _=>rfl) (hz:=by exact hgm);intro bz oz hpz|refine A0r (d:=38) (hc:=by exact hR _) (k:=?_);rintro _ _ ⟨rfl,rfl⟩|refine A2y (id:=10) (hm.perm pm1_1) [0,1,2,3,5,6,7,8] 11 (h:=?_);clear hm;intro wd hR hm|refine A4f (d:=56) hm (by rfl) (by rfl) (by rfl) pm1_0 (hT I1 (Le.refl _)) ?_;clear hm;rintro _ I2 _ _ ⟨rfl,a56,cp56,x56,rfl,hr56,hx56⟩ hleI2 hm;try simp only[G5]at hm|refine A4f (d:=61) hm (by rfl) (by rfl) (by rfl) pm1_0 (hL I2 hleI2) ?_;clear hm;rintro _ I3 _ _ ⟨rfl,a61,cp61,x61,rfl,hr61,hx61⟩ hleI3 hm;try simp only[G5]at hm|refine A1I (i:=4) ?_ (by decide+kernel)|refine A7n [10] (by decide+kernel) hm.kept ?_|refine A9F ?_|refine A1I (i:=9) ?_ (by decide+kernel)|refine A6S (by decide+kernel) ?_;replace hm:=hR.back hm;clear hR;try simp only[G5]at hm|refine A0k ?_ hR|refine Y2 (d:=9) ?_ hm;clear hm;intro b9 _ hm|refine A2P (d:=67) ?_ hm;clear hm;intro a67 cp67 _ _ hm;try simp only[G5]at hm|refine J6 ?_ hm|refine Q7 ?_ hm|refine U0 ?_ hm|refine A0O ?_ hm|refine P5 hm (k:=?_);clear hm;intro _ hm;try simp only[G5]at hm|refine D8 ?_|refine D6 ?_|refine O0 ?_|refine J8 ?_|refine O6 ?_|refine G6 ?_|refine F5 ?_|refine O9 ?_|refine D5 ?_|(refine O3 (h1:=fun _=>?_) (h0:=fun _=>?_)<;>try first|contradiction|omega)|refine E5 ?_|refine A7 ?_|refine D7 ?_|refine E8 ?_|refine A8 ?_|refine F6 ?_|refine G7 ?_|refine H5 ?_|refine F7 ?_|(refine C9 (ht:=fun _=>?_) (hf:=fun _=>?_)<;>try first|contradiction|omega)|refine A0x ?_|refine N8 ?_)
     refine L6 (⟨k+1,I3,a67,cp67,xs1++A2H y.kind y.name y.at_ 0 false y.e ea ec (.slice a56 t1.length cp56) (.slice a61 t2.length cp61) y.fr y.to,m3⟩:WtX) (by exact⟨rfl,rfl,rfl,rfl,rfl,rfl,trivial⟩) ⟨(hm.perm (.swap _ _ _)).tl,(hle1.trans hleI2).trans hleI3,?_,by dsimp only;rw[hstp],by dsimp only;omega⟩ (by dsimp only;omega)
     dsimp only
     rw[hstp];exact(V4.le (hleI2.trans hleI3) _ _ hxs).snoc (A6n.of ((hr3.le hle1).le (hleI2.trans hleI3)) (Z7.le (hleI2.trans hleI3) _ _ (Z7.le hle1 _ _ hx3)) (hr56.le hleI3) (V4.le hleI3 _ _ hx56) hr61 hx61)
   ·have hgv:B1y give m1=0:=by
     rw[B1y,A1n hge2]
    rw[hgv]at hstp;repeat' (first|refine O7 (d:=14) ?_ (hr:=hrow);intro bt ot hpt;rw[show ((k:Int).toNat *15)=k *15 from rfl,hcs,ho]at hpt|refine A2y (id:=10) (hm.perm pm1_1) [0,1,2,3,5,6,7,8] 11 (h:=?_);clear hm;intro wd hR hm|refine A4f (d:=56) hm (by rfl) (by rfl) (by rfl) pm1_0 (hT I1 (Le.refl _)) ?_;clear hm;rintro _ I2 _ _ ⟨rfl,a56,cp56,x56,rfl,hr56,hx56⟩ hleI2 hm;try simp only[G5]at hm|refine A4f (d:=61) hm (by rfl) (by rfl) (by rfl) pm1_0 (hL I2 hleI2) ?_;clear hm;rintro _ I3 _ _ ⟨rfl,a61,cp61,x61,rfl,hr61,hx61⟩ hleI3 hm;try simp only[G5]at hm|refine A1I (i:=4) ?_ (by decide+kernel)|refine A7n [10] (by decide+kernel) hm.kept ?_|refine A9F ?_|refine A1I (i:=9) ?_ (by decide+kernel)|refine A6S (by decide+kernel) ?_;replace hm:=hR.back hm;clear hR;try simp only[G5]at hm|refine A0k ?_ hR|refine Y2 (d:=9) ?_ hm;clear hm;intro b9 _ hm|refine A2P (d:=67) ?_ hm;clear hm;intro a67 cp67 _ _ hm;try simp only[G5]at hm|refine J6 ?_ hm|refine Q7 ?_ hm|refine U0 ?_ hm|refine P5 hm (k:=?_);clear hm;intro _ hm;try simp only[G5]at hm|refine D8 ?_|refine D6 ?_|refine O0 ?_|refine N7 ?_|refine J8 ?_|refine O6 ?_|refine G6 ?_|refine F5 ?_|refine O9 ?_|refine D5 ?_|refine A0z ?_|(refine O3 (h1:=fun _=>?_) (h0:=fun _=>?_)<;>try first|contradiction|omega)|refine E5 ?_|refine A7 ?_|refine D7 ?_|refine E8 ?_|refine A8 ?_|refine F6 ?_|refine G7 ?_|refine H5 ?_|refine F7 ?_|(refine C9 (ht:=fun _=>?_) (hf:=fun _=>?_)<;>try first|contradiction|omega)|refine A0x ?_|refine N8 ?_)
    all_goals
     refine L6 (⟨k+1,I3,a67,cp67,xs1++A2H y.kind y.name y.at_ 0 false y.e ea ec (.slice a56 t1.length cp56) (.slice a61 t2.length cp61) y.fr y.to,m3⟩:WtX) (by exact⟨rfl,rfl,rfl,rfl,rfl,rfl,trivial⟩) ⟨(hm.perm (.swap _ _ _)).tl,(hle1.trans hleI2).trans hleI3,?_,by dsimp only;rw[hstp],by dsimp only;omega⟩ (by dsimp only;omega)
     dsimp only
     rw[hstp];exact(V4.le (hleI2.trans hleI3) _ _ hxs).snoc (A6n.of ((hr3.le hle1).le (hleI2.trans hleI3)) (Z7.le (hleI2.trans hleI3) _ _ (Z7.le hle1 _ _ hx3)) (hr56.le hleI3) (V4.le hleI3 _ _ hx56) hr61 hx61)
  ·rw[if_neg k1]at hpre hstp
   rw[if_neg k1]at hstp;have ho:(if y.kind=1 then false else y.opn)=y.opn:=by
    split
    ·rename_i h
     cases ho:y.opn with
     |true=>exact absurd ⟨h,ho⟩ k1
     |false=>rfl
    ·rfl
   rw[ho]at hstp;have hmn:=A6U give y.els (A1c give y.thn m1).2;have hT:=fun (J:P8) (q:Le I1 J)=>ih y.thn (by omega) s2 s3 m1 (by omega) J a1' c1 bc xs1' (hgi.le q) ((hr4.le hle1).le q) (V4.le q _ _ (V4.le hle1 _ _ hx4))
   have hL:=fun (J:P8) (q:Le I1 J)=>ih y.els (by omega) s4 s5 (A1c give y.thn m1).2 (by omega) J a2' c2 bc xs2' (hgi.le q) ((hr5.le hle1).le q) (V4.le q _ _ (V4.le hle1 _ _ hx5))
   have hl1:=A7L give y.thn m1;have hl2:=A7L give y.els (A1c give y.thn m1).2;generalize A1c give y.thn m1=r1 at hT hL hl1 hl2 hstp hpre;obtain⟨t1,m2⟩:=r1;dsimp only at hT hL hl1 hl2 hstp hpre;generalize A1c give y.els m2=r2 at hL hl2 hstp hpre;obtain⟨t2,m3⟩:=r2;dsimp only at hL hl2 hstp hpre;rcases Nat.decEq y.kind 1 with kk|kk
   all_goals
    repeat' (first|refine O7 (d:=14) ?_ (hr:=hrow);intro bt ot hpt;rw[show ((k:Int).toNat *15)=k *15 from rfl,hcs]at hpt|refine A2y (id:=10) (hm.perm pm1_1) [0,1,2,3,5,6,7,8] 11 (h:=?_);clear hm;intro wd hR hm|refine A4f (d:=56) hm (by rfl) (by rfl) (by rfl) pm1_0 (hT I1 (Le.refl _)) ?_;clear hm;rintro _ I2 _ _ ⟨rfl,a56,cp56,x56,rfl,hr56,hx56⟩ hleI2 hm;try simp only[G5]at hm|refine A4f (d:=61) hm (by rfl) (by rfl) (by rfl) pm1_0 (hL I2 hleI2) ?_;clear hm;rintro _ I3 _ _ ⟨rfl,a61,cp61,x61,rfl,hr61,hx61⟩ hleI3 hm;try simp only[G5]at hm|refine A1I (i:=4) ?_ (by decide+kernel)|refine A7n [10] (by decide+kernel) hm.kept ?_|refine A9F ?_|refine A1I (i:=9) ?_ (by decide+kernel)|refine A6S (by decide+kernel) ?_;replace hm:=hR.back hm;clear hR;try simp only[G5]at hm|refine A0k ?_ hR|refine Y2 (d:=9) ?_ hm;clear hm;intro b9 _ hm|refine A2P (d:=67) ?_ hm;clear hm;intro a67 cp67 _ _ hm;try simp only[G5]at hm|refine J6 ?_ hm|refine Q7 ?_ hm|refine U0 ?_ hm|refine P5 hm (k:=?_);clear hm;intro _ hm;try simp only[G5]at hm|refine D8 ?_|refine D6 ?_|refine O0 ?_|refine N7 ?_|refine J8 ?_|refine O6 ?_|refine G6 ?_|refine F5 ?_|refine O9 ?_|refine D5 ?_|refine A0z ?_|(refine O3 (h1:=fun _=>?_) (h0:=fun _=>?_)<;>try first|contradiction|omega)|refine E5 ?_|refine A7 ?_|refine D7 ?_|refine E8 ?_|refine A8 ?_|refine F6 ?_|refine G7 ?_|refine F7 ?_|(refine C9 (ht:=fun _=>?_) (hf:=fun _=>?_)<;>try first|contradiction|omega)|refine A2e (ht:=fun _=>?_) (hf:=fun _=>?_)|refine A0x ?_|refine N8 ?_)
    all_goals try (exfalso;first|omega|contradiction|exact k1 ⟨kk,by assumption⟩)
    all_goals
     refine L6 (⟨k+1,I3,a67,cp67,xs1++A2H y.kind y.name y.at_ y.label y.opn y.e ea ec (.slice a56 t1.length cp56) (.slice a61 t2.length cp61) y.fr y.to,m3⟩:WtX) (by exact⟨rfl,rfl,rfl,rfl,rfl,rfl,trivial⟩) ⟨(hm.perm (.swap _ _ _)).tl,(hle1.trans hleI2).trans hleI3,?_,by dsimp only;rw[hstp],by dsimp only;omega⟩ (by dsimp only;omega)
     dsimp only
     rw[hstp];exact(V4.le (hleI2.trans hleI3) _ _ hxs).snoc (A6n.of ((hr3.le hle1).le (hleI2.trans hleI3)) (Z7.le (hleI2.trans hleI3) _ _ (Z7.le hle1 _ _ hx3)) (hr56.le hleI3) (V4.le hleI3 _ _ hx56) hr61 hx61)
 ·obtain rfl:k=l.length:=by omega
  rw[V7]at hxs hm1;subst hm1;repeat' (first|refine D8 ?_|refine D6 ?_|refine J8 ?_|refine E5 ?_|refine A7 ?_|refine H6 ?_|refine G9 ?_|refine E8 ?_|refine A8 ?_|refine O8 ?_|refine J3 ?_|refine J7 ?_|(refine C9 (ht:=fun _=>?_) (hf:=fun _=>?_)<;>try first|contradiction|omega))
  obtain⟨I2,hle2,hm2,hr2⟩:=(hm.perm (.swap _ _ _)).freeze;have hl:=A7L give l m;exact⟨I2,_,⟨rfl,a1,cp1,xs1,by rw[hl],by rw[hl];exact hr2,V4.le hle2 _ _ hxs⟩,hm2⟩
section
variable {src:List UInt8}{its:List Sp.Itm}{a:Option Addr}{cp:Nat}{xs:List Value}
structure OfX where
 k:Nat
 I:P8
theorem D3Z (I:P8) (h:FE I its a cp xs) (hA:Sp.AllOk src its):
  CalM prog 17 #[.agg [.slice a its.length cp].toArray] I [] (fun v _ H'=>H'= []/\∃b,v=.bool b):=by
 refine CalM.of fun w E hm=>enter (N:=25) func17 rfl [(0,.agg [.slice a its.length cp].toArray)] A0Z rfl ?_
 have hfew:=hA.few;repeat' (first|refine A0U 1 ?_|refine A0T (d:=1) ?_ hm;clear hm;intro b1 _ hm|refine D6 ?_|refine E5 ?_|refine A7 ?_|refine E8 ?_|refine A8 ?_)
 obtain⟨I2,hle2,hm2,hpf⟩:=hm.freezeO;clear hm;have hm:=hm2;clear hm2;refine⟨?_⟩
 repeat' (first|refine J9 ?_ hm|refine D8 ?_|refine G6 ?_|refine D5 ?_|refine E5 ?_|refine A7 ?_|refine A8 ?_|refine F6 ?_)
 refine U3 (fun x:OfX=> [(1,ptr b1),(6,.slice a its.length cp),(7,nt its.length),(8,nt x.k)])
  (fun x w'=>Mem E x.I [] w'/\Le I2 x.I/\x.k<=its.length) (fun x=>its.length-x.k) ⟨0,I2⟩
  (by exact⟨rfl,rfl,rfl,rfl,trivial⟩) ⟨hm,Le.refl _,H9 _⟩ ?_
 clear hm;rintro⟨k,I3⟩ w3 ⟨hm,hle3,hk⟩;dsimp only at hm hle3 hk |-;have hpf3:=hpf.le hle3;have q3:=(h.le hle2).le hle3;have hri:=q3.row;by_cases hlt:k<its.length
 ·have hg:its[k]?=some its[k]:=F9 hlt
  have hD:=fun (J:P8) (m:Le I3 J)=>C7q k hlt J (q3.le m) hA.len hA.nm
  obtain⟨cs,hcs,hat,_⟩:=q3.get hg;generalize its[k]=it at hg hat
  obtain⟨pa,pc,sa9,sc9,ba,bc9,da9,dc9,xb,rfl,_⟩:=hat
  repeat' (first|refine O7 (d:=11) ?_ (hr:=hri);intro bt ot hpt;rw[show ((k:Int).toNat *10)=k *10 from rfl,hcs]at hpt|refine U0 (d:=18) ?_ hm (hp:=hpf3)|refine F8 (d:=20) ?_ hm (hp:=pm0) (hc:=hD I3 (Le.refl _));clear hm;rintro _ I4 _ _ ⟨rfl,da,dp,rfl,hrow⟩ hleI4 hm;try simp only[G5]at hm|refine X8 (d:=4) ?_ hm;clear hm;intro b4 _ hm|refine J6 ?_ hm|refine U0 ?_ hm|refine P6 ?_ hm;clear hm;intro _ hm;try simp only[G5]at hm|refine D8 ?_|refine D6 ?_|refine O0 ?_|refine N7 ?_|refine J8 ?_|refine A1H ?_|refine G6 ?_|refine O9 ?_|refine D5 ?_|refine A0z ?_|(refine O3 (h1:=fun _=>?_) (h0:=fun _=>?_)<;>try first|contradiction|omega)|refine E5 ?_|refine A7 ?_|refine H8 ?_|refine D7 ?_|refine O5 ?_|refine E8 ?_|refine A8 ?_|refine F6 ?_|refine G7 ?_|refine J3 ?_|refine J7 ?_|refine H5 ?_|(refine C9 (ht:=fun _=>?_) (hf:=fun _=>?_)<;>try first|contradiction|omega))
  all_goals first
   |exact⟨_,[],⟨rfl,_,rfl⟩,hm.left (H:= [])⟩
   |exact L6 (⟨k+1,I4⟩:OfX) (by exact⟨rfl,rfl,rfl,rfl,trivial⟩) ⟨hm.left (H:= []),hle3.trans hleI4,by dsimp only;omega⟩ (by dsimp only;omega)
   |exact L6 (⟨k+1,I3⟩:OfX) (by exact⟨rfl,rfl,rfl,rfl,trivial⟩) ⟨hm.left (H:= []),hle3,by dsimp only;omega⟩ (by dsimp only;omega)
 ·obtain rfl:k=its.length:=by omega
  repeat' (first|refine D6 ?_|refine J8 ?_|refine E5 ?_|refine A7 ?_|refine H6 ?_|refine G9 ?_|refine E8 ?_|refine A8 ?_|refine O8 ?_|refine J3 ?_|refine J7 ?_|(refine C9 (ht:=fun _=>?_) (hf:=fun _=>?_)<;>try first|contradiction|omega))
  exact⟨I3,[],⟨rfl,_,rfl⟩,hm⟩
end
theorem D3W (I:P8) (hC:Conv I):CalM prog 15 #[] I [] (fun v _ H'=>v=.bool true/\H'= []):=by
 refine CalM.of fun w E hm=>enter (N:=58) func15 rfl [] C1Y rfl ?_
 have h1:=fun (J:P8) (m:Le I J)=>A9R A4N J (hC.le m) (by decide)
 rw[C46]at h1;obtain⟨g1,g2,_⟩:=C2A A4N;have l1:=B3C;have hbad:=C44;have hlabs:= @C2P;generalize G8 A4N=its at h1 g1 g2 l1 hbad hlabs;have hA:=fun (J:P8) (a cp xs) (h:FE J its a cp xs)=>C2M g2 g1 J a cp xs h
 have hS:=fun (J:P8) (a cp xs) (h:FE J its a cp xs)=>B2w J h g2 (fun x hx=>(g1 x hx).toItF)
 repeat' (first|refine F8 (d:=5) ?_ hm (hp:=pm0) (hc:=h1 I (Le.refl _));clear hm;rintro _ I2 _ _ ⟨a,cp,xs,rfl,hrow,hits,rfl⟩ hleI2 hm;try simp only[G5]at hm;have q1:=A7Y hrow hits (by omega)|refine F8 (d:=9) ?_ hm (hp:=pm0) (hc:=hA I2 _ _ _ q1);clear hm;rintro _ I3 _ _ ⟨rfl,ra,rp,rx,r,hr,rfl,hrr,hrx⟩ hleI3 hm;try simp only[G5]at hm|refine A0U 3 ?_|refine Y2 (d:=1) ?_ hm;clear hm;intro b1 _ hm|refine Y2 (d:=3) ?_ hm;clear hm;intro b3 _ hm|refine Q7 ?_ hm|refine D8 ?_|refine D6 ?_|refine Y8 ?_|refine E5 ?_|refine A7 ?_|refine E8 ?_|refine A8 ?_)
 all_goals try first|omega|contradiction
 obtain⟨r1,r2,it,x,r3,r4,r5,r6,r7⟩:=hlabs hr;obtain⟨k1,k2⟩:=C20 hr g1 g2;have q3:=A7Y hrr hrx (by omega);have hS2:=fun (J:P8) (m:Le I3 J)=>B2w J (q3.le m) k2 (fun x hx=>(k1 x hx).toItF)
 obtain⟨ci,hci,hat,_⟩:=q3.get r3;rw[A14]at hci;obtain⟨pa,pc,sa9,sc9,ba,bc9,da9,dc9,xb,rfl,_,_,hrb,hbs,_⟩:=hat
 obtain⟨cs,hcs⟩:∃cs,(xb.drop (0 *15)).take 15=cs:=⟨_,rfl⟩;have hax:=hbs.get r5;rw[hcs]at hax;rw[A14]at hcs;obtain⟨ea,ec,ex,a1',c1,xs1,a2',c2,xs2,rfl,_⟩:=hax.out;rw[r6,r7]at hcs;rw[r4]at hrb hci;rw[r1]at hrr hm hS2;refine⟨?_⟩
 repeat' (first|refine O7 (t:=23) ?_ (hr:=hrr);intro bt ot hpt;rw[show (((0:Int).toNat *10))=0 from rfl,hci]at hpt|refine O7 (t:=41) ?_ (hr:=hrb);intro bu ou hpu;rw[show (((0:Int).toNat *15))=0 from rfl,hcs]at hpu|refine F8 (d:=51) ?_ hm (hp:=pm0) (hc:=hS I3 _ _ _ (q1.le hleI3));clear hm;rintro _ I4 _ _ ⟨rfl,sb1,rfl,hsb1⟩ hleI4 hm;try simp only[G5]at hm;have:sb1=false:=(by cases sb1;rfl;exact absurd (hsb1.1 rfl) hbad);subst this|refine F8 (d:=56) ?_ hm (hp:=pm0) (hc:=hS2 I4 hleI4);clear hm;rintro _ I5 _ _ ⟨rfl,sb2,rfl,hsb2⟩ hleI5 hm;try simp only[G5]at hm;have:=hsb2.2 r2;subst this|refine J6 ?_ hm|refine J9 ?_ hm|refine Q7 ?_ hm|refine D8 ?_|refine D6 ?_|refine O0 ?_|refine O6 ?_|refine G6 ?_|refine A0h ?_|refine D5 ?_|refine E5 ?_|refine A7 ?_|refine A8 ?_|refine J3 ?_|refine J7 ?_)
 all_goals try first|omega|contradiction
 all_goals exact⟨I5,[],⟨rfl,rfl⟩,hm.left (H:= [])⟩
structure IlX where
 b:Bool
 I:P8
structure IlY where
 k:Nat
 I:P8
 a:Option Addr
 cp:Nat
 xs:List Value
 m:Nat
structure IlZ where
 k:Nat
 I:P8
theorem D8M {a b c d:HItem}: [a,b,c,d].Perm ([c,d,a]++ [b]):=A1o (l₁:= [a,b]) (l₂:= [c,d])
theorem sp_ileast (s:List UInt8) (give:List Int) (ga:Option Addr) (gc:Nat) (I:P8) (hs:s.length<=9223372036854775807) (hgl:give.length<=1000000000000) (hC:Conv I) (hg9:RowI I 3 1 (.slice ga give.length gc) give.length (C49 give)):
  CalM prog 4 #[str s,.slice ga give.length gc] I [] (fun v _ H'=>v=.bool true/\H'= []):=by
 refine CalM.of fun w E hm=>enter (N:=107) func4 rfl [(0,str s),(1,.slice ga give.length gc)] A1x rfl ?_
 have hg0:RowI I 3 1 (.slice ga give.length gc) give.length (give.flatMap C2n):=by rw[B9p];exact hg9
 have hAl:=D3W I hC;have hF:=fun (J:P8) (m:Le I J)=>A9R s J (hC.le m) hs
 obtain⟨g1,g2,few1⟩:=C2A s;have hbod:=D0I s;have hcnt:=(C2z s).1;have hok:= @A8q s;generalize Y1 s=er at hF hok;generalize G8 s=its at hF g1 g2 few1 hok hbod hcnt;by_cases h0:er≠0
 ·skip
  repeat' (first|refine F8 (d:=16) ?_ hm (hp:=pm0) (hc:=hAl);clear hm;rintro _ I1 _ _ ⟨rfl,rfl⟩ hleI1 hm;try simp only[G5]at hm|refine F8 (d:=20) ?_ hm (hp:=pm0) (hc:=hF I1 hleI1);clear hm;rintro _ I2 _ _ ⟨a,cp,xs,rfl,hrow,hits,rfl⟩ hleI2 hm;try simp only[G5]at hm|refine Y2 (d:=5) ?_ hm;clear hm;intro b5 _ hm|refine D8 ?_|refine D6 ?_|refine O0 ?_|refine A0w ?_|refine A0h ?_|refine Y8 ?_|refine A0z ?_|(refine O3 (h1:=fun _=>?_) (h0:=fun _=>?_)<;>try first|contradiction|omega)|refine E5 ?_|refine A7 ?_|refine H8 ?_|refine E8 ?_|refine A8 ?_|refine G7 ?_|refine J3 ?_|refine J7 ?_|refine H5 ?_|refine F7 ?_)
  all_goals exact⟨I2,[],⟨rfl,rfl⟩,hm.left (H:= [])⟩
 obtain rfl:er=0:=by omega
 have hA:=hok rfl;repeat' (first|refine F8 (d:=16) ?_ hm (hp:=pm0) (hc:=hAl);clear hm;rintro _ I1 _ _ ⟨rfl,rfl⟩ hleI1 hm;try simp only[G5]at hm|refine F8 (d:=20) ?_ hm (hp:=pm0) (hc:=hF I1 hleI1);clear hm;rintro _ I2 _ _ ⟨a,cp,xs,rfl,hrow,hits,rfl⟩ hleI2 hm;try simp only[G5]at hm|refine A0U 4 ?_|refine Y2 (d:=5) ?_ hm;clear hm;intro b5 _ hm|refine D8 ?_|refine D6 ?_|refine A0h ?_|refine Y8 ?_|refine E5 ?_|refine A7 ?_|refine E8 ?_|refine A8 ?_|refine G7 ?_|refine F7 ?_)
 have q1:FE I2 its a cp xs:=A7Y hrow hits (by omega);obtain⟨I3,hle3,hm3,hpf⟩:=hm.freezeO;clear hm;have hm:=hm3;clear hm3;have q3:=q1.le hle3;have hg3:=hg0.le ((hleI1.trans hleI2).trans hle3);have hD:=B5Z I3 q3 hA;have hO:=fun (J:P8) (m:Le I3 J)=>D3Z J (q3.le m) hA
 refine⟨D7o 4 (fun x:IlX=> [(1,.slice ga give.length gc),(5,ptr b5),(35,.bool x.b)]) (fun x w'=>Mem E x.I [] w'/\Le I3 x.I) ?_ ?_⟩
 ·skip
  repeat' (first|refine U0 (d:=26) ?_ hm (hp:=hpf)|refine F8 (d:=27) ?_ hm (hp:=pm0) (hc:=hD);clear hm;rintro _ I4 _ _ ⟨rfl,da,dp,rfl,hdr⟩ hleI4 hm;try simp only[G5]at hm|refine U0 (d:=31) ?_ hm (hp:=hpf.le hleI4)|refine F8 (d:=32) ?_ hm (hp:=pm0) (hc:=hO I4 hleI4);clear hm;rintro _ I5 _ _ ⟨rfl,b,rfl⟩ hleI5 hm;try simp only[G5]at hm|refine D8 ?_|refine O0 ?_|refine N7 ?_|refine A1H ?_|refine A0w ?_|refine G6 ?_|refine A0h ?_|refine A0z ?_|(refine O3 (h1:=fun _=>?_) (h0:=fun _=>?_)<;>try first|contradiction|omega)|refine E5 ?_)
  all_goals first
   |exact A0V (⟨_,I5⟩:IlX) (by exact⟨rfl,rfl,rfl,trivial⟩) ⟨hm.left (H:= []),hleI4.trans hleI5⟩
   |exact A0V (⟨_,I4⟩:IlX) (by exact⟨rfl,rfl,rfl,trivial⟩) ⟨hm.left (H:= []),hleI4⟩
 clear hm;rintro⟨b,I5⟩ w5 ⟨hm,hle5⟩;dsimp only at hm hle5 |-;cases b with
 |true=>
  repeat' (first|refine D6 ?_|refine E5 ?_|refine A7 ?_|refine H8 ?_|refine E8 ?_|refine A8 ?_|refine J3 ?_|refine J7 ?_|refine H5 ?_)
  exact⟨I5,[],⟨rfl,rfl⟩,hm⟩
 |false=>
 have hpf5:=hpf.le hle5;repeat' (first|refine D1l (d:=7) ?_ hm;clear hm;intro b7 _ hm|refine Y2 (d:=8) ?_ hm;clear hm;intro b8 _ hm|refine J9 ?_ hm|refine D8 ?_|refine G6 ?_|refine D5 ?_|refine Y0 ?_|refine E5 ?_|refine A7 ?_|refine E8 ?_|refine A8 ?_|refine F6 ?_|refine G7 ?_|refine F7 ?_)
 have hm:=(hm.nil 43 10).swap;refine U3 (fun x:IlY=> [(1,.slice ga give.length gc),(5,ptr b5),(7,ptr b7),(8,ptr b8),(38,.slice a its.length cp),(39,nt its.length),(40,nt x.k)])
  (fun x w'=>Mem E x.I [.cell b8 [.slice x.a x.k x.cp] 25,B14 x.k x.a x.cp x.xs,.cell b7 [nt x.m] 3] w'/\Le I5 x.I/\x.k<=its.length/\x.m=B6l give (its.take x.k) 0/\A4W x.I (A4w give (its.take x.k) 0) x.xs) (fun x=>its.length-x.k) ⟨0,I5,none,0,[],0⟩
  (by exact⟨rfl,rfl,rfl,rfl,rfl,rfl,rfl,trivial⟩) ⟨hm,Le.refl _,H9 _,rfl,rfl⟩ ?_
 clear hm;rintro⟨k,I6,ra,rp,rx,m⟩ w6 ⟨hm,hle6,hk,hmk,hits6⟩;dsimp only at hm hle6 hk hmk hits6 |-;have q6:=(q3.le hle5).le hle6;have hri:=q6.row;have hpf6:=hpf5.le hle6;have hg6:=(hg3.le hle5).le hle6;by_cases hlt:k<its.length
 ·have hg:its[k]?=some its[k]:=F9 hlt
  obtain⟨st1,st2⟩:=C0e (give:=give) hg 0;have hIt:=g1 _ (O1 hlt);have hc1:=hcnt _ (O1 hlt);have hw1:=C78 (give:=give) (its.take k) 0 (fun x hx=>(hcnt x (A7D hx)).2);rw[P9,A1O hk, <-hmk]at hw1;rw[<-hmk]at st1 st2;obtain⟨cs,hcs,hat,_⟩:=q6.get hg;generalize its[k]=it at hg hat hIt hc1 st1 st2;have hbn:=hIt.small.body;have hlw:=A7L give it.body m;have hcw:=B0t give it.body m;obtain⟨ap,cpp,as_,cs',ab,cb,ad,cd,xb,rfl,r1,r2,r3,r4,r5⟩:=hat
  have hW:=fun (J:P8) (q:Le I6 J)=>D30 give hgl _ it.body (H7 _) (by omega) hIt.small.stms m (by omega) J ab cb b7 xb (hg6.le q) (r3.le q) (V4.le q _ _ r4)
  generalize A1c give it.body m=wr at hW hlw st1 st2;obtain⟨wl,m2⟩:=wr;dsimp only at hW hlw st1 st2;repeat' (first|refine O7 (d:=42) ?_ (hr:=hri);intro bt ot hpt;rw[show ((k:Int).toNat *10)=k *10 from rfl,hcs]at hpt|refine F8 (d:=47) ?_ hm (hp:=pm1_3) (hc:=hW I6 (Le.refl _));clear hm;rintro _ I7 _ _ ⟨rfl,a47,cp47,x47,rfl,hr47,hx47⟩ hleI7 hm;try simp only[G5]at hm|refine Y2 (d:=10) ?_ hm;clear hm;intro b10 _ hm|refine A2P (d:=53) ?_ hm;clear hm;intro a53 cp53 _ _ hm;try simp only[G5]at hm|refine J6 ?_ hm|refine Q7 ?_ hm|refine U0 ?_ hm|refine P5 hm (k:=?_);clear hm;intro _ hm;try simp only[G5]at hm|refine D8 ?_|refine J8 ?_|refine O9 ?_|refine D5 ?_|refine E5 ?_|refine A7 ?_|refine D7 ?_|refine E8 ?_|refine A8 ?_|refine F6 ?_|refine G7 ?_|(refine C9 (ht:=fun _=>?_) (hf:=fun _=>?_)<;>try first|contradiction|omega))
  have hit:A67 I7 { it with body:=wl} (A1J it.kind it.name it.label (.slice ap it.params.length cpp) (.slice as_ it.sends.length cs') (.slice a47 wl.length cp47) it.at_ it.size it.mark (.slice ad it.diags.length cd)):=
   ⟨ap,cpp,as_,cs',a47,cp47,ad,cd,x47,rfl,r1.le hleI7,r2.le hleI7,hr47,hx47,r5.le hleI7⟩
  refine L6 (⟨k+1,I7,a53,cp53,_,m2⟩:IlY) (by exact⟨rfl,rfl,rfl,rfl,rfl,rfl,rfl,trivial⟩) ⟨(hm.perm D8M).left,hle6.trans hleI7,by dsimp only;omega,by dsimp only;exact st1.symm,by dsimp only;rw[st2];exact(hits6.le hleI7).snoc hit⟩ (by dsimp only;omega)
 obtain rfl:k=its.length:=by omega
 rw[V7]at hmk hits6;clear hmk;obtain⟨w1,w2⟩:=C6x (give:=give) 0 g1 g2;have hgl1:=B8A give its 0;have hinf:=fun (r:List Sp.Itm) (h:B4S its r)=>C2Q h (give:=give) (n:=0) (fun x hx=>(g1 x hx).lets) hbod
 generalize A4w give its 0=g at hits6 w1 w2 hgl1 hinf;obtain⟨I7,hle7,hm7,hgr⟩:=hm.swap.freeze;clear hm;obtain⟨I8,hle8,hm8,hpg⟩:=hm7.freezeO;clear hm7;have hm:=hm8.left (H:= []);clear hm8;have hle68:=hle7.trans hle8;have qg:FE I8 g ra rp rx:=⟨by rw[hgl1];exact hgr.le hle8,hits6.le hle68,by omega⟩;have hpf8:=hpf6.le hle68;have q8:=q6.le hle68;have hS1:=B2w I8 qg w2 (fun x hx=>(w1 x hx).toItF);rw[hgl1]at hS1;have hL:=fun (J:P8) (q:Le I8 J)=>C2M g2 g1 J a cp xs (q8.le q)
 repeat' (first|refine U0 (d:=56) ?_ hm (hp:=hpg)|refine F8 (d:=57) ?_ hm (hp:=pm0) (hc:=hS1);clear hm;rintro _ I9 _ _ ⟨rfl,sb,rfl,hsb⟩ hleI9 hm;try simp only[G5]at hm;cases sb|refine A0U 16 ?_|refine D6 ?_|refine J8 ?_|refine A0h ?_|refine E5 ?_|refine A7 ?_|refine H8 ?_|refine H6 ?_|refine G9 ?_|refine E8 ?_|refine A8 ?_|refine G7 ?_|refine O8 ?_|refine J3 ?_|refine J7 ?_|refine H5 ?_|refine F7 ?_|(refine C9 (ht:=fun _=>?_) (hf:=fun _=>?_)<;>try first|contradiction|omega))
 ·exact⟨I9,[],⟨rfl,rfl⟩,hm.left (H:= [])⟩
 have hsg:=hsb.1 rfl;have hpf9:=hpf8.le hleI9;refine⟨?_⟩
 repeat' (first|refine U0 (d:=59) ?_ hm (hp:=hpf9)|refine F8 (d:=60) ?_ hm (hp:=pm0) (hc:=hL I9 hleI9);clear hm;rintro _ I10 _ _ ⟨rfl,ra2,rp2,rx2,r,hr,rfl,hrr,hrx⟩ hleI10 hm;try simp only[G5]at hm|refine A0U 17 ?_|refine Y2 (d:=11) ?_ hm;clear hm;intro b11 _ hm|refine E5 ?_|refine A7 ?_|refine E8 ?_|refine A8 ?_)
 obtain⟨hsr,hflw⟩:=hinf r hr hsg;have hlen:=hr.len;obtain⟨k1,k2⟩:=C20 hr g1 g2;have qr:=A7Y hrr hrx (by omega);obtain⟨I11,hle11,hm11,hph⟩:=hm.freezeO;clear hm;have hm:=hm11;clear hm11;have qr11:=qr.le hle11;have l811:=(hleI9.trans hleI10).trans hle11;have qg11:=qg.le l811;have hpg11:=hpg.le l811;have hS2:=B2w I11 qr11 k2 (fun x hx=>(k1 x hx).toItF);refine⟨?_⟩
 repeat' (first|refine U0 (d:=61) ?_ hm (hp:=hph)|refine F8 (d:=62) ?_ hm (hp:=pm0) (hc:=hS2);clear hm;rintro _ I12 _ _ ⟨rfl,sb2,rfl,hsb2⟩ hleI12 hm;try simp only[G5]at hm;have hs2:=hsb2.2 hsr;subst hs2;have hph12:=hph.le hleI12|refine J9 ?_ hm|refine D8 ?_|refine G6 ?_|refine A0h ?_|refine D5 ?_|refine E5 ?_|refine A7 ?_|refine E8 ?_|refine A8 ?_|refine F6 ?_|refine G7 ?_|refine F7 ?_)
 refine U3 (fun x:IlZ=> [(8,ptr b8),(11,ptr b11),(66,nt r.length),(67,nt x.k)]) (fun x w'=>Mem E x.I [] w'/\Le I12 x.I/\x.k<=r.length) (fun x=>r.length-x.k) ⟨0,I12⟩
  (by exact⟨rfl,rfl,rfl,rfl,trivial⟩) ⟨hm.left (H:= []),Le.refl _,H9 _⟩ ?_
 clear hm;rintro⟨k,I13⟩ w13 ⟨hm,hle13,hk⟩;dsimp only at hm hle13 hk |-;have l1113:=hleI12.trans hle13;have hphk:=hph.le l1113;have hpgk:=hpg11.le l1113;have qrk:=qr11.le l1113;have qgk:=qg11.le l1113;by_cases hlt:k<r.length
 ·have hg1:r[k]?=some r[k]:=F9 hlt
  have hltg:k<g.length:=by omega
  have hg2:g[k]?=some g[k]:=F9 hltg;have hfl:=hflw k _ _ hg1 hg2;have i1:=k1 _ (O1 hlt);have i2:=w1 _ (O1 hltg);obtain⟨cs,hcs,hat,_⟩:=qrk.get hg1;obtain⟨ds,hds,hbt,_⟩:=qgk.get hg2;generalize r[k]=x1 at hg1 hfl i1 hat
  generalize g[k]=x2 at hg2 hfl i2 hbt;have n1:=B0a x1.body;have n2:=B0a x2.body;have c1:=i1.cnt;have c2:=i2.cnt;have z1:=A99 _ i1.body;have z2:=A99 _ i2.body;have s1:=i1.small.body;have s2:=i2.small.body;obtain⟨ap,cpp,as_,cs',ab,cb,ad,cd,xb,rfl,_,_,u3,u4,_⟩:=hat
  obtain⟨ap2,cpp2,as2,cs2,ab2,cb2,ad2,cd2,xb2,rfl,_,_,v3,v4,_⟩:=hbt;have hL1:=fun (J:P8) (q:Le I13 J)=>B9u _ x1.body (H7 _) (by omega) i1.small.stms (by omega) J ab cb xb (u3.le q) (V4.le q _ _ u4)
  have hL2:=fun (J:P8) (q:Le I13 J)=>B9u _ x2.body (H7 _) (by omega) i2.small.stms (by omega) J ab2 cb2 xb2 (v3.le q) (V4.le q _ _ v4)
  have hAB:=hfl.len;have hget:=fun (i v:Nat) (h:(A2I x1.body)[i]?=some v)=>hfl.get h
  generalize A2I x1.body=A at hL1 n1 z1 hAB hget;generalize A2I x2.body=B at hL2 n2 z2 hAB hget;have hrir:=qrk.row;have hrig:=qgk.row;rw[hgl1]at hrig;repeat' (first|refine A2y (id:=22) (hm.perm pm0) [0,1,2,3,4,5,7,8,9,10,11,12] 15 (h:=?_);clear hm;intro wd hR hm|refine A04 (d:=73) ?_ (hr:=hrir);intro bt ot hpt;rw[show ((k:Int).toNat *10)=k *10 from rfl,hcs]at hpt|refine A04 (d:=80) ?_ (hr:=hrig);intro bu ou hpu;rw[show ((k:Int).toNat *10)=k *10 from rfl,hds]at hpu|refine A4f (d:=76) hm (by rfl) (by rfl) (by rfl) pm0 (hL1 I13 (Le.refl _)) ?_;clear hm;rintro _ I14 _ _ ⟨rfl,a76,c76,rfl,hr76⟩ hleI14 hm;try simp only[G5]at hm|refine A4f (d:=83) hm (by rfl) (by rfl) (by rfl) pm0 (hL2 I14 hleI14) ?_;clear hm;rintro _ I15 _ _ ⟨rfl,a83,c83,rfl,hr83⟩ hleI15 hm;try simp only[G5]at hm|refine A1I (i:=6) ?_ (by decide+kernel)|refine A1I (i:=13) ?_ (by decide+kernel)|refine A7n [14] (by decide+kernel) hm.kept ?_|refine A9F ?_|refine A6S (by decide+kernel) ?_;replace hm:=hR.back hm;clear hR;try simp only[G5]at hm|refine A0G ?_ hR|refine D8 ?_|refine D6 ?_|refine J8 ?_|refine G6 ?_|refine E5 ?_|refine A7 ?_|refine E8 ?_|refine A8 ?_|refine F6 ?_|refine G7 ?_|(refine C9 (ht:=fun _=>?_) (hf:=fun _=>?_)<;>try first|contradiction|omega)|refine A0x ?_|refine B2p ?_|refine N8 ?_)
  have hr76':=hr76.le hleI15;refine U3 (fun j:Nat=> [(8,ptr b8),(11,ptr b11),(66,nt r.length),(67,nt k),(13,.slice a76 A.length c76),(14,.slice a83 B.length c83),(85,nt A.length),(86,nt j)])
   (fun j w'=>Mem E I15 [] w'/\j<=A.length) (fun j=>A.length-j) 0 (by exact⟨rfl,rfl,rfl,rfl,rfl,rfl,rfl,rfl,trivial⟩) ⟨hm.left (H:= []),H9 _⟩ ?_
  clear hm;rintro j w14 ⟨hm,hj⟩;try dsimp only at hm hj |-
  by_cases hjl:j<A.length
  ·have hgA:A[j]?=some A[j]:=F9 hjl
   obtain⟨v,hgB,hfv⟩:=hget j _ hgA;have e1:=z1 _ (O1 hjl);have e2:=z2 _ (A03 hgB);generalize A[j]=u at hgA hfv e1;have hjB:j<B.length:=by omega
   have hF:CalR prog 22 #[nt u,nt v] I15 [] (.bool true):=⟨fun w _ _=>(B34 u v e1 e2 w).mono (fun v' w' h=>by
    obtain⟨h1,h2⟩:=h;subst h2;rw[hfv]at h1;exact⟨h1,Kept.refl _ _⟩)⟩
   repeat' (first|refine A0P (d:=102) ?_ hm (hc:=hF)|refine A0i (d:=96) (enc:=B3u) (z:=u) ?_ (hr:=hr76') (he:=fun _=>rfl) (hz:=by exact hgA);intro bx ox px|refine A0i (d:=100) (enc:=B3u) (z:=v) ?_ (hr:=hr83) (he:=fun _=>rfl) (hz:=by exact hgB);intro by_ oy py|refine A1Q ?_ hm|refine D8 ?_|refine D6 ?_|refine J8 ?_|refine O9 ?_|refine E5 ?_|refine A7 ?_|refine D7 ?_|refine E8 ?_|refine A8 ?_|refine F6 ?_|refine G7 ?_|refine U6 ?_|refine A0s ?_;intro _ hkq;replace hm:=hm.kept0 hkq;clear hkq|refine F7 ?_|(refine C9 (ht:=fun _=>?_) (hf:=fun _=>?_)<;>try first|contradiction|omega)|refine Y4 ?_|refine A0A ?_|refine D8g ?_|refine S9 ?_|refine A83 ?_|(refine X3 (fun _=>?_) (h1:=fun _=>?_)<;>try first|contradiction|omega))
   exact L6 (j+1:Nat) (by exact⟨rfl,rfl,rfl,rfl,rfl,rfl,rfl,rfl,trivial⟩) ⟨hm,by omega⟩ (by omega)
  obtain rfl:j=A.length:=by omega
  repeat' (first|refine D8 ?_|refine J8 ?_|refine O9 ?_|refine E5 ?_|refine A7 ?_|refine H6 ?_|refine D7 ?_|refine G9 ?_|refine E8 ?_|refine A8 ?_|refine O8 ?_|(refine C9 (ht:=fun _=>?_) (hf:=fun _=>?_)<;>try first|contradiction|omega))
  exact L6 (⟨k+1,I15⟩:IlZ) (by exact⟨rfl,rfl,rfl,rfl,trivial⟩) ⟨hm,(hle13.trans hleI14).trans hleI15,by dsimp only;omega⟩ (by dsimp only;omega)
 obtain rfl:k=r.length:=by omega
 repeat' (first|refine D6 ?_|refine J8 ?_|refine E5 ?_|refine A7 ?_|refine H6 ?_|refine G9 ?_|refine E8 ?_|refine A8 ?_|refine O8 ?_|refine J3 ?_|refine J7 ?_|(refine C9 (ht:=fun _=>?_) (hf:=fun _=>?_)<;>try first|contradiction|omega))
 exact⟨I13,[],⟨rfl,rfl⟩,hm⟩
section
variable {src:List UInt8}{its:List Sp.Itm}{a:Option Addr}{cp:Nat}{xs:List Value}
end
end Go.Proofs
