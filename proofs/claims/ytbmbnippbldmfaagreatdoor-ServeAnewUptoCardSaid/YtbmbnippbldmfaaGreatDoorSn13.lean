/- Own work. -/
import Derived.Test.YtbmbnippbldmfaaGreatDoorSn12
import Derived.Shelf.Spec.SearchS
import Derived.Shelf.Spec.SlicesInsert
import Derived.Shelf.Spec.SlicesInsertGrow
set_option maxHeartbeats 64000000
namespace Go.Fw
open Go.Sp
open Go
theorem RowI.take {I:P6}{e sz n m cp:Nat}{a:Option Addr}{xs:List Value} (h:RowI I e sz (.slice a n cp) n xs) (hmn:m<=n):RowI I e sz (.slice a m cp) m (xs.take (m *sz)):=by
 obtain⟨h0,a',cap,h1,h2,h3⟩:=h;obtain⟨rfl,_,rfl⟩:=Value.slice.inj h1;have hle:m *sz<=n *sz:=A3Q _ hmn;refine⟨by rw[Q4];omega,a,cp,rfl,by omega,fun hm=>?_⟩
 obtain⟨b,off,c,fr,e1,e2,e3⟩:=h3 (by omega);refine⟨b,off,c,fr,e1,e2,fun j u hj=>e3 j u ?_⟩
 rw[A1L]at hj;split at hj
 ·exact hj
 ·cases hj
section
variable {P:Program}{N:Nat}{ds:List Deferred}{Q:Exit->Act->World->Prop}{l:Log}{w:World}{ops:Array Oper}{os:List Oper}
variable {d:Nat}{ty:TypeId}{pos:String}{af:Array Edge}{g:Option (Nat×Bool)}{t:TypeId}{x y:Operand}{E:Ent}{I:P6}{H:List HItem}
theorem B1r {e:TypeId}{sz by_:Nat} [TySlice P t e] [Elem P e sz by_] {n m cp:Nat}{a:Option Addr}{xs:List Value} (k:RowI I e sz (.slice a m cp) m (xs.take (m *sz))->WL P N ds ops Q os ((d,.slice a m cp)::l) w) (hr:RowI I e sz (.slice a n cp) n xs)
  (hw:U4 ops l ⟨some d,.slice t x none (some y) none,ty,pos,af,g⟩=some true:=by rfl) (hN:Nat.blt d N=true:=by rfl)
  (hx:ev l x=some (.slice a n cp):=by rfl) (hy:ev l y=some (.int .i64 (m:Int)):=by rfl) (hmn:m<=n:=by omega)
   :
  WL P N ds ops Q (⟨some d,.slice t x none (some y) none,ty,pos,af,g⟩::os) l w:=by
 have h2:n<=cp:=by
  obtain⟨_,a',cap,h1,h2,_⟩:=hr;obtain⟨_,_,rfl⟩:=Value.slice.inj h1;exact h2
 refine U6 (w':=w) (v:=.slice a m cp) rfl hw hN (fun c hc=>?_) (k (hr.take hmn))
 obtain⟨inf,z,hinf,_,hs,_,_,_⟩:=Elem.out (P:=P) (e:=e);have h6:=run_underlying (P:=P) (w:=w) (TySlice.out (P:=P) (t:=t));have h7:m<=cp:=by omega
 rcases a with _|⟨b,off,o⟩
 ·simp[execOp,Instr.sliceAt,Instr.slice,Instr.sliceBounds,Instr.sliceBound,hc.ev hx,hc.ev hy,h6,asIntOf,h7,sizeOf,typeInfo,hinf]
 ·simp[execOp,Instr.sliceAt,Instr.slice,Instr.sliceBounds,Instr.sliceBound,hc.ev hx,hc.ev hy,h6,asIntOf,h7,sizeOf,typeInfo,hinf,Addr.add]
end
section
variable {P:Program}{N:Nat}{ds:List Deferred}{Q:Exit->Act->World->Prop}{l:Log}{w:World}{ops:Array Oper}{os:List Oper}
variable {d:Nat}{ty:TypeId}{pos:String}{af:Array Edge}{g:Option (Nat×Bool)}{t:TypeId}{x y:Operand}{E:Ent}{I:P6}{H:List HItem}
theorem A8y {e:TypeId}{sz by_:Nat} [TySlice P t e] [he:Elem P e sz by_] {b:Option Addr}{n c c2:Nat} (hc:n<=c) (ty:TypeId):
  (Builtin.append_ #[t,t] ty #[.slice b n c,.slice none 0 c2]).run P w=.ok (.slice b n c) w:=by
 obtain⟨i,z,hi,hz,hs,hby,hzc,hpos⟩:=he.out;have ht:=run_underlying (P:=P) (w:=w) (TySlice.out (P:=P) (t:=t));cases b<;>simp[Builtin.append_,Builtin.firstCells,Builtin.lenOf,storeCells,ht,sizeOf,typeInfo,hi,hc]
theorem A9s {e:TypeId}{sz by_:Nat} [TySlice P t e] [Elem P e sz by_] {i n m cp:Nat}{v:Value}{a:Option Addr}{xs ys:List Value} (k:∀a' cp' w',Mem E I (H.set i (.row (.slice a' (n+m) cp') e sz (n+m) (xs++ys))) w'->WL P N ds ops Q os ((d,.slice a' (n+m) cp')::l) w') (hm:Mem E I H w)
  (hw:U4 ops l ⟨some d,.call ⟨.builtin .append, #[x,y], #[t,t]⟩,ty,pos,af,g⟩=some true:=by rfl) (hN:Nat.blt d N=true:=by rfl)
  (hx:ev l x=some v:=by rfl) (hy:ev l y=some (.slice a m cp):=by rfl) (hi:H[i]?=some (.row v e sz n xs):=by first|exact gt0|exact gt1|exact gt2|exact gt3|exact gt4|exact gt5|exact gt6) (hr:RowI I e sz (.slice a m cp) m ys) (h1:∀u∈ys,u.oneCell'=true)
  (hlen:(n+m) *by_<=140737488355328:=by omega) (h63:n+m<=9223372036854775807:=by omega)
   :
  WL P N ds ops Q (⟨some d,.call ⟨.builtin .append, #[x,y], #[t,t]⟩,ty,pos,af,g⟩::os) l w:=by
 have ho:=hm.getRow hi;obtain⟨hl0,a',cap,hv,hmc,h3⟩:=hr;obtain⟨rfl,_,rfl⟩:=Value.slice.inj hv;cases a with
 |none=>
  obtain rfl:m=0:=Classical.byContradiction fun h=>by obtain⟨_,_,_,_,e1,_⟩:=h3 (by omega);cases e1
  obtain rfl:ys= []:=A00 (by simpa using hl0);obtain⟨b,c,rfl⟩:=A3D ho;have hnc:=(B5H ho (G9 _)).2.1;have hm':=hm.turn (h':=.row (.slice b (n+0) c) e sz (n+0) (xs++ [])) hi (Kept.refl _ w) (by rw[A1P,J3];exact hm.ok _ (A0B hi)) (.inl rfl);refine U6 (w':=w) (v:=.slice b n c) rfl hw hN (fun c2 hc=>?_) (k b c w hm')
  have hr:=A8y (P:=P) (t:=t) (w:=w) (e:=e) (b:=b) (c2:=cp) hnc ty;simp[execOp,resolve,invoke,builtin,hc.ev hx,hc.ev hy,hr]
 |some ad=>
  obtain⟨v',w',hr,ho',hk,hb⟩:=A6K (P:=P) (t:=t) ho ad m cp ys hl0 (fun j u hj=>by
    have hm0:0<m:=by
     rcases A4B m with h|h
     ·subst h
      rw[A00 (l:=ys) (by simpa using hl0)]at hj;cases hj
     ·exact h
    obtain⟨b,off,c,fr,e1,e2,e3⟩:=h3 hm0;obtain rfl:=A0Y e1;rw[Addr.add_lit];exact A2j (hm.inv _ _ e2) (e3 j u hj)) h1 h63 hlen (H7 _) ty
  obtain⟨a2,c2,rfl⟩:=A3D ho';refine U6 (w':=w') (v:=.slice a2 (n+m) c2) rfl hw hN (fun c3 hc=>?_) (k a2 c2 w' (hm.turn hi hk ho' (hb.imp_right fun ⟨g,h1,h2⟩=>⟨g,h1,h2⟩)))
  simp[execOp,resolve,invoke,builtin,hc.ev hx,hc.ev hy,hr]
end
abbrev A6X (s:List UInt8):List Value:= [str s]
theorem B5W {w:World}{b o:Nat}{c:Array Value}{e:TypeId}{fr:Nat×Nat}{v:Value} (h:w.heap[b]?=some (.cells c e fr)):(w.setCell ⟨b,o,none⟩ v).heap[b]?=some (.cells (c.setIfInBounds o v) e fr):=by
 simp[World.setCell,A2P,h]
theorem B5X (w:World) (b o:Nat) (v:Value):Kept [b] w (w.setCell ⟨b,o,none⟩ v):=
 ⟨rfl,rfl,rfl,by simp[World.setCell],fun k _ hk=>by
  have:b≠k:=fun e=>hk (by rw[e];simp)
  simp[World.setCell,A2P,this]⟩
theorem A3v (b:Nat):∀(vs:List Value) (o:Nat) (w:World),Kept [b] w (w.setCells b o vs)
 | [],_,w=>Kept.refl _ w
 |v::vs,o,w=>(B5X w b o v).trans (A3v b vs (o+1) _)
theorem A3u {b:Nat}{e:TypeId}{fr:Nat×Nat}:∀(vs:List Value) (o:Nat) (w:World) (c:List Value),w.heap[b]?=some (.cells c.toArray e fr)->o+vs.length<=c.length->
  (w.setCells b o vs).heap[b]?=some (.cells (c.take o++(vs++c.drop (o+vs.length))).toArray e fr)
 | [],o,w,c,h,_=>by
  show w.heap[b]?=_
  rw[h,P5,List.length_nil,A1P,A3e]
 |v::vs,o,w,c,h,hl=>by
  rw[F8]at hl;have h1:=B5W (o:=o) (v:=v) h;rw[show c.toArray.setIfInBounds o v=(c.set o v).toArray by simp]at h1;have h2:=A3u vs (o+1) _ (c.set o v) h1 (by rw[A2n];omega);show ((w.setCell ⟨b,o,none⟩ v).setCells b (o+1) vs).heap[b]?=_
  rw[h2]
  congr 2
  apply congrArg
  have e1:(c.set o v).take (o+1)=c.take o++ [v]:=by
   rw[List.take_set,List.take_succ_eq_append_getElem (by omega),A5L,if_neg (by rw[Q4];omega),Q4,A1g (by omega),A3N]
   rfl
  have e2:(c.set o v).drop (o+1+vs.length)=c.drop (o+1+vs.length):=by
   rw[List.drop_set,if_pos (by omega)]
  rw[e1,e2,F8,show o+(vs.length+1)=o+1+vs.length by omega,O3,Y0,P5,Y0]
theorem Kept.drewN (q:Nat) (w:World):Kept [] w (w.drewN q):=
 ⟨rfl,rfl,rfl,G9 _,fun _ _ _=>rfl⟩
theorem B2U {w:World}{g n sz:Nat}{e:TypeId}{cur:Array Value}{xs:List Value} (hg:w.heap[g]?=some (.cells cur e (0,0))) (ht:cur.toList.take (n *sz)=xs) {j:Nat}{v:Value} (h:xs[j]?=some v):w.cell? ⟨g,0+j,none⟩=some v:=by
 rw[V6];refine A2j hg ?_
 rw[<-ht,A1L]at h;split at h
 ·simpa using h
 ·cases h
theorem A8Z {α:Type} (f:α->Value) (l:List α):l.flatMap (fun a=> [f a])=l.map f:=by
 induction l with
 |nil=>rfl
 |cons a l ih=>rw[A0a,ih];rfl
section
open Go.Sp (Srt A7J A4R)
theorem B6G:∀(x y:List UInt8),Op.bytesLess x y=decide (x<y)
 | [],[]=>by simp[Op.bytesLess]
 |_::_,[]=>by simp[Op.bytesLess]
 | [],_::_=>by simp[Op.bytesLess]
 |a::x,b::y=>by
  rw[Op.bytesLess,B6G x y];simp only[List.cons_lt_cons_iff];by_cases h1:a<b<;>by_cases h2:a=b<;>by_cases h3:x<y<;>simp[h1,h2,h3]
def A6T (l:List (List UInt8)) (s:List UInt8):Nat:=(l.takeWhile (fun x=>decide (x<s))).length
theorem B0V {s:List UInt8}:∀ {l:List (List UInt8)},Srt l->(∀j x,j<A6T l s->l[j]?=some x->x<s)/\(∀j x,A6T l s<=j->l[j]?=some x->¬x<s)/\A6T l s<=l.length
 | [],_=>⟨fun j x _ h=>by simp at h,fun j x _ h=>by simp at h,G9 _⟩
 |a::l,h=>by
  obtain⟨h1,h2⟩:=A1u.1 h;obtain⟨i1,i2,i3⟩:=B0V (s:=s) h2;by_cases ha:a<s
  ·have e:A6T (a::l) s=A6T l s+1:=by simp[A6T,ha]
   rw[e];refine⟨fun j x hj hx=>?_,fun j x hj hx=>?_,by rw[F8];omega⟩
   ·cases j with
    |zero=>simp only[A0A,U3]at hx;rw[<-hx];exact ha
    |succ j=>exact i1 j x (by omega) (by simpa using hx)
   ·cases j with
    |zero=>omega
    |succ j=>exact i2 j x (by omega) (by simpa using hx)
  ·have e:A6T (a::l) s=0:=by simp[A6T,ha]
   rw[e];refine⟨fun j x hj hx=>by omega,fun j x hj hx=>?_,H7 _⟩
   cases j with
   |zero=>simp only[A0A,U3]at hx;rw[<-hx];exact ha
   |succ j=>
    have hm:=A0B (show l[j]?=some x by simpa using hx);exact fun hxs=>ha (B1D (h1 x hm) hxs)
theorem C1L {l:List (List UInt8)}{s:List UInt8} (h:Srt l):l[A6T l s]?=some s↔s∈l:=by
 obtain⟨h1,h2,h3⟩:=B0V (s:=s) h;constructor
 ·exact fun e=>A0B e
 ·intro hm
  obtain⟨j,hj,rfl⟩:=A1K hm;have hg:=G6 hj;have h4:A6T l l[j]<=j:=by
   rcases U0 j (A6T l l[j]) with h5|h5
   ·exact absurd (h1 j _ h5 hg) (A6E _)
   ·exact h5
  have hk:A6T l l[j]<l.length:=by omega
  have hgk:=G6 hk;have h5:=h2 _ _ (G9 _) hgk;rcases U0 (A6T l l[j]) j with h6|h6
  ·exact absurd (A2c.1 h _ _ hk hj h6) h5
  ·have:A6T l l[j]=j:=by omega
   rw[this];exact hg
end
section
variable {P:Program}{ρ:Shelf.Ren}
theorem C3o (L:Proofs.Lays2.n26 P ρ) {I:P6}{ty:TypeId}{l:List (List UInt8)}{a:Option Addr}{cp:Nat} (s:List UInt8) (hs:Sp.Srt l) (hn:l.length<=1099511627776):
  CalR P (ρ.f 26) #[.slice a l.length cp,str s] I [.row (.slice a l.length cp) ty 1 l.length (l.flatMap A6X)] (.tuple #[.int .i64 (A6T l s:Nat),.bool (decide (s∈l))]):=by
 refine⟨fun w hI hH=>?_⟩
 have ho:w.ownsRow 0 ty 1 (.slice a l.length cp) l.length (l.flatMap A6X):=hH _ Q7;rcases ho.2 with ⟨hv,h0⟩|⟨g,cap,cur,hv,_,hg,hc,hcm,hsz,ht⟩
 ·injection hv with e1 e2 e3
  subst e1;subst e3;have hl:l= []:=A00 h0;subst hl;refine⟨Calls.mono (Proofs.Any2.slices_BinarySearch_string_empty L none 0 ⟨s.toArray⟩ w) (fun e w' q=>?_)⟩
  obtain⟨rfl,rfl⟩:=q;exact⟨rfl,Kept.refl _ _⟩
 ·injection hv with e1 e2 e3
  subst e1;subst e3;rw[A2J]at ht;have hcell:∀j,j<l.length->w.cell? ⟨g,0+j,none⟩=some (.string ⟨(l.getD j []).toArray⟩):=fun j hj=>by
   refine B2U (n:=l.length) (sz:=1) (xs:=l.flatMap A6X) hg (by rw[A2J];exact ht) ?_
   rw[A8Z,A0f,G6 hj,O4,G6 hj];rfl
  obtain⟨p1,p2,p3⟩:=B0V (s:=s) hs;have hless:(fun t=>Op.bytesLess (⟨(l.getD t []).toArray⟩:ByteArray).toList (⟨s.toArray⟩:ByteArray).toList)=fun t=>decide (l.getD t []<s):=by
   funext t;rw[A8o,A8o,B6G]
  have hb:=Lib.bsGo_spec (fun t=>decide (t<l.length) && decide (l.getD t []<s)) (A6T l s) (fun t ht2=>by
   have hlt:t<l.length:=by omega
   have:=p1 t _ ht2 (G6 hlt);rw[U9,decide_eq_true_eq,decide_eq_true_eq,O4,G6 hlt];exact⟨hlt,this⟩) (fun t ht2=>by
   rw[Bool.and_eq_false_iff,decide_eq_false_iff_not,decide_eq_false_iff_not];rcases U0 t l.length with hlt|hlt
   ·right
    rw[O4,G6 hlt];exact p2 t _ ht2 (G6 hlt)
   ·left;omega) l.length 0 l.length (by omega) (by omega) p3
  have hcongr:∀(f lo hi:Nat),hi<=l.length->Lib.bsGo (fun t=>decide (l.getD t []<s)) f lo hi=Lib.bsGo (fun t=>decide (t<l.length) && decide (l.getD t []<s)) f lo hi:=by
   intro f;induction f with
   |zero=>intro lo hi _;rfl
   |succ f ih=>
    intro lo hi hhi;unfold Lib.bsGo
    by_cases h:lo<hi
    ·rw[if_pos h,if_pos h,ih _ _ hhi,ih _ _ (by omega),decide_eq_true (show (lo+hi) / 2<l.length by omega),A5O]
    ·rw[if_neg h,if_neg h]
  have hres:=Proofs.Any2.slices_BinarySearch_string L g 0 l.length cp (fun j=>⟨(l.getD j []).toArray⟩) ⟨s.toArray⟩ w (by omega) hcell;rw[hless,hcongr _ _ _ (G9 _),hb]at hres;refine⟨Calls.mono hres (fun e w' q=>?_)⟩
  obtain⟨rfl,qq,rfl⟩:=q;refine⟨?_,Kept.drewN qq w⟩
  have hfd:decide (A6T l s<l.length/\(⟨(l.getD (A6T l s) []).toArray⟩:ByteArray)=⟨s.toArray⟩)=decide (s∈l):=by
   rw[decide_eq_decide, <-C1L hs];constructor
   ·rintro⟨h1,h2⟩
    have h3:l.getD (A6T l s) []=s:=by
     have:=congrArg ByteArray.toList h2
     rwa [A8o,A8o]at this
    rw[G6 h1];rw[O4,G6 h1]at h3;exact congrArg some h3
   ·intro h
    obtain⟨h1,h2⟩:=A0t.1 h;exact⟨h1,by rw[O4,h];rfl⟩
  rw[hfd]
theorem Mem.turn2 {E:Ent}{I:P6}{w w':World}{h h' v:HItem} (hm:Mem E I [h,v] w) (k:Kept h.blk.toList w w') (ho:h'.ok w') (hb:h'.blk=h.blk\/∃g,h'.blk=some g/\w.heap.size<=g):Mem E I [h'] w':=
 (hm.turn (i:=0) rfl k ho hb).hd
theorem B6e (n:Nat):(Builtin.zeroCells (Value.string ⟨#[]⟩).cells n).toList.length=n:=by simp[Builtin.zeroCells,Value.cells]
theorem C3n (L:Proofs.Lays2.n22 P ρ) {I:P6}{ty:TypeId} (hty:ρ.t 9=ty) {n k vb cp:Nat}{a:Option Addr}{xs:List Value} (u:List UInt8) (hk:k<=n) (hn:n<=1000000000000) (h1:xs.all (·.oneCell')=true):
  CalM P (ρ.f 22) #[.slice a n cp,.int .i64 k,.slice (some ⟨vb,0,none⟩) 1 1] I [.row (.slice a n cp) ty 1 n xs,.row (.slice (some ⟨vb,0,none⟩) 1 1) ty 1 1 [str u]]
   (fun v _ H'=> ∃a' cp',v=.slice a' (n+1) cp'/\H'= [.row (.slice a' (n+1) cp') ty 1 (n+1) (xs.take k++str u::xs.drop k)]):=by
 refine CalM.of fun w E hm=>?_
 have hV:w.ownsRow 0 ty 1 (.slice (some ⟨vb,0,none⟩) 1 1) 1 [str u]:=hm.ok _ (A0Q _ Q7);have hR:w.ownsRow 0 ty 1 (.slice a n cp) n xs:=hm.ok _ Q7;have hxl:xs.length=n:=by have:=hR.1;omega
 have h1':∀v∈xs,v.oneCell'=true:=fun v hv=>A2Q.1 h1 v hv
 have hu:∀v∈ [str u],v.oneCell'=true:=fun v hv=>by
  obtain rfl:v=str u:=by simpa using hv
  rfl
 obtain⟨curv,hvg,hvs,hvt⟩:∃curv:Array Value,w.heap[vb]?=some (.cells curv ty (0,0))/\curv.size=1/\curv.toList.take (1 *1)= [str u]:=by
  rcases hV.2 with ⟨h,_⟩|⟨g,cap,cur,hv,_,hg,_,_,hs,ht⟩
  ·cases h
  ·injection hv with e1 _ e3
   injection e1 with e1
   injection e1 with e1
   subst e1;subst e3;exact⟨cur,hg,by rw[hs],ht⟩
 have hvc:∀(j:Nat) (v:Value),[str u][j]?=some v->w.cell? ⟨vb,0+j,none⟩=some v:=fun j v hj=>B2U (n:=1) (sz:=1) hvg hvt hj
 have hbig:(n+1) *16<=140737488355328:=by omega
 have hml:n+1<=maxLen:=by simp only[maxLen];omega
 have fresh:∀(w':World) (cap:Nat) (cells:List Value),Kept [] w w'->w'.heap[w.heap.size]?=some (.cells cells.toArray ty (0,0))->cells.length=cap->n+1<=cap->cap<=maxLen->cells.take (n+1)=xs.take k++str u::xs.drop k->
   ∃I' H',(∃a' cp',Value.slice (some ⟨w.heap.size,0,none⟩) (n+1) cap=.slice a' (n+1) cp'/\H'= [.row (.slice a' (n+1) cp') ty 1 (n+1) (xs.take k++str u::xs.drop k)])/\Mem E I' H' w':=fun w' cap cells hk' hh hcl hc1 hc2 ht=>
  ⟨I,_,⟨_,_,rfl,rfl⟩,hm.turn2 (hk'.mono (fun _ h=>by cases h)) ⟨by rw[E9,F8,Q4,A0r];omega,.inr ⟨w.heap.size,cap,cells.toArray,rfl,H7 _,hh,hc1,hc2,by simp[hcl],by simpa using ht⟩⟩ (.inr ⟨w.heap.size,rfl,G9 _⟩)⟩
 rcases hR.2 with ⟨hv,h0⟩|⟨g,cap,cur,hv,_,hg,hc,hcm,hs,ht⟩
 · -- none
  injection hv with e1 e2 e3
  subst e1;subst e3;obtain rfl:xs= []:=A00 (by omega);obtain rfl:k=0:=by omega
  subst h0;refine⟨Calls.mono (Proofs.Any2.slices_Insert_string_end_grow L none 0 0 vb 0 1 1 [] [str u] w (by omega) (by omega) (by omega) (by omega) rfl rfl (fun _=>rfl) (fun _ h=>by cases h) hvc hu) (fun e w' q=>?_)⟩
  obtain⟨rfl,rfl⟩:=q;rw[hty];have hge:=grownCap_ge w (0+1) 0 ty;exact fresh _ (grownCap w (0+1) 0 ty) ([str u]++(Builtin.zeroCells (Value.string ⟨#[]⟩).cells (grownCap w (0+1) 0 ty-(0+1))).toList) ((Kept.drew w).trans (Kept.alloc _ _)) (by rw[show w.heap.size=w.drew.heap.size from rfl,heap_alloc_new];simp) (by rw[E9,B6e,A1I];omega) hge (grownCap_le_maxLen w _ _ _ hml) (by simp)
 ·injection hv with e1 e2 e3
  subst e1;subst e3;obtain⟨cL,rfl⟩:∃cL:List Value,cur=cL.toArray:=⟨cur.toList,by simp⟩;have hs':cL.length=cp:=by simpa using hs
  have ht':cL.take n=xs:=by simpa using ht
  have hcell:∀(j:Nat) (v:Value),xs[j]?=some v->w.cell? ⟨g,0+j,none⟩=some v:=fun j v hj=>B2U (n:=n) (sz:=1) hg ht hj
  have hsp:∀j,j<cp->(w.cell? ⟨g,0+j,none⟩).isSome=true:=fun j hj=>by
   rw[V6,A2j (v:=cL[j]'(by omega)) hg (by rw[A2O,G6])];rfl
  have hfz:∀b o,(w.heap[b]?=some (.cells cL.toArray ty (0,0))\/w.heap[b]?=some (.cells curv ty (0,0)))->w.frozen? ⟨b,o,none⟩=false:=fun b o h=>by
   rcases h with h|h<;>simp[World.frozen?,h]
  have hne:vb≠g:=fun e=>by
   have:=(A1u.1 hm.dist).1 _ (Q7) g rfl;exact this (by rw[<-e];rfl)
  rcases U0 n cp with hroom|hroom
  · -- room
   have place:∀(w':World) (cells:List Value),Kept [g] w w'->w'.heap[g]?=some (.cells cells.toArray ty (0,0))->cells.length=cp->cells.take (n+1)=xs.take k++str u::xs.drop k->
     ∃I' H',(∃a' cp',Value.slice (some ⟨g,0,none⟩) (n+1) cp=.slice a' (n+1) cp'/\H'= [.row (.slice a' (n+1) cp') ty 1 (n+1) (xs.take k++str u::xs.drop k)])/\Mem E I' H' w':=fun w' cells hk' hh hcl ht=>
    ⟨I,_,⟨_,_,rfl,rfl⟩,hm.turn2 (h:=.row (.slice (some ⟨g,0,none⟩) n cp) ty 1 n xs) hk' ⟨by rw[E9,F8,Q4,A0r];omega,.inr ⟨g,cp,cells.toArray,rfl,H7 _,hh,by omega,hcm,by simp[hcl],by simpa using ht⟩⟩ (.inl rfl)⟩
   rcases U0 k n with hkn|hkn
   ·refine⟨Calls.mono (Proofs.Any2.slices_Insert_string_shift L g 0 n cp k vb 0 1 1 xs [str u] w hkn (by omega) (by omega) (by simp only[maxLen]at hcm;omega) hne hxl rfl hcell (fun j hj=>hsp j (by omega)) (fun j _=>hfz _ _ (.inl hg)) hvc h1' hu
     ty ty 1 cp (by simp[World.shape?,hvg,hvs]) (by simp[World.shape?,hg,hs']) (by omega) (hfz _ _ (.inr hvg)) (hfz _ _ (.inr hvg))) (fun e w' q=>?_)⟩
    obtain⟨rfl,rfl⟩:=q;have hdl:(xs.drop k).length=n-k:=by rw[A0r,hxl]
    have g1:=A3u (xs.drop k) (0+(k+1)) w.drew cL hg (by rw[hdl];omega);have g2:=A3u [str u] (0+k) _ _ g1 (by simp[hdl];omega);refine place _ _ (((Kept.drew w).mono (fun _ h=>by cases h)).trans ((A3v g _ _ _).trans (A3v g _ _ _))) g2 ?_ ?_
    ·simp only[V6,E9,Q4,A0r,F8,List.length_nil]
     omega
    ·have e1:cL.take (0+(k+1))=xs.take k++ [cL[k]'(by omega)]:=by
      have e0:xs.take k=cL.take k:=by rw[show xs=cL.take n from ht'.symm,A28,A1g (by omega)]
      rw[V6,List.take_succ_eq_append_getElem (by omega),e0]
     rw[e1,hdl];simp only[V6,A1I];have e2:((xs.take k++ [cL[k]'(by omega)])++(xs.drop k++cL.drop (k+1+(n-k)))).take k=xs.take k:=by
      rw[O3,A11 (by rw[Q4];omega),A28,Nat.min_self]
     have e3:((xs.take k++ [cL[k]'(by omega)])++(xs.drop k++cL.drop (k+1+(n-k)))).drop (k+1)=xs.drop k++cL.drop (k+1+(n-k)):=by
      rw[List.drop_append_of_le_length (by rw[E9,Q4];simp;omega),A4A (by rw[E9,Q4];simp;omega),P5]
     rw[e2,e3];rw[A6C,A0u (by rw[Q4];omega),Q4,hxl,A1g hk]
     congr 1
     rw[show n+1-k=(n-k)+1 by omega,A7T,A1l,A11 (by rw[hdl];omega),A0u (by rw[hdl];omega)]
   ·obtain rfl:k=n:=by omega
    refine⟨Calls.mono (Proofs.Any2.slices_Insert_string_end_room L g 0 k cp vb 0 1 1 [str u] w (by omega) (by omega) (by simp only[maxLen]at hcm;omega) rfl (fun j hj=>by rw[A3K];exact hsp _ (by omega)) (fun j _=>hfz _ _ (.inl hg)) hvc hu) (fun e w' q=>?_)⟩
    obtain⟨rfl,rfl⟩:=q;have g1:=A3u [str u] (0+k) w cL hg (by simp;omega);refine place _ _ (A3v g _ _ _) g1 ?_ ?_
    ·simp only[V6,E9,Q4,A0r,F8,List.length_nil]
     omega
    ·simp only[V6,A1I]
     rw[ht',A0u (l:=xs) (by omega),A4A (l:=xs) (by omega), <-O3,A11 (by rw[E9,hxl];simp),A0u (by rw[E9,hxl];simp)]
  · -- none
   obtain rfl:n=cp:=by omega
   rcases U0 k n with hkn|hkn
   ·refine⟨Calls.mono (Proofs.Any2.slices_Insert_string_grow L g 0 n n k vb 0 1 1 xs [str u] w hkn (by omega) (by omega) (by omega) (by omega) hxl rfl hcell hvc h1' hu) (fun e w' q=>?_)⟩
    obtain⟨rfl,rfl⟩:=q;rw[hty];have hge:=grownCap_ge w (n+1) n ty;have hdl:(xs.drop k).length=n-k:=by rw[A0r,hxl]
    generalize hG:grownCap w (n+1) n ty=G at hge |-;have hGm:G<=maxLen:=by rw[<-hG];exact grownCap_le_maxLen w _ _ _ hml
    obtain⟨zs,hzs⟩:∃zs:List Value,(Builtin.zeroCells (Value.string ⟨#[]⟩).cells (n+1-k)++Builtin.zeroCells (Value.string ⟨#[]⟩).cells (G-(n+1))).toList=zs:=⟨_,rfl⟩;have hzl:zs.length=G-k:=by rw[<-hzs,Array.toList_append,E9,B6e,B6e];omega
    have hcells:((xs.take k).toArray++Builtin.zeroCells (Value.string ⟨#[]⟩).cells (n+1-k)++Builtin.zeroCells (Value.string ⟨#[]⟩).cells (G-(n+1)))=(xs.take k++zs).toArray:=by
     rw[<-hzs];simp
    rw[hcells];have hl0:(xs.take k++zs).length=G:=by rw[E9,Q4,hzl];omega
    have g0:=heap_alloc_new w (.cells (xs.take k++zs).toArray ty (0,0));have g1:=A3u [str u] k (w.alloc (.cells (xs.take k++zs).toArray ty (0,0))).drew (xs.take k++zs) g0 (by simp[hl0];omega);have g2:=A3u (xs.drop k) (k+1) (((w.alloc (.cells (xs.take k++zs).toArray ty (0,0))).drew.setCells w.heap.size k [str u]).drew) _ g1 (by simp[hzl,hdl];omega);have kk:Kept [] w ((((w.alloc (.cells (xs.take k++zs).toArray ty (0,0))).drew.setCells w.heap.size k [str u]).drew).setCells w.heap.size (k+1) (xs.drop k)):=by
     refine Kept.step (Y:= [w.heap.size]) (Kept.alloc w (.cells (xs.take k++zs).toArray ty (0,0))) ?_ (fun x hx=> .inr (by simp at hx;omega))
     exact((Kept.drew _).mono (fun _ h=>by cases h)).trans ((A3v _ _ _ _).trans (((Kept.drew _).mono (fun _ h=>by cases h)).trans (A3v _ _ _ _)))
    refine fresh _ G _ kk g2 ?_ hge hGm ?_
    ·simp only[E9,Q4,A0r,F8,List.length_nil,hzl]
     omega
    ·have e1:(xs.take k++zs).take k=xs.take k:=by
      rw[A11 (by rw[Q4];omega),A28,Nat.min_self]
     rw[e1];have e2:(xs.take k++([str u]++(xs.take k++zs).drop (k+ [str u].length))).take (k+1)=xs.take k++ [str u]:=by
      rw[<-O3,A11 (by rw[E9,Q4];simp;omega),A0u (by rw[E9,Q4];simp;omega)]
     rw[e2, <-O3,A11 (by simp only[E9,Q4,hdl,A1I];omega),A0u (by simp only[E9,Q4,hdl,A1I];omega),O3];rfl
   ·obtain rfl:k=n:=by omega
    refine⟨Calls.mono (Proofs.Any2.slices_Insert_string_end_grow L (some ⟨g,0,none⟩) k k vb 0 1 1 xs [str u] w (by omega) (by omega) (by omega) (by omega) hxl rfl (fun h=>by cases h) (fun ad had j v hj=>by cases had;rw[Addr.add_lit];exact hcell j v hj) hvc hu) (fun e w' q=>?_)⟩
    obtain⟨rfl,rfl⟩:=q;rw[hty];have hge:=grownCap_ge w (k+1) k ty;exact fresh _ (grownCap w (k+1) k ty) ((xs++ [str u])++(Builtin.zeroCells (Value.string ⟨#[]⟩).cells (grownCap w (k+1) k ty-(k+1))).toList) ((Kept.drew w).trans (Kept.alloc _ _)) (by rw[show w.heap.size=w.drew.heap.size from rfl,heap_alloc_new];simp) (by rw[E9,B6e];simp[hxl];omega) hge (grownCap_le_maxLen w _ _ _ hml)
     (by rw[A11 (by simp[hxl]),A0u (by simp[hxl]),A0u (l:=xs) (by omega),A4A (l:=xs) (by omega)])
end
section
variable {P:Program}{N:Nat}{ds:List Deferred}{Q:Exit->Act->World->Prop}{l:Log}{w:World}{ops:Array Oper}{os:List Oper}
variable {d:Nat}{ty:TypeId}{pos:String}{af:Array Edge}{g:Option (Nat×Bool)}{t:TypeId}{x y:Operand}{E:Ent}{I:P6}{H:List HItem}
end
section
variable {P:Program}{N:Nat}{ds:List Deferred}{Q:Exit->Act->World->Prop}{l:Log}{w w0:World}{ops:Array Oper}{os tail:List Oper}{X:List Nat}
variable {d:Nat}{ty:TypeId}{pos:String}{af:Array Edge}{g:Option (Nat×Bool)}{t:TypeId}{x y:Operand}{E:Ent}{I I0:P6}{H G R:List HItem}{m' f:Nat}{listed:Array Bool}
theorem B1H {e:TypeId}{sz by_ n:Nat} [TySlice P t e] [Elem P e sz by_] {ps:List (Nat×Operand)}{vs:List (Nat×Value)}{a:Act} (ha:Fits N ds l a) (hx:evp l ps=some vs)
  (hi:vs.map (·.1)=List.range' 0 n) (hs:vs.all (fun p=>Nat.beq p.2.cells.toList.length sz)=true) (hn:n *sz<=16777216):
  (execOp a.eval ⟨some d,.buildSlice t n ps.toArray,ty,pos,af,g⟩).run P w=.ok (.value (.slice (some ⟨w.heap.size,0,none⟩) n n)) (w.alloc (.cells (vs.flatMap (·.2.cells.toList)).toArray e (0,0))):=by
 obtain⟨i,z,hi',hz,hs',hby,hzc,hpos⟩:=Elem.out (P:=P) (e:=e);have h6:=fun w=>run_underlying (P:=P) (w:=w) (TySlice.out (P:=P) (t:=t))
 have hlen:vs.length=n:=by have:=congrArg List.length hi;simpa using this
 have hf:=B24 sz vs 0 ((List.range (n *sz)).map (fun j=>z.cells[j % z.cells.size]!)) (by rw[hlen];exact hi) (by simp[hlen]) (fun p hp=>by
  have:=A2Q.1 hs p hp;exact A3O this)
 simp only[A1n,Z9,P5]at hf;have e1:=ha.evp hx;have hz0:¬(2 ^ 24<n *sz):=by omega
 have e2:(Array.range (n *sz)).map (fun j=>z.cells[j % z.cells.size]!)=((List.range (n *sz)).map (fun j=>z.cells[j % z.cells.size]!)).toArray:=by
  apply Array.ext';simp
 simp only[execOp,Instr.buildSlice];by_cases hz1:n *sz=0
 ·have hn0:n=0:=by
   rcases Nat.mul_eq_zero.1 hz1 with h|h
   ·exact h
   ·omega
  subst hn0;have:vs= []:=A00 hlen;subst this;have e4:Array.range 0= #[]:=rfl;simp[e1,h6,sizeOf,typeInfo,hi',Instr.fill,newRow,newObj,e4]
  rfl
 ·simp[e1,h6,sizeOf,typeInfo,hi',hs',zeroValue,hz,hz0,newRow,newObj,e2,hf]
  rw[if_neg hz1]
  rfl
theorem B2m {sz:Nat}:∀(vs:List (Nat×Value)),vs.all (fun p=>Nat.beq p.2.cells.toList.length sz)=true->(vs.flatMap (·.2.cells.toList)).length=vs.length *sz
 | [],_=>by simp
 |p::vs,h=>by
  rw[List.all_cons,U9]at h;rw[A0a,E9,B2m vs h.2,A3O h.1,F8,A1Q];omega
theorem C1r {e:TypeId}{sz by_ n:Nat} [TySlice P t e] [Elem P e sz by_] {ps:List (Nat×Operand)}{vs:List (Nat×Value)}{xs:List Value} (hm:Mem ⟨w0,X,I0⟩ I H w)
  (hw:U4 ops l ⟨some d,.buildSlice t n ps.toArray,ty,pos,af,g⟩=some true) (hN:Nat.blt d N=true) (hx:evp l ps=some vs)
  (hi:vs.map (·.1)=List.range' 0 n) (hs:vs.all (fun p=>Nat.beq p.2.cells.toList.length sz)=true) (hn:Nat.ble (n *sz) 16777216=true) (hxs:vs.flatMap (·.2.cells.toList)=xs)
  (k:∀I' a w',Le I I'->Mem ⟨w0,X,I0⟩ I' H w'->RowI I' e sz (.slice a n n) n xs->WA P N ds ops Q X w0 m' f listed tail ((d,.slice a n n)::l) w'):
  WU P N ds ops Q X w0 m' f listed tail ⟨some d,.buildSlice t n ps.toArray,ty,pos,af,g⟩ l w:=by
 subst hxs;have hk:=Kept.alloc w (.cells (vs.flatMap (·.2.cells.toList)).toArray e (0,0));obtain⟨h1,h2⟩:=hm.fresh hk (G9 _) (heap_alloc_new w _);refine A3q rfl hw hN (fun a ha=>B1H ha hx hi hs (A13 hn)) h2.kept (k _ _ _ h1 h2 ⟨?_,_,_,rfl,G9 _,fun _=>⟨w.heap.size,0,_,(_,_),rfl,P6.add_self _ _ _,fun j u hj=>by rw[V6];simpa using hj⟩⟩)
 have hlen:vs.length=n:=by have:=congrArg List.length hi;simpa using this
 rw[B2m vs hs,hlen]
theorem B7s {e:TypeId}{sz by_ n:Nat} [TySlice P t e] [Elem P e sz by_] {ps:List (Nat×Operand)}{vs:List (Nat×Value)}{xs:List Value} (hm:Mem ⟨w0,X,I0⟩ I H w)
  (hw:U4 ops l ⟨some d,.buildSlice t n ps.toArray,ty,pos,af,g⟩=some true) (hN:Nat.blt d N=true) (hx:evp l ps=some vs)
  (hi:vs.map (·.1)=List.range' 0 n) (hs:vs.all (fun p=>Nat.beq p.2.cells.toList.length sz)=true) (hn:Nat.ble (n *sz) 16777216=true) (hn2:Nat.ble n 16777216=true) (hxs:vs.flatMap (·.2.cells.toList)=xs)
  (k:∀b w',Mem ⟨w0,X,I0⟩ I (.row (.slice (some ⟨b,0,none⟩) n n) e sz n xs::H) w'->WA P N ds ops Q X w0 m' f listed tail ((d,.slice (some ⟨b,0,none⟩) n n)::l) w'):
  WU P N ds ops Q X w0 m' f listed tail ⟨some d,.buildSlice t n ps.toArray,ty,pos,af,g⟩ l w:=by
 subst hxs;have hlen:vs.length=n:=by have:=congrArg List.length hi;simpa using this
 have hl:(vs.flatMap (·.2.cells.toList)).length=n *sz:=by rw[B2m vs hs,hlen]
 have hk:=Kept.alloc w (.cells (vs.flatMap (·.2.cells.toList)).toArray e (0,0));have hm':=hm.add (x:=.row (.slice (some ⟨w.heap.size,0,none⟩) n n) e sz n (vs.flatMap (·.2.cells.toList))) hk ⟨hl,.inr ⟨w.heap.size,n,_,rfl,H7 _,heap_alloc_new w _,G9 _,by
  have:=A13 hn2;unfold maxLen;omega,by simpa using hl,by rw[<-hl];exact V5⟩⟩ (fun b' hb'=>by simp only[HItem.blk,Value.ownBlock,U3]at hb';omega)
 exact A3q rfl hw hN (fun a ha=>B1H ha hx hi hs (A13 hn)) hm'.kept (k _ _ hm')
theorem Mem.appI {e:TypeId}{sz by_:Nat} [TySlice P t e] [Elem P e sz by_] {i n m cp:Nat}{v:Value}{a:Option Addr}{xs ys:List Value} (ty:TypeId) (hm:Mem E I H w)
  (hi:H[i]?=some (.row v e sz n xs)) (hr:RowI I e sz (.slice a m cp) m ys) (h1:∀u∈ys,u.oneCell'=true)
  (hlen:(n+m) *by_<=140737488355328) (h63:n+m<=9223372036854775807):
  ∃a' cp' w',(Builtin.append_ #[t,t] ty #[v,.slice a m cp]).run P w=.ok (.slice a' (n+m) cp') w'/\Mem E I (H.set i (.row (.slice a' (n+m) cp') e sz (n+m) (xs++ys))) w':=by
 have ho:=hm.getRow hi;obtain⟨hl0,a',cap,hv,hmc,h3⟩:=hr;obtain⟨rfl,_,rfl⟩:=Value.slice.inj hv;cases a with
 |none=>
  obtain rfl:m=0:=Classical.byContradiction fun h=>by obtain⟨_,_,_,_,e1,_⟩:=h3 (by omega);cases e1
  obtain rfl:ys= []:=A00 (by simpa using hl0);obtain⟨b,c,rfl⟩:=A3D ho;have hnc:=(B5H ho (G9 _)).2.1;have hm':=hm.turn (h':=.row (.slice b (n+0) c) e sz (n+0) (xs++ [])) hi (Kept.refl _ w) (by rw[A1P,J3];exact hm.ok _ (A0B hi)) (.inl rfl);exact⟨b,c,w,A8y (P:=P) (t:=t) (w:=w) (e:=e) (b:=b) (c2:=cp) hnc ty,hm'⟩
 |some ad=>
  have hcell:∀j u,ys[j]?=some u->w.cell? (ad.add j)=some u:=fun j u hj=>by
   have hm0:0<m:=by
    rcases A4B m with h|h
    ·subst h
     rw[A00 (l:=ys) (by simpa using hl0)]at hj;cases hj
    ·exact h
   obtain⟨b,off,c,fr,e1,e2,e3⟩:=h3 hm0;obtain rfl:=A0Y e1;rw[Addr.add_lit];exact A2j (hm.inv _ _ e2) (e3 j u hj)
  obtain⟨v',w',hr,ho',hk,hb⟩:=A6K (P:=P) (t:=t) ho ad m cp ys hl0 hcell h1 h63 hlen (H7 _) ty;obtain⟨a2,c2,rfl⟩:=A3D ho';exact⟨a2,c2,w',hr,hm.turn hi hk ho' (hb.imp_right fun ⟨g,h1,h2⟩=>⟨g,h1,h2⟩)⟩
theorem C0j {e:TypeId}{sz by_:Nat} [TySlice P t e] [Elem P e sz by_] {i n m cp:Nat}{v:Value}{a:Option Addr}{xs ys:List Value} (hm:Mem ⟨w0,X,I0⟩ I H w)
  (hw:U4 ops l ⟨some d,.call ⟨.builtin .append, #[x,y], #[t,t]⟩,ty,pos,af,g⟩=some true) (hN:Nat.blt d N=true)
  (hx:ev l x=some v) (hy:ev l y=some (.slice a m cp)) (hi:H[i]?=some (.row v e sz n xs)) (hr:RowI I e sz (.slice a m cp) m ys) (h1:∀u∈ys,u.oneCell'=true)
  (hlen:(n+m) *by_<=140737488355328) (h63:n+m<=9223372036854775807)
  (k:∀a' cp' w',Mem ⟨w0,X,I0⟩ I (H.set i (.row (.slice a' (n+m) cp') e sz (n+m) (xs++ys))) w'->WA P N ds ops Q X w0 m' f listed tail ((d,.slice a' (n+m) cp')::l) w'):
  WU P N ds ops Q X w0 m' f listed tail ⟨some d,.call ⟨.builtin .append, #[x,y], #[t,t]⟩,ty,pos,af,g⟩ l w:=by
 obtain⟨a',cp',w',hr,hm'⟩:=Mem.appI (t:=t) (P:=P) ty hm hi hr h1 hlen h63;exact A3q (v:=.slice a' (n+m) cp') rfl hw hN (fun a ha=>by simp[execOp,resolve,invoke,builtin,ha.ev hx,ha.ev hy,hr]) hm'.kept (k _ _ _ hm')
end
end Go.Fw
namespace Go.Sp
theorem B43 {s:List UInt8}{a b:Tok} (ha:a∈U8 s) (hb:b∈U8 s) (h:a.pos<=b.pos):a=b\/a.pos+a.text.length<=b.pos:=by
 obtain⟨i,hi,rfl⟩:=A1K ha;obtain⟨j,hj,rfl⟩:=A1K hb;rcases Nat.lt_trichotomy i j with h1|h1|h1
 ·exact .inr (A2c.1 (A4r s) i j hi hj h1)
 ·subst h1;exact .inl rfl
 ·have h2:=A2c.1 (A4r s) j i hj hi h1
  have h3:=(A2E s _ hb).len;omega
theorem B52 {s:List UInt8}{a b:Nat}{n m:List UInt8} (h1:A0R s a n) (h2:A0R s b m) (hn:n≠ []) (hm:m≠ []) (h:a<b):a+n.length<=b:=by
 obtain⟨_,k,hk⟩:=h1.2.2 hn;obtain⟨_,j,hj⟩:=h2.2.2 hm;rcases B43 hk hj (Nat.le_of_lt h) with h3|h3
 ·injection h3 with _ _ h3;omega
 ·exact h3
theorem B15 {s:List UInt8}{a:Nat}{n m:List UInt8} (h1:A0R s a n) (h2:A0R s a m) (hn:n≠ []) (hm:m≠ []):n=m:=by
 obtain⟨_,k,hk⟩:=h1.2.2 hn;obtain⟨_,j,hj⟩:=h2.2.2 hm;rcases B43 hk hj (G9 _) with h3|h3
 ·injection h3
 ·have:0<n.length:=A3S.2 hn
  simp only at h3;omega
def C2b (s:List UInt8) (d:Pl):Prop:=d.name≠ []/\∃p:Nat,d.at_=p/\A0R s p d.name
section
variable {s q:List UInt8}{p:Nat}
mutual
theorem C4l (hb:A8H s p q):∀(x:Stm),x.all (stE q) (stS q)->∀d∈B16 p x,C2b s d
 | .mk k nm a lb o e thn els f t,h,d,hd=>by
  rw[Stm.all]at h;rw[B16,A0d,A0d]at hd;rcases hd with hd|hd|hd
  ·split at hd
   ·rename_i hk
    obtain rfl:=A0v.1 hd;exact⟨hk.2,p+a,by simp,hb _ _ (h.1 (.inl hk.1))⟩
   ·cases hd
  ·exact A9E hb thn h.2.2.1 d hd
  ·exact A9E hb els h.2.2.2 d hd
theorem A9E (hb:A8H s p q):∀(l:List Stm),X7 (stE q) (stS q) l->∀d∈A01 p l,C2b s d
 | [],_,d,hd=>by rw[A01]at hd;cases hd
 |x::l,h,d,hd=>by
  rw[X7]at h;rw[A01,A0d]at hd;rcases hd with hd|hd
  ·exact C4l hb x h.1 d hd
  ·exact A9E hb l h.2 d hd
 end
theorem C5c {it:Itm} (h:ItS s p q it):∀d∈B8T it,C2b s d:=by
 intro d hd;rw[B8T]at hd;split at hd
 ·cases hd
 ·rename_i hn
  rw[h.at_,V8,A0d]at hd;rcases hd with rfl|hd|hd
  ·exact⟨fun e=>hn (.inr e),p+it.mark,by simp,h.sub _ _ h.mark⟩
  ·obtain⟨x,hx,hd⟩:=A6B.1 hd
   rw[A52]at hd;split at hd
   ·rename_i hx0
    obtain rfl:=A0v.1 hd;exact⟨hx0,p+x.at_,by simp,h.sub _ _ (h.params x hx)⟩
   ·cases hd
  ·exact A9E h.sub it.body h.body d hd
theorem B7l {its:List Itm} (h:∀it∈its,A8F s it):∀d∈A3n its,C2b s d:=by
 intro d hd;obtain⟨it,hi,hd⟩:=A6B.1 hd;obtain⟨p,q,h1⟩:=h it hi;exact C5c h1 d hd
end
theorem B8z (d:List Int) (h:d.Pairwise (· <= ·)):∀m,m<=d.length->(Go.Lib.compactUpTo d.toArray m).Pairwise (· < ·)/\(∀x∈Go.Lib.compactUpTo d.toArray m,x∈d/\∃j,j<m/\x=d.getD j 0)/\(∀j,j<m->d.getD j 0∈Go.Lib.compactUpTo d.toArray m):=by
 have hget:∀j,d.toArray[j]! =d.getD j 0:=fun j=>by
  rw[getElem!_def,A2O,O4];cases d[j]? <;>rfl
 have hle:∀i j,i<=j->j<d.length->d.getD i 0<=d.getD j 0:=fun i j h1 h2=>by
  rw[O4,O4,G6 h2,G6 (by omega)];rcases U0 i j with h3|h3
  ·exact A2c.1 h i j (by omega) h2 h3
  ·obtain rfl:i=j:=by omega
   exact Int.le_refl _
 intro m;induction m with
 |zero=>intro _;simp[Go.Lib.compactUpTo]
 |succ m ih=>
  intro hm;obtain⟨i1,i2,i3⟩:=ih (by omega);rw[Go.Lib.compactUpTo_succ];have hmem:d.getD m 0∈d:=by
   rw[O4,G6 (by omega)];exact O7 _
  split
  ·rename_i hk
   rw[hget];refine⟨A2t.2 ⟨i1,B0g _ _,fun x hx y hy=>?_⟩,fun x hx=>?_,fun j hj=>?_⟩
   ·obtain rfl:=A0v.1 hy
    obtain⟨_,j,hj,rfl⟩:=i2 x hx;have hk2:d.getD m 0≠d.getD (m-1) 0:=by
     simp only[Go.Lib.keeps,hget]at hk;have:m≠0:=by omega
     simpa[this] using hk
    have h1:=hle (m-1) m (by omega) (by omega);have h2:=hle j (m-1) (by omega) (by omega);omega
   ·rcases A0d.1 hx with hx|hx
    ·obtain⟨h1,j,hj,h2⟩:=i2 x hx
     exact⟨h1,j,by omega,h2⟩
    ·obtain rfl:=A0v.1 hx
     exact⟨hmem,m,by omega,rfl⟩
   ·rcases U0 j m with h1|h1
    ·exact A1J _ (i3 j h1)
    ·obtain rfl:j=m:=by omega
     exact A12 _ (A0v.2 rfl)
  ·rename_i hk
   rw[J3];refine⟨i1,fun x hx=>?_,fun j hj=>?_⟩
   ·obtain⟨h1,j,hj,h2⟩:=i2 x hx
    exact⟨h1,j,by omega,h2⟩
   ·rcases U0 j m with h1|h1
    ·exact i3 j h1
    ·obtain rfl:j=m:=by omega
     simp only[Go.Lib.keeps,hget]at hk;by_cases h0:j=0
     ·simp[h0]at hk
     ·have:d.getD j 0=d.getD (j-1) 0:=by simpa[h0] using hk
      rw[this];exact i3 _ (by omega)
theorem B4M (its:List Itm) (df:Int):(A35 its df).Pairwise (· < ·)/\∀x,x∈A35 its df↔x=df\/∃u∈A1Z its,u.df=df/\u.fr=x:=by
 have hs:((df::A3H (A1Z its) df).mergeSort (fun x y=>decide (x<=y))).Pairwise (· <= ·):=by
  have:=List.pairwise_mergeSort (le:=fun x y:Int=>decide (x<=y)) (fun a b c h1 h2=>by simp only[decide_eq_true_eq]at *;omega) (fun a b=>by simp only[Bool.or_eq_true,decide_eq_true_eq];omega) (df::A3H (A1Z its) df);simpa using this
 have hmem:∀x,x∈(df::A3H (A1Z its) df).mergeSort (fun x y=>decide (x<=y))↔x=df\/∃u∈A1Z its,u.df=df/\u.fr=x:=fun x=>by
  rw[List.mem_mergeSort,V8,A3H,A0x];simp only[List.mem_filter,decide_eq_true_eq,and_assoc]
 rw[A35];generalize (df::A3H (A1Z its) df).mergeSort (fun x y=>decide (x<=y))=d at hs hmem;obtain⟨h1,h2,h3⟩:=B8z d hs d.length (G9 _);have e:Go.Lib.compact d=Go.Lib.compactUpTo d.toArray d.length:=by simp[Go.Lib.compact]
 rw[e];refine⟨h1,fun x=>⟨fun hx=>(hmem x).1 (h2 x hx).1,fun hx=>?_⟩⟩
 obtain⟨j,hj,rfl⟩:=A1K ((hmem x).2 hx);have:=h3 j hj
 rwa [O4,G6 hj]at this
theorem C1I {s:List UInt8}{its:List Itm} (h:∀it∈its,A8F s it) {at_ df:Int} (hd:B6N its at_=some df):∃n,n≠ []/\(∀x∈A35 its df,∃p:Nat,x=p/\A0R s p n)/\(B5C (A3n its) df= []\/B5C (A3n its) df=n):=by
 have hu:=B8b h;have hm:=B7l h;obtain⟨n,p,hn,hp,hst⟩:∃(n:List UInt8) (p:Nat),n≠ []/\df=p/\A0R s p n:=by
  rw[B6N]at hd;split at hd
  ·rename_i u hu2
   injection hd with hd
   obtain⟨f,d,n,h1,h2,h3,h4,h5,h6⟩:=hu u (B0f hu2);exact⟨n,d,h4,by omega,h6⟩
  ·cases hf:B9r (A3n its) at_ with
   |none=>rw[hf]at hd;cases hd
   |some d=>
    rw[hf]at hd;simp only[A17,U3]at hd;obtain⟨h1,p,h2,h3⟩:=hm d (B0f hf);exact⟨d.name,p,h1,by omega,h3⟩
 refine⟨n,hn,fun x hx=>?_,?_⟩
 ·rcases((B4M its df).2 x).1 hx with rfl|⟨u,hu1,hu2,rfl⟩
  ·exact⟨p,hp,hst⟩
  ·obtain⟨f,d,m,h1,h2,h3,h4,h5,h6⟩:=hu u hu1
   have:d=p:=by omega
   subst this;obtain rfl:=B15 h6 hst h4 hn;exact⟨f,h1,h5⟩
 ·have hfold:∀(l:List Pl) (o:List UInt8),(∀d∈l,C2b s d)->(o= []\/o=n)->(l.foldl (fun o d=>if d.at_=df then d.name else o) o= []\/l.foldl (fun o d=>if d.at_=df then d.name else o) o=n):=by
   intro l;induction l with
   |nil=>intro o _ h;exact h
   |cons d l ih=>
    intro o hl ho;rw[A1f];refine ih _ (fun x hx=>hl x (A0Q _ hx)) ?_
    split
    ·rename_i he
     obtain⟨h1,p',h2,h3⟩:=hl d Q7;have:p'=p:=by omega
     subst this;exact .inr (B15 h3 hst h1 hn)
    ·exact ho
  exact hfold _ _ hm (.inl rfl)
theorem B6J (s nm:List UInt8) (n:Nat) (z:Int):∀(l:List Int) (x:List UInt8×Int),A53 s nm n (l++ [z]) x=((A53 s nm n l x).1++((s.drop (A53 s nm n l x).2.toNat).take (z.toNat-(A53 s nm n l x).2.toNat)++nm),z+n)
 | [],x=>rfl
 |k::l,x=>by rw[Y0,A53,A53,B6J s nm n z l]
theorem B4h (s nm:List UInt8) (n:Nat) {l:List Int}{k:Nat}{z:Int} (h:l[k]?=some z) (x:List UInt8×Int):A53 s nm n (l.take (k+1)) x=((A53 s nm n (l.take k) x).1++((s.drop (A53 s nm n (l.take k) x).2.toNat).take (z.toNat-(A53 s nm n (l.take k) x).2.toNat)++nm),z+n):=by
 rw[Q8 h,B6J]
theorem C2C {s nm m:List UInt8}{l:List Int} (hup:l.Pairwise (· < ·)) (hl:∀x∈l,∃p:Nat,x=p/\A0R s p m) (hm:m≠ []) (n:Nat) (hn:n=0\/n=m.length):∀k,k<=l.length->
  0<=(A53 s nm n (l.take k) ([],0)).2/\(A53 s nm n (l.take k) ([],0)).2<=s.length/\(∀z,l[k]?=some z->(A53 s nm n (l.take k) ([],0)).2<=z/\z<=s.length)/\((A53 s nm n (l.take k) ([],0)).1.length:Int)<=(A53 s nm n (l.take k) ([],0)).2+(k *nm.length:Nat):=by
 have hin:∀(j:Nat) (z:Int),l[j]?=some z->∃p:Nat,z=p/\A0R s p m:=fun j z h=>hl z (A0B h)
 intro k;induction k with
 |zero=>
  intro _;rw[Z9,A53];refine⟨Int.le_refl _,Int.natCast_nonneg _,fun z hz=>?_,by simp⟩
  obtain⟨p,h1,h2,_⟩:=hin _ _ hz;dsimp only;omega
 |succ k ih=>
  intro hk;obtain⟨i1,i2,i3,i4⟩:=ih (by omega);have hg:l[k]?=some l[k]:=G6 (by omega);obtain⟨i5,i6⟩:=i3 _ hg;obtain⟨p,hp,hst⟩:=hin _ _ hg;rw[B4h s nm n hg];generalize A53 s nm n (l.take k) ([],0)=c at i1 i2 i4 i5;have hml:=hst.1;refine⟨by dsimp only;omega,by dsimp only;omega,fun z hz=>?_,?_⟩
  ·obtain⟨p2,hp2,hst2⟩:=hin _ _ hz
   have hlt:l[k]<z:=by
    obtain⟨hk1,rfl⟩:=A0t.1 hz;exact A2c.1 hup k (k+1) (by omega) hk1 (by omega)
   have:=B52 hst hst2 hm hm (by omega);have:=hst2.1;dsimp only;omega
  ·dsimp only
   rw[E9,E9,Q4,A0r,Nat.succ_mul];omega
end Go.Sp
namespace Go.Fw
open Go.Sp
open Go
section
variable {P:Program}{N:Nat}{ds:List Deferred}{Q:Exit->Act->World->Prop}{l:Log}{w:World}{ops:Array Oper}{os:List Oper}
variable {d:Nat}{ty:TypeId}{pos:String}{af:Array Edge}{g:Option (Nat×Bool)}{t t':TypeId}{x:Operand}
theorem B3D {w:World}{e:TypeId} (hT:P.underlying t=some (.pointer e)) (a:Option Addr):(Op.equal t (.pointer a) (.pointer none)).run P w=.ok a.isNone w:=by
 have h1:=run_underlying (P:=P) (w:=w) hT;show (Op.equalIn (9999+1) t (.pointer a) (.pointer none)).run P w=_
 rw[Op.equalIn];cases a<;>simp[h1]
theorem A3s {e:TypeId} (hT:P.underlying t=some (.pointer e)) {a:Option Addr}{k0:Value} (hw:U4 ops l ⟨some d,.binOp .eql t x (.const k0) t',ty,pos,af,g⟩=some true) (hN:Nat.blt d N=true)
  (hx:ev l x=some (.pointer a)) (hk:k0=.pointer none) (k:WL P N ds ops Q os ((d,.bool a.isNone)::l) w):WL P N ds ops Q (⟨some d,.binOp .eql t x (.const k0) t',ty,pos,af,g⟩::os) l w:=
 U6 rfl hw hN (fun c hc=>by
  subst hk;have e2:c.eval (.const (.pointer none))=.pointer none:=rfl;simp[execOp,hc.ev hx,e2,eqGuard,binOp,B3D hT a]) k
end
end Go.Fw
namespace Go.Sp
def InT (T:Src) (a b:Nat) (L:List Nat):Prop:= ∃js:List Nat,js.Pairwise (· < ·)/\(∀j∈js,a<=j/\j<b/\j<T.l.length)/\L=js.map (fun j=>(T.tok j).pos)
theorem InT.nil (T:Src) (a b:Nat):InT T a b []:=⟨[],.nil,fun _ h=>(by cases h),rfl⟩
theorem InT.one {T:Src}{a b:Nat} (h:a<b) (hl:a<T.l.length):InT T a b [(T.tok a).pos]:=⟨[a],B0g _ _,fun j hj=>by obtain rfl:=A0v.1 hj;omega,rfl⟩
theorem InT.app {T:Src}{a b b' c:Nat}{L R:List Nat} (h:InT T a b L) (g:InT T b' c R) (hb:b<=b') (hab:a<=b) (hc:b'<=c):InT T a c (L++R):=by
 obtain⟨js,h1,h2,rfl⟩:=h;obtain⟨ks,g1,g2,rfl⟩:=g;refine⟨js++ks,A2t.2 ⟨h1,g1,fun x hx y hy=>?_⟩,fun j hj=>?_,by rw[Y8]⟩
 ·have:=h2 x hx;have:=g2 y hy;omega
 ·rcases A0d.1 hj with hj|hj
  ·have:=h2 j hj;omega
  ·have:=g2 j hj;omega
theorem InT.mono {T:Src}{a b a' b':Nat}{L:List Nat} (h:InT T a b L) (ha:a'<=a) (hb:b<=b'):InT T a' b' L:=by
 obtain⟨js,h1,h2,rfl⟩:=h;exact⟨js,h1,fun j hj=>(by have:=h2 j hj;omega),rfl⟩
theorem B4E:∀(l r:List Stm),A1a (l++r)=A1a l++A1a r
 | [],r=>by rw[P5,A1a,P5]
 |x::l,r=>by rw[Y0,A1a,A1a,B4E l r,O3]
theorem C1j (x:Stm):A1a [x]=x.lets:=by rw[A1a,A1a,J3]
theorem A6d {k:Nat}{nm:List UInt8}{a lb:Nat}{o:Bool}{e:Ex}{f t:Nat} (hk:k≠1):(Stm.mk k nm a lb o e [] [] f t).lets= []:=by rw[Stm.lets,if_neg hk,A1a];rfl
theorem B3k (T:Src):∀f,(∀d s,InT T s.i (block T f d s).2.i (A1a (block T f d s).1))/\(∀d l s a,a<=s.i->InT T a s.i (A1a l)->InT T a (A4q T f d l s).2.i (A1a (A4q T f d l s).1))/\
  (∀d s,InT T s.i (stm T f d s).2.i (stm T f d s).1.lets)
 |0=>⟨fun _ _=>by rw[block];dsimp only;rw[A1a];exact .nil _ _ _,fun _ _ _ _ _ h=>by rw[A4q];exact h,
   fun _ s=>by rw[stm];show InT T s.i s.i (Stm.mk 0 [] 0 0 false (.mk 0 [] 0 [] 0 0) [] [] 0 0).lets;rw[A6d (by decide)];exact .nil _ _ _⟩
 |f+1=>by
  obtain⟨hB,hL,hS⟩:=B3k T f;obtain⟨gB,gL,gS⟩:=A10 T f;have gE:=(A06 T f).2.2.1;refine⟨fun d s=>?_,fun d l s a ha h=>?_,fun d s=>?_⟩
  ·rw[block]
   split
   ·dsimp only;rw[A1a];exact .nil _ _ _
   ·split
    ·dsimp only;rw[A1a];exact .nil _ _ _
    ·have h1:=hL (d+1) [] s.next s.next.i (G9 _) (by rw[A1a];exact .nil _ _ _)
     have h3:=A3h T (A4q T f (d+1) [] s.next).2 [125];exact h1.mono (by rw[Q5];omega) h3
  ·rw[A4q]
   split
   ·exact h
   ·split
    ·exact h
    ·have h1:=hS d s
     have h2:=(gS d s).le;try dsimp only
     have h3:InT T a (stm T f d s).2.i (A1a (l++ [(stm T f d s).1])):=by
      rw[B4E,C1j];exact h.app h1 (G9 _) ha h2
     split
     ·rename_i he
      exact hL d _ _ a (by rw[Q5];omega) (h3.mono (G9 _) (by rw[Q5];omega))
     ·exact hL d _ _ a (by omega) h3
  ·rw[stm]
   dsimp only
   split
   ·rename_i hlet
    have hlt:s.i<T.l.length:=A2e (by rw[hlet];decide);have h1:=(A1e T s.next).le;rw[Q5]at h1;generalize s.next.named T=r at h1 |-;generalize hr1:(if (!T.is r.2.i [58])=true then (0,r.2) else lab T r.2.next)=r1;have h2:r.2.i<=r1.2.i:=by
     rw[<-hr1];split
     ·exact G9 _
     ·have:=(A3l T r.2.next).le
      rw[Q5]at this;omega
    have h3:=A3h T r1.2 [61];have h5:=(gE d 1 (r1.2.need T [61]).2).le;have h6:=A3h T (A0O T f d 1 (r1.2.need T [61]).2).2 [59];try dsimp only
    rw[Stm.lets,A1a,if_pos rfl];exact InT.one (by omega) hlt
   ·split
    ·have h2:=(gE d 1 s.next).le
     rw[Q5]at h2;generalize A0O T f d 1 s.next=r at h2 |-;have h3:=hB d r.2;have h4:=(gB d r.2).le;generalize block T f d r.2=r1 at h3 h4 |-;split
     ·have h5:=hB d r1.2.next
      have h6:=(gB d r1.2.next).le;rw[Q5]at h5 h6;try dsimp only
      rw[Stm.lets,if_neg (by decide),P5];exact(h3.app h5 (by omega) (by omega) (by omega)).mono (by omega) (G9 _)
     ·try dsimp only
      rw[Stm.lets,A1a,if_neg (by decide),P5,J3];exact h3.mono (by omega) (G9 _)
    ·split
     ·have h2:=(gE d 1 s.next).le
      rw[Q5]at h2;generalize A0O T f d 1 s.next=r at h2 |-;have h3:=hB d r.2;try dsimp only
      rw[Stm.lets,A1a,if_neg (by decide),P5,J3];exact h3.mono (by omega) (G9 _)
     ·split
      ·try dsimp only
       rw[A6d (by decide)];exact .nil _ _ _
      ·split
       ·try dsimp only
        rw[A6d (by decide)];exact .nil _ _ _
       ·split
        ·split
         ·try dsimp only
          rw[A6d (by decide)];exact .nil _ _ _
         ·try dsimp only
          rw[A6d (by decide)];exact .nil _ _ _
        ·show InT T s.i _ (Stm.mk _ _ _ _ _ _ [] [] _ _).lets
         rw[A6d (by decide)];exact .nil _ _ _
theorem C1b {src:List UInt8}{a b:Nat}{L:List Nat} (ha:1<=a) (h:InT ⟨U8 src,src.length⟩ a b L):L.Nodup/\0∉L:=by
 obtain⟨js,h1,h2,rfl⟩:=h;have hs:=A2c.1 (A4r src);have key:∀i j,i<j->j<(U8 src).length->((Src.mk (U8 src) src.length).tok i).pos<((Src.mk (U8 src) src.length).tok j).pos:=fun i j hij hj=>by
  have hi:i<(U8 src).length:=by omega
  have h3:=hs i j hi hj hij;have h4:=(A2E src _ (O7 hi)).len;rw[Src.tok,Src.tok];dsimp only
  rw[O4,O4,G6 hi,G6 hj];show (U8 src)[i].pos<(U8 src)[j].pos
  omega
 refine⟨?_,fun h0=>?_⟩
 ·rw[List.Nodup,List.pairwise_map]
  refine h1.imp_of_mem (fun {x y} hx hy hxy=>?_)
  have:=key x y hxy (h2 y hy).2.2;omega
 ·obtain⟨j,hj,e⟩:=A0x.1 h0
  have:=h2 j hj;have:=key 0 j (by omega) this.2.2;omega
theorem C1e (src:List UInt8) (at_:Int):(A1a (item src at_).body).Nodup/\0∉A1a (item src at_).body:=by
 have hnil:(A1a []).Nodup/\0∉A1a []:=by rw[A1a];exact⟨List.nodup_nil,fun h=>(by cases h)⟩
 rw[item];generalize hT:(⟨U8 src,src.length⟩:Src)=T;dsimp only
 split
 ·rename_i hfn
  have h0:=A1H hfn;dsimp only[A51];have h1:=A1e T ⟨1,[]⟩;have t1:=h1.top (show 1<=_ by omega);have l1:1<=_:=h1.le;generalize (⟨1,[]⟩:St).named T=r at t1 l1 |-;have t2:=A7r [40] t1;have l2:=A3h T r.2 [40];generalize (r.2.need T [40]).2=s1 at t2 l2 |-;have h3:=(A88 T 6 [] s1 (by simp)).2 t2;generalize A4E T 6 [] s1=r2 at h3 |-;have t4:=A7r [41] h3.2.1;have l4:=A3h T r2.2 [41];generalize (r2.2.need T [41]).2=s3 at t4 l4 |-;have t5:=A7r [58] t4;have l5:=A3h T s3 [58];generalize (s3.need T [58]).2=s4 at t5 l5 |-;have g6:=A3l T s4;have t6:=g6.top t5;have l6:=g6.le;clear g6;generalize lab T s4=r5 at t6 l6 |-;generalize hr6:(if T.is r5.2.i [115,101,110,100,115]=true then A4H T 6 [] r5.2.next else ([],r5.2))=r6;have l7:r5.2.i<=r6.2.i:=by
   rw[<-hr6];split
   ·rename_i hs
    have:=A1H hs;have:=((A9h T 6 [] r5.2.next (by simp)).2 (by rw[Q5];omega)).1;rw[Q5]at this;omega
   ·exact G9 _
  have h8:=(B3k T (A6S T)).1 0 r6.2;have h9:=h3.1;subst hT;exact C1b (by omega) h8
 ·split
  ·exact hnil
  ·exact hnil
end Go.Sp
namespace Go.Proofs
open Go.Proofs.Tryz
open Go.Sp
open Go.Fw
theorem C3A (fi:FuncId) [Own prog fi] (ca:List Value) (F:Sp.Rf->Bool) (l:List Sp.Rf) (hl:l.length<=1000000000) (I:P6) (a:Option Addr) (cp:Nat) (hr:RowI I 106 2 (.slice a l.length cp) l.length (l.flatMap A2V))
  (hF:∀I',Le I I'->∀x,CalM prog fi (.agg (A2V x).toArray::ca).toArray I' [] (fun v _ H'=>v=.bool (F x)/\H'= [])):
  CalM prog 139 #[.slice a l.length cp,.func (.func fi) #[] ca.toArray] I [] (fun v _ H'=>v=.int .i64 (match l.findIdx? F with|some j=>(j:Int)|none=> -1)/\H'= []):=by
 refine CalM.of fun w E hm=>enter (N:=19) func139 rfl [(0,.slice a l.length cp),(1,.func (.func fi) #[] ca.toArray)] A0T rfl ?_
 repeat' (first|refine D8 ?_|refine D6 ?_|refine G7 ?_|refine D9 ?_|refine A7 ?_|refine E8 ?_|refine A8 ?_|refine F5 ?_)
 refine U2 (fun x:NI=> [(0,.slice a l.length cp),(1,.func (.func fi) #[] ca.toArray),(7,nt l.length),(8,nt x.k)])
  (fun x w'=>Mem E x.I [] w'/\Le I x.I/\x.k<=l.length/\∀j it',j<x.k->l[j]?=some it'->F it'=false) (fun x=>l.length-x.k) ⟨0,I⟩ (by exact⟨rfl,rfl,rfl,rfl,trivial⟩) ⟨hm,Le.refl _,H7 _,fun j _ hj=>absurd hj (Nat.not_lt_zero j)⟩ ?_
 clear hm;rintro⟨k,I1⟩ w1 ⟨hm,hle1,hk,hno⟩;dsimp only at hm hle1 hk hno |-;by_cases hlt:k<l.length
 ·have hg:l[k]?=some l[k]:=G6 hlt
  have hri:=hr.le hle1;have hc:=hF I1 hle1 l[k];have hgk:l[((k:Nat):Int).toNat]?=some l[k]:=hg;generalize l[k]=x at hg hc hgk;cases hb:F x with
  |true=>
   rw[hb]at hc;repeat' (first|refine Q9 (d:=14) (enc:=A2V) (z:=x) ?_ (hr:=hri) (he:=fun _=>rfl) (hz:=hgk);intro bt ot hpt|refine X3 (d:=15) ?_ hm (hp:=hpt)|refine B2v (d:=16) ?_ hm (hp:=pm0) (hc:=by exact hc);clear hm;rintro _ I2 _ _ ⟨rfl,rfl⟩ hle hm|refine D8 ?_|refine D6 ?_|refine J6 ?_|refine D9 ?_|refine A7 ?_|refine G8 ?_|refine O1 ?_|refine E8 ?_|refine A8 ?_|refine F5 ?_|refine G5 ?_|refine H8 ?_|refine J9 ?_|refine H6 ?_|(refine D5 (ht:=fun _=>?_) (hf:=fun _=>?_)<;>try first|contradiction|omega))
   refine⟨I2,[],⟨?_,rfl⟩,hm.left (H:= [])⟩
   have:l.findIdx? F=some k:=by
    rw[A2q];obtain⟨hk,e⟩:=A0t.1 hg;refine⟨hk,by rw[e];exact hb,fun j hj=>?_⟩
    have:=hno j l[j] hj (G6 (by omega));rw[this];simp
   rw[this]
  |false=>
   rw[hb]at hc;repeat' (first|refine Q9 (d:=14) (enc:=A2V) (z:=x) ?_ (hr:=hri) (he:=fun _=>rfl) (hz:=hgk);intro bt ot hpt|refine X3 (d:=15) ?_ hm (hp:=hpt)|refine B2v (d:=16) ?_ hm (hp:=pm0) (hc:=by exact hc);clear hm;rintro _ I2 _ _ ⟨rfl,rfl⟩ hle hm|refine D8 ?_|refine D6 ?_|refine J6 ?_|refine P7 ?_|refine D9 ?_|refine A7 ?_|refine D7 ?_|refine E8 ?_|refine A8 ?_|refine F5 ?_|refine G5 ?_|refine F7 ?_|(refine D5 (ht:=fun _=>?_) (hf:=fun _=>?_)<;>try first|contradiction|omega))
   refine L9 (⟨k+1,I2⟩:NI) (by exact⟨rfl,rfl,rfl,rfl,trivial⟩) ⟨hm.left (H:= []),hle1.trans hle,by dsimp only;omega,fun j it' hj hg'=>?_⟩ (by dsimp only;omega)
   rcases U0 j k with hjk|hjk
   ·exact hno j it' hjk hg'
   ·obtain rfl:j=k:=by dsimp only at hj;omega
    rw[hg]at hg';obtain rfl:=A0Y hg';exact hb
 ·obtain rfl:k=l.length:=by omega
  repeat' (first|refine D6 ?_|refine J6 ?_|refine D9 ?_|refine A7 ?_|refine H9 ?_|refine H5 ?_|refine E8 ?_|refine A8 ?_|refine P9 ?_|refine H8 ?_|refine J9 ?_|(refine D5 (ht:=fun _=>?_) (hf:=fun _=>?_)<;>try first|contradiction|omega))
  refine⟨I1,[],⟨?_,rfl⟩,hm.left (H:= [])⟩
  have:l.findIdx? F=none:=by
   rw[A3L];intro x hx;obtain⟨j,hj,rfl⟩:=A1K hx;exact hno j _ hj (G6 hj)
  rw[this]
theorem B3p (fi:FuncId) [Own prog fi] (ca:List Value) (F:Sp.Rf->Bool) (l:List Sp.Rf) (hl:l.length<=1000000000) (I:P6) (a:Option Addr) (cp:Nat) (hr:RowI I 106 2 (.slice a l.length cp) l.length (l.flatMap A2V))
  (hF:∀I',Le I I'->∀x,CalM prog fi (.agg (A2V x).toArray::ca).toArray I' [] (fun v _ H'=>v=.bool (F x)/\H'= [])):
  CalM prog 111 #[.slice a l.length cp,.func (.func fi) #[] ca.toArray] I [] (fun v _ H'=>v=.bool (l.any F)/\H'= []):=by
 refine CalM.of fun w E hm=>enter (N:=9) func111 rfl [(0,.slice a l.length cp),(1,.func (.func fi) #[] ca.toArray)] A0T rfl ?_
 have hc:=C3A fi ca F l hl I a cp hr hF;have hany:l.any F=decide (0<=(match l.findIdx? F with|some j=>(j:Int)|none=> -1)):=by
  cases h:l.findIdx? F with
  |some j=>
   obtain⟨hj,e,_⟩:=A2q.1 h;rw[A71.2 ⟨l[j],O7 hj,e⟩];exact(decide_eq_true (show (0:Int)<=(j:Int) by omega)).symm
  |none=>
   rw[A3L]at h;rw[A6A.2 (fun x hx=>by rw[h x hx];simp)]
   rfl
 rw[hany];generalize (match l.findIdx? F with|some j=>(j:Int)|none=> -1)=z at hc;repeat' (first|refine F6 (d:=7) ?_ hm (hc:=hc);clear hm;rintro _ I4 _ _ ⟨rfl,rfl⟩ hle hm;have hleI4:=hle;try simp only[F9]at hm|refine D8 ?_|refine D6 ?_|refine A04 ?_|refine D9 ?_|refine A7 ?_|refine E8 ?_|refine A8 ?_|refine H8 ?_|refine J9 ?_)
 exact⟨I4,[],⟨rfl,rfl⟩,hm.left (H:= [])⟩
theorem B5b (a b:Nat) (ha:a<256) (hb:b<256) (w:World):Cal prog 22 #[.int .i64 a,.int .i64 b] w fun v w'=>v=.bool (B1V a b)/\w'=w:=by
 refine enter (N:=9) func22 rfl [(0,.int .i64 a),(1,.int .i64 b)] A0T rfl ?_
 repeat' (first|refine D8 ?_|refine D6 ?_|refine N9 ?_|refine C1y ?_|refine D9 ?_|refine A7 ?_|refine E8 ?_|refine A8 ?_|refine H8 ?_|refine J9 ?_)
 refine⟨congrArg Value.bool ?_,rfl⟩
 rw[A2I,decide_eq_true_eq,A1v,A1v, <-B6w ha hb];omega
theorem A69 (a b:Nat) (ha:a<256) (hb:b<256) (w:World):Cal prog 78 #[.int .i64 a,.int .i64 b] w fun v w'=>v=.int .i64 ((a|||b:Nat):Int)/\w'=w:=by
 refine enter (N:=8) func78 rfl [(0,.int .i64 a),(1,.int .i64 b)] A0T rfl ?_
 repeat' (first|refine D8 ?_|refine D6 ?_|refine B7w ?_|refine D9 ?_|refine A7 ?_|refine E8 ?_|refine A8 ?_|refine H8 ?_|refine J9 ?_)
 exact⟨rfl,rfl⟩
theorem C6F (a b:Nat) (ha:a<256) (hb:b<256) (w:World):Cal prog 140 #[.int .i64 a,.int .i64 b] w fun v w'=>v=.int .i64 ((a &&& b:Nat):Int)/\w'=w:=by
 refine enter (N:=8) func140 rfl [(0,.int .i64 a),(1,.int .i64 b)] A0T rfl ?_
 repeat' (first|refine D8 ?_|refine D6 ?_|refine B5D ?_|refine D9 ?_|refine A7 ?_|refine E8 ?_|refine A8 ?_|refine H8 ?_|refine J9 ?_)
 exact⟨rfl,rfl⟩
end Go.Proofs
