/- Own work. -/
import Derived.Test.YtfgmppgjopchoaaGreatDoorSw12
import Derived.Shelf.Spec.SearchS
import Derived.Shelf.Spec.SlicesInsert
import Derived.Shelf.Spec.SlicesInsertGrow
set_option maxHeartbeats 64000000
namespace Go.Fw
open Go.Sp
open Go
theorem RowI.take {I:P7}{e sz n m cp:Nat}{a:Option Addr}{xs:List Value} (h:RowI I e sz (.slice a n cp) n xs) (hmn:m<=n):RowI I e sz (.slice a m cp) m (xs.take (m *sz)):=by
 obtain⟨h0,a',cap,h1,h2,h3⟩:=h;obtain⟨rfl,_,rfl⟩:=Value.slice.inj h1;have hle:m *sz<=n *sz:=A3U _ hmn;refine⟨by rw[P6];omega,a,cp,rfl,by omega,fun hm=>?_⟩
 obtain⟨b,off,c,fr,e1,e2,e3⟩:=h3 (by omega);refine⟨b,off,c,fr,e1,e2,fun j u hj=>e3 j u ?_⟩
 rw[A1z]at hj;split at hj
 ·exact hj
 ·cases hj
section
variable {P:Program}{N:Nat}{ds:List Deferred}{Q:Exit->Act->World->Prop}{l:Log}{w:World}{ops:Array Oper}{os:List Oper}
variable {d:Nat}{ty:TypeId}{pos:String}{af:Array Edge}{g:Option (Nat×Bool)}{t:TypeId}{x y:Operand}{E:Ent}{I:P7}{H:List HItem}
theorem A9F {e:TypeId}{sz by_:Nat} [TySlice P t e] [Elem P e sz by_] {n m cp:Nat}{a:Option Addr}{xs:List Value} (k:RowI I e sz (.slice a m cp) m (xs.take (m *sz))->WL P N ds ops Q os ((d,.slice a m cp)::l) w) (hr:RowI I e sz (.slice a n cp) n xs)
  (hw:U7 ops l ⟨some d,.slice t x none (some y) none,ty,pos,af,g⟩=some true:=by rfl) (hN:Nat.blt d N=true:=by rfl)
  (hx:ev l x=some (.slice a n cp):=by rfl) (hy:ev l y=some (.int .i64 (m:Int)):=by rfl) (hmn:m<=n:=by omega)
   :
  WL P N ds ops Q (⟨some d,.slice t x none (some y) none,ty,pos,af,g⟩::os) l w:=by
 have h2:n<=cp:=by
  obtain⟨_,a',cap,h1,h2,_⟩:=hr;obtain⟨_,_,rfl⟩:=Value.slice.inj h1;exact h2
 refine U6 (w':=w) (v:=.slice a m cp) rfl hw hN (fun c hc=>?_) (k (hr.take hmn))
 obtain⟨inf,z,hinf,_,hs,_,_,_⟩:=Elem.out (P:=P) (e:=e);have h6:=run_underlying (P:=P) (w:=w) (TySlice.out (P:=P) (t:=t));have h7:m<=cp:=by omega
 rcases a with _|⟨b,off,o⟩
 ·simp[execOp,Instr.sliceAt,Instr.slice,Instr.sliceBounds,Instr.sliceBound,hc.ev hx,hc.ev hy,h6,asIntOf,h7,sizeOf,typeInfo,hinf]
 ·simp[execOp,Instr.sliceAt,Instr.slice,Instr.sliceBounds,Instr.sliceBound,hc.ev hx,hc.ev hy,h6,asIntOf,h7,sizeOf,typeInfo,hinf,Addr.add]
end
section
variable {P:Program}{N:Nat}{ds:List Deferred}{Q:Exit->Act->World->Prop}{l:Log}{w:World}{ops:Array Oper}{os:List Oper}
variable {d:Nat}{ty:TypeId}{pos:String}{af:Array Edge}{g:Option (Nat×Bool)}{t:TypeId}{x y:Operand}{E:Ent}{I:P7}{H:List HItem}
theorem B2E {e:TypeId}{sz by_:Nat} [TySlice P t e] [he:Elem P e sz by_] {b:Option Addr}{n c c2:Nat} (hc:n<=c) (ty:TypeId):
  (Builtin.append_ #[t,t] ty #[.slice b n c,.slice none 0 c2]).run P w=.ok (.slice b n c) w:=by
 obtain⟨i,z,hi,hz,hs,hby,hzc,hpos⟩:=he.out;have ht:=run_underlying (P:=P) (w:=w) (TySlice.out (P:=P) (t:=t));cases b<;>simp[Builtin.append_,Builtin.firstCells,Builtin.lenOf,storeCells,ht,sizeOf,typeInfo,hi,hc]
theorem A7D {e:TypeId}{sz by_:Nat} [TySlice P t e] [Elem P e sz by_] {i n m cp:Nat}{v:Value}{a:Option Addr}{xs ys:List Value} (k:∀a' cp' w',Mem E I (H.set i (.row (.slice a' (n+m) cp') e sz (n+m) (xs++ys))) w'->WL P N ds ops Q os ((d,.slice a' (n+m) cp')::l) w') (hm:Mem E I H w)
  (hw:U7 ops l ⟨some d,.call ⟨.builtin .append, #[x,y], #[t,t]⟩,ty,pos,af,g⟩=some true:=by rfl) (hN:Nat.blt d N=true:=by rfl)
  (hx:ev l x=some v:=by rfl) (hy:ev l y=some (.slice a m cp):=by rfl) (hi:H[i]?=some (.row v e sz n xs):=by first|exact gt0|exact gt1|exact gt2|exact gt3|exact gt4|exact gt5|exact gt6) (hr:RowI I e sz (.slice a m cp) m ys) (h1:∀u∈ys,u.oneCell'=true)
  (hlen:(n+m) *by_<=140737488355328:=by omega) (h63:n+m<=9223372036854775807:=by omega)
   :
  WL P N ds ops Q (⟨some d,.call ⟨.builtin .append, #[x,y], #[t,t]⟩,ty,pos,af,g⟩::os) l w:=by
 have ho:=hm.getRow hi;obtain⟨hl0,a',cap,hv,hmc,h3⟩:=hr;obtain⟨rfl,_,rfl⟩:=Value.slice.inj hv;cases a with
 |none=>
  obtain rfl:m=0:=Classical.byContradiction fun h=>by obtain⟨_,_,_,_,e1,_⟩:=h3 (by omega);cases e1
  obtain rfl:ys= []:=A07 (by simpa using hl0);obtain⟨b,c,rfl⟩:=A4u ho;have hnc:=(C0U ho (H6 _)).2.1;have hm':=hm.turn (h':=.row (.slice b (n+0) c) e sz (n+0) (xs++ [])) hi (Kept.refl _ w) (by rw[A2a,J3];exact hm.ok _ (A0J hi)) (.inl rfl);refine U6 (w':=w) (v:=.slice b n c) rfl hw hN (fun c2 hc=>?_) (k b c w hm')
  have hr:=B2E (P:=P) (t:=t) (w:=w) (e:=e) (b:=b) (c2:=cp) hnc ty;simp[execOp,resolve,invoke,builtin,hc.ev hx,hc.ev hy,hr]
 |some ad=>
  obtain⟨v',w',hr,ho',hk,hb⟩:=A8q (P:=P) (t:=t) ho ad m cp ys hl0 (fun j u hj=>by
    have hm0:0<m:=by
     rcases A5v m with h|h
     ·subst h
      rw[A07 (l:=ys) (by simpa using hl0)]at hj;cases hj
     ·exact h
    obtain⟨b,off,c,fr,e1,e2,e3⟩:=h3 hm0;obtain rfl:=A0V e1;rw[Addr.add_lit];exact A2z (hm.inv _ _ e2) (e3 j u hj)) h1 h63 hlen (H7 _) ty
  obtain⟨a2,c2,rfl⟩:=A4u ho';refine U6 (w':=w') (v:=.slice a2 (n+m) c2) rfl hw hN (fun c3 hc=>?_) (k a2 c2 w' (hm.turn hi hk ho' (hb.imp_right fun ⟨g,h1,h2⟩=>⟨g,h1,h2⟩)))
  simp[execOp,resolve,invoke,builtin,hc.ev hx,hc.ev hy,hr]
end
abbrev A68 (s:List UInt8):List Value:= [str s]
theorem B6n {w:World}{b o:Nat}{c:Array Value}{e:TypeId}{fr:Nat×Nat}{v:Value} (h:w.heap[b]?=some (.cells c e fr)):(w.setCell ⟨b,o,none⟩ v).heap[b]?=some (.cells (c.setIfInBounds o v) e fr):=by
 simp[World.setCell,A2S,h]
theorem B6o (w:World) (b o:Nat) (v:Value):Kept [b] w (w.setCell ⟨b,o,none⟩ v):=
 ⟨rfl,rfl,rfl,by simp[World.setCell],fun k _ hk=>by
  have:b≠k:=fun e=>hk (by rw[e];simp)
  simp[World.setCell,A2S,this]⟩
theorem A3z (b:Nat):∀(vs:List Value) (o:Nat) (w:World),Kept [b] w (w.setCells b o vs)
 | [],_,w=>Kept.refl _ w
 |v::vs,o,w=>(B6o w b o v).trans (A3z b vs (o+1) _)
theorem A3y {b:Nat}{e:TypeId}{fr:Nat×Nat}:∀(vs:List Value) (o:Nat) (w:World) (c:List Value),w.heap[b]?=some (.cells c.toArray e fr)->o+vs.length<=c.length->
  (w.setCells b o vs).heap[b]?=some (.cells (c.take o++(vs++c.drop (o+vs.length))).toArray e fr)
 | [],o,w,c,h,_=>by
  show w.heap[b]?=_
  rw[h,P9,List.length_nil,A2a,A2t]
 |v::vs,o,w,c,h,hl=>by
  rw[F9]at hl;have h1:=B6n (o:=o) (v:=v) h;rw[show c.toArray.setIfInBounds o v=(c.set o v).toArray by simp]at h1;have h2:=A3y vs (o+1) _ (c.set o v) h1 (by rw[A2n];omega);show ((w.setCell ⟨b,o,none⟩ v).setCells b (o+1) vs).heap[b]?=_
  rw[h2]
  congr 2
  apply congrArg
  have e1:(c.set o v).take (o+1)=c.take o++ [v]:=by
   rw[List.take_set,List.take_succ_eq_append_getElem (by omega),A5V,if_neg (by rw[P6];omega),P6,A1h (by omega),A3R]
   rfl
  have e2:(c.set o v).drop (o+1+vs.length)=c.drop (o+1+vs.length):=by
   rw[List.drop_set,if_pos (by omega)]
  rw[e1,e2,F9,show o+(vs.length+1)=o+1+vs.length by omega,O4,X3,P9,X3]
theorem Kept.drewN (q:Nat) (w:World):Kept [] w (w.drewN q):=
 ⟨rfl,rfl,rfl,H6 _,fun _ _ _=>rfl⟩
theorem B3e {w:World}{g n sz:Nat}{e:TypeId}{cur:Array Value}{xs:List Value} (hg:w.heap[g]?=some (.cells cur e (0,0))) (ht:cur.toList.take (n *sz)=xs) {j:Nat}{v:Value} (h:xs[j]?=some v):w.cell? ⟨g,0+j,none⟩=some v:=by
 rw[W9];refine A2z hg ?_
 rw[<-ht,A1z]at h;split at h
 ·simpa using h
 ·cases h
theorem A9d {α:Type} (f:α->Value) (l:List α):l.flatMap (fun a=> [f a])=l.map f:=by
 induction l with
 |nil=>rfl
 |cons a l ih=>rw[A0b,ih];rfl
section
open Go.Sp (Srt A7Y A4S)
theorem B68:∀(x y:List UInt8),Op.bytesLess x y=decide (x<y)
 | [],[]=>by simp[Op.bytesLess]
 |_::_,[]=>by simp[Op.bytesLess]
 | [],_::_=>by simp[Op.bytesLess]
 |a::x,b::y=>by
  rw[Op.bytesLess,B68 x y];simp only[List.cons_lt_cons_iff];by_cases h1:a<b<;>by_cases h2:a=b<;>by_cases h3:x<y<;>simp[h1,h2,h3]
def A64 (l:List (List UInt8)) (s:List UInt8):Nat:=(l.takeWhile (fun x=>decide (x<s))).length
theorem B1e {s:List UInt8}:∀ {l:List (List UInt8)},Srt l->(∀j x,j<A64 l s->l[j]?=some x->x<s)/\(∀j x,A64 l s<=j->l[j]?=some x->¬x<s)/\A64 l s<=l.length
 | [],_=>⟨fun j x _ h=>by simp at h,fun j x _ h=>by simp at h,H6 _⟩
 |a::l,h=>by
  obtain⟨h1,h2⟩:=A1A.1 h;obtain⟨i1,i2,i3⟩:=B1e (s:=s) h2;by_cases ha:a<s
  ·have e:A64 (a::l) s=A64 l s+1:=by simp[A64,ha]
   rw[e];refine⟨fun j x hj hx=>?_,fun j x hj hx=>?_,by rw[F9];omega⟩
   ·cases j with
    |zero=>simp only[A0z,U4]at hx;rw[<-hx];exact ha
    |succ j=>exact i1 j x (by omega) (by simpa using hx)
   ·cases j with
    |zero=>omega
    |succ j=>exact i2 j x (by omega) (by simpa using hx)
  ·have e:A64 (a::l) s=0:=by simp[A64,ha]
   rw[e];refine⟨fun j x hj hx=>by omega,fun j x hj hx=>?_,H7 _⟩
   cases j with
   |zero=>simp only[A0z,U4]at hx;rw[<-hx];exact ha
   |succ j=>
    have hm:=A0J (show l[j]?=some x by simpa using hx);exact fun hxs=>ha (B1X (h1 x hm) hxs)
theorem C2m {l:List (List UInt8)}{s:List UInt8} (h:Srt l):l[A64 l s]?=some s↔s∈l:=by
 obtain⟨h1,h2,h3⟩:=B1e (s:=s) h;constructor
 ·exact fun e=>A0J e
 ·intro hm
  obtain⟨j,hj,rfl⟩:=A1y hm;have hg:=G6 hj;have h4:A64 l l[j]<=j:=by
   rcases U2 j (A64 l l[j]) with h5|h5
   ·exact absurd (h1 j _ h5 hg) (A6P _)
   ·exact h5
  have hk:A64 l l[j]<l.length:=by omega
  have hgk:=G6 hk;have h5:=h2 _ _ (H6 _) hgk;rcases U2 (A64 l l[j]) j with h6|h6
  ·exact absurd (A2e.1 h _ _ hk hj h6) h5
  ·have:A64 l l[j]=j:=by omega
   rw[this];exact hg
end
section
variable {P:Program}{ρ:Shelf.Ren}
theorem C34 (L:Proofs.Lays2.n26 P ρ) {I:P7}{ty:TypeId}{l:List (List UInt8)}{a:Option Addr}{cp:Nat} (s:List UInt8) (hs:Sp.Srt l) (hn:l.length<=1099511627776):
  CalR P (ρ.f 26) #[.slice a l.length cp,str s] I [.row (.slice a l.length cp) ty 1 l.length (l.flatMap A68)] (.tuple #[.int .i64 (A64 l s:Nat),.bool (decide (s∈l))]):=by
 refine⟨fun w hI hH=>?_⟩
 have ho:w.ownsRow 0 ty 1 (.slice a l.length cp) l.length (l.flatMap A68):=hH _ Q5;rcases ho.2 with ⟨hv,h0⟩|⟨g,cap,cur,hv,_,hg,hc,hcm,hsz,ht⟩
 ·injection hv with e1 e2 e3
  subst e1;subst e3;have hl:l= []:=A07 h0;subst hl;refine⟨Calls.mono (Proofs.Any2.slices_BinarySearch_string_empty L none 0 ⟨s.toArray⟩ w) (fun e w' q=>?_)⟩
  obtain⟨rfl,rfl⟩:=q;exact⟨rfl,Kept.refl _ _⟩
 ·injection hv with e1 e2 e3
  subst e1;subst e3;rw[A2M]at ht;have hcell:∀j,j<l.length->w.cell? ⟨g,0+j,none⟩=some (.string ⟨(l.getD j []).toArray⟩):=fun j hj=>by
   refine B3e (n:=l.length) (sz:=1) (xs:=l.flatMap A68) hg (by rw[A2M];exact ht) ?_
   rw[A9d,A0e,G6 hj,O5,G6 hj];rfl
  obtain⟨p1,p2,p3⟩:=B1e (s:=s) hs;have hless:(fun t=>Op.bytesLess (⟨(l.getD t []).toArray⟩:ByteArray).toList (⟨s.toArray⟩:ByteArray).toList)=fun t=>decide (l.getD t []<s):=by
   funext t;rw[A8D,A8D,B68]
  have hb:=Lib.bsGo_spec (fun t=>decide (t<l.length) && decide (l.getD t []<s)) (A64 l s) (fun t ht2=>by
   have hlt:t<l.length:=by omega
   have:=p1 t _ ht2 (G6 hlt);rw[V5,decide_eq_true_eq,decide_eq_true_eq,O5,G6 hlt];exact⟨hlt,this⟩) (fun t ht2=>by
   rw[Bool.and_eq_false_iff,decide_eq_false_iff_not,decide_eq_false_iff_not];rcases U2 t l.length with hlt|hlt
   ·right
    rw[O5,G6 hlt];exact p2 t _ ht2 (G6 hlt)
   ·left;omega) l.length 0 l.length (by omega) (by omega) p3
  have hcongr:∀(f lo hi:Nat),hi<=l.length->Lib.bsGo (fun t=>decide (l.getD t []<s)) f lo hi=Lib.bsGo (fun t=>decide (t<l.length) && decide (l.getD t []<s)) f lo hi:=by
   intro f;induction f with
   |zero=>intro lo hi _;rfl
   |succ f ih=>
    intro lo hi hhi;unfold Lib.bsGo
    by_cases h:lo<hi
    ·rw[if_pos h,if_pos h,ih _ _ hhi,ih _ _ (by omega),decide_eq_true (show (lo+hi) / 2<l.length by omega),A5Y]
    ·rw[if_neg h,if_neg h]
  have hres:=Proofs.Any2.slices_BinarySearch_string L g 0 l.length cp (fun j=>⟨(l.getD j []).toArray⟩) ⟨s.toArray⟩ w (by omega) hcell;rw[hless,hcongr _ _ _ (H6 _),hb]at hres;refine⟨Calls.mono hres (fun e w' q=>?_)⟩
  obtain⟨rfl,qq,rfl⟩:=q;refine⟨?_,Kept.drewN qq w⟩
  have hfd:decide (A64 l s<l.length/\(⟨(l.getD (A64 l s) []).toArray⟩:ByteArray)=⟨s.toArray⟩)=decide (s∈l):=by
   rw[decide_eq_decide, <-C2m hs];constructor
   ·rintro⟨h1,h2⟩
    have h3:l.getD (A64 l s) []=s:=by
     have:=congrArg ByteArray.toList h2
     rwa [A8D,A8D]at this
    rw[G6 h1];rw[O5,G6 h1]at h3;exact congrArg some h3
   ·intro h
    obtain⟨h1,h2⟩:=A0y.1 h;exact⟨h1,by rw[O5,h];rfl⟩
  rw[hfd]
theorem Mem.turn2 {E:Ent}{I:P7}{w w':World}{h h' v:HItem} (hm:Mem E I [h,v] w) (k:Kept h.blk.toList w w') (ho:h'.ok w') (hb:h'.blk=h.blk\/∃g,h'.blk=some g/\w.heap.size<=g):Mem E I [h'] w':=
 (hm.turn (i:=0) rfl k ho hb).hd
theorem B6H (n:Nat):(Builtin.zeroCells (Value.string ⟨#[]⟩).cells n).toList.length=n:=by simp[Builtin.zeroCells,Value.cells]
theorem C33 (L:Proofs.Lays2.n22 P ρ) {I:P7}{ty:TypeId} (hty:ρ.t 9=ty) {n k vb cp:Nat}{a:Option Addr}{xs:List Value} (u:List UInt8) (hk:k<=n) (hn:n<=1000000000000) (h1:xs.all (·.oneCell')=true):
  CalM P (ρ.f 22) #[.slice a n cp,.int .i64 k,.slice (some ⟨vb,0,none⟩) 1 1] I [.row (.slice a n cp) ty 1 n xs,.row (.slice (some ⟨vb,0,none⟩) 1 1) ty 1 1 [str u]]
   (fun v _ H'=> ∃a' cp',v=.slice a' (n+1) cp'/\H'= [.row (.slice a' (n+1) cp') ty 1 (n+1) (xs.take k++str u::xs.drop k)]):=by
 refine CalM.of fun w E hm=>?_
 have hV:w.ownsRow 0 ty 1 (.slice (some ⟨vb,0,none⟩) 1 1) 1 [str u]:=hm.ok _ (A0L _ Q5);have hR:w.ownsRow 0 ty 1 (.slice a n cp) n xs:=hm.ok _ Q5;have hxl:xs.length=n:=by have:=hR.1;omega
 have h1':∀v∈xs,v.oneCell'=true:=fun v hv=>A2U.1 h1 v hv
 have hu:∀v∈ [str u],v.oneCell'=true:=fun v hv=>by
  obtain rfl:v=str u:=by simpa using hv
  rfl
 obtain⟨curv,hvg,hvs,hvt⟩:∃curv:Array Value,w.heap[vb]?=some (.cells curv ty (0,0))/\curv.size=1/\curv.toList.take (1 *1)= [str u]:=by
  rcases hV.2 with ⟨h,_⟩|⟨g,cap,cur,hv,_,hg,_,_,hs,ht⟩
  ·cases h
  ·injection hv with e1 _ e3
   injection e1 with e1
   injection e1 with e1
   subst e1;subst e3;exact⟨cur,hg,by rw[hs],ht⟩
 have hvc:∀(j:Nat) (v:Value),[str u][j]?=some v->w.cell? ⟨vb,0+j,none⟩=some v:=fun j v hj=>B3e (n:=1) (sz:=1) hvg hvt hj
 have hbig:(n+1) *16<=140737488355328:=by omega
 have hml:n+1<=maxLen:=by simp only[maxLen];omega
 have fresh:∀(w':World) (cap:Nat) (cells:List Value),Kept [] w w'->w'.heap[w.heap.size]?=some (.cells cells.toArray ty (0,0))->cells.length=cap->n+1<=cap->cap<=maxLen->cells.take (n+1)=xs.take k++str u::xs.drop k->
   ∃I' H',(∃a' cp',Value.slice (some ⟨w.heap.size,0,none⟩) (n+1) cap=.slice a' (n+1) cp'/\H'= [.row (.slice a' (n+1) cp') ty 1 (n+1) (xs.take k++str u::xs.drop k)])/\Mem E I' H' w':=fun w' cap cells hk' hh hcl hc1 hc2 ht=>
  ⟨I,_,⟨_,_,rfl,rfl⟩,hm.turn2 (hk'.mono (fun _ h=>by cases h)) ⟨by rw[E9,F9,P6,A0r];omega,.inr ⟨w.heap.size,cap,cells.toArray,rfl,H7 _,hh,hc1,hc2,by simp[hcl],by simpa using ht⟩⟩ (.inr ⟨w.heap.size,rfl,H6 _⟩)⟩
 rcases hR.2 with ⟨hv,h0⟩|⟨g,cap,cur,hv,_,hg,hc,hcm,hs,ht⟩
 · -- none
  injection hv with e1 e2 e3
  subst e1;subst e3;obtain rfl:xs= []:=A07 (by omega);obtain rfl:k=0:=by omega
  subst h0;refine⟨Calls.mono (Proofs.Any2.slices_Insert_string_end_grow L none 0 0 vb 0 1 1 [] [str u] w (by omega) (by omega) (by omega) (by omega) rfl rfl (fun _=>rfl) (fun _ h=>by cases h) hvc hu) (fun e w' q=>?_)⟩
  obtain⟨rfl,rfl⟩:=q;rw[hty];have hge:=grownCap_ge w (0+1) 0 ty;exact fresh _ (grownCap w (0+1) 0 ty) ([str u]++(Builtin.zeroCells (Value.string ⟨#[]⟩).cells (grownCap w (0+1) 0 ty-(0+1))).toList) ((Kept.drew w).trans (Kept.alloc _ _)) (by rw[show w.heap.size=w.drew.heap.size from rfl,heap_alloc_new];simp) (by rw[E9,B6H,A1w];omega) hge (grownCap_le_maxLen w _ _ _ hml) (by simp)
 ·injection hv with e1 e2 e3
  subst e1;subst e3;obtain⟨cL,rfl⟩:∃cL:List Value,cur=cL.toArray:=⟨cur.toList,by simp⟩;have hs':cL.length=cp:=by simpa using hs
  have ht':cL.take n=xs:=by simpa using ht
  have hcell:∀(j:Nat) (v:Value),xs[j]?=some v->w.cell? ⟨g,0+j,none⟩=some v:=fun j v hj=>B3e (n:=n) (sz:=1) hg ht hj
  have hsp:∀j,j<cp->(w.cell? ⟨g,0+j,none⟩).isSome=true:=fun j hj=>by
   rw[W9,A2z (v:=cL[j]'(by omega)) hg (by rw[A2R,G6])];rfl
  have hfz:∀b o,(w.heap[b]?=some (.cells cL.toArray ty (0,0))\/w.heap[b]?=some (.cells curv ty (0,0)))->w.frozen? ⟨b,o,none⟩=false:=fun b o h=>by
   rcases h with h|h<;>simp[World.frozen?,h]
  have hne:vb≠g:=fun e=>by
   have:=(A1A.1 hm.dist).1 _ (Q5) g rfl;exact this (by rw[<-e];rfl)
  rcases U2 n cp with hroom|hroom
  · -- room
   have place:∀(w':World) (cells:List Value),Kept [g] w w'->w'.heap[g]?=some (.cells cells.toArray ty (0,0))->cells.length=cp->cells.take (n+1)=xs.take k++str u::xs.drop k->
     ∃I' H',(∃a' cp',Value.slice (some ⟨g,0,none⟩) (n+1) cp=.slice a' (n+1) cp'/\H'= [.row (.slice a' (n+1) cp') ty 1 (n+1) (xs.take k++str u::xs.drop k)])/\Mem E I' H' w':=fun w' cells hk' hh hcl ht=>
    ⟨I,_,⟨_,_,rfl,rfl⟩,hm.turn2 (h:=.row (.slice (some ⟨g,0,none⟩) n cp) ty 1 n xs) hk' ⟨by rw[E9,F9,P6,A0r];omega,.inr ⟨g,cp,cells.toArray,rfl,H7 _,hh,by omega,hcm,by simp[hcl],by simpa using ht⟩⟩ (.inl rfl)⟩
   rcases U2 k n with hkn|hkn
   ·refine⟨Calls.mono (Proofs.Any2.slices_Insert_string_shift L g 0 n cp k vb 0 1 1 xs [str u] w hkn (by omega) (by omega) (by simp only[maxLen]at hcm;omega) hne hxl rfl hcell (fun j hj=>hsp j (by omega)) (fun j _=>hfz _ _ (.inl hg)) hvc h1' hu
     ty ty 1 cp (by simp[World.shape?,hvg,hvs]) (by simp[World.shape?,hg,hs']) (by omega) (hfz _ _ (.inr hvg)) (hfz _ _ (.inr hvg))) (fun e w' q=>?_)⟩
    obtain⟨rfl,rfl⟩:=q;have hdl:(xs.drop k).length=n-k:=by rw[A0r,hxl]
    have g1:=A3y (xs.drop k) (0+(k+1)) w.drew cL hg (by rw[hdl];omega);have g2:=A3y [str u] (0+k) _ _ g1 (by simp[hdl];omega);refine place _ _ (((Kept.drew w).mono (fun _ h=>by cases h)).trans ((A3z g _ _ _).trans (A3z g _ _ _))) g2 ?_ ?_
    ·simp only[W9,E9,P6,A0r,F9,List.length_nil]
     omega
    ·have e1:cL.take (0+(k+1))=xs.take k++ [cL[k]'(by omega)]:=by
      have e0:xs.take k=cL.take k:=by rw[show xs=cL.take n from ht'.symm,A3c,A1h (by omega)]
      rw[W9,List.take_succ_eq_append_getElem (by omega),e0]
     rw[e1,hdl];simp only[W9,A1w];have e2:((xs.take k++ [cL[k]'(by omega)])++(xs.drop k++cL.drop (k+1+(n-k)))).take k=xs.take k:=by
      rw[O4,A14 (by rw[P6];omega),A3c,Nat.min_self]
     have e3:((xs.take k++ [cL[k]'(by omega)])++(xs.drop k++cL.drop (k+1+(n-k)))).drop (k+1)=xs.drop k++cL.drop (k+1+(n-k)):=by
      rw[List.drop_append_of_le_length (by rw[E9,P6];simp;omega),A4D (by rw[E9,P6];simp;omega),P9]
     rw[e2,e3];rw[A5B,A0q (by rw[P6];omega),P6,hxl,A1h hk]
     congr 1
     rw[show n+1-k=(n-k)+1 by omega,A77,A1i,A14 (by rw[hdl];omega),A0q (by rw[hdl];omega)]
   ·obtain rfl:k=n:=by omega
    refine⟨Calls.mono (Proofs.Any2.slices_Insert_string_end_room L g 0 k cp vb 0 1 1 [str u] w (by omega) (by omega) (by simp only[maxLen]at hcm;omega) rfl (fun j hj=>by rw[A3O];exact hsp _ (by omega)) (fun j _=>hfz _ _ (.inl hg)) hvc hu) (fun e w' q=>?_)⟩
    obtain⟨rfl,rfl⟩:=q;have g1:=A3y [str u] (0+k) w cL hg (by simp;omega);refine place _ _ (A3z g _ _ _) g1 ?_ ?_
    ·simp only[W9,E9,P6,A0r,F9,List.length_nil]
     omega
    ·simp only[W9,A1w]
     rw[ht',A0q (l:=xs) (by omega),A4D (l:=xs) (by omega), <-O4,A14 (by rw[E9,hxl];simp),A0q (by rw[E9,hxl];simp)]
  · -- none
   obtain rfl:n=cp:=by omega
   rcases U2 k n with hkn|hkn
   ·refine⟨Calls.mono (Proofs.Any2.slices_Insert_string_grow L g 0 n n k vb 0 1 1 xs [str u] w hkn (by omega) (by omega) (by omega) (by omega) hxl rfl hcell hvc h1' hu) (fun e w' q=>?_)⟩
    obtain⟨rfl,rfl⟩:=q;rw[hty];have hge:=grownCap_ge w (n+1) n ty;have hdl:(xs.drop k).length=n-k:=by rw[A0r,hxl]
    generalize hG:grownCap w (n+1) n ty=G at hge |-;have hGm:G<=maxLen:=by rw[<-hG];exact grownCap_le_maxLen w _ _ _ hml
    obtain⟨zs,hzs⟩:∃zs:List Value,(Builtin.zeroCells (Value.string ⟨#[]⟩).cells (n+1-k)++Builtin.zeroCells (Value.string ⟨#[]⟩).cells (G-(n+1))).toList=zs:=⟨_,rfl⟩;have hzl:zs.length=G-k:=by rw[<-hzs,Array.toList_append,E9,B6H,B6H];omega
    have hcells:((xs.take k).toArray++Builtin.zeroCells (Value.string ⟨#[]⟩).cells (n+1-k)++Builtin.zeroCells (Value.string ⟨#[]⟩).cells (G-(n+1)))=(xs.take k++zs).toArray:=by
     rw[<-hzs];simp
    rw[hcells];have hl0:(xs.take k++zs).length=G:=by rw[E9,P6,hzl];omega
    have g0:=heap_alloc_new w (.cells (xs.take k++zs).toArray ty (0,0));have g1:=A3y [str u] k (w.alloc (.cells (xs.take k++zs).toArray ty (0,0))).drew (xs.take k++zs) g0 (by simp[hl0];omega);have g2:=A3y (xs.drop k) (k+1) (((w.alloc (.cells (xs.take k++zs).toArray ty (0,0))).drew.setCells w.heap.size k [str u]).drew) _ g1 (by simp[hzl,hdl];omega);have kk:Kept [] w ((((w.alloc (.cells (xs.take k++zs).toArray ty (0,0))).drew.setCells w.heap.size k [str u]).drew).setCells w.heap.size (k+1) (xs.drop k)):=by
     refine Kept.step (Y:= [w.heap.size]) (Kept.alloc w (.cells (xs.take k++zs).toArray ty (0,0))) ?_ (fun x hx=> .inr (by simp at hx;omega))
     exact((Kept.drew _).mono (fun _ h=>by cases h)).trans ((A3z _ _ _ _).trans (((Kept.drew _).mono (fun _ h=>by cases h)).trans (A3z _ _ _ _)))
    refine fresh _ G _ kk g2 ?_ hge hGm ?_
    ·simp only[E9,P6,A0r,F9,List.length_nil,hzl]
     omega
    ·have e1:(xs.take k++zs).take k=xs.take k:=by
      rw[A14 (by rw[P6];omega),A3c,Nat.min_self]
     rw[e1];have e2:(xs.take k++([str u]++(xs.take k++zs).drop (k+ [str u].length))).take (k+1)=xs.take k++ [str u]:=by
      rw[<-O4,A14 (by rw[E9,P6];simp;omega),A0q (by rw[E9,P6];simp;omega)]
     rw[e2, <-O4,A14 (by simp only[E9,P6,hdl,A1w];omega),A0q (by simp only[E9,P6,hdl,A1w];omega),O4];rfl
   ·obtain rfl:k=n:=by omega
    refine⟨Calls.mono (Proofs.Any2.slices_Insert_string_end_grow L (some ⟨g,0,none⟩) k k vb 0 1 1 xs [str u] w (by omega) (by omega) (by omega) (by omega) hxl rfl (fun h=>by cases h) (fun ad had j v hj=>by cases had;rw[Addr.add_lit];exact hcell j v hj) hvc hu) (fun e w' q=>?_)⟩
    obtain⟨rfl,rfl⟩:=q;rw[hty];have hge:=grownCap_ge w (k+1) k ty;exact fresh _ (grownCap w (k+1) k ty) ((xs++ [str u])++(Builtin.zeroCells (Value.string ⟨#[]⟩).cells (grownCap w (k+1) k ty-(k+1))).toList) ((Kept.drew w).trans (Kept.alloc _ _)) (by rw[show w.heap.size=w.drew.heap.size from rfl,heap_alloc_new];simp) (by rw[E9,B6H];simp[hxl];omega) hge (grownCap_le_maxLen w _ _ _ hml)
     (by rw[A14 (by simp[hxl]),A0q (by simp[hxl]),A0q (l:=xs) (by omega),A4D (l:=xs) (by omega)])
end
section
variable {P:Program}{N:Nat}{ds:List Deferred}{Q:Exit->Act->World->Prop}{l:Log}{w:World}{ops:Array Oper}{os:List Oper}
variable {d:Nat}{ty:TypeId}{pos:String}{af:Array Edge}{g:Option (Nat×Bool)}{t:TypeId}{x y:Operand}{E:Ent}{I:P7}{H:List HItem}
end
section
variable {P:Program}{N:Nat}{ds:List Deferred}{Q:Exit->Act->World->Prop}{l:Log}{w w0:World}{ops:Array Oper}{os tail:List Oper}{X:List Nat}
variable {d:Nat}{ty:TypeId}{pos:String}{af:Array Edge}{g:Option (Nat×Bool)}{t:TypeId}{x y:Operand}{E:Ent}{I I0:P7}{H G R:List HItem}{m' f:Nat}{listed:Array Bool}
theorem C2r {e:TypeId}{sz by_ n:Nat} [TySlice P t e] [Elem P e sz by_] {ps:List (Nat×Operand)}{vs:List (Nat×Value)}{a:Act} (ha:Fits N ds l a) (hx:evp l ps=some vs)
  (hi:vs.map (·.1)=List.range' 0 n) (hs:vs.all (fun p=>Nat.beq p.2.cells.toList.length sz)=true) (hn:n *sz<=16777216):
  (execOp a.eval ⟨some d,.buildSlice t n ps.toArray,ty,pos,af,g⟩).run P w=.ok (.value (.slice (some ⟨w.heap.size,0,none⟩) n n)) (w.alloc (.cells (vs.flatMap (·.2.cells.toList)).toArray e (0,0))):=by
 obtain⟨i,z,hi',hz,hs',hby,hzc,hpos⟩:=Elem.out (P:=P) (e:=e);have h6:=fun w=>run_underlying (P:=P) (w:=w) (TySlice.out (P:=P) (t:=t))
 have hlen:vs.length=n:=by have:=congrArg List.length hi;simpa using this
 have hf:=B3o sz vs 0 ((List.range (n *sz)).map (fun j=>z.cells[j % z.cells.size]!)) (by rw[hlen];exact hi) (by simp[hlen]) (fun p hp=>by
  have:=A2U.1 hs p hp;exact A3S this)
 simp only[A1o,A0a,P9]at hf;have e1:=ha.evp hx;have hz0:¬(2 ^ 24<n *sz):=by omega
 have e2:(Array.range (n *sz)).map (fun j=>z.cells[j % z.cells.size]!)=((List.range (n *sz)).map (fun j=>z.cells[j % z.cells.size]!)).toArray:=by
  apply Array.ext';simp
 simp only[execOp,Instr.buildSlice];by_cases hz1:n *sz=0
 ·have hn0:n=0:=by
   rcases Nat.mul_eq_zero.1 hz1 with h|h
   ·exact h
   ·omega
  subst hn0;have:vs= []:=A07 hlen;subst this;have e4:Array.range 0= #[]:=rfl;simp[e1,h6,sizeOf,typeInfo,hi',Instr.fill,newRow,newObj,e4]
  rfl
 ·simp[e1,h6,sizeOf,typeInfo,hi',hs',zeroValue,hz,hz0,newRow,newObj,e2,hf]
  rw[if_neg hz1]
  rfl
theorem C0r {sz:Nat}:∀(vs:List (Nat×Value)),vs.all (fun p=>Nat.beq p.2.cells.toList.length sz)=true->(vs.flatMap (·.2.cells.toList)).length=vs.length *sz
 | [],_=>by simp
 |p::vs,h=>by
  rw[List.all_cons,V5]at h;rw[A0b,E9,C0r vs h.2,A3S h.1,F9,A1D];omega
end
end Go.Fw
namespace Go.Sp
theorem B5y {s:List UInt8}{a b:Tok} (ha:a∈V3 s) (hb:b∈V3 s) (h:a.pos<=b.pos):a=b\/a.pos+a.text.length<=b.pos:=by
 obtain⟨i,hi,rfl⟩:=A1y ha;obtain⟨j,hj,rfl⟩:=A1y hb;rcases Nat.lt_trichotomy i j with h1|h1|h1
 ·exact .inr (A2e.1 (A4s s) i j hi hj h1)
 ·subst h1;exact .inl rfl
 ·have h2:=A2e.1 (A4s s) j i hj hi h1
  have h3:=(A2G s _ hb).len;omega
theorem B6u {s:List UInt8}{a b:Nat}{n m:List UInt8} (h1:A0S s a n) (h2:A0S s b m) (hn:n≠ []) (hm:m≠ []) (h:a<b):a+n.length<=b:=by
 obtain⟨_,k,hk⟩:=h1.2.2 hn;obtain⟨_,j,hj⟩:=h2.2.2 hm;rcases B5y hk hj (Nat.le_of_lt h) with h3|h3
 ·injection h3 with _ _ h3;omega
 ·exact h3
theorem B2o {s:List UInt8}{a:Nat}{n m:List UInt8} (h1:A0S s a n) (h2:A0S s a m) (hn:n≠ []) (hm:m≠ []):n=m:=by
 obtain⟨_,k,hk⟩:=h1.2.2 hn;obtain⟨_,j,hj⟩:=h2.2.2 hm;rcases B5y hk hj (H6 _) with h3|h3
 ·injection h3
 ·have:0<n.length:=A3W.2 hn
  simp only at h3;omega
def C2M (s:List UInt8) (d:Pl):Prop:=d.name≠ []/\∃p:Nat,d.at_=p/\A0S s p d.name
section
variable {s q:List UInt8}{p:Nat}
mutual
theorem C4Z (hb:A8W s p q):∀(x:Stm),x.all (stE q) (stS q)->∀d∈B2p p x,C2M s d
 | .mk k nm a lb o e thn els f t,h,d,hd=>by
  rw[Stm.all]at h;rw[B2p,Z9,Z9]at hd;rcases hd with hd|hd|hd
  ·split at hd
   ·rename_i hk
    obtain rfl:=A0B.1 hd;exact⟨hk.2,p+a,by simp,hb _ _ (h.1 (.inl hk.1))⟩
   ·cases hd
  ·exact A9T hb thn h.2.2.1 d hd
  ·exact A9T hb els h.2.2.2 d hd
theorem A9T (hb:A8W s p q):∀(l:List Stm),Y0 (stE q) (stS q) l->∀d∈A01 p l,C2M s d
 | [],_,d,hd=>by rw[A01]at hd;cases hd
 |x::l,h,d,hd=>by
  rw[Y0]at h;rw[A01,Z9]at hd;rcases hd with hd|hd
  ·exact C4Z hb x h.1 d hd
  ·exact A9T hb l h.2 d hd
 end
theorem C5W {it:Itm} (h:ItS s p q it):∀d∈B9l it,C2M s d:=by
 intro d hd;rw[B9l]at hd;split at hd
 ·cases hd
 ·rename_i hn
  rw[h.at_,U8,Z9]at hd;rcases hd with rfl|hd|hd
  ·exact⟨fun e=>hn (.inr e),p+it.mark,by simp,h.sub _ _ h.mark⟩
  ·obtain⟨x,hx,hd⟩:=A6N.1 hd
   rw[A6e]at hd;split at hd
   ·rename_i hx0
    obtain rfl:=A0B.1 hd;exact⟨hx0,p+x.at_,by simp,h.sub _ _ (h.params x hx)⟩
   ·cases hd
  ·exact A9T h.sub it.body h.body d hd
theorem B7O {its:List Itm} (h:∀it∈its,A8U s it):∀d∈A3s its,C2M s d:=by
 intro d hd;obtain⟨it,hi,hd⟩:=A6N.1 hd;obtain⟨p,q,h1⟩:=h it hi;exact C5W h1 d hd
end
theorem B81 (d:List Int) (h:d.Pairwise (· <= ·)):∀m,m<=d.length->(Go.Lib.compactUpTo d.toArray m).Pairwise (· < ·)/\(∀x∈Go.Lib.compactUpTo d.toArray m,x∈d/\∃j,j<m/\x=d.getD j 0)/\(∀j,j<m->d.getD j 0∈Go.Lib.compactUpTo d.toArray m):=by
 have hget:∀j,d.toArray[j]! =d.getD j 0:=fun j=>by
  rw[getElem!_def,A2R,O5];cases d[j]? <;>rfl
 have hle:∀i j,i<=j->j<d.length->d.getD i 0<=d.getD j 0:=fun i j h1 h2=>by
  rw[O5,O5,G6 h2,G6 (by omega)];rcases U2 i j with h3|h3
  ·exact A2e.1 h i j (by omega) h2 h3
  ·obtain rfl:i=j:=by omega
   exact Int.le_refl _
 intro m;induction m with
 |zero=>intro _;simp[Go.Lib.compactUpTo]
 |succ m ih=>
  intro hm;obtain⟨i1,i2,i3⟩:=ih (by omega);rw[Go.Lib.compactUpTo_succ];have hmem:d.getD m 0∈d:=by
   rw[O5,G6 (by omega)];exact O6 _
  split
  ·rename_i hk
   rw[hget];refine⟨A2u.2 ⟨i1,B0y _ _,fun x hx y hy=>?_⟩,fun x hx=>?_,fun j hj=>?_⟩
   ·obtain rfl:=A0B.1 hy
    obtain⟨_,j,hj,rfl⟩:=i2 x hx;have hk2:d.getD m 0≠d.getD (m-1) 0:=by
     simp only[Go.Lib.keeps,hget]at hk;have:m≠0:=by omega
     simpa[this] using hk
    have h1:=hle (m-1) m (by omega) (by omega);have h2:=hle j (m-1) (by omega) (by omega);omega
   ·rcases Z9.1 hx with hx|hx
    ·obtain⟨h1,j,hj,h2⟩:=i2 x hx
     exact⟨h1,j,by omega,h2⟩
    ·obtain rfl:=A0B.1 hx
     exact⟨hmem,m,by omega,rfl⟩
   ·rcases U2 j m with h1|h1
    ·exact A1x _ (i3 j h1)
    ·obtain rfl:j=m:=by omega
     exact A1P _ (A0B.2 rfl)
  ·rename_i hk
   rw[J3];refine⟨i1,fun x hx=>?_,fun j hj=>?_⟩
   ·obtain⟨h1,j,hj,h2⟩:=i2 x hx
    exact⟨h1,j,by omega,h2⟩
   ·rcases U2 j m with h1|h1
    ·exact i3 j h1
    ·obtain rfl:j=m:=by omega
     simp only[Go.Lib.keeps,hget]at hk;by_cases h0:j=0
     ·simp[h0]at hk
     ·have:d.getD j 0=d.getD (j-1) 0:=by simpa[h0] using hk
      rw[this];exact i3 _ (by omega)
theorem B5f (its:List Itm) (df:Int):(A38 its df).Pairwise (· < ·)/\∀x,x∈A38 its df↔x=df\/∃u∈A11 its,u.df=df/\u.fr=x:=by
 have hs:((df::A3L (A11 its) df).mergeSort (fun x y=>decide (x<=y))).Pairwise (· <= ·):=by
  have:=List.pairwise_mergeSort (le:=fun x y:Int=>decide (x<=y)) (fun a b c h1 h2=>by simp only[decide_eq_true_eq]at *;omega) (fun a b=>by simp only[Bool.or_eq_true,decide_eq_true_eq];omega) (df::A3L (A11 its) df);simpa using this
 have hmem:∀x,x∈(df::A3L (A11 its) df).mergeSort (fun x y=>decide (x<=y))↔x=df\/∃u∈A11 its,u.df=df/\u.fr=x:=fun x=>by
  rw[List.mem_mergeSort,U8,A3L,A0x];simp only[List.mem_filter,decide_eq_true_eq,and_assoc]
 rw[A38];generalize (df::A3L (A11 its) df).mergeSort (fun x y=>decide (x<=y))=d at hs hmem;obtain⟨h1,h2,h3⟩:=B81 d hs d.length (H6 _);have e:Go.Lib.compact d=Go.Lib.compactUpTo d.toArray d.length:=by simp[Go.Lib.compact]
 rw[e];refine⟨h1,fun x=>⟨fun hx=>(hmem x).1 (h2 x hx).1,fun hx=>?_⟩⟩
 obtain⟨j,hj,rfl⟩:=A1y ((hmem x).2 hx);have:=h3 j hj
 rwa [O5,G6 hj]at this
theorem C2j {s:List UInt8}{its:List Itm} (h:∀it∈its,A8U s it) {at_ df:Int} (hd:B7j its at_=some df):∃n,n≠ []/\(∀x∈A38 its df,∃p:Nat,x=p/\A0S s p n)/\(B56 (A3s its) df= []\/B56 (A3s its) df=n):=by
 have hu:=B8D h;have hm:=B7O h;obtain⟨n,p,hn,hp,hst⟩:∃(n:List UInt8) (p:Nat),n≠ []/\df=p/\A0S s p n:=by
  rw[B7j]at hd;split at hd
  ·rename_i u hu2
   injection hd with hd
   obtain⟨f,d,n,h1,h2,h3,h4,h5,h6⟩:=hu u (B0x hu2);exact⟨n,d,h4,by omega,h6⟩
  ·cases hf:B9U (A3s its) at_ with
   |none=>rw[hf]at hd;cases hd
   |some d=>
    rw[hf]at hd;simp only[A1T,U4]at hd;obtain⟨h1,p,h2,h3⟩:=hm d (B0x hf);exact⟨d.name,p,h1,by omega,h3⟩
 refine⟨n,hn,fun x hx=>?_,?_⟩
 ·rcases((B5f its df).2 x).1 hx with rfl|⟨u,hu1,hu2,rfl⟩
  ·exact⟨p,hp,hst⟩
  ·obtain⟨f,d,m,h1,h2,h3,h4,h5,h6⟩:=hu u hu1
   have:d=p:=by omega
   subst this;obtain rfl:=B2o h6 hst h4 hn;exact⟨f,h1,h5⟩
 ·have hfold:∀(l:List Pl) (o:List UInt8),(∀d∈l,C2M s d)->(o= []\/o=n)->(l.foldl (fun o d=>if d.at_=df then d.name else o) o= []\/l.foldl (fun o d=>if d.at_=df then d.name else o) o=n):=by
   intro l;induction l with
   |nil=>intro o _ h;exact h
   |cons d l ih=>
    intro o hl ho;rw[A1g];refine ih _ (fun x hx=>hl x (A0L _ hx)) ?_
    split
    ·rename_i he
     obtain⟨h1,p',h2,h3⟩:=hl d Q5;have:p'=p:=by omega
     subst this;exact .inr (B2o h3 hst h1 hn)
    ·exact ho
  exact hfold _ _ hm (.inl rfl)
theorem B7e (s nm:List UInt8) (n:Nat) (z:Int):∀(l:List Int) (x:List UInt8×Int),A6f s nm n (l++ [z]) x=((A6f s nm n l x).1++((s.drop (A6f s nm n l x).2.toNat).take (z.toNat-(A6f s nm n l x).2.toNat)++nm),z+n)
 | [],x=>rfl
 |k::l,x=>by rw[X3,A6f,A6f,B7e s nm n z l]
theorem B4G (s nm:List UInt8) (n:Nat) {l:List Int}{k:Nat}{z:Int} (h:l[k]?=some z) (x:List UInt8×Int):A6f s nm n (l.take (k+1)) x=((A6f s nm n (l.take k) x).1++((s.drop (A6f s nm n (l.take k) x).2.toNat).take (z.toNat-(A6f s nm n (l.take k) x).2.toNat)++nm),z+n):=by
 rw[Q9 h,B7e]
theorem C3h {s nm m:List UInt8}{l:List Int} (hup:l.Pairwise (· < ·)) (hl:∀x∈l,∃p:Nat,x=p/\A0S s p m) (hm:m≠ []) (n:Nat) (hn:n=0\/n=m.length):∀k,k<=l.length->
  0<=(A6f s nm n (l.take k) ([],0)).2/\(A6f s nm n (l.take k) ([],0)).2<=s.length/\(∀z,l[k]?=some z->(A6f s nm n (l.take k) ([],0)).2<=z/\z<=s.length)/\((A6f s nm n (l.take k) ([],0)).1.length:Int)<=(A6f s nm n (l.take k) ([],0)).2+(k *nm.length:Nat):=by
 have hin:∀(j:Nat) (z:Int),l[j]?=some z->∃p:Nat,z=p/\A0S s p m:=fun j z h=>hl z (A0J h)
 intro k;induction k with
 |zero=>
  intro _;rw[A0a,A6f];refine⟨Int.le_refl _,Int.natCast_nonneg _,fun z hz=>?_,by simp⟩
  obtain⟨p,h1,h2,_⟩:=hin _ _ hz;dsimp only;omega
 |succ k ih=>
  intro hk;obtain⟨i1,i2,i3,i4⟩:=ih (by omega);have hg:l[k]?=some l[k]:=G6 (by omega);obtain⟨i5,i6⟩:=i3 _ hg;obtain⟨p,hp,hst⟩:=hin _ _ hg;rw[B4G s nm n hg];generalize A6f s nm n (l.take k) ([],0)=c at i1 i2 i4 i5;have hml:=hst.1;refine⟨by dsimp only;omega,by dsimp only;omega,fun z hz=>?_,?_⟩
  ·obtain⟨p2,hp2,hst2⟩:=hin _ _ hz
   have hlt:l[k]<z:=by
    obtain⟨hk1,rfl⟩:=A0y.1 hz;exact A2e.1 hup k (k+1) (by omega) hk1 (by omega)
   have:=B6u hst hst2 hm hm (by omega);have:=hst2.1;dsimp only;omega
  ·dsimp only
   rw[E9,E9,P6,A0r,Nat.succ_mul];omega
end Go.Sp
namespace Go.Fw
open Go.Sp
open Go
section
variable {P:Program}{N:Nat}{ds:List Deferred}{Q:Exit->Act->World->Prop}{l:Log}{w:World}{ops:Array Oper}{os:List Oper}
variable {d:Nat}{ty:TypeId}{pos:String}{af:Array Edge}{g:Option (Nat×Bool)}{t t':TypeId}{x:Operand}
theorem B3Y {w:World}{e:TypeId} (hT:P.underlying t=some (.pointer e)) (a:Option Addr):(Op.equal t (.pointer a) (.pointer none)).run P w=.ok a.isNone w:=by
 have h1:=run_underlying (P:=P) (w:=w) hT;show (Op.equalIn (9999+1) t (.pointer a) (.pointer none)).run P w=_
 rw[Op.equalIn];cases a<;>simp[h1]
theorem A3w {e:TypeId} (hT:P.underlying t=some (.pointer e)) {a:Option Addr}{k0:Value} (hw:U7 ops l ⟨some d,.binOp .eql t x (.const k0) t',ty,pos,af,g⟩=some true) (hN:Nat.blt d N=true)
  (hx:ev l x=some (.pointer a)) (hk:k0=.pointer none) (k:WL P N ds ops Q os ((d,.bool a.isNone)::l) w):WL P N ds ops Q (⟨some d,.binOp .eql t x (.const k0) t',ty,pos,af,g⟩::os) l w:=
 U6 rfl hw hN (fun c hc=>by
  subst hk;have e2:c.eval (.const (.pointer none))=.pointer none:=rfl;simp[execOp,hc.ev hx,e2,eqGuard,binOp,B3Y hT a]) k
end
end Go.Fw
namespace Go.Sp
def InT (T:Src) (a b:Nat) (L:List Nat):Prop:= ∃js:List Nat,js.Pairwise (· < ·)/\(∀j∈js,a<=j/\j<b/\j<T.l.length)/\L=js.map (fun j=>(T.tok j).pos)
theorem InT.nil (T:Src) (a b:Nat):InT T a b []:=⟨[],.nil,fun _ h=>(by cases h),rfl⟩
theorem InT.one {T:Src}{a b:Nat} (h:a<b) (hl:a<T.l.length):InT T a b [(T.tok a).pos]:=⟨[a],B0y _ _,fun j hj=>by obtain rfl:=A0B.1 hj;omega,rfl⟩
theorem InT.app {T:Src}{a b b' c:Nat}{L R:List Nat} (h:InT T a b L) (g:InT T b' c R) (hb:b<=b') (hab:a<=b) (hc:b'<=c):InT T a c (L++R):=by
 obtain⟨js,h1,h2,rfl⟩:=h;obtain⟨ks,g1,g2,rfl⟩:=g;refine⟨js++ks,A2u.2 ⟨h1,g1,fun x hx y hy=>?_⟩,fun j hj=>?_,by rw[Y8]⟩
 ·have:=h2 x hx;have:=g2 y hy;omega
 ·rcases Z9.1 hj with hj|hj
  ·have:=h2 j hj;omega
  ·have:=g2 j hj;omega
theorem InT.mono {T:Src}{a b a' b':Nat}{L:List Nat} (h:InT T a b L) (ha:a'<=a) (hb:b<=b'):InT T a' b' L:=by
 obtain⟨js,h1,h2,rfl⟩:=h;exact⟨js,h1,fun j hj=>(by have:=h2 j hj;omega),rfl⟩
theorem B46:∀(l r:List Stm),A1c (l++r)=A1c l++A1c r
 | [],r=>by rw[P9,A1c,P9]
 |x::l,r=>by rw[X3,A1c,A1c,B46 l r,O4]
theorem C1U (x:Stm):A1c [x]=x.lets:=by rw[A1c,A1c,J3]
theorem A6o {k:Nat}{nm:List UInt8}{a lb:Nat}{o:Bool}{e:Ex}{f t:Nat} (hk:k≠1):(Stm.mk k nm a lb o e [] [] f t).lets= []:=by rw[Stm.lets,if_neg hk,A1c];rfl
theorem B3F (T:Src):∀f,(∀d s,InT T s.i (block T f d s).2.i (A1c (block T f d s).1))/\(∀d l s a,a<=s.i->InT T a s.i (A1c l)->InT T a (A4r T f d l s).2.i (A1c (A4r T f d l s).1))/\
  (∀d s,InT T s.i (stm T f d s).2.i (stm T f d s).1.lets)
 |0=>⟨fun _ _=>by rw[block];dsimp only;rw[A1c];exact .nil _ _ _,fun _ _ _ _ _ h=>by rw[A4r];exact h,
   fun _ s=>by rw[stm];show InT T s.i s.i (Stm.mk 0 [] 0 0 false (.mk 0 [] 0 [] 0 0) [] [] 0 0).lets;rw[A6o (by decide)];exact .nil _ _ _⟩
 |f+1=>by
  obtain⟨hB,hL,hS⟩:=B3F T f;obtain⟨gB,gL,gS⟩:=A13 T f;have gE:=(A06 T f).2.2.1;refine⟨fun d s=>?_,fun d l s a ha h=>?_,fun d s=>?_⟩
  ·rw[block]
   split
   ·dsimp only;rw[A1c];exact .nil _ _ _
   ·split
    ·dsimp only;rw[A1c];exact .nil _ _ _
    ·have h1:=hL (d+1) [] s.next s.next.i (H6 _) (by rw[A1c];exact .nil _ _ _)
     have h3:=A3k T (A4r T f (d+1) [] s.next).2 [125];exact h1.mono (by rw[Q7];omega) h3
  ·rw[A4r]
   split
   ·exact h
   ·split
    ·exact h
    ·have h1:=hS d s
     have h2:=(gS d s).le;try dsimp only
     have h3:InT T a (stm T f d s).2.i (A1c (l++ [(stm T f d s).1])):=by
      rw[B46,C1U];exact h.app h1 (H6 _) ha h2
     split
     ·rename_i he
      exact hL d _ _ a (by rw[Q7];omega) (h3.mono (H6 _) (by rw[Q7];omega))
     ·exact hL d _ _ a (by omega) h3
  ·rw[stm]
   dsimp only
   split
   ·rename_i hlet
    have hlt:s.i<T.l.length:=A2g (by rw[hlet];decide);have h1:=(A1f T s.next).le;rw[Q7]at h1;generalize s.next.named T=r at h1 |-;generalize hr1:(if (!T.is r.2.i [58])=true then (0,r.2) else lab T r.2.next)=r1;have h2:r.2.i<=r1.2.i:=by
     rw[<-hr1];split
     ·exact H6 _
     ·have:=(A3q T r.2.next).le
      rw[Q7]at this;omega
    have h3:=A3k T r1.2 [61];have h5:=(gE d 1 (r1.2.need T [61]).2).le;have h6:=A3k T (A0Q T f d 1 (r1.2.need T [61]).2).2 [59];try dsimp only
    rw[Stm.lets,A1c,if_pos rfl];exact InT.one (by omega) hlt
   ·split
    ·have h2:=(gE d 1 s.next).le
     rw[Q7]at h2;generalize A0Q T f d 1 s.next=r at h2 |-;have h3:=hB d r.2;have h4:=(gB d r.2).le;generalize block T f d r.2=r1 at h3 h4 |-;split
     ·have h5:=hB d r1.2.next
      have h6:=(gB d r1.2.next).le;rw[Q7]at h5 h6;try dsimp only
      rw[Stm.lets,if_neg (by decide),P9];exact(h3.app h5 (by omega) (by omega) (by omega)).mono (by omega) (H6 _)
     ·try dsimp only
      rw[Stm.lets,A1c,if_neg (by decide),P9,J3];exact h3.mono (by omega) (H6 _)
    ·split
     ·have h2:=(gE d 1 s.next).le
      rw[Q7]at h2;generalize A0Q T f d 1 s.next=r at h2 |-;have h3:=hB d r.2;try dsimp only
      rw[Stm.lets,A1c,if_neg (by decide),P9,J3];exact h3.mono (by omega) (H6 _)
     ·split
      ·try dsimp only
       rw[A6o (by decide)];exact .nil _ _ _
      ·split
       ·try dsimp only
        rw[A6o (by decide)];exact .nil _ _ _
       ·split
        ·split
         ·try dsimp only
          rw[A6o (by decide)];exact .nil _ _ _
         ·try dsimp only
          rw[A6o (by decide)];exact .nil _ _ _
        ·show InT T s.i _ (Stm.mk _ _ _ _ _ _ [] [] _ _).lets
         rw[A6o (by decide)];exact .nil _ _ _
theorem C1M {src:List UInt8}{a b:Nat}{L:List Nat} (ha:1<=a) (h:InT ⟨V3 src,src.length⟩ a b L):L.Nodup/\0∉L:=by
 obtain⟨js,h1,h2,rfl⟩:=h;have hs:=A2e.1 (A4s src);have key:∀i j,i<j->j<(V3 src).length->((Src.mk (V3 src) src.length).tok i).pos<((Src.mk (V3 src) src.length).tok j).pos:=fun i j hij hj=>by
  have hi:i<(V3 src).length:=by omega
  have h3:=hs i j hi hj hij;have h4:=(A2G src _ (O6 hi)).len;rw[Src.tok,Src.tok];dsimp only
  rw[O5,O5,G6 hi,G6 hj];show (V3 src)[i].pos<(V3 src)[j].pos
  omega
 refine⟨?_,fun h0=>?_⟩
 ·rw[List.Nodup,List.pairwise_map]
  refine h1.imp_of_mem (fun {x y} hx hy hxy=>?_)
  have:=key x y hxy (h2 y hy).2.2;omega
 ·obtain⟨j,hj,e⟩:=A0x.1 h0
  have:=h2 j hj;have:=key 0 j (by omega) this.2.2;omega
theorem C1P (src:List UInt8) (at_:Int):(A1c (item src at_).body).Nodup/\0∉A1c (item src at_).body:=by
 have hnil:(A1c []).Nodup/\0∉A1c []:=by rw[A1c];exact⟨List.nodup_nil,fun h=>(by cases h)⟩
 rw[item];generalize hT:(⟨V3 src,src.length⟩:Src)=T;dsimp only
 split
 ·rename_i hfn
  have h0:=A1O hfn;dsimp only[A6d];have h1:=A1f T ⟨1,[]⟩;have t1:=h1.top (show 1<=_ by omega);have l1:1<=_:=h1.le;generalize (⟨1,[]⟩:St).named T=r at t1 l1 |-;have t2:=A7F [40] t1;have l2:=A3k T r.2 [40];generalize (r.2.need T [40]).2=s1 at t2 l2 |-;have h3:=(A9m T 6 [] s1 (by simp)).2 t2;generalize A4G T 6 [] s1=r2 at h3 |-;have t4:=A7F [41] h3.2.1;have l4:=A3k T r2.2 [41];generalize (r2.2.need T [41]).2=s3 at t4 l4 |-;have t5:=A7F [58] t4;have l5:=A3k T s3 [58];generalize (s3.need T [58]).2=s4 at t5 l5 |-;have g6:=A3q T s4;have t6:=g6.top t5;have l6:=g6.le;clear g6;generalize lab T s4=r5 at t6 l6 |-;generalize hr6:(if T.is r5.2.i [115,101,110,100,115]=true then A4J T 6 [] r5.2.next else ([],r5.2))=r6;have l7:r5.2.i<=r6.2.i:=by
   rw[<-hr6];split
   ·rename_i hs
    have:=A1O hs;have:=((A9x T 6 [] r5.2.next (by simp)).2 (by rw[Q7];omega)).1;rw[Q7]at this;omega
   ·exact H6 _
  have h8:=(B3F T (A7m T)).1 0 r6.2;have h9:=h3.1;subst hT;exact C1M (by omega) h8
 ·split
  ·exact hnil
  ·exact hnil
end Go.Sp
namespace Go.Fw
open Go.Sp
open Go
section
variable {P:Program}{N:Nat}{ds:List Deferred}{Q:Exit->Act->World->Prop}{l:Log}{w:World}{ops:Array Oper}{os:List Oper}
variable {d:Nat}{ty:TypeId}{pos:String}{af:Array Edge}{g:Option (Nat×Bool)}{t t':TypeId}{x:Operand}
theorem A5L {e:TypeId} (hT:P.underlying t=some (.pointer e)) {a:Option Addr}{k0:Value} (hw:U7 ops l ⟨some d,.binOp .neq t x (.const k0) t',ty,pos,af,g⟩=some true) (hN:Nat.blt d N=true)
  (hx:ev l x=some (.pointer a)) (hk:k0=.pointer none) (k:WL P N ds ops Q os ((d,.bool a.isSome)::l) w):WL P N ds ops Q (⟨some d,.binOp .neq t x (.const k0) t',ty,pos,af,g⟩::os) l w:=
 U6 rfl hw hN (fun c hc=>by
  subst hk;have e2:c.eval (.const (.pointer none))=.pointer none:=rfl;have e3:(!a.isNone)=a.isSome:=by cases a<;>rfl
  simp[execOp,hc.ev hx,e2,eqGuard,binOp,B3Y hT a,e3]) k
end
end Go.Fw
namespace Go.Proofs
open Go.Proofs.Tryz
open Go.Sp
open Go.Fw
theorem C4f (fi:FuncId) [Own prog fi] (ca:List Value) (F:Sp.Rf->Bool) (l:List Sp.Rf) (hl:l.length<=1000000000) (I:P7) (a:Option Addr) (cp:Nat) (hr:RowI I 118 2 (.slice a l.length cp) l.length (l.flatMap A2Y))
  (hF:∀I',Le I I'->∀x,CalM prog fi (.agg (A2Y x).toArray::ca).toArray I' [] (fun v _ H'=>v=.bool (F x)/\H'= [])):
  CalM prog 86 #[.slice a l.length cp,.func (.func fi) #[] ca.toArray] I [] (fun v _ H'=>v=.int .i64 (match l.findIdx? F with|some j=>(j:Int)|none=> -1)/\H'= []):=by
 refine CalM.of fun w E hm=>enter (N:=19) func86 rfl [(0,.slice a l.length cp),(1,.func (.func fi) #[] ca.toArray)] A0T rfl ?_
 repeat' (first|refine D8 ?_|refine D6 ?_|refine G7 ?_|refine D9 ?_|refine A7 ?_|refine E5 ?_|refine A8 ?_|refine F5 ?_)
 refine U0 (fun x:NI=> [(0,.slice a l.length cp),(1,.func (.func fi) #[] ca.toArray),(7,nt l.length),(8,nt x.k)])
  (fun x w'=>Mem E x.I [] w'/\Le I x.I/\x.k<=l.length/\∀j it',j<x.k->l[j]?=some it'->F it'=false) (fun x=>l.length-x.k) ⟨0,I⟩ (by exact⟨rfl,rfl,rfl,rfl,trivial⟩) ⟨hm,Le.refl _,H7 _,fun j _ hj=>absurd hj (Nat.not_lt_zero j)⟩ ?_
 clear hm;rintro⟨k,I1⟩ w1 ⟨hm,hle1,hk,hno⟩;dsimp only at hm hle1 hk hno |-;by_cases hlt:k<l.length
 ·have hg:l[k]?=some l[k]:=G6 hlt
  have hri:=hr.le hle1;have hc:=hF I1 hle1 l[k];have hgk:l[((k:Nat):Int).toNat]?=some l[k]:=hg;generalize l[k]=x at hg hc hgk;cases hb:F x with
  |true=>
   rw[hb]at hc;repeat' (first|refine Q8 (d:=14) (enc:=A2Y) (z:=x) ?_ (hr:=hri) (he:=fun _=>rfl) (hz:=hgk);intro bt ot hpt|refine X0 (d:=15) ?_ hm (hp:=hpt)|refine B2P (d:=16) ?_ hm (hp:=pm0) (hc:=by exact hc);clear hm;rintro _ I2 _ _ ⟨rfl,rfl⟩ hle hm|refine D8 ?_|refine D6 ?_|refine J6 ?_|refine D9 ?_|refine A7 ?_|refine G8 ?_|refine O3 ?_|refine E5 ?_|refine A8 ?_|refine F5 ?_|refine G5 ?_|refine H9 ?_|refine J9 ?_|refine H5 ?_|(refine D5 (ht:=fun _=>?_) (hf:=fun _=>?_)<;>try first|contradiction|omega))
   refine⟨I2,[],⟨?_,rfl⟩,hm.left (H:= [])⟩
   have:l.findIdx? F=some k:=by
    rw[A2q];obtain⟨hk,e⟩:=A0y.1 hg;refine⟨hk,by rw[e];exact hb,fun j hj=>?_⟩
    have:=hno j l[j] hj (G6 (by omega));rw[this];simp
   rw[this]
  |false=>
   rw[hb]at hc;repeat' (first|refine Q8 (d:=14) (enc:=A2Y) (z:=x) ?_ (hr:=hri) (he:=fun _=>rfl) (hz:=hgk);intro bt ot hpt|refine X0 (d:=15) ?_ hm (hp:=hpt)|refine B2P (d:=16) ?_ hm (hp:=pm0) (hc:=by exact hc);clear hm;rintro _ I2 _ _ ⟨rfl,rfl⟩ hle hm|refine D8 ?_|refine D6 ?_|refine J6 ?_|refine P5 ?_|refine D9 ?_|refine A7 ?_|refine D7 ?_|refine E5 ?_|refine A8 ?_|refine F5 ?_|refine G5 ?_|refine F7 ?_|(refine D5 (ht:=fun _=>?_) (hf:=fun _=>?_)<;>try first|contradiction|omega))
   refine L8 (⟨k+1,I2⟩:NI) (by exact⟨rfl,rfl,rfl,rfl,trivial⟩) ⟨hm.left (H:= []),hle1.trans hle,by dsimp only;omega,fun j it' hj hg'=>?_⟩ (by dsimp only;omega)
   rcases U2 j k with hjk|hjk
   ·exact hno j it' hjk hg'
   ·obtain rfl:j=k:=by dsimp only at hj;omega
    rw[hg]at hg';obtain rfl:=A0V hg';exact hb
 ·obtain rfl:k=l.length:=by omega
  repeat' (first|refine D6 ?_|refine J6 ?_|refine D9 ?_|refine A7 ?_|refine H8 ?_|refine G9 ?_|refine E5 ?_|refine A8 ?_|refine P8 ?_|refine H9 ?_|refine J9 ?_|(refine D5 (ht:=fun _=>?_) (hf:=fun _=>?_)<;>try first|contradiction|omega))
  refine⟨I1,[],⟨?_,rfl⟩,hm.left (H:= [])⟩
  have:l.findIdx? F=none:=by
   rw[A3P];intro x hx;obtain⟨j,hj,rfl⟩:=A1y hx;exact hno j _ hj (G6 hj)
  rw[this]
theorem B3L (fi:FuncId) [Own prog fi] (ca:List Value) (F:Sp.Rf->Bool) (l:List Sp.Rf) (hl:l.length<=1000000000) (I:P7) (a:Option Addr) (cp:Nat) (hr:RowI I 118 2 (.slice a l.length cp) l.length (l.flatMap A2Y))
  (hF:∀I',Le I I'->∀x,CalM prog fi (.agg (A2Y x).toArray::ca).toArray I' [] (fun v _ H'=>v=.bool (F x)/\H'= [])):
  CalM prog 62 #[.slice a l.length cp,.func (.func fi) #[] ca.toArray] I [] (fun v _ H'=>v=.bool (l.any F)/\H'= []):=by
 refine CalM.of fun w E hm=>enter (N:=9) func62 rfl [(0,.slice a l.length cp),(1,.func (.func fi) #[] ca.toArray)] A0T rfl ?_
 have hc:=C4f fi ca F l hl I a cp hr hF;have hany:l.any F=decide (0<=(match l.findIdx? F with|some j=>(j:Int)|none=> -1)):=by
  cases h:l.findIdx? F with
  |some j=>
   obtain⟨hj,e,_⟩:=A2q.1 h;rw[A8e.2 ⟨l[j],O6 hj,e⟩];exact(decide_eq_true (show (0:Int)<=(j:Int) by omega)).symm
  |none=>
   rw[A3P]at h;rw[A6M.2 (fun x hx=>by rw[h x hx];simp)]
   rfl
 rw[hany];generalize (match l.findIdx? F with|some j=>(j:Int)|none=> -1)=z at hc;repeat' (first|refine F6 (d:=7) ?_ hm (hc:=hc);clear hm;rintro _ I4 _ _ ⟨rfl,rfl⟩ hle hm;have hleI4:=hle;try simp only[F8]at hm|refine D8 ?_|refine D6 ?_|refine A04 ?_|refine D9 ?_|refine A7 ?_|refine E5 ?_|refine A8 ?_|refine H9 ?_|refine J9 ?_)
 exact⟨I4,[],⟨rfl,rfl⟩,hm.left (H:= [])⟩
theorem B5G (a b:Nat) (ha:a<256) (hb:b<256) (w:World):Cal prog 165 #[.int .i64 a,.int .i64 b] w fun v w'=>v=.bool (B2g a b)/\w'=w:=by
 refine enter (N:=9) func165 rfl [(0,.int .i64 a),(1,.int .i64 b)] A0T rfl ?_
 repeat' (first|refine D8 ?_|refine D6 ?_|refine O0 ?_|refine C2a ?_|refine D9 ?_|refine A7 ?_|refine E5 ?_|refine A8 ?_|refine H9 ?_|refine J9 ?_)
 refine⟨congrArg Value.bool ?_,rfl⟩
 rw[A2K,decide_eq_true_eq,A1j,A1j, <-B6Z ha hb];omega
theorem A7k (a b:Nat) (ha:a<256) (hb:b<256) (w:World):Cal prog 108 #[.int .i64 a,.int .i64 b] w fun v w'=>v=.int .i64 ((a|||b:Nat):Int)/\w'=w:=by
 refine enter (N:=8) func108 rfl [(0,.int .i64 a),(1,.int .i64 b)] A0T rfl ?_
 repeat' (first|refine D8 ?_|refine D6 ?_|refine B7Z ?_|refine D9 ?_|refine A7 ?_|refine E5 ?_|refine A8 ?_|refine H9 ?_|refine J9 ?_)
 exact⟨rfl,rfl⟩
theorem C7m (a b:Nat) (ha:a<256) (hb:b<256) (w:World):Cal prog 119 #[.int .i64 a,.int .i64 b] w fun v w'=>v=.int .i64 ((a &&& b:Nat):Int)/\w'=w:=by
 refine enter (N:=8) func119 rfl [(0,.int .i64 a),(1,.int .i64 b)] A0T rfl ?_
 repeat' (first|refine D8 ?_|refine D6 ?_|refine B57 ?_|refine D9 ?_|refine A7 ?_|refine E5 ?_|refine A8 ?_|refine H9 ?_|refine J9 ?_)
 exact⟨rfl,rfl⟩
structure OpenZ (zs:A1S) (o:Sp.Lab):Prop where
 nodup:(zs.map (·.1)).Nodup
 get:∀n:Nat,B1T zs (n:Int) (.int .i64 0)=nt (o n)
theorem OpenZ.nil:OpenZ [] (fun _=>0):=⟨List.nodup_nil,fun _=>rfl⟩
theorem OpenZ.put {zs:A1S}{o:Sp.Lab} (h:OpenZ zs o) (f n:Nat):OpenZ (A50 zs (f:Int) (nt n)) (Sp.upL o f n):=by
 refine⟨B7U h.nodup,fun m=>?_⟩
 have hg:=h.get m;show (A8M (A50 zs (f:Int) (nt n)) (m:Int)).getD _=nt (if m=f then n else o m)
 rw[B9y _ h.nodup];by_cases e:m=f
 ·subst e;rw[if_pos rfl,if_pos rfl];rfl
 ·rw[if_neg (fun h=>e (by omega)),if_neg e];exact hg
theorem _root_.Go.Fw.pmIn {x y z:HItem}: [x,y,z].Perm [y,z,x]:=A0R (l₁:= [x]) (l₂:= [y,z])
abbrev Loc:=Sp.Li×Value
abbrev A4d (o:Sp.Lab) (p:Loc):List Value:= [str p.1.name,nt (p.1.val o),p.2]
theorem B0X {o:Sp.Lab}:∀ {sc:List Loc}{i:Nat}{p:Loc},sc[i]?=some p->(sc.flatMap (A4d o))[i *3]?=some (str p.1.name)/\(sc.flatMap (A4d o))[i *3+1]?=some (nt (p.1.val o))/\(sc.flatMap (A4d o))[i *3+2]?=some p.2
 | [],i,p,h=>by simp at h
 |a::sc,0,p,h=>by
  simp only[A0z,U4]at h;subst h;exact⟨rfl,rfl,rfl⟩
 |a::sc,i+1,p,h=>by
  rw[A0w]at h;obtain⟨h1,h2,h3⟩:=B0X (o:=o) h;rw[show (i+1) *3=i *3+3 by omega];exact⟨h1,h2,h3⟩
theorem C3W (I:P7) (a b:Nat) (ha:a<256) (hb:b<256):CalR prog 108 #[nt a,nt b] I [] (nt (a|||b)):=
 ⟨fun w _ _=>(A7k a b ha hb w).mono (fun v w' ⟨h1,h2⟩=>⟨h1,by rw[h2];exact Kept.refl _ _⟩)⟩
theorem A7h (w:World):(zeroValue 3).run prog w=.ok (.int .i64 0) w:=by kernel_rfl
abbrev B0k (bd bf:Nat) (sc:List Loc) (o:Sp.Lab) (more:Bool) (sa:Option Addr) (sp bo:Nat) (zs:A1S):List HItem:=
 [.cell bd [ptr bf,.slice sa sc.length sp,.map (some bo),.bool more] 184,.row (.slice sa sc.length sp) 186 3 sc.length (sc.flatMap (A4d o)),.mz bo zs]
def C1o (J:P7) (v:Value) (op:Option Nat):Prop:=(v=.pointer none/\op=none)\/
 ∃(b off tc ec:Nat) (y:Sp.Stm) (ea:Option Addr) (v1 v2:Value),v=.pointer (some ⟨b,off,none⟩)/\PtrI J b off tc (A2N y.kind y.name y.at_ y.label y.opn y.e ea ec v1 v2 y.fr y.to)/\op=A8h y.opn y.fr
theorem C1o.le {J J':P7}{v:Value}{op:Option Nat} (h:C1o J v op) (m:Le J J'):C1o J' v op:=by
 rcases h with h|⟨b,off,tc,ec,y,ea,v1,v2,h1,h2,h3⟩
 ·exact .inl h
 ·exact .inr ⟨b,off,tc,ec,y,ea,v1,v2,h1,h2.le m,h3⟩
section
variable {bd bf sp bo:Nat}{sc:List Loc}{o:Sp.Lab}{more:Bool}{sa:Option Addr}{zs:A1S}
theorem C64 (nm:List UInt8) (I:P7) (hl:sc.length<=1000000000):
  CalM prog 111 #[ptr bd,str nm] I (B0k bd bf sc o more sa sp bo zs) (fun v _ H'=>
   (∃i p b,sc[i]?=some p/\A3B (sc.map (·.1)) nm=some p.1/\sa=some ⟨b,0,none⟩/\v=.pointer (some ⟨b,i *3,none⟩)/\H'=B0k bd bf sc o more sa sp bo zs)\/
   (A3B (sc.map (·.1)) nm=none/\∃bl,v=ptr bl/\H'=.cell bl [str [],nt 0,.pointer none] 186::B0k bd bf sc o more sa sp bo zs)):=by
 refine CalM.of fun w E hm=>enter (N:=34) func111 rfl [(0,ptr bd),(1,str nm)] A0T rfl ?_
 repeat' (first|refine J4 ?_ hm|refine D8 ?_|refine D6 ?_|refine G7 ?_|refine E8 ?_|refine A3l ?_|refine C9 ?_|refine D9 ?_|refine A7 ?_|refine E5 ?_|refine A8 ?_|refine F5 ?_)
 refine U0 (fun x:Nat=> [(0,ptr bd),(1,str nm),(5,.int .i64 ((x:Int)-1))])
  (fun x w'=>Mem E I (B0k bd bf sc o more sa sp bo zs) w'/\x<=sc.length/\∀m y,x<=m->sc[m]?=some y->y.1.name≠nm) (fun x=>x) sc.length (by exact⟨rfl,rfl,rfl,trivial⟩)
  ⟨hm,H6 _,fun m y hm hy=>by rw[A08 hm]at hy;cases hy⟩ ?_
 clear hm;rintro x w1 ⟨hm,hx,hno⟩;try dsimp only at hm hx hno |-
 cases x with
 |zero=>
  repeat' (first|refine A0P (d:=33) ?_ hm;clear hm;intro b33 _ hm|refine D8 ?_|refine D6 ?_|refine A04 ?_|refine Q3 ?_|refine D9 ?_|refine A7 ?_|refine H8 ?_|refine G9 ?_|refine E5 ?_|refine A8 ?_|refine P8 ?_|refine H9 ?_|refine J9 ?_|refine F7 ?_)
  refine⟨I,_,.inr ⟨B7y fun j y hy=>?_,b33,rfl,rfl⟩,hm⟩
  rw[A0e]at hy;cases hs:sc[j]? with
  |none=>rw[hs]at hy;cases hy
  |some p=>
   rw[hs]at hy;obtain rfl:=A0V hy;exact hno j p (H7 _) hs
 |succ i=>
  have hg:sc[i]?=some sc[i]:=G6 hx;generalize sc[i]=p at hg;rw[show ((i+1:Nat):Int)-1=(i:Int) by omega];obtain⟨b,rfl⟩:=(hm.front 1 gt1).rowAddr (by omega);obtain⟨q1,q2,q3⟩:=B0X (o:=o) hg;by_cases hn:p.1.name=nm
  ·skip
   repeat' (first|refine A0W (i:=1) (d:=23) hm (by rfl) (by rfl) (by rfl) gt1 (by rw[W9,A2a];exact q1) ?_|refine J4 ?_ hm|refine D8 ?_|refine D6 ?_|refine A04 ?_|refine V8 ?_|refine E8 ?_|refine C9 ?_|refine A0M (k:=?_)|refine D9 ?_|refine A7 ?_|refine G8 ?_|refine O3 ?_|refine E5 ?_|refine A8 ?_|refine F5 ?_|refine G5 ?_|refine H9 ?_|refine J9 ?_|refine H5 ?_|(refine D5 (ht:=fun _=>?_) (hf:=fun _=>?_)<;>try first|contradiction|omega))
   refine⟨I,_,.inl ⟨i,p,b,hg,B4R (by rw[A0e,hg];rfl) hn (fun j y hj hy=>?_),rfl,by rw[W9,A1j],rfl⟩,hm⟩
   rw[A0e]at hy;cases hs:sc[j]? with
   |none=>rw[hs]at hy;cases hy
   |some p=>
    rw[hs]at hy;obtain rfl:=A0V hy;exact hno j p (by omega) hs
  ·skip
   repeat' (first|refine A0W (i:=1) (d:=23) hm (by rfl) (by rfl) (by rfl) gt1 (by rw[W9,A2a];exact q1) ?_|refine J4 ?_ hm|refine D8 ?_|refine D6 ?_|refine A04 ?_|refine V8 ?_|refine E8 ?_|refine A3l ?_|refine C9 ?_|refine A0M (k:=?_)|refine D9 ?_|refine A7 ?_|refine D7 ?_|refine E5 ?_|refine A8 ?_|refine F5 ?_|refine G5 ?_|refine H5 ?_|(refine D5 (ht:=fun _=>?_) (hf:=fun _=>?_)<;>try first|contradiction|omega))
   refine L8 (i:Nat) (by exact⟨rfl,rfl,rfl,trivial⟩) ⟨hm,by omega,fun m y hm hy=>?_⟩ (by omega)
   rcases U2 i m with h|h
   ·exact hno m y h hy
   ·obtain rfl:m=i:=by omega
    rw[hg]at hy;obtain rfl:=A0V hy;exact hn
theorem B5P (I:P7) (v:Value) (op:Option Nat) (o1:Sp.Lab) (a:Nat) (ha:a<256) (hv:C1o I v op) (hz:OpenZ zs o1) (ho:∀f,o1 f<256):
  CalM prog 110 #[ptr bd,v,nt a] I (B0k bd bf sc o more sa sp bo zs) (fun u _ H'=>u=.tuple #[]/\∃zs',OpenZ zs' (A4I (o1,more) op a).1/\H'=B0k bd bf sc o (A4I (o1,more) op a).2 sa sp bo zs'):=by
 refine CalM.of fun w E hm=>enter (N:=52) func110 rfl [(0,ptr bd),(1,v),(2,nt a)] A3G rfl ?_
 rcases hv with ⟨rfl,rfl⟩|⟨b,off,tc,ec,y,ea,v1,v2,rfl,hp,rfl⟩
 ·skip
  repeat' (first|refine A3w (e:=127) (by kernel_rfl) (by rfl) (by rfl) (by rfl) (by rfl) ?_|refine D8 ?_|refine O1 ?_|refine A0E ?_|refine D9 ?_|refine A7 ?_|refine G8 ?_|refine E5 ?_|refine A8 ?_|refine H9 ?_|refine A4X ?_|refine H5 ?_)
  exact⟨I,_,⟨rfl,zs,hz,rfl⟩,hm⟩
 ·cases hop:y.opn with
  |false=>
   rw[hop]at hp;repeat' (first|refine A3w (e:=127) (by kernel_rfl) (by rfl) (by rfl) (by rfl) (by rfl) ?_|refine J5 ?_ hm|refine D8 ?_|refine J8 ?_|refine Y2 ?_|refine E8 ?_|refine C9 ?_|refine D9 ?_|refine A7 ?_|refine G8 ?_|refine E5 ?_|refine A8 ?_|refine H9 ?_|refine A4X ?_|refine H5 ?_)
   exact⟨I,_,⟨rfl,zs,hz,rfl⟩,hm⟩
  |true=>
   rw[hop]at hp;have hlk:=hz.get y.fr;have hj:=C3W I (o1 y.fr) a (ho _) ha;have hqe:A4I (o1,more) (A8h true y.fr) a=A30 (o1,more) y.fr a:=rfl;rw[hqe];obtain⟨n1,hn1⟩:∃n1,n1=o1 y.fr|||a:=⟨_,rfl⟩
   rw[<-hn1]at hj;by_cases heq:n1=o1 y.fr
   ·have hr:A30 (o1,more) y.fr a=(o1,more):=by rw[A30,if_pos (by rw[<-hn1];exact heq)]
    rw[hr];repeat' (first|refine A3w (e:=127) (by kernel_rfl) (by rfl) (by rfl) (by rfl) (by rfl) ?_|refine A0p (id:=1) (hm.perm pm0) [0,1,2,3,4,5,6,7,8,9] [10] 11 (h:=?_);clear hm;intro wd hR hm|refine B3K (d:=24) hR (by rfl) (by rfl) (by rfl) (by rfl) gt2 A7h ?_;rw[hlk]|refine A3u (d:=26) ?_ hR hm (hc:=hj);clear hm;intro _ hm|refine V9 (id:=2) 10 (h:=?_)|refine A8g (d:=36) hm (by rfl) (by rfl) (by rfl) (by rfl) gt2 A7h ?_;rw[hlk]|refine Y9 ?_ hR|refine A0d ?_ hR|refine A0A ?_;replace hm:=hR.back hm;clear hR;try simp only[F8]at hm|refine J5 ?_ hm|refine V6 ?_ hm|refine A0m ?_ hm|refine D8 ?_|refine D6 ?_|refine J8 ?_|refine A0n ?_|refine Y2 ?_|refine E8 ?_|refine C9 ?_|refine D9 ?_|refine A7 ?_|refine E5 ?_|refine A8 ?_|refine G5 ?_|refine X4 ?_|refine A0f ?_;intro _ hkq;replace hm:=hm.kept0 hkq;clear hkq|refine F7 ?_|(refine D5 (ht:=fun _=>?_) (hf:=fun _=>?_)<;>try first|contradiction|omega)|refine X6 ?_|refine O9 ?_|refine L9 ?_|refine Z5 ?_|refine O7 ?_|refine L6 ?_|refine A0c ?_)
    exact⟨I,_,⟨rfl,zs,hz,rfl⟩,hm⟩
   ·have hr:A30 (o1,more) y.fr a=(Sp.upL o1 y.fr n1,true):=by rw[A30,if_neg (by rw[<-hn1];exact heq),hn1]
    rw[hr];repeat' (first|refine A3w (e:=127) (by kernel_rfl) (by rfl) (by rfl) (by rfl) (by rfl) ?_|refine A0p (id:=1) (hm.perm pm0) [0,1,2,3,4,5,6,7,8,9] [10] 11 (h:=?_);clear hm;intro wd hR hm|refine A1q (id:=3) (hm.perm pm1_2) [0,1,2,3,4,5,6,7,8,9] 13 (h:=?_);clear hm;intro wd hR hm|refine B3K (d:=24) hR (by rfl) (by rfl) (by rfl) (by rfl) gt2 A7h ?_;rw[hlk]|refine A3u (d:=26) ?_ hR hm (hc:=hj);clear hm;intro _ hm|refine V9 (id:=2) 10 (h:=?_)|refine A8g (d:=36) hm (by rfl) (by rfl) (by rfl) (by rfl) gt2 A7h ?_;rw[hlk]|refine B5Z (d:=48) hm (by rfl) (by rfl) (by rfl) (by rfl) gt0 hz.nodup A7h ?_;clear hm;intro es1 j1 u1 _ hj1 hp1 hm;try simp only[F8]at hm|refine C0l (d:=49) hm.kept (by rfl) (by rfl) (by rfl) (by rfl) ?_|refine B3J hm (by rfl) (by rfl) (by rfl) (by rfl) (by rfl) gt0 hj1 hp1 ?_;clear hm;intro _ hm;try simp only[F8]at hm|refine A1H (i:=10) ?_ (by decide+kernel)|refine A1H (i:=11) ?_ (by decide+kernel)|refine A1H (i:=12) ?_ (by decide+kernel)|refine A5c (by decide+kernel) ?_;replace hm:=hR.back hm;clear hR;try simp only[F8]at hm|refine Y9 ?_ hR|refine A0d ?_ hR|refine A0A ?_;replace hm:=hR.back hm;clear hR;try simp only[F8]at hm|refine A9W ?_|refine J5 ?_ hm|refine V6 ?_ hm|refine A0m ?_ hm|refine O8 hm (k:=?_);clear hm;intro _ hm;try simp only[F8]at hm|refine D8 ?_|refine D6 ?_|refine J8 ?_|refine A0n ?_|refine Y2 ?_|refine E8 ?_|refine C9 ?_|refine D9 ?_|refine A7 ?_|refine E5 ?_|refine A8 ?_|refine G5 ?_|refine X4 ?_|refine A0f ?_;intro _ hkq;replace hm:=hm.kept0 hkq;clear hkq|refine F7 ?_|(refine D5 (ht:=fun _=>?_) (hf:=fun _=>?_)<;>try first|contradiction|omega)|refine X6 ?_|refine O9 ?_|refine L9 ?_|refine Z5 ?_|refine O7 ?_|refine L6 ?_|refine A0c ?_)
    exact⟨I,_,⟨rfl,_,hz.put y.fr n1,rfl⟩,hm.perm pmIn⟩
end
end Go.Proofs
