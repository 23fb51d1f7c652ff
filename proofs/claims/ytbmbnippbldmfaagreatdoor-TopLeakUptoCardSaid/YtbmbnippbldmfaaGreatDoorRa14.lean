/- Own work. -/
import Derived.Test.YtbmbnippbldmfaaGreatDoorRa13
import Derived.Shelf.Spec.SearchS
import Derived.Shelf.Spec.SlicesInsert
import Derived.Shelf.Spec.SlicesInsertGrow
import Derived.Lib.SlicesCompact
set_option maxHeartbeats 64000000
namespace Go.Fw
open Go.Sp
open Go
abbrev A9o (s:List UInt8):List Value:= [str s]
theorem C1j {w:World}{b o:Nat}{c:Array Value}{e:TypeId}{fr:Nat×Nat}{v:Value} (h:w.heap[b]?=some (.cells c e fr)):(w.setCell ⟨b,o,none⟩ v).heap[b]?=some (.cells (c.setIfInBounds o v) e fr):=by
 simp[World.setCell,A4o,h]
theorem C1k (w:World) (b o:Nat) (v:Value):Kept [b] w (w.setCell ⟨b,o,none⟩ v):=
 ⟨rfl,rfl,rfl,by simp[World.setCell],fun k _ hk=>by
  have:b≠k:=fun e=>hk (by rw[e];simp)
  simp[World.setCell,A4o,this]⟩
theorem A5s (b:Nat):∀(vs:List Value) (o:Nat) (w:World),Kept [b] w (w.setCells b o vs)
 | [],_,w=>Kept.refl _ w
 |v::vs,o,w=>(C1k w b o v).trans (A5s b vs (o+1) _)
theorem A5r {b:Nat}{e:TypeId}{fr:Nat×Nat}:∀(vs:List Value) (o:Nat) (w:World) (c:List Value),w.heap[b]?=some (.cells c.toArray e fr)->o+vs.length<=c.length->
  (w.setCells b o vs).heap[b]?=some (.cells (c.take o++(vs++c.drop (o+vs.length))).toArray e fr)
 | [],o,w,c,h,_=>by
  show w.heap[b]?=_
  rw[h,L9,List.length_nil,A2S,A23]
 |v::vs,o,w,c,h,hl=>by
  rw[E9]at hl;have h1:=C1j (o:=o) (v:=v) h;rw[show c.toArray.setIfInBounds o v=(c.set o v).toArray by simp]at h1;have h2:=A5r vs (o+1) _ (c.set o v) h1 (by rw[A29];omega);show ((w.setCell ⟨b,o,none⟩ v).setCells b (o+1) vs).heap[b]?=_
  rw[h2]
  congr 2
  apply congrArg
  have e1:(c.set o v).take (o+1)=c.take o++ [v]:=by
   rw[List.take_set,List.take_succ_eq_append_getElem (by omega),A5H,if_neg (by rw[P9];omega),P9,A1O (by omega),A4d]
   rfl
  have e2:(c.set o v).drop (o+1+vs.length)=c.drop (o+1+vs.length):=by
   rw[List.drop_set,if_pos (by omega)]
  rw[e1,e2,E9,show o+(vs.length+1)=o+1+vs.length by omega,J5,Q8,L9,Q8]
theorem Kept.drewN (q:Nat) (w:World):Kept [] w (w.drewN q):=
 ⟨rfl,rfl,rfl,H7 _,fun _ _ _=>rfl⟩
theorem B61 {w:World}{g n sz:Nat}{e:TypeId}{cur:Array Value}{xs:List Value} (hg:w.heap[g]?=some (.cells cur e (0,0))) (ht:cur.toList.take (n *sz)=xs) {j:Nat}{v:Value} (h:xs[j]?=some v):w.cell? ⟨g,0+j,none⟩=some v:=by
 rw[V9];refine A3I hg ?_
 rw[<-ht,A2M]at h;split at h
 ·simpa using h
 ·cases h
theorem B1Z {α:Type} (f:α->Value) (l:List α):l.flatMap (fun a=> [f a])=l.map f:=by
 induction l with
 |nil=>rfl
 |cons a l ih=>rw[A0c,ih];rfl
section
open Go.Sp (Srt B0E A63)
theorem C15:∀(x y:List UInt8),Op.bytesLess x y=decide (x<y)
 | [],[]=>by simp[Op.bytesLess]
 |_::_,[]=>by simp[Op.bytesLess]
 | [],_::_=>by simp[Op.bytesLess]
 |a::x,b::y=>by
  rw[Op.bytesLess,C15 x y];simp only[List.cons_lt_cons_iff];by_cases h1:a<b<;>by_cases h2:a=b<;>by_cases h3:x<y<;>simp[h1,h2,h3]
def A9j (l:List (List UInt8)) (s:List UInt8):Nat:=(l.takeWhile (fun x=>decide (x<s))).length
theorem B4r {s:List UInt8}:∀ {l:List (List UInt8)},Srt l->(∀j x,j<A9j l s->l[j]?=some x->x<s)/\(∀j x,A9j l s<=j->l[j]?=some x->¬x<s)/\A9j l s<=l.length
 | [],_=>⟨fun j x _ h=>by simp at h,fun j x _ h=>by simp at h,H7 _⟩
 |a::l,h=>by
  obtain⟨h1,h2⟩:=A17.1 h;obtain⟨i1,i2,i3⟩:=B4r (s:=s) h2;by_cases ha:a<s
  ·have e:A9j (a::l) s=A9j l s+1:=by simp[A9j,ha]
   rw[e];refine⟨fun j x hj hx=>?_,fun j x hj hx=>?_,by rw[E9];omega⟩
   ·cases j with
    |zero=>simp only[A08,X4]at hx;rw[<-hx];exact ha
    |succ j=>exact i1 j x (by omega) (by simpa using hx)
   ·cases j with
    |zero=>omega
    |succ j=>exact i2 j x (by omega) (by simpa using hx)
  ·have e:A9j (a::l) s=0:=by simp[A9j,ha]
   rw[e];refine⟨fun j x hj hx=>by omega,fun j x hj hx=>?_,H9 _⟩
   cases j with
   |zero=>simp only[A08,X4]at hx;rw[<-hx];exact ha
   |succ j=>
    have hm:=A03 (show l[j]?=some x by simpa using hx);exact fun hxs=>ha (B5n (h1 x hm) hxs)
theorem C9l {l:List (List UInt8)}{s:List UInt8} (h:Srt l):l[A9j l s]?=some s↔s∈l:=by
 obtain⟨h1,h2,h3⟩:=B4r (s:=s) h;constructor
 ·exact fun e=>A03 e
 ·intro hm
  obtain⟨j,hj,rfl⟩:=A2r hm;have hg:=F9 hj;have h4:A9j l l[j]<=j:=by
   rcases U9 j (A9j l l[j]) with h5|h5
   ·exact absurd (h1 j _ h5 hg) (A80 _)
   ·exact h5
  have hk:A9j l l[j]<l.length:=by omega
  have hgk:=F9 hk;have h5:=h2 _ _ (H7 _) hgk;rcases U9 (A9j l l[j]) j with h6|h6
  ·exact absurd (A3y.1 h _ _ hk hj h6) h5
  ·have:A9j l l[j]=j:=by omega
   rw[this];exact hg
end
section
variable {P:Program}{ρ:Shelf.Ren}
theorem D1k (L:Proofs.Lays2.n26 P ρ) {I:P8}{ty:TypeId}{l:List (List UInt8)}{a:Option Addr}{cp:Nat} (s:List UInt8) (hs:Sp.Srt l) (hn:l.length<=1099511627776):
  CalR P (ρ.f 26) #[.slice a l.length cp,str s] I [.row (.slice a l.length cp) ty 1 l.length (l.flatMap A9o)] (.tuple #[.int .i64 (A9j l s:Nat),.bool (decide (s∈l))]):=by
 refine⟨fun w hI hH=>?_⟩
 have ho:w.ownsRow 0 ty 1 (.slice a l.length cp) l.length (l.flatMap A9o):=hH _ O4;rcases ho.2 with ⟨hv,h0⟩|⟨g,cap,cur,hv,_,hg,hc,hcm,hsz,ht⟩
 ·injection hv with e1 e2 e3
  subst e1;subst e3;have hl:l= []:=A05 h0;subst hl;refine⟨Calls.mono (Proofs.Any2.slices_BinarySearch_string_empty L none 0 ⟨s.toArray⟩ w) (fun e w' q=>?_)⟩
  obtain⟨rfl,rfl⟩:=q;exact⟨rfl,Kept.refl _ _⟩
 ·injection hv with e1 e2 e3
  subst e1;subst e3;rw[A4e]at ht;have hcell:∀j,j<l.length->w.cell? ⟨g,0+j,none⟩=some (.string ⟨(l.getD j []).toArray⟩):=fun j hj=>by
   refine B61 (n:=l.length) (sz:=1) (xs:=l.flatMap A9o) hg (by rw[A4e];exact ht) ?_
   rw[B1Z,Y6,F9 hj,N9,F9 hj];rfl
  obtain⟨p1,p2,p3⟩:=B4r (s:=s) hs;have hless:(fun t=>Op.bytesLess (⟨(l.getD t []).toArray⟩:ByteArray).toList (⟨s.toArray⟩:ByteArray).toList)=fun t=>decide (l.getD t []<s):=by
   funext t;rw[B1k,B1k,C15]
  have hb:=Lib.bsGo_spec (fun t=>decide (t<l.length) && decide (l.getD t []<s)) (A9j l s) (fun t ht2=>by
   have hlt:t<l.length:=by omega
   have:=p1 t _ ht2 (F9 hlt);rw[Q3,decide_eq_true_eq,decide_eq_true_eq,N9,F9 hlt];exact⟨hlt,this⟩) (fun t ht2=>by
   rw[Bool.and_eq_false_iff,decide_eq_false_iff_not,decide_eq_false_iff_not];rcases U9 t l.length with hlt|hlt
   ·right
    rw[N9,F9 hlt];exact p2 t _ ht2 (F9 hlt)
   ·left;omega) l.length 0 l.length (by omega) (by omega) p3
  have hcongr:∀(f lo hi:Nat),hi<=l.length->Lib.bsGo (fun t=>decide (l.getD t []<s)) f lo hi=Lib.bsGo (fun t=>decide (t<l.length) && decide (l.getD t []<s)) f lo hi:=by
   intro f;induction f with
   |zero=>intro lo hi _;rfl
   |succ f ih=>
    intro lo hi hhi;unfold Lib.bsGo
    by_cases h:lo<hi
    ·rw[if_pos h,if_pos h,ih _ _ hhi,ih _ _ (by omega),decide_eq_true (show (lo+hi) / 2<l.length by omega),A3M]
    ·rw[if_neg h,if_neg h]
  have hres:=Proofs.Any2.slices_BinarySearch_string L g 0 l.length cp (fun j=>⟨(l.getD j []).toArray⟩) ⟨s.toArray⟩ w (by omega) hcell;rw[hless,hcongr _ _ _ (H7 _),hb]at hres;refine⟨Calls.mono hres (fun e w' q=>?_)⟩
  obtain⟨rfl,qq,rfl⟩:=q;refine⟨?_,Kept.drewN qq w⟩
  have hfd:decide (A9j l s<l.length/\(⟨(l.getD (A9j l s) []).toArray⟩:ByteArray)=⟨s.toArray⟩)=decide (s∈l):=by
   rw[decide_eq_decide, <-C9l hs];constructor
   ·rintro⟨h1,h2⟩
    have h3:l.getD (A9j l s) []=s:=by
     have:=congrArg ByteArray.toList h2
     rwa [B1k,B1k]at this
    rw[F9 h1];rw[N9,F9 h1]at h3;exact congrArg some h3
   ·intro h
    obtain⟨h1,h2⟩:=A0D.1 h;exact⟨h1,by rw[N9,h];rfl⟩
  rw[hfd]
theorem Mem.turn2 {E:Ent}{I:P8}{w w':World}{h h' v:HItem} (hm:Mem E I [h,v] w) (k:Kept h.blk.toList w w') (ho:h'.ok w') (hb:h'.blk=h.blk\/∃g,h'.blk=some g/\w.heap.size<=g):Mem E I [h'] w':=
 (hm.turn (i:=0) rfl k ho hb).hd
theorem C1A (n:Nat):(Builtin.zeroCells (Value.string ⟨#[]⟩).cells n).toList.length=n:=by simp[Builtin.zeroCells,Value.cells]
theorem D1j (L:Proofs.Lays2.n22 P ρ) {I:P8}{ty:TypeId} (hty:ρ.t 9=ty) {n k vb cp:Nat}{a:Option Addr}{xs:List Value} (u:List UInt8) (hk:k<=n) (hn:n<=1000000000000) (h1:xs.all (·.oneCell')=true):
  CalM P (ρ.f 22) #[.slice a n cp,.int .i64 k,.slice (some ⟨vb,0,none⟩) 1 1] I [.row (.slice a n cp) ty 1 n xs,.row (.slice (some ⟨vb,0,none⟩) 1 1) ty 1 1 [str u]]
   (fun v _ H'=> ∃a' cp',v=.slice a' (n+1) cp'/\H'= [.row (.slice a' (n+1) cp') ty 1 (n+1) (xs.take k++str u::xs.drop k)]):=by
 refine CalM.of fun w E hm=>?_
 have hV:w.ownsRow 0 ty 1 (.slice (some ⟨vb,0,none⟩) 1 1) 1 [str u]:=hm.ok _ (Z4 _ O4);have hR:w.ownsRow 0 ty 1 (.slice a n cp) n xs:=hm.ok _ O4;have hxl:xs.length=n:=by have:=hR.1;omega
 have h1':∀v∈xs,v.oneCell'=true:=fun v hv=>A2O.1 h1 v hv
 have hu:∀v∈ [str u],v.oneCell'=true:=fun v hv=>by
  obtain rfl:v=str u:=by simpa using hv
  rfl
 obtain⟨curv,hvg,hvs,hvt⟩:∃curv:Array Value,w.heap[vb]?=some (.cells curv ty (0,0))/\curv.size=1/\curv.toList.take (1 *1)= [str u]:=by
  rcases hV.2 with ⟨h,_⟩|⟨g,cap,cur,hv,_,hg,_,_,hs,ht⟩
  ·cases h
  ·injection hv with e1 _ e3
   injection e1 with e1
   injection e1 with e1
   subst e1;subst e3;exact⟨cur,hg,by rw[hs],ht⟩
 have hvc:∀(j:Nat) (v:Value),[str u][j]?=some v->w.cell? ⟨vb,0+j,none⟩=some v:=fun j v hj=>B61 (n:=1) (sz:=1) hvg hvt hj
 have hbig:(n+1) *16<=140737488355328:=by omega
 have hml:n+1<=maxLen:=by simp only[maxLen];omega
 have fresh:∀(w':World) (cap:Nat) (cells:List Value),Kept [] w w'->w'.heap[w.heap.size]?=some (.cells cells.toArray ty (0,0))->cells.length=cap->n+1<=cap->cap<=maxLen->cells.take (n+1)=xs.take k++str u::xs.drop k->
   ∃I' H',(∃a' cp',Value.slice (some ⟨w.heap.size,0,none⟩) (n+1) cap=.slice a' (n+1) cp'/\H'= [.row (.slice a' (n+1) cp') ty 1 (n+1) (xs.take k++str u::xs.drop k)])/\Mem E I' H' w':=fun w' cap cells hk' hh hcl hc1 hc2 ht=>
  ⟨I,_,⟨_,_,rfl,rfl⟩,hm.turn2 (hk'.mono (fun _ h=>by cases h)) ⟨by rw[D9,E9,P9,A0v];omega,.inr ⟨w.heap.size,cap,cells.toArray,rfl,H9 _,hh,hc1,hc2,by simp[hcl],by simpa using ht⟩⟩ (.inr ⟨w.heap.size,rfl,H7 _⟩)⟩
 rcases hR.2 with ⟨hv,h0⟩|⟨g,cap,cur,hv,_,hg,hc,hcm,hs,ht⟩
 · -- none
  injection hv with e1 e2 e3
  subst e1;subst e3;obtain rfl:xs= []:=A05 (by omega);obtain rfl:k=0:=by omega
  subst h0;refine⟨Calls.mono (Proofs.Any2.slices_Insert_string_end_grow L none 0 0 vb 0 1 1 [] [str u] w (by omega) (by omega) (by omega) (by omega) rfl rfl (fun _=>rfl) (fun _ h=>by cases h) hvc hu) (fun e w' q=>?_)⟩
  obtain⟨rfl,rfl⟩:=q;rw[hty];have hge:=grownCap_ge w (0+1) 0 ty;exact fresh _ (grownCap w (0+1) 0 ty) ([str u]++(Builtin.zeroCells (Value.string ⟨#[]⟩).cells (grownCap w (0+1) 0 ty-(0+1))).toList) ((Kept.drew w).trans (Kept.alloc _ _)) (by rw[show w.heap.size=w.drew.heap.size from rfl,heap_alloc_new];simp) (by rw[D9,C1A,A0X];omega) hge (grownCap_le_maxLen w _ _ _ hml) (by simp)
 ·injection hv with e1 e2 e3
  subst e1;subst e3;obtain⟨cL,rfl⟩:∃cL:List Value,cur=cL.toArray:=⟨cur.toList,by simp⟩;have hs':cL.length=cp:=by simpa using hs
  have ht':cL.take n=xs:=by simpa using ht
  have hcell:∀(j:Nat) (v:Value),xs[j]?=some v->w.cell? ⟨g,0+j,none⟩=some v:=fun j v hj=>B61 (n:=n) (sz:=1) hg ht hj
  have hsp:∀j,j<cp->(w.cell? ⟨g,0+j,none⟩).isSome=true:=fun j hj=>by
   rw[V9,A3I (v:=cL[j]'(by omega)) hg (by rw[A4n,F9])];rfl
  have hfz:∀b o,(w.heap[b]?=some (.cells cL.toArray ty (0,0))\/w.heap[b]?=some (.cells curv ty (0,0)))->w.frozen? ⟨b,o,none⟩=false:=fun b o h=>by
   rcases h with h|h<;>simp[World.frozen?,h]
  have hne:vb≠g:=fun e=>by
   have:=(A17.1 hm.dist).1 _ (O4) g rfl;exact this (by rw[<-e];rfl)
  rcases U9 n cp with hroom|hroom
  · -- room
   have place:∀(w':World) (cells:List Value),Kept [g] w w'->w'.heap[g]?=some (.cells cells.toArray ty (0,0))->cells.length=cp->cells.take (n+1)=xs.take k++str u::xs.drop k->
     ∃I' H',(∃a' cp',Value.slice (some ⟨g,0,none⟩) (n+1) cp=.slice a' (n+1) cp'/\H'= [.row (.slice a' (n+1) cp') ty 1 (n+1) (xs.take k++str u::xs.drop k)])/\Mem E I' H' w':=fun w' cells hk' hh hcl ht=>
    ⟨I,_,⟨_,_,rfl,rfl⟩,hm.turn2 (h:=.row (.slice (some ⟨g,0,none⟩) n cp) ty 1 n xs) hk' ⟨by rw[D9,E9,P9,A0v];omega,.inr ⟨g,cp,cells.toArray,rfl,H9 _,hh,by omega,hcm,by simp[hcl],by simpa using ht⟩⟩ (.inl rfl)⟩
   rcases U9 k n with hkn|hkn
   ·refine⟨Calls.mono (Proofs.Any2.slices_Insert_string_shift L g 0 n cp k vb 0 1 1 xs [str u] w hkn (by omega) (by omega) (by simp only[maxLen]at hcm;omega) hne hxl rfl hcell (fun j hj=>hsp j (by omega)) (fun j _=>hfz _ _ (.inl hg)) hvc h1' hu
     ty ty 1 cp (by simp[World.shape?,hvg,hvs]) (by simp[World.shape?,hg,hs']) (by omega) (hfz _ _ (.inr hvg)) (hfz _ _ (.inr hvg))) (fun e w' q=>?_)⟩
    obtain⟨rfl,rfl⟩:=q;have hdl:(xs.drop k).length=n-k:=by rw[A0v,hxl]
    have g1:=A5r (xs.drop k) (0+(k+1)) w.drew cL hg (by rw[hdl];omega);have g2:=A5r [str u] (0+k) _ _ g1 (by simp[hdl];omega);refine place _ _ (((Kept.drew w).mono (fun _ h=>by cases h)).trans ((A5s g _ _ _).trans (A5s g _ _ _))) g2 ?_ ?_
    ·simp only[V9,D9,P9,A0v,E9,List.length_nil]
     omega
    ·have e1:cL.take (0+(k+1))=xs.take k++ [cL[k]'(by omega)]:=by
      have e0:xs.take k=cL.take k:=by rw[show xs=cL.take n from ht'.symm,A41,A1O (by omega)]
      rw[V9,List.take_succ_eq_append_getElem (by omega),e0]
     rw[e1,hdl];simp only[V9,A0X];have e2:((xs.take k++ [cL[k]'(by omega)])++(xs.drop k++cL.drop (k+1+(n-k)))).take k=xs.take k:=by
      rw[J5,A26 (by rw[P9];omega),A41,Nat.min_self]
     have e3:((xs.take k++ [cL[k]'(by omega)])++(xs.drop k++cL.drop (k+1+(n-k)))).drop (k+1)=xs.drop k++cL.drop (k+1+(n-k)):=by
      rw[List.drop_append_of_le_length (by rw[D9,P9];simp;omega),A6H (by rw[D9,P9];simp;omega),L9]
     rw[e2,e3];rw[A8X,A0W (by rw[P9];omega),P9,hxl,A1O hk]
     congr 1
     rw[show n+1-k=(n-k)+1 by omega,A3z,A09,A26 (by rw[hdl];omega),A0W (by rw[hdl];omega)]
   ·obtain rfl:k=n:=by omega
    refine⟨Calls.mono (Proofs.Any2.slices_Insert_string_end_room L g 0 k cp vb 0 1 1 [str u] w (by omega) (by omega) (by simp only[maxLen]at hcm;omega) rfl (fun j hj=>by rw[A3a];exact hsp _ (by omega)) (fun j _=>hfz _ _ (.inl hg)) hvc hu) (fun e w' q=>?_)⟩
    obtain⟨rfl,rfl⟩:=q;have g1:=A5r [str u] (0+k) w cL hg (by simp;omega);refine place _ _ (A5s g _ _ _) g1 ?_ ?_
    ·simp only[V9,D9,P9,A0v,E9,List.length_nil]
     omega
    ·simp only[V9,A0X]
     rw[ht',A0W (l:=xs) (by omega),A6H (l:=xs) (by omega), <-J5,A26 (by rw[D9,hxl];simp),A0W (by rw[D9,hxl];simp)]
  · -- none
   obtain rfl:n=cp:=by omega
   rcases U9 k n with hkn|hkn
   ·refine⟨Calls.mono (Proofs.Any2.slices_Insert_string_grow L g 0 n n k vb 0 1 1 xs [str u] w hkn (by omega) (by omega) (by omega) (by omega) hxl rfl hcell hvc h1' hu) (fun e w' q=>?_)⟩
    obtain⟨rfl,rfl⟩:=q;rw[hty];have hge:=grownCap_ge w (n+1) n ty;have hdl:(xs.drop k).length=n-k:=by rw[A0v,hxl]
    generalize hG:grownCap w (n+1) n ty=G at hge |-;have hGm:G<=maxLen:=by rw[<-hG];exact grownCap_le_maxLen w _ _ _ hml
    obtain⟨zs,hzs⟩:∃zs:List Value,(Builtin.zeroCells (Value.string ⟨#[]⟩).cells (n+1-k)++Builtin.zeroCells (Value.string ⟨#[]⟩).cells (G-(n+1))).toList=zs:=⟨_,rfl⟩;have hzl:zs.length=G-k:=by rw[<-hzs,Array.toList_append,D9,C1A,C1A];omega
    have hcells:((xs.take k).toArray++Builtin.zeroCells (Value.string ⟨#[]⟩).cells (n+1-k)++Builtin.zeroCells (Value.string ⟨#[]⟩).cells (G-(n+1)))=(xs.take k++zs).toArray:=by
     rw[<-hzs];simp
    rw[hcells];have hl0:(xs.take k++zs).length=G:=by rw[D9,P9,hzl];omega
    have g0:=heap_alloc_new w (.cells (xs.take k++zs).toArray ty (0,0));have g1:=A5r [str u] k (w.alloc (.cells (xs.take k++zs).toArray ty (0,0))).drew (xs.take k++zs) g0 (by simp[hl0];omega);have g2:=A5r (xs.drop k) (k+1) (((w.alloc (.cells (xs.take k++zs).toArray ty (0,0))).drew.setCells w.heap.size k [str u]).drew) _ g1 (by simp[hzl,hdl];omega);have kk:Kept [] w ((((w.alloc (.cells (xs.take k++zs).toArray ty (0,0))).drew.setCells w.heap.size k [str u]).drew).setCells w.heap.size (k+1) (xs.drop k)):=by
     refine Kept.step (Y:= [w.heap.size]) (Kept.alloc w (.cells (xs.take k++zs).toArray ty (0,0))) ?_ (fun x hx=> .inr (by simp at hx;omega))
     exact((Kept.drew _).mono (fun _ h=>by cases h)).trans ((A5s _ _ _ _).trans (((Kept.drew _).mono (fun _ h=>by cases h)).trans (A5s _ _ _ _)))
    refine fresh _ G _ kk g2 ?_ hge hGm ?_
    ·simp only[D9,P9,A0v,E9,List.length_nil,hzl]
     omega
    ·have e1:(xs.take k++zs).take k=xs.take k:=by
      rw[A26 (by rw[P9];omega),A41,Nat.min_self]
     rw[e1];have e2:(xs.take k++([str u]++(xs.take k++zs).drop (k+ [str u].length))).take (k+1)=xs.take k++ [str u]:=by
      rw[<-J5,A26 (by rw[D9,P9];simp;omega),A0W (by rw[D9,P9];simp;omega)]
     rw[e2, <-J5,A26 (by simp only[D9,P9,hdl,A0X];omega),A0W (by simp only[D9,P9,hdl,A0X];omega),J5];rfl
   ·obtain rfl:k=n:=by omega
    refine⟨Calls.mono (Proofs.Any2.slices_Insert_string_end_grow L (some ⟨g,0,none⟩) k k vb 0 1 1 xs [str u] w (by omega) (by omega) (by omega) (by omega) hxl rfl (fun h=>by cases h) (fun ad had j v hj=>by cases had;rw[Addr.add_lit];exact hcell j v hj) hvc hu) (fun e w' q=>?_)⟩
    obtain⟨rfl,rfl⟩:=q;rw[hty];have hge:=grownCap_ge w (k+1) k ty;exact fresh _ (grownCap w (k+1) k ty) ((xs++ [str u])++(Builtin.zeroCells (Value.string ⟨#[]⟩).cells (grownCap w (k+1) k ty-(k+1))).toList) ((Kept.drew w).trans (Kept.alloc _ _)) (by rw[show w.heap.size=w.drew.heap.size from rfl,heap_alloc_new];simp) (by rw[D9,C1A];simp[hxl];omega) hge (grownCap_le_maxLen w _ _ _ hml)
     (by rw[A26 (by simp[hxl]),A0W (by simp[hxl]),A0W (l:=xs) (by omega),A6H (l:=xs) (by omega)])
end
section
variable {P:Program}{N:Nat}{ds:List Deferred}{Q:Exit->Act->World->Prop}{l:Log}{w:World}{ops:Array Oper}{os:List Oper}
variable {d:Nat}{ty:TypeId}{pos:String}{af:Array Edge}{g:Option (Nat×Bool)}{t:TypeId}{x y:Operand}{E:Ent}{I:P8}{H:List HItem}
end
section
variable {P:Program}{N:Nat}{ds:List Deferred}{Q:Exit->Act->World->Prop}{l:Log}{w w0:World}{ops:Array Oper}{os tail:List Oper}{X:List Nat}
variable {d:Nat}{ty:TypeId}{pos:String}{af:Array Edge}{g:Option (Nat×Bool)}{t:TypeId}{x y:Operand}{E:Ent}{I I0:P8}{H G R:List HItem}{m' f:Nat}{listed:Array Bool}
theorem C9s {e:TypeId}{sz by_ n:Nat} [TySlice P t e] [Elem P e sz by_] {ps:List (Nat×Operand)}{vs:List (Nat×Value)}{a:Act} (ha:Fits N ds l a) (hx:evp l ps=some vs)
  (hi:vs.map (·.1)=List.range' 0 n) (hs:vs.all (fun p=>Nat.beq p.2.cells.toList.length sz)=true) (hn:n *sz<=16777216):
  (execOp a.eval ⟨some d,.buildSlice t n ps.toArray,ty,pos,af,g⟩).run P w=.ok (.value (.slice (some ⟨w.heap.size,0,none⟩) n n)) (w.alloc (.cells (vs.flatMap (·.2.cells.toList)).toArray e (0,0))):=by
 obtain⟨i,z,hi',hz,hs',hby,hzc,hpos⟩:=Elem.out (P:=P) (e:=e);have h6:=fun w=>run_underlying (P:=P) (w:=w) (TySlice.out (P:=P) (t:=t))
 have hlen:vs.length=n:=by have:=congrArg List.length hi;simpa using this
 have hf:=B7m sz vs 0 ((List.range (n *sz)).map (fun j=>z.cells[j % z.cells.size]!)) (by rw[hlen];exact hi) (by simp[hlen]) (fun p hp=>by
  have:=A2O.1 hs p hp;exact A5L this)
 simp only[A14,Z9,L9]at hf;have e1:=ha.evp hx;have hz0:¬(2 ^ 24<n *sz):=by omega
 have e2:(Array.range (n *sz)).map (fun j=>z.cells[j % z.cells.size]!)=((List.range (n *sz)).map (fun j=>z.cells[j % z.cells.size]!)).toArray:=by
  apply Array.ext';simp
 simp only[execOp,Instr.buildSlice];by_cases hz1:n *sz=0
 ·have hn0:n=0:=by
   rcases Nat.mul_eq_zero.1 hz1 with h|h
   ·exact h
   ·omega
  subst hn0;have:vs= []:=A05 hlen;subst this;have e4:Array.range 0= #[]:=rfl;simp[e1,h6,sizeOf,typeInfo,hi',Instr.fill,newRow,newObj,e4]
  rfl
 ·simp[e1,h6,sizeOf,typeInfo,hi',hs',zeroValue,hz,hz0,newRow,newObj,e2,hf]
  rw[if_neg hz1]
  rfl
theorem C6I {sz:Nat}:∀(vs:List (Nat×Value)),vs.all (fun p=>Nat.beq p.2.cells.toList.length sz)=true->(vs.flatMap (·.2.cells.toList)).length=vs.length *sz
 | [],_=>by simp
 |p::vs,h=>by
  rw[A42,Q3]at h;rw[A0c,D9,C6I vs h.2,A5L h.1,E9,A2u];omega
end
end Go.Fw
namespace Go.Sp
structure Pl where
 name:List UInt8
 at_:Int
mutual
def B3j (b:Int):Stm->List Pl
 | .mk k nm a _ _ _ thn els _ _=>(if k=1/\nm≠ [] then [⟨nm,b+a⟩] else [])++(A1D b thn++A1D b els)
def A1D (b:Int):List Stm->List Pl
 | []=> []
 |x::xs=>B3j b x++A1D b xs
 end
def A7v (b:Int) (p:Par):List Pl:=if p.name≠ [] then [⟨p.name,b+p.at_⟩] else []
def C0H (it:Itm):List Pl:=if it.kind=3\/it.name= [] then [] else ⟨it.name,it.at_+it.mark⟩::(it.params.flatMap (A7v it.at_)++A1D it.at_ it.body)
def A3g (its:List Itm):List Pl:=its.flatMap C0H
def C3G (l:List Pl) (at_:Int):Option Pl:=l.find? (fun d=>decide (d.at_<=at_) && decide (at_<d.at_+d.name.length))
def B42 (its:List Itm) (at_:Int):Option Int:=match B57 (A2c its) at_ with
 |some u=>some u.df
 |none=>(C3G (A3g its) at_).map (·.at_)
def B0Z (l:List Pl) (df:Int):List UInt8:=l.foldl (fun o d=>if d.at_=df then d.name else o) []
def A4z (us:List Us) (df:Int):List Int:=(us.filter (fun u=>decide (u.df=df))).map (·.fr)
def A2d (its:List Itm) (df:Int):List Int:=Go.Lib.compact ((df::A4z (A2c its) df).mergeSort (fun x y=>decide (x<=y)))
def A7r (s nm:List UInt8) (n:Nat):List Int->List UInt8×Int->List UInt8×Int
 | [],x=>x
 |k::l,x=>A7r s nm n l (x.1++((s.drop x.2.toNat).take (k.toNat-x.2.toNat)++nm),k+n)
def B4o (s nm:List UInt8) (n:Nat) (l:List Int):List UInt8:=(A7r s nm n l ([],0)).1++s.drop (A7r s nm n l ([],0)).2.toNat
def A9H (l:List Int) (a:Int):Nat:=(l.filter (fun k=>decide (k<a))).length
def A9S (l:List Int) (more:Int) (a:Int):Int:=a+(A9H l a:Int) *more
def A7M (us vs:List Us) (l:List Int) (more:Int) (k:Nat):Bool:=(List.range k).all (fun i=>decide (A9S l more (us.getD i ⟨0,0,0⟩).fr=(vs.getD i ⟨0,0,0⟩).fr) && decide (A9S l more (us.getD i ⟨0,0,0⟩).df=(vs.getD i ⟨0,0,0⟩).df))
def B3p (us vs:List Us) (l:List Int) (more:Int):Bool:=decide (us.length=vs.length) && A7M us vs l more us.length
def toR (s:List UInt8) (at_:Int) (nm:List UInt8):List UInt8×Nat:=
 if Y1 s≠0 then ([],Y1 s) else
 if A3H (G8 s)≠ [] then ([],13) else
 match B42 (G8 s) at_ with
 |none=>([],6)
 |some df=>
  if name nm=false then ([],7) else
  let old:=B0Z (A3g (G8 s)) df
  let l:=A2d (G8 s) df
  let t:=B4o s nm old.length l
  if Y1 t≠0 then ([],Y1 t) else
  if A3H (G8 t)≠ [] then ([],7) else
  if B3p (A2c (G8 s)) (A2c (G8 t)) l ((nm.length:Int)-old.length)=false then ([],7) else (t,0)
abbrev Lab:=Nat->Nat
structure Li where
 name:List UInt8
 lab:Nat
 op:Option Nat
def Li.val (o:Lab) (l:Li):Nat:=match l.op with
 |none=>l.lab
 |some f=>o f
def A3e (o:Lab) (sc:List Li):List Lc:=sc.map (fun l=>⟨l.name,l.val o⟩)
def A4k:List Li->List UInt8->Option Li
 | [],_=>none
 |l::sc,n=>match A4k sc n with
  |some x=>some x
  |none=>if l.name=n then some l else none
def A8v (sc:List Li):List Nat:=sc.filterMap (·.op)
def upL (o:Lab) (f n:Nat):Lab:=fun g=>if g=f then n else o g
abbrev LP:=Lab×Bool
def A3K (p:LP) (f n:Nat):LP:=if p.1 f|||n=p.1 f then p else (upL p.1 f (p.1 f|||n),true)
def A4T (p:LP) (op:Option Nat) (n:Nat):LP:=match op with
 |none=>p
 |some f=>A3K p f n
def A8t (o:Bool) (f:Nat):Option Nat:=if o=true then some f else none
def B8f (p:LP) (sc:List Li) (nm:List UInt8) (n:Nat):LP:=match A4k sc nm with
 |some l=>A4T p l.op n
 |none=>p
mutual
def A9k (its:List Itm):Stm->List Li->Nat->LP->List Li×LP
 | .mk k nm _ lb o e thn els f _,sc,un,p=>
  if k=1 then (sc++ [⟨nm,lb,A8t o f⟩],A4T p (A8t o f) (A1e its (A3e p.1 sc) e|||un)) else
  if k=2 then (sc,B8f p sc nm (A1e its (A3e p.1 sc) e|||un)) else
  if k=3\/k=4 then (sc,(A2x its els sc (A1e its (A3e p.1 sc) e|||un) (A2x its thn sc (A1e its (A3e p.1 sc) e|||un) p).2).2) else (sc,p)
def A2x (its:List Itm):List Stm->List Li->Nat->LP->List Li×LP
 | [],sc,_,p=>(sc,p)
 |x::l,sc,un,p=>A2x its l (A9k its x sc un p).1 un (A9k its x sc un p).2
 end
mutual
def Stm.lets:Stm->List Nat
 | .mk k _ _ _ _ _ thn els f _=>(if k=1 then [f] else [])++(A1s thn++A1s els)
def A1s:List Stm->List Nat
 | []=> []
 |x::l=>x.lets++A1s l
 end
def B0i (l:List Par):List Li:=l.map (fun p=>⟨p.name,p.label,none⟩)
def A5v (its:List Itm) (it:Itm) (o:Lab):LP:=(A2x its it.body (B0i it.params) 0 (o,false)).2
def A8m (its:List Itm) (it:Itm):Nat->Lab
 |0=>fun _=>0
 |k+1=>(A5v its it (A8m its it k)).1
def D5Y (its:List Itm) (it:Itm) (o:Lab):Prop:=(∃k,o=A8m its it k)/\A5v its it o=(o,false)
mutual
def A4y (o:Lab):Stm->Stm
 | .mk k nm a lb op e thn els f t=> .mk k nm a (if k=1/\op=true then o f else lb) (if k=1 then false else op) e (A1r o thn) (A1r o els) f t
def A1r (o:Lab):List Stm->List Stm
 | []=> []
 |x::l=>A4y o x::A1r o l
 end
def itI (o:Lab) (it:Itm):Itm:= { it with body:=A1r o it.body}
def C1K (its:List Itm) (it r:Itm):Prop:=(it.kind=2->∃o,D5Y its it o/\r=itI o it)/\(it.kind≠2->r=it)
inductive AllTwo {α β:Type} (R:α->β->Prop):List α->List β->Prop
 |nil:AllTwo R [] []
 |cons {a:α}{b:β}{l:List α}{r:List β} (h:R a b) (t:AllTwo R l r):AllTwo R (a::l) (b::r)
theorem AllTwo.len {α β:Type}{R:α->β->Prop}:∀ {l:List α}{r:List β},AllTwo R l r->r.length=l.length
 |_,_,.nil=>rfl
 |_,_,.cons _ t=>by rw[E9,E9,t.len]
def B4S (its r:List Itm):Prop:=AllTwo (C1K its) its r
def B5q (L:List Nat) (o:Lab):Nat:=(L.map (fun f=>256-o f)).sum
structure Gone (L:List Nat) (p q:LP):Prop where
 le:B5q L q.1<=B5q L p.1
 lt:q.2=true->p.2=true\/B5q L q.1<B5q L p.1
 same:q.2=false->q=p
theorem Gone.refl (L:List Nat) (p:LP):Gone L p p:=⟨H7 _,.inl,fun _=>rfl⟩
theorem Gone.trans {L:List Nat}{p q r:LP} (h:Gone L p q) (g:Gone L q r):Gone L p r:=
 ⟨A1A g.le h.le,fun e=>by
  have h1:=h.le;have h2:=g.le;rcases g.lt e with h3|h3
  ·rcases h.lt h3 with h4|h4
   ·exact .inl h4
   ·exact .inr (by omega)
  ·exact .inr (by omega),fun e=>by
  have h1:=g.same e;subst h1;exact h.same e⟩
theorem B9H (sc:List Li) (l:Li):A8v (sc++ [l])=A8v sc++l.op.toList:=by
 rw[A8v,List.filterMap_append,A8v];cases h:l.op<;>simp[h]
structure Rpl where
 id:Int
 err:Nat
 dgs:List DI
 label:Nat
 fr:Int
 text:List UInt8
 ran:Rn
 fresh:Nat
section
variable {s q:List UInt8}{p:Nat}
end
def InT (T:Src) (a b:Nat) (L:List Nat):Prop:= ∃js:List Nat,js.Pairwise (· < ·)/\(∀j∈js,a<=j/\j<b/\j<T.l.length)/\L=js.map (fun j=>(T.tok j).pos)
theorem InT.nil (T:Src) (a b:Nat):InT T a b []:=⟨[],.nil,fun _ h=>(by cases h),rfl⟩
theorem InT.one {T:Src}{a b:Nat} (h:a<b) (hl:a<T.l.length):InT T a b [(T.tok a).pos]:=⟨[a],B3H _ _,fun j hj=>by obtain rfl:=A0q.1 hj;omega,rfl⟩
theorem InT.app {T:Src}{a b b' c:Nat}{L R:List Nat} (h:InT T a b L) (g:InT T b' c R) (hb:b<=b') (hab:a<=b) (hc:b'<=c):InT T a c (L++R):=by
 obtain⟨js,h1,h2,rfl⟩:=h;obtain⟨ks,g1,g2,rfl⟩:=g;refine⟨js++ks,A3R.2 ⟨h1,g1,fun x hx y hy=>?_⟩,fun j hj=>?_,by rw[V5]⟩
 ·have:=h2 x hx;have:=g2 y hy;omega
 ·rcases Y5.1 hj with hj|hj
  ·have:=h2 j hj;omega
  ·have:=g2 j hj;omega
theorem InT.mono {T:Src}{a b a' b':Nat}{L:List Nat} (h:InT T a b L) (ha:a'<=a) (hb:b<=b'):InT T a' b' L:=by
 obtain⟨js,h1,h2,rfl⟩:=h;exact⟨js,h1,fun j hj=>(by have:=h2 j hj;omega),rfl⟩
end Go.Sp
namespace Go.Fw
open Go.Sp
open Go
section
variable {P:Program}{N:Nat}{ds:List Deferred}{Q:Exit->Act->World->Prop}{l:Log}{w:World}{ops:Array Oper}{os:List Oper}
variable {d:Nat}{ty:TypeId}{pos:String}{af:Array Edge}{g:Option (Nat×Bool)}{t t':TypeId}{x:Operand}
end
end Go.Fw
namespace Go.Sp
theorem D38 (y:Stm):y.lets=(if y.kind=1 then [y.fr] else [])++(A1s y.thn++A1s y.els):=by cases y;rw[Stm.lets];rfl
structure Apart (sc:List Li) (y:Stm) (D:List Nat):Prop where
 rest:(A8v sc++D).Nodup
 thn:(A8v sc++A1s y.thn).Nodup
 els:(A8v sc++A1s y.els).Nodup
 out:y.kind=1->y.fr∉A8v sc
 next:y.kind=1->∀n lb,(A8v (sc++ [⟨n,lb,A8t y.opn y.fr⟩])++D).Nodup
theorem Apart.of {sc:List Li}{y:Stm}{D:List Nat} (h:(A8v sc++(y.lets++D)).Nodup):Apart sc y D:=by
 have e:=D38 y;have sT:(A1s y.thn).Sublist y.lets:=by
  rw[e];exact(B0M _ _).trans (B0K _ _)
 have sE:(A1s y.els).Sublist y.lets:=by
  rw[e];exact(B0K _ _).trans (B0K _ _)
 refine⟨h.sublist ((A5N _).append (B0K _ _)),h.sublist ((A5N _).append (sT.trans (B0M _ _))),
  h.sublist ((A5N _).append (sE.trans (B0M _ _))),fun hk=>?_,fun hk n lb=>?_⟩
 ·intro hf
  rw[e,if_pos hk]at h;exact(A6K.1 h).2.2 _ hf _ (by simp) rfl
 ·rw[B9H]
  refine h.sublist ?_
  rw[J5];refine(A5N _).append (List.Sublist.append ?_ (A5N _))
  rw[e,if_pos hk];refine List.Sublist.trans ?_ (B0M _ _)
  show ((A8t y.opn y.fr).toList).Sublist [y.fr]
  rw[A8t];split
  ·exact A5N _
  ·exact List.nil_sublist _
theorem AllTwo.snoc {α β:Type}{R:α->β->Prop}:∀ {l:List α}{r:List β}{a:α}{b:β},AllTwo R l r->R a b->AllTwo R (l++ [a]) (r++ [b])
 |_,_,_,_,.nil,h=> .cons h .nil
 |_,_,_,_,.cons h1 t1,h=> .cons h1 (t1.snoc h)
def A4G (a b:Itm):Prop:=b=a\/∃o,b=itI o a
theorem A4G.kind {a b:Itm} (h:A4G a b):b.kind=a.kind:=by rcases h with rfl|⟨o,rfl⟩<;>rfl
theorem A4G.name {a b:Itm} (h:A4G a b):b.name=a.name:=by rcases h with rfl|⟨o,rfl⟩<;>rfl
theorem A4G.params {a b:Itm} (h:A4G a b):b.params=a.params:=by rcases h with rfl|⟨o,rfl⟩<;>rfl
theorem A4G.sends {a b:Itm} (h:A4G a b):b.sends=a.sends:=by rcases h with rfl|⟨o,rfl⟩<;>rfl
theorem A4G.label {a b:Itm} (h:A4G a b):b.label=a.label:=by rcases h with rfl|⟨o,rfl⟩<;>rfl
theorem AllTwo.get {α β:Type}{R:α->β->Prop}:∀ {l:List α}{r:List β}{i:Nat}{a:α},AllTwo R l r->l[i]?=some a->∃b,r[i]?=some b/\R a b
 |_,_,_,_,.nil,h=>by simp at h
 |_,_,0,_,.cons h t,e=>by
  simp only[A08,X4]at e;subst e;exact⟨_,rfl,h⟩
 |_,_,i+1,_,.cons h t,e=>by
  rw[A02]at e;obtain⟨b,h1,h2⟩:=t.get e;exact⟨b,by rw[A02];exact h1,h2⟩
theorem AllTwo.mem {α β:Type}{R:α->β->Prop}:∀ {l:List α}{r:List β},AllTwo R l r->∀b∈r,∃a∈l,R a b
 |_,_,.nil,b,h=>by cases h
 |_,_,.cons h t,b,hb=>by
  rcases W9.1 hb with rfl|hb
  ·exact⟨_,O4,h⟩
  ·obtain⟨a,h1,h2⟩:=t.mem b hb
   exact⟨a,Z4 _ h1,h2⟩
section
variable {its g:List Itm}
end
mutual
theorem A5o (its:List Itm) (at_:Int) (sc:List Lc) (un:Nat):∀(e:Ex) (s:FW),(exF its at_ sc un e s).1=A1e its sc e
 | .mk k nm n args f t,s=>by
  rw[exF,A1e];split
  ·rfl
  ·split
   ·exact B7W its at_ sc un args 0 s
   ·split<;>rfl
theorem B7W (its:List Itm) (at_:Int) (sc:List Lc) (un:Nat):∀(l:List Ex) (n:Nat) (s:FW),(A3J its at_ sc un l n s).1=A0Y its sc l n
 | [],n,s=>by rw[A3J,A0Y]
 |e::l,n,s=>by rw[A3J,A0Y,A5o its at_ sc un e s];exact B7W its at_ sc un l _ _
end
section
variable {its g:List Itm}
end
theorem D1Q (a b:Nat):a|||(a|||b)=a|||b:=by rw[<-Nat.or_assoc,Nat.or_self]
section
variable {its g:List Itm}{L:Nat->Prop}{o:Lab}
end
theorem A7z {α β:Type}{a b:List α}{c d:List β} (h:a.length=c.length) (g:b.length=d.length):(a++b).length=(c++d).length:=by rw[D9,D9,h,g]
abbrev plI (its:List Itm):List Itm:=its.map Itm.pl
section
variable (its:List Itm)
theorem A9v (j:Nat):X7 (plI its) j=(X7 its j).pl:=by
 rw[X7,X7,N9,N9,Y6];cases its[j]? <;>rfl
theorem A7U:A0M (plI its)=A0M its:=by
 funext k n
 rw[A0M,A0M,List.findIdx?_map]
 rfl
theorem D13 (F G:Itm->Bool) (h:∀it,F it.pl=G it):∀(l:List Itm) (i:Nat),((plI l).take i).any F=(l.take i).any G
 | [],i=>by simp
 |x::l,0=>rfl
 |x::l,i+1=>by
  rw[plI,U4,A09,A09,List.any_cons,List.any_cons,h, <-plI,D13 F G h l i]
theorem B7n (n:List UInt8):∀(a b:List Lc),a.map (·.name)=b.map (·.name)->(A1u a n).isSome=(A1u b n).isSome
 | [],[],_=>rfl
 | [],_::_,h=>by cases h
 |_::_,[],h=>by cases h
 |x::a,y::b,h=>by
  rw[U4,U4]at h;injection h with h1 h2
  have ih:=B7n n a b h2;rw[A1u,A1u];cases ha:A1u a n with
  |some u=>
   rw[ha]at ih;cases hb:A1u b n with
   |some v=>rfl
   |none=>rw[hb]at ih;cases ih
  |none=>
   rw[ha]at ih;cases hb:A1u b n with
   |some v=>rw[hb]at ih;cases ih
   |none=>
    dsimp only
    rw[h1];split<;>rfl
def A7q (a b:NW):Prop:=a.ds.length=b.ds.length
def B2i (a b:List Lc):Prop:=a.map (·.name)=b.map (·.name)
theorem B0q {a b:NW} (h:A7q a b) (p q e e':Nat) (n m:List UInt8):A7q (a.tell p e n) (b.tell q e' m):=A7z h rfl
theorem C28 {sc sc':List Lc} (hs:B2i sc sc') (b b':Int) (p q:Nat) (n:List UInt8) {s s':NW} (h:A7q s s'):A7q (A8i b sc p n s) (A8i b' sc' q n s'):=by
 have:=B7n n sc sc' hs;rw[A8i,A8i];cases ha:A1u sc n with
 |some u=>
  rw[ha]at this;cases hb:A1u sc' n with
  |some v=>exact h
  |none=>rw[hb]at this;cases this
 |none=>
  rw[ha]at this;cases hb:A1u sc' n with
  |some v=>rw[hb]at this;cases this
  |none=>
   dsimp only
   split
   ·exact h
   ·exact B0q h _ _ _ _ _ _
theorem B16 (b b':Int) (k:Int) (p q:Nat) (n:List UInt8) {s s':NW} (h:A7q s s'):A7q (A5Y (plI its) b k p n s) (A5Y its b' k q n s'):=by
 rw[A5Y,A5Y,A7U];split
 ·exact h
 ·split
  ·exact h
  ·exact B0q h _ _ _ _ _ _
theorem C8h (b b':Int) (p q:Nat) (n:List UInt8) (m:Nat) {s s':NW} (h:A7q s s'):A7q (A5x (plI its) b p n m s) (A5x its b' q n m s'):=by
 rw[A5x,A5x,A7U];split
 ·rename_i j _
  rw[A9v];show A7q (if ((X7 its j).params.map Par.pl).length≠m then _ else _) _
  rw[P7];split
  ·exact B0q (B16 its b b' 2 p q n h) _ _ _ _ _ _
  ·exact B16 its b b' 2 p q n h
 ·exact B16 its b b' 2 p q n h
theorem C7o (n:List UInt8) (p q:Nat) {sc sc':List Lc} (hs:B2i sc sc') {s s':NW} (h:A7q s s'):B2i (mkN n p sc s).1 (mkN n q sc' s').1/\A7q (mkN n p sc s).2 (mkN n q sc' s').2:=by
 have:=B7n n sc sc' hs;rw[mkN,mkN];split
 ·exact⟨hs,h⟩
 ·refine⟨?_,?_⟩
  ·show (sc++ [_]).map _=(sc'++ [_]).map _
   rw[V5,V5,hs];rfl
  ·dsimp only
   cases ha:A1u sc n with
   |some u=>
    rw[ha]at this;cases hb:A1u sc' n with
    |some v=>exact B0q h _ _ _ _ _ _
    |none=>rw[hb]at this;cases this
   |none=>
    rw[ha]at this;cases hb:A1u sc' n with
    |some v=>rw[hb]at this;cases this
    |none=>exact h
mutual
theorem C6W (b b':Int) {sc sc':List Lc} (hs:B2i sc sc'):∀(e:Ex) {s s':NW},A7q s s'->A7q (exN (plI its) b sc e.pl s) (exN its b' sc' e s')
 | .mk k nm n args f t,s,s',h=>by
  rw[Ex.pl,exN,exN];refine C2v b b' hs args ?_
  rw[A8z];split
  ·exact C28 hs _ _ _ _ _ h
  ·split
   ·exact C8h its _ _ _ _ _ _ h
   ·exact h
theorem C2v (b b':Int) {sc sc':List Lc} (hs:B2i sc sc'):∀(l:List Ex) {s s':NW},A7q s s'->A7q (A5t (plI its) b sc (A1q l) s) (A5t its b' sc' l s')
 | [],s,s',h=>by rw[A1q,A5t,A5t];exact h
 |e::l,s,s',h=>by
  rw[A1q,A5t,A5t];exact C2v b b' hs l (C6W b b' hs e h)
end
mutual
theorem D2D (b b':Int):∀(x:Stm) {sc sc':List Lc}{s s':NW},B2i sc sc'->A7q s s'->B2i (A57 (plI its) b x.pl sc s).1 (A57 its b' x sc' s').1/\A7q (A57 (plI its) b x.pl sc s).2 (A57 its b' x sc' s').2
 | .mk k nm a lb o e thn els f t,sc,sc',s,s',hs,h=>by
  have he:=C6W its b b' hs e h;rw[Stm.pl,A57,A57];split
  ·exact C7o nm _ _ hs he
  ·split
   ·exact⟨hs,C28 hs _ _ _ _ _ he⟩
   ·split
    ·exact⟨hs,B16 its _ _ _ _ _ _ he⟩
    ·split
     ·exact⟨hs,(B2S b b' els hs (B2S b b' thn hs he).2).2⟩
     ·exact⟨hs,he⟩
theorem B2S (b b':Int):∀(l:List Stm) {sc sc':List Lc}{s s':NW},B2i sc sc'->A7q s s'->B2i (A1w (plI its) b (plL l) sc s).1 (A1w its b' l sc' s').1/\A7q (A1w (plI its) b (plL l) sc s).2 (A1w its b' l sc' s').2
 | [],sc,sc',s,s',hs,h=>by rw[plL,A1w,A1w];exact⟨hs,h⟩
 |x::l,sc,sc',s,s',hs,h=>by
  rw[plL,A1w,A1w];have h1:=D2D b b' x hs h;exact B2S b b' l h1.1 h1.2
end
theorem C3C:∀(l:List Par) {sc sc':List Lc}{s s':NW},B2i sc sc'->A7q s s'->B2i (A34 (l.map Par.pl) sc s).1 (A34 l sc' s').1/\A7q (A34 (l.map Par.pl) sc s).2 (A34 l sc' s').2
 | [],sc,sc',s,s',hs,h=>⟨hs,h⟩
 |p::l,sc,sc',s,s',hs,h=>by
  rw[U4,A34,A34];have h1:=C7o p.name 0 p.at_ hs h;exact C3C l h1.1 h1.2
theorem C3S (b b':Int):∀(l:List Rf) (dn:List Rf) {s s':NW},A7q s s'->A7q (A6P (plI its) b (dn.map Rf.pl) (l.map Rf.pl) s) (A6P its b' dn l s')
 | [],dn,s,s',h=>h
 |c::l,dn,s,s',h=>by
  rw[U4,A6P,A6P];have h1:A7q (A56 (plI its) b (dn.map Rf.pl) c.pl s) (A56 its b' dn c s'):=by
   rw[A56,A56,List.any_map];have e:((fun x:Rf=>decide (x.name=c.pl.name)) ∘ Rf.pl)=fun x:Rf=>decide (x.name=c.name):=rfl
   rw[e,show c.pl.name=c.name from rfl];have h2:=B16 its b b' 1 c.pl.at_ c.at_ c.name h;split
   ·exact B0q h2 _ _ _ _ _ _
   ·exact h2
  have h3:=C3S b b' l (dn++ [c]) h1;rw[V5]at h3;exact h3
theorem D2N (i:Nat) (it:Itm):A8p (plI its) i it.pl=A8p its i it:=by
 rw[A8p,A8p,D13 _ (fun x=>decide (x.kind=it.kind) && decide (x.name=it.name)) (fun _=>rfl)]
 rfl
theorem C0d (i:Nat):A7q (A3x (plI its) i) (A3x its i):=by
 have h0:A7q (if A8p (plI its) i (X7 its i).pl=true then NW0.tell (X7 its i).pl.mark 7 (X7 its i).pl.name else NW0) (if A8p its i (X7 its i)=true then NW0.tell (X7 its i).mark 7 (X7 its i).name else NW0):=by
  rw[D2N];split
  ·exact B0q rfl _ _ _ _ _ _
  ·rfl
 rw[A3x,A3x,A9v];show A7q (if (X7 its i).kind=2 then _ else _) _
 split
 ·rw[fnN,fnN]
  have h1:=C3C (X7 its i).params (sc:= []) (sc':= []) rfl h0;have h2:=C3S its (X7 its i).pl.at_ (X7 its i).at_ (X7 its i).sends [] h1.2;exact(B2S its _ _ (X7 its i).body h1.1 h2).2
 ·exact h0
mutual
theorem D0w:∀(e:Ex) (c:List Nm),exE e.pl c=exE e c
 | .mk k nm n args f t,c=>by rw[Ex.pl,exE,exE,C6Z args]
theorem C6Z:∀(l:List Ex) (c:List Nm),A64 (A1q l) c=A64 l c
 | [],c=>by rw[A1q]
 |e::l,c=>by rw[A1q,A64,A64,D0w e,C6Z l]
end
mutual
theorem D40:∀(x:Stm) (q:List Nm×List Nm),B0n x.pl q=B0n x q
 | .mk k nm a lb o e thn els f t,q=>by rw[Stm.pl,B0n,B0n,D0w,B4z thn,B4z els]
theorem B4z:∀(l:List Stm) (q:List Nm×List Nm),A2w (plL l) q=A2w l q
 | [],q=>by rw[plL]
 |x::l,q=>by rw[plL,A2w,A2w,D40 x,B4z l]
end
theorem C7v (it:Itm):A9Q it.pl=A9Q it:=B4z it.body _
theorem D04:A70 (plI its)=A70 its:=by
 funext i
 rw[A70,A70,A9v,C7v];rfl
theorem C8i:A4J (plI its)=A4J its:=by
 funext i
 rw[A4J,A4J,A9v,C7v,A9L,A9L,A7U];rfl
theorem C8E:A5u (plI its)=A5u its:=by rw[A5u,A5u,D04,P7]
theorem C9q:A35 (plI its)=A35 its:=by
 have h:A3T (plI its)=A3T its:=by
  funext r i
  rw[A3T,A3T,B4u,B4u,C8i]
 funext r
 rw[A35,A35,h,P7]
theorem C2U:∀(n:Nat) (r:List (List Nm)),A5z (plI its) n r=A5z its n r
 |0,r=>rfl
 |n+1,r=>by rw[A5z,A5z,C9q,C2U n]
theorem C6U (i:Nat):A91 (plI its) i=A91 its i:=by
 have h:B0l (X7 its i).pl=B0l (X7 its i):=by
  funext c
  rw[B0l,B0l];show ((X7 its i).sends.map Rf.pl).any _=_
  rw[List.any_map];rfl
 rw[A91,A91,B1K,B1K,A9V,A9V,C2U,A4S,A4S,C8E,P7,A9v,h]
theorem C4C (n:List UInt8):A21 (plI its) n=A21 its n:=by
 rw[A21,A21,A7U];split
 ·rw[A9v];rfl
 ·rfl
theorem D1m (l:List Rf):A43 (plI its) (l.map Rf.pl)=A43 its l:=by
 rw[A43,A43,List.foldl_map]
 congr 1
 funext n x
 rw[A7d,A7d,A7U,show x.pl.name=x.name from rfl];cases A0M its 1 x.name with
 |none=>rfl
 |some j=>
  show n &&& (X7 (plI its) j).label=_
  rw[A9v];rfl
mutual
theorem B2J (sc:List Lc):∀(e:Ex),A1e (plI its) sc e.pl=A1e its sc e
 | .mk k nm n args f t=>by rw[Ex.pl,A1e,A1e,C4C,B76 sc args]
theorem B76 (sc:List Lc):∀(l:List Ex) (n:Nat),A0Y (plI its) sc (A1q l) n=A0Y its sc l n
 | [],n=>by rw[A1q,A0Y,A0Y]
 |e::l,n=>by rw[A1q,A0Y,A0Y,B2J sc e,B76 sc l]
end
def A7w (a b:FW):Prop:=a.ds.length=b.ds.length
theorem B2r {s s':FW} (h:A7w s s') (a b f t f' t':Nat) (n m:List UInt8):A7w (s.ask a b f t n) (s'.ask a b f' t' m):=by
 rw[FW.ask,FW.ask];split
 ·exact h
 ·exact A7z h rfl
theorem B6v {s s':FW} (h:A7w s s') (x y:Int) (f t n f' t' n':Nat):A7w (s.hit x f t n) (s'.hit y f' t' n'):=by
 rw[A7w,A6g,A6g];exact h
theorem C0n {s s':FW} (h:A7w s s') (un:Nat) (n:List UInt8) (f t f' t':Nat):A7w (A3c (plI its) un n f t s) (A3c its un n f' t' s'):=by
 rw[A3c,A3c,A7U];split
 ·rw[A9v]
  show A7w (s.ask un (A43 (plI its) ((X7 its _).sends.map Rf.pl)) f t n) _
  rw[D1m];exact B2r h _ _ _ _ _ _ _ _
 ·exact h
theorem C4v {s s':FW} (h:A7w s s') (n:List UInt8) (i a f t f' t':Nat):A7w (A6f (plI its) n i a f t s) (A6f its n i a f' t' s'):=by
 rw[A6f,A6f,A7U];split
 ·rename_i j _
  rw[A9v];show A7w (match ((X7 its j).params.map Par.pl)[i]? with|some p=>_|none=>_) _
  rw[Y6];cases (X7 its j).params[i]? with
  |some p=>exact B2r h _ _ _ _ _ _ _ _
  |none=>exact h
 ·exact h
theorem C8d {s s':FW} (h:A7w s s') (a:Nat) (n:List UInt8) (f t f' t':Nat):A7w (A8I (plI its) a n f t s) (A8I its a n f' t' s'):=by
 rw[A8I,A8I,A7U];split
 ·rw[A9v];exact B2r h _ _ _ _ _ _ _ _
 ·exact h
mutual
theorem C0x (x y:Int) (sc:List Lc) (un:Nat):∀(e:Ex) {s s':FW},A7w s s'->A7w (exF (plI its) x sc un e.pl s).2 (exF its y sc un e s').2
 | .mk k nm n args f t,s,s',h=>by
  rw[Ex.pl,exF,exF];split
  ·exact B6v h _ _ _ _ _ _ _ _
  ·split
   ·exact B6v (C3r x y sc un args 0 0 h) _ _ _ _ _ _ _ _
   ·split
    ·exact B6v (C0n its (B8Z x y sc un nm args 0 h) _ _ _ _ _ _) _ _ _ _ _ _ _ _
    ·exact B6v h _ _ _ _ _ _ _ _
theorem C3r (x y:Int) (sc:List Lc) (un:Nat):∀(l:List Ex) (n m:Nat) {s s':FW},A7w s s'->A7w (A3J (plI its) x sc un (A1q l) n s).2 (A3J its y sc un l m s').2
 | [],n,m,s,s',h=>by rw[A1q,A3J,A3J];exact h
 |e::l,n,m,s,s',h=>by
  rw[A1q,A3J,A3J];exact C3r x y sc un l _ _ (C0x x y sc un e h)
theorem B8Z (x y:Int) (sc:List Lc) (un:Nat) (nm:List UInt8):∀(l:List Ex) (i:Nat) {s s':FW},A7w s s'->A7w (A2Z (plI its) x sc un nm (A1q l) i s) (A2Z its y sc un nm l i s')
 | [],i,s,s',h=>by rw[A1q,A2Z,A2Z];exact h
 |e::l,i,s,s',h=>by
  rw[A1q,A2Z,A2Z];refine B8Z x y sc un nm l (i+1) ?_
  rw[A5o,A5o,B2J];exact C4v its (C0x x y sc un e h) _ _ _ _ _ _ _
end
mutual
theorem D2B (own:Nat) (p q:Int):∀(x:Stm) (sc:List Lc) (un:Nat) {s s':FW},A7w s s'->(A6l (plI its) own p x.pl sc un s).1=(A6l its own q x sc un s').1/\A7w (A6l (plI its) own p x.pl sc un s).2 (A6l its own q x sc un s').2
 | .mk k nm a lb o e thn els f t,sc,un,s,s',h=>by
  rw[Stm.pl,A6l,A6l];try dsimp only
  rw[A5o,A5o,B2J,show unF (plI its) sc k un e.pl=unF its sc k un e by rw[unF,unF,B2J]];have he:=C0x its p q sc (unF its sc k un e) e h;split
  ·exact⟨rfl,B2r he _ _ _ _ _ _ _ _⟩
  ·split
   ·exact⟨rfl,B2r he _ _ _ _ _ _ _ _⟩
   ·split
    ·exact⟨rfl,C8d its he _ _ _ _ _ _⟩
    ·split
     ·exact⟨rfl,B2r he _ _ _ _ _ _ _ _⟩
     ·split
      ·exact⟨rfl,(B2R own p q els sc _ (B2R own p q thn sc _ he).2).2⟩
      ·exact⟨rfl,he⟩
theorem B2R (own:Nat) (p q:Int):∀(l:List Stm) (sc:List Lc) (un:Nat) {s s':FW},A7w s s'->(A1C (plI its) own p (plL l) sc un s).1=(A1C its own q l sc un s').1/\A7w (A1C (plI its) own p (plL l) sc un s).2 (A1C its own q l sc un s').2
 | [],sc,un,s,s',h=>by rw[plL,A1C,A1C];exact⟨rfl,h⟩
 |x::l,sc,un,s,s',h=>by
  rw[plL,A1C,A1C];have h1:=D2B own p q x sc un h;rw[h1.1];exact B2R own p q l _ _ h1.2
end
theorem B63 (i:Nat) (p q:Int):A7w (A2J (plI its) i p) (A2J its i q):=by
 rw[A2J,A2J,A9v];show A7w (if (X7 its i).kind=2 then _ else _) _
 split
 ·have h:A44 ((X7 its i).params.map Par.pl)=A44 (X7 its i).params:=by rw[A44,A44,A3s];rfl
  show A7w (A1C (plI its) (X7 its i).label p (plL (X7 its i).body) (A44 ((X7 its i).params.map Par.pl)) 0 FW0).2 _
  rw[h];exact(B2R its _ _ _ _ _ _ rfl).2
 ·rfl
theorem B5y:A8k (plI its)↔A8k its:=by
 have key:∀i,(A2J (plI its) i (-1)).ds= []↔(A2J its i (-1)).ds= []:=fun i=>by
  have:=B63 its i (-1) (-1);rw[A7w]at this;rw[<-List.length_eq_zero_iff,this,List.length_eq_zero_iff]
 rw[A8k,A8k,P7];exact⟨fun h i hi=>(key i).1 (h i hi),fun h i hi=>(key i).2 (h i hi)⟩
end
theorem D0V (s:FW) (f t:Nat) (n:List UInt8):(s.tell f t n).ds≠ []:=by simp[FW.tell]
theorem B4Z {s:FW}{a b f t:Nat}{n:List UInt8} (h:(s.ask a b f t n).ds= []):s.ds= []/\A1i a b=true:=by
 rw[FW.ask]at h;split at h
 ·rename_i hf;exact⟨h,hf⟩
 ·exact absurd h (D0V _ _ _ _)
def A4I (its:List Itm) (sc:List Lc) (un:Nat) (nm:List UInt8):List Ex->Nat->Prop
 | [],_=>True
 |e::es,i=>(∀j p,A0M its 2 nm=some j->(X7 its j).params[i]?=some p->A1i (A1e its sc e|||un) p.label=true)/\A4I its sc un nm es (i+1)
mutual
def A8K (its:List Itm) (sc:List Lc) (un:Nat):Ex->Prop
 | .mk k nm _ args _ _=>(k=3->A37 its sc un args)/\(k≠2->k≠3->k=4->A37 its sc un args/\A4I its sc un nm args 0/\∀j,A0M its 2 nm=some j->A1i un (A43 its (X7 its j).sends)=true)
def A37 (its:List Itm) (sc:List Lc) (un:Nat):List Ex->Prop
 | []=>True
 |e::es=>A8K its sc un e/\A37 its sc un es
 end
theorem D59 {its:List Itm}{n:List UInt8}{i a f t:Nat}{s:FW} (h:(A6f its n i a f t s).ds= []):s.ds= []/\∀j p,A0M its 2 n=some j->(X7 its j).params[i]?=some p->A1i a p.label=true:=by
 rw[A6f]at h;split at h
 ·rename_i j hj
  split at h
  ·rename_i p hp
   have:=B4Z h;refine⟨this.1,fun j' p' h1 h2=>?_⟩
   rw[hj]at h1;obtain rfl:=Z8 h1;rw[hp]at h2;obtain rfl:=Z8 h2;exact this.2
  ·rename_i hp
   refine⟨h,fun j' p' h1 h2=>?_⟩
   rw[hj]at h1;obtain rfl:=Z8 h1;rw[hp]at h2;cases h2
 ·rename_i hj
  exact⟨h,fun j' p' h1 _=>by rw[hj]at h1;cases h1⟩
theorem D0R {its:List Itm}{un:Nat}{n:List UInt8}{f t:Nat}{s:FW} (h:(A3c its un n f t s).ds= []):s.ds= []/\∀j,A0M its 2 n=some j->A1i un (A43 its (X7 its j).sends)=true:=by
 rw[A3c]at h;split at h
 ·rename_i j hj
  have:=B4Z h;refine⟨this.1,fun j' h1=>?_⟩
  rw[hj]at h1;obtain rfl:=Z8 h1;exact this.2
 ·rename_i hj
  exact⟨h,fun j' h1=>by rw[hj]at h1;cases h1⟩
theorem D7P {its:List Itm}{a:Nat}{n:List UInt8}{f t:Nat}{s:FW} (h:(A8I its a n f t s).ds= []):s.ds= []/\∀j,A0M its 1 n=some j->A1i a (X7 its j).label=true:=by
 rw[A8I]at h;split at h
 ·rename_i j hj
  have:=B4Z h;refine⟨this.1,fun j' h1=>?_⟩
  rw[hj]at h1;obtain rfl:=Z8 h1;exact this.2
 ·rename_i hj
  exact⟨h,fun j' h1=>by rw[hj]at h1;cases h1⟩
mutual
theorem A6V {its:List Itm}{at_:Int}{sc:List Lc}{un:Nat}:∀(e:Ex) {s:FW},(exF its at_ sc un e s).2.ds= []->s.ds= []/\A8K its sc un e
 | .mk k nm n args f t,s,h=>by
  rw[exF]at h;rw[A8K];by_cases k2:k=2
  ·rw[if_pos k2]at h
   dsimp only at h;rw[A6g]at h;exact⟨h,fun h3=>by omega,fun h2=>absurd k2 h2⟩
  rw[if_neg k2]at h;by_cases k3:k=3
  ·rw[if_pos k3]at h
   dsimp only at h;rw[A6g]at h;have:=B7V args h;exact⟨this.1,fun _=>this.2,fun _ h3=>absurd k3 h3⟩
  rw[if_neg k3]at h;by_cases k4:k=4
  ·rw[if_pos k4]at h
   dsimp only at h;rw[A6g]at h;obtain⟨h1,h2⟩:=D0R h;obtain⟨h3,h4,h5⟩:=B5G args 0 h1;exact⟨h3,fun h3=>absurd h3 k3,fun _ _ _=>⟨h4,h5,h2⟩⟩
  ·rw[if_neg k4]at h
   dsimp only at h;rw[A6g]at h;exact⟨h,fun h3=>absurd h3 k3,fun _ _ h4=>absurd h4 k4⟩
theorem B7V {its:List Itm}{at_:Int}{sc:List Lc}{un:Nat}:∀(l:List Ex) {n:Nat}{s:FW},(A3J its at_ sc un l n s).2.ds= []->s.ds= []/\A37 its sc un l
 | [],n,s,h=>by rw[A3J]at h;rw[A37];exact⟨h,trivial⟩
 |e::l,n,s,h=>by
  rw[A3J]at h;rw[A37];have h1:=B7V l h;have h2:=A6V e h1.1;exact⟨h2.1,h2.2,h1.2⟩
theorem B5G {its:List Itm}{at_:Int}{sc:List Lc}{un:Nat}{nm:List UInt8}:∀(l:List Ex) (i:Nat) {s:FW},(A2Z its at_ sc un nm l i s).ds= []->s.ds= []/\A37 its sc un l/\A4I its sc un nm l i
 | [],i,s,h=>by rw[A2Z]at h;rw[A37,A4I];exact⟨h,trivial,trivial⟩
 |e::l,i,s,h=>by
  rw[A2Z]at h;rw[A37,A4I];obtain⟨h1,h2,h3⟩:=B5G l (i+1) h;obtain⟨h4,h5⟩:=D59 h1;obtain⟨h6,h7⟩:=A6V e h4;rw[A5o]at h5;exact⟨h6,⟨h7,h2⟩,h5,h3⟩
 end
def A72 (its:List Itm) (sc:List Lc) (k un:Nat) (e:Ex):Nat:=A1e its sc e|||unF its sc k un e
def scF (its:List Itm) (x:Stm) (sc:List Lc) (un:Nat):List Lc:=if x.kind=1 then sc++ [⟨x.name,if x.opn=true then A72 its sc x.kind un x.e else x.label⟩] else sc
mutual
def A45 (its:List Itm) (own:Nat):Stm->List Lc->Nat->Prop
 | .mk k nm _ lb o e thn els _ _,sc,un=>
  A8K its sc (unF its sc k un e) e/\(k=1->A1i (A72 its sc k un e) (if o=true then A72 its sc k un e else lb)=true)/\(k=2->A1i (A72 its sc k un e) (A65 sc nm)=true)/\
  (k=5->∀j,A0M its 1 nm=some j->A1i (A72 its sc k un e) (X7 its j).label=true)/\(k=6->A1i (A72 its sc k un e) own=true)/\
  (k=3\/k=4->A1M its own thn sc (A72 its sc k un e)/\A1M its own els sc (A72 its sc k un e))
def A1M (its:List Itm) (own:Nat):List Stm->List Lc->Nat->Prop
 | [],_,_=>True
 |x::xs,sc,un=>A45 its own x sc un/\A1M its own xs (scF its x sc un) un
 end
theorem C7S (its:List Itm) (own:Nat) (at_:Int) (x:Stm) (sc:List Lc) (un:Nat) (s:FW):(A6l its own at_ x sc un s).1=scF its x sc un:=by
 cases x with
 |mk k nm a lb o e thn els f t=>
  rw[A6l];try dsimp only
  rw[A5o];show _=if k=1 then sc++ [⟨nm,if o=true then A72 its sc k un e else lb⟩] else sc
  by_cases k1:k=1
  ·rw[if_pos k1,if_pos k1];rfl
  ·rw[if_neg k1,if_neg k1]
   split
   ·rfl
   ·split
    ·rfl
    ·split
     ·rfl
     ·split<;>rfl
mutual
theorem C59 {its:List Itm}{own:Nat}{at_:Int}:∀(x:Stm) {sc:List Lc}{un:Nat}{s:FW},(A6l its own at_ x sc un s).2.ds= []->s.ds= []/\A45 its own x sc un
 | .mk k nm a lb o e thn els f t,sc,un,s,h=>by
  rw[A6l]at h;rw[A45];try dsimp only at h
  rw[A5o]at h;rw[show A1e its sc e|||unF its sc k un e=A72 its sc k un e from rfl]at h;by_cases k1:k=1
  ·rw[if_pos k1]at h
   obtain⟨h1,h2⟩:=B4Z h;obtain⟨h3,h4⟩:=A6V e h1;exact⟨h3,h4,fun _=>h2,fun h=>by omega,fun h=>by omega,fun h=>by omega,fun h=>by omega⟩
  rw[if_neg k1]at h;by_cases k2:k=2
  ·rw[if_pos k2]at h
   obtain⟨h1,h2⟩:=B4Z h;obtain⟨h3,h4⟩:=A6V e h1;exact⟨h3,h4,fun h=>by omega,fun _=>h2,fun h=>by omega,fun h=>by omega,fun h=>by omega⟩
  rw[if_neg k2]at h;by_cases k5:k=5
  ·rw[if_pos k5]at h
   obtain⟨h1,h2⟩:=D7P h;obtain⟨h3,h4⟩:=A6V e h1;exact⟨h3,h4,fun h=>by omega,fun h=>by omega,fun _=>h2,fun h=>by omega,fun h=>by omega⟩
  rw[if_neg k5]at h;by_cases k6:k=6
  ·rw[if_pos k6]at h
   obtain⟨h1,h2⟩:=B4Z h;obtain⟨h3,h4⟩:=A6V e h1;exact⟨h3,h4,fun h=>by omega,fun h=>by omega,fun h=>by omega,fun _=>h2,fun h=>by omega⟩
  rw[if_neg k6]at h;by_cases k34:k=3\/k=4
  ·rw[if_pos k34]at h
   obtain⟨h1,h2⟩:=A8e els h;obtain⟨h3,h4⟩:=A8e thn h1;obtain⟨h5,h6⟩:=A6V e h3;exact⟨h5,h6,fun h=>by omega,fun h=>by omega,fun h=>by omega,fun h=>by omega,fun _=>⟨h4,h2⟩⟩
  ·rw[if_neg k34]at h
   obtain⟨h3,h4⟩:=A6V e h;exact⟨h3,h4,fun h=>by omega,fun h=>by omega,fun h=>by omega,fun h=>by omega,fun h=>absurd h k34⟩
theorem A8e {its:List Itm}{own:Nat}{at_:Int}:∀(l:List Stm) {sc:List Lc}{un:Nat}{s:FW},(A1C its own at_ l sc un s).2.ds= []->s.ds= []/\A1M its own l sc un
 | [],sc,un,s,h=>by rw[A1C]at h;rw[A1M];exact⟨h,trivial⟩
 |x::l,sc,un,s,h=>by
  rw[A1C]at h;rw[A1M];obtain⟨h1,h2⟩:=A8e l h;obtain⟨h3,h4⟩:=C59 x h1;rw[C7S]at h2;exact⟨h3,h4,h2⟩
 end
end Go.Sp
namespace Go.Proofs
open Go.Proofs.Tryz
open Go.Sp
open Go.Fw
theorem C0q (a:Int) (w:World):Cal prog 36 #[.int .i64 a] w fun v w'=>v=.bool (decide (0<=a/\a<=255))/\w'=w:=by
 refine enter (N:=9) func36 rfl [(0,.int .i64 a)] A0Z rfl ?_
 repeat' (first|refine D8 ?_|refine D6 ?_|refine O0 ?_|refine N7 ?_|refine A82 ?_|refine A11 ?_|refine A0z ?_|(refine O3 (h1:=fun _=>?_) (h0:=fun _=>?_)<;>try first|contradiction|omega)|refine E5 ?_|refine A7 ?_|refine E8 ?_|refine A8 ?_|refine J3 ?_|refine J7 ?_)
 all_goals (refine⟨congrArg Value.bool ?_,rfl⟩;rw[A06];simp;omega)
theorem B34 (a b:Nat) (ha:a<256) (hb:b<256) (w:World):Cal prog 22 #[.int .i64 a,.int .i64 b] w fun v w'=>v=.bool (A1i a b)/\w'=w:=by
 refine enter (N:=9) func22 rfl [(0,.int .i64 a),(1,.int .i64 b)] A1x rfl ?_
 repeat' (first|refine D8 ?_|refine D6 ?_|refine O6 ?_|refine C89 ?_|refine E5 ?_|refine A7 ?_|refine E8 ?_|refine A8 ?_|refine J3 ?_|refine J7 ?_)
 refine⟨congrArg Value.bool ?_,rfl⟩
 rw[A06,decide_eq_true_eq,A1R,A1R, <-C1U ha hb];omega
theorem A9I (a b:Nat) (ha:a<256) (hb:b<256) (w:World):Cal prog 78 #[.int .i64 a,.int .i64 b] w fun v w'=>v=.int .i64 ((a|||b:Nat):Int)/\w'=w:=by
 refine enter (N:=8) func78 rfl [(0,.int .i64 a),(1,.int .i64 b)] A1x rfl ?_
 repeat' (first|refine D8 ?_|refine D6 ?_|refine C3p ?_|refine E5 ?_|refine A7 ?_|refine E8 ?_|refine A8 ?_|refine J3 ?_|refine J7 ?_)
 exact⟨rfl,rfl⟩
theorem D6b (a b:Nat) (ha:a<256) (hb:b<256) (w:World):Cal prog 140 #[.int .i64 a,.int .i64 b] w fun v w'=>v=.int .i64 ((a &&& b:Nat):Int)/\w'=w:=by
 refine enter (N:=8) func140 rfl [(0,.int .i64 a),(1,.int .i64 b)] A1x rfl ?_
 repeat' (first|refine D8 ?_|refine D6 ?_|refine C00 ?_|refine E5 ?_|refine A7 ?_|refine E8 ?_|refine A8 ?_|refine J3 ?_|refine J7 ?_)
 exact⟨rfl,rfl⟩
structure OpenZ (zs:A1U) (o:Sp.Lab):Prop where
 nodup:(zs.map (·.1)).Nodup
 get:∀n:Nat,A8Z zs (n:Int) (.int .i64 0)=nt (o n)
theorem OpenZ.nil:OpenZ [] (fun _=>0):=⟨A76,fun _=>rfl⟩
theorem OpenZ.put {zs:A1U}{o:Sp.Lab} (h:OpenZ zs o) (f n:Nat):OpenZ (A4A zs (f:Int) (nt n)) (Sp.upL o f n):=by
 refine⟨B5V h.nodup,fun m=>?_⟩
 have hg:=h.get m;show (B1A (A4A zs (f:Int) (nt n)) (m:Int)).getD _=nt (if m=f then n else o m)
 rw[C5r _ h.nodup];by_cases e:m=f
 ·subst e;rw[if_pos rfl,if_pos rfl];rfl
 ·rw[if_neg (fun h=>e (by omega)),if_neg e];exact hg
abbrev Loc:=Sp.Li×Value
abbrev A6c (o:Sp.Lab) (p:Loc):List Value:= [str p.1.name,nt (p.1.val o),p.2]
def C8a (J:P8) (v:Value) (op:Option Nat):Prop:=(v=.pointer none/\op=none)\/
 ∃(b off tc ec:Nat) (y:Sp.Stm) (ea:Option Addr) (v1 v2:Value),v=.pointer (some ⟨b,off,none⟩)/\PtrI J b off tc (A2H y.kind y.name y.at_ y.label y.opn y.e ea ec v1 v2 y.fr y.to)/\op=A8t y.opn y.fr
theorem C8a.le {J J':P8}{v:Value}{op:Option Nat} (h:C8a J v op) (m:Le J J'):C8a J' v op:=by
 rcases h with h|⟨b,off,tc,ec,y,ea,v1,v2,h1,h2,h3⟩
 ·exact .inl h
 ·exact .inr ⟨b,off,tc,ec,y,ea,v1,v2,h1,h2.le m,h3⟩
section
variable {bd bf sp bo:Nat}{sc:List Loc}{o:Sp.Lab}{more:Bool}{sa:Option Addr}{zs:A1U}
end
section
variable {bd bf sp bo:Nat}{sc:List Loc}{o:Sp.Lab}{more:Bool}{sa:Option Addr}{zs:A1U}{its:List Sp.Itm}{a:Option Addr}{cp:Nat}{xs:List Value}
end
section
variable {bd bf bo:Nat}{its:List Sp.Itm}{a:Option Addr}{cp:Nat}{xs:List Value}
end
abbrev InT (bd bf:Nat) (sc:List Loc) (o:Sp.Lab) (more:Bool) (sa:Option Addr) (sp bo:Nat) (zs:A1U) (T:List HItem):List HItem:=
 .cell bd [ptr bf,.slice sa sc.length sp,.map (some bo),.bool more] 119:: .row (.slice sa sc.length sp) 122 3 sc.length (sc.flatMap (A6c o)):: .mz bo zs::T
end Go.Proofs
